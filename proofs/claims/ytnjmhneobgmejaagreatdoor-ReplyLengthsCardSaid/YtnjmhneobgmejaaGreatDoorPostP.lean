/- The tables and the two errors out of what a row lists; a world for a witness. No condition. -/
import Derived.Test.YtnjmhneobgmejaaGreatDoorPost
import Derived.Test.YtnjmhneobgmejaaGreatDoorParse
import Derived.Stop.LaidErr
import Derived.Deep.DeepWitnessRowRef
import GoSem.PinnedTables
namespace Go.Proofs.YtnjmhneobgmejaaGreatDoor
open Go.ChangeShapes Go.WideShapes Go.ChangeAt Go.RowKit

theorem gESType : (Tryz.prog.globals[3]?).map (·.type) = some 74 := by kernel_rfl
theorem gERType : (Tryz.prog.globals[4]?).map (·.type) = some 74 := by kernel_rfl
theorem cellsES : Tryz.prog.cellsOf 157 = 1 := by kernel_rfl
theorem cellsStr : Tryz.prog.cellsOf 9 = 1 := by kernel_rfl
theorem star : "*" ++ "errors.errorString" = "*errors.errorString" := by decide
theorem rowES (u : TypeId) (h : Tryz.prog.typeName? 3 u = some "*errors.errorString") : u = 155 :=
  typeName_ptr_named (nm := "errors.errorString") (by rw [star]; kernel_rfl) (by kernel_rfl) (by decide) u (by rw [star]; exact h)

theorem tabsP_of_laid {W : World} (h : laidMetH Tryz.prog [("math/bits.deBruijn32tab", Rows.laid_math_bits_deBruijn32tab), ("math/bits.deBruijn64tab", Rows.laid_math_bits_deBruijn64tab), ("internal/strconv.uint64pow10", Rows.laid_internal_strconv_uint64pow10), ("unicode/utf8.acceptRanges", Rows.laid_unicode_utf8_acceptRanges), ("strconv.ErrRange", Rows.laid_strconv_ErrRange), ("strconv.ErrSyntax", Rows.laid_strconv_ErrSyntax), ("unicode/utf8.first", Rows.laid_unicode_utf8_first)] W) : TabsP W := by
  have h1 : laidMet Tryz.prog [("math/bits.deBruijn32tab", Rows.laid_math_bits_deBruijn32tab), ("math/bits.deBruijn64tab", Rows.laid_math_bits_deBruijn64tab), ("internal/strconv.uint64pow10", Rows.laid_internal_strconv_uint64pow10), ("unicode/utf8.acceptRanges", Rows.laid_unicode_utf8_acceptRanges), ("strconv.ErrRange", Rows.laid_strconv_ErrRange), ("strconv.ErrSyntax", Rows.laid_strconv_ErrSyntax), ("unicode/utf8.first", Rows.laid_unicode_utf8_first)] W := h
  have ht : Tabs W := by
    obtain ⟨ps, hv, _⟩ := h1
    exact tabs_of_vars hv
  have h5 := h1.tail.tail.tail.tail
  obtain ⟨a1, s1, hv1, -, -, -⟩ := laid_sentinel h5 gER gERType Tryz.underlying74 rowES Tryz.underlying155 Tryz.underlying157 rfl rfl Tryz.underlying9 cellsES cellsStr
  obtain ⟨a0, s0, hv0, -, -, -⟩ := laid_sentinel h5.tail gES gESType Tryz.underlying74 rowES Tryz.underlying155 Tryz.underlying157 rfl rfl Tryz.underlying9 cellsES cellsStr
  exact { ht with es := ⟨_, _, hv0⟩, er := ⟨_, _, hv1⟩ }

/-- So many blocks has the settled world. -/
noncomputable def low : Nat := (World.holding Tryz.prog default ⟨#[], #[], []⟩).heap.size
noncomputable def laidHeapP (os : Os) : Array Obj :=
    putCells (putCells (putCells (putCells (laidHeap os) 8 #[.int .u8 128, .int .u8 191, .int .u8 160, .int .u8 191, .int .u8 128, .int .u8 159, .int .u8 144, .int .u8 191, .int .u8 128, .int .u8 143, .int .u8 0, .int .u8 0, .int .u8 0, .int .u8 0, .int .u8 0, .int .u8 0, .int .u8 0, .int .u8 0, .int .u8 0, .int .u8 0, .int .u8 0, .int .u8 0, .int .u8 0, .int .u8 0, .int .u8 0, .int .u8 0, .int .u8 0, .int .u8 0, .int .u8 0, .int .u8 0, .int .u8 0, .int .u8 0])
      7 (Go.Pinned.utf8FirstZ.map fun n : Nat => Value.int .u8 (n : Int)).toArray)
      3 #[.iface 155 (.pointer (some ⟨low, 0, none⟩))])
      4 #[.iface 155 (.pointer (some ⟨low + 1, 0, none⟩))]
def errBlocks : Array Obj := #[.cells #[.string ⟨#[105, 110, 118, 97, 108, 105, 100, 32, 115, 121, 110, 116, 97, 120]⟩] 157 (0, 0), .cells #[.string ⟨#[118, 97, 108, 117, 101, 32, 111, 117, 116, 32, 111, 102, 32, 114, 97, 110, 103, 101]⟩] 157 (0, 0)]
noncomputable def laidWorldP (os : Os) : World := { World.holding Tryz.prog os ⟨#[], #[], []⟩ with heap := laidHeapP os ++ errBlocks }
end Go.Proofs.YtnjmhneobgmejaaGreatDoor
