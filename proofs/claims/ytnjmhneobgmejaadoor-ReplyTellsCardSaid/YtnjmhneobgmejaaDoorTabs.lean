/- The tables of the library that the walks read, and that they stay what they are while a call makes new memory. No condition. -/
import Derived.Test.YtnjmhneobgmejaaDoorNumC
import Derived.Test.YtnjmhneobgmejaaDoorHex
import Derived.Test.YtnjmhneobgmejaaDoorShelf
import Derived.Lib.LaidTab
import Derived.Lib.ItoaMem
import Derived.Lib.AppendIntMem
import Derived.WalkSmall
namespace Go.Proofs.YtnjmhneobgmejaaDoor
open Go.RowKit

/-- The tables are as the program's text lays them. -/
structure Tabs (w : World) : Prop where
  pow : Lib.TabIs Tryd.prog w "internal/strconv.uint64pow10" .u64 Lib.pow10Tab
  db : w.cell? ⟨4, 15, none⟩ = some (.int .u8 4)

theorem gpow : Tryd.prog.globalNamed "internal/strconv.uint64pow10" = some 1 := by kernel_rfl
theorem var_lt {w : World} {n : String} {g : Nat} {cs : Array Value} (hg : Tryd.prog.globalNamed n = some g) (h : w.var? Tryd.prog n = some cs) : g < w.heap.size := by
  unfold World.var? at h
  simp only [hg, Option.bind_some] at h
  by_cases hl : g < w.heap.size
  · exact hl
  · rw [Array.getElem?_eq_none (by omega)] at h; simp at h
theorem Tabs.below {w w' : World} (h : Tabs w) (hb : Below w.heap.size w w') : Tabs w' :=
  ⟨var?_below hb gpow (var_lt gpow h.pow) h.pow, cell_later hb h.db⟩
theorem Tabs.drew {w : World} (h : Tabs w) : Tabs w.drew := h.below ((Below.refl _ _).drew)

theorem below_trans {a b c : World} (h : Below a.heap.size a b) (k : Below b.heap.size b c) : Below a.heap.size a c := h.trans (k.mono h.size)
theorem below_grow {w : World} (k : Nat) (os : Array Obj) : Below w.heap.size w (Sort.grow (w.drewN k) os) := Lib.below_grow _ _ (Nat.le_refl _) _ _

/-- strconv.FormatInt at base 10. -/
theorem formatInt_any (n : Int) (w : World) (h0 : -9223372036854775808 ≤ n) (h1 : n ≤ 9223372036854775807) (ht : Tabs w) :
    Calls Tryd.prog 52 #[.int .i64 n, .int .i64 10] w fun e w' => e = .returned (.string ⟨(Lib.itoa n).toArray⟩) ∧ Below w.heap.size w w' :=
  (Tryd.strconv_FormatInt_10 n h0 h1 w ht.pow).mono fun _ _ ⟨he, k, os, hw⟩ => ⟨he, by rw [hw]; exact below_grow k os⟩
end Go.Proofs.YtnjmhneobgmejaaDoor
