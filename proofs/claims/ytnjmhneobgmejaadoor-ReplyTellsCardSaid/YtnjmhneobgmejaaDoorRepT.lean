/- The walks of package reply's telling: (*writer).line, told, OK, None, Err, Value, Score. Conditions: the library's tables are as they are laid; what is told is of at most 2^47 bytes. -/
import Derived.Test.YtnjmhneobgmejaaDoorRepA
import Derived.Test.YtnjmhneobgmejaaDoorBuild
import Derived.Deep.RegionWith
import Derived.Deep.RegionHeld3
namespace Go.Proofs.YtnjmhneobgmejaaDoor
open Go.RowKit

/-- Words lie in a row of cells. -/
def WordsIn (g : Nat) (ws : List (List UInt8)) (w : World) : Prop := g < w.heap.size ∧ ∀ (j : Nat) (h : j < ws.length), w.cell? ⟨g, j, none⟩ = some (.string ⟨(ws[j]).toArray⟩)
theorem WordsIn.below {g : Nat} {ws : List (List UInt8)} {w w' : World} (h : WordsIn g ws w) (hb : Below w.heap.size w w') : WordsIn g ws w' :=
  ⟨Nat.lt_of_lt_of_le h.1 hb.size, fun j hj => cell_later hb (h.2 j hj)⟩
theorem joinW_sizes (ws : List (List UInt8)) : ws.length ≤ (RqF.joinW ws).length + 1 := by
  cases ws with
  | nil => simp
  | cons x r =>
    unfold RqF.joinW
    rw [Lib.join_length]
    simp
theorem join_any (g c : Nat) (ws : List (List UInt8)) (w : World) (hw : WordsIn g ws w) (hcap : ws.length ≤ c) (hlen : (RqF.joinW ws).length ≤ 140737488355327) :
    Calls Tryd.prog 46 #[.slice (some ⟨g, 0, none⟩) ws.length c, .string ⟨#[32]⟩] w fun e w' => e = .returned (.string ⟨(RqF.joinW ws).toArray⟩) ∧ Below w.heap.size w w' := by
  have hN := joinW_sizes ws
  have e1 : (ws.map fun x => (⟨x.toArray⟩ : ByteArray)).map (·.data.toList) = ws := by
    rw [List.map_map]
    conv => rhs; rw [← List.map_id ws]
    exact List.map_congr_left fun x _ => by simp
  have h := Tryd.strings_Join g 0 c (ws.map fun x => ⟨x.toArray⟩) ⟨#[32]⟩ w (fun j x hx => by
      rw [List.getElem?_map] at hx
      obtain ⟨y, hy, rfl⟩ := Option.map_eq_some_iff.1 hx
      obtain ⟨hj, rfl⟩ := List.getElem?_eq_some_iff.1 hy
      rw [Nat.zero_add]
      exact hw.2 j hj) hw.1 (by rw [List.length_map]; omega) (by rw [List.length_map]; exact hcap) (by rw [e1]; show (RqF.joinW ws).length ≤ _; omega)
  rw [e1, List.length_map] at h
  exact h

theorem join_as (g c : Nat) (ws : List (List UInt8)) (J : ByteArray) (w : World) (hw : WordsIn g ws w) (hcap : ws.length ≤ c) (hlen : (RqF.joinW ws).length ≤ 140737488355327) (hJ : J = ⟨(RqF.joinW ws).toArray⟩) :
    Calls Tryd.prog 46 #[.slice (some ⟨g, 0, none⟩) ws.length c, .string ⟨#[32]⟩] w fun e w' => e = .returned (.string J) ∧ Below w.heap.size w w' := by
  subst hJ; exact join_any g c ws w hw hcap hlen
theorem byteCells_str (l : List UInt8) (s : ByteArray) : Lib.byteCells l ++ Lib.strCells s = Lib.byteCells (l ++ s.data.toList) := by
  unfold Lib.byteCells Lib.strCells
  simp
theorem tellR_str (ws : List (List UInt8)) : ((⟨(RqF.joinW ws).toArray⟩ : ByteArray) ++ ⟨#[10]⟩).data.toList = RqF.tellR ws := by
  unfold RqF.tellR; simp
theorem isB_below {B b : Nat} {bs : List Value} {w w' : World} (h : Lib.IsBuilderF 70 5 B b bs w) (hb : Below w.heap.size w w') : Lib.IsBuilderF 70 5 B b bs w' := by
  have key : ∀ p, Lib.BuilderAtF 70 5 B b p bs w → Lib.BuilderAtF 70 5 B b p bs w' := by
    rintro p ⟨hB, v, h1, h2, h3⟩
    exact ⟨hB, v, below_blk hb h1, h2.kept (grown_of_below hb none) (by cases hv : v.ownBlock <;> simp), h3⟩
  exact h.elim (fun x => .inl (key _ x)) (fun x => .inr (key _ x))
/-- A line is written. -/
def LineTold (B b : Nat) (l : List UInt8) (w : World) (e : Ending) (w' : World) : Prop :=
  e = .returned (.tuple #[]) ∧ (Lib.IsBuilderF 70 5 B b (Lib.byteCells l) w' ∧ Below B w w')
/-- .. and all else but rows of bytes is as it was. -/
def LineKept (B b : Nat) (l : List UInt8) (w : World) (e : Ending) (w' : World) : Prop :=
  e = .returned (.tuple #[]) ∧ (Lib.IsBuilderF 70 5 B b (Lib.byteCells l) w' ∧ Below B w w') ∧ Kept b w w'
set_option maxRecDepth 100000 in
set_option maxHeartbeats 2000000 in
theorem wline_kept (B b g c : Nat) (ws : List (List UInt8)) (bs : List UInt8) (w : World) (h : Lib.IsBuilderF 70 5 B b (Lib.byteCells bs) w) (hB : B ≤ w.heap.size) (hw : WordsIn g ws w) (hcap : ws.length ≤ c) (hlen : bs.length + (RqF.tellR ws).length ≤ 140737488355328) :
    Calls Tryd.prog 38 #[.pointer (some ⟨b, 0, none⟩), .slice (some ⟨g, 0, none⟩) ws.length c] w (LineKept B b (bs ++ RqF.tellR ws) w) := by
  have hl : (RqF.tellR ws).length = (RqF.joinW ws).length + 1 := by unfold RqF.tellR; simp
  obtain ⟨J, hJ⟩ : ∃ J : ByteArray, J = ⟨(RqF.joinW ws).toArray⟩ := ⟨_, rfl⟩
  have hsz : J.size = (RqF.joinW ws).length := by rw [hJ, Lib.size_eq]
  have hle : J.size ≤ 140737488355328 := by omega
  have hJd : (J ++ ⟨#[10]⟩).data.toList = RqF.tellR ws := by rw [hJ]; exact tellR_str ws
  have HSZ : Hid ((Lib.byteCells bs).length + (J ++ ⟨#[10]⟩).size ≤ 140737488355328) := by
    show _ ≤ _
    rw [Lib.byteCells_length, Lib.size_eq, hJd]; exact hlen
  have HW : Hid (WordsIn g ws w.drew) := hw
  have HBd : Hid (Lib.IsBuilderF 70 5 B b (Lib.byteCells bs) w.drew) := h
  have HB : Hid (B ≤ w.drew.heap.size) := hB
  have HL : Hid ((RqF.joinW ws).length ≤ 140737488355327) := by show _ ≤ _; omega
  have HJ := Lib.hid hJ; have HJD := Lib.hid hJd
  clear hw hl h hB hsz hJ hJd hlen
  go_enter Tryd.func38, Tryd.ntmps38
  go_region_with (first | (go_at_call 46; refine (join_as g c ws J _ HW.out hcap HL.out HJ.out).mono ?_; rintro e w1 ⟨rfl, hb1⟩) | (go_at_call 39; refine (write_kept B b (Lib.byteCells bs) _ _ (isB_below HBd.out (by assumption)) HSZ.out (Nat.le_trans HB.out (by first | exact hb1.size | (have := Below.size (by assumption); exact this)))).mono ?_; rintro e w2 ⟨rfl, ⟨hA, hb2⟩, hk2⟩))
  all_goals
    go_end0
    refine ⟨rfl, ⟨.inr ?_, ((Below.drew (Below.refl B w)).trans (hb1.mono HB.out)).trans hb2⟩, Kept.trans (show Kept b w w1 from Kept.below (w := w.drew) hb1) hk2⟩
    rw [byteCells_str, HJD.out] at hA
    exact hA
theorem wline_any (B b g c : Nat) (ws : List (List UInt8)) (bs : List UInt8) (w : World) (h : Lib.IsBuilderF 70 5 B b (Lib.byteCells bs) w) (hB : B ≤ w.heap.size) (hw : WordsIn g ws w) (hcap : ws.length ≤ c) (hlen : bs.length + (RqF.tellR ws).length ≤ 140737488355328) :
    Calls Tryd.prog 38 #[.pointer (some ⟨b, 0, none⟩), .slice (some ⟨g, 0, none⟩) ws.length c] w (LineTold B b (bs ++ RqF.tellR ws) w) :=
  (wline_kept B b g c ws bs w h hB hw hcap hlen).mono fun _ _ ⟨h1, h2, _⟩ => ⟨h1, h2⟩

theorem writer_new (w : World) : Lib.IsBuilderF 70 5 w.heap.size w.heap.size (Lib.byteCells []) (w.alloc (.cells #[.pointer none, .slice none 0 0] 70)) :=
  .inl ⟨Nat.le_refl _, _, heap_alloc_new w _, World.ownsRowF_nil _ _ _ _, by simp [Value.ownBlock]⟩
set_option maxRecDepth 100000 in
set_option maxHeartbeats 1000000 in
theorem told_any (g c : Nat) (ws : List (List UInt8)) (w : World) (hw : WordsIn g ws w) (hcap : ws.length ≤ c) (hlen : (RqF.tellR ws).length ≤ 140737488355328) :
    Calls Tryd.prog 35 #[.slice (some ⟨g, 0, none⟩) ws.length c] w fun e w' => e = .returned (.string ⟨(RqF.tellR ws).toArray⟩) ∧ Below w.heap.size w w' := by
  have HW := Lib.hid hw
  have HL := Lib.hid hlen
  clear hw hlen
  go_enter Tryd.func35, Tryd.ntmps35
  go_wp2_with fail
  have HN := Lib.hid (writer_new w)
  refine (wline_any w.heap.size w.heap.size g c ws [] _ HN.out (by simp) (HW.out.below ((Below.refl _ _).alloc (Nat.le_refl _) _)) hcap (by have := HL.out; simpa using this)).mono ?_
  rintro e w1 ⟨rfl, hb1, hbl1⟩
  have HB1 := Lib.hid hb1; have HBL1 := Lib.hid hbl1
  clear hb1 hbl1
  go_wp2_with fail
  refine (string_any w.heap.size w.heap.size (RqF.tellR ws) _ HB1.out (RqF.tellR_ne ws)).mono ?_
  rintro e w2 ⟨rfl, hbl2⟩
  go_wp2_with fail
  go_ret
  exact ⟨rfl, (((Below.refl _ _).alloc (Nat.le_refl _) _).trans HBL1.out).trans hbl2⟩
end Go.Proofs.YtnjmhneobgmejaaDoor
