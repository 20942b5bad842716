/- The walk of reliquarylaw19.awake. Condition: the library's tables are as they are laid. -/
import Derived.Test.YtnjmhneobgmejaaDoorRepV
import Derived.Test.YtnjmhneobgmejaaDoorAwake3
import Derived.Lib.SlBytesConst
namespace Go.Proofs.YtnjmhneobgmejaaDoor
open Go.RowKit

theorem value_hi : valueS [104, 105] = ⟨#[86, 65, 76, 85, 69, 32, 50, 10, 104, 105, 10]⟩ := by
  unfold valueS RqF.valueT
  have : Lib.itoa (([104, 105] : List UInt8).length : Int) = [50] := by
    rw [RqF.itoa_nat]; show Lib.decDigits 2 = _; unfold Lib.decDigits; rfl
  rw [this]; rfl
theorem score_nought : scoreS RqF.sgn = ⟨#[83, 67, 79, 82, 69, 32, 45, 48, 10]⟩ := by
  unfold scoreS RqF.scoreT
  rw [text_nought]; rfl
theorem bytes_laid (w : World) (l : List UInt8) (cs : Array Value) (fr : Nat × Nat) (hcs : cs = (l.map fun b => Value.int .u8 (b.toNat : Int)).toArray) : BytesAt (some ⟨w.heap.size, 0, none⟩) l (w.alloc (.cells cs 5 fr)) := by
  subst hcs
  intro _
  refine ⟨_, rfl, by simp, fun j hj => ?_⟩
  rw [Addr.add_lit, Nat.zero_add]
  refine blk_cell (heap_alloc_new w _) ?_
  rw [List.getElem?_toArray, List.getElem?_map, List.getElem?_eq_getElem hj]; rfl
theorem value_hi_any (w : World) (fr : Nat × Nat) (ht : Tabs w) : Calls Tryd.prog 11 #[.slice (some ⟨w.heap.size, 0, none⟩) 2 2] (w.alloc (.cells #[.int .u8 104, .int .u8 105] 5 fr)) fun r w' => r = .returned (.string ⟨#[86, 65, 76, 85, 69, 32, 50, 10, 104, 105, 10]⟩) ∧ Below w.heap.size w w' := by
  rw [← value_hi]
  exact (value_tells _ 2 [104, 105] _ (ht.below ((Below.refl _ _).alloc (Nat.le_refl _) _)) (bytes_laid w [104, 105] _ fr rfl) (by decide)).mono fun e w' ⟨he, hb⟩ => ⟨he, below_trans ((Below.refl _ _).alloc (Nat.le_refl _) _) hb⟩
theorem score_nought_any (w : World) (ht : Tabs w) : Calls Tryd.prog 25 #[.float .f64 RqF.sgn] w fun r w' => r = .returned (.string ⟨#[83, 67, 79, 82, 69, 32, 45, 48, 10]⟩) ∧ Below w.heap.size w w' := by
  rw [← score_nought]
  exact score_tells _ w ht small_3
set_option maxRecDepth 100000 in
set_option maxHeartbeats 1000000 in
theorem awake19_any (w : World) (ht : Tabs w) : Calls Tryd.prog 4 #[] w fun e w' => e = .returned (.bool true) ∧ Below w.heap.size w w' := by
  have HT := Lib.hid ht; clear ht
  have kc := fun (w : World) (C : Array Value) (n c : Nat) => Lib.run_convert_bytes_const (P := Tryd.prog) w 22 5 C n c Tryd.underlying22 Tryd.underlying5
  go_enter Tryd.func4, Tryd.ntmps4
  go_wp2_with fail
  refine (value_hi_any _ _ HT.out).mono ?_
  rintro e w1 ⟨rfl, hb1⟩
  have HB1 := Lib.hid hb1; clear hb1
  go_wp2_with fail
  refine (copysign_any _ _ _ small_1 small_2).mono ?_
  rintro e w' ⟨rfl, rfl⟩
  rw [cps_nought]
  go_wp2_with fail
  refine (score_nought_any _ (HT.out.below HB1.out)).mono ?_
  rintro e w2 ⟨rfl, hb2⟩
  have HB2 := Lib.hid (below_trans HB1.out hb2); clear hb2
  go_wp2_with fail
  refine (ok_any _).mono ?_
  rintro e w3 ⟨rfl, hb3⟩
  have HB3 := Lib.hid (below_trans HB2.out hb3); clear hb3
  go_wp2_with fail
  refine (none_any _).mono ?_
  rintro e w4 ⟨rfl, hb4⟩
  have HB4 := Lib.hid (below_trans HB3.out hb4); clear hb4
  go_wp2_with fail
  go_ret
  exact ⟨rfl, HB4.out⟩
end Go.Proofs.YtnjmhneobgmejaaDoor
