/- What the document fixes of numbers ('awake' of layer 3). Condition: the library's tables are as they are laid. -/
import Derived.Test.YtbmbfjbjjnmmeaaGreatDoorNumT
namespace Go.Proofs.YtbmbfjbjjnmmeaaGreatDoor
open Go.RowKit

theorem text_3 : RqF.textF 4613937818241073152 = [51] := by
  have h1 : RqF.wholeF 4613937818241073152 = some 3 := by decide +kernel
  unfold RqF.textF
  rw [if_neg (by decide +kernel), if_neg (by decide +kernel), if_neg (by decide +kernel), h1]
  unfold Lib.decDigits; rfl
theorem text_nought : RqF.textF RqF.sgn = [45, 48] := by
  have h1 : RqF.wholeF RqF.sgn = some 0 := by decide +kernel
  unfold RqF.textF
  rw [if_neg (by decide +kernel), if_neg (by decide +kernel), if_neg (by decide +kernel), h1]
  unfold Lib.decDigits; rfl
theorem text_half : RqF.textF 4602678819172646912 = [48, 120, 51, 102, 101, 48, 48, 48, 48, 48, 48, 48, 48, 48, 48, 48, 48, 48] := by
  have h1 : RqF.wholeF 4602678819172646912 = none := by decide +kernel
  unfold RqF.textF
  rw [if_neg (by decide +kernel), if_neg (by decide +kernel), if_neg (by decide +kernel), h1]
  decide +kernel

theorem cps_nought : RqF.cps 0 13830554455654793216 = RqF.sgn := by decide +kernel
theorem add_infs : Ieee.double.add RqF.infW 18442240474082181120 = none := by decide +kernel
theorem cmp_1 : cmpF RqF.sgn 0 = -1 := by decide +kernel
theorem cmp_2 : cmpF 9221120237041090561 RqF.infW = 1 := by decide +kernel
theorem cmp_3 : cmpF 9221120237041090561 9221120237041090561 = 0 := by decide +kernel
theorem small_1 : 0 < 2 * RqF.sgn := by decide +kernel
theorem small_2 : 13830554455654793216 < 2 * RqF.sgn := by decide +kernel
theorem small_3 : RqF.sgn < 2 * RqF.sgn := by decide +kernel
theorem small_4 : 9221120237041090561 < 2 * RqF.sgn := by decide +kernel
theorem small_5 : RqF.infW < 2 * RqF.sgn := by decide +kernel
theorem small_6 : 4613937818241073152 < 2 * RqF.sgn := by decide +kernel
theorem small_7 : 4602678819172646912 < 2 * RqF.sgn := by decide +kernel

set_option maxRecDepth 100000 in
set_option maxHeartbeats 400000 in
theorem awake3_any (w : World) (ht : Tabs w) : Calls Tryz.prog 12 #[] w fun e w' => e = .returned (.bool true) ∧ Below w.heap.size w w' := by
  have HT := Lib.hid ht; clear ht
  go_enter Tryz.func12, Tryz.ntmps12
  go_wp2_with fail
  refine (copysign_any _ _ _ small_1 small_2).mono ?_
  rintro e w' ⟨rfl, rfl⟩
  rw [cps_nought]
  go_wp2_with fail
  refine (inf_pos 1 _ (by decide)).mono ?_
  rintro e w' ⟨rfl, rfl⟩
  go_wp2_with fail
  refine (inf_neg (-1) _ (by decide)).mono ?_
  rintro e w' ⟨rfl, rfl⟩
  go_wp2_with fail
  refine (add_none _ _ _ add_infs).mono ?_
  rintro e w' ⟨rfl, rfl⟩
  go_wp2_with fail
  refine (cmp_any _ _ _ small_3 small_1).mono ?_
  rintro e w' ⟨rfl, rfl⟩
  rw [cmp_1]
  go_wp2_with fail
  refine (nanF_any _).mono ?_
  rintro e w' ⟨rfl, rfl⟩
  go_wp2_with fail
  refine (inf_pos 1 _ (by decide)).mono ?_
  rintro e w' ⟨rfl, rfl⟩
  go_wp2_with fail
  refine (cmp_any _ _ _ small_4 small_5).mono ?_
  rintro e w' ⟨rfl, rfl⟩
  rw [cmp_2]
  go_wp2_with fail
  refine (nanF_any _).mono ?_
  rintro e w' ⟨rfl, rfl⟩
  go_wp2_with fail
  refine (nanF_any _).mono ?_
  rintro e w' ⟨rfl, rfl⟩
  go_wp2_with fail
  refine (same_any _ _ _ small_4 small_4).mono ?_
  rintro e w' ⟨rfl, rfl⟩
  rw [cmp_3]
  go_wp2_with fail
  refine (text_any _ _ HT.out.drew small_6).mono ?_
  rintro e w1 ⟨rfl, hb1⟩
  rw [text_3]
  have ht1 : Tabs w1 := HT.out.drew.below hb1
  have HT1 := Lib.hid ht1; clear ht1
  go_wp2_with fail
  refine (text_any _ _ HT1.out small_3).mono ?_
  rintro e w2 ⟨rfl, hb2⟩
  rw [text_nought]
  have ht2 : Tabs w2 := HT1.out.below hb2
  have HT2 := Lib.hid ht2; clear ht2
  go_wp2_with fail
  refine (text_any _ _ HT2.out small_7).mono ?_
  rintro e w3 ⟨rfl, hb3⟩
  rw [text_half]
  go_wp2_with fail
  go_ret
  refine ⟨rfl, ?_⟩
  have h0 : Below w.heap.size w w.drew := (Below.refl _ _).drew
  exact below_trans (below_trans (below_trans h0 hb1) hb2) hb3
end Go.Proofs.YtbmbfjbjjnmmeaaGreatDoor
