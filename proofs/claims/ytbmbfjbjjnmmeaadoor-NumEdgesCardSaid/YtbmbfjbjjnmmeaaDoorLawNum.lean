/- The walks of the laws of layer 3 on the order of numbers. Condition: the library's tables are as they are laid. -/
import Derived.Test.YtbmbfjbjjnmmeaaDoorAwake3
namespace Go.Proofs.YtbmbfjbjjnmmeaaDoor
open Go.RowKit

theorem cmpF_lt {a b : Nat} (h : RqF.code a < RqF.code b) : cmpF a b = -1 ∧ cmpF b a = 1 := ⟨(cmpI_lt (by omega)).symm, (cmpI_gt (by omega)).symm⟩
theorem cmpF_eq {a b : Nat} (h : RqF.code a = RqF.code b) : cmpF a b = 0 ∧ cmpF b a = 0 := ⟨(cmpI_eq (by omega) (by omega)).symm, (cmpI_eq (by omega) (by omega)).symm⟩
theorem sameB_back {a : Nat} (h : a < 2 * RqF.sgn) : sameB (RqF.backF (RqF.code a)) a = true := by
  unfold sameB; simp only [decide_eq_true_eq]; exact RqF.nan_or_back h
theorem backF_lt {c : Nat} (h : c < 2 * RqF.sgn) : RqF.backF c < 2 * RqF.sgn := by
  unfold RqF.backF; split
  · decide +kernel
  · exact RqF.back_lt h

set_option maxRecDepth 100000 in
set_option maxHeartbeats 400000 in
theorem numOrders_lt (a b : Nat) (w : World) (ht : Tabs w) (ha : a < 2 * RqF.sgn) (hb : b < 2 * RqF.sgn) (h : RqF.code a < RqF.code b) : Calls Tryd.prog 8 #[.int .u64 a, .int .u64 b] w fun e w' => e = .returned (.bool true) ∧ Below w.heap.size w w' := by
  have HC : Hid (cmpF a b = -1 ∧ cmpF b a = 1) := cmpF_lt h
  have hd : decide (RqF.code a < RqF.code b) = true := decide_eq_true h
  have hd2 : ((RqF.code a : Int) == (RqF.code b : Int)) = false := by simp; omega
  have HT := Lib.hid ht; clear ht
  have HA := Lib.hid ha
  have HB := Lib.hid hb
  have HS := Lib.hid (sameB_back ha)
  have HL := Lib.hid (RqF.code_lt ha)
  clear ha hb
  go_enter Tryd.func8, Tryd.ntmps8
  go_wp2_with fail
  refine (cmp_any _ _ _ HA.out HB.out).mono ?_
  rintro e w' ⟨rfl, rfl⟩
  rw [HC.out.1]
  go_wp2_with fail
  refine (code_any _ _ HA.out).mono ?_
  rintro e w' ⟨rfl, rfl⟩
  go_wp2_with fail
  refine (code_any _ _ HB.out).mono ?_
  rintro e w' ⟨rfl, rfl⟩
  go_wp2_with fail
  refine (r3cmp_any _ _ _ HA.out HB.out).mono ?_
  rintro e w' ⟨rfl, rfl⟩
  rw [HC.out.1]
  go_wp2_with fail
  refine (same_any _ _ _ HA.out HB.out).mono ?_
  rintro e w' ⟨rfl, rfl⟩
  rw [HC.out.1]
  go_wp2_with fail
  refine (r3code_any _ _ HA.out).mono ?_
  rintro e w' ⟨rfl, rfl⟩
  go_wp2_with fail
  refine (back_any _ _ HL.out).mono ?_
  rintro e w' ⟨rfl, rfl⟩
  go_wp2_with fail
  refine (sameBits_any _ _ _ (backF_lt HL.out) HA.out).mono ?_
  rintro e w' ⟨rfl, rfl⟩
  rw [HS.out]
  go_wp2_with fail
  refine (cmp_any _ _ _ HB.out HA.out).mono ?_
  rintro e w' ⟨rfl, rfl⟩
  rw [HC.out.2]
  go_wp2_with fail
  refine (awake3_any _ HT.out).mono ?_
  rintro e w1 ⟨rfl, hb⟩
  go_wp2_with fail
  go_ret
  exact ⟨rfl, hb⟩
set_option maxRecDepth 100000 in
set_option maxHeartbeats 400000 in
theorem numOrders_gt (a b : Nat) (w : World) (ht : Tabs w) (ha : a < 2 * RqF.sgn) (hb : b < 2 * RqF.sgn) (h : RqF.code b < RqF.code a) : Calls Tryd.prog 8 #[.int .u64 a, .int .u64 b] w fun e w' => e = .returned (.bool true) ∧ Below w.heap.size w w' := by
  have HC : Hid (cmpF a b = 1 ∧ cmpF b a = -1) := ⟨(cmpF_lt h).2, (cmpF_lt h).1⟩
  have hd : decide (RqF.code a < RqF.code b) = false := decide_eq_false (by omega)
  have hd2 : ((RqF.code a : Int) == (RqF.code b : Int)) = false := by simp; omega
  have HT := Lib.hid ht; clear ht
  have HA := Lib.hid ha
  have HB := Lib.hid hb
  have HS := Lib.hid (sameB_back ha)
  have HL := Lib.hid (RqF.code_lt ha)
  clear ha hb
  go_enter Tryd.func8, Tryd.ntmps8
  go_wp2_with fail
  refine (cmp_any _ _ _ HA.out HB.out).mono ?_
  rintro e w' ⟨rfl, rfl⟩
  rw [HC.out.1]
  go_wp2_with fail
  refine (code_any _ _ HA.out).mono ?_
  rintro e w' ⟨rfl, rfl⟩
  go_wp2_with fail
  refine (code_any _ _ HB.out).mono ?_
  rintro e w' ⟨rfl, rfl⟩
  go_wp2_with fail
  refine (r3cmp_any _ _ _ HA.out HB.out).mono ?_
  rintro e w' ⟨rfl, rfl⟩
  rw [HC.out.1]
  go_wp2_with fail
  refine (same_any _ _ _ HA.out HB.out).mono ?_
  rintro e w' ⟨rfl, rfl⟩
  rw [HC.out.1]
  go_wp2_with fail
  refine (r3code_any _ _ HA.out).mono ?_
  rintro e w' ⟨rfl, rfl⟩
  go_wp2_with fail
  refine (back_any _ _ HL.out).mono ?_
  rintro e w' ⟨rfl, rfl⟩
  go_wp2_with fail
  refine (sameBits_any _ _ _ (backF_lt HL.out) HA.out).mono ?_
  rintro e w' ⟨rfl, rfl⟩
  rw [HS.out]
  go_wp2_with fail
  refine (cmp_any _ _ _ HB.out HA.out).mono ?_
  rintro e w' ⟨rfl, rfl⟩
  rw [HC.out.2]
  go_wp2_with fail
  refine (awake3_any _ HT.out).mono ?_
  rintro e w1 ⟨rfl, hb⟩
  go_wp2_with fail
  go_ret
  exact ⟨rfl, hb⟩
set_option maxRecDepth 100000 in
set_option maxHeartbeats 400000 in
theorem numOrders_eq (a b : Nat) (w : World) (ht : Tabs w) (ha : a < 2 * RqF.sgn) (hb : b < 2 * RqF.sgn) (h : RqF.code a = RqF.code b) : Calls Tryd.prog 8 #[.int .u64 a, .int .u64 b] w fun e w' => e = .returned (.bool true) ∧ Below w.heap.size w w' := by
  have HC : Hid (cmpF a b = 0 ∧ cmpF b a = 0) := cmpF_eq h
  have HT := Lib.hid ht; clear ht
  have HA := Lib.hid ha
  have HB := Lib.hid hb
  have HS := Lib.hid (sameB_back ha)
  have HL := Lib.hid (RqF.code_lt ha)
  clear ha hb
  have HE := Lib.hid h; clear h
  go_enter Tryd.func8, Tryd.ntmps8
  go_wp2_with fail
  refine (cmp_any _ _ _ HA.out HB.out).mono ?_
  rintro e w' ⟨rfl, rfl⟩
  rw [HC.out.1]
  go_wp2_with fail
  refine (code_any _ _ HA.out).mono ?_
  rintro e w' ⟨rfl, rfl⟩
  go_wp2_with fail
  refine (code_any _ _ HB.out).mono ?_
  rintro e w' ⟨rfl, rfl⟩
  rw [← HE.out]
  go_wp2_with fail
  refine (r3cmp_any _ _ _ HA.out HB.out).mono ?_
  rintro e w' ⟨rfl, rfl⟩
  rw [HC.out.1]
  go_wp2_with fail
  refine (same_any _ _ _ HA.out HB.out).mono ?_
  rintro e w' ⟨rfl, rfl⟩
  rw [HC.out.1]
  go_wp2_with fail
  refine (r3code_any _ _ HA.out).mono ?_
  rintro e w' ⟨rfl, rfl⟩
  go_wp2_with fail
  refine (back_any _ _ HL.out).mono ?_
  rintro e w' ⟨rfl, rfl⟩
  go_wp2_with fail
  refine (sameBits_any _ _ _ (backF_lt HL.out) HA.out).mono ?_
  rintro e w' ⟨rfl, rfl⟩
  rw [HS.out]
  go_wp2_with fail
  refine (cmp_any _ _ _ HB.out HA.out).mono ?_
  rintro e w' ⟨rfl, rfl⟩
  rw [HC.out.2]
  go_wp2_with fail
  refine (awake3_any _ HT.out).mono ?_
  rintro e w1 ⟨rfl, hb⟩
  go_wp2_with fail
  go_ret
  exact ⟨rfl, hb⟩
theorem numOrders_walk (a b : Nat) (w : World) (ht : Tabs w) (ha : a < 2 * RqF.sgn) (hb : b < 2 * RqF.sgn) : Calls Tryd.prog 8 #[.int .u64 a, .int .u64 b] w fun e w' => e = .returned (.bool true) ∧ Below w.heap.size w w' := by
  rcases Nat.lt_trichotomy (RqF.code a) (RqF.code b) with h | h | h
  · exact numOrders_lt a b w ht ha hb h
  · exact numOrders_eq a b w ht ha hb h
  · exact numOrders_gt a b w ht ha hb h
end Go.Proofs.YtbmbfjbjjnmmeaaDoor
