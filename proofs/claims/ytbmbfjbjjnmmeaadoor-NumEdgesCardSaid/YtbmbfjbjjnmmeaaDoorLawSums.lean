/- The walk of NumSums. Condition: the library's tables are as they are laid. -/
import Derived.Test.YtbmbfjbjjnmmeaaDoorLawNum
namespace Go.Proofs.YtbmbfjbjjnmmeaaDoor
open Go.RowKit

theorem Tabs.drewN {w : World} (h : Tabs w) (n : Nat) : Tabs (w.drewN n) := h.below (below_drewN (Below.refl _ _) n)

/-- What a sum hands back: the sum, or nought beside the error. -/
def addV (a b : Nat) : Nat := (Ieee.double.add a b).getD 0
def addE (a b : Nat) : Int := if (Ieee.double.add a b).isNone then 6 else 0
theorem add_any (a b : Nat) (w : World) : Calls Tryd.prog 21 #[.float .f64 a, .float .f64 b] w fun e w' => e = .returned (.tuple #[.float .f64 (addV a b), .int .i64 (addE a b)]) ∧ ∃ n, w' = w.drewN n := by
  cases h : Ieee.double.add a b with
  | none => exact (add_none a b w h).mono fun _ _ ⟨he, hw⟩ => ⟨by rw [he]; unfold addV addE; rw [h]; rfl, 1, hw.symm⟩
  | some r => exact (add_some a b r w h).mono fun _ _ ⟨he, hw⟩ => ⟨by rw [he]; unfold addV addE; rw [h]; rfl, 0, hw.symm⟩

theorem addVE_comm (a b : Nat) : addV b a = addV a b ∧ addE b a = addE a b := by unfold addV addE; rw [RqF.add_comm]; exact ⟨rfl, rfl⟩

set_option maxRecDepth 100000 in
set_option maxHeartbeats 400000 in
theorem numSums_nan (a b : Nat) (w : World) (ht : Tabs w) (hn : RqF.nan a = true) : Calls Tryd.prog 5 #[.int .u64 a, .int .u64 b] w fun e w' => e = .returned (.bool true) ∧ Below w.heap.size w w' := by
  have H : ∀ y, addE a y = 6 := fun y => by unfold addE; rw [RqF.add_nan_left hn]; rfl
  have H1 := Lib.hid (H b)
  have H2 := Lib.hid (H 0)
  have H3 := Lib.hid (H (RqF.neg a))
  have HQ := Lib.hid (addVE_comm a b)
  have hne : (FloatKind.f64.format.order a a != some .eq) = true := (RqF.order_self _).trans hn
  have HT := Lib.hid ht
  clear H hn ht
  go_enter Tryd.func5, Tryd.ntmps5
  go_wp2_with fail
  refine (add_any _ _ _).mono ?_
  rintro e w' ⟨rfl, n1, rfl⟩
  rw [H1.out]
  go_wp2_with fail
  refine (add_any _ _ _).mono ?_
  rintro e w' ⟨rfl, n2, rfl⟩
  rw [HQ.out.1, HQ.out.2, H1.out]
  go_wp2_with fail
  refine (add_any _ _ _).mono ?_
  rintro e w' ⟨rfl, n3, rfl⟩
  rw [H2.out]
  go_wp2_with fail
  refine (add_any _ _ _).mono ?_
  rintro e w' ⟨rfl, n4, rfl⟩
  rw [H3.out]
  go_wp2_with fail
  refine (awake3_any _ (HT.out.drewN _)).mono ?_
  rintro e w1 ⟨rfl, hb⟩
  go_wp2_with fail
  go_ret
  exact ⟨rfl, below_trans (below_drewN (Below.refl _ _) _) hb⟩

set_option maxRecDepth 100000 in
set_option maxHeartbeats 400000 in
theorem numSums_inf_z (a b : Nat) (w : World) (ht : Tabs w) (ha : a < 2 * RqF.sgn) (hn : RqF.nan a = false) (hi : a % RqF.sgn = RqF.infW) (hs : a ≠ RqF.sgn) : Calls Tryd.prog 5 #[.int .u64 a, .int .u64 b] w fun e w' => e = .returned (.bool true) ∧ Below w.heap.size w w' := by
  have H2 : Hid (addV a 0 = a ∧ addE a 0 = 0) := by unfold addV addE; rw [RqF.add_zero ha hn, if_neg hs]; exact ⟨rfl, rfl⟩
  have H3 : Hid (addE a (RqF.neg a) = 6) := by unfold addE; rw [RqF.add_neg ha hn, if_pos hi]; rfl
  have hd : decide (a % RqF.sgn = RqF.infW) = true := decide_eq_true hi
  have HQ := Lib.hid (addVE_comm a b)
  have hne : (FloatKind.f64.format.order a a != some .eq) = false := (RqF.order_self _).trans hn
  have HT := Lib.hid ht
  have HA := Lib.hid ha
  clear hn ht ha hi hs
  go_enter Tryd.func5, Tryd.ntmps5
  go_wp2_with fail
  refine (add_any _ _ _).mono ?_
  rintro e w' ⟨rfl, n1, rfl⟩
  go_wp2_with fail
  refine (add_any _ _ _).mono ?_
  rintro e w' ⟨rfl, n2, rfl⟩
  rw [HQ.out.1, HQ.out.2]
  go_wp2_with fail
  refine (add_any _ _ _).mono ?_
  rintro e w' ⟨rfl, n3, rfl⟩
  rw [H2.out.1, H2.out.2]
  go_wp2_with fail
  refine (add_any _ _ _).mono ?_
  rintro e w' ⟨rfl, n4, rfl⟩
  rw [H3.out]
  go_wp2_with fail
  refine (isInf_any _ _ HA.out).mono ?_
  rintro e w' ⟨rfl, rfl⟩
  rw [hd]
  go_wp2_with fail
  refine (awake3_any _ (HT.out.drewN _)).mono ?_
  rintro e w1 ⟨rfl, hb⟩
  go_wp2_with fail
  go_ret
  exact ⟨rfl, below_trans (below_drewN (Below.refl _ _) _) hb⟩

set_option maxRecDepth 100000 in
set_option maxHeartbeats 400000 in
theorem numSums_fin_z (a b : Nat) (w : World) (ht : Tabs w) (ha : a < 2 * RqF.sgn) (hn : RqF.nan a = false) (hi : a % RqF.sgn ≠ RqF.infW) (hs : a ≠ RqF.sgn) : Calls Tryd.prog 5 #[.int .u64 a, .int .u64 b] w fun e w' => e = .returned (.bool true) ∧ Below w.heap.size w w' := by
  have H2 : Hid (addV a 0 = a ∧ addE a 0 = 0) := by unfold addV addE; rw [RqF.add_zero ha hn, if_neg hs]; exact ⟨rfl, rfl⟩
  have H3 : Hid (addV a (RqF.neg a) = 0 ∧ addE a (RqF.neg a) = 0) := by unfold addV addE; rw [RqF.add_neg ha hn, if_neg hi]; exact ⟨rfl, rfl⟩
  have hd : decide (a % RqF.sgn = RqF.infW) = false := decide_eq_false hi
  have HQ := Lib.hid (addVE_comm a b)
  have hne : (FloatKind.f64.format.order a a != some .eq) = false := (RqF.order_self _).trans hn
  have HT := Lib.hid ht
  have HA := Lib.hid ha
  clear hn ht ha hi hs
  go_enter Tryd.func5, Tryd.ntmps5
  go_wp2_with fail
  refine (add_any _ _ _).mono ?_
  rintro e w' ⟨rfl, n1, rfl⟩
  go_wp2_with fail
  refine (add_any _ _ _).mono ?_
  rintro e w' ⟨rfl, n2, rfl⟩
  rw [HQ.out.1, HQ.out.2]
  go_wp2_with fail
  refine (add_any _ _ _).mono ?_
  rintro e w' ⟨rfl, n3, rfl⟩
  rw [H2.out.1, H2.out.2]
  go_wp2_with fail
  refine (add_any _ _ _).mono ?_
  rintro e w' ⟨rfl, n4, rfl⟩
  rw [H3.out.1, H3.out.2]
  go_wp2_with fail
  refine (isInf_any _ _ HA.out).mono ?_
  rintro e w' ⟨rfl, rfl⟩
  rw [hd]
  go_wp2_with fail
  refine (awake3_any _ (HT.out.drewN _)).mono ?_
  rintro e w1 ⟨rfl, hb⟩
  go_wp2_with fail
  go_ret
  exact ⟨rfl, below_trans (below_drewN (Below.refl _ _) _) hb⟩

set_option maxRecDepth 100000 in
set_option maxHeartbeats 400000 in
theorem numSums_fin_s (a b : Nat) (w : World) (ht : Tabs w) (ha : a < 2 * RqF.sgn) (hn : RqF.nan a = false) (hi : a % RqF.sgn ≠ RqF.infW) (hs : a = RqF.sgn) : Calls Tryd.prog 5 #[.int .u64 a, .int .u64 b] w fun e w' => e = .returned (.bool true) ∧ Below w.heap.size w w' := by
  have H2 : Hid (addV a 0 = 0 ∧ addE a 0 = 0) := by unfold addV addE; rw [RqF.add_zero ha hn, if_pos hs]; exact ⟨rfl, rfl⟩
  have hz0 : (FloatKind.f64.format.order a 0 != some .eq) = false := by rw [hs]; decide +kernel
  have hz1 : ((a : Int) != 0) = true := by rw [hs]; decide +kernel
  have hz2 : ((0 : Int) != (a : Int)) = true := by rw [hs]; decide +kernel
  have H3 : Hid (addV a (RqF.neg a) = 0 ∧ addE a (RqF.neg a) = 0) := by unfold addV addE; rw [RqF.add_neg ha hn, if_neg hi]; exact ⟨rfl, rfl⟩
  have hd : decide (a % RqF.sgn = RqF.infW) = false := decide_eq_false hi
  have HQ := Lib.hid (addVE_comm a b)
  have hne : (FloatKind.f64.format.order a a != some .eq) = false := (RqF.order_self _).trans hn
  have HT := Lib.hid ht
  have HA := Lib.hid ha
  clear hn ht ha hi hs
  go_enter Tryd.func5, Tryd.ntmps5
  go_wp2_with fail
  refine (add_any _ _ _).mono ?_
  rintro e w' ⟨rfl, n1, rfl⟩
  go_wp2_with fail
  refine (add_any _ _ _).mono ?_
  rintro e w' ⟨rfl, n2, rfl⟩
  rw [HQ.out.1, HQ.out.2]
  go_wp2_with fail
  refine (add_any _ _ _).mono ?_
  rintro e w' ⟨rfl, n3, rfl⟩
  rw [H2.out.1, H2.out.2]
  go_wp2_with fail
  refine (add_any _ _ _).mono ?_
  rintro e w' ⟨rfl, n4, rfl⟩
  rw [H3.out.1, H3.out.2]
  go_wp2_with fail
  refine (isInf_any _ _ HA.out).mono ?_
  rintro e w' ⟨rfl, rfl⟩
  rw [hd]
  go_wp2_with fail
  refine (awake3_any _ (HT.out.drewN _)).mono ?_
  rintro e w1 ⟨rfl, hb⟩
  go_wp2_with fail
  go_ret
  exact ⟨rfl, below_trans (below_drewN (Below.refl _ _) _) hb⟩

theorem numSums_walk (a b : Nat) (w : World) (ht : Tabs w) (ha : a < 2 * RqF.sgn) (_hb : b < 2 * RqF.sgn) : Calls Tryd.prog 5 #[.int .u64 a, .int .u64 b] w fun e w' => e = .returned (.bool true) ∧ Below w.heap.size w w' := by
  cases hn : RqF.nan a
  · by_cases hi : a % RqF.sgn = RqF.infW
    · exact numSums_inf_z a b w ht ha hn hi (fun e => by rw [e] at hi; revert hi; decide +kernel)
    · by_cases hs : a = RqF.sgn
      · exact numSums_fin_s a b w ht ha hn hi hs
      · exact numSums_fin_z a b w ht ha hn hi hs
  · exact numSums_nan a b w ht hn
end Go.Proofs.YtbmbfjbjjnmmeaaDoor
