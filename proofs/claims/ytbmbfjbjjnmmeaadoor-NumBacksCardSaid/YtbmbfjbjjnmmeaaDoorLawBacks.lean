/- The walks of NumBacks and NumSteps. Condition: the library's tables are as they are laid. -/
import Derived.Test.YtbmbfjbjjnmmeaaDoorLawNum
namespace Go.Proofs.YtbmbfjbjjnmmeaaDoor
open Go.RowKit

set_option maxRecDepth 100000 in
set_option maxHeartbeats 400000 in
theorem numBacks_nan (c : Nat) (w : World) (ht : Tabs w) (hc : c < 2 * RqF.sgn) (hn : RqF.nan (RqF.back c) = true) : Calls Tryd.prog 9 #[.int .u64 c] w fun e w' => e = .returned (.bool true) ∧ Below w.heap.size w w' := by
  have hn2 : RqF.nan (RqF.backF c) = true := by unfold RqF.backF; rw [if_pos hn]; decide +kernel
  have hne : (FloatKind.f64.format.order (RqF.backF c) (RqF.backF c) != some .eq) = true := (RqF.order_self _).trans hn2
  have HT := Lib.hid ht; clear ht
  have HC := Lib.hid hc; clear hc
  clear hn2
  go_enter Tryd.func9, Tryd.ntmps9
  go_wp2_with fail
  refine (r3back_any _ _ HC.out).mono ?_
  rintro e w' ⟨rfl, rfl⟩
  go_wp2_with fail
  refine (back_any _ _ HC.out).mono ?_
  rintro e w' ⟨rfl, rfl⟩
  go_wp2_with fail
  refine (awake3_any _ HT.out).mono ?_
  rintro e w1 ⟨rfl, hb⟩
  go_wp2_with fail
  go_ret
  exact ⟨rfl, hb⟩

set_option maxRecDepth 100000 in
set_option maxHeartbeats 400000 in
theorem numBacks_num (c : Nat) (w : World) (ht : Tabs w) (hc : c < 2 * RqF.sgn) (hn : RqF.nan (RqF.back c) = false) : Calls Tryd.prog 9 #[.int .u64 c] w fun e w' => e = .returned (.bool true) ∧ Below w.heap.size w w' := by
  have HE := Lib.hid (show RqF.backF c = RqF.back c by unfold RqF.backF; rw [hn]; simp)
  have HCB := Lib.hid (RqF.code_back hc hn)
  have HL := Lib.hid (RqF.back_lt hc)
  have HT := Lib.hid ht; clear ht
  have HC := Lib.hid hc; clear hc
  go_enter Tryd.func9, Tryd.ntmps9
  go_wp2_with fail
  refine (r3back_any _ _ HC.out).mono ?_
  rintro e w' ⟨rfl, rfl⟩
  go_wp2_with fail
  refine (back_any _ _ HC.out).mono ?_
  rintro e w' ⟨rfl, rfl⟩
  rw [HE.out]
  go_wp2_with fail
  refine (code_any _ _ HL.out).mono ?_
  rintro e w' ⟨rfl, rfl⟩
  rw [HCB.out]
  go_wp2_with fail
  refine (awake3_any _ HT.out).mono ?_
  rintro e w1 ⟨rfl, hb⟩
  go_wp2_with fail
  go_ret
  exact ⟨rfl, hb⟩
theorem numBacks_walk (c : Nat) (w : World) (ht : Tabs w) (hc : c < 2 * RqF.sgn) : Calls Tryd.prog 9 #[.int .u64 c] w fun e w' => e = .returned (.bool true) ∧ Below w.heap.size w w' := by
  cases hn : RqF.nan (RqF.back c)
  · exact numBacks_num c w ht hc hn
  · exact numBacks_nan c w ht hc hn
end Go.Proofs.YtbmbfjbjjnmmeaaDoor
