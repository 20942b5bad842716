import Derived.Test.YtbhgdpchehkchaaGreatDoorNumB
namespace Go.Proofs.YtbhgdpchehkchaaGreatDoor
open Go.RowKit

set_option maxRecDepth 100000 in
theorem r3nan_any (b : Nat) (w : World) (hb : b < 2 * RqF.sgn) :
    Calls Tryz.prog 41 #[.int .u64 b] w fun e w' => e = .returned (.bool (RqF.nan b)) ∧ w = w' := by
  have HB := Lib.hid (RqF.nan_bits hb); clear hb
  go_enter Tryz.func41, Tryz.ntmps41
  go_wp2
  go_ret
  exact ⟨ret_bool HB.out, rfl⟩

set_option maxRecDepth 100000 in
set_option maxHeartbeats 400000 in
theorem r3code_any (b : Nat) (w : World) (hb : b < 2 * RqF.sgn) :
    Calls Tryz.prog 94 #[.float .f64 b] w fun e w' => e = .returned (.int .u64 (RqF.code b)) ∧ w = w' := by
  have HB := Lib.hid hb; clear hb
  go_enter Tryz.func94, Tryz.ntmps94
  go_wp2_with (first | (go_at_call 41; refine (r3nan_any _ _ HB.out).mono ?_; rintro e w' ⟨rfl, rfl⟩) | go_in)
  all_goals go_ret
  · exact ⟨ret_int (RqF.code_nan ‹_›), rfl⟩
  · exact ⟨ret_int (RqF.code_neg' HB.out ‹_› ‹_›), rfl⟩
  · exact ⟨ret_int (RqF.code_pos' HB.out ‹_› ‹_›), rfl⟩

set_option maxHeartbeats 400000 in
theorem r3cmp_any (a b : Nat) (w : World) (ha : a < 2 * RqF.sgn) (hb : b < 2 * RqF.sgn) :
    Calls Tryz.prog 54 #[.float .f64 a, .float .f64 b] w fun e w' => e = .returned (.int .i64 (cmpF a b)) ∧ w = w' := by
  have HA := Lib.hid ha; clear ha
  have HB := Lib.hid hb; clear hb
  go_enter Tryz.func54, Tryz.ntmps54
  go_wp2_with fail
  refine (r3code_any _ _ HA.out).mono ?_
  rintro e w' ⟨rfl, rfl⟩
  go_wp2_with fail
  refine (r3code_any _ _ HB.out).mono ?_
  rintro e w' ⟨rfl, rfl⟩
  go_wp2_with fail
  all_goals go_ret
  · exact ⟨ret_int (cmpI_lt (by omega)), rfl⟩
  · exact ⟨ret_int (cmpI_gt (by omega)), rfl⟩
  · exact ⟨ret_int (cmpI_eq (by omega) (by omega)), rfl⟩

set_option maxRecDepth 100000 in
theorem r16nan_any (b : Nat) (w : World) (hb : b < 2 * RqF.sgn) :
    Calls Tryz.prog 73 #[.float .f64 b] w fun e w' => e = .returned (.bool (RqF.nan b)) ∧ w = w' := by
  go_enter Tryz.func73, Tryz.ntmps73
  have HB := Lib.hid (RqF.nan_bits2 hb); clear hb
  go_wp2
  go_ret
  exact ⟨ret_bool HB.out, rfl⟩

/-- Two words are one number's. -/
def sameB (a b : Nat) : Bool := decide (a = b ∨ RqF.nan a = true ∧ RqF.nan b = true)
theorem sameB_1 {a b : Nat} (h : (a : Int) = b) : true = sameB a b := by
  have : a = b := by omega
  unfold sameB; rw [this]; simp
theorem sameB_2 {a b : Nat} (h : ¬ (a : Int) = b) (h2 : RqF.nan a = true) : (((a : Int) == b) || RqF.nan b) = sameB a b := by
  have h3 : ¬ a = b := by omega
  unfold sameB; rw [h2]; simp [h3, h]
theorem sameB_3 {a b : Nat} (h : ¬ (a : Int) = b) (h2 : ¬ RqF.nan a = true) : ((a : Int) == b) = sameB a b := by
  have h3 : ¬ a = b := by omega
  unfold sameB; simp [h3, h2, h]

set_option maxRecDepth 100000 in
set_option maxHeartbeats 400000 in
theorem sameBits_any (a b : Nat) (w : World) (ha : a < 2 * RqF.sgn) (hb : b < 2 * RqF.sgn) :
    Calls Tryz.prog 39 #[.float .f64 a, .float .f64 b] w fun e w' => e = .returned (.bool (sameB a b)) ∧ w = w' := by
  have HA := Lib.hid ha; clear ha
  have HB := Lib.hid hb; clear hb
  go_enter Tryz.func39, Tryz.ntmps39
  go_wp2_with (first | (go_at_call 73; refine (r16nan_any _ _ HA.out).mono ?_; rintro e w' ⟨rfl, rfl⟩) | (go_at_call 73; refine (r16nan_any _ _ HB.out).mono ?_; rintro e w' ⟨rfl, rfl⟩) | go_in)
  all_goals go_ret
  · exact ⟨ret_bool (sameB_1 ‹_›), rfl⟩
  · exact ⟨ret_bool (sameB_2 ‹_› ‹_›), rfl⟩
  · exact ⟨ret_bool (sameB_3 ‹_› ‹_›), rfl⟩
end Go.Proofs.YtbhgdpchehkchaaGreatDoor
