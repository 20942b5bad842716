import Derived.Test.YtbmbfjbjjnmmeaaDoorNumB
namespace Go.Proofs.YtbmbfjbjjnmmeaaDoor
open Go.RowKit

set_option maxRecDepth 100000 in
theorem r3nan_any (b : Nat) (w : World) (hb : b < 2 * RqF.sgn) :
    Calls Tryd.prog 61 #[.int .u64 b] w fun e w' => e = .returned (.bool (RqF.nan b)) ∧ w = w' := by
  have HB := Lib.hid (RqF.nan_bits hb); clear hb
  go_enter Tryd.func61, Tryd.ntmps61
  go_wp2
  go_ret
  exact ⟨ret_bool HB.out, rfl⟩

set_option maxRecDepth 100000 in
set_option maxHeartbeats 400000 in
theorem r3code_any (b : Nat) (w : World) (hb : b < 2 * RqF.sgn) :
    Calls Tryd.prog 26 #[.float .f64 b] w fun e w' => e = .returned (.int .u64 (RqF.code b)) ∧ w = w' := by
  have HB := Lib.hid hb; clear hb
  go_enter Tryd.func26, Tryd.ntmps26
  go_wp2_with (first | (go_at_call 61; refine (r3nan_any _ _ HB.out).mono ?_; rintro e w' ⟨rfl, rfl⟩) | go_in)
  all_goals go_ret
  · exact ⟨ret_int (RqF.code_nan ‹_›), rfl⟩
  · exact ⟨ret_int (RqF.code_neg' HB.out ‹_› ‹_›), rfl⟩
  · exact ⟨ret_int (RqF.code_pos' HB.out ‹_› ‹_›), rfl⟩

set_option maxHeartbeats 400000 in
theorem r3cmp_any (a b : Nat) (w : World) (ha : a < 2 * RqF.sgn) (hb : b < 2 * RqF.sgn) :
    Calls Tryd.prog 24 #[.float .f64 a, .float .f64 b] w fun e w' => e = .returned (.int .i64 (cmpF a b)) ∧ w = w' := by
  have HA := Lib.hid ha; clear ha
  have HB := Lib.hid hb; clear hb
  go_enter Tryd.func24, Tryd.ntmps24
  go_wp2_with fail
  refine (r3code_any _ _ HA.out).mono ?_
  rintro e w' ⟨rfl, rfl⟩
  go_wp2_with fail
  refine (r3code_any _ _ HB.out).mono ?_
  rintro e w' ⟨rfl, rfl⟩
  go_wp2_with fail
  all_goals go_ret
  · exact ⟨ret_int (cmpI_lt (by omega)), rfl⟩
  · exact ⟨ret_int (cmpI_gt (by omega)), rfl⟩
  · exact ⟨ret_int (cmpI_eq (by omega) (by omega)), rfl⟩

set_option maxRecDepth 100000 in
set_option maxHeartbeats 400000 in
theorem r3back_any (c : Nat) (w : World) (hc : c < 2 * RqF.sgn) :
    Calls Tryd.prog 29 #[.int .u64 c] w fun e w' => e = .returned (.tuple #[.int .u64 (RqF.back c), .bool (!RqF.nan (RqF.back c))]) ∧ w = w' := by
  have HC := Lib.hid hc; clear hc
  go_enter Tryd.func29, Tryd.ntmps29
  go_wp2_with fail
  · have e : bits .andNot .u64 (c : Int) 9223372036854775808 = ((RqF.back c : Nat) : Int) := RqF.back_i1 HC.out ‹_›
    rw [e]
    clear e
    refine (r3nan_any _ _ (RqF.back_lt HC.out)).mono ?_
    rintro e w' ⟨rfl, rfl⟩
    go_wp2_with fail
    go_ret2
    exact ⟨rfl, rfl⟩
  · have e : bits .xor .u64 IntKind.u64.max (c : Int) = ((RqF.back c : Nat) : Int) := RqF.back_i2 HC.out ‹_›
    show Calls _ _ #[.int .u64 (bits .xor .u64 IntKind.u64.max (c : Int))] _ _
    rw [e]
    clear e
    refine (r3nan_any _ _ (RqF.back_lt HC.out)).mono ?_
    rintro e w' ⟨rfl, rfl⟩
    go_wp2_with fail
    go_ret2
    exact ⟨rfl, rfl⟩

set_option maxRecDepth 100000 in
theorem r16nan_any (b : Nat) (w : World) (hb : b < 2 * RqF.sgn) :
    Calls Tryd.prog 62 #[.float .f64 b] w fun e w' => e = .returned (.bool (RqF.nan b)) ∧ w = w' := by
  go_enter Tryd.func62, Tryd.ntmps62
  have HB := Lib.hid (RqF.nan_bits2 hb); clear hb
  go_wp2
  go_ret
  exact ⟨ret_bool HB.out, rfl⟩

/-- Two words are one number's. -/
def sameB (a b : Nat) : Bool := decide (a = b ∨ RqF.nan a = true ∧ RqF.nan b = true)
theorem sameB_1 {a b : Nat} (h : (a : Int) = b) : true = sameB a b := by
  have : a = b := by omega
  unfold sameB; rw [this]; simp
theorem sameB_2 {a b : Nat} (h : ¬ (a : Int) = b) (h2 : RqF.nan a = true) : (((a : Int) == b) || RqF.nan b) = sameB a b := by
  have h3 : ¬ a = b := by omega
  unfold sameB; rw [h2]; simp [h3, h]
theorem sameB_3 {a b : Nat} (h : ¬ (a : Int) = b) (h2 : ¬ RqF.nan a = true) : ((a : Int) == b) = sameB a b := by
  have h3 : ¬ a = b := by omega
  unfold sameB; simp [h3, h2, h]

set_option maxRecDepth 100000 in
set_option maxHeartbeats 400000 in
theorem sameBits_any (a b : Nat) (w : World) (ha : a < 2 * RqF.sgn) (hb : b < 2 * RqF.sgn) :
    Calls Tryd.prog 27 #[.float .f64 a, .float .f64 b] w fun e w' => e = .returned (.bool (sameB a b)) ∧ w = w' := by
  have HA := Lib.hid ha; clear ha
  have HB := Lib.hid hb; clear hb
  go_enter Tryd.func27, Tryd.ntmps27
  go_wp2_with (first | (go_at_call 62; refine (r16nan_any _ _ HA.out).mono ?_; rintro e w' ⟨rfl, rfl⟩) | (go_at_call 62; refine (r16nan_any _ _ HB.out).mono ?_; rintro e w' ⟨rfl, rfl⟩) | go_in)
  all_goals go_ret
  · exact ⟨ret_bool (sameB_1 ‹_›), rfl⟩
  · exact ⟨ret_bool (sameB_2 ‹_› ‹_›), rfl⟩
  · exact ⟨ret_bool (sameB_3 ‹_› ‹_›), rfl⟩
end Go.Proofs.YtbmbfjbjjnmmeaaDoor
