import Derived.Test.YtnjmhneobgmejaaDoorNumB
namespace Go.Proofs.YtnjmhneobgmejaaDoor
open Go.RowKit

set_option maxRecDepth 100000 in
theorem r3nan_any (b : Nat) (w : World) (hb : b < 2 * RqF.sgn) :
    Calls Tryd.prog 31 #[.int .u64 b] w fun e w' => e = .returned (.bool (RqF.nan b)) ∧ w = w' := by
  have HB := Lib.hid (RqF.nan_bits hb); clear hb
  go_enter Tryd.func31, Tryd.ntmps31
  go_wp2
  go_ret
  exact ⟨ret_bool HB.out, rfl⟩

set_option maxRecDepth 100000 in
set_option maxHeartbeats 400000 in
theorem r3code_any (b : Nat) (w : World) (hb : b < 2 * RqF.sgn) :
    Calls Tryd.prog 43 #[.float .f64 b] w fun e w' => e = .returned (.int .u64 (RqF.code b)) ∧ w = w' := by
  have HB := Lib.hid hb; clear hb
  go_enter Tryd.func43, Tryd.ntmps43
  go_wp2_with (first | (go_at_call 31; refine (r3nan_any _ _ HB.out).mono ?_; rintro e w' ⟨rfl, rfl⟩) | go_in)
  all_goals go_ret
  · exact ⟨ret_int (RqF.code_nan ‹_›), rfl⟩
  · exact ⟨ret_int (RqF.code_neg' HB.out ‹_› ‹_›), rfl⟩
  · exact ⟨ret_int (RqF.code_pos' HB.out ‹_› ‹_›), rfl⟩

set_option maxHeartbeats 400000 in
theorem r3cmp_any (a b : Nat) (w : World) (ha : a < 2 * RqF.sgn) (hb : b < 2 * RqF.sgn) :
    Calls Tryd.prog 34 #[.float .f64 a, .float .f64 b] w fun e w' => e = .returned (.int .i64 (cmpF a b)) ∧ w = w' := by
  have HA := Lib.hid ha; clear ha
  have HB := Lib.hid hb; clear hb
  go_enter Tryd.func34, Tryd.ntmps34
  go_wp2_with fail
  refine (r3code_any _ _ HA.out).mono ?_
  rintro e w' ⟨rfl, rfl⟩
  go_wp2_with fail
  refine (r3code_any _ _ HB.out).mono ?_
  rintro e w' ⟨rfl, rfl⟩
  go_wp2_with fail
  all_goals go_ret
  · exact ⟨ret_int (cmpI_lt (by omega)), rfl⟩
  · exact ⟨ret_int (cmpI_gt (by omega)), rfl⟩
  · exact ⟨ret_int (cmpI_eq (by omega) (by omega)), rfl⟩

/-- Two words are one number's. -/
def sameB (a b : Nat) : Bool := decide (a = b ∨ RqF.nan a = true ∧ RqF.nan b = true)
theorem sameB_1 {a b : Nat} (h : (a : Int) = b) : true = sameB a b := by
  have : a = b := by omega
  unfold sameB; rw [this]; simp
theorem sameB_2 {a b : Nat} (h : ¬ (a : Int) = b) (h2 : RqF.nan a = true) : (((a : Int) == b) || RqF.nan b) = sameB a b := by
  have h3 : ¬ a = b := by omega
  unfold sameB; rw [h2]; simp [h3, h]
theorem sameB_3 {a b : Nat} (h : ¬ (a : Int) = b) (h2 : ¬ RqF.nan a = true) : ((a : Int) == b) = sameB a b := by
  have h3 : ¬ a = b := by omega
  unfold sameB; simp [h3, h2, h]

end Go.Proofs.YtnjmhneobgmejaaDoor
