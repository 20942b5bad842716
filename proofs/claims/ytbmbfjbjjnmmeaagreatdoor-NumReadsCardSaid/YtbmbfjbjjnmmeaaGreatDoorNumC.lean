import Derived.Test.YtbmbfjbjjnmmeaaGreatDoorNumB
namespace Go.Proofs.YtbmbfjbjjnmmeaaGreatDoor
open Go.RowKit

set_option maxRecDepth 100000 in
theorem r3nan_any (b : Nat) (w : World) (hb : b < 2 * RqF.sgn) :
    Calls Tryz.prog 15 #[.int .u64 b] w fun e w' => e = .returned (.bool (RqF.nan b)) ∧ w = w' := by
  have HB := Lib.hid (RqF.nan_bits hb); clear hb
  go_enter Tryz.func15, Tryz.ntmps15
  go_wp2
  go_ret
  exact ⟨ret_bool HB.out, rfl⟩

set_option maxRecDepth 100000 in
theorem r16nan_any (b : Nat) (w : World) (hb : b < 2 * RqF.sgn) :
    Calls Tryz.prog 26 #[.float .f64 b] w fun e w' => e = .returned (.bool (RqF.nan b)) ∧ w = w' := by
  go_enter Tryz.func26, Tryz.ntmps26
  have HB := Lib.hid (RqF.nan_bits2 hb); clear hb
  go_wp2
  go_ret
  exact ⟨ret_bool HB.out, rfl⟩

/-- Two words are one number's. -/
def sameB (a b : Nat) : Bool := decide (a = b ∨ RqF.nan a = true ∧ RqF.nan b = true)
theorem sameB_1 {a b : Nat} (h : (a : Int) = b) : true = sameB a b := by
  have : a = b := by omega
  unfold sameB; rw [this]; simp
theorem sameB_2 {a b : Nat} (h : ¬ (a : Int) = b) (h2 : RqF.nan a = true) : (((a : Int) == b) || RqF.nan b) = sameB a b := by
  have h3 : ¬ a = b := by omega
  unfold sameB; rw [h2]; simp [h3, h]
theorem sameB_3 {a b : Nat} (h : ¬ (a : Int) = b) (h2 : ¬ RqF.nan a = true) : ((a : Int) == b) = sameB a b := by
  have h3 : ¬ a = b := by omega
  unfold sameB; simp [h3, h2, h]

set_option maxRecDepth 100000 in
set_option maxHeartbeats 400000 in
theorem sameBits_any (a b : Nat) (w : World) (ha : a < 2 * RqF.sgn) (hb : b < 2 * RqF.sgn) :
    Calls Tryz.prog 9 #[.float .f64 a, .float .f64 b] w fun e w' => e = .returned (.bool (sameB a b)) ∧ w = w' := by
  have HA := Lib.hid ha; clear ha
  have HB := Lib.hid hb; clear hb
  go_enter Tryz.func9, Tryz.ntmps9
  go_wp2_with (first | (go_at_call 26; refine (r16nan_any _ _ HA.out).mono ?_; rintro e w' ⟨rfl, rfl⟩) | (go_at_call 26; refine (r16nan_any _ _ HB.out).mono ?_; rintro e w' ⟨rfl, rfl⟩) | go_in)
  all_goals go_ret
  · exact ⟨ret_bool (sameB_1 ‹_›), rfl⟩
  · exact ⟨ret_bool (sameB_2 ‹_› ‹_›), rfl⟩
  · exact ⟨ret_bool (sameB_3 ‹_› ‹_›), rfl⟩
end Go.Proofs.YtbmbfjbjjnmmeaaGreatDoor
