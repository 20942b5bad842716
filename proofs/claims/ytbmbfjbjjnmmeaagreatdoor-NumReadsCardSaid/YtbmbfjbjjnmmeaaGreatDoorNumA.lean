import Derived.Test.YtbmbfjbjjnmmeaaGreatDoorProg
import Derived.Test.YtbmbfjbjjnmmeaaGreatDoorBits
import Derived.WalkKit
import Derived.WalkSpells
import Derived.WalkLawsBesides
import Derived.Laws.Externs
import Derived.Lib.Hide
import Derived.Outline
namespace Go.Proofs.YtbmbfjbjjnmmeaaGreatDoor
open Go.RowKit

theorem ret_int {k : IntKind} {a b : Int} (h : a = b) : Ending.returned (.int k a) = .returned (.int k b) := by rw [h]
theorem ret_bool {a b : Bool} (h : a = b) : Ending.returned (.bool a) = .returned (.bool b) := by rw [h]
theorem ret_float {a b : Nat} (h : a = b) : Ending.returned (.float .f64 a) = .returned (.float .f64 b) := by rw [h]

@[go_sem] theorem run_bits (b : Nat) (w : World) : (callFunc 13 #[.float .f64 b]).run Tryz.prog w = .ok (.value (.int .u64 b)) w := by
  rw [run_callFunc_extern Tryz.func13 (by kernel_rfl) (by kernel_rfl) (by kernel_rfl) (e := Extern.MathFloatBits.float64bits) (by kernel_rfl)]; rfl
@[go_sem] theorem run_frombits (n : Int) (w : World) : (callFunc 6 #[.int .u64 n]).run Tryz.prog w = .ok (.value (.float .f64 n.toNat)) w := by
  rw [run_callFunc_extern Tryz.func6 (by kernel_rfl) (by kernel_rfl) (by kernel_rfl) (e := Extern.MathFloatBits.float64frombits) (by kernel_rfl)]; rfl

theorem isNaN_any (b : Nat) (w : World) :
    Calls Tryz.prog 27 #[.float .f64 b] w fun e w' => e = .returned (.bool (RqF.nan b)) ∧ w = w' := by
  have H := Lib.hid (RqF.order_self b)
  go_enter Tryz.func27, Tryz.ntmps27
  go_wp2
  go_ret
  exact ⟨by rw [← H.out]; rfl, rfl⟩

set_option maxRecDepth 100000 in
set_option maxHeartbeats 400000 in
theorem code_any (b : Nat) (w : World) (hb : b < 2 * RqF.sgn) :
    Calls Tryz.prog 52 #[.float .f64 b] w fun e w' => e = .returned (.int .u64 (RqF.code b)) ∧ w = w' := by
  have HB := Lib.hid hb; clear hb
  go_enter Tryz.func52, Tryz.ntmps52
  go_wp2_with (first | (go_at_call 27; refine (isNaN_any _ _).mono ?_; rintro e w' ⟨rfl, rfl⟩) | go_in)
  all_goals go_ret
  · exact ⟨ret_int (RqF.code_nan ‹_›), rfl⟩
  · exact ⟨ret_int (RqF.code_neg HB.out ‹_› ‹_›), rfl⟩
  · exact ⟨ret_int (RqF.code_pos HB.out ‹_› ‹_›), rfl⟩

/-- How two words stand. -/
def cmpI (a b : Int) : Int := if a < b then -1 else if b < a then 1 else 0
theorem cmpI_lt {a b : Int} (h : a < b) : -1 = cmpI a b := by unfold cmpI; rw [if_pos h]
theorem cmpI_gt {a b : Int} (h : b < a) : 1 = cmpI a b := by unfold cmpI; rw [if_neg (by omega), if_pos h]
theorem cmpI_eq {a b : Int} (h1 : b ≤ a) (h2 : a ≤ b) : 0 = cmpI a b := by unfold cmpI; rw [if_neg (by omega), if_neg (by omega)]

theorem isNaNu_any (b : Int) (w : World) :
    Calls Tryz.prog 74 #[.int .u64 b] w fun e w' => e = .returned (.bool false) ∧ w = w' := by
  go_enter Tryz.func74, Tryz.ntmps74
  go_wp2
  go_ret
  exact ⟨ret_bool (by simp), rfl⟩
set_option maxHeartbeats 400000 in
theorem compare_any (a b : Int) (w : World) :
    Calls Tryz.prog 51 #[.int .u64 a, .int .u64 b] w fun e w' => e = .returned (.int .i64 (cmpI a b)) ∧ w = w' := by
  go_enter Tryz.func51, Tryz.ntmps51
  go_wp2_with (first | (go_at_call 74; refine (isNaNu_any _ _).mono ?_; rintro e w' ⟨rfl, rfl⟩) | go_in)
  all_goals go_ret
  · exact ⟨ret_int (cmpI_lt ‹_›), rfl⟩
  · exact ⟨ret_int (cmpI_gt ‹_›), rfl⟩
  · exact ⟨ret_int (cmpI_eq ‹_› ‹_›), rfl⟩

/-- How two numbers stand. -/
def cmpF (a b : Nat) : Int := cmpI (RqF.code a) (RqF.code b)
set_option maxHeartbeats 400000 in
theorem cmp_any (a b : Nat) (w : World) (ha : a < 2 * RqF.sgn) (hb : b < 2 * RqF.sgn) :
    Calls Tryz.prog 35 #[.float .f64 a, .float .f64 b] w fun e w' => e = .returned (.int .i64 (cmpF a b)) ∧ w = w' := by
  have HA := Lib.hid ha; clear ha
  have HB := Lib.hid hb; clear hb
  go_enter Tryz.func35, Tryz.ntmps35
  go_wp2_with fail
  refine (code_any _ _ HA.out).mono ?_
  rintro e w' ⟨rfl, rfl⟩
  go_wp2_with fail
  refine (code_any _ _ HB.out).mono ?_
  rintro e w' ⟨rfl, rfl⟩
  go_wp2_with fail
  refine (compare_any _ _ _).mono ?_
  rintro e w' ⟨rfl, rfl⟩
  go_wp2_with fail
  go_ret
  exact ⟨rfl, rfl⟩
end Go.Proofs.YtbmbfjbjjnmmeaaGreatDoor
