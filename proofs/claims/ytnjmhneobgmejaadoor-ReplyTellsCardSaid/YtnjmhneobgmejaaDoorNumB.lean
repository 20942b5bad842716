import Derived.Test.YtnjmhneobgmejaaDoorNumA
namespace Go.Proofs.YtnjmhneobgmejaaDoor
open Go.RowKit

theorem ret2 {a b c d : Value} (h : a = c) (h2 : b = d) : Ending.returned (.tuple #[a, b]) = .returned (.tuple #[c, d]) := by rw [h, h2]

theorem nanF_any (w : World) : Calls Tryd.prog 33 #[] w fun e w' => e = .returned (.float .f64 9221120237041090561) ∧ w = w' := by
  go_enter Tryd.func33, Tryd.ntmps33
  go_wp2
  go_ret
  exact ⟨rfl, rfl⟩

theorem inf_pos (n : Int) (w : World) (h : 0 ≤ n) : Calls Tryd.prog 30 #[.int .i64 n] w fun e w' => e = .returned (.float .f64 RqF.infW) ∧ w = w' := by
  go_enter Tryd.func30, Tryd.ntmps30
  go_wp2
  go_ret
  exact ⟨rfl, rfl⟩
theorem inf_neg (n : Int) (w : World) (h : n < 0) : Calls Tryd.prog 30 #[.int .i64 n] w fun e w' => e = .returned (.float .f64 18442240474082181120) ∧ w = w' := by
  go_enter Tryd.func30, Tryd.ntmps30
  go_wp2
  go_ret
  exact ⟨rfl, rfl⟩

theorem signbit_any (b : Nat) (w : World) (hb : b < 2 * RqF.sgn) :
    Calls Tryd.prog 53 #[.float .f64 b] w fun e w' => e = .returned (.bool (decide (b / RqF.sgn % 2 = 1))) ∧ w = w' := by
  have HB := Lib.hid (RqF.neg_lt_zero_iff hb); clear hb
  go_enter Tryd.func53, Tryd.ntmps53
  go_wp2
  all_goals go_ret
  exact ⟨ret_bool HB.out, rfl⟩

set_option maxRecDepth 100000 in
theorem abs_any (b : Nat) (w : World) (hb : b < 2 * RqF.sgn) :
    Calls Tryd.prog 51 #[.float .f64 b] w fun e w' => e = .returned (.float .f64 (b % RqF.sgn)) ∧ w = w' := by
  have HB := Lib.hid (RqF.abs_eq hb); clear hb
  go_enter Tryd.func51, Tryd.ntmps51
  go_wp2
  go_ret
  exact ⟨ret_float HB.out, rfl⟩

set_option maxRecDepth 100000 in
theorem copysign_any (a b : Nat) (w : World) (ha : a < 2 * RqF.sgn) (hb : b < 2 * RqF.sgn) :
    Calls Tryd.prog 27 #[.float .f64 a, .float .f64 b] w fun e w' => e = .returned (.float .f64 (RqF.cps a b)) ∧ w = w' := by
  have HB := Lib.hid (RqF.copysign_eq ha hb); clear ha hb
  go_enter Tryd.func27, Tryd.ntmps27
  go_wp2
  go_ret
  exact ⟨ret_float HB.out, rfl⟩

set_option maxRecDepth 100000 in
theorem isInf_pos (b : Nat) (w : World) (hb : b < 2 * RqF.sgn) :
    Calls Tryd.prog 49 #[.float .f64 b, .int .i64 1] w fun e w' => e = .returned (.bool (decide (b = RqF.infW))) ∧ w = w' := by
  have HB := Lib.hid (RqF.gt_max hb); clear hb
  go_enter Tryd.func49, Tryd.ntmps49
  go_wp2
  go_ret
  exact ⟨ret_bool HB.out, rfl⟩

@[go_sem] theorem unary_neg_float (b : Nat) : Op.unary .neg (.float .f64 b) = pure (.float .f64 (RqF.neg b)) := rfl

set_option maxRecDepth 100000 in
theorem isInf_neg (b : Nat) (w : World) (hb : b < 2 * RqF.sgn) :
    Calls Tryd.prog 49 #[.float .f64 b, .int .i64 (-1)] w fun e w' => e = .returned (.bool (decide (RqF.neg b = RqF.infW))) ∧ w = w' := by
  have HB := Lib.hid (RqF.gt_max (RqF.neg_lt hb)); clear hb
  go_enter Tryd.func49, Tryd.ntmps49
  go_wp2
  go_ret
  exact ⟨ret_bool HB.out, rfl⟩

set_option maxRecDepth 100000 in
theorem isInf_any (b : Nat) (w : World) (hb : b < 2 * RqF.sgn) :
    Calls Tryd.prog 49 #[.float .f64 b, .int .i64 0] w fun e w' => e = .returned (.bool (decide (b % RqF.sgn = RqF.infW))) ∧ w = w' := by
  have HC := Lib.hid hb
  have HB := Lib.hid (RqF.gt_max (x := b % RqF.sgn) (by have := Nat.mod_lt b (show 0 < RqF.sgn by decide); omega)); clear hb
  go_enter Tryd.func49, Tryd.ntmps49
  go_wp2_with (first | (go_at_call 51; refine (abs_any _ _ HC.out).mono ?_; rintro e w' ⟨rfl, rfl⟩) | go_in)
  go_ret
  exact ⟨ret_bool HB.out, rfl⟩

/-- A sum that is none: the model draws which word of no number's it is. -/
theorem run_add_none (t : TypeId) {x y : Nat} (h : Ieee.double.add x y = none) (w : World) : ∃ n, RqF.nan n = true ∧ (binOp .add t (.float .f64 x) (.float .f64 y)).run Tryd.prog w = .ok (.float .f64 n) w.drew := by
  refine ⟨(Question.nanBits .f64 x y).cut (w.tape w.drawn (.nanBits .f64 x y)), ?_, ?_⟩
  · exact RqF.nan_cut _
  · have h2 : FloatKind.f64.format.add x y = none := h
    simp [binOp, Op.floatArith, h2, Question.forced]

end Go.Proofs.YtnjmhneobgmejaaDoor
