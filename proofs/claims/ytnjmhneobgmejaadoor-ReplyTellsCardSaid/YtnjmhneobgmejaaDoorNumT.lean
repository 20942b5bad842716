/- num.Text: how a number is told. Condition: the library's tables are as they are laid. -/
import Derived.Test.YtnjmhneobgmejaaDoorTabs
namespace Go.Proofs.YtnjmhneobgmejaaDoor
open Go.RowKit

theorem decode_read (x : Nat) : FloatKind.f64.decode x = Ieee.double.read x := rfl
section
attribute [local irreducible] FloatKind.decode
theorem run_trunc_aux (x : Nat) (h : RqF.nan x = false) (w : World) : (Extern.MathFloor.toIntegral "math.archTrunc" .zero #[.float .f64 x]).run Tryd.prog w = .ok (.float .f64 (RqF.truncF x)) w := by
  have hn := RqF.isNaN_read x
  rw [h] at hn
  unfold RqF.truncF
  conv => lhs; arg 2; whnf
  cases hr : Ieee.double.read x with
  | nan s t => rw [hr] at hn; cases hn
  | infinity s => rw [decode_read, hr]; rfl
  | number s m i => rw [decode_read, hr]; rfl
end
theorem run_trunc (x : Nat) (h : RqF.nan x = false) (w : World) : (callFunc 61 #[.float .f64 x]).run Tryd.prog w = .ok (.value (.float .f64 (RqF.truncF x))) w := by
  rw [run_callFunc_extern Tryd.func61 (by kernel_rfl) (by kernel_rfl) (by kernel_rfl) (e := Extern.MathFloor.toIntegral "math.archTrunc" .zero) (by kernel_rfl), run_trunc_aux x h w]; rfl

theorem trunc_any (x : Nat) (w : World) (h : RqF.nan x = false) :
    Calls Tryd.prog 50 #[.float .f64 x] w fun e w' => e = .returned (.float .f64 (RqF.truncF x)) ∧ w = w' := by
  have hr := run_trunc x h
  clear h
  go_enter Tryd.func50, Tryd.ntmps50
  go_wp2
  go_ret
  exact ⟨rfl, rfl⟩

theorem text_nan (b : Nat) (w : World) (h : RqF.nan b = true) :
    Calls Tryd.prog 41 #[.float .f64 b] w fun e w' => e = .returned (.string ⟨(RqF.textF b).toArray⟩) ∧ w = w' := by
  have hf := Lib.hid (show RqF.textF b = [110, 97, 110] by unfold RqF.textF; rw [if_pos h])
  go_enter Tryd.func41, Tryd.ntmps41
  go_wp2_with (first | (go_at_call 48; refine (isNaN_any _ _).mono ?_; rintro e w' ⟨rfl, rfl⟩) | go_in)
  go_ret
  exact ⟨by rw [hf.out]; rfl, rfl⟩
theorem text_inf (b : Nat) (w : World) (hb : b < 2 * RqF.sgn) (h : RqF.nan b = false) (h2 : b = RqF.infW) :
    Calls Tryd.prog 41 #[.float .f64 b] w fun e w' => e = .returned (.string ⟨(RqF.textF b).toArray⟩) ∧ w = w' := by
  have hf := Lib.hid (show RqF.textF b = [105, 110, 102] by unfold RqF.textF; rw [if_neg (by simp [h]), if_pos h2])
  have HB := Lib.hid hb; clear hb
  have hd : decide (b = RqF.infW) = true := decide_eq_true h2
  clear h2
  go_enter Tryd.func41, Tryd.ntmps41
  go_wp2_with (first | (go_at_call 48; refine (isNaN_any _ _).mono ?_; rintro e w' ⟨rfl, rfl⟩) | (go_at_call 49; (with_reducible refine (isInf_pos _ _ HB.out).mono ?_); rintro e w' ⟨rfl, rfl⟩) | go_in)
  go_ret
  exact ⟨by rw [hf.out]; rfl, rfl⟩
theorem text_ninf (b : Nat) (w : World) (hb : b < 2 * RqF.sgn) (h : RqF.nan b = false) (h2 : b ≠ RqF.infW) (h3 : RqF.neg b = RqF.infW) :
    Calls Tryd.prog 41 #[.float .f64 b] w fun e w' => e = .returned (.string ⟨(RqF.textF b).toArray⟩) ∧ w = w' := by
  have hf := Lib.hid (show RqF.textF b = [45, 105, 110, 102] by unfold RqF.textF; rw [if_neg (by simp [h]), if_neg h2, if_pos h3])
  have HB := Lib.hid hb; clear hb
  have hd : decide (b = RqF.infW) = false := decide_eq_false h2
  have hd2 : decide (RqF.neg b = RqF.infW) = true := decide_eq_true h3
  clear h2 h3
  go_enter Tryd.func41, Tryd.ntmps41
  go_wp2_with (first | (go_at_call 48; refine (isNaN_any _ _).mono ?_; rintro e w' ⟨rfl, rfl⟩) | (go_at_call 49; (with_reducible refine (isInf_pos _ _ HB.out).mono ?_); rintro e w' ⟨rfl, rfl⟩) | (go_at_call 49; (with_reducible refine (isInf_neg _ _ HB.out).mono ?_); rintro e w' ⟨rfl, rfl⟩) | go_in)
  go_ret
  exact ⟨by rw [hf.out]; rfl, rfl⟩

theorem dec_short {v : Nat} (h : v < 1000000000000000) : (Lib.decDigits v).length ≤ 20 := by
  rw [Lib.decDigits_length]
  have : ∀ k v : Nat, v < 10 ^ (k + 1) → Lib.nDigits v ≤ k + 1 := by
    intro k
    induction k with
    | zero => intro v h; unfold Lib.nDigits; rw [dif_pos (by omega)]; omega
    | succ k ih =>
      intro v h
      unfold Lib.nDigits
      split
      · omega
      · have := ih (v / 10) (by rw [Nat.div_lt_iff_lt_mul (by decide)]; rw [Nat.pow_succ] at h; exact h)
        omega
  have := this 19 v (by omega)
  omega

set_option maxRecDepth 100000 in
theorem text_whole (b v : Nat) (w : World) (ht : Tabs w) (hb : b < 2 * RqF.sgn) (h : RqF.nan b = false) (h2 : b ≠ RqF.infW) (h3 : RqF.neg b ≠ RqF.infW) (hv : RqF.wholeF b = some v) :
    Calls Tryd.prog 41 #[.float .f64 b] w fun e w' => e = .returned (.string ⟨(RqF.textF b).toArray⟩) ∧ Below w.heap.size w w' := by
  obtain ⟨hw1, hw2, hw3⟩ := RqF.wholeF_some hv
  have HF := Lib.hid (show RqF.textF b = if b / RqF.sgn % 2 = 1 then 45 :: Go.Lib.decDigits v else Go.Lib.decDigits v by unfold RqF.textF; rw [if_neg (by simp [h]), if_neg h2, if_neg h3, hv])
  have HB := Lib.hid hb; clear hb
  have hd : decide (b = RqF.infW) = false := decide_eq_false h2
  have hd2 : decide (RqF.neg b = RqF.infW) = false := decide_eq_false h3
  clear h2 h3
  have ht1 : (FloatKind.f64.format.order b (RqF.truncF b) == some .eq) = true := by have := RqF.eq_trunc hw1; rw [hv] at this; exact this
  have ht2 : (FloatKind.f64.format.order (b % RqF.sgn) 4831355200913801216 == some .lt) = true := by
    have := RqF.lt_1e15 (Nat.mod_lt b (show 0 < RqF.sgn by decide)); rw [decide_eq_true hw1] at this; exact this
  have hcv : ∀ W, (convert 35 2 (.float .f64 (b % RqF.sgn))).run Tryd.prog W = .ok (.int .i64 (v : Int)) W := fun W =>
    run_convert_float_int W 35 2 .f64 .i64 (b % RqF.sgn) v (by kernel_rfl) Tryd.underlying2 (RqF.toInt_whole hv)
  have hvb : (v : Int) ≤ 9223372036854775807 := by omega
  have hit : Lib.itoa (v : Int) = Lib.decDigits v := by unfold Lib.itoa; rw [if_neg (by omega)]; rfl
  have hadd : ∀ W, (Op.stringOp .add ⟨#[45]⟩ ⟨(Lib.itoa (v : Int)).toArray⟩).run Tryd.prog W = .ok (.string ⟨(45 :: Lib.itoa (v : Int)).toArray⟩) W := fun W =>
    run_string_add_lists W [45] (Lib.itoa (v : Int)) (by simp) (by rw [hit]; have := dec_short hw3; omega)
  have HIT := Lib.hid hit; clear hit
  have HV := Lib.hid hvb
  clear hvb hw2 hw1 hw3 hv
  go_enter Tryd.func41, Tryd.ntmps41
  go_wp2_with (first | (go_at_call 48; refine (isNaN_any _ _).mono ?_; rintro e w' ⟨rfl, rfl⟩) | (go_at_call 49; (with_reducible refine (isInf_pos _ _ HB.out).mono ?_); rintro e w' ⟨rfl, rfl⟩) | (go_at_call 49; (with_reducible refine (isInf_neg _ _ HB.out).mono ?_); rintro e w' ⟨rfl, rfl⟩) | (go_at_call 50; refine (trunc_any _ _ h).mono ?_; rintro e w' ⟨rfl, rfl⟩) | (go_at_call 51; refine (abs_any _ _ HB.out).mono ?_; rintro e w' ⟨rfl, rfl⟩) | (go_at_call 52; refine (formatInt_any _ _ (by omega) HV.out ht).mono ?_; rintro e w' ⟨rfl, hbl⟩) | (go_at_call 53; refine (signbit_any _ _ HB.out).mono ?_; rintro e w' ⟨rfl, rfl⟩) | go_in)
  all_goals go_ret
  · exact ⟨by rw [HF.out, if_pos ‹_›, ← HIT.out]; rfl, hbl⟩
  · exact ⟨by rw [HF.out, if_neg ‹_›, ← HIT.out]; rfl, hbl⟩

set_option maxRecDepth 100000 in
theorem text_bits_1 (b : Nat) (w : World) (ht : Tabs w) (hb : b < 2 * RqF.sgn) (h : RqF.nan b = false) (h2 : b ≠ RqF.infW) (h3 : RqF.neg b ≠ RqF.infW) (hv : RqF.wholeF b = none)
    (ht1 : (FloatKind.f64.format.order b (RqF.truncF b) == some .eq) = false) :
    Calls Tryd.prog 41 #[.float .f64 b] w fun e w' => e = .returned (.string ⟨(RqF.textF b).toArray⟩) ∧ Below w.heap.size w w' := by
  have HF := Lib.hid (show RqF.textF b = 48 :: 120 :: RqF.hexLow 16 b by unfold RqF.textF; rw [if_neg (by simp [h]), if_neg h2, if_neg h3, hv])
  have HB := Lib.hid hb; clear hb
  have hd : decide (b = RqF.infW) = false := decide_eq_false h2
  have hd2 : decide (RqF.neg b = RqF.infW) = false := decide_eq_false h3
  clear h2 h3 hv
  go_enter Tryd.func41, Tryd.ntmps41
  go_wp2_with (first | (go_at_call 48; refine (isNaN_any _ _).mono ?_; rintro e w' ⟨rfl, rfl⟩) | (go_at_call 49; (with_reducible refine (isInf_pos _ _ HB.out).mono ?_); rintro e w' ⟨rfl, rfl⟩) | (go_at_call 49; (with_reducible refine (isInf_neg _ _ HB.out).mono ?_); rintro e w' ⟨rfl, rfl⟩) | (go_at_call 50; refine (trunc_any _ _ h).mono ?_; rintro e w' ⟨rfl, rfl⟩) | (go_at_call 51; refine (abs_any _ _ HB.out).mono ?_; rintro e w' ⟨rfl, rfl⟩))
  refine (formatUint_16 _ _ HB.out ht.db).mono ?_
  rintro e w1 ⟨⟨n, hn1, hn2, hn3, rfl⟩, hbl⟩
  have HN := Lib.hid hn3; clear hn3
  have hlen := RqF.hexLow_length n b
  go_wp2_with fail
  have e16 : (16 - (n : Int)) = ((16 - n : Nat) : Int) := by omega
  rw [e16]
  clear e16
  refine (Tryd.strings_Repeat ⟨#[48]⟩ (16 - n) _ (by omega) (by show 1 * _ ≤ _; omega)).mono ?_
  rintro e w2 ⟨rfl, hbl2⟩
  obtain ⟨R, hR⟩ : ∃ R, R = Lib.repeatL (ByteArray.mk #[48]).data.toList (16 - n) := ⟨_, rfl⟩
  rw [← hR]
  have hRl : R.length = 16 - n := by rw [hR, Lib.repeatL_length]; show _ * 1 = _; omega
  have HR := Lib.hid hR; clear hR
  have hadd1 : ∀ W, (Op.stringOp .add ⟨#[48, 120]⟩ ⟨R.toArray⟩).run Tryd.prog W = .ok (.string ⟨(48 :: 120 :: R).toArray⟩) W := fun W =>
    run_string_add_lists W [48, 120] R (by simp) (by omega)
  have hadd2 : ∀ W, (Op.stringOp .add ⟨(48 :: 120 :: R).toArray⟩ ⟨(RqF.hexLow n b).toArray⟩).run Tryd.prog W = .ok (.string ⟨((48 :: 120 :: R) ++ RqF.hexLow n b).toArray⟩) W := fun W =>
    run_string_add_lists W (48 :: 120 :: R) (RqF.hexLow n b) (by simp; omega) (by omega)
  clear hRl hlen
  go_wp2_with fail
  go_ret
  have hfin : ((48 :: 120 :: R) ++ RqF.hexLow n b) = RqF.textF b := by
    rw [HF.out, HR.out]
    show 48 :: 120 :: (Lib.repeatL [48] (16 - n) ++ RqF.hexLow n b) = _
    rw [RqF.repeat_zero, RqF.hexLow_pad HN.out, show n + (16 - n) = 16 from by omega]
  exact ⟨by rw [← hfin]; rfl, below_trans hbl hbl2⟩
set_option maxRecDepth 100000 in
theorem text_bits_2 (b : Nat) (w : World) (ht : Tabs w) (hb : b < 2 * RqF.sgn) (h : RqF.nan b = false) (h2 : b ≠ RqF.infW) (h3 : RqF.neg b ≠ RqF.infW) (hv : RqF.wholeF b = none)
    (ht1 : (FloatKind.f64.format.order b (RqF.truncF b) == some .eq) = true) (ht2 : (FloatKind.f64.format.order (b % RqF.sgn) 4831355200913801216 == some .lt) = false) :
    Calls Tryd.prog 41 #[.float .f64 b] w fun e w' => e = .returned (.string ⟨(RqF.textF b).toArray⟩) ∧ Below w.heap.size w w' := by
  have HF := Lib.hid (show RqF.textF b = 48 :: 120 :: RqF.hexLow 16 b by unfold RqF.textF; rw [if_neg (by simp [h]), if_neg h2, if_neg h3, hv])
  have HB := Lib.hid hb; clear hb
  have hd : decide (b = RqF.infW) = false := decide_eq_false h2
  have hd2 : decide (RqF.neg b = RqF.infW) = false := decide_eq_false h3
  clear h2 h3 hv
  go_enter Tryd.func41, Tryd.ntmps41
  go_wp2_with (first | (go_at_call 48; refine (isNaN_any _ _).mono ?_; rintro e w' ⟨rfl, rfl⟩) | (go_at_call 49; (with_reducible refine (isInf_pos _ _ HB.out).mono ?_); rintro e w' ⟨rfl, rfl⟩) | (go_at_call 49; (with_reducible refine (isInf_neg _ _ HB.out).mono ?_); rintro e w' ⟨rfl, rfl⟩) | (go_at_call 50; refine (trunc_any _ _ h).mono ?_; rintro e w' ⟨rfl, rfl⟩) | (go_at_call 51; refine (abs_any _ _ HB.out).mono ?_; rintro e w' ⟨rfl, rfl⟩))
  refine (formatUint_16 _ _ HB.out ht.db).mono ?_
  rintro e w1 ⟨⟨n, hn1, hn2, hn3, rfl⟩, hbl⟩
  have HN := Lib.hid hn3; clear hn3
  have hlen := RqF.hexLow_length n b
  go_wp2_with fail
  have e16 : (16 - (n : Int)) = ((16 - n : Nat) : Int) := by omega
  rw [e16]
  clear e16
  refine (Tryd.strings_Repeat ⟨#[48]⟩ (16 - n) _ (by omega) (by show 1 * _ ≤ _; omega)).mono ?_
  rintro e w2 ⟨rfl, hbl2⟩
  obtain ⟨R, hR⟩ : ∃ R, R = Lib.repeatL (ByteArray.mk #[48]).data.toList (16 - n) := ⟨_, rfl⟩
  rw [← hR]
  have hRl : R.length = 16 - n := by rw [hR, Lib.repeatL_length]; show _ * 1 = _; omega
  have HR := Lib.hid hR; clear hR
  have hadd1 : ∀ W, (Op.stringOp .add ⟨#[48, 120]⟩ ⟨R.toArray⟩).run Tryd.prog W = .ok (.string ⟨(48 :: 120 :: R).toArray⟩) W := fun W =>
    run_string_add_lists W [48, 120] R (by simp) (by omega)
  have hadd2 : ∀ W, (Op.stringOp .add ⟨(48 :: 120 :: R).toArray⟩ ⟨(RqF.hexLow n b).toArray⟩).run Tryd.prog W = .ok (.string ⟨((48 :: 120 :: R) ++ RqF.hexLow n b).toArray⟩) W := fun W =>
    run_string_add_lists W (48 :: 120 :: R) (RqF.hexLow n b) (by simp; omega) (by omega)
  clear hRl hlen
  go_wp2_with fail
  go_ret
  have hfin : ((48 :: 120 :: R) ++ RqF.hexLow n b) = RqF.textF b := by
    rw [HF.out, HR.out]
    show 48 :: 120 :: (Lib.repeatL [48] (16 - n) ++ RqF.hexLow n b) = _
    rw [RqF.repeat_zero, RqF.hexLow_pad HN.out, show n + (16 - n) = 16 from by omega]
  exact ⟨by rw [← hfin]; rfl, below_trans hbl hbl2⟩
/-- num.Text: a number is told as 'textF' has it. -/
theorem text_any (b : Nat) (w : World) (ht : Tabs w) (hb : b < 2 * RqF.sgn) :
    Calls Tryd.prog 41 #[.float .f64 b] w fun e w' => e = .returned (.string ⟨(RqF.textF b).toArray⟩) ∧ Below w.heap.size w w' := by
  have lift : ∀ {w : World}, (Calls Tryd.prog 41 #[.float .f64 b] w fun e w' => e = .returned (.string ⟨(RqF.textF b).toArray⟩) ∧ w = w') → Calls Tryd.prog 41 #[.float .f64 b] w fun e w' => e = .returned (.string ⟨(RqF.textF b).toArray⟩) ∧ Below w.heap.size w w' :=
    fun h => h.mono fun _ _ ⟨h1, h2⟩ => ⟨h1, by rw [← h2]; exact Below.refl _ _⟩
  cases h : RqF.nan b
  · by_cases h2 : b = RqF.infW
    · exact lift (text_inf b w hb h h2)
    · by_cases h3 : RqF.neg b = RqF.infW
      · exact lift (text_ninf b w hb h h2 h3)
      · cases hv : RqF.wholeF b with
        | some v => exact text_whole b v w ht hb h h2 h3 hv
        | none =>
          cases ht1 : (FloatKind.f64.format.order b (RqF.truncF b) == some .eq)
          · exact text_bits_1 b w ht hb h h2 h3 hv ht1
          · refine text_bits_2 b w ht hb h h2 h3 hv ht1 ?_
            cases ht2 : (FloatKind.f64.format.order (b % RqF.sgn) 4831355200913801216 == some .lt)
            · rfl
            · have := RqF.lt_1e15 (Nat.mod_lt b (show 0 < RqF.sgn by decide))
              have h5 : b % RqF.sgn < RqF.w15 := by
                have h6 : decide (b % RqF.sgn < RqF.w15) = true := this.symm.trans ht2
                exact of_decide_eq_true h6
              have h7 := RqF.eq_trunc h5
              rw [hv] at h7
              have h8 : (FloatKind.f64.format.order b (RqF.truncF b) == some .eq) = false := h7
              rw [h8] at ht1; cases ht1
  · exact lift (text_nan b w h)
end Go.Proofs.YtnjmhneobgmejaaDoor
