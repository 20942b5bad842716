/- The document's Text is what the number tells. No condition. -/
import Derived.Test.YtnjmhneobgmejaaDoorRefT
import Derived.Test.YtnjmhneobgmejaaDoorNumT
namespace RqF
open Go
theorem textF_doc {b : Nat} (hb : b < 2 * sgn) : textF b = if nan b then [110, 97, 110] else if b % sgn = infW then (if b / sgn % 2 = 1 then [45, 105, 110, 102] else [105, 110, 102]) else
  match wholeF b with
  | some v => if b / sgn % 2 = 1 then 45 :: Go.Lib.decDigits v else Go.Lib.decDigits v
  | none => 48 :: 120 :: hexLow 16 b := by
  unfold textF
  by_cases hn : nan b = true
  · rw [if_pos hn, if_pos hn]
  rw [if_neg hn, if_neg hn]
  have ⟨x1, x2⟩ := xor_top hb
  have e : b % sgn = infW ↔ b = infW ∨ neg b = infW := by
    unfold neg
    constructor
    · intro h
      rcases top_cases hb with ⟨a1, a2, a3⟩ | ⟨a1, a2, a3⟩
      · left; omega
      · right; unfold sgn infW at *; omega
    · rintro (h | h)
      · unfold sgn infW at *; omega
      · rw [← x2, h]; rfl
  by_cases hi : b % sgn = infW
  · rw [if_pos hi]
    rcases top_cases hb with ⟨a1, a2, a3⟩ | ⟨a1, a2, a3⟩
    · rw [if_pos (by omega), if_neg (by omega)]
    · rw [if_neg (by unfold sgn infW at *; omega), if_pos, if_pos (by omega)]
      unfold neg; unfold sgn infW at *; omega
  · rw [if_neg hi, if_neg (fun h => hi (e.2 (Or.inl h))), if_neg (fun h => hi (e.2 (Or.inr h)))]
    cases wholeF b <;> rfl
theorem sign_true {b : Nat} (hb : b < 2 * sgn) (h : (bits .and .u64 (b : Int) 9223372036854775808 != 0) = true) : b / sgn % 2 = 1 := by
  rw [bits_and_top hb] at h
  split at h
  · assumption
  · simp at h
theorem sign_false {b : Nat} (hb : b < 2 * sgn) (h : (bits .and .u64 (b : Int) 9223372036854775808 != 0) = false) : ¬ b / sgn % 2 = 1 := by
  rw [bits_and_top hb] at h
  split at h
  · simp at h
  · assumption
end RqF
namespace Go.Proofs.YtnjmhneobgmejaaDoor
open Go.RowKit

set_option maxRecDepth 100000 in
set_option maxHeartbeats 1000000 in
theorem r3text_nan (b : Nat) (w : World) (hb : b < 2 * RqF.sgn) (hn : RqF.nan b = true) :
    Calls Tryd.prog 42 #[.float .f64 b] w fun e w' => e = .returned (.string ⟨(RqF.textF b).toArray⟩) ∧ w = w' := by
  have HF := Lib.hid (RqF.textF_doc hb)
  have HB := Lib.hid hb; clear hb
  go_enter Tryd.func42, Tryd.ntmps42
  go_wp2_with (first | (go_at_call 31; refine (r3nan_any _ _ HB.out).mono ?_; rintro e w' ⟨rfl, rfl⟩) | (go_at_call 56; refine (r3whole_any _ _ HB.out).mono ?_; rintro e w' ⟨⟨v, rfl, hv⟩, rfl⟩; have HV := Lib.hid hv; clear hv) | go_in)
  all_goals
    go_ret
    exact ⟨by rw [HF.out, if_pos hn]; rfl, rfl⟩

set_option maxRecDepth 100000 in
set_option maxHeartbeats 1000000 in
theorem r3text_inf (b r : Nat) (w : World) (hb : b < 2 * RqF.sgn) (hn : RqF.nan b = false) (hr : bits BinOp.andNot IntKind.u64 (b : Int) 9223372036854775808 = (r : Int)) (hi : r = 9218868437227405312) (HI : Hid (b % RqF.sgn = RqF.infW)) :
    Calls Tryd.prog 42 #[.float .f64 b] w fun e w' => e = .returned (.string ⟨(RqF.textF b).toArray⟩) ∧ w = w' := by
  have HF := Lib.hid (RqF.textF_doc hb)
  have HB := Lib.hid hb; clear hb
  go_enter Tryd.func42, Tryd.ntmps42
  go_wp2_with (first | (go_at_call 31; refine (r3nan_any _ _ HB.out).mono ?_; rintro e w' ⟨rfl, rfl⟩) | (go_at_call 56; refine (r3whole_any _ _ HB.out).mono ?_; rintro e w' ⟨⟨v, rfl, hv⟩, rfl⟩; have HV := Lib.hid hv; clear hv) | go_in)
  all_goals go_ret
  · have hs := RqF.sign_true HB.out (by assumption)
    exact ⟨by rw [HF.out, if_neg (by simp [hn]), if_pos HI.out, if_pos hs]; rfl, rfl⟩
  · have hs := RqF.sign_false HB.out (by assumption)
    exact ⟨by rw [HF.out, if_neg (by simp [hn]), if_pos HI.out, if_neg hs]; rfl, rfl⟩

set_option maxRecDepth 100000 in
set_option maxHeartbeats 1000000 in
theorem r3text_whole (b r v : Nat) (w : World) (hb : b < 2 * RqF.sgn) (hn : RqF.nan b = false) (hr : bits BinOp.andNot IntKind.u64 (b : Int) 9223372036854775808 = (r : Int)) (hi : r ≠ 9218868437227405312) (HI : Hid (b % RqF.sgn ≠ RqF.infW)) (hw : RqF.wholeF b = some v) :
    Calls Tryd.prog 42 #[.float .f64 b] w fun e w' => e = .returned (.string ⟨(RqF.textF b).toArray⟩) ∧ w = w' := by
  have HF := Lib.hid (RqF.textF_doc hb)
  have HB := Lib.hid hb; clear hb
  have hw3 := (RqF.wholeF_some hw).2.2
  have HL := Lib.hid (dec_short hw3)
  have HW := Lib.hid hw
  have HV3 : Hid (v < 2 * RqF.sgn) := by have : v < 2 * RqF.sgn := by unfold RqF.sgn; omega
                                         exact this
  clear hw hw3
  have hadd : ∀ W, (Op.stringOp .add ⟨#[45]⟩ ⟨(Lib.decDigits v).toArray⟩).run Tryd.prog W = .ok (.string ⟨(45 :: Lib.decDigits v).toArray⟩) W := fun W =>
    run_string_add_lists W [45] (Lib.decDigits v) (by simp) (by have := HL.out; omega)
  have hadd2 : ∀ W, (Op.stringOp .add ⟨#[]⟩ ⟨(Lib.decDigits v).toArray⟩).run Tryd.prog W = .ok (.string ⟨(Lib.decDigits v).toArray⟩) W := fun W =>
    run_string_add_lists W [] (Lib.decDigits v) (by simp) (by have := HL.out; omega)
  go_enter Tryd.func42, Tryd.ntmps42
  go_wp2_with (first | (go_at_call 31; refine (r3nan_any _ _ HB.out).mono ?_; rintro e w' ⟨rfl, rfl⟩) | (go_at_call 56; refine (r3whole_any _ _ HB.out).mono ?_; rintro e w' ⟨⟨u, rfl, hv⟩, rfl⟩; rw [HW.out]; obtain rfl := (hv _ HW.out); clear hv) | (go_at_call 45; refine (digits_any _ _ HV3.out).mono ?_; rintro e w' ⟨rfl, rfl⟩) | go_in)
  all_goals go_ret
  · have hs := RqF.sign_true HB.out (by assumption)
    exact ⟨by rw [HF.out, if_neg (by simp [hn]), if_neg HI.out, HW.out]; simp only; rw [if_pos hs]; rfl, rfl⟩
  · have hs := RqF.sign_false HB.out (by assumption)
    exact ⟨by rw [HF.out, if_neg (by simp [hn]), if_neg HI.out, HW.out]; simp only; rw [if_neg hs]; rfl, rfl⟩

set_option maxRecDepth 100000 in
set_option maxHeartbeats 1000000 in
theorem r3text_bits (b r : Nat) (w : World) (hb : b < 2 * RqF.sgn) (hn : RqF.nan b = false) (hr : bits BinOp.andNot IntKind.u64 (b : Int) 9223372036854775808 = (r : Int)) (hi : r ≠ 9218868437227405312) (HI : Hid (b % RqF.sgn ≠ RqF.infW)) (hw : RqF.wholeF b = none) :
    Calls Tryd.prog 42 #[.float .f64 b] w fun e w' => e = .returned (.string ⟨(RqF.textF b).toArray⟩) ∧ w = w' := by
  have HF := Lib.hid (RqF.textF_doc hb)
  have HB := Lib.hid hb; clear hb
  have HW := Lib.hid hw
  clear hw
  have hlen := RqF.hexLow_length 16 b
  have hadd : ∀ W, (Op.stringOp .add ⟨#[48, 120]⟩ ⟨(RqF.hexLow 16 b).toArray⟩).run Tryd.prog W = .ok (.string ⟨(48 :: 120 :: RqF.hexLow 16 b).toArray⟩) W := fun W =>
    run_string_add_lists W [48, 120] (RqF.hexLow 16 b) (by simp) (by omega)
  go_enter Tryd.func42, Tryd.ntmps42
  go_wp2_with (first | (go_at_call 31; refine (r3nan_any _ _ HB.out).mono ?_; rintro e w' ⟨rfl, rfl⟩) | (go_at_call 56; refine (r3whole_any _ _ HB.out).mono ?_; rintro e w' ⟨⟨u, rfl, hv⟩, rfl⟩; rw [HW.out]; clear hv) | (go_at_call 57; refine (r3hex_any _ _ HB.out).mono ?_; rintro e w' ⟨rfl, rfl⟩) | go_in)
  all_goals
    go_ret
    exact ⟨by rw [HF.out, if_neg (by simp [hn]), if_neg HI.out, HW.out]; rfl, rfl⟩

theorem r3text_any (b : Nat) (w : World) (hb : b < 2 * RqF.sgn) :
    Calls Tryd.prog 42 #[.float .f64 b] w fun e w' => e = .returned (.string ⟨(RqF.textF b).toArray⟩) ∧ w = w' := by
  have hr := RqF.bits_andNot_top hb
  cases hn : RqF.nan b with
  | true => exact r3text_nan b w hb hn
  | false =>
    by_cases hi : b % RqF.sgn = RqF.infW
    · exact r3text_inf b _ w hb hn hr hi hi
    · cases hw : RqF.wholeF b with
      | some v => exact r3text_whole b _ v w hb hn hr hi hi hw
      | none => exact r3text_bits b _ w hb hn hr hi hi hw
end Go.Proofs.YtnjmhneobgmejaaDoor
