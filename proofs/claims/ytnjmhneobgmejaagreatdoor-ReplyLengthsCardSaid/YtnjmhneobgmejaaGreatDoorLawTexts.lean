/- The walk of NumTexts. Conditions: the library's tables and its two errors are as they are laid; the text is of at most 2^48 bytes. -/
import Derived.Test.YtnjmhneobgmejaaGreatDoorRefParse
namespace RqF
open Ieee

/-- What is told is read as it was. -/
theorem refP_dec (neg : Bool) {v : Nat} (h : v < 1000000000000000) : refP (if neg then 45 :: Go.Lib.decDigits v else Go.Lib.decDigits v) = some (double.word neg (rungOf v)) := by
  have hd := dec_val v
  have hne := (dec_head v).1
  have hinf : Go.Lib.decDigits v ≠ [105, 110, 102] := by
    intro e; rw [e] at hd; exact absurd (hd.2 105 (by simp)) (by decide)
  have hrest : ∀ neg, refRest neg (Go.Lib.decDigits v) = some (double.word neg (rungOf v)) := by
    intro neg; unfold refRest; rw [if_neg hinf, digP_dec h]
  cases neg with
  | true =>
    show refP (45 :: Go.Lib.decDigits v) = _
    unfold refP
    rw [if_neg (by simp), if_neg (by intro hh; have := hh.2; simp at this), if_pos (by rfl)]
    exact hrest true
  | false =>
    show refP (Go.Lib.decDigits v) = _
    unfold refP
    rw [if_neg, if_neg, if_neg]
    · exact hrest false
    · intro e
      cases hx : Go.Lib.decDigits v with
      | nil => exact hne hx
      | cons c r =>
        rw [hx, List.head?_cons] at e
        injection e with e
        exact absurd (hd.2 c (by rw [hx]; exact List.mem_cons_self)) (by rw [e]; decide)
    · intro hh
      obtain ⟨r, hr⟩ := take_two hh.2
      exact dec_no_x hr
    · intro e; rw [e] at hd; exact absurd (hd.2 110 (by simp)) (by decide)

theorem word_as {b : Nat} (hb : b < 2 * sgn) : b = double.word (decide (b / sgn % 2 = 1)) (b % sgn) := by
  rcases top_cases hb with ⟨a1, a2, a3⟩ | ⟨a1, a2, a3⟩
  · rw [a1, a3, (word_sgn _ b).1 (by decide)]
  · rw [a1, a3, (word_sgn _ (b - sgn)).2 (by decide)]; omega

theorem parseP_textF {b : Nat} (hb : b < 2 * sgn) : parseP (textF b) = some (if nan b then 9221120237041090561 else b) := by
  by_cases hn : nan b = true
  · rw [if_pos hn]; unfold textF; rw [if_pos hn]; rfl
  rw [if_neg hn]
  by_cases h1 : b = infW
  · have e : textF b = [105, 110, 102] := by unfold textF; rw [if_neg hn, if_pos h1]
    rw [e, h1]; rfl
  by_cases h2 : neg b = infW
  · have e : textF b = [45, 105, 110, 102] := by unfold textF; rw [if_neg hn, if_neg h1, if_pos h2]
    have ⟨x1, x2⟩ := xor_top hb
    have hb2 : b = 18442240474082181120 := by
      unfold neg at h2
      rw [h2] at x1 x2
      rcases top_cases hb with ⟨a1, a2, a3⟩ | ⟨a1, a2, a3⟩
      · exfalso; unfold sgn infW at *; omega
      · unfold sgn infW at *; omega
    rw [e, hb2]; rfl
  rw [← refP_eq]
  cases hw : wholeF b with
  | some v =>
    have e : textF b = if decide (b / sgn % 2 = 1) then 45 :: Go.Lib.decDigits v else Go.Lib.decDigits v := by
      unfold textF; rw [if_neg hn, if_neg h1, if_neg h2, hw]
      by_cases hs : b / sgn % 2 = 1
      · simp [hs]
      · simp [hs]
    obtain ⟨w1, w2, w3⟩ := wholeF_some hw
    have hr : b % sgn = rungOf v := by
      rw [wholeF_lt w1] at hw
      split at hw
      · rename_i hh; rw [w2]; exact hh
      · cases hw
    rw [e, refP_dec _ w3, ← hr, ← word_as hb]
  | none =>
    have e : textF b = 48 :: 120 :: hexLow 16 b := by unfold textF; rw [if_neg hn, if_neg h1, if_neg h2, hw]
    rw [e, refP_eq, parseP_hex hb (by simpa using hn)]
theorem back_lt_sgn {b : Nat} (hb : b < 2 * sgn) : (if nan b then 9221120237041090561 else b) < 2 * sgn := by
  split
  · decide
  · exact hb
/-- What is read is a word. -/
theorem parseP_lt {l : List UInt8} {b : Nat} (h : parseP l = some b) : b < 2 * sgn := by
  unfold parseP at h
  split at h
  · injection h with h; rw [← h]; decide
  split at h
  · injection h with h; rw [← h]; decide
  split at h
  · injection h with h; rw [← h]; decide
  split at h
  · injection h with h; rw [← h]; decide
  split at h
  · rename_i hb
    injection h with h
    rw [← h]
    unfold bitsP at hb
    split at hb
    · rename_i hh
      injection hb with hb
      rw [← hb]
      have h2 := Go.Proofs.YtnjmhneobgmejaaGreatDoor.unhexA_lt _ hh.2.2.1 0
      have e : (16 : Nat) ^ 16 = 2 * sgn := by decide
      rw [List.length_drop, hh.1, show 18 - 2 = 16 from rfl, e] at h2
      unfold unhex; omega
    · cases hb
  · split at h
    · split at h
      · injection h with h; rw [← h]; exact ofInt_lt _
      · cases h
    · cases h
end RqF
namespace Go.Proofs.YtnjmhneobgmejaaGreatDoor
open Go.RowKit

theorem textF_size (b : Nat) : (ByteArray.mk (RqF.textF b).toArray).size ≤ 281474976710656 := by
  have h : (RqF.textF b).length ≤ 30 := by
    unfold RqF.textF
    split
    · simp
    split
    · simp
    split
    · simp
    split
    · rename_i v hv
      have := RqF.dec_len (RqF.wholeF_some hv).2.2
      split
      · simp; omega
      · omega
    · simp [RqF.hexLow_length]
  show (RqF.textF b).toArray.size ≤ _
  rw [List.size_toArray]; omega
theorem sameB_back (a : Nat) : sameB a (if RqF.nan a then 9221120237041090561 else a) = true := by
  unfold sameB
  rw [decide_eq_true_eq]
  by_cases h : RqF.nan a = true
  · rw [if_pos h]; exact Or.inr ⟨h, by decide⟩
  · rw [if_neg h]; exact Or.inl rfl
theorem sameB_self (a : Nat) : sameB a a = true := by unfold sameB; rw [decide_eq_true_eq]; exact Or.inl rfl
theorem str_self (l : List UInt8) : ((ByteArray.mk l.toArray).toList == (ByteArray.mk l.toArray).toList) = true := beq_self_eq_true _

end Go.Proofs.YtnjmhneobgmejaaGreatDoor
