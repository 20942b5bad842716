/- The document's Text is what the number tells. No condition. -/
import Derived.Test.YtnjmhneobgmejaaGreatDoorRefT
import Derived.Test.YtnjmhneobgmejaaGreatDoorNumT
namespace RqF
open Go
theorem textF_doc {b : Nat} (hb : b < 2 * sgn) : textF b = if nan b then [110, 97, 110] else if b % sgn = infW then (if b / sgn % 2 = 1 then [45, 105, 110, 102] else [105, 110, 102]) else
  match wholeF b with
  | some v => if b / sgn % 2 = 1 then 45 :: Go.Lib.decDigits v else Go.Lib.decDigits v
  | none => 48 :: 120 :: hexLow 16 b := by
  unfold textF
  by_cases hn : nan b = true
  · rw [if_pos hn, if_pos hn]
  rw [if_neg hn, if_neg hn]
  have ⟨x1, x2⟩ := xor_top hb
  have e : b % sgn = infW ↔ b = infW ∨ neg b = infW := by
    unfold neg
    constructor
    · intro h
      rcases top_cases hb with ⟨a1, a2, a3⟩ | ⟨a1, a2, a3⟩
      · left; omega
      · right; unfold sgn infW at *; omega
    · rintro (h | h)
      · unfold sgn infW at *; omega
      · rw [← x2, h]; rfl
  by_cases hi : b % sgn = infW
  · rw [if_pos hi]
    rcases top_cases hb with ⟨a1, a2, a3⟩ | ⟨a1, a2, a3⟩
    · rw [if_pos (by omega), if_neg (by omega)]
    · rw [if_neg (by unfold sgn infW at *; omega), if_pos, if_pos (by omega)]
      unfold neg; unfold sgn infW at *; omega
  · rw [if_neg hi, if_neg (fun h => hi (e.2 (Or.inl h))), if_neg (fun h => hi (e.2 (Or.inr h)))]
    cases wholeF b <;> rfl
theorem sign_true {b : Nat} (hb : b < 2 * sgn) (h : (bits .and .u64 (b : Int) 9223372036854775808 != 0) = true) : b / sgn % 2 = 1 := by
  rw [bits_and_top hb] at h
  split at h
  · assumption
  · simp at h
theorem sign_false {b : Nat} (hb : b < 2 * sgn) (h : (bits .and .u64 (b : Int) 9223372036854775808 != 0) = false) : ¬ b / sgn % 2 = 1 := by
  rw [bits_and_top hb] at h
  split at h
  · simp at h
  · assumption
end RqF
namespace Go.Proofs.YtnjmhneobgmejaaGreatDoor
open Go.RowKit

end Go.Proofs.YtnjmhneobgmejaaGreatDoor
