/- Plain laws on the bits of a word of 64 bits: the top bit asked, set, cleared; all bits turned. No condition. -/
import Derived.Test.YtnjmhneobgmejaaDoorFloat
import Derived.Laws.BitsAllLaws
import Derived.RowKit
namespace RqF
open Go Go.RowKit Ieee

theorem and_sgn {b : Nat} (h : b < 2 * sgn) : b &&& sgn = if b / sgn % 2 = 1 then sgn else 0 := by
  have hs : 0 < sgn := by decide
  have e : sgn = 2 ^ 63 := rfl
  have h1 : (b &&& sgn) / sgn = (b / sgn) &&& (sgn / sgn) := by rw [e]; exact Nat.and_div_two_pow
  have h2 : (b &&& sgn) % sgn = (b % sgn) &&& (sgn % sgn) := by rw [e]; exact Nat.and_mod_two_pow
  rw [Nat.div_self hs] at h1
  rw [Nat.mod_self, Nat.and_zero] at h2
  have hd := Nat.div_add_mod (b &&& sgn) sgn
  rw [h1, h2] at hd
  rcases top_cases h with ⟨a, c, d⟩ | ⟨a, c, d⟩ <;> rw [a] at hd ⊢ <;> rw [← hd] <;> rfl

theorem bits_and_top {b : Nat} (h : b < 2 * sgn) : bits .and .u64 (b : Int) 9223372036854775808 = if b / sgn % 2 = 1 then 9223372036854775808 else 0 := by
  have := u64_and_nat b sgn (by unfold sgn at h; omega) (by unfold sgn; omega)
  rw [and_sgn h] at this
  have e : ((sgn : Nat) : Int) = 9223372036854775808 := rfl
  rw [← e, this]
  split <;> rfl

theorem or_sgn {b : Nat} (h : b < sgn) : b ||| sgn = b + sgn := by
  have := Nat.two_pow_add_eq_or_of_lt (i := 63) (b := b) h 1
  rw [Nat.mul_one] at this
  show b ||| 2 ^ 63 = b + 2 ^ 63
  rw [Nat.or_comm, ← this, Nat.add_comm]

theorem bits_or_top {b : Nat} (h : b < sgn) : bits .or .u64 (b : Int) 9223372036854775808 = ((b + sgn : Nat) : Int) := by
  have := u64_or_nat b sgn (by unfold sgn at h; omega) (by unfold sgn; omega)
  rw [or_sgn h] at this
  have e : ((sgn : Nat) : Int) = 9223372036854775808 := rfl
  rw [← e, this]

theorem xor_max {b : Nat} (h : b < 2 * sgn) : 18446744073709551615 ^^^ b = 18446744073709551615 - b := by
  have h1 : (BitVec.allOnes 64 ^^^ BitVec.ofNat 64 b).toNat = (~~~ BitVec.ofNat 64 b).toNat := by rw [BitVec.allOnes_xor]
  rw [BitVec.toNat_xor, BitVec.toNat_not, BitVec.toNat_allOnes, BitVec.toNat_ofNat, Nat.mod_eq_of_lt (show b < 2 ^ 64 from h)] at h1
  exact h1

theorem bits_not {b : Nat} (h : b < 2 * sgn) : bits .xor .u64 IntKind.u64.max (b : Int) = ((18446744073709551615 - b : Nat) : Int) := by
  have := bits_xor_u64_nat 18446744073709551615 b (by omega) (by unfold sgn at h; omega)
  rw [xor_max h] at this
  rw [← this]; rfl

theorem bits_andNot_top {b : Nat} (h : b < 2 * sgn) : bits .andNot .u64 (b : Int) 9223372036854775808 = ((b % sgn : Nat) : Int) := by
  have := u64_andNot_nat b sgn (by unfold sgn at h; omega) (by unfold sgn; omega)
  have e : ((sgn : Nat) : Int) = 9223372036854775808 := rfl
  rw [← e, this]
  congr 1
  show b &&& (2 ^ 63 - 1) = b % 2 ^ 63
  rw [Nat.and_two_pow_sub_one_eq_mod]

/-- The code, told by the tests that the walk meets. -/
theorem code_nan {b : Nat} (h : nan b = true) : (18446744073709551615 : Int) = ((code b : Nat) : Int) := by
  unfold code; rw [h]; rfl
theorem code_neg {b : Nat} (h : b < 2 * sgn) (hn : nan b = false) (ht : 0 < bits .and .u64 (b : Int) 9223372036854775808) : bits .xor .u64 IntKind.u64.max (b : Int) = ((code b : Nat) : Int) := by
  rw [bits_and_top h] at ht
  unfold code; rw [bits_not h, hn]
  split at ht
  · rename_i e; simp [e]
  · omega
theorem code_pos {b : Nat} (h : b < 2 * sgn) (hn : nan b = false) (ht : bits .and .u64 (b : Int) 9223372036854775808 ≤ 0) : bits .or .u64 (b : Int) 9223372036854775808 = ((code b : Nat) : Int) := by
  rw [bits_and_top h] at ht
  split at ht
  · omega
  · rename_i e
    unfold code; rw [hn]
    rcases top_cases h with ⟨a, c, d⟩ | ⟨a, c, d⟩
    · rw [bits_or_top c]; simp [e]
    · rw [a] at e; omega

/-- The word that a code leads back to, as it is handed out: of what is no number's one word. -/
def backF (c : Nat) : Nat := if nan (back c) then 9221120237041090561 else back c

theorem back_lt {c : Nat} (h : c < 2 * sgn) : back c < 2 * sgn := by rw [back_top h]; unfold sgn at *; split <;> omega

theorem toNat_andNot_top {c : Nat} (h : c < 2 * sgn) (ht : bits .and .u64 (c : Int) 9223372036854775808 ≠ 0) : (bits .andNot .u64 (c : Int) 9223372036854775808).toNat = back c := by
  rw [bits_andNot_top h, Int.toNat_natCast, back_top h]
  rw [bits_and_top h] at ht
  rcases top_cases h with ⟨a, b, d⟩ | ⟨a, b, d⟩
  · rw [a] at ht; exact absurd rfl ht
  · rw [if_pos b, d]
theorem toNat_not {c : Nat} (h : c < 2 * sgn) (ht : bits .and .u64 (c : Int) 9223372036854775808 = 0) : (bits .xor .u64 IntKind.u64.max (c : Int)).toNat = back c := by
  rw [bits_not h, Int.toNat_natCast, back_top h]
  rw [bits_and_top h] at ht
  rcases top_cases h with ⟨a, b, d⟩ | ⟨a, b, d⟩
  · rw [if_neg (by omega)]
  · rw [a] at ht; simp at ht

theorem nan_bits {b : Nat} (h : b < 2 * sgn) : decide ((9218868437227405312 : Int) < bits .andNot .u64 (b : Int) 9223372036854775808) = nan b := by
  rw [bits_andNot_top h]
  unfold nan infW
  rw [Bool.eq_iff_iff]; simp only [decide_eq_true_eq]; omega

theorem neg_lt_zero_iff {b : Nat} (h : b < 2 * sgn) : decide (wrap64 (b : Int) < 0) = decide (b / sgn % 2 = 1) := by
  rcases top_cases h with ⟨a, c, d⟩ | ⟨a, c, d⟩
  · rw [a]
    have : wrap64 (b : Int) = b := by unfold sgn at c; unfold wrap64; omega
    rw [this]; simp
  · rw [a]
    have : wrap64 (b : Int) = b - 18446744073709551616 := by unfold sgn at c h; unfold wrap64; omega
    rw [this]; unfold sgn at h; simp; omega

theorem back_c1 {c : Nat} (h : c < 2 * sgn) (h1 : (bits .and .u64 (c : Int) 9223372036854775808 == 0) = true) (h2 : nan (bits .xor .u64 IntKind.u64.max (c : Int)).toNat = true) : 9221120237041090561 = backF c := by
  rw [toNat_not h (by simpa using h1)] at h2; unfold backF; rw [if_pos h2]
theorem back_c2 {c : Nat} (h : c < 2 * sgn) (h1 : (bits .and .u64 (c : Int) 9223372036854775808 == 0) = true) (h2 : nan (bits .xor .u64 IntKind.u64.max (c : Int)).toNat = false) : (bits .xor .u64 IntKind.u64.max (c : Int)).toNat = backF c := by
  have h3 := toNat_not h (by simpa using h1)
  rw [h3] at h2 ⊢; unfold backF; rw [h2]; simp
theorem back_c3 {c : Nat} (h : c < 2 * sgn) (h1 : (bits .and .u64 (c : Int) 9223372036854775808 == 0) = false) (h2 : nan (bits .andNot .u64 (c : Int) 9223372036854775808).toNat = true) : 9221120237041090561 = backF c := by
  rw [toNat_andNot_top h (by simpa using h1)] at h2; unfold backF; rw [if_pos h2]
theorem back_c4 {c : Nat} (h : c < 2 * sgn) (h1 : (bits .and .u64 (c : Int) 9223372036854775808 == 0) = false) (h2 : nan (bits .andNot .u64 (c : Int) 9223372036854775808).toNat = false) : (bits .andNot .u64 (c : Int) 9223372036854775808).toNat = backF c := by
  have h3 := toNat_andNot_top h (by simpa using h1)
  rw [h3] at h2 ⊢; unfold backF; rw [h2]; simp

theorem abs_eq {b : Nat} (h : b < 2 * sgn) : (bits .andNot .u64 (b : Int) 9223372036854775808).toNat = b % sgn := by
  rw [bits_andNot_top h, Int.toNat_natCast]

/-- The first number's size under the second one's sign. -/
def cps (a b : Nat) : Nat := a % sgn + (if b / sgn % 2 = 1 then sgn else 0)
theorem copysign_eq {a b : Nat} (ha : a < 2 * sgn) (hb : b < 2 * sgn) : (bits .or .u64 (bits .andNot .u64 (a : Int) 9223372036854775808) (bits .and .u64 (b : Int) 9223372036854775808)).toNat = cps a b := by
  unfold cps
  rw [bits_andNot_top ha, bits_and_top hb]
  have hm := Nat.mod_lt a (show 0 < sgn by decide)
  split
  · rw [bits_or_top hm, Int.toNat_natCast]
  · have := u64_or_nat (a % sgn) 0 (by unfold sgn at *; omega) (by omega)
    rw [Nat.or_zero] at this
    have e : ((0 : Nat) : Int) = 0 := rfl
    rw [← e, this, Int.toNat_natCast, Nat.add_zero]

theorem gt_max {x : Nat} (h : x < 2 * sgn) : (double.order x 9218868437227405311 == some .gt) = decide (x = infW) := by
  have hm : nan 9218868437227405311 = false := by decide
  have hk : skey 9218868437227405311 = 9218868437227405311 := by decide
  cases hn : nan x
  · rw [order_eq hn hm, hk]
    have e : ((some (compare (skey x) 9218868437227405311) == some Ordering.gt) : Bool) = decide (compare (skey x) 9218868437227405311 = .gt) := by
      rcases (compare (skey x) 9218868437227405311) <;> rfl
    rw [e, Bool.eq_iff_iff]
    simp only [decide_eq_true_eq]
    rw [Int.compare_eq_gt, skey_top h]
    rw [nan_top h] at hn
    simp only [decide_eq_false_iff_not] at hn
    unfold sgn infW at *
    split <;> omega
  · rw [order_nan_left hn, Bool.eq_iff_iff]
    simp only [decide_eq_true_eq]
    constructor
    · intro h; cases h
    · intro h; rw [h] at hn; revert hn; decide

theorem nan_cut (t : Nat) : nan ((t % 2) * 9223372036854775808 + 9218868437227405312 + 1 + (t / 2) % 4503599627370495) = true := by
  unfold nan infW sgn
  simp only [decide_eq_true_eq]
  have h1 : t % 2 < 2 := Nat.mod_lt _ (by decide)
  have h2 : t / 2 % 4503599627370495 < 4503599627370495 := Nat.mod_lt _ (by decide)
  generalize t / 2 % 4503599627370495 = c at *
  rcases lt2 h1 with e | e <;> rw [e] <;> omega

theorem code_neg' {b : Nat} (h : b < 2 * sgn) (hn : nan b = false) (ht : (bits .and .u64 (b : Int) 9223372036854775808 != 0) = true) : bits .xor .u64 IntKind.u64.max (b : Int) = ((code b : Nat) : Int) := by
  refine code_neg h hn ?_
  rw [bits_and_top h] at ht ⊢
  split
  · omega
  · rename_i e; rw [if_neg e] at ht; simp at ht
theorem code_pos' {b : Nat} (h : b < 2 * sgn) (hn : nan b = false) (ht : (bits .and .u64 (b : Int) 9223372036854775808 != 0) = false) : bits .or .u64 (b : Int) 9223372036854775808 = ((code b : Nat) : Int) := by
  refine code_pos h hn ?_
  simp at ht; omega

theorem back_i1 {c : Nat} (h : c < 2 * sgn) (ht : (bits .and .u64 (c : Int) 9223372036854775808 != 0) = true) : bits .andNot .u64 (c : Int) 9223372036854775808 = ((back c : Nat) : Int) := by
  have := toNat_andNot_top h (by simpa using ht)
  rw [← this, bits_andNot_top h, Int.toNat_natCast]
theorem back_i2 {c : Nat} (h : c < 2 * sgn) (ht : (bits .and .u64 (c : Int) 9223372036854775808 != 0) = false) : bits .xor .u64 IntKind.u64.max (c : Int) = ((back c : Nat) : Int) := by
  have := toNat_not h (by simpa using ht)
  rw [← this, bits_not h, Int.toNat_natCast]

theorem nan_bits2 {b : Nat} (h : b < 2 * sgn) : decide ((9218868437227405312 : Int) < bits .and .u64 (b : Int) 9223372036854775807) = nan b := by
  have := u64_and_nat b 9223372036854775807 (by unfold sgn at h; omega) (by omega)
  have e : ((9223372036854775807 : Nat) : Int) = 9223372036854775807 := rfl
  rw [← e, this]
  have e2 : b &&& 9223372036854775807 = b % sgn := by
    show b &&& (2 ^ 63 - 1) = b % 2 ^ 63
    rw [Nat.and_two_pow_sub_one_eq_mod]
  rw [e2]
  unfold nan infW
  rw [Bool.eq_iff_iff]; simp only [decide_eq_true_eq]; omega


theorem nan_or_back {a : Nat} (h : a < 2 * sgn) : backF (code a) = a ∨ nan (backF (code a)) = true ∧ nan a = true := by
  cases hn : nan a
  · left
    have hb := back_code h hn
    unfold backF; rw [hb, hn]; simp
  · right
    have hc : code a = 18446744073709551615 := by unfold code; rw [hn]; rfl
    rw [hc]
    exact ⟨by decide +kernel, rfl⟩

theorem code_inf : code infW = 18442240474082181120 := by decide +kernel

end RqF
