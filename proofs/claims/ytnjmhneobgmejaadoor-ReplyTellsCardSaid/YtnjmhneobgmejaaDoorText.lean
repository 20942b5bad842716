/- Plain laws on how a double is told: whole numbers below 10^15 by their digits, others by the digits of their bits. No condition. -/
import Derived.Test.YtnjmhneobgmejaaDoorBits
import Derived.Lib.ItoaNum
import Derived.Lib.Repeat
import Derived.Laws.FloatArith
namespace RqF
open Ieee

theorem cut_zero (s : Bool) (n d : Nat) : Toward.zero.cut s n d = n / 2 ^ d := by
  unfold Toward.cut
  simp only [Nat.shiftLeft_eq, Nat.one_mul, Bool.toNat_false, Nat.add_zero]
  by_cases h : d ≤ n.log2 + 2
  · rw [Nat.min_eq_left h]
  · rw [Nat.min_eq_right (by omega)]
    have h1 : n < 2 ^ (n.log2 + 1) := Nat.lt_log2_self
    have h2 : 2 ^ (n.log2 + 1) ≤ 2 ^ (n.log2 + 2) := Nat.pow_le_pow_right (by decide) (by omega)
    have h3 : 2 ^ (n.log2 + 1) ≤ 2 ^ d := Nat.pow_le_pow_right (by decide) (by omega)
    rw [Nat.div_eq_of_lt (by omega), Nat.div_eq_of_lt (by omega)]

/-- The rung of a whole number below 2^53. -/
def rungOf (t : Nat) : Nat := if t = 0 then 0 else (1023 + t.log2) * bin + (t * 2 ^ (52 - t.log2) - bin)

theorem rungOf_spec {t : Nat} (h0 : t ≠ 0) (h : t < 9007199254740992) : t.log2 ≤ 52 ∧ bin ≤ t * 2 ^ (52 - t.log2) ∧ t * 2 ^ (52 - t.log2) < 2 * bin := by
  have hl : t.log2 < 53 := (Nat.log2_lt h0).2 (by omega)
  have a := (Nat.log2_eq_iff (k := t.log2) h0).1 rfl
  refine ⟨by omega, ?_, ?_⟩
  · have := Nat.mul_le_mul_right (2 ^ (52 - t.log2)) a.1
    rw [← Nat.pow_add, show t.log2 + (52 - t.log2) = 52 from by omega] at this
    exact this
  · have := Nat.mul_lt_mul_of_pos_right a.2 (Nat.two_pow_pos (52 - t.log2))
    rw [← Nat.pow_add, show t.log2 + 1 + (52 - t.log2) = 53 from by omega] at this
    exact this

theorem rungOf_lt {t : Nat} (h : t < 9007199254740992) : rungOf t < infW := by
  unfold rungOf
  split
  · decide
  · rename_i h0
    obtain ⟨a, b, c⟩ := rungOf_spec h0 h
    generalize t * 2 ^ (52 - t.log2) = q at *
    generalize t.log2 = k at *
    unfold bin infW at *
    omega

theorem val_rungOf {t : Nat} (h : t < 9007199254740992) : val (rungOf t) = t * 2 ^ 1074 := by
  by_cases h0 : t = 0
  · generalize 2 ^ 1074 = q; rw [h0, Nat.zero_mul]; exact val_zero
  · obtain ⟨a, b, c⟩ := rungOf_spec h0 h
    unfold rungOf
    rw [if_neg h0]
    have hq : (t * 2 ^ (52 - t.log2)) * 2 ^ (1022 + t.log2) = t * 2 ^ 1074 := by
      rw [Nat.mul_assoc, ← Nat.pow_add, show 52 - t.log2 + (1022 + t.log2) = 1074 from by omega]
    generalize t * 2 ^ (52 - t.log2) = q at *
    have hb : 0 < bin := by decide
    have e1 : ((1023 + t.log2) * bin + (q - bin)) % bin = q - bin := by
      rw [Nat.mul_comm, Nat.mul_add_mod]; exact Nat.mod_eq_of_lt (by omega)
    have e2 : ((1023 + t.log2) * bin + (q - bin)) / bin = 1023 + t.log2 := by
      rw [Nat.mul_comm, Nat.mul_add_div hb, Nat.div_eq_of_lt (by omega)]; omega
    unfold val
    rw [if_neg (by have : 1 * bin ≤ (1023 + t.log2) * bin := Nat.mul_le_mul_right _ (by omega); omega), e1, e2]
    rw [show bin + (q - bin) = q from by omega, show 1023 + t.log2 - 1 = 1022 + t.log2 from by omega]
    exact hq

theorem least_eq : double.leastPlace = -1074 := by decide

/-- A whole number, written. -/
theorem nearest_whole (s : Bool) {t : Nat} (h : t < 9007199254740992) : double.nearest s t 0 = double.word s (rungOf t) :=
  nearest_exact s (d := 1074) (rungOf_lt h) (by rw [least_eq]; rfl) (val_rungOf h).symm

theorem val_inj {r s : Nat} (h : val r = val s) : r = s := by
  rcases Nat.lt_trichotomy r s with a | a | a
  · have := val_lt a; omega
  · exact a
  · have := val_lt a; omega

/-- The whole number that a word tells, below 10^15, if it is one. -/
def wholeF (b : Nat) : Option Nat :=
  let r := b % sgn
  if r = 0 then some 0 else
  if r / bin < 1023 ∨ 1075 < r / bin then none else
  if (bin + r % bin) % 2 ^ (1075 - r / bin) ≠ 0 then none else
  if (bin + r % bin) / 2 ^ (1075 - r / bin) < 1000000000000000 then some ((bin + r % bin) / 2 ^ (1075 - r / bin)) else none

/-- Cut towards nought. -/
def truncF (x : Nat) : Nat := double.write ((double.read x).integral .zero)

/-- The size of a number below 10^15, cut. -/
def cutF (r : Nat) : Nat := mag r / 2 ^ (1074 - up r)

def w15 : Nat := 4831355200913801216

theorem lt_w15 {r : Nat} (h : r < w15) : up r ≤ 1071 ∧ r < infW ∧ cutF r < 9007199254740992 := by
  have hb : 0 < bin := by decide
  have h1 : r / bin < 1073 := by rw [Nat.div_lt_iff_lt_mul hb]; unfold w15 at h; unfold bin; omega
  have hm := Nat.mod_lt r hb
  refine ⟨by unfold up; split <;> omega, by unfold w15 at h; unfold infW; omega, ?_⟩
  have : mag r < 9007199254740992 := by
    unfold mag; unfold bin at *; split <;> omega
  exact Nat.lt_of_le_of_lt (Nat.div_le_self _ _) this

theorem trunc_eq {x : Nat} (h : x % sgn < w15) : truncF x = double.word (x / sgn % 2 == 1) (rungOf (cutF (x % sgn))) := by
  obtain ⟨h1, h2, h3⟩ := lt_w15 h
  unfold truncF
  rw [read_num h2]
  simp only [Datum.integral]
  rw [cut_zero]
  have e1 : (double.leastPlace + (up (x % sgn) : Int)).toNat = 0 := by rw [least_eq]; omega
  have e2 : (-(double.leastPlace + (up (x % sgn) : Int))).toNat = 1074 - up (x % sgn) := by rw [least_eq]; omega
  rw [e1, e2, Nat.shiftLeft_zero]
  exact nearest_whole _ h3

theorem toInt_eq {r : Nat} (h : r < w15) : (double.read r).toInt .zero = some (cutF r : Int) := by
  have hr : r < sgn := by unfold w15 at h; unfold sgn; omega
  have e0 : r % sgn = r := Nat.mod_eq_of_lt hr
  have e3 : r / sgn = 0 := Nat.div_eq_of_lt hr
  obtain ⟨h1, h2, h3⟩ := lt_w15 h
  have hr2 := read_num (b := r) (by rw [e0]; exact h2)
  rw [e0, e3] at hr2
  rw [hr2]
  simp only [Datum.toInt, Datum.integral]
  rw [cut_zero]
  have e1 : (double.leastPlace + (up r : Int)).toNat = 0 := by rw [least_eq]; omega
  have e2 : (-(double.leastPlace + (up r : Int))).toNat = 1074 - up r := by rw [least_eq]; omega
  rw [e1, e2, Nat.shiftLeft_zero]
  simp [signed, cutF]

/-- Whole just where nothing is cut off. -/
theorem whole_iff {r : Nat} (h : r < w15) : r = rungOf (cutF r) ↔ mag r % 2 ^ (1074 - up r) = 0 := by
  obtain ⟨h1, h2, h3⟩ := lt_w15 h
  have hv := val_rungOf h3
  have hp : 2 ^ 1074 = 2 ^ (1074 - up r) * 2 ^ up r := by rw [← Nat.pow_add, show 1074 - up r + up r = 1074 from by omega]
  have hd := Nat.div_add_mod (mag r) (2 ^ (1074 - up r))
  have hu := Nat.two_pow_pos (up r)
  rw [hp, ← Nat.mul_assoc] at hv
  rw [show cutF r * 2 ^ (1074 - up r) = 2 ^ (1074 - up r) * (mag r / 2 ^ (1074 - up r)) from Nat.mul_comm _ _] at hv
  have hr := val_eq r
  constructor
  · intro e
    rw [← e, hr] at hv
    have := Nat.eq_of_mul_eq_mul_right hu hv
    omega
  · intro e
    rw [e, Nat.add_zero] at hd
    rw [hd] at hv
    exact val_inj (by rw [hr, hv])

theorem bin_lt_pow {k : Nat} (h : 52 < k) : bin < 2 ^ k := by
  have e : bin = 2 ^ 52 := rfl
  rw [e]; exact Nat.pow_lt_pow_right (by decide) h

theorem wholeF_lt {b : Nat} (h : b % sgn < w15) : wholeF b = if b % sgn = rungOf (cutF (b % sgn)) then some (cutF (b % sgn)) else none := by
  obtain ⟨h1, h2, h3⟩ := lt_w15 h
  have hi := whole_iff h
  have hb : 0 < bin := by decide
  unfold wholeF
  simp only
  generalize b % sgn = r at *
  have hm := Nat.mod_lt r hb
  have hf : r / bin < 1073 := by rw [Nat.div_lt_iff_lt_mul hb]; unfold w15 at h; unfold bin; omega
  by_cases h0 : r = 0
  · subst h0; rw [if_pos rfl]
    have hc : cutF 0 = 0 := by unfold cutF; have : mag 0 = 0 := by decide
                               rw [this, Nat.zero_div]
    rw [hc]; have : rungOf 0 = 0 := by decide
    rw [this]; simp
  · rw [if_neg h0]
    by_cases hs : r < bin
    · have e0 : r / bin = 0 := Nat.div_eq_of_lt hs
      rw [if_pos (by omega), if_neg]
      rw [hi]
      have e1 : mag r = r := by unfold mag; rw [if_pos hs]
      have e2 : up r = 0 := by unfold up; rw [if_pos hs]
      have key : ∀ k, 52 < k → r % 2 ^ k ≠ 0 := fun k hk => by
        rw [Nat.mod_eq_of_lt (Nat.lt_trans hs (bin_lt_pow hk))]; exact h0
      intro e
      rw [e1] at e
      exact key (1074 - up r) (by omega) e
    · have hge : 1 ≤ r / bin := (Nat.le_div_iff_mul_le hb).2 (by omega)
      have em : mag r = bin + r % bin := by unfold mag; rw [if_neg hs]
      have eu : up r = r / bin - 1 := by unfold up; rw [if_neg hs]
      have ed : 1074 - up r = 1075 - r / bin := by rw [eu]; generalize r / bin = q at *; omega
      unfold cutF at *
      rw [em, ed] at hi h3 ⊢
      by_cases h5 : r / bin < 1023
      · rw [if_pos (Or.inl h5), if_neg]
        rw [hi]
        have hp : 2 ^ 53 ≤ 2 ^ (1075 - r / bin) := Nat.pow_le_pow_right (by decide) (by generalize r / bin = q at *; omega)
        rw [Nat.mod_eq_of_lt]
        · unfold bin at *; omega
        · have : (2 : Nat) ^ 53 = 2 * bin := by decide
          omega
      · rw [if_neg (by generalize r / bin = q at *; omega)]
        by_cases h6 : (bin + r % bin) % 2 ^ (1075 - r / bin) = 0
        · rw [if_neg (by simp [h6]), if_pos (hi.2 h6), if_pos]
          have hd := Nat.div_add_mod r bin
          by_cases h7 : r / bin = 1072
          · rw [h7] at hd ⊢
            rw [show (1075 - 1072) = 3 from rfl]
            unfold w15 at h; unfold bin at *
            omega
          · have hp : 2 ^ 4 ≤ 2 ^ (1075 - r / bin) := Nat.pow_le_pow_right (by decide) (by generalize r / bin = q at *; omega)
            have : (bin + r % bin) / 2 ^ (1075 - r / bin) ≤ (bin + r % bin) / 2 ^ 4 := Nat.div_le_div_left hp (by decide)
            have : (bin + r % bin) / 2 ^ 4 < 1000000000000000 := by unfold bin at *; omega
            omega
        · rw [if_pos h6, if_neg (fun e => h6 (hi.1 e))]

theorem wholeF_ge {b : Nat} (h : w15 ≤ b % sgn) : wholeF b = none := by
  have hb : 0 < bin := by decide
  unfold wholeF
  simp only
  generalize b % sgn = r at *
  have hm := Nat.mod_lt r hb
  have hd := Nat.div_add_mod r bin
  have hf : 1072 ≤ r / bin := by rw [Nat.le_div_iff_mul_le hb]; unfold w15 at h; unfold bin; omega
  rw [if_neg (by unfold w15 at h; omega)]
  split
  · rfl
  · rename_i h5
    split
    · rfl
    · rename_i h6
      rw [if_neg]
      have h6 : (bin + r % bin) % 2 ^ (1075 - r / bin) = 0 := by simpa using h6
      by_cases h7 : r / bin = 1072
      · rw [h7] at hd h6 ⊢
        rw [show (1075 - 1072) = 3 from rfl] at *
        unfold w15 at h; unfold bin at *
        omega
      · have hp : 2 ^ (1075 - r / bin) ≤ 2 ^ 2 := Nat.pow_le_pow_right (by decide) (by generalize r / bin = q at *; omega)
        have : (bin + r % bin) / 2 ^ 2 ≤ (bin + r % bin) / 2 ^ (1075 - r / bin) := Nat.div_le_div_left hp (Nat.two_pow_pos _)
        have : 1000000000000000 ≤ (bin + r % bin) / 2 ^ 2 := by unfold bin at *; omega
        omega

/-- A digit of a word's bits. -/
def hexd (d : Nat) : UInt8 := (if d < 10 then 48 + d else 87 + d).toUInt8
/-- The lowest k digits of a word's bits, the highest first. -/
def hexLow : Nat → Nat → List UInt8
  | 0, _ => []
  | k + 1, u => hexd (u / 16 ^ k % 16) :: hexLow k u
theorem hexLow_length (k u : Nat) : (hexLow k u).length = k := by
  induction k with
  | zero => rfl
  | succ k ih => simp [hexLow, ih]

/-- How a number is told. -/
def textF (b : Nat) : List UInt8 :=
  if nan b then [110, 97, 110] else if b = infW then [105, 110, 102] else if neg b = infW then [45, 105, 110, 102] else
  match wholeF b with
  | some v => if b / sgn % 2 = 1 then 45 :: Go.Lib.decDigits v else Go.Lib.decDigits v
  | none => 48 :: 120 :: hexLow 16 b

theorem repeat_zero (l : List UInt8) : ∀ c, Go.Lib.repeatL [48] c ++ l = List.replicate c 48 ++ l
  | 0 => rfl
  | c + 1 => by
    have := repeat_zero l c
    simp only [Go.Lib.repeatL, List.replicate_succ, List.cons_append, List.nil_append] at this ⊢
    rw [this]

theorem hexd_zero : hexd 0 = 48 := by decide

/-- Noughts ahead of a word's digits are its digits too. -/
theorem hexLow_pad {n u : Nat} (h : u < 16 ^ n) : ∀ m, List.replicate m 48 ++ hexLow n u = hexLow (n + m) u
  | 0 => rfl
  | m + 1 => by
    have ih := hexLow_pad h m
    rw [List.replicate_succ, List.cons_append, ih]
    show _ = hexd (u / 16 ^ (n + m) % 16) :: hexLow (n + m) u
    have : u < 16 ^ (n + m) := Nat.lt_of_lt_of_le h (Nat.pow_le_pow_right (by decide) (by omega))
    rw [Nat.div_eq_of_lt this, Nat.zero_mod, hexd_zero]

theorem word_sgn (s : Bool) (r : Nat) : (s = false → double.word s r = r) ∧ (s = true → double.word s r = sgn + r) := by
  unfold Format.word; rw [sgn_eq]; cases s <;> simp

theorem truncF_nan {b : Nat} (h : b % sgn < w15) : nan (truncF b) = false := by
  rw [trunc_eq h]; exact nan_word _ (by have := rungOf_lt (lt_w15 h).2.2; omega)

theorem skey_word (s : Bool) {r : Nat} (h : r < sgn) : skey (double.word s r) = sv s r := by
  rw [skey_sv]
  have hs : 0 < sgn := by decide
  cases s
  · rw [(word_sgn false r).1 rfl, Nat.div_eq_of_lt h, Nat.mod_eq_of_lt h]; rfl
  · rw [(word_sgn true r).2 rfl, Nat.add_div_left _ hs, Nat.div_eq_of_lt h, Nat.add_mod_left, Nat.mod_eq_of_lt h]; rfl

theorem beq_eq_some (o : Ordering) : ((some o == some Ordering.eq) : Bool) = decide (o = .eq) := by cases o <;> rfl
theorem beq_lt_some (o : Ordering) : ((some o == some Ordering.lt) : Bool) = decide (o = .lt) := by cases o <;> rfl

theorem sv_eq (s : Bool) (a b : Nat) : sv s a = sv s b ↔ a = b := by unfold sv; cases s <;> simp <;> omega

/-- A number below 10^15 is whole just if cutting leaves it. -/
theorem eq_trunc {b : Nat} (h : b % sgn < w15) : (double.order b (truncF b) == some .eq) = (wholeF b).isSome := by
  have hn : nan b = false := by unfold nan; simp only [decide_eq_false_iff_not]; have := (lt_w15 h).2.1; omega
  have hr := rungOf_lt (lt_w15 h).2.2
  have hi : infW < sgn := by decide
  rw [order_eq hn (truncF_nan h), beq_eq_some, trunc_eq h, skey_word _ (by omega), skey_sv, Bool.eq_iff_iff, decide_eq_true_eq, Int.compare_eq_eq, sv_eq, wholeF_lt h]
  by_cases e : b % sgn = rungOf (cutF (b % sgn))
  · rw [if_pos e]; simp; exact e
  · rw [if_neg e]; simp; exact e

/-- Whether a size is below 10^15. -/
theorem lt_1e15 {r : Nat} (h : r < sgn) : (double.order r 4831355200913801216 == some .lt) = decide (r < w15) := by
  have hm : nan 4831355200913801216 = false := by decide
  have hk : skey 4831355200913801216 = 4831355200913801216 := by decide
  cases hn : nan r
  · rw [order_eq hn hm, hk, beq_lt_some, Bool.eq_iff_iff, decide_eq_true_eq, decide_eq_true_eq, Int.compare_eq_lt]
    rw [skey_top (by omega), if_neg (by omega)]
    unfold w15; omega
  · rw [order_nan_left hn, Bool.eq_iff_iff]
    rw [nan_top (by omega)] at hn
    simp only [decide_eq_true_eq] at hn ⊢
    constructor
    · intro h; cases h
    · intro h; unfold w15 at h; unfold infW at hn; omega

theorem wholeF_some {b v : Nat} (h : wholeF b = some v) : b % sgn < w15 ∧ v = cutF (b % sgn) ∧ v < 1000000000000000 := by
  by_cases h1 : b % sgn < w15
  · refine ⟨h1, ?_, ?_⟩
    · rw [wholeF_lt h1] at h; split at h <;> simp at h; exact h.symm
    · unfold wholeF at h
      simp only at h
      split at h
      · simp at h; omega
      · split at h
        · simp at h
        · split at h
          · simp at h
          · split at h
            · simp at h; omega
            · simp at h
  · rw [wholeF_ge (by omega)] at h; cases h

theorem toInt_whole {b v : Nat} (h : wholeF b = some v) : Go.floatToIntVal .f64 (b % sgn) .i64 = some (v : Int) := by
  obtain ⟨h1, h2, h3⟩ := wholeF_some h
  unfold Go.floatToIntVal
  have : (Go.FloatKind.f64.decode (b % sgn)).toInt .zero = some (cutF (b % sgn) : Int) := toInt_eq h1
  rw [this, ← h2]
  simp only
  rw [if_pos ⟨by show -9223372036854775808 ≤ (v : Int); omega, by show (v : Int) ≤ 9223372036854775807; omega⟩]
end RqF
