/- Plain laws on whole numbers as doubles and their texts; digits read back. No condition. -/
import Derived.Test.YtnjmhneobgmejaaGreatDoorParse
namespace RqF
open Ieee

theorem val_mono {r s : Nat} (h : r ≤ s) : val r ≤ val s := by
  rcases Nat.lt_or_eq_of_le h with h | h
  · exact Nat.le_of_lt (val_lt h)
  · rw [h]; exact Nat.le_refl _
theorem w15_rung : w15 = rungOf 1000000000000000 := by decide +kernel

theorem rung_lt_w15 {t : Nat} (h : t < 1000000000000000) : rungOf t < w15 := by
  rcases Nat.lt_or_ge (rungOf t) w15 with h1 | h1
  · exact h1
  · exfalso
    rw [w15_rung] at h1
    have h2 := val_mono h1
    rw [val_rungOf (t := 1000000000000000) (by decide), val_rungOf (by omega)] at h2
    have h3 := Nat.le_of_mul_le_mul_right h2 (Nat.two_pow_pos 1074)
    omega
theorem rung_ge_w15 {t : Nat} (h : 1000000000000000 ≤ t) (h2 : t < 9007199254740992) : w15 ≤ rungOf t := by
  rcases Nat.lt_or_ge (rungOf t) w15 with h1 | h1
  · exfalso
    rw [w15_rung] at h1
    have h3 := val_lt h1
    rw [val_rungOf (t := 1000000000000000) (by decide), val_rungOf h2] at h3
    have h4 := Nat.lt_of_mul_lt_mul_right h3
    omega
  · exact h1

theorem cutF_rung {t : Nat} (h : t < 1000000000000000) : cutF (rungOf t) = t := by
  obtain ⟨h1, h2, h3⟩ := lt_w15 (rung_lt_w15 h)
  have hv := val_rungOf (t := t) (by omega)
  rw [val_eq] at hv
  have hp : 2 ^ 1074 = 2 ^ (1074 - up (rungOf t)) * 2 ^ up (rungOf t) := by rw [← Nat.pow_add, show 1074 - up (rungOf t) + up (rungOf t) = 1074 from by omega]
  rw [hp, ← Nat.mul_assoc] at hv
  have hm := Nat.eq_of_mul_eq_mul_right (Nat.two_pow_pos _) hv
  unfold cutF
  rw [hm]; exact Nat.mul_div_left _ (Nat.two_pow_pos _)

theorem word_parts (s : Bool) {r : Nat} (h : r < sgn) : double.word s r % sgn = r ∧ double.word s r / sgn % 2 = (if s then 1 else 0) ∧ double.word s r < 2 * sgn := by
  have hs : 0 < sgn := by decide
  cases s
  · rw [(word_sgn false r).1 rfl, Nat.mod_eq_of_lt h, Nat.div_eq_of_lt h]; exact ⟨rfl, rfl, by omega⟩
  · rw [(word_sgn true r).2 rfl, Nat.add_mod_left, Nat.mod_eq_of_lt h, Nat.add_div_left _ hs, Nat.div_eq_of_lt h]; exact ⟨rfl, rfl, by omega⟩

theorem inf_lt_sgn : infW < sgn := by decide

theorem whole_word (s : Bool) {t : Nat} (h : t < 1000000000000000) : wholeF (double.word s (rungOf t)) = some t := by
  have h1 := rung_lt_w15 h
  have h2 := (lt_w15 h1).2.1
  have hp := word_parts s (r := rungOf t) (by have := inf_lt_sgn; omega)
  rw [wholeF_lt (by rw [hp.1]; exact h1), hp.1, cutF_rung h, if_pos rfl]

theorem neg_ne_inf {b : Nat} (hb : b < 2 * sgn) (h : b % sgn ≠ infW) : neg b ≠ infW := by
  intro e
  have := (xor_top hb).2
  rw [show b ^^^ sgn = neg b from rfl, e] at this
  exact h (by rw [← this]; decide)

theorem textF_word (s : Bool) {t : Nat} (h : t < 1000000000000000) : textF (double.word s (rungOf t)) = if s then 45 :: Go.Lib.decDigits t else Go.Lib.decDigits t := by
  have h1 := rung_lt_w15 h
  have h2 := (lt_w15 h1).2.1
  have hp := word_parts s (r := rungOf t) (by have := inf_lt_sgn; omega)
  unfold textF
  rw [nan_word s (by omega), if_neg (by simp), if_neg, if_neg, whole_word s h]
  · simp only [hp.2.1]; cases s <;> simp
  · exact neg_ne_inf hp.2.2 (by rw [hp.1]; omega)
  · intro e; rw [e] at hp; have := hp.1; rw [Nat.mod_eq_of_lt inf_lt_sgn] at this; omega

theorem ofInt_small {n : Int} (h : n.natAbs < 1000000000000000) : ofInt n = double.word (decide (n < 0)) (rungOf n.natAbs) := nearest_whole _ (by omega)
theorem textF_ofInt {n : Int} (h : n.natAbs < 1000000000000000) : textF (ofInt n) = if n < 0 then 45 :: Go.Lib.decDigits n.natAbs else Go.Lib.decDigits n.natAbs := by
  rw [ofInt_small h, textF_word _ h]; simp

theorem big_lo {L c : Nat} (h : 53 ≤ L) : w15 ≤ min ((L + 1022) * bin + c) infW := by
  have h1 : 1075 * bin ≤ (L + 1022) * bin := Nat.mul_le_mul_right _ (by omega)
  have h2 : w15 ≤ 1075 * bin := by decide
  have h3 : w15 ≤ infW := by decide
  generalize (L + 1022) * bin = x at *
  omega
theorem big_hi {L c : Nat} (h : L < 64) (hc : c ≤ 2 * bin) : min ((L + 1022) * bin + c) infW < infW := by
  have h1 : (L + 1022) * bin ≤ 1085 * bin := Nat.mul_le_mul_right _ (by omega)
  have h2 : 1085 * bin + 2 * bin < infW := by decide
  generalize (L + 1022) * bin = x at *
  omega
theorem cut_hi (s : Bool) {t : Nat} (h0 : t ≠ 0) (hL : 53 ≤ t.log2) : Toward.even.cut s t (t.log2 - 52) ≤ 2 * bin := by
  have hlog := (Nat.log2_eq_iff (k := t.log2) h0).1 rfl
  have hp := Nat.two_pow_pos (t.log2 - 52)
  have hb : t / 2 ^ (t.log2 - 52) < 2 * bin := by
    rw [Nat.div_lt_iff_lt_mul hp]
    have e : 2 ^ (t.log2 + 1) = 2 * bin * 2 ^ (t.log2 - 52) := by
      rw [show 2 * bin = 2 ^ 53 from by decide, ← Nat.pow_add, show 53 + (t.log2 - 52) = t.log2 + 1 from by omega]
    rw [← e]; exact hlog.2
  unfold Toward.cut
  simp only [Nat.shiftLeft_eq, Nat.one_mul]
  rw [Nat.min_eq_left (by omega)]
  have hc : ∀ b : Bool, b.toNat ≤ 1 := fun b => by cases b <;> decide
  exact Nat.le_trans (Nat.add_le_add_left (hc _) _) hb

theorem nearest_mid (s : Bool) {t : Nat} (h0 : t ≠ 0) (hL : 53 ≤ t.log2) : double.nearest s t 0 = double.word s (min ((t.log2 + 1022) * bin + Toward.even.cut s t (t.log2 - 52)) infW) := by
  unfold Format.nearest
  rw [if_neg h0]
  have hl : double.fractionBits = 52 := rfl
  have hlast : max (0 + (t.log2 : Int) - (double.fractionBits : Nat)) double.leastPlace = (t.log2 : Int) - 52 := by rw [hl, least_eq]; omega
  simp only [hlast]
  have e1 : ((0 : Int) - ((t.log2 : Int) - 52)).toNat = 0 := by omega
  have e2 : ((t.log2 : Int) - 52 - 0).toNat = t.log2 - 52 := by omega
  have e3 : ((t.log2 : Int) - 52 - double.leastPlace).toNat = t.log2 + 1022 := by rw [least_eq]; omega
  rw [e1, e2, e3, Nat.shiftLeft_zero, bin_eq, inf_eq]

/-- A whole number of sixteen digits and more, rounded, is none that is told by its digits. -/
theorem nearest_big (s : Bool) {t : Nat} (h : 1000000000000000 ≤ t) (h2 : t.log2 < 64) : ∃ r, w15 ≤ r ∧ r < infW ∧ double.nearest s t 0 = double.word s r := by
  by_cases h3 : t < 9007199254740992
  · exact ⟨rungOf t, rung_ge_w15 h h3, rungOf_lt h3, nearest_whole s h3⟩
  · have h0 : t ≠ 0 := by omega
    have hL1 : 53 ≤ t.log2 := by
      rcases Nat.lt_or_ge t.log2 53 with h4 | h4
      · have := (Nat.log2_lt h0).1 h4; omega
      · exact h4
    exact ⟨_, big_lo hL1, big_hi h2 (cut_hi s h0 hL1), nearest_mid s h0 hL1⟩

theorem ofInt_big {n : Int} (h : 1000000000000000 ≤ n.natAbs) (h2 : n.natAbs.log2 < 64) : ∃ r, w15 ≤ r ∧ r < infW ∧ ofInt n = double.word (decide (n < 0)) r := nearest_big _ h h2

theorem textF_big (s : Bool) {r : Nat} (h1 : w15 ≤ r) (h2 : r < infW) : textF (double.word s r) = 48 :: 120 :: hexLow 16 (double.word s r) := by
  have hp := word_parts s (r := r) (by have := inf_lt_sgn; omega)
  unfold textF
  rw [nan_word s (by omega), if_neg (by simp), if_neg, if_neg, wholeF_ge (by rw [hp.1]; exact h1)]
  · exact neg_ne_inf hp.2.2 (by rw [hp.1]; omega)
  · intro e; rw [e] at hp; have := hp.1; rw [Nat.mod_eq_of_lt inf_lt_sgn] at this; omega

theorem hexd_facts (d : Nat) (h : d < 16) : isHex (hexd d) = true ∧ hexv (hexd d) = d := by
  have key : ∀ d : Fin 16, isHex (hexd d.val) = true ∧ hexv (hexd d.val) = d.val := by decide +kernel
  exact key ⟨d, h⟩
theorem unhexA_hexLow (u : Nat) : ∀ k a, unhexA a (hexLow k u) = a * 16 ^ k + u % 16 ^ k
  | 0, a => by simp [hexLow, unhexA, Nat.mod_one]
  | k + 1, a => by
    show unhexA (a * 16 + hexv (hexd (u / 16 ^ k % 16))) (hexLow k u) = _
    rw [(hexd_facts _ (Nat.mod_lt _ (by decide))).2, unhexA_hexLow u k]
    have h1 : u % 16 ^ (k + 1) = 16 ^ k * (u / 16 ^ k % 16) + u % 16 ^ k := by
      rw [Nat.pow_succ, Nat.mod_mul]; omega
    rw [h1, Nat.pow_succ, Nat.add_mul]
    generalize u / 16 ^ k % 16 = x
    generalize 16 ^ k = y
    rw [Nat.mul_comm x y, Nat.mul_assoc, Nat.mul_comm 16 y]
    omega
theorem hexLow_all (u : Nat) : ∀ k, (hexLow k u).all isHex = true
  | 0 => rfl
  | k + 1 => by
    show (hexd (u / 16 ^ k % 16) :: hexLow k u).all isHex = true
    rw [List.all_cons, hexLow_all u k, (hexd_facts _ (Nat.mod_lt _ (by decide))).1]; rfl
theorem unhex_hexLow {u : Nat} (h : u < 2 * sgn) : unhex (hexLow 16 u) = u := by
  unfold unhex
  rw [unhexA_hexLow, Nat.zero_mul, Nat.zero_add, Nat.mod_eq_of_lt]
  exact h

/-- What is told by its bits is read to the bit. -/
theorem bitsP_hex {u : Nat} (h : u < 2 * sgn) (hn : nan u = false) : bitsP (48 :: 120 :: hexLow 16 u) = some u := by
  unfold bitsP
  have e : unhex (List.drop 2 (48 :: 120 :: hexLow 16 u)) = u := unhex_hexLow h
  rw [e]
  rw [if_pos]
  refine ⟨?_, rfl, hexLow_all u 16, hn⟩
  simp only [List.length_cons, hexLow_length]

theorem parseP_hex {u : Nat} (h : u < 2 * sgn) (hn : nan u = false) : parseP (48 :: 120 :: hexLow 16 u) = some u := by
  unfold parseP
  rw [if_neg (by simp), if_neg (by simp), if_neg (by simp), if_neg (by simp), bitsP_hex h hn]

/-- What digits tell, behind what those ahead told. -/
def valA : Nat → List UInt8 → Nat
  | a, [] => a
  | a, c :: r => valA (10 * a + (c.toNat - 48)) r
theorem valA_append (l r : List UInt8) : ∀ a, valA a (l ++ r) = valA (valA a l) r := by
  induction l with
  | nil => intro a; rfl
  | cons c l ih => intro a; exact ih _
theorem valA_le (l : List UInt8) : ∀ a, a ≤ valA a l := by
  induction l with
  | nil => intro a; exact Nat.le_refl _
  | cons c l ih => intro a; exact Nat.le_trans (by omega) (ih _)
def isDig (c : UInt8) : Bool := decide (48 ≤ c.toNat ∧ c.toNat ≤ 57)
theorem dig_nat (d : Nat) (h : d < 10) : (UInt8.ofNat (48 + d)).toNat = 48 + d ∧ isDig (UInt8.ofNat (48 + d)) = true := by
  have e : (UInt8.ofNat (48 + d)).toNat = 48 + d := by
    have h1 : (UInt8.ofNat (48 + d)).toNat = (48 + d) % 256 := UInt8.toNat_ofNat'
    rw [h1, Nat.mod_eq_of_lt (by omega)]
  refine ⟨e, ?_⟩
  unfold isDig; rw [e]; simp only [decide_eq_true_eq]; omega
/-- The digits of a number tell it, and are digits. -/
theorem dec_val (v : Nat) : valA 0 (Go.Lib.decDigits v) = v ∧ ∀ c ∈ Go.Lib.decDigits v, isDig c = true := by
  induction v using Nat.strongRecOn with
  | _ v ih =>
    unfold Go.Lib.decDigits
    split
    · rename_i h
      have := dig_nat v h
      refine ⟨?_, fun c hc => by rw [List.mem_singleton.1 hc]; exact this.2⟩
      show 10 * 0 + ((UInt8.ofNat (48 + v)).toNat - 48) = v
      rw [this.1]; omega
    · rename_i h
      obtain ⟨h1, h2⟩ := ih (v / 10) (by omega)
      have h3 := dig_nat (v % 10) (Nat.mod_lt _ (by decide))
      refine ⟨?_, ?_⟩
      · rw [valA_append, h1]
        show 10 * (v / 10) + ((UInt8.ofNat (48 + v % 10)).toNat - 48) = v
        rw [h3.1]; omega
      · intro c hc
        rcases List.mem_append.1 hc with hc | hc
        · exact h2 c hc
        · rw [List.mem_singleton.1 hc]; exact h3.2
end RqF
