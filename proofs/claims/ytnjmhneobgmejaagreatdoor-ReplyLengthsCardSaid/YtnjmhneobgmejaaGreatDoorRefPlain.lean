/- Plain law: what the document's Parse reads is what num.Parse reads, for every text. No condition. -/
import Derived.Test.YtnjmhneobgmejaaGreatDoorWhole
import Derived.Lib.ParseIntBTie
namespace RqF
open Ieee

/-- A number of digits, without noughts ahead, fifteen at most. -/
def digP (l : List UInt8) : Option Nat :=
  if l.length ≤ 15 ∧ l.all isDig = true ∧ l ≠ [] ∧ (l.head? ≠ some 48 ∨ l.length = 1) then some (valA 0 l) else none

def refRest (neg : Bool) (s : List UInt8) : Option Nat :=
  if s = [105, 110, 102] then some (double.word neg infW) else
  match digP s with
  | some v => some (double.word neg (rungOf v))
  | none => none
/-- What the document's Parse reads. -/
def refP (l : List UInt8) : Option Nat :=
  if l = [110, 97, 110] then some 9221120237041090561 else
  if 2 < l.length ∧ l.take 2 = [48, 120] then
    (if (l.drop 2).length = 16 ∧ (l.drop 2).all isHex = true ∧ nan (unhex (l.drop 2)) = false then some (unhex (l.drop 2)) else none)
  else if l.head? = some 45 then refRest true l.tail else refRest false l

theorem valA_lt (l : List UInt8) (hd : l.all isDig = true) : ∀ a, valA a l < (a + 1) * 10 ^ l.length := by
  induction l with
  | nil => intro a; show a < _; simp
  | cons c l ih =>
    intro a
    rw [List.all_cons, Bool.and_eq_true] at hd
    have h1 := ih hd.2 (10 * a + (c.toNat - 48))
    have h2 : c.toNat - 48 ≤ 9 := by have := hd.1; unfold isDig at this; simp only [decide_eq_true_eq] at this; omega
    have h3 : (10 * a + (c.toNat - 48) + 1) * 10 ^ l.length ≤ ((a + 1) * 10) * 10 ^ l.length := Nat.mul_le_mul_right _ (by omega)
    show valA (10 * a + (c.toNat - 48)) l < _
    rw [List.length_cons, Nat.pow_succ, Nat.mul_comm (10 ^ l.length) 10, ← Nat.mul_assoc]
    omega

theorem digP_lt {l : List UInt8} {v : Nat} (h : digP l = some v) : v < 1000000000000000 := by
  unfold digP at h
  split at h
  · rename_i hh
    obtain ⟨h1, h2, h3, h4⟩ := hh
    injection h with h
    have h5 := valA_lt l h2 0
    have h6 : 10 ^ l.length ≤ 10 ^ 15 := Nat.pow_le_pow_right (by decide) h1
    rw [h] at h5
    omega
  · cases h

theorem dig_of (c : UInt8) (h : isDig c = true) : UInt8.ofNat (48 + (c.toNat - 48)) = c := by
  unfold isDig at h; simp only [decide_eq_true_eq] at h
  rw [show 48 + (c.toNat - 48) = c.toNat from by omega]
  exact UInt8.ofNat_toNat

theorem valA_pos {c : UInt8} {r : List UInt8} (hc : isDig c = true) (h : c ≠ 48) : 1 ≤ valA 0 (c :: r) := by
  have h1 := valA_le r (10 * 0 + (c.toNat - 48))
  unfold isDig at hc; simp only [decide_eq_true_eq] at hc
  have h2 : c.toNat ≠ 48 := by
    intro e; exact h (by have := congrArg UInt8.ofNat e; rw [UInt8.ofNat_toNat] at this; exact this)
  show 1 ≤ valA (10 * 0 + (c.toNat - 48)) r
  omega

/-- Digits without noughts ahead are the digits of what they tell. -/
theorem dec_canon : ∀ (k : Nat) (l : List UInt8), l.length = k → l.all isDig = true → l ≠ [] → (l.head? ≠ some 48 ∨ l.length = 1) → Go.Lib.decDigits (valA 0 l) = l := by
  intro k
  induction k with
  | zero => intro l h1 _ h3; exact absurd (List.eq_nil_of_length_eq_zero h1) h3
  | succ k ih =>
    intro l h1 h2 h3 h4
    obtain ⟨l', c, rfl⟩ : ∃ l' c, l = l' ++ [c] := ⟨l.dropLast, l.getLast h3, (List.dropLast_concat_getLast h3).symm⟩
    rw [List.all_append, Bool.and_eq_true] at h2
    have hc : isDig c = true := by have := h2.2; simpa using this
    have hc2 := hc
    unfold isDig at hc2; simp only [decide_eq_true_eq] at hc2
    rw [valA_append]
    cases l' with
    | nil =>
      show Go.Lib.decDigits (10 * 0 + (c.toNat - 48)) = [c]
      rw [Go.Lib.decDigits, dif_pos (by omega), show 10 * 0 + (c.toNat - 48) = c.toNat - 48 from by omega, dig_of c hc]
    | cons x r =>
      have hx : x ≠ 48 := by
        rcases h4 with h | h
        · intro e; exact h (by rw [e]; rfl)
        · simp at h
      have hxd : isDig x = true := by have := h2.1; rw [List.all_cons, Bool.and_eq_true] at this; exact this.1
      have hp := valA_pos (r := r) hxd hx
      have hl : (x :: r).length = k := by simp at h1 ⊢; omega
      have := ih (x :: r) hl h2.1 (by simp) (Or.inl (by simpa using hx))
      show Go.Lib.decDigits (10 * valA 0 (x :: r) + (c.toNat - 48)) = _
      generalize valA 0 (x :: r) = y at *
      rw [Go.Lib.decDigits, dif_neg (by omega), show (10 * y + (c.toNat - 48)) / 10 = y from by omega, show (10 * y + (c.toNat - 48)) % 10 = c.toNat - 48 from by omega, this, dig_of c hc]

theorem dec_len {v : Nat} (h : v < 1000000000000000) : (Go.Lib.decDigits v).length ≤ 15 := by
  rw [Go.Lib.decDigits_length]
  have : ∀ k v : Nat, v < 10 ^ (k + 1) → Go.Lib.nDigits v ≤ k + 1 := by
    intro k
    induction k with
    | zero => intro v h; unfold Go.Lib.nDigits; rw [dif_pos (by omega)]; omega
    | succ k ih =>
      intro v h
      unfold Go.Lib.nDigits
      split
      · omega
      · have := ih (v / 10) (by rw [Nat.div_lt_iff_lt_mul (by decide)]; rw [Nat.pow_succ] at h; exact h)
        omega
  exact this 14 v h

theorem dec_head (v : Nat) : Go.Lib.decDigits v ≠ [] ∧ ((Go.Lib.decDigits v).head? ≠ some 48 ∨ (Go.Lib.decDigits v).length = 1) := by
  induction v using Nat.strongRecOn with
  | _ v ih =>
    unfold Go.Lib.decDigits
    split
    · exact ⟨by simp, Or.inr rfl⟩
    · rename_i h
      obtain ⟨h1, h2⟩ := ih (v / 10) (by omega)
      refine ⟨by simp, Or.inl ?_⟩
      rcases h2 with h2 | h2
      · cases hx : Go.Lib.decDigits (v / 10) with
        | nil => exact absurd hx h1
        | cons x r => rw [hx] at h2; simpa using h2
      · have h9 : v / 10 < 10 := by
          rcases Nat.lt_or_ge (v / 10) 10 with h8 | h8
          · exact h8
          · exfalso
            rw [Go.Lib.decDigits_length] at h2
            unfold Go.Lib.nDigits at h2
            rw [dif_neg (by omega)] at h2
            unfold Go.Lib.nDigits at h2
            split at h2 <;> omega
        rw [Go.Lib.decDigits, dif_pos h9]
        have h10 := (dig_nat (v / 10) h9).1
        intro e
        have e2 : UInt8.ofNat (48 + v / 10) = 48 := by simpa using e
        rw [e2] at h10
        have : (48 : UInt8).toNat = 48 := rfl
        omega

theorem digP_dec {v : Nat} (h : v < 1000000000000000) : digP (Go.Lib.decDigits v) = some v := by
  unfold digP
  rw [if_pos ⟨dec_len h, List.all_eq_true.2 (dec_val v).2, dec_head v⟩, (dec_val v).1]
theorem digP_some {l : List UInt8} {v : Nat} (h : digP l = some v) : Go.Lib.decDigits v = l := by
  unfold digP at h
  split at h
  · rename_i hh
    injection h with h
    rw [← h]
    exact dec_canon _ l rfl hh.2.1 hh.2.2.1 hh.2.2.2
  · cases h

theorem parseM (M : Nat) (hM : 18446744073709551615 = M) (l : List UInt8) (hd : ∀ c ∈ l, isDig c = true) : ∀ a, valA a l < 1000000000000000 → Go.Lib.parseUintM M a l = .ok (valA a l) := by
  induction l with
  | nil => intro a _; rfl
  | cons c l ih =>
    intro a h
    have hc := hd c (List.mem_cons_self)
    unfold isDig at hc; simp only [decide_eq_true_eq] at hc
    have h1 : valA (10 * a + (c.toNat - 48)) l < 1000000000000000 := h
    have h2 := valA_le l (10 * a + (c.toNat - 48))
    unfold Go.Lib.parseUintM
    rw [if_pos hc, if_neg (by omega), if_neg (by omega), show a * 10 + (c.toNat - 48) = 10 * a + (c.toNat - 48) from by omega]
    exact ih (fun c hc => hd c (List.mem_cons_of_mem _ hc)) _ h1
theorem parseU {v : Nat} (h : v < 1000000000000000) : Go.Lib.parseUintB 64 (Go.Lib.decDigits v) = .ok v := by
  unfold Go.Lib.parseUintB
  rw [if_neg (dec_head v).1, parseM _ (by decide) _ (dec_val v).2 0 (by rw [(dec_val v).1]; exact h), (dec_val v).1]
theorem parse_neg {v : Nat} (h : v < 1000000000000000) : Go.Lib.parseIntB 64 (45 :: Go.Lib.decDigits v) = .ok (-(v : Int)) := by
  rw [Go.Lib.parseIntB_minus, parseU h]
  unfold Go.Lib.signedC
  simp only
  rw [if_neg (by have : (2 : Nat) ^ (64 - 1) = 9223372036854775808 := by decide
                 omega)]
theorem parse_pos {v : Nat} (h : v < 1000000000000000) : Go.Lib.parseIntB 64 (Go.Lib.decDigits v) = .ok (v : Int) := by
  cases hx : Go.Lib.decDigits v with
  | nil => exact absurd hx (dec_head v).1
  | cons c r =>
    have hc := (dec_val v).2 c (by rw [hx]; exact List.mem_cons_self)
    unfold isDig at hc; simp only [decide_eq_true_eq] at hc
    rw [Go.Lib.parseIntB_plain 64 c r (by omega) (by omega), ← hx, parseU h]
    unfold Go.Lib.signlessC
    simp only
    rw [if_neg (by have : (2 : Nat) ^ (64 - 1) = 9223372036854775808 := by decide
                   omega)]

/-- What is read is told either by its digits or by its bits. -/
theorem text_forms {l : List UInt8} {n : Int} (h : Go.Lib.parseIntB 64 l = .ok n) (ht : textF (ofInt n) = l) :
    (n.natAbs < 1000000000000000 ∧ l = if n < 0 then 45 :: Go.Lib.decDigits n.natAbs else Go.Lib.decDigits n.natAbs) ∨ (∃ u, u < 2 * sgn ∧ nan u = false ∧ l = 48 :: 120 :: hexLow 16 u) := by
  rcases Nat.lt_or_ge n.natAbs 1000000000000000 with hn | hn
  · left; exact ⟨hn, by rw [← ht, textF_ofInt hn]⟩
  · right
    have hb := Go.Lib.parseIntB_bounds h
    have e : (2 : Nat) ^ (64 - 1) = 9223372036854775808 := by decide
    rw [e] at hb
    obtain ⟨r, h1, h2, h3⟩ := ofInt_big hn ((Nat.log2_lt (by omega)).2 (by show n.natAbs < 18446744073709551616; omega))
    refine ⟨ofInt n, ofInt_lt n, by rw [h3]; exact nan_word _ (by omega), ?_⟩
    rw [← ht, h3]; exact textF_big _ h1 h2

theorem dec_no_x {v : Nat} {r : List UInt8} (h : Go.Lib.decDigits v = 48 :: 120 :: r) : False := by
  have := (dec_val v).2 120 (by rw [h]; simp)
  exact absurd this (by decide)
theorem take_two {l : List UInt8} (h : l.take 2 = [48, 120]) : ∃ r, l = 48 :: 120 :: r := by
  match l, h with
  | a :: b :: r, h =>
    simp only [List.take_succ_cons, List.take_zero] at h
    injection h with h1 h; injection h with h2 h
    exact ⟨r, by rw [h1, h2]⟩
  | [a], h => simp at h
  | [], h => simp at h

theorem rest_inf (neg : Bool) : refRest neg [105, 110, 102] = some (double.word neg infW) := by unfold refRest; rw [if_pos rfl]

/-- Of what is left behind the sign. -/
theorem rest_eq (neg : Bool) (l s : List UInt8) (hl : l = if neg then 45 :: s else s) (hs : neg = false → s.head? ≠ some 45) (hi : s ≠ [105, 110, 102]) (hz : l ≠ [45, 48]) (hx : ∀ u, l ≠ 48 :: 120 :: hexLow 16 u) :
    refRest neg s = match Go.Lib.parseIntB 64 l with | .ok n => if textF (ofInt n) = l then some (ofInt n) else none | _ => none := by
  unfold refRest
  rw [if_neg hi]
  cases hd : digP s with
  | some v =>
    have hv := digP_lt hd
    have hs2 := digP_some hd
    cases neg with
    | false =>
      have hl2 : l = Go.Lib.decDigits v := by rw [hl, hs2]; rfl
      rw [hl2, parse_pos hv]
      simp only
      have ht : textF (ofInt (v : Int)) = Go.Lib.decDigits v := by rw [textF_ofInt (n := (v : Int)) (by omega), if_neg (by omega)]; rfl
      rw [if_pos ht, ofInt_small (n := (v : Int)) (by omega)]
      have e : decide ((v : Int) < 0) = false := decide_eq_false (by omega)
      rw [e]; rfl
    | true =>
      have hl2 : l = 45 :: Go.Lib.decDigits v := by rw [hl, hs2]; rfl
      have hv0 : v ≠ 0 := by
        intro e
        apply hz
        rw [hl2, e]
        rw [Go.Lib.decDigits]; rfl
      rw [hl2, parse_neg hv]
      simp only
      have e2 : (-(v : Int)).natAbs = v := by omega
      have ht : textF (ofInt (-(v : Int))) = 45 :: Go.Lib.decDigits v := by rw [textF_ofInt (n := -(v : Int)) (by omega), if_pos (by omega), e2]
      rw [if_pos ht, ofInt_small (n := -(v : Int)) (by omega), e2]
      have e : decide (-(v : Int) < 0) = true := decide_eq_true (by omega)
      rw [e]
  | none =>
    simp only
    cases hp : Go.Lib.parseIntB 64 l with
    | ok n =>
      simp only
      split
      · rename_i ht
        exfalso
        rcases text_forms hp ht with ⟨hn, hl2⟩ | ⟨u, _, _, hl2⟩
        · cases neg with
          | false =>
            have hls : l = s := hl
            by_cases h0 : n < 0
            · rw [if_pos h0] at hl2
              exact hs rfl (by rw [← hls, hl2]; rfl)
            · rw [if_neg h0] at hl2
              rw [← hls, hl2, digP_dec hn] at hd
              cases hd
          | true =>
            have hls : l = 45 :: s := hl
            by_cases h0 : n < 0
            · rw [if_pos h0, hls] at hl2
              injection hl2 with _ hl2
              rw [hl2, digP_dec hn] at hd
              cases hd
            · rw [if_neg h0] at hl2
              have := (dec_val n.natAbs).2 45 (by rw [← hl2, hls]; simp)
              exact absurd this (by decide)
        · exact hx _ hl2
      · rfl
    | _ => rfl

theorem refP_eq (l : List UInt8) : refP l = parseP l := by
  unfold refP
  by_cases h1 : l = [110, 97, 110]
  · rw [if_pos h1]; unfold parseP; rw [if_pos h1]
  rw [if_neg h1]
  by_cases h2 : 2 < l.length ∧ l.take 2 = [48, 120]
  · rw [if_pos h2]
    obtain ⟨r, hr⟩ := take_two h2.2
    subst hr
    have hpar : parseP (48 :: 120 :: r) = match bitsP (48 :: 120 :: r) with | some b => some b | none => match Go.Lib.parseIntB 64 (48 :: 120 :: r) with | .ok n => if textF (ofInt n) = 48 :: 120 :: r then some (ofInt n) else none | _ => none := by
      unfold parseP
      rw [if_neg (by simp), if_neg (by simp), if_neg (by simp), if_neg (by simp)]
      rfl
    rw [hpar]
    have hbe : bitsP (48 :: 120 :: r) = if (List.drop 2 (48 :: 120 :: r)).length = 16 ∧ (List.drop 2 (48 :: 120 :: r)).all isHex = true ∧ nan (unhex (List.drop 2 (48 :: 120 :: r))) = false then some (unhex (List.drop 2 (48 :: 120 :: r))) else none := by
      unfold bitsP
      simp only [List.drop_succ_cons, List.drop_zero, List.take_succ_cons, List.take_zero, List.length_cons]
      by_cases h : r.length = 16 ∧ r.all isHex = true ∧ nan (unhex r) = false
      · rw [if_pos h, if_pos ⟨by omega, trivial, h.2⟩]
      · rw [if_neg h, if_neg (fun hh => h ⟨by omega, hh.2.2⟩)]
    rw [← hbe]
    cases hb : bitsP (48 :: 120 :: r) with
    | some b => rfl
    | none =>
      simp only
      cases hp : Go.Lib.parseIntB 64 (48 :: 120 :: r) with
      | ok n =>
        simp only
        split
        · rename_i ht
          exfalso
          rcases text_forms hp ht with ⟨hn, hl2⟩ | ⟨u, hu1, hu2, hl2⟩
          · by_cases h0 : n < 0
            · rw [if_pos h0] at hl2; injection hl2 with hl2 _; exact absurd hl2 (by decide)
            · rw [if_neg h0] at hl2; exact dec_no_x hl2.symm
          · rw [hl2, bitsP_hex hu1 hu2] at hb; cases hb
        · rfl
      | _ => rfl
  · rw [if_neg h2]
    have hx : ∀ u, l ≠ 48 :: 120 :: hexLow 16 u := by
      intro u e; exact h2 ⟨by rw [e]; simp [hexLow_length], by rw [e]; rfl⟩
    have hb : bitsP l = none := by
      unfold bitsP; rw [if_neg]; intro h; exact h2 ⟨by omega, h.2.1⟩
    by_cases h3 : l = [105, 110, 102]
    · rw [h3, if_neg (by simp), rest_inf]; rfl
    by_cases h4 : l = [45, 105, 110, 102]
    · rw [h4, if_pos (by rfl)]
      show refRest true [105, 110, 102] = _
      rw [rest_inf]; rfl
    by_cases h5 : l = [45, 48]
    · rw [h5, if_pos (by rfl)]; decide
    unfold parseP
    rw [if_neg h1, if_neg h3, if_neg h4, if_neg h5, hb]
    simp only
    by_cases h6 : l.head? = some 45
    · rw [if_pos h6]
      cases l with
      | nil => simp at h6
      | cons c r =>
        obtain rfl : c = 45 := by simpa using h6
        exact rest_eq true (45 :: r) r rfl (fun h => by cases h) (fun h => h4 (by rw [h])) h5 hx
    · rw [if_neg h6]
      exact rest_eq false l l rfl (fun _ => h6) h3 h5 hx
end RqF
