/- Plain laws on the doubles of the model: the order of two words is the order of their signed rungs; reading and writing lead back. No condition. -/
import Ieee.Arith
import Derived.Laws.FloatBits
namespace RqF
open Ieee

def sgn : Nat := 9223372036854775808
def infW : Nat := 9218868437227405312
def bin : Nat := 4503599627370496

theorem sgn_eq : double.signWeight = sgn := by decide
theorem inf_eq : double.infRung = infW := by decide
theorem bin_eq : double.binade = bin := by decide

/-- A word that is no number's. -/
def nan (b : Nat) : Bool := decide (infW < b % sgn)

/-- The signed rung. -/
def skey (b : Nat) : Int := if b / sgn % 2 = 1 then -((b % sgn : Nat) : Int) else ((b % sgn : Nat) : Int)

/-- The size of a rung below infinity, in units of the least place. -/
def val (r : Nat) : Nat := if r < bin then r else (bin + r % bin) * 2 ^ (r / bin - 1)

theorem val_succ (r : Nat) : val r < val (r + 1) := by
  unfold val
  have hb : 0 < bin := by decide
  by_cases h1 : r + 1 < bin
  · rw [if_pos (by omega), if_pos h1]; omega
  · by_cases h2 : r < bin
    · have e : r + 1 = bin := by omega
      rw [if_pos h2, if_neg h1, e, Nat.mod_self, Nat.div_self hb]; simp; omega
    · rw [if_neg h2, if_neg h1]
      have hm := Nat.mod_lt r hb
      have hd : 1 ≤ r / bin := (Nat.le_div_iff_mul_le hb).2 (by omega)
      by_cases h3 : r % bin + 1 < bin
      · have e1 : (r + 1) % bin = r % bin + 1 := by
          rw [Nat.add_mod, Nat.mod_eq_of_lt (show 1 < bin by decide), Nat.mod_eq_of_lt h3]
        have e2 : (r + 1) / bin = r / bin := by
          have a := Nat.div_add_mod r bin
          have b := Nat.div_add_mod (r + 1) bin
          rw [e1] at b
          have : bin * (r / bin) = bin * ((r + 1) / bin) := by omega
          exact (Nat.eq_of_mul_eq_mul_left hb this).symm
        rw [e1, e2]
        exact Nat.mul_lt_mul_of_pos_right (by omega) (Nat.two_pow_pos _)
      · have e0 : r % bin + 1 = bin := by omega
        have a := Nat.div_add_mod r bin
        have e : r + 1 = bin * (r / bin + 1) := by rw [Nat.mul_add]; omega
        have e1 : (r + 1) % bin = 0 := by rw [e]; exact Nat.mul_mod_right _ _
        have e2 : (r + 1) / bin = r / bin + 1 := by rw [e]; exact Nat.mul_div_right _ hb
        rw [e1, e2]
        have e3 : r / bin + 1 - 1 = (r / bin - 1) + 1 := by omega
        rw [e3, Nat.pow_succ, Nat.add_zero, Nat.mul_comm (2 ^ _) 2, ← Nat.mul_assoc]
        exact Nat.mul_lt_mul_of_pos_right (by omega) (Nat.two_pow_pos _)

theorem val_lt {r s : Nat} (h : r < s) : val r < val s := by
  induction s with
  | zero => omega
  | succ s ih =>
    by_cases e : r = s
    · subst e; exact val_succ r
    · exact Nat.lt_trans (ih (by omega)) (val_succ s)

theorem val_zero : val 0 = 0 := by decide

theorem val_cmp (r s : Nat) : compare (val r) (val s) = compare r s := by
  rcases Nat.lt_trichotomy r s with h | h | h
  · rw [Nat.compare_eq_lt.2 h, Nat.compare_eq_lt.2 (val_lt h)]
  · subst h; simp
  · rw [Nat.compare_eq_gt.2 h, Nat.compare_eq_gt.2 (val_lt h)]

/-- The significand and the place above the least one. -/
def mag (r : Nat) : Nat := if r < bin then r else bin + r % bin
def up (r : Nat) : Nat := if r < bin then 0 else r / bin - 1
theorem val_eq (r : Nat) : val r = mag r * 2 ^ up r := by unfold val mag up; split <;> simp

theorem read_num {b : Nat} (h : b % sgn < infW) : double.read b = .number (b / sgn % 2 == 1) (mag (b % sgn)) (double.leastPlace + (up (b % sgn) : Nat)) := by
  unfold Format.read mag up
  simp only [sgn_eq, inf_eq, bin_eq]
  by_cases h1 : b % sgn < bin
  · rw [if_pos h1, if_pos h1, if_pos h1]; simp
  · rw [if_neg h1, if_pos h, if_neg h1, if_neg h1]
theorem read_inf {b : Nat} (h : b % sgn = infW) : double.read b = .infinity (b / sgn % 2 == 1) := by
  unfold Format.read
  simp only [sgn_eq, inf_eq, bin_eq]
  rw [if_neg (by rw [h]; decide), if_neg (by omega), if_pos h]
theorem read_nan {b : Nat} (h : infW < b % sgn) : double.read b = .nan (b / sgn % 2 == 1) (b % sgn - infW) := by
  unfold Format.read
  simp only [sgn_eq, inf_eq, bin_eq]
  rw [if_neg (by unfold infW at h; unfold bin; omega), if_neg (by omega), if_neg (by omega)]

theorem cmp_scale (a b : Int) (k : Nat) : compare (a * (2 ^ k : Nat)) (b * (2 ^ k : Nat)) = compare a b := by
  have hk : (0 : Int) < (2 ^ k : Nat) := by exact_mod_cast Nat.two_pow_pos k
  rcases Int.lt_trichotomy a b with h | h | h
  · rw [Int.compare_eq_lt.2 h, Int.compare_eq_lt.2 (Int.mul_lt_mul_of_pos_right h hk)]
  · subst h; rw [Int.compare_eq_eq.2 rfl, Int.compare_eq_eq.2 rfl]
  · rw [Int.compare_eq_gt.2 h, Int.compare_eq_gt.2 (Int.mul_lt_mul_of_pos_right h hk)]

theorem signed_scale (s : Bool) (m i k : Nat) : signed s m i * (2 ^ k : Nat) = signed s m (i + k) := by
  unfold signed
  cases s <;> simp [Nat.shiftLeft_eq, Nat.pow_add] <;> grind

/-- A signed size. -/
def sv (s : Bool) (n : Nat) : Int := if s then -(n : Int) else n

theorem sv_cmp (s t : Bool) (r q : Nat) : compare (sv s (val r)) (sv t (val q)) = compare (sv s r) (sv t q) := by
  have h0 := val_zero
  have hr : r ≠ 0 → 0 < val r := fun h => by have := val_lt (r := 0) (s := r) (by omega); omega
  have hq : q ≠ 0 → 0 < val q := fun h => by have := val_lt (r := 0) (s := q) (by omega); omega
  have k1 : r < q → val r < val q := val_lt
  have k2 : q < r → val q < val r := val_lt
  have k3 : r = q → val r = val q := fun h => by rw [h]
  have key : ∀ (a b c d : Int), (a < b ↔ c < d) → (a = b ↔ c = d) → compare a b = compare c d := by
    intro a b c d h1 h2
    rcases Int.lt_trichotomy a b with h | h | h
    · rw [Int.compare_eq_lt.2 h, Int.compare_eq_lt.2 (h1.1 h)]
    · rw [Int.compare_eq_eq.2 h, Int.compare_eq_eq.2 (h2.1 h)]
    · rw [Int.compare_eq_gt.2 h, Int.compare_eq_gt.2]
      have a1 : ¬ c < d := fun x => by have := h1.2 x; omega
      have a2 : ¬ c = d := fun x => by have := h2.2 x; omega
      omega
  have z1 : r = 0 → val r = 0 := fun h => by rw [h, h0]
  have z2 : q = 0 → val q = 0 := fun h => by rw [h, h0]
  generalize val r = x at *
  generalize val q = y at *
  apply key <;> unfold sv <;> cases s <;> cases t <;> simp <;> omega

theorem order_num {x y : Nat} (hx : x % sgn < infW) (hy : y % sgn < infW) : double.order x y = some (compare (sv (x / sgn % 2 == 1) (x % sgn)) (sv (y / sgn % 2 == 1) (y % sgn))) := by
  unfold Format.order
  rw [read_num hx, read_num hy]
  simp only [Datum.order]
  rw [← sv_cmp]
  generalize (x / sgn % 2 == 1) = s
  generalize (y / sgn % 2 == 1) = t
  generalize hm : mag (x % sgn) = m
  generalize hn : mag (y % sgn) = n
  generalize hi : up (x % sgn) = i
  generalize hj : up (y % sgn) = j
  have e1 : val (x % sgn) = m * 2 ^ i := by rw [val_eq, hm, hi]
  have e2 : val (y % sgn) = n * 2 ^ j := by rw [val_eq, hn, hj]
  rw [e1, e2]
  have f1 : sv s (m * 2 ^ i) = signed s m i := by unfold sv signed; simp [Nat.shiftLeft_eq]
  have f2 : sv t (n * 2 ^ j) = signed t n j := by unfold sv signed; simp [Nat.shiftLeft_eq]
  rw [f1, f2]
  have g1 : (double.leastPlace + (i : Int) - min (double.leastPlace + (i : Int)) (double.leastPlace + (j : Int))).toNat = i - min i j := by omega
  have g2 : (double.leastPlace + (j : Int) - min (double.leastPlace + (i : Int)) (double.leastPlace + (j : Int))).toNat = j - min i j := by omega
  rw [g1, g2, ← cmp_scale _ _ (min i j), signed_scale, signed_scale]
  rw [show i - min i j + min i j = i from by omega, show j - min i j + min i j = j from by omega]

theorem skey_sv (b : Nat) : skey b = sv (b / sgn % 2 == 1) (b % sgn) := by
  unfold skey sv; simp

theorem order_nan_left {x y : Nat} (h : nan x = true) : double.order x y = none := by
  unfold nan at h; simp at h
  unfold Format.order; rw [read_nan h]; rfl
theorem order_nan_right {x y : Nat} (h : nan y = true) : double.order x y = none := by
  unfold nan at h; simp at h
  unfold Format.order; rw [read_nan h]
  generalize double.read x = d
  cases d <;> rfl

/-- Two words that are numbers stand as their signed rungs stand. -/
theorem order_eq {x y : Nat} (hx : nan x = false) (hy : nan y = false) : double.order x y = some (compare (skey x) (skey y)) := by
  unfold nan at hx hy; simp at hx hy
  rw [skey_sv, skey_sv]
  by_cases h1 : x % sgn < infW
  · by_cases h2 : y % sgn < infW
    · exact order_num h1 h2
    · have e : y % sgn = infW := by omega
      unfold Format.order
      rw [read_num h1, read_inf e, e]
      simp only [Datum.order]
      congr 1
      unfold sv
      cases (y / sgn % 2 == 1) <;> cases (x / sgn % 2 == 1) <;> simp <;> symm <;> first | (rw [Int.compare_eq_lt]; unfold infW at *; omega) | (rw [Int.compare_eq_gt]; unfold infW at *; omega)
  · have d : x % sgn = infW := by omega
    by_cases h2 : y % sgn < infW
    · unfold Format.order
      rw [read_num h2, read_inf d, d]
      simp only [Datum.order]
      congr 1
      unfold sv
      cases (y / sgn % 2 == 1) <;> cases (x / sgn % 2 == 1) <;> simp <;> symm <;> first | (rw [Int.compare_eq_lt]; unfold infW at *; omega) | (rw [Int.compare_eq_gt]; unfold infW at *; omega)
    · have e : y % sgn = infW := by omega
      unfold Format.order
      rw [read_inf e, read_inf d, d, e]
      simp only [Datum.order]
      unfold sv
      cases (y / sgn % 2 == 1) <;> cases (x / sgn % 2 == 1) <;> decide

theorem order_self (x : Nat) : (double.order x x != some .eq) = nan x := by
  cases h : nan x
  · rw [order_eq h h]; simp
  · rw [order_nan_left h]; rfl

theorem word_of {b : Nat} (h : b < 2 * sgn) : double.word (b / sgn % 2 == 1) (b % sgn) = b := by
  unfold Format.word
  rw [sgn_eq]
  have := Nat.div_add_mod b sgn
  have hs : 0 < sgn := by decide
  have h2 : b / sgn < 2 := by rw [Nat.div_lt_iff_lt_mul hs]; exact h
  generalize b / sgn = q at *
  have h3 : q = 0 ∨ q = 1 := by omega
  rcases h3 with rfl | rfl
  · simp; omega
  · simp; omega

theorem cut_none (s : Bool) (n : Nat) : Toward.even.cut s n 0 = n := by
  unfold Toward.cut
  simp [Nat.mod_one]

theorem write_num (s : Bool) {r : Nat} (h : r < infW) : double.nearest s (mag r) (double.leastPlace + (up r : Nat)) = double.word s r := by
  unfold Format.nearest
  have hb : 0 < bin := by decide
  by_cases h0 : mag r = 0
  · have : r = 0 := by
      unfold mag at h0; split at h0
      · exact h0
      · have : 0 < bin := by decide
        omega
    subst this; rw [if_pos h0]
  · rw [if_neg h0]
    have hl : double.fractionBits = 52 := rfl
    have hlast : max (double.leastPlace + (up r : Nat) + ((mag r).log2 : Nat) - (double.fractionBits : Nat)) double.leastPlace = double.leastPlace + (up r : Nat) := by
      rw [hl]
      unfold mag up
      by_cases h1 : r < bin
      · rw [if_pos h1, if_pos h1]
        have : r.log2 < 52 := by
          refine (Nat.log2_lt (by unfold mag at h0; rw [if_pos h1] at h0; exact h0)).2 ?_
          unfold bin at h1; omega
        omega
      · rw [if_neg h1, if_neg h1]
        have hm := Nat.mod_lt r hb
        have : (bin + r % bin).log2 = 52 := by
          rw [Nat.log2_eq_iff (by omega)]
          unfold bin at hm ⊢
          constructor <;> omega
        rw [this]; omega
    simp only [hlast]
    have e1 : (double.leastPlace + (up r : Int) - (double.leastPlace + (up r : Int))).toNat = 0 := by omega
    rw [e1, cut_none]
    have e2 : (double.leastPlace + (up r : Int) - double.leastPlace).toNat = up r := by omega
    rw [e2, bin_eq, inf_eq]
    congr 1
    have e3 : up r * bin + mag r <<< 0 = r := by
      simp only [Nat.shiftLeft_zero]
      unfold up mag
      by_cases h1 : r < bin
      · rw [if_pos h1, if_pos h1]; omega
      · rw [if_neg h1, if_neg h1]
        have a := Nat.div_add_mod r bin
        have hd : 1 ≤ r / bin := (Nat.le_div_iff_mul_le hb).2 (by omega)
        have : (r / bin - 1) * bin + bin = bin * (r / bin) := by
          rw [← Nat.succ_mul, Nat.mul_comm]; congr 1; omega
        omega
    rw [e3]; omega

/-- What is read and written again is the word that it was. -/
theorem write_read {b : Nat} (h : b < 2 * sgn) (hn : nan b = false) : double.write (double.read b) = b := by
  unfold nan at hn; simp at hn
  by_cases h1 : b % sgn < infW
  · rw [read_num h1]
    show double.nearest _ _ _ = b
    rw [write_num _ h1, word_of h]
  · have e : b % sgn = infW := by omega
    rw [read_inf e]
    show double.word _ double.infRung = b
    rw [inf_eq, ← e, word_of h]

theorem sum_comm (a b : Datum) : a.sum b = b.sum a := by
  cases a <;> cases b <;> simp only [Datum.sum]
  · rename_i s m i t n j
    rw [Int.min_comm i j, Int.add_comm (signed s m _), Bool.and_comm]
  · rename_i s t
    by_cases h : s = t
    · subst h; rfl
    · rw [if_neg h, if_neg (fun x => h x.symm)]

theorem add_comm (x y : Nat) : double.add x y = double.add y x := by
  unfold Format.add; rw [sum_comm]

theorem read_zero : double.read 0 = .number false 0 double.leastPlace := by decide

theorem isNaN_read (x : Nat) : (double.read x).isNaN = nan x := by
  cases h : nan x <;> unfold nan at h <;> simp at h
  · by_cases h1 : x % sgn < infW
    · rw [read_num h1]; rfl
    · rw [read_inf (by omega)]; rfl
  · rw [read_nan h]; rfl

/-- A sum with an operand that is no number's is none. -/
theorem add_nan_left {x y : Nat} (h : nan x = true) : double.add x y = none := by
  unfold nan at h; simp at h
  unfold Format.add; rw [read_nan h]; rfl
theorem add_nan_right {x y : Nat} (h : nan y = true) : double.add x y = none := by rw [add_comm]; exact add_nan_left h

theorem nan_word (s : Bool) {r : Nat} (h : r ≤ infW) : nan (double.word s r) = false := by
  unfold nan Format.word
  rw [sgn_eq]
  have : infW < sgn := by decide
  cases s
  · simp; rw [Nat.mod_eq_of_lt (by omega)]; exact h
  · simp; rw [Nat.mod_eq_of_lt (by omega)]; exact h

theorem nan_nearest (s : Bool) (m : Nat) (p : Int) : nan (double.nearest s m p) = false := by
  unfold Format.nearest
  dsimp only
  split
  · exact nan_word _ (by decide)
  · exact nan_word _ (by rw [inf_eq]; omega)

/-- What a sum gives is a number. -/
theorem add_num {x y r : Nat} (h : double.add x y = some r) : nan r = false := by
  unfold Format.add at h
  generalize double.read x = a at h
  generalize double.read y = b at h
  cases a <;> cases b <;> simp only [Datum.sum, Option.map_none, Option.map_some, reduceCtorEq, Option.some.injEq] at h
  · rw [← h]; exact nan_nearest _ _ _
  · rw [← h]; exact nan_word _ (by rw [inf_eq]; omega)
  · rw [← h]; exact nan_word _ (by rw [inf_eq]; omega)
  · rename_i s t
    by_cases e : s = t
    · rw [if_pos e] at h; simp at h; rw [← h]; exact nan_word _ (by rw [inf_eq]; omega)
    · rw [if_neg e] at h; simp at h

theorem signed_natAbs (s : Bool) (m : Nat) : (signed s m 0).natAbs = m := by unfold signed; cases s <;> simp
theorem signed_lt (s : Bool) (m : Nat) (h : m ≠ 0) : (decide (signed s m 0 < 0)) = s := by unfold signed; cases s <;> simp; omega

theorem le_up (r : Nat) : min (double.leastPlace + (up r : Int)) double.leastPlace = double.leastPlace := by omega

theorem log2_shift {m : Nat} (h : m ≠ 0) (d : Nat) : (m * 2 ^ d).log2 = m.log2 + d := by
  have h2 : m * 2 ^ d ≠ 0 := Nat.mul_ne_zero h (by have := Nat.two_pow_pos d; omega)
  rw [Nat.log2_eq_iff h2]
  have a := (Nat.log2_eq_iff (k := m.log2) h).1 rfl
  constructor
  · rw [Nat.pow_add]; exact Nat.mul_le_mul_right _ a.1
  · rw [show m.log2 + d + 1 = (m.log2 + 1) + d from by omega, Nat.pow_add]; exact Nat.mul_lt_mul_of_pos_right a.2 (Nat.two_pow_pos _)

theorem cut_exact (s : Bool) (n k : Nat) (hn : n ≠ 0) : Toward.even.cut s (n * 2 ^ k) k = n := by
  unfold Toward.cut
  have : min k ((n * 2 ^ k).log2 + 2) = k := by rw [log2_shift hn]; omega
  rw [this]
  have hk := Nat.two_pow_pos k
  simp only [Nat.shiftLeft_eq, Nat.one_mul, Nat.mul_mod_left, Nat.mul_div_left n hk, Nat.mul_zero]
  have h1 : decide (2 ^ k < 0) = false := by simp
  have h2 : ((2 ^ k == 0) : Bool) = false := by simp
  rw [h1, h2]; simp

theorem nearest_exact (s : Bool) {r m d : Nat} {p : Int} (hr : r < infW) (hp : p = double.leastPlace + (d : Nat)) (h : m * 2 ^ d = val r) : double.nearest s m p = double.word s r := by
  subst hp
  have hb : 0 < bin := by decide
  unfold Format.nearest
  by_cases h0 : m = 0
  · rw [if_pos h0]
    have : r = 0 := by
      rcases Nat.eq_zero_or_pos r with e | e
      · exact e
      · have := val_lt e; rw [h0, Nat.zero_mul] at h; omega
    rw [this]
  · rw [if_neg h0]
    have hl : double.fractionBits = 52 := rfl
    have hlog := log2_shift h0 d
    rw [h] at hlog
    have hd := Nat.two_pow_pos d
    have hv0 : val r ≠ 0 := by rw [← h]; exact Nat.mul_ne_zero h0 (by omega)
    by_cases h1 : r < bin
    · have hvr : val r = r := by unfold val; rw [if_pos h1]
      have hlt : (val r).log2 < 52 := by
        refine (Nat.log2_lt hv0).2 ?_
        rw [hvr]; unfold bin at h1; omega
      have hlast : max (double.leastPlace + (d : Nat) + (m.log2 : Nat) - (double.fractionBits : Nat)) double.leastPlace = double.leastPlace := by
        rw [hl]; omega
      simp only [hlast]
      have e1 : (double.leastPlace + (d : Int) - double.leastPlace).toNat = d := by omega
      have e2 : (double.leastPlace - (double.leastPlace + (d : Int))).toNat = 0 := by omega
      have e3 : (double.leastPlace - double.leastPlace).toNat = 0 := by omega
      rw [e1, e2, e3, cut_none, Nat.shiftLeft_eq, h, hvr, inf_eq]
      congr 1; omega
    · have hm := Nat.mod_lt r hb
      have hlm : (mag r).log2 = 52 := by
        unfold mag; rw [if_neg h1]
        rw [Nat.log2_eq_iff (by omega)]
        unfold bin at hm ⊢
        constructor <;> omega
      have hm0 : mag r ≠ 0 := by unfold mag; rw [if_neg h1]; omega
      have hlv : (val r).log2 = 52 + up r := by rw [val_eq, log2_shift hm0, hlm]
      have hlast : max (double.leastPlace + (d : Nat) + (m.log2 : Nat) - (double.fractionBits : Nat)) double.leastPlace = double.leastPlace + (up r : Nat) := by
        rw [hl]; omega
      simp only [hlast]
      have e3 : (double.leastPlace + (up r : Int) - double.leastPlace).toNat = up r := by omega
      rw [e3, bin_eq, inf_eq]
      have fin : Toward.even.cut s (m <<< (double.leastPlace + (d : Int) - (double.leastPlace + (up r : Int))).toNat) (double.leastPlace + (up r : Int) - (double.leastPlace + (d : Int))).toNat = mag r := by
        rw [val_eq] at h
        by_cases hdu : up r ≤ d
        · have e1 : (double.leastPlace + (d : Int) - (double.leastPlace + (up r : Int))).toNat = d - up r := by omega
          have e2 : (double.leastPlace + (up r : Int) - (double.leastPlace + (d : Int))).toNat = 0 := by omega
          rw [e1, e2, cut_none, Nat.shiftLeft_eq]
          have : m * 2 ^ (d - up r) * 2 ^ up r = mag r * 2 ^ up r := by
            rw [Nat.mul_assoc, ← Nat.pow_add, show d - up r + up r = d from by omega, h]
          exact Nat.eq_of_mul_eq_mul_right (Nat.two_pow_pos _) this
        · have e1 : (double.leastPlace + (d : Int) - (double.leastPlace + (up r : Int))).toNat = 0 := by omega
          have e2 : (double.leastPlace + (up r : Int) - (double.leastPlace + (d : Int))).toNat = up r - d := by omega
          rw [e1, e2, Nat.shiftLeft_zero]
          have : m = mag r * 2 ^ (up r - d) := by
            have : m * 2 ^ d = mag r * 2 ^ (up r - d) * 2 ^ d := by
              rw [Nat.mul_assoc, ← Nat.pow_add, show up r - d + d = up r from by omega, h]
            exact Nat.eq_of_mul_eq_mul_right hd this
          rw [this]; exact cut_exact _ _ _ hm0
      rw [fin]
      congr 1
      have e3 : up r * bin + mag r = r := by
        unfold up mag
        rw [if_neg h1, if_neg h1]
        have a := Nat.div_add_mod r bin
        have hd : 1 ≤ r / bin := (Nat.le_div_iff_mul_le hb).2 (by omega)
        have : (r / bin - 1) * bin + bin = bin * (r / bin) := by
          rw [← Nat.succ_mul, Nat.mul_comm]; congr 1; omega
        omega
      rw [e3]; omega

/-- Nought added to a number leaves it; minus nought becomes nought. -/
theorem add_zero {x : Nat} (h : x < 2 * sgn) (hn : nan x = false) : double.add x 0 = some (if x = sgn then 0 else x) := by
  have hw := write_read h hn
  unfold nan at hn; simp at hn
  unfold Format.add
  rw [read_zero]
  by_cases h1 : x % sgn < infW
  · rw [read_num h1] at hw ⊢
    simp only [Datum.sum, Option.map_some, le_up]
    congr 1
    have e1 : (double.leastPlace + (up (x % sgn) : Int) - double.leastPlace).toNat = up (x % sgn) := by omega
    have e2 : (double.leastPlace - double.leastPlace).toNat = 0 := by omega
    rw [e1, e2]
    have e3 : signed false 0 0 = 0 := by decide
    rw [e3, Int.add_zero]
    generalize hs : (x / sgn % 2 == 1) = s at *
    have hwo := word_of h
    rw [hs] at hwo
    by_cases hz : mag (x % sgn) = 0
    · have hx0 : x % sgn = 0 := by
        unfold mag at hz; split at hz
        · exact hz
        · have : 0 < bin := by decide
          omega
      have : signed s (mag (x % sgn)) (up (x % sgn)) = 0 := by rw [hz]; unfold signed; cases s <;> simp
      rw [this]
      simp
      have hq : double.nearest false 0 double.leastPlace = 0 := by decide
      show double.nearest false 0 double.leastPlace = _
      rw [hq]
      rw [hx0] at hwo
      unfold Format.word at hwo
      rw [sgn_eq] at hwo
      cases s
      · simp at hwo; rw [if_neg]; exact hwo; rw [← hwo]; decide
      · simp at hwo; rw [if_pos hwo.symm]
    · have hne : signed s (mag (x % sgn)) (up (x % sgn)) ≠ 0 := by
        unfold signed; have := Nat.two_pow_pos (up (x % sgn))
        have h5 : mag (x % sgn) <<< up (x % sgn) ≠ 0 := by rw [Nat.shiftLeft_eq]; exact Nat.mul_ne_zero hz (by omega)
        cases s <;> simp <;> omega
      rw [if_neg hne]
      have hneg : decide (signed s (mag (x % sgn)) (up (x % sgn)) < 0) = s := by
        unfold signed at hne ⊢
        generalize mag (x % sgn) <<< up (x % sgn) = q at *
        cases s
        · simp
        · simp at hne ⊢; omega
      have habs : (signed s (mag (x % sgn)) (up (x % sgn))).natAbs = val (x % sgn) := by
        rw [val_eq]; unfold signed
        rw [Nat.shiftLeft_eq]
        generalize mag (x % sgn) * 2 ^ up (x % sgn) = q
        cases s <;> simp
      rw [hneg, habs]
      have hxs : x ≠ sgn := by
        intro e; rw [e] at hz; apply hz; decide
      rw [if_neg hxs]
      show double.nearest s (val (x % sgn)) double.leastPlace = x
      rw [nearest_exact s (d := 0) h1 (by simp) (by simp), hwo]
  · have e : x % sgn = infW := by omega
    rw [read_inf e] at hw ⊢
    simp only [Datum.sum, Option.map_some]
    congr 1
    rw [hw, if_neg]
    intro h; rw [h] at e; revert e; decide

theorem lt2 {n : Nat} (h : n < 2) : n = 0 ∨ n = 1 := by omega
/-- A word of 64 bits: its top and its rung. -/
theorem top_cases {b : Nat} (h : b < 2 * sgn) : (b / sgn = 0 ∧ b < sgn ∧ b % sgn = b) ∨ (b / sgn = 1 ∧ sgn ≤ b ∧ b % sgn = b - sgn) := by
  have h3 : b / sgn < 2 := by rw [Nat.div_lt_iff_lt_mul (by decide)]; exact h
  have hd := Nat.div_add_mod b sgn
  have hm := Nat.mod_lt b (show 0 < sgn by decide)
  rcases lt2 h3 with e | e <;> rw [e] at hd
  · left; exact ⟨e, by omega, by omega⟩
  · right; exact ⟨e, by omega, by omega⟩

theorem xor_top {b : Nat} (h : b < 2 * sgn) : (b ^^^ sgn) / sgn = 1 - b / sgn ∧ (b ^^^ sgn) % sgn = b % sgn := by
  have hs : 0 < sgn := by decide
  have h2 : b / sgn < 2 := by rw [Nat.div_lt_iff_lt_mul hs]; exact h
  have e : sgn = 2 ^ 63 := rfl
  constructor
  · have h1 : (b ^^^ sgn) / sgn = (b / sgn) ^^^ (sgn / sgn) := by
      rw [e]; exact Nat.xor_div_two_pow
    rw [h1, Nat.div_self hs]
    have h3 : b / sgn = 0 ∨ b / sgn = 1 := lt2 h2
    rcases h3 with h3 | h3 <;> rw [h3] <;> decide
  · have h1 : (b ^^^ sgn) % sgn = (b % sgn) ^^^ (sgn % sgn) := by
      rw [e]; exact Nat.xor_mod_two_pow
    rw [h1, Nat.mod_self, Nat.xor_zero]

/-- The sign turned. -/
def neg (b : Nat) : Nat := b ^^^ sgn

theorem neg_lt {b : Nat} (h : b < 2 * sgn) : neg b < 2 * sgn := by
  have h1 := (xor_top h).1
  have hs : 0 < sgn := by decide
  unfold neg
  have : (b ^^^ sgn) / sgn < 2 := by rw [h1]; generalize b / sgn = q; omega
  rwa [Nat.div_lt_iff_lt_mul hs] at this

theorem read_neg {b : Nat} (h : b < 2 * sgn) : double.read (neg b) = (double.read b).opposite := by
  have ⟨h1, h2⟩ := xor_top h
  have hs : 0 < sgn := by decide
  have h3 : b / sgn < 2 := by rw [Nat.div_lt_iff_lt_mul hs]; exact h
  have h4 : ((b ^^^ sgn) / sgn % 2 == 1) = !(b / sgn % 2 == 1) := by
    rw [h1]
    have h5 : b / sgn = 0 ∨ b / sgn = 1 := lt2 h3
    rcases h5 with h5 | h5 <;> rw [h5] <;> decide
  unfold neg
  rcases Nat.lt_trichotomy (b % sgn) infW with hb | hb | hb
  · rw [read_num hb, read_num (by rw [h2]; exact hb), h2, h4]; rfl
  · rw [read_inf hb, read_inf (by rw [h2]; exact hb), h4]; rfl
  · rw [read_nan hb, read_nan (by rw [h2]; exact hb), h2, h4]; rfl

theorem signed_neg (s : Bool) (m i : Nat) : signed (!s) m i = - signed s m i := by unfold signed; cases s <;> simp

/-- A number taken from itself is nought; of an infinity there is none. -/
theorem add_neg {x : Nat} (h : x < 2 * sgn) (hn : nan x = false) : double.add x (neg x) = if x % sgn = infW then none else some 0 := by
  unfold nan at hn; simp at hn
  unfold Format.add
  rw [read_neg h]
  by_cases h1 : x % sgn < infW
  · rw [read_num h1, if_neg (by omega)]
    simp only [Datum.opposite, Datum.sum, Option.map_some, signed_neg, Int.min_self]
    congr 1
    rw [Int.add_right_neg]
    simp only [if_true, Int.natAbs_zero, Bool.and_not_self]
    show double.nearest false 0 _ = 0
    unfold Format.nearest; rfl
  · rw [read_inf (by omega), if_pos (by omega)]
    simp only [Datum.opposite, Datum.sum]
    cases (x / sgn % 2 == 1) <;> rfl

/-- The word by which numbers stand. -/
def code (b : Nat) : Nat := if nan b then 18446744073709551615 else if b / sgn % 2 = 1 then 18446744073709551615 - b else b + sgn

theorem code_lt {b : Nat} (h : b < 2 * sgn) : code b < 18446744073709551616 := by
  unfold code
  rcases top_cases h with ⟨a, c, d⟩ | ⟨a, c, d⟩ <;> rw [a] <;> (split; omega) <;> simp <;> unfold sgn at * <;> omega

/-- The number of a code. -/
def back (c : Nat) : Nat := if c / sgn % 2 = 1 then c - sgn else 18446744073709551615 - c

theorem nan_top {b : Nat} (h : b < 2 * sgn) : nan b = decide (infW < b ∧ b < sgn ∨ sgn + infW < b) := by
  unfold nan
  rw [Bool.eq_iff_iff]
  simp only [decide_eq_true_eq]
  rcases top_cases h with ⟨a, c, d⟩ | ⟨a, c, d⟩ <;> rw [d] <;> omega

theorem code_top {b : Nat} (h : b < 2 * sgn) : code b = if infW < b ∧ b < sgn ∨ sgn + infW < b then 18446744073709551615 else if sgn ≤ b then 18446744073709551615 - b else b + sgn := by
  unfold code
  rw [nan_top h]
  rcases top_cases h with ⟨a, c, d⟩ | ⟨a, c, d⟩ <;> rw [a] <;> simp only [decide_eq_true_eq] <;> split <;> try rfl
  · rw [if_neg (by omega), if_neg (by omega)]

theorem back_top {c : Nat} (h : c < 2 * sgn) : back c = if sgn ≤ c then c - sgn else 18446744073709551615 - c := by
  unfold back
  rcases top_cases h with ⟨a, b, d⟩ | ⟨a, b, d⟩ <;> rw [a]
  · rw [if_neg (by omega), if_neg (by omega)]
  · rw [if_pos (by omega), if_pos (by omega)]

theorem skey_top {b : Nat} (h : b < 2 * sgn) : skey b = if sgn ≤ b then (sgn : Int) - b else b := by
  unfold skey
  rcases top_cases h with ⟨a, c, d⟩ | ⟨a, c, d⟩ <;> rw [a, d]
  · rw [if_neg (by omega), if_neg (by omega)]
  · rw [if_pos (by omega), if_pos (by omega)]; omega

theorem sgn2 : 2 * sgn = 18446744073709551616 := rfl

theorem back_code {b : Nat} (h : b < 2 * sgn) (hn : nan b = false) : back (code b) = b := by
  have hc := code_lt h
  rw [back_top (by rw [sgn2]; exact hc), code_top h]
  rw [nan_top h] at hn
  simp only [decide_eq_false_iff_not] at hn
  rw [if_neg hn]
  unfold sgn infW at *
  split <;> split <;> omega

theorem code_back {c : Nat} (h : c < 2 * sgn) (hn : nan (back c) = false) : code (back c) = c := by
  have hb : back c < 2 * sgn := by rw [back_top h]; unfold sgn at *; split <;> omega
  rw [nan_top hb] at hn
  simp only [decide_eq_false_iff_not] at hn
  rw [code_top hb, if_neg hn]
  rw [back_top h] at *
  unfold sgn infW at *
  split <;> split <;> omega

/-- Codes stand as numbers do. -/
theorem code_lt_iff {x y : Nat} (hx : x < 2 * sgn) (hy : y < 2 * sgn) (nx : nan x = false) (ny : nan y = false) (h : skey x < skey y) : code x < code y := by
  rw [skey_top hx, skey_top hy] at h
  rw [nan_top hx] at nx
  rw [nan_top hy] at ny
  simp only [decide_eq_false_iff_not] at nx ny
  rw [code_top hx, code_top hy, if_neg nx, if_neg ny]
  unfold sgn infW at *
  have k1 : ∀ n : Nat, (9223372036854775808 ≤ n) ∨ ¬ (9223372036854775808 ≤ n) := fun n => by omega
  rcases k1 x with a | a <;> rcases k1 y with b | b <;> simp only [a, b, if_true, if_false] at h ⊢ <;> omega

theorem code_eq_iff {x y : Nat} (hx : x < 2 * sgn) (hy : y < 2 * sgn) : code x = code y ↔ x = y ∨ nan x = true ∧ nan y = true := by
  rw [nan_top hx, nan_top hy]
  simp only [decide_eq_true_eq]
  rw [code_top hx, code_top hy]
  unfold sgn infW at *
  split <;> split <;> (try split) <;> (try split) <;> omega

end RqF
