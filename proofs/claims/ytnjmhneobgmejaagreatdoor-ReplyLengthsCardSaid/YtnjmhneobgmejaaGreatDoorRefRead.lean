/- The document's Parse reads what num.Parse reads. No condition. -/
import Derived.Test.YtnjmhneobgmejaaGreatDoorRefPlain
import Derived.Test.YtnjmhneobgmejaaGreatDoorRefText
namespace RqF
/-- Doubled up to its place a whole number stands as its rung does. -/
theorem rung_shift {t k : Nat} (h0 : t ≠ 0) (h1 : bin ≤ t * 2 ^ k) (h2 : t * 2 ^ k < 2 * bin) (hk : k ≤ 52) : rungOf t = (1075 - k) * bin + (t * 2 ^ k - bin) := by
  have hl : t.log2 = 52 - k := by
    rw [Nat.log2_eq_iff h0]
    have hp := Nat.two_pow_pos k
    constructor
    · refine Nat.le_of_mul_le_mul_right (c := 2 ^ k) ?_ hp
      rw [← Nat.pow_add, show 52 - k + k = 52 from by omega]; exact h1
    · refine Nat.lt_of_mul_lt_mul_right (a := 2 ^ k) ?_
      rw [← Nat.pow_add, show 52 - k + 1 + k = 53 from by omega]; exact h2
  unfold rungOf
  rw [if_neg h0, hl, show 52 - (52 - k) = k from by omega, show 1023 + (52 - k) = 1075 - k from by omega]
end RqF
namespace Go.Proofs.YtnjmhneobgmejaaGreatDoor
open Go.RowKit

theorem dbl_bound {t k : Nat} (h0 : t ≠ 0) (h : t * 2 ^ k < 4503599627370496) : k < 52 := by
  rcases Nat.lt_or_ge k 52 with h1 | h1
  · exact h1
  · exfalso
    have h2 : 2 ^ 52 ≤ 2 ^ k := Nat.pow_le_pow_right (by decide) h1
    have h3 : 1 * 2 ^ k ≤ t * 2 ^ k := Nat.mul_le_mul_right _ (by omega)
    have e : (2 : Nat) ^ 52 = 4503599627370496 := rfl
    omega

theorem bits_fin {k v : Nat} (hk : k ≤ 52) (h1 : 4503599627370496 ≤ v) (h2 : v < 9007199254740992) :
    bits BinOp.or IntKind.u64 ((1075 - (k : Int)) * 4503599627370496) (bits BinOp.and IntKind.u64 (v : Int) 4503599627370495) = (((1075 - k) * RqF.bin + (v - RqF.bin) : Nat) : Int) := by
  have a1 := u64_and_nat v 4503599627370495 (by omega) (by decide)
  have e : v &&& 4503599627370495 = v % 4503599627370496 := Nat.and_two_pow_sub_one_eq_mod _ 52
  rw [e] at a1
  have e0 : ((4503599627370495 : Nat) : Int) = 4503599627370495 := rfl
  rw [← e0, a1]
  have e2 : ((1075 - (k : Int)) * 4503599627370496) = (((1075 - k) * 4503599627370496 : Nat) : Int) := by omega
  have hm : v % 4503599627370496 < 4503599627370496 := Nat.mod_lt _ (by decide)
  have a2 := u64_or_nat ((1075 - k) * 4503599627370496) (v % 4503599627370496) (by omega) (by omega)
  have e1 : ((1075 - k) * 4503599627370496) ||| (v % 4503599627370496) = (1075 - k) * 4503599627370496 + v % 4503599627370496 := by
    have := Nat.two_pow_add_eq_or_of_lt (i := 52) (b := v % 4503599627370496) hm (1075 - k)
    have e52 : (2 : Nat) ^ 52 = 4503599627370496 := rfl
    rw [e52, Nat.mul_comm] at this
    exact this.symm
  rw [e1] at a2
  rw [e2, a2]
  have hq : v % 4503599627370496 = v - 4503599627370496 := by omega
  rw [hq]; rfl
set_option maxRecDepth 100000 in
set_option maxHeartbeats 1000000 in
theorem r3bits_any (t : Nat) (w : World) (ht : t < 1000000000000000) :
    Calls Tryz.prog 32 #[.int .u64 t] w fun e w' => e = .returned (.int .u64 (RqF.rungOf t)) ∧ w = w' := by
  by_cases h0 : t = 0
  · subst h0
    go_enter Tryz.func32, Tryz.ntmps32
    go_wp2
    go_ret
    exact ⟨rfl, rfl⟩
  have HT := Lib.hid ht; clear ht
  have H0 := Lib.hid h0
  go_enter Tryz.func32, Tryz.ntmps32
  go_wp2
  clear h0
  go_loop [0, 3] (fun n s => ∃ (v k : Nat), n = .int .u64 v ∧ s = .int .i64 k ∧ k ≤ 52 ∧ v < 9007199254740992 ∧ Hid (v = t * 2 ^ k)) (fun _ s => (53 - intOf s).toNat)
  case atStart => exact ⟨t, 0, rfl, rfl, by omega, by have := HT.out; omega, by show t = t * 2 ^ 0; simp⟩
  case round =>
    obtain ⟨v, k, rfl, rfl, hk, hv, HV⟩ := hrel
    by_cases hlt : v < 4503599627370496
    · have hk2 := dbl_bound H0.out (by rw [← HV.out]; exact hlt)
      have hd : decide ((v : Int) < 4503599627370496) = true := decide_eq_true (by omega)
      have HLT := Lib.hid hlt; clear hlt hv
      go_wp2_with fail
      have hw : IntKind.u64.wrap ((v : Int) * 2) = ((2 * v : Nat) : Int) := by have := HLT.out; rw [IntKind.wrap_u64]; omega
      rw [hw]
      refine ⟨⟨2 * v, k + 1, rfl, rfl, by omega, by have := HLT.out; omega, ?_⟩, by simp [intOf]; omega⟩
      show 2 * v = t * 2 ^ (k + 1)
      rw [HV.out, Nat.pow_succ, ← Nat.mul_assoc, ← Nat.mul_assoc, Nat.mul_comm 2 t, Nat.mul_right_comm]
    · have hd : decide ((v : Int) < 4503599627370496) = false := decide_eq_false (by omega)
      have HLT := Lib.hid hlt; clear hlt
      have HV2 := Lib.hid hv; clear hv
      go_wp2_with fail
      go_ret
      refine ⟨ret_int ?_, rfl⟩
      have h1 := HLT.out
      have h2 := HV2.out
      have h3 := HV.out
      rw [bits_fin hk (by omega) h2, RqF.rung_shift H0.out (k := k) (by rw [← h3]; unfold RqF.bin; omega) (by rw [← h3]; unfold RqF.bin; omega) hk, ← h3]

def DigRet (l : List UInt8) (e : Ending) : Prop := ∃ v : Nat, e = .returned (.tuple #[.int .u64 v, .bool (RqF.digP l).isSome]) ∧ ∀ t, RqF.digP l = some t → v = t
theorem digRet_none {l : List UInt8} (h : RqF.digP l = none) {v : Nat} : DigRet l (.returned (.tuple #[.int .u64 v, .bool false])) :=
  ⟨v, by rw [h]; rfl, fun b hb => by rw [h] at hb; cases hb⟩
theorem take_snoc {l : List UInt8} {k : Nat} (h : k < l.length) : l.take (k + 1) = l.take k ++ [l[k]] := List.take_succ_eq_append_getElem h
theorem dig_fresh {l : List UInt8} {k a : Nat} (h : k < l.length) (hd : 48 ≤ l[k].toNat ∧ l[k].toNat ≤ 57) (hv : a = RqF.valA 0 (l.take k) ∧ (l.take k).all RqF.isDig = true) :
    Hid (10 * a + (l[k].toNat - 48) = RqF.valA 0 (l.take (k + 1)) ∧ (l.take (k + 1)).all RqF.isDig = true) := by
  refine ⟨?_, ?_⟩
  · rw [take_snoc h, RqF.valA_append, ← hv.1]; rfl
  · rw [take_snoc h, List.all_append, hv.2, List.all_cons]
    have : RqF.isDig l[k] = true := by unfold RqF.isDig; simp only [decide_eq_true_eq]; exact hd
    rw [this]; rfl
theorem dig_small {l : List UInt8} {k a : Nat} (hk : k ≤ 15) (hv : a = RqF.valA 0 (l.take k) ∧ (l.take k).all RqF.isDig = true) : a < 1000000000000000 := by
  have h1 := RqF.valA_lt _ hv.2 0
  have h2 : 10 ^ (l.take k).length ≤ 10 ^ 15 := Nat.pow_le_pow_right (by decide) (by rw [List.length_take]; omega)
  rw [← hv.1] at h1
  omega
theorem digP_bad {l : List UInt8} {k : Nat} (h : k < l.length) (hd : ¬ (48 ≤ l[k].toNat ∧ l[k].toNat ≤ 57)) : RqF.digP l = none := by
  unfold RqF.digP
  rw [if_neg]
  intro hh
  have := List.all_eq_true.1 hh.2.1 _ (List.getElem_mem h)
  unfold RqF.isDig at this; simp only [decide_eq_true_eq] at this
  exact hd this
theorem digP_long {l : List UInt8} (h : 15 < l.length) : RqF.digP l = none := by
  unfold RqF.digP
  rw [if_neg]; intro hh; omega

theorem digP_nil {l : List UInt8} (h : l.length = 0) : RqF.digP l = none := by
  unfold RqF.digP
  rw [if_neg]; intro hh; exact hh.2.2.1 (List.eq_nil_of_length_eq_zero h)
theorem digP_good {l : List UInt8} {a : Nat} (h1 : l.length ≤ 15) (h2 : 0 < l.length) (h3 : (l[0]'h2).toNat ≠ 48 ∨ l.length = 1) (hv : a = RqF.valA 0 l ∧ l.all RqF.isDig = true) : RqF.digP l = some a := by
  unfold RqF.digP
  rw [if_pos, hv.1]
  refine ⟨h1, hv.2, by intro e; rw [e] at h2; exact absurd h2 (by decide), ?_⟩
  rcases h3 with h3 | h3
  · left
    cases l with
    | nil => exact absurd h2 (by decide)
    | cons c r => intro e; apply h3; have : c = 48 := by simpa using e
                  show c.toNat = 48; rw [this]; rfl
  · right; exact h3
theorem digP_nought {l : List UInt8} (h1 : l.length ≠ 1) (h2 : 0 < l.length) (h3 : (l[0]'h2).toNat = 48) : RqF.digP l = none := by
  unfold RqF.digP
  rw [if_neg]
  intro hh
  rcases hh.2.2.2 with h | h
  · cases l with
    | nil => exact absurd h2 (by decide)
    | cons c r =>
      apply h
      have h3' : c.toNat = 48 := h3
      have : c = 48 := by have := congrArg UInt8.ofNat h3'; rw [UInt8.ofNat_toNat] at this; exact this
      rw [this]; rfl
  · exact h1 h
theorem digRet_some {l : List UInt8} {a : Nat} (h : RqF.digP l = some a) : DigRet l (.returned (.tuple #[.int .u64 a, .bool true])) :=
  ⟨a, by rw [h]; rfl, fun t ht => by rw [h] at ht; injection ht⟩
set_option maxRecDepth 100000 in
set_option maxHeartbeats 1000000 in
theorem r3digits_any (s : ByteArray) (w : World) (hs : s.size ≤ 9223372036854775807) :
    Calls Tryz.prog 31 #[.string s] w fun e w' => DigRet s.data.toList e ∧ w = w' := by
  obtain ⟨l, hl⟩ : ∃ l, l = s.data.toList := ⟨_, rfl⟩
  have hsz : l.length = s.size := by rw [hl, ← Lib.size_eq]
  have HGE : Hid (∀ k (h : k < s.size), (s[k]'h).toNat = (l[k]'(by omega)).toNat) := by intro k h; subst hl; rfl
  rw [← hl]
  have HL := Lib.hid hl; clear hl
  go_enter Tryz.func31, Tryz.ntmps31
  go_wp2
  go_loop [4, 5] (fun n i => ∃ (k a : Nat), n = .int .u64 a ∧ i = .int .i64 k ∧ k ≤ s.size ∧ k ≤ 15 ∧ Hid (a = RqF.valA 0 (l.take k) ∧ (l.take k).all RqF.isDig = true)) (fun _ i => s.size - (intOf i).toNat)
  case atStart => exact ⟨0, 0, rfl, rfl, by omega, by omega, rfl, rfl⟩
  case round =>
    obtain ⟨k, a, rfl, rfl, hk, hk15, HV⟩ := hrel
    by_cases hlt : k < s.size
    · have hb := HGE.out k hlt
      by_cases hdig : 48 ≤ (s[k]'hlt).toNat ∧ (s[k]'hlt).toNat ≤ 57
      · by_cases h15 : k < 15
        · have hsm := dig_small hk15 HV.out
          have HN := dig_fresh (l := l) (k := k) (by omega) (by rw [← hb]; exact hdig) HV.out
          obtain ⟨hd1, hd2⟩ := hdig
          rw [← hb] at HN
          clear hb
          go_wp2_with fail
          refine ⟨⟨k + 1, 10 * a + ((s[k]'hlt).toNat - 48), ?_, by go_num, by omega, by omega, HN⟩, by simp [intOf]; omega⟩
          congr 1
          omega
        · have HF := Lib.hid (digP_long (l := l) (by omega))
          obtain ⟨hd1, hd2⟩ := hdig
          clear hb
          go_wp2_with fail
          go_ret2
          exact ⟨digRet_none HF.out, rfl⟩
      · have HF := Lib.hid (digP_bad (l := l) (k := k) (by omega) (by rw [← hb]; exact hdig))
        clear hb
        rcases (show (s[k]'hlt).toNat < 48 ∨ 57 < (s[k]'hlt).toNat from by omega) with hd | hd
        all_goals
          clear hdig
          go_wp2_with fail
          go_ret2
          exact ⟨digRet_none HF.out, rfl⟩
    · obtain rfl : k = s.size := by omega
      have hall := HV.out
      rw [List.take_of_length_le (by omega)] at hall
      by_cases h0 : s.size = 0
      · have HF := Lib.hid (digP_nil (l := l) (by omega))
        clear hall
        go_wp2_with fail
        go_ret2
        exact ⟨digRet_none HF.out, rfl⟩
      · have hb0 := HGE.out 0 (by omega)
        have hpos : 0 < s.size := by omega
        by_cases hc : (s[0]'hpos).toNat = 48
        · by_cases h1 : s.size = 1
          · have HF := Lib.hid (digP_good (l := l) (a := a) (by omega) (by omega) (Or.inr (by omega)) hall)
            clear hall hb0
            go_wp2_with fail
            go_ret2
            exact ⟨digRet_some HF.out, rfl⟩
          · have HF := Lib.hid (digP_nought (l := l) (by omega) (by omega) (by rw [← hb0]; exact hc))
            have hq : ((s.size : Int) == 1) = false := by simp; omega
            clear hall hb0
            go_wp2_with fail
            go_ret2
            exact ⟨digRet_none HF.out, rfl⟩
        · have HF := Lib.hid (digP_good (l := l) (a := a) (by omega) (by omega) (Or.inl (by rw [← hb0]; exact hc)) hall)
          clear hall hb0
          go_wp2_with fail
          go_ret2
          exact ⟨digRet_some HF.out, rfl⟩

theorem unhexA_snoc (l : List UInt8) (c : UInt8) : ∀ a, RqF.unhexA a (l ++ [c]) = RqF.unhexA a l * 16 + RqF.hexv c := by
  induction l with
  | nil => intro a; rfl
  | cons x l ih => intro a; exact ih _
theorem unhexA_lt (l : List UInt8) (hd : l.all RqF.isHex = true) : ∀ a, RqF.unhexA a l < (a + 1) * 16 ^ l.length := by
  induction l with
  | nil => intro a; show a < _; simp
  | cons c l ih =>
    intro a
    rw [List.all_cons, Bool.and_eq_true] at hd
    have h1 := ih hd.2 (a * 16 + RqF.hexv c)
    have h2 := RqF.hexv_lt hd.1
    have h3 : (a * 16 + RqF.hexv c + 1) * 16 ^ l.length ≤ ((a + 1) * 16) * 16 ^ l.length := Nat.mul_le_mul_right _ (by omega)
    show RqF.unhexA (a * 16 + RqF.hexv c) l < _
    rw [List.length_cons, Nat.pow_succ, Nat.mul_comm (16 ^ l.length) 16, ← Nat.mul_assoc]
    omega
def UnhexRet (l : List UInt8) (e : Ending) : Prop := ∃ v : Nat, e = .returned (.tuple #[.int .u64 v, .bool (decide (l.length = 16 ∧ l.all RqF.isHex = true))]) ∧ (l.length = 16 → l.all RqF.isHex = true → v = RqF.unhex l)
theorem unhexRet_none {l : List UInt8} (h : l.all RqF.isHex = false) : UnhexRet l (.returned (.tuple #[.int .u64 0, .bool false])) :=
  ⟨0, by rw [h]; simp, fun _ hb => by rw [h] at hb; cases hb⟩
theorem hex_fresh {l : List UInt8} {k a d : Nat} (h : k < l.length) (hd : RqF.isHex l[k] = true) (he : RqF.hexv l[k] = d) (hv : a = RqF.unhexA 0 (l.take k) % 18446744073709551616 ∧ (l.take k).all RqF.isHex = true) :
    Hid ((16 * a + d) % 18446744073709551616 = RqF.unhexA 0 (l.take (k + 1)) % 18446744073709551616 ∧ (l.take (k + 1)).all RqF.isHex = true) := by
  refine ⟨?_, ?_⟩
  · rw [take_snoc h, unhexA_snoc, he, hv.1]; omega
  · rw [take_snoc h, List.all_append, hv.2, List.all_cons, hd]; rfl
theorem hex_bad {l : List UInt8} {k : Nat} (h : k < l.length) (hd : RqF.isHex l[k] = false) : l.all RqF.isHex = false := by
  rw [Bool.eq_false_iff]
  intro hh
  have := List.all_eq_true.1 hh _ (List.getElem_mem h)
  rw [hd] at this; cases this
theorem hexv_dig {c : UInt8} (h : 48 ≤ c.toNat ∧ c.toNat ≤ 57) : RqF.isHex c = true ∧ RqF.hexv c = c.toNat - 48 := by
  refine ⟨?_, ?_⟩
  · unfold RqF.isHex; simp only [decide_eq_true_eq]; omega
  · unfold RqF.hexv; rw [if_pos (by omega)]
theorem hexv_let {c : UInt8} (h : 97 ≤ c.toNat ∧ c.toNat ≤ 102) : RqF.isHex c = true ∧ RqF.hexv c = c.toNat - 87 := by
  refine ⟨?_, ?_⟩
  · unfold RqF.isHex; simp only [decide_eq_true_eq]; omega
  · unfold RqF.hexv; rw [if_neg (by omega)]
theorem hexv_no {c : UInt8} (h : ¬ (48 ≤ c.toNat ∧ c.toNat ≤ 57)) (h2 : ¬ (97 ≤ c.toNat ∧ c.toNat ≤ 102)) : RqF.isHex c = false := by
  unfold RqF.isHex; simp only [decide_eq_false_iff_not]; omega

set_option maxRecDepth 100000 in
set_option maxHeartbeats 1000000 in
theorem r3unhex_any (s : ByteArray) (w : World) (hs : s.size ≤ 9223372036854775807) :
    Calls Tryz.prog 29 #[.string s] w fun e w' => UnhexRet s.data.toList e ∧ w = w' := by
  obtain ⟨l, hl⟩ : ∃ l, l = s.data.toList := ⟨_, rfl⟩
  have hsz : l.length = s.size := by rw [hl, ← Lib.size_eq]
  have HGE : Hid (∀ k (h : k < s.size), (s[k]'h).toNat = (l[k]'(by omega)).toNat) := by intro k h; subst hl; rfl
  rw [← hl]
  have HL := Lib.hid hl; clear hl
  go_enter Tryz.func29, Tryz.ntmps29
  go_wp2
  go_loop [4, 5] (fun n i => ∃ (k a : Nat), n = .int .u64 a ∧ i = .int .i64 k ∧ k ≤ s.size ∧ Hid (a = RqF.unhexA 0 (l.take k) % 18446744073709551616 ∧ (l.take k).all RqF.isHex = true)) (fun _ i => s.size - (intOf i).toNat)
  case atStart => exact ⟨0, 0, rfl, rfl, by omega, rfl, rfl⟩
  case round =>
    obtain ⟨k, a, rfl, rfl, hk, HV⟩ := hrel
    by_cases hlt : k < s.size
    · have hb := HGE.out k hlt
      by_cases hdig : 48 ≤ (s[k]'hlt).toNat ∧ (s[k]'hlt).toNat ≤ 57
      · have hx := hexv_dig (c := l[k]'(by omega)) (by rw [← hb]; exact hdig)
        have HN := hex_fresh (l := l) (k := k) (by omega) hx.1 hx.2 HV.out
        obtain ⟨hd1, hd2⟩ := hdig
        rw [← hb] at HN
        clear hb hx
        go_wp2_with fail
        refine ⟨⟨k + 1, (16 * a + ((s[k]'hlt).toNat - 48)) % 18446744073709551616, ?_, by go_num, by omega, HN⟩, by simp [intOf]; omega⟩
        congr 1
        simp only [IntKind.wrap_u64]
        omega
      · by_cases hlet : 97 ≤ (s[k]'hlt).toNat ∧ (s[k]'hlt).toNat ≤ 102
        · have hx := hexv_let (c := l[k]'(by omega)) (by rw [← hb]; exact hlet)
          have HN := hex_fresh (l := l) (k := k) (by omega) hx.1 hx.2 HV.out
          obtain ⟨hd1, hd2⟩ := hlet
          rw [← hb] at HN
          clear hb hx hdig
          go_wp2_with fail
          refine ⟨⟨k + 1, (16 * a + ((s[k]'hlt).toNat - 87)) % 18446744073709551616, ?_, by go_num, by omega, HN⟩, by simp [intOf]; omega⟩
          congr 1
          simp only [IntKind.wrap_u64]
          omega
        · have HF := Lib.hid (hex_bad (l := l) (k := k) (by omega) (hexv_no (by rw [← hb]; exact hdig) (by rw [← hb]; exact hlet)))
          clear hb
          rcases (show (s[k]'hlt).toNat < 48 ∨ (57 < (s[k]'hlt).toNat ∧ (s[k]'hlt).toNat < 97) ∨ 102 < (s[k]'hlt).toNat from by omega) with hd | ⟨hd, hd2⟩ | hd
          all_goals
            clear hdig hlet
            go_wp2_with fail
            go_ret2
            exact ⟨unhexRet_none HF.out, rfl⟩
    · obtain rfl : k = s.size := by omega
      have hall := HV.out
      rw [List.take_of_length_le (by omega)] at hall
      have HA := Lib.hid hall; clear hall
      go_wp2_with fail
      go_ret2
      refine ⟨⟨a, ?_, ?_⟩, rfl⟩
      · rw [HA.out.2]
        refine ret2 rfl ?_
        refine congrArg Value.bool ?_
        rw [Bool.eq_iff_iff]
        simp
        omega
      · intro h16 hh
        have h1 := unhexA_lt l hh 0
        rw [h16] at h1
        have h2 : (16 : Nat) ^ 16 = 18446744073709551616 := by decide
        rw [HA.out.1]; exact Nat.mod_eq_of_lt (by omega)
end Go.Proofs.YtnjmhneobgmejaaGreatDoor
