/- The document's own texts of numbers: hex, Digits, whole, Text. No condition. -/
import Derived.Test.YtnjmhneobgmejaaDoorNumC
import Derived.Test.YtnjmhneobgmejaaDoorText
import Derived.Lib.Strings
import Derived.Lib.ItoaLen
namespace Go.Proofs.YtnjmhneobgmejaaDoor
open Go.RowKit

theorem hex_take {u j : Nat} (h : j < 16) : (RqF.hexLow 16 u).take (j + 1) = (RqF.hexLow 16 u).take j ++ [RqF.hexd (u / 16 ^ (15 - j) % 16)] := by
  have gen : ∀ k j, j < k → (RqF.hexLow k u).take (j + 1) = (RqF.hexLow k u).take j ++ [RqF.hexd (u / 16 ^ (k - 1 - j) % 16)] := by
    intro k
    induction k with
    | zero => intro j h; omega
    | succ k ih =>
      intro j h
      cases j with
      | zero => simp [RqF.hexLow]
      | succ j =>
        have := ih j (by omega)
        simp only [RqF.hexLow, List.take_succ_cons, this, List.cons_append]
        rw [show k + 1 - 1 - (j + 1) = k - 1 - j from by omega]
  exact gen 16 j h
theorem hex_and (u j : Nat) (hu : u < 2 * RqF.sgn) (hj : j < 16) : bits BinOp.and IntKind.u64 ((u : Int) / 2 ^ (60 - 4 * j)) 15 = ((u / 16 ^ (15 - j) % 16 : Nat) : Int) := by
  have e1 : ((u : Int) / 2 ^ (60 - 4 * j)) = ((u / 2 ^ (60 - 4 * j) : Nat) : Int) := by
    rw [Int.natCast_ediv]; simp
  have e2 : 2 ^ (60 - 4 * j) = 16 ^ (15 - j) := by
    rw [show (16 : Nat) = 2 ^ 4 from rfl, ← Nat.pow_mul, show 4 * (15 - j) = 60 - 4 * j from by omega]
  rw [e1, e2]
  have h1 : u / 16 ^ (15 - j) < 18446744073709551616 := Nat.lt_of_le_of_lt (Nat.div_le_self _ _) hu
  have := u64_and_nat (u / 16 ^ (15 - j)) 15 h1 (by decide)
  have e : (u / 16 ^ (15 - j)) &&& 15 = u / 16 ^ (15 - j) % 16 := Nat.and_two_pow_sub_one_eq_mod _ 4
  rw [e] at this
  exact this
theorem hexc_extract (d : Nat) (h : d < 16) : ((ByteArray.mk #[48, 49, 50, 51, 52, 53, 54, 55, 56, 57, 97, 98, 99, 100, 101, 102]).extract d (d + 1)).data.toList = [RqF.hexd d] := by
  have key : ∀ d : Fin 16, ((ByteArray.mk #[48, 49, 50, 51, 52, 53, 54, 55, 56, 57, 97, 98, 99, 100, 101, 102]).extract d.val (d.val + 1)).data.toList = [RqF.hexd d.val] := by decide +kernel
  exact key ⟨d, h⟩
theorem bytes_ext {a b : ByteArray} (h : a.data.toList = b.data.toList) : a = b := by
  cases a; cases b; simp only at h; congr; exact Array.ext' h
theorem append_list (l r : List UInt8) (b : ByteArray) (h : b.data.toList = r) : (ByteArray.mk l.toArray) ++ b = ⟨(l ++ r).toArray⟩ := by
  apply bytes_ext
  rw [show ((ByteArray.mk l.toArray) ++ b).data = (ByteArray.mk l.toArray).data ++ b.data from ByteArray.data_append]
  simp [h]

set_option maxRecDepth 100000 in
set_option maxHeartbeats 1000000 in
theorem r3hex_any (u : Nat) (w : World) (hu : u < 2 * RqF.sgn) :
    Calls Tryd.prog 57 #[.int .u64 u] w fun e w' => e = .returned (.string ⟨(RqF.hexLow 16 u).toArray⟩) ∧ w = w' := by
  have HU := Lib.hid hu; clear hu
  have hlen := RqF.hexLow_length 16 u
  go_enter Tryd.func57, Tryd.ntmps57
  go_wp2
  go_loop [3, 4] (fun out i => ∃ (j : Nat) (l : List UInt8), j ≤ 16 ∧ i = .int .i64 (60 - 4 * (j : Int)) ∧ l.length = j ∧ Hid (l = (RqF.hexLow 16 u).take j) ∧ out = .string ⟨l.toArray⟩) (fun _ i => ((intOf i) + 4).toNat)
  case atStart => exact ⟨0, [], by omega, rfl, rfl, rfl, rfl⟩
  case round =>
    obtain ⟨j, l, hj, rfl, hl, HLL, rfl⟩ := hrel
    by_cases hlt : j < 16
    · have hand := hex_and u j HU.out hlt
      obtain ⟨d, hd⟩ : ∃ d, d = u / 16 ^ (15 - j) % 16 := ⟨_, rfl⟩
      have hd16 : d < 16 := by rw [hd]; exact Nat.mod_lt _ (by decide)
      rw [← hd] at hand
      have HD := Lib.hid hd; clear hd
      have HEQ := Lib.hid hl
      clear hl
      have hl2 : l.length ≤ 16 := by rw [HEQ.out]; omega
      go_wp2_with fail
      refine ⟨⟨j + 1, l ++ [RqF.hexd d], by omega, by congr 1; omega, by rw [List.length_append, HEQ.out]; rfl, ?_, ?_⟩, by simp [intOf]; omega⟩
      · rw [HLL.out, HD.out]; exact (hex_take hlt).symm
      · congr 1; exact append_list l _ _ (hexc_extract d hd16)
    · obtain rfl : j = 16 := by omega
      clear hl
      go_wp2_with fail
      go_ret
      refine ⟨?_, rfl⟩
      have : l = RqF.hexLow 16 u := by rw [HLL.out, List.take_of_length_le (by omega)]
      rw [this]; rfl

theorem digc_extract (d : Nat) (h : d < 10) : ((ByteArray.mk #[48, 49, 50, 51, 52, 53, 54, 55, 56, 57]).extract d (d + 1)).data.toList = [UInt8.ofNat (48 + d)] := by
  have key : ∀ d : Fin 10, ((ByteArray.mk #[48, 49, 50, 51, 52, 53, 54, 55, 56, 57]).extract d.val (d.val + 1)).data.toList = [UInt8.ofNat (48 + d.val)] := by decide +kernel
  exact key ⟨d, h⟩
theorem append_list2 (l r : List UInt8) (b : ByteArray) (h : b.data.toList = r) : b ++ (ByteArray.mk l.toArray) = ⟨(r ++ l).toArray⟩ := by
  apply bytes_ext
  rw [show (b ++ (ByteArray.mk l.toArray)).data = b.data ++ (ByteArray.mk l.toArray).data from ByteArray.data_append]
  simp [h]
theorem dec_step {v : Nat} (h : ¬ v < 10) : Lib.decDigits v = Lib.decDigits (v / 10) ++ [UInt8.ofNat (48 + v % 10)] := by
  rw [Lib.decDigits]; rw [dif_neg h]
theorem dec_last {v : Nat} (h : v < 10) : Lib.decDigits v = [UInt8.ofNat (48 + v)] := by
  rw [Lib.decDigits]; rw [dif_pos h]

set_option maxRecDepth 100000 in
set_option maxHeartbeats 1000000 in
theorem digits_any (v : Nat) (w : World) (hv : v < 2 * RqF.sgn) :
    Calls Tryd.prog 45 #[.int .u64 v] w fun e w' => e = .returned (.string ⟨(Lib.decDigits v).toArray⟩) ∧ w = w' := by
  have HV := Lib.hid hv; clear hv
  have hlen : (Lib.decDigits v).length ≤ 20 := by rw [Lib.decDigits_length]; exact Lib.nDigits_le20 v HV.out
  have HL := Lib.hid hlen; clear hlen
  go_enter Tryd.func45, Tryd.ntmps45
  go_wp2
  go_loop [0, 3] (fun n s => ∃ (u : Nat) (l : List UInt8), n = .int .u64 u ∧ s = .string ⟨l.toArray⟩ ∧ Hid (u < 2 * RqF.sgn ∧ Lib.decDigits v = Lib.decDigits u ++ l)) (fun n _ => (intOf n).toNat)
  case atStart => exact ⟨v, [], rfl, rfl, HV.out, by simp⟩
  case round =>
    obtain ⟨u, l, rfl, rfl, HU⟩ := hrel
    have hl : l.length ≤ 20 := by
      have h1 := HL.out
      rw [HU.out.2, List.length_append] at h1; omega
    by_cases hlt : u < 10
    · have hd := digc_extract u hlt
      have HD := Lib.hid hd; clear hd
      go_wp2_with fail
      go_ret
      refine ⟨?_, rfl⟩
      rw [HU.out.2, dec_last hlt, ← append_list2 l _ _ HD.out]; rfl
    · have hm : u % 10 < 10 := Nat.mod_lt _ (by decide)
      obtain ⟨d, hd⟩ : ∃ d, d = u % 10 := ⟨_, rfl⟩
      have he : ((u : Int) % 10) = (d : Int) := by omega
      rw [← hd] at hm
      have HD := Lib.hid hd; clear hd
      go_wp2_with fail
      have hw : IntKind.u64.wrap ((u : Int) / 10) = ((u / 10 : Nat) : Int) := by
        have := HU.out.1
        rw [IntKind.wrap_u64]; unfold RqF.sgn at this; omega
      rw [hw]
      refine ⟨⟨u / 10, UInt8.ofNat (48 + d) :: l, rfl, ?_, ?_⟩, by simp [intOf]; omega⟩
      · rw [append_list2 l _ _ (digc_extract d hm)]; rfl
      · refine ⟨Nat.lt_of_le_of_lt (Nat.div_le_self _ _) HU.out.1, ?_⟩
        rw [HU.out.2, dec_step hlt, HD.out, List.append_assoc]; rfl

/-- What the document's whole reads off a word. -/
theorem whole_field {b : Nat} (hb : b < 2 * RqF.sgn) : bits BinOp.and IntKind.u64 ((b : Int) / 4503599627370496) 2047 = ((b % RqF.sgn / RqF.bin : Nat) : Int) := by
  have e1 : ((b : Int) / 4503599627370496) = ((b / 4503599627370496 : Nat) : Int) := by omega
  rw [e1]
  have := u64_and_nat (b / 4503599627370496) 2047 (Nat.lt_of_le_of_lt (Nat.div_le_self _ _) hb) (by decide)
  have e : (b / 4503599627370496) &&& 2047 = b / 4503599627370496 % 2048 := Nat.and_two_pow_sub_one_eq_mod _ 11
  rw [e] at this
  have e3 : b / 4503599627370496 % 2048 = b % RqF.sgn / RqF.bin := by unfold RqF.sgn RqF.bin; omega
  rw [e3] at this
  exact this
theorem whole_mant {b : Nat} (hb : b < 2 * RqF.sgn) : bits BinOp.or IntKind.u64 (bits BinOp.and IntKind.u64 (b : Int) 4503599627370495) 4503599627370496 = ((RqF.bin + b % RqF.sgn % RqF.bin : Nat) : Int) := by
  have h1 := u64_and_nat b 4503599627370495 hb (by decide)
  have e : b &&& 4503599627370495 = b % 4503599627370496 := Nat.and_two_pow_sub_one_eq_mod _ 52
  rw [e] at h1
  have e0 : ((4503599627370495 : Nat) : Int) = 4503599627370495 := rfl
  rw [← e0, h1]
  have hm : b % 4503599627370496 < 4503599627370496 := Nat.mod_lt _ (by decide)
  have h2 := u64_or_nat (b % 4503599627370496) 4503599627370496 (by omega) (by decide)
  have e1 : (b % 4503599627370496) ||| 4503599627370496 = 4503599627370496 + b % 4503599627370496 := by
    have := Nat.two_pow_add_eq_or_of_lt (i := 52) (b := b % 4503599627370496) hm 1
    rw [Nat.mul_one] at this
    rw [Nat.or_comm]
    exact this.symm
  rw [e1] at h2
  have e2 : b % 4503599627370496 = b % RqF.sgn % RqF.bin := by unfold RqF.sgn RqF.bin; omega
  rw [e2] at h2 ⊢
  exact h2
theorem and_mask (m k : Nat) (hm : m < 18446744073709551616) (hk : k ≤ 52) : bits BinOp.and IntKind.u64 (m : Int) (((2 ^ k : Nat) : Int) - 1) = ((m % 2 ^ k : Nat) : Int) := by
  have hp := Nat.two_pow_pos k
  have hp2 : 2 ^ k ≤ 2 ^ 52 := Nat.pow_le_pow_right (by decide) hk
  have e0 : (((2 ^ k : Nat) : Int) - 1) = ((2 ^ k - 1 : Nat) : Int) := by omega
  have := u64_and_nat m (2 ^ k - 1) hm (by omega)
  rw [Nat.and_two_pow_sub_one_eq_mod] at this
  rw [e0, this]

theorem mask_form {mm f : Nat} (hm : mm < 18446744073709551616) (h1 : 1023 ≤ f) (h2 : f ≤ 1075) :
    bits BinOp.and IntKind.u64 (mm : Int) (IntKind.u64.wrap (IntKind.u64.wrap (2 ^ (-((f : Int) - 1075)).toNat) - 1)) = ((mm % 2 ^ (1075 - f) : Nat) : Int) ∧ (mm : Int) / 2 ^ (-((f : Int) - 1075)).toNat = ((mm / 2 ^ (1075 - f) : Nat) : Int) := by
  have e : (-((f : Int) - 1075)).toNat = 1075 - f := by omega
  rw [e]
  have hk : 1075 - f ≤ 52 := by omega
  generalize 1075 - f = k at *
  have hp := Nat.two_pow_pos k
  have hp2 : 2 ^ k ≤ 2 ^ 52 := Nat.pow_le_pow_right (by decide) hk
  have e1 : ((2 : Int) ^ k) = ((2 ^ k : Nat) : Int) := by simp
  have e52 : (2 : Nat) ^ 52 = 4503599627370496 := rfl
  have e2 : IntKind.u64.wrap (IntKind.u64.wrap ((2 : Int) ^ k) - 1) = ((2 ^ k : Nat) : Int) - 1 := by
    rw [e1, IntKind.wrap_u64, IntKind.wrap_u64]; omega
  refine ⟨by rw [e2]; exact and_mask mm k hm hk, by rw [e1, ← Int.natCast_ediv]⟩

theorem ne_cast_false {a : Nat} (h : (((a : Nat) : Int) != 0) = false) (hn : a ≠ 0) : False := by
  have : ((a : Nat) : Int) = 0 := by simpa using h
  omega
theorem some_cast (a : Nat) : decide (((a : Nat) : Int) < 1000000000000000) = (if a < 1000000000000000 then some a else none).isSome := by
  by_cases hlt : a < 1000000000000000
  · rw [if_pos hlt, decide_eq_true (by omega)]; rfl
  · rw [if_neg hlt, decide_eq_false (by omega)]; rfl

def WholeRet (b : Nat) (e : Ending) : Prop := ∃ v : Nat, e = .returned (.tuple #[.int .u64 v, .bool (RqF.wholeF b).isSome]) ∧ ∀ t, RqF.wholeF b = some t → v = t

set_option maxRecDepth 100000 in
set_option maxHeartbeats 1000000 in
theorem r3whole_zero (b r f mm : Nat) (w : World) (hr : bits BinOp.andNot IntKind.u64 (b : Int) 9223372036854775808 = (r : Int)) (hf : bits BinOp.and IntKind.u64 ((b : Int) / 4503599627370496) 2047 = (f : Int))
    (hm : bits BinOp.or IntKind.u64 (bits BinOp.and IntKind.u64 (b : Int) 4503599627370495) 4503599627370496 = (mm : Int)) (hf2 : f ≤ 2047) (hr0 : r = 0) :
    Calls Tryd.prog 56 #[.int .u64 b] w fun e w' => e = .returned (.tuple #[.int .u64 0, .bool true]) ∧ w = w' := by
  subst hr0
  go_enter Tryd.func56, Tryd.ntmps56
  go_wp2
  go_ret2
  exact ⟨rfl, rfl⟩
set_option maxRecDepth 100000 in
set_option maxHeartbeats 1000000 in
theorem r3whole_out (b r f mm : Nat) (w : World) (hr : bits BinOp.andNot IntKind.u64 (b : Int) 9223372036854775808 = (r : Int)) (hf : bits BinOp.and IntKind.u64 ((b : Int) / 4503599627370496) 2047 = (f : Int))
    (hm : bits BinOp.or IntKind.u64 (bits BinOp.and IntKind.u64 (b : Int) 4503599627370495) 4503599627370496 = (mm : Int)) (hf2 : f ≤ 2047) (hr0 : 1 ≤ r) (h1 : f < 1023 ∨ 1075 < f) :
    Calls Tryd.prog 56 #[.int .u64 b] w fun e w' => e = .returned (.tuple #[.int .u64 0, .bool false]) ∧ w = w' := by
  rcases h1 with h1 | h1
  all_goals
    go_enter Tryd.func56, Tryd.ntmps56
    go_wp2
    go_ret2
    exact ⟨rfl, rfl⟩
set_option maxRecDepth 100000 in
set_option maxHeartbeats 1000000 in
theorem r3whole_mid (b r f mm : Nat) (w : World) (hr : bits BinOp.andNot IntKind.u64 (b : Int) 9223372036854775808 = (r : Int)) (hf : bits BinOp.and IntKind.u64 ((b : Int) / 4503599627370496) 2047 = (f : Int))
    (hm : bits BinOp.or IntKind.u64 (bits BinOp.and IntKind.u64 (b : Int) 4503599627370495) 4503599627370496 = (mm : Int)) (hf2 : f ≤ 2047) (hr0 : 1 ≤ r) (h1 : 1023 ≤ f) (h2 : f ≤ 1075)
    (hw : Hid (RqF.wholeF b = if mm % 2 ^ (1075 - f) ≠ 0 then none else if mm / 2 ^ (1075 - f) < 1000000000000000 then some (mm / 2 ^ (1075 - f)) else none)) (hmm : mm < 9007199254740992) :
    Calls Tryd.prog 56 #[.int .u64 b] w fun e w' => WholeRet b e ∧ w = w' := by
  have HM := Lib.hid (mask_form (mm := mm) (f := f) (by omega) h1 h2)
  have HMM := Lib.hid hmm; clear hmm
  go_enter Tryd.func56, Tryd.ntmps56
  go_wp2
  all_goals go_ret2
  · have hx : (bits BinOp.and IntKind.u64 (mm : Int) (IntKind.u64.wrap (IntKind.u64.wrap (2 ^ (-((f : Int) - 1075)).toNat) - 1)) != 0) = true := by assumption
    rw [HM.out.1] at hx
    have hn : mm % 2 ^ (1075 - f) ≠ 0 := by intro e; rw [e] at hx; simp at hx
    have hN : RqF.wholeF b = none := by rw [hw.out, if_pos hn]
    exact ⟨⟨0, by rw [hN]; rfl, fun t ht => by rw [hN] at ht; cases ht⟩, rfl⟩
  · have hx : (bits BinOp.and IntKind.u64 (mm : Int) (IntKind.u64.wrap (IntKind.u64.wrap (2 ^ (-((f : Int) - 1075)).toNat) - 1)) != 0) = false := by assumption
    rw [HM.out.1] at hx
    have hn : ¬ (mm % 2 ^ (1075 - f) ≠ 0) := fun e => ne_cast_false hx e
    have hN : RqF.wholeF b = if mm / 2 ^ (1075 - f) < 1000000000000000 then some (mm / 2 ^ (1075 - f)) else none := by rw [hw.out, if_neg hn]
    refine ⟨⟨mm / 2 ^ (1075 - f), ?_, ?_⟩, rfl⟩
    · rw [hN]
      refine ret2 ?_ ?_
      · show Value.int .u64 ((mm : Int) / 2 ^ (-((f : Int) - 1075)).toNat) = _
        rw [HM.out.2]
      · show Value.bool (decide ((mm : Int) / 2 ^ (-((f : Int) - 1075)).toNat < 1000000000000000)) = _
        rw [HM.out.2]
        exact congrArg Value.bool (some_cast _)
    · intro t ht; rw [hN] at ht; split at ht <;> simp at ht; exact ht

theorem r3whole_any (b : Nat) (w : World) (hb : b < 2 * RqF.sgn) :
    Calls Tryd.prog 56 #[.int .u64 b] w fun e w' => WholeRet b e ∧ w = w' := by
  have hr := RqF.bits_andNot_top hb
  have hf := whole_field hb
  have hm := whole_mant hb
  have hb2 : 0 < RqF.bin := by decide
  have hrs : b % RqF.sgn < RqF.sgn := Nat.mod_lt _ (by decide)
  have hf2 : b % RqF.sgn / RqF.bin ≤ 2047 := by
    have : b % RqF.sgn / RqF.bin < 2048 := by rw [Nat.div_lt_iff_lt_mul hb2]; unfold RqF.sgn RqF.bin at *; omega
    omega
  have hmb : RqF.bin + b % RqF.sgn % RqF.bin < 9007199254740992 := by
    have := Nat.mod_lt (b % RqF.sgn) hb2; unfold RqF.bin at *; omega
  by_cases h0 : b % RqF.sgn = 0
  · have hN : RqF.wholeF b = some 0 := by unfold RqF.wholeF; simp only; rw [if_pos h0]
    exact (r3whole_zero b _ _ _ w hr hf hm hf2 h0).mono fun e w' ⟨he, hw⟩ => ⟨⟨0, by rw [he, hN]; rfl, fun t ht => by rw [hN] at ht; exact Option.some.inj ht⟩, hw⟩
  · by_cases h1 : b % RqF.sgn / RqF.bin < 1023 ∨ 1075 < b % RqF.sgn / RqF.bin
    · have hN : RqF.wholeF b = none := by unfold RqF.wholeF; simp only; rw [if_neg h0, if_pos h1]
      exact (r3whole_out b _ _ _ w hr hf hm hf2 (by omega) h1).mono fun e w' ⟨he, hw⟩ => ⟨⟨0, by rw [he, hN]; rfl, fun t ht => by rw [hN] at ht; cases ht⟩, hw⟩
    · refine r3whole_mid b _ _ _ w hr hf hm hf2 (by omega) (by omega) (by omega) ?_ hmb
      show RqF.wholeF b = _
      unfold RqF.wholeF; simp only; rw [if_neg h0, if_neg h1]
end Go.Proofs.YtnjmhneobgmejaaDoor
