/- The document's own texts of numbers: hex, Digits, whole, Text. No condition. -/
import Derived.Test.YtnjmhneobgmejaaGreatDoorNumC
import Derived.Test.YtnjmhneobgmejaaGreatDoorText
import Derived.Lib.Strings
import Derived.Lib.ItoaLen
namespace Go.Proofs.YtnjmhneobgmejaaGreatDoor
open Go.RowKit

theorem hex_take {u j : Nat} (h : j < 16) : (RqF.hexLow 16 u).take (j + 1) = (RqF.hexLow 16 u).take j ++ [RqF.hexd (u / 16 ^ (15 - j) % 16)] := by
  have gen : ∀ k j, j < k → (RqF.hexLow k u).take (j + 1) = (RqF.hexLow k u).take j ++ [RqF.hexd (u / 16 ^ (k - 1 - j) % 16)] := by
    intro k
    induction k with
    | zero => intro j h; omega
    | succ k ih =>
      intro j h
      cases j with
      | zero => simp [RqF.hexLow]
      | succ j =>
        have := ih j (by omega)
        simp only [RqF.hexLow, List.take_succ_cons, this, List.cons_append]
        rw [show k + 1 - 1 - (j + 1) = k - 1 - j from by omega]
  exact gen 16 j h
theorem hex_and (u j : Nat) (hu : u < 2 * RqF.sgn) (hj : j < 16) : bits BinOp.and IntKind.u64 ((u : Int) / 2 ^ (60 - 4 * j)) 15 = ((u / 16 ^ (15 - j) % 16 : Nat) : Int) := by
  have e1 : ((u : Int) / 2 ^ (60 - 4 * j)) = ((u / 2 ^ (60 - 4 * j) : Nat) : Int) := by
    rw [Int.natCast_ediv]; simp
  have e2 : 2 ^ (60 - 4 * j) = 16 ^ (15 - j) := by
    rw [show (16 : Nat) = 2 ^ 4 from rfl, ← Nat.pow_mul, show 4 * (15 - j) = 60 - 4 * j from by omega]
  rw [e1, e2]
  have h1 : u / 16 ^ (15 - j) < 18446744073709551616 := Nat.lt_of_le_of_lt (Nat.div_le_self _ _) hu
  have := u64_and_nat (u / 16 ^ (15 - j)) 15 h1 (by decide)
  have e : (u / 16 ^ (15 - j)) &&& 15 = u / 16 ^ (15 - j) % 16 := Nat.and_two_pow_sub_one_eq_mod _ 4
  rw [e] at this
  exact this
theorem hexc_extract (d : Nat) (h : d < 16) : ((ByteArray.mk #[48, 49, 50, 51, 52, 53, 54, 55, 56, 57, 97, 98, 99, 100, 101, 102]).extract d (d + 1)).data.toList = [RqF.hexd d] := by
  have key : ∀ d : Fin 16, ((ByteArray.mk #[48, 49, 50, 51, 52, 53, 54, 55, 56, 57, 97, 98, 99, 100, 101, 102]).extract d.val (d.val + 1)).data.toList = [RqF.hexd d.val] := by decide +kernel
  exact key ⟨d, h⟩
theorem bytes_ext {a b : ByteArray} (h : a.data.toList = b.data.toList) : a = b := by
  cases a; cases b; simp only at h; congr; exact Array.ext' h
theorem append_list (l r : List UInt8) (b : ByteArray) (h : b.data.toList = r) : (ByteArray.mk l.toArray) ++ b = ⟨(l ++ r).toArray⟩ := by
  apply bytes_ext
  rw [show ((ByteArray.mk l.toArray) ++ b).data = (ByteArray.mk l.toArray).data ++ b.data from ByteArray.data_append]
  simp [h]

theorem digc_extract (d : Nat) (h : d < 10) : ((ByteArray.mk #[48, 49, 50, 51, 52, 53, 54, 55, 56, 57]).extract d (d + 1)).data.toList = [UInt8.ofNat (48 + d)] := by
  have key : ∀ d : Fin 10, ((ByteArray.mk #[48, 49, 50, 51, 52, 53, 54, 55, 56, 57]).extract d.val (d.val + 1)).data.toList = [UInt8.ofNat (48 + d.val)] := by decide +kernel
  exact key ⟨d, h⟩
theorem append_list2 (l r : List UInt8) (b : ByteArray) (h : b.data.toList = r) : b ++ (ByteArray.mk l.toArray) = ⟨(r ++ l).toArray⟩ := by
  apply bytes_ext
  rw [show (b ++ (ByteArray.mk l.toArray)).data = b.data ++ (ByteArray.mk l.toArray).data from ByteArray.data_append]
  simp [h]
theorem dec_step {v : Nat} (h : ¬ v < 10) : Lib.decDigits v = Lib.decDigits (v / 10) ++ [UInt8.ofNat (48 + v % 10)] := by
  rw [Lib.decDigits]; rw [dif_neg h]
theorem dec_last {v : Nat} (h : v < 10) : Lib.decDigits v = [UInt8.ofNat (48 + v)] := by
  rw [Lib.decDigits]; rw [dif_pos h]

set_option maxRecDepth 100000 in
set_option maxHeartbeats 1000000 in
theorem digits_any (v : Nat) (w : World) (hv : v < 2 * RqF.sgn) :
    Calls Tryz.prog 12 #[.int .u64 v] w fun e w' => e = .returned (.string ⟨(Lib.decDigits v).toArray⟩) ∧ w = w' := by
  have HV := Lib.hid hv; clear hv
  have hlen : (Lib.decDigits v).length ≤ 20 := by rw [Lib.decDigits_length]; exact Lib.nDigits_le20 v HV.out
  have HL := Lib.hid hlen; clear hlen
  go_enter Tryz.func12, Tryz.ntmps12
  go_wp2
  go_loop [0, 3] (fun n s => ∃ (u : Nat) (l : List UInt8), n = .int .u64 u ∧ s = .string ⟨l.toArray⟩ ∧ Hid (u < 2 * RqF.sgn ∧ Lib.decDigits v = Lib.decDigits u ++ l)) (fun n _ => (intOf n).toNat)
  case atStart => exact ⟨v, [], rfl, rfl, HV.out, by simp⟩
  case round =>
    obtain ⟨u, l, rfl, rfl, HU⟩ := hrel
    have hl : l.length ≤ 20 := by
      have h1 := HL.out
      rw [HU.out.2, List.length_append] at h1; omega
    by_cases hlt : u < 10
    · have hd := digc_extract u hlt
      have HD := Lib.hid hd; clear hd
      go_wp2_with fail
      go_ret
      refine ⟨?_, rfl⟩
      rw [HU.out.2, dec_last hlt, ← append_list2 l _ _ HD.out]; rfl
    · have hm : u % 10 < 10 := Nat.mod_lt _ (by decide)
      obtain ⟨d, hd⟩ : ∃ d, d = u % 10 := ⟨_, rfl⟩
      have he : ((u : Int) % 10) = (d : Int) := by omega
      rw [← hd] at hm
      have HD := Lib.hid hd; clear hd
      go_wp2_with fail
      have hw : IntKind.u64.wrap ((u : Int) / 10) = ((u / 10 : Nat) : Int) := by
        have := HU.out.1
        rw [IntKind.wrap_u64]; unfold RqF.sgn at this; omega
      rw [hw]
      refine ⟨⟨u / 10, UInt8.ofNat (48 + d) :: l, rfl, ?_, ?_⟩, by simp [intOf]; omega⟩
      · rw [append_list2 l _ _ (digc_extract d hm)]; rfl
      · refine ⟨Nat.lt_of_le_of_lt (Nat.div_le_self _ _) HU.out.1, ?_⟩
        rw [HU.out.2, dec_step hlt, HD.out, List.append_assoc]; rfl

/-- What the document's whole reads off a word. -/
theorem whole_field {b : Nat} (hb : b < 2 * RqF.sgn) : bits BinOp.and IntKind.u64 ((b : Int) / 4503599627370496) 2047 = ((b % RqF.sgn / RqF.bin : Nat) : Int) := by
  have e1 : ((b : Int) / 4503599627370496) = ((b / 4503599627370496 : Nat) : Int) := by omega
  rw [e1]
  have := u64_and_nat (b / 4503599627370496) 2047 (Nat.lt_of_le_of_lt (Nat.div_le_self _ _) hb) (by decide)
  have e : (b / 4503599627370496) &&& 2047 = b / 4503599627370496 % 2048 := Nat.and_two_pow_sub_one_eq_mod _ 11
  rw [e] at this
  have e3 : b / 4503599627370496 % 2048 = b % RqF.sgn / RqF.bin := by unfold RqF.sgn RqF.bin; omega
  rw [e3] at this
  exact this
theorem whole_mant {b : Nat} (hb : b < 2 * RqF.sgn) : bits BinOp.or IntKind.u64 (bits BinOp.and IntKind.u64 (b : Int) 4503599627370495) 4503599627370496 = ((RqF.bin + b % RqF.sgn % RqF.bin : Nat) : Int) := by
  have h1 := u64_and_nat b 4503599627370495 hb (by decide)
  have e : b &&& 4503599627370495 = b % 4503599627370496 := Nat.and_two_pow_sub_one_eq_mod _ 52
  rw [e] at h1
  have e0 : ((4503599627370495 : Nat) : Int) = 4503599627370495 := rfl
  rw [← e0, h1]
  have hm : b % 4503599627370496 < 4503599627370496 := Nat.mod_lt _ (by decide)
  have h2 := u64_or_nat (b % 4503599627370496) 4503599627370496 (by omega) (by decide)
  have e1 : (b % 4503599627370496) ||| 4503599627370496 = 4503599627370496 + b % 4503599627370496 := by
    have := Nat.two_pow_add_eq_or_of_lt (i := 52) (b := b % 4503599627370496) hm 1
    rw [Nat.mul_one] at this
    rw [Nat.or_comm]
    exact this.symm
  rw [e1] at h2
  have e2 : b % 4503599627370496 = b % RqF.sgn % RqF.bin := by unfold RqF.sgn RqF.bin; omega
  rw [e2] at h2 ⊢
  exact h2
theorem and_mask (m k : Nat) (hm : m < 18446744073709551616) (hk : k ≤ 52) : bits BinOp.and IntKind.u64 (m : Int) (((2 ^ k : Nat) : Int) - 1) = ((m % 2 ^ k : Nat) : Int) := by
  have hp := Nat.two_pow_pos k
  have hp2 : 2 ^ k ≤ 2 ^ 52 := Nat.pow_le_pow_right (by decide) hk
  have e0 : (((2 ^ k : Nat) : Int) - 1) = ((2 ^ k - 1 : Nat) : Int) := by omega
  have := u64_and_nat m (2 ^ k - 1) hm (by omega)
  rw [Nat.and_two_pow_sub_one_eq_mod] at this
  rw [e0, this]

theorem mask_form {mm f : Nat} (hm : mm < 18446744073709551616) (h1 : 1023 ≤ f) (h2 : f ≤ 1075) :
    bits BinOp.and IntKind.u64 (mm : Int) (IntKind.u64.wrap (IntKind.u64.wrap (2 ^ (-((f : Int) - 1075)).toNat) - 1)) = ((mm % 2 ^ (1075 - f) : Nat) : Int) ∧ (mm : Int) / 2 ^ (-((f : Int) - 1075)).toNat = ((mm / 2 ^ (1075 - f) : Nat) : Int) := by
  have e : (-((f : Int) - 1075)).toNat = 1075 - f := by omega
  rw [e]
  have hk : 1075 - f ≤ 52 := by omega
  generalize 1075 - f = k at *
  have hp := Nat.two_pow_pos k
  have hp2 : 2 ^ k ≤ 2 ^ 52 := Nat.pow_le_pow_right (by decide) hk
  have e1 : ((2 : Int) ^ k) = ((2 ^ k : Nat) : Int) := by simp
  have e52 : (2 : Nat) ^ 52 = 4503599627370496 := rfl
  have e2 : IntKind.u64.wrap (IntKind.u64.wrap ((2 : Int) ^ k) - 1) = ((2 ^ k : Nat) : Int) - 1 := by
    rw [e1, IntKind.wrap_u64, IntKind.wrap_u64]; omega
  refine ⟨by rw [e2]; exact and_mask mm k hm hk, by rw [e1, ← Int.natCast_ediv]⟩

theorem ne_cast_false {a : Nat} (h : (((a : Nat) : Int) != 0) = false) (hn : a ≠ 0) : False := by
  have : ((a : Nat) : Int) = 0 := by simpa using h
  omega
theorem some_cast (a : Nat) : decide (((a : Nat) : Int) < 1000000000000000) = (if a < 1000000000000000 then some a else none).isSome := by
  by_cases hlt : a < 1000000000000000
  · rw [if_pos hlt, decide_eq_true (by omega)]; rfl
  · rw [if_neg hlt, decide_eq_false (by omega)]; rfl

def WholeRet (b : Nat) (e : Ending) : Prop := ∃ v : Nat, e = .returned (.tuple #[.int .u64 v, .bool (RqF.wholeF b).isSome]) ∧ ∀ t, RqF.wholeF b = some t → v = t

end Go.Proofs.YtnjmhneobgmejaaGreatDoor
