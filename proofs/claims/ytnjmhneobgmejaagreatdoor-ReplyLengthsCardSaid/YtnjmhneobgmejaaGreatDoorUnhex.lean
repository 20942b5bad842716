/- strconv.ParseUint at base 16 and 64 bits, at up to sixteen small digits: what they tell, and no error. Condition: the bytes are such digits. -/
import Derived.Test.YtnjmhneobgmejaaGreatDoorTabs
import Derived.Lib.ConvBytes
import Derived.Lib.AtoiErrMem
import Derived.Lib.Walk
import Derived.Laws.Strings3
import Derived.Laws.Closers25
import Derived.Laws.Closers25b
import Derived.BigCall
import Derived.BigGuard
namespace RqF
/-- A small digit of a word's bits, and what it counts. -/
def isHex (c : UInt8) : Bool := decide (48 ≤ c.toNat ∧ c.toNat ≤ 57 ∨ 97 ≤ c.toNat ∧ c.toNat ≤ 102)
def hexv (c : UInt8) : Nat := if c.toNat < 58 then c.toNat - 48 else c.toNat - 87
/-- What digits tell, behind what those ahead told. -/
def unhexA : Nat → List UInt8 → Nat
  | a, [] => a
  | a, c :: r => unhexA (a * 16 + hexv c) r
def unhex (l : List UInt8) : Nat := unhexA 0 l
theorem hexv_lt {c : UInt8} (h : isHex c = true) : hexv c < 16 := by
  unfold isHex at h; unfold hexv; simp only [decide_eq_true_eq] at h; split <;> omega
end RqF
namespace Go.Proofs.YtnjmhneobgmejaaGreatDoor
open Go.RowKit

theorem lower_any (c : Int) (w : World) : Calls Tryz.prog 130 #[.int .u8 c] w fun e w' => e = .returned (.int .u8 (bits BinOp.or IntKind.u8 c 32)) ∧ w = w' := by
  go_enter Tryz.func130, Tryz.ntmps130
  go_wp2
  go_ret
  exact ⟨rfl, rfl⟩

theorem or_32 (c : Nat) (h : 97 ≤ c ∧ c ≤ 102) : bits BinOp.or IntKind.u8 (c : Int) 32 = (c : Int) := by
  have : c = 97 ∨ c = 98 ∨ c = 99 ∨ c = 100 ∨ c = 101 ∨ c = 102 := by omega
  rcases this with h | h | h | h | h | h <;> subst h <;> decide

set_option maxHeartbeats 4000000 in
set_option maxRecDepth 100000 in
theorem iParseUint_16 (t : ByteArray) (hne : t.size ≠ 0) (hmax : t.size ≤ 16) (hh : ∀ c ∈ t.data.toList, RqF.isHex c = true) (w : World) :
    Calls Tryz.prog 121 #[.string t, .int .i64 16, .int .i64 64] w fun e w' => e = .returned (.tuple #[.int .u64 (RqF.unhex t.data.toList), .nilIface]) ∧ Lib.bytesWorld w 5 t = w' := by
  have hemp : t.toList.isEmpty = false := by
    rw [← decide_eq_emptyBytes]
    exact decide_eq_false (fun h => hne (by rw [h]; rfl))
  have hcv := Lib.run_convert_string_bytes (P := Tryz.prog) w 9 44 5 t (u := .string) Tryz.underlying9 Tryz.underlying44 Tryz.underlying5
  have hB : ∀ j, j < t.size → (Lib.bytesWorld w 5 t).cell? ⟨w.heap.size, j, none⟩ = some (.int .u8 (t.data.toList.getD j 0).toNat) := fun j hj => Lib.bytesWorld_cell w 5 t j hj
  obtain ⟨W1, hW1⟩ : ∃ W1, W1 = Lib.bytesWorld w 5 t := ⟨_, rfl⟩
  rw [← hW1] at hcv hB ⊢
  clear hW1
  obtain ⟨bs, hL⟩ : ∃ bs, bs = t.data.toList := ⟨_, rfl⟩
  have hLn : bs.length = t.size := by rw [hL, Lib.size_eq]
  rw [← hL] at hB hh ⊢
  clear hL
  have HH := Lib.hid hh; clear hh
  have hmv : IntKind.u64.wrap (IntKind.u64.wrap 18446744073709551616 - 1) = 18446744073709551615 := by
    rw [IntKind.wrap_u64, IntKind.wrap_u64]
    decide
  go_enter Tryz.func121, Tryz.ntmps121
  go_wp2
  go_loop [12, 13, 101] (fun vu vn vi => ∃ (k acc : Nat) (a : Int), vu = .bool false ∧ vn = .int .u64 a ∧ vi = .int .i64 k ∧ k ≤ t.size ∧ Hid (a = (acc : Int) ∧ acc < 16 ^ k ∧ RqF.unhexA 0 bs = RqF.unhexA acc (bs.drop k)))
    (fun _ _ vi => t.size - (intOf vi).toNat)
  case atStart => exact ⟨0, 0, 0, rfl, rfl, rfl, by omega, rfl, by decide, rfl⟩
  case round =>
    obtain ⟨k, acc, a, rfl, rfl, rfl, hk, hh⟩ := hrel
    obtain ⟨ha, hacc, hdec⟩ := hh.out
    clear hh
    by_cases hkn : k < t.size
    · have hc := hB k hkn
      have hpow : 16 ^ k ≤ 16 ^ 15 := Nat.pow_le_pow_right (by decide) (by omega)
      have hpow2 : (16 : Nat) ^ 15 = 1152921504606846976 := by decide
      have a0 : 0 ≤ a := by omega
      have a1 : a < 1152921504606846976 := by omega
      have hmem : RqF.isHex (bs[k]'(by omega)) = true := HH.out _ (List.getElem_mem _)
      have hdrop : bs.drop k = bs[k]'(by omega) :: bs.drop (k + 1) := List.drop_eq_getElem_cons (by omega)
      have hget : bs.getD k 0 = bs[k]'(by omega) := by simp [List.getD, List.getElem?_eq_getElem (show k < bs.length by omega)]
      rw [hdrop] at hdec
      rw [hget] at hc
      generalize bs[k]'(by omega) = c at hc hdec hmem
      have hc256 : c.toNat < 256 := c.toNat_lt
      have hv := RqF.hexv_lt hmem
      have HN : Hid (a * 16 + (RqF.hexv c : Int) = ((acc * 16 + RqF.hexv c : Nat) : Int) ∧ acc * 16 + RqF.hexv c < 16 ^ (k + 1) ∧ RqF.unhexA 0 bs = RqF.unhexA (acc * 16 + RqF.hexv c) (bs.drop (k + 1))) :=
        ⟨by omega, by rw [Nat.pow_succ]; omega, hdec⟩
      clear hB hdrop hget hpow hpow2 hdec hacc ha hv
      by_cases hdig : c.toNat ≤ 57
      · have hx : 48 ≤ c.toNat := by unfold RqF.isHex at hmem; simp only [decide_eq_true_eq] at hmem; omega
        have he : RqF.hexv c = c.toNat - 48 := by unfold RqF.hexv; rw [if_pos (by omega)]
        rw [he] at HN
        clear he hmem
        go_wp2
        exact ⟨⟨k + 1, acc * 16 + (c.toNat - 48), a * 16 + ((c.toNat : Int) - 48), rfl, (by first | rfl | (congr 1; omega)), (by first | rfl | (congr 1; omega)), by omega, by have := HN.out; rw [show ((c.toNat - 48 : Nat) : Int) = (c.toNat : Int) - 48 from by omega] at this; exact this⟩, by simp [intOf]; omega⟩
      · have hx : 97 ≤ c.toNat ∧ c.toNat ≤ 102 := by unfold RqF.isHex at hmem; simp only [decide_eq_true_eq] at hmem; omega
        have he : RqF.hexv c = c.toNat - 87 := by unfold RqF.hexv; rw [if_neg (by omega)]
        have hor := or_32 c.toNat hx
        obtain ⟨hx1, hx2⟩ := hx
        rw [he] at HN
        clear he hmem
        go_wp2_with (go_at_call 130; refine (lower_any _ _).mono ?_; rintro e w' ⟨rfl, rfl⟩)
        exact ⟨⟨k + 1, acc * 16 + (c.toNat - 87), a * 16 + ((c.toNat : Int) - 97 + 10), rfl, (by first | rfl | (congr 1; omega)), (by first | rfl | (congr 1; omega)), by omega, by have := HN.out; rw [show ((c.toNat - 87 : Nat) : Int) = (c.toNat : Int) - 97 + 10 from by omega] at this; exact this⟩, by simp [intOf]; omega⟩
    · have hkk : k = t.size := by omega
      subst hkk
      have hF : RqF.unhexA acc (bs.drop t.size) = acc := by rw [List.drop_eq_nil_of_le (by omega)]; rfl
      rw [hF] at hdec
      have HD := Lib.hid hdec
      subst ha
      clear hacc hF hdec hB
      go_wp2
      go_ret2
      exact ⟨by rw [show RqF.unhex bs = acc from HD.out]; rfl, rfl⟩

theorem below_bytes (w : World) (t : ByteArray) : Below w.heap.size w (Lib.bytesWorld w 5 t) := Lib.bytesWorld_below w 5 t

theorem parseUint_16 (t : ByteArray) (hne : t.size ≠ 0) (hmax : t.size ≤ 16) (hh : ∀ c ∈ t.data.toList, RqF.isHex c = true) (w : World) :
    Calls Tryz.prog 97 #[.string t, .int .i64 16, .int .i64 64] w fun e w' => e = .returned (.tuple #[.int .u64 (RqF.unhex t.data.toList), .nilIface]) ∧ Below w.heap.size w w' := by
  have HH := Lib.hid hh; clear hh
  have HE := Lib.hid hne; clear hne
  go_enter Tryz.func97, Tryz.ntmps97
  go_wp2_with fail
  refine (iParseUint_16 t HE.out hmax HH.out _).mono ?_
  rintro e w' ⟨rfl, hw⟩
  have HB : Hid (Below w.heap.size w w') := by rw [← hw]; exact below_bytes w t
  clear hw
  go_wp2_with fail
  go_ret2
  exact ⟨rfl, HB.out⟩
end Go.Proofs.YtnjmhneobgmejaaGreatDoor
