/- num.bits: the number of a text of the digits of its bits. No condition. -/
import Derived.Test.YtnjmhneobgmejaaGreatDoorUnhex
import Derived.Test.YtnjmhneobgmejaaGreatDoorNumT
import Derived.Test.YtnjmhneobgmejaaGreatDoorShelfC
namespace RqF
theorem dropWhile_nil {α : Type} (p : α → Bool) (l : List α) : l.dropWhile p = [] ↔ ∀ x ∈ l, p x = true := by
  induction l with
  | nil => simp
  | cons a l ih => simp only [List.dropWhile_cons]; split <;> simp_all
def hexset : List UInt8 := [48, 49, 50, 51, 52, 53, 54, 55, 56, 57, 97, 98, 99, 100, 101, 102]
/-- What a text of a word's digits tells. -/
def bitsP (l : List UInt8) : Option Nat :=
  if l.length = 18 ∧ l.take 2 = [48, 120] ∧ (l.drop 2).all isHex = true ∧ nan (unhex (l.drop 2)) = false then some (unhex (l.drop 2)) else none

theorem hexset_isHex (c : UInt8) : hexset.contains c = isHex c := by
  have key : ∀ n : Fin 256, hexset.contains (UInt8.ofNat n.val) = isHex (UInt8.ofNat n.val) := by decide +kernel
  have := key ⟨c.toNat, c.toNat_lt⟩
  simpa using this

/-- Trimmed of digits a text is empty just if it is digits alone. -/
theorem trim_hex (l : List UInt8) : Go.Lib.trimS l hexset = [] ↔ l.all isHex = true := by
  unfold Go.Lib.trimS Go.Lib.trimLeftS Go.Lib.trimRightS
  have hf : (fun x => hexset.contains x) = isHex := funext hexset_isHex
  rw [hf, List.all_eq_true]
  constructor
  · intro h
    have h1 := (dropWhile_nil _ _).1 h
    by_cases he : (l.reverse.dropWhile isHex) = []
    · have := (dropWhile_nil _ _).1 he
      intro x hx; exact this x (by simpa using hx)
    · exfalso
      have hh : isHex ((l.reverse.dropWhile isHex).head he) = false := by
        have := List.head_dropWhile_not isHex he
        simpa using this
      have hm : (l.reverse.dropWhile isHex).head he ∈ (l.reverse.dropWhile isHex).reverse := by simp
      rw [h1 _ hm] at hh; cases hh
  · intro h
    have : l.reverse.dropWhile isHex = [] := (dropWhile_nil _ _).2 (fun x hx => h x (by simpa using hx))
    rw [this]; rfl
end RqF
namespace Go.Proofs.YtnjmhneobgmejaaGreatDoor
open Go.RowKit
theorem trim_any (s : ByteArray) (w : World) (hs : s.size ≤ 9223372036854775807) :
    Calls Tryz.prog 96 #[.string s, .string ⟨#[48, 49, 50, 51, 52, 53, 54, 55, 56, 57, 97, 98, 99, 100, 101, 102]⟩] w fun e w' => e = .returned (.string ⟨(Lib.trimS s.data.toList RqF.hexset).toArray⟩) ∧ Below w.heap.size w w' :=
  Any.strings_Trim_laid Tryz.lays160 (by kernel_rfl) s ⟨#[48, 49, 50, 51, 52, 53, 54, 55, 56, 57, 97, 98, 99, 100, 101, 102]⟩ w hs (by decide) (ascii_of_all (by decide))

/-- What num.bits hands back: the number, and whether there is one. -/
def BitsRet (l : List UInt8) (e : Ending) : Prop := ∃ v, e = .returned (.tuple #[.float .f64 v, .bool (RqF.bitsP l).isSome]) ∧ ∀ b, RqF.bitsP l = some b → v = b
theorem bitsRet_none {l : List UInt8} (h : RqF.bitsP l = none) {v : Nat} : BitsRet l (.returned (.tuple #[.float .f64 v, .bool false])) :=
  ⟨v, by rw [h]; rfl, fun b hb => by rw [h] at hb; cases hb⟩
theorem extract_2 (s : ByteArray) : (s.extract 0 2).toList = s.data.toList.take 2 := by rw [Lib.extract_toList]; simp
theorem extract_18 (s : ByteArray) (h : s.size = 18) : (s.extract 2 18).data.toList = s.data.toList.drop 2 := by
  rw [Lib.extract_data, List.take_of_length_le]
  have := Lib.size_eq s
  simp; omega

set_option maxRecDepth 100000 in
set_option maxHeartbeats 400000 in
theorem bits_any (s : ByteArray) (w : World) :
    Calls Tryz.prog 78 #[.string s] w fun e w' => BitsRet s.data.toList e ∧ Below w.heap.size w w' := by
  have hsz := Lib.size_eq s
  have HSZ := Lib.hid hsz
  by_cases h18 : s.size = 18
  · have HS := Lib.hid h18
    by_cases h2 : (s.extract 0 2).toList = [48, 120]
    · have H2 := Lib.hid h2
      clear hsz
      go_enter Tryz.func78, Tryz.ntmps78
      go_wp2_with fail
      have hs2 : (s.extract 2 18).size = 16 := by rw [ByteArray.size_extract]; omega
      refine (trim_any _ _ (by omega)).mono ?_
      rintro e w1 ⟨rfl, hb1⟩
      obtain ⟨tr, htr⟩ : ∃ tr, tr = Lib.trimS (s.extract 2 18).data.toList RqF.hexset := ⟨_, rfl⟩
      rw [← htr]
      have HTR := Lib.hid htr; clear htr
      by_cases he : tr = []
      · have hall : (s.data.toList.drop 2).all RqF.isHex = true := by
          rw [← extract_18 s HS.out, ← RqF.trim_hex, ← HTR.out]; exact he
        have HA := Lib.hid hall; clear hall
        subst he
        have HS2 := Lib.hid hs2; clear hs2
        go_wp2_with fail
        refine (parseUint_16 _ (by rw [HS2.out]; decide) (by rw [HS2.out]; decide) (by rw [extract_18 s HS.out]; exact List.all_eq_true.1 HA.out) _).mono ?_
        rintro e w2 ⟨rfl, hb2⟩
        obtain ⟨b, hb⟩ : ∃ b, b = RqF.unhex (s.extract 2 18).data.toList := ⟨_, rfl⟩
        rw [← hb]
        have HBB := Lib.hid hb; clear hb
        go_wp2_with fail
        refine (isNaN_any _ _).mono ?_
        rintro e w' ⟨rfl, rfl⟩
        have hbits : RqF.bitsP s.data.toList = if RqF.nan b = false then some b else none := by
          unfold RqF.bitsP
          have hb3 : b = RqF.unhex (s.data.toList.drop 2) := by rw [HBB.out, extract_18 s HS.out]
          rw [← hb3]
          by_cases hn : RqF.nan b = false
          · rw [if_pos ⟨by rw [← HSZ.out]; exact HS.out, by rw [← extract_2]; exact H2.out, HA.out, hn⟩, if_pos hn]
          · rw [if_neg (fun h => hn h.2.2.2), if_neg hn]
        have HBI := Lib.hid hbits; clear hbits
        go_wp2_with fail
        go_ret2
        refine ⟨⟨b, ?_, ?_⟩, below_trans hb1 hb2⟩
        · rw [HBI.out]; cases hn : RqF.nan b <;> rfl
        · intro c hc; rw [HBI.out] at hc; split at hc <;> simp at hc; exact hc
      · have HE := Lib.hid he
        have hem : tr.isEmpty = false := by cases tr with | nil => exact absurd rfl he | cons => rfl
        clear he
        go_wp2_with fail
        go_ret2
        refine ⟨bitsRet_none ?_, hb1⟩
        unfold RqF.bitsP
        rw [if_neg]
        rintro ⟨_, _, h3, _⟩
        apply HE.out
        rw [HTR.out, extract_18 s HS.out, RqF.trim_hex]
        exact h3
    · have H2 := Lib.hid h2
      clear hsz
      go_enter Tryz.func78, Tryz.ntmps78
      go_wp2_with fail
      go_ret2
      refine ⟨bitsRet_none ?_, Below.refl _ _⟩
      unfold RqF.bitsP
      rw [if_neg]
      rintro ⟨_, h3, _⟩
      exact H2.out (by rw [extract_2]; exact h3)
  · have HS := Lib.hid h18
    have hz : ((s.size : Int) != 18) = true := by simp; omega
    clear hsz h18
    go_enter Tryz.func78, Tryz.ntmps78
    go_wp2_with fail
    go_ret2
    refine ⟨bitsRet_none ?_, Below.refl _ _⟩
    unfold RqF.bitsP
    rw [if_neg]
    rintro ⟨h3, _⟩
    exact HS.out (by rw [HSZ.out]; exact h3)
end Go.Proofs.YtnjmhneobgmejaaGreatDoor
