/- The walk of NumWholes. Conditions: the library's tables and its two errors are as they are laid. -/
import Derived.Test.YtbmbfjbjjnmmeaaDoorWhole
import Derived.Deep.QuietTactic
import Derived.BigQuiet
namespace Go.Proofs.YtbmbfjbjjnmmeaaDoor
open Go.RowKit

set_option maxRecDepth 100000 in
set_option maxHeartbeats 1000000 in
theorem numWholes_big (n : Int) (w : World) (ht : TabsP w) (hb0 : -9223372036854775808 ≤ n) (hb1 : n ≤ 9223372036854775807) (hbig : n ≤ -1000000000000000 ∨ 1000000000000000 ≤ n) :
    Calls Tryd.prog 12 #[.int .i64 n] w fun e w' => e = .returned (.bool true) ∧ Below w.heap.size w w' := by
  obtain ⟨r, hr1, hr2, hr3⟩ := RqF.ofInt_big (n := n) (by omega) ((Nat.log2_lt (by omega)).2 (by show n.natAbs < 18446744073709551616; omega))
  have hlt := RqF.ofInt_lt n
  have hnan : RqF.nan (RqF.ofInt n) = false := by rw [hr3]; exact RqF.nan_word _ (by omega)
  have htext : RqF.textF (RqF.ofInt n) = 48 :: 120 :: RqF.hexLow 16 (RqF.ofInt n) := by rw [hr3]; exact RqF.textF_big _ hr1 hr2
  have hparse := RqF.parseP_hex hlt hnan
  have heq : (FloatKind.f64.format.order (RqF.ofInt n) (RqF.ofInt n) == some .eq) = true := by
    have := RqF.order_eq hnan hnan
    have h2 : Ieee.double.order (RqF.ofInt n) (RqF.ofInt n) = some .eq := by rw [this, Int.compare_eq_eq.2 rfl]
    exact beq_iff_eq.2 h2
  have HT := Lib.hid ht; clear ht
  have HL := Lib.hid hlt; clear hlt
  have HX := Lib.hid htext; clear htext
  have HP := Lib.hid hparse; clear hparse hr1 hr2 hr3 hnan
  have HG := Lib.hid hbig
  go_enter Tryd.func12, Tryd.ntmps12
  go_wp2_with fail
  rw [show floatOfInt .f64 n = RqF.ofInt n from rfl]
  refine (text_any _ _ HT.out.toTabs HL.out).mono ?_
  rintro e w1 ⟨rfl, hbl⟩
  rw [HX.out]
  obtain ⟨x, hx⟩ : ∃ x, x = RqF.hexLow 16 (RqF.ofInt n) := ⟨_, rfl⟩
  rw [← hx]
  have hxl : x.length = 16 := by rw [hx, RqF.hexLow_length]
  have HXX := Lib.hid hx; clear hx
  have hex2 : (ByteArray.extract ⟨(48 :: 120 :: x).toArray⟩ 0 2).toList = [48, 120] := by rw [extract_2]; rfl
  rcases hbig with hbig | hbig
  all_goals
    go_wp2_with fail
    refine (parse_any _ _ (by simp [ByteArray.size, hxl]) (HT.out.below hbl)).mono ?_
    rintro e w2 ⟨he, hbl2⟩
    obtain rfl : e = .returned (.tuple #[.float .f64 (RqF.ofInt n), .int .i64 0]) := by
      rw [show e = _ from he]
      show Ending.returned (.tuple #[.float .f64 ((RqF.parseP (48 :: 120 :: x)).getD 0), .int .i64 (if (RqF.parseP (48 :: 120 :: x)).isSome then 0 else 3)]) = _
      rw [HXX.out, HP.out]; rfl
    clear he
    go_wp2_with fail
    refine (awake3_any _ ((HT.out.below hbl).below hbl2).toTabs).mono ?_
    rintro e w3 ⟨rfl, hbl3⟩
    go_wp2_with fail
    go_ret
    exact ⟨rfl, below_trans (below_trans hbl hbl2) hbl3⟩

theorem isDig_bounds {c : UInt8} (h : RqF.isDig c = true) : 48 ≤ c.toNat ∧ c.toNat ≤ 57 := by unfold RqF.isDig at h; simpa using h

theorem val_step {x : List UInt8} {k a n : Nat} (hlt : k < x.length) (_hd : 48 ≤ x[k].toNat) (hval : RqF.valA a (x.drop k) = n) (hn : n < 1000000000000000) :
    10 * a + (x[k].toNat - 48) < 1000000000000000 ∧ Hid (RqF.valA (10 * a + (x[k].toNat - 48)) (x.drop (k + 1)) = n) := by
  have hdrop : x.drop k = x[k] :: x.drop (k + 1) := List.drop_eq_getElem_cons hlt
  rw [hdrop] at hval
  have hval3 : RqF.valA (10 * a + (x[k].toNat - 48)) (x.drop (k + 1)) = n := hval
  have hle := RqF.valA_le (x.drop (k + 1)) (10 * a + (x[k].toNat - 48))
  rw [hval3] at hle
  exact ⟨by omega, hval3⟩
theorem dec_ne (n : Nat) : Lib.decDigits n ≠ [] := by
  intro h
  have h1 := Lib.decDigits_length n
  rw [h] at h1
  unfold Lib.nDigits at h1
  split at h1 <;> simp at h1

set_option maxRecDepth 100000 in
set_option maxHeartbeats 1000000 in
theorem numWholes_pos (n : Nat) (m : Int) (hm : m = n) (w : World) (ht : TabsP w) (hn : n < 1000000000000000) :
    Calls Tryd.prog 12 #[.int .i64 m] w fun e w' => e = .returned (.bool true) ∧ Below w.heap.size w w' := by
  have htext : RqF.textF (RqF.ofInt m) = Lib.decDigits n := by rw [hm, RqF.textF_ofInt (by omega), if_neg (by omega)]; rfl
  have hdv := RqF.dec_val n
  have hds := dec_short hn
  have HL := Lib.hid (RqF.ofInt_lt m)
  have HT := Lib.hid ht; clear ht
  have HX := Lib.hid htext; clear htext
  have hm1 : -1000000000000000 < m := by omega
  have hm2 : m < 1000000000000000 := by omega
  have HM := Lib.hid hm; have HN := Lib.hid hn; clear hm hn
  obtain ⟨x, hx⟩ : ∃ x, x = Lib.decDigits n := ⟨_, rfl⟩
  rw [← hx] at hdv hds HX
  have HXE := Lib.hid hx
  have HD := Lib.hid hdv; clear hdv hx
  go_enter Tryd.func12, Tryd.ntmps12
  go_wp2_with fail
  rw [show floatOfInt .f64 m = RqF.ofInt m from rfl]
  refine (text_any _ _ HT.out.toTabs HL.out).mono ?_
  rintro e w1 ⟨rfl, hbl⟩
  rw [HX.out]
  have hx0 : 0 < x.length := by
    cases hxn : x with
    | nil => exact absurd (by rw [← HXE.out]; exact hxn) (dec_ne n)
    | cons c r => simp
  have h45 : ((((ByteArray.mk x.toArray)[0]'hx0).toNat : Int) == 45) = false := by
    have := isDig_bounds (HD.out.2 _ (List.getElem_mem hx0))
    show ((x[0].toNat : Int) == 45) = false
    simp; omega
  go_wp2_with fail
  go_quiet (fail)
  go_wp2_with fail
  clear h45
  go_loop [5, 7] (fun vm vi => ∃ (k a : Nat), vi = .int .i64 k ∧ vm = .int .i64 a ∧ k ≤ x.length ∧ Hid (RqF.valA a (x.drop k) = n)) (fun _ vi => x.length - (intOf vi).toNat)
  case atStart => exact ⟨0, 0, rfl, rfl, by omega, HD.out.1⟩
  case round =>
    obtain ⟨k, a, rfl, rfl, hk, hval⟩ := hrel
    by_cases hlt : k < x.length
    · have hdig := isDig_bounds (HD.out.2 _ (List.getElem_mem hlt))
      obtain ⟨hb, HV⟩ := val_step hlt hdig.1 hval.out HN.out
      have hd1 : 48 ≤ ((ByteArray.mk x.toArray)[k]'hlt).toNat := hdig.1
      have hd2 : ((ByteArray.mk x.toArray)[k]'hlt).toNat ≤ 57 := hdig.2
      have hb2 : 10 * a + (((ByteArray.mk x.toArray)[k]'hlt).toNat - 48) < 1000000000000000 := hb
      have h45 : ((((ByteArray.mk x.toArray)[k]'hlt).toNat : Int) == 45) = false := by simp; omega
      clear hval hdig hb
      go_wp2_with fail
      refine ⟨⟨k + 1, 10 * a + (x[k].toNat - 48), by go_num, ?_, by omega, HV⟩, by simp [intOf]; omega⟩
      congr 1
      show 10 * (a : Int) + (((((ByteArray.mk x.toArray)[k]'hlt).toNat : Int)) - 48) = ((10 * a + (((ByteArray.mk x.toArray)[k]'hlt).toNat - 48) : Nat) : Int)
      omega
    · obtain rfl : k = x.length := by omega
      have ha : a = n := by have := hval.out; rw [List.drop_length] at this; exact this
      have he : ((a : Int) == m) = true := by rw [ha, HM.out]; simp
      clear hval ha
      go_wp2_with fail
      have HW : Hid (Below w.heap.size w (w1.drewN nq)) := below_drewN hbl nq
      refine (awake3_any _ (HT.out.below HW.out).toTabs).mono ?_
      rintro e w3 ⟨rfl, hbl3⟩
      go_wp2_with fail
      go_ret
      exact ⟨rfl, below_trans HW.out hbl3⟩

set_option maxRecDepth 100000 in
set_option maxHeartbeats 1000000 in
theorem numWholes_neg (n : Nat) (m : Int) (hm : m = -(n : Int)) (hn1 : 1 ≤ n) (w : World) (ht : TabsP w) (hn : n < 1000000000000000) :
    Calls Tryd.prog 12 #[.int .i64 m] w fun e w' => e = .returned (.bool true) ∧ Below w.heap.size w w' := by
  have htext : RqF.textF (RqF.ofInt m) = 45 :: Lib.decDigits n := by
    have e : m.natAbs = n := by omega
    rw [RqF.textF_ofInt (by omega), if_pos (by omega), e]
  have hdv := RqF.dec_val n
  have hds := dec_short hn
  have HL := Lib.hid (RqF.ofInt_lt m)
  have HT := Lib.hid ht; clear ht
  have HX := Lib.hid htext; clear htext
  have hm1 : -1000000000000000 < m := by omega
  have hm2 : m < 1000000000000000 := by omega
  have HM := Lib.hid hm; have HN := Lib.hid hn; clear hm hn hn1
  obtain ⟨x, hx⟩ : ∃ x, x = 45 :: Lib.decDigits n := ⟨_, rfl⟩
  rw [← hx] at HX
  have hxl : x.length ≤ 21 := by rw [hx, List.length_cons]; omega
  have hx0 : 0 < x.length := by rw [hx]; simp
  have HXE := Lib.hid hx
  have HD := Lib.hid hdv; clear hdv hds hx
  go_enter Tryd.func12, Tryd.ntmps12
  go_wp2_with fail
  rw [show floatOfInt .f64 m = RqF.ofInt m from rfl]
  refine (text_any _ _ HT.out.toTabs HL.out).mono ?_
  rintro e w1 ⟨rfl, hbl⟩
  rw [HX.out]
  have h45 : ((((ByteArray.mk x.toArray)[0]'hx0).toNat : Int) == 45) = true := by
    show ((x[0].toNat : Int) == 45) = true
    have e : x[0] = 45 := by simp only [HXE.out]; rfl
    rw [e]; rfl
  go_wp2_with fail
  go_quiet (fail)
  go_wp2_with fail
  have H45 := Lib.hid h45; clear h45
  go_loop [5, 7] (fun vm vi => ∃ (k a : Nat), vi = .int .i64 k ∧ vm = .int .i64 a ∧ k ≤ x.length ∧ Hid (k = 0 ∧ a = 0 ∨ 1 ≤ k ∧ RqF.valA a (x.drop k) = n)) (fun _ vi => x.length - (intOf vi).toNat)
  case atStart => exact ⟨0, 0, rfl, rfl, by omega, Or.inl ⟨rfl, rfl⟩⟩
  case round =>
    obtain ⟨k, a, rfl, rfl, hk, hval⟩ := hrel
    by_cases hlt : k < x.length
    · by_cases hk0 : k = 0
      · subst hk0
        have ha : a = 0 := by rcases hval.out with h | h <;> omega
        have HA := Lib.hid ha; clear ha
        have h45 := H45.out
        clear hval
        go_wp2_with fail
        refine ⟨⟨1, a, by go_num, rfl, by omega, Or.inr ⟨by omega, ?_⟩⟩, by simp [intOf]; omega⟩
        rw [HA.out, HXE.out]; exact HD.out.1
      · have hv : RqF.valA a (x.drop k) = n := by rcases hval.out with h | h; omega; exact h.2
        have hdig : 48 ≤ x[k].toNat ∧ x[k].toNat ≤ 57 := by
          refine isDig_bounds (HD.out.2 _ ?_)
          obtain ⟨j, rfl⟩ : ∃ j, k = j + 1 := ⟨k - 1, by omega⟩
          have e : x[j + 1] = (Lib.decDigits n)[j]'(by have := hlt; rw [HXE.out, List.length_cons] at this; omega) := by simp only [HXE.out, List.getElem_cons_succ]
          rw [e]; exact List.getElem_mem _
        obtain ⟨hb, HV⟩ := val_step hlt hdig.1 hv HN.out
        have hd1 : 48 ≤ ((ByteArray.mk x.toArray)[k]'hlt).toNat := hdig.1
        have hd2 : ((ByteArray.mk x.toArray)[k]'hlt).toNat ≤ 57 := hdig.2
        have hb2 : 10 * a + (((ByteArray.mk x.toArray)[k]'hlt).toNat - 48) < 1000000000000000 := hb
        have h45 : ((((ByteArray.mk x.toArray)[k]'hlt).toNat : Int) == 45) = false := by simp; omega
        clear hval hdig hb hv
        go_wp2_with fail
        refine ⟨⟨k + 1, 10 * a + (x[k].toNat - 48), by go_num, ?_, by omega, Or.inr ⟨by omega, HV.out⟩⟩, by simp [intOf]; omega⟩
        congr 1
        show 10 * (a : Int) + (((((ByteArray.mk x.toArray)[k]'hlt).toNat : Int)) - 48) = ((10 * a + (((ByteArray.mk x.toArray)[k]'hlt).toNat - 48) : Nat) : Int)
        omega
    · obtain rfl : k = x.length := by omega
      have ha : a = n := by rcases hval.out with h | h; omega; have := h.2; rw [List.drop_length] at this; exact this
      have he : (-(a : Int) == m) = true := by rw [ha, HM.out]; simp
      have hab : (a : Int) < 1000000000000000 := by have := HN.out; omega
      clear hval ha
      go_wp2_with fail
      have HW : Hid (Below w.heap.size w (w1.drewN nq)) := below_drewN hbl nq
      refine (awake3_any _ (HT.out.below HW.out).toTabs).mono ?_
      rintro e w3 ⟨rfl, hbl3⟩
      go_wp2_with fail
      go_ret
      exact ⟨rfl, below_trans HW.out hbl3⟩

theorem numWholes_walk (n : Int) (w : World) (ht : TabsP w) (h0 : -9223372036854775808 ≤ n) (h1 : n ≤ 9223372036854775807) :
    Calls Tryd.prog 12 #[.int .i64 n] w fun e w' => e = .returned (.bool true) ∧ Below w.heap.size w w' := by
  by_cases hb : n ≤ -1000000000000000 ∨ 1000000000000000 ≤ n
  · exact numWholes_big n w ht h0 h1 hb
  · by_cases hs : 0 ≤ n
    · exact numWholes_pos n.toNat n (by omega) w ht (by omega)
    · exact numWholes_neg n.natAbs n (by omega) (by omega) w ht (by omega)
end Go.Proofs.YtbmbfjbjjnmmeaaDoor
