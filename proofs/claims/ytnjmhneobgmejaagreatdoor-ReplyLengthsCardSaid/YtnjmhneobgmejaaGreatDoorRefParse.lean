/- The document's Parse: what it reads of any text. No condition but the text's size. -/
import Derived.Test.YtnjmhneobgmejaaGreatDoorRefRead
namespace Go.Proofs.YtnjmhneobgmejaaGreatDoor
open Go.RowKit

def RefRet (l : List UInt8) (e : Ending) : Prop := e = .returned (.tuple #[.float .f64 ((RqF.refP l).getD 0), .bool (RqF.refP l).isSome])

theorem or_nought (r : Nat) (h : r < 18446744073709551616) : bits BinOp.or IntKind.u64 0 (r : Int) = (r : Int) := by
  have := u64_or_nat 0 r (by decide) h
  rw [Nat.zero_or] at this
  exact this
theorem or_top (r : Nat) (h : r < RqF.sgn) : bits BinOp.or IntKind.u64 9223372036854775808 (r : Int) = ((RqF.sgn + r : Nat) : Int) := by
  have h2 : r < 9223372036854775808 := h
  have := u64_or_nat 9223372036854775808 r (by decide) (by omega)
  have e1 : 9223372036854775808 ||| r = 9223372036854775808 + r := by
    have h3 := Nat.two_pow_add_eq_or_of_lt (i := 63) (b := r) h2 1
    rw [Nat.mul_one] at h3
    exact h3.symm
  rw [e1] at this
  exact this
theorem extract_rest (s : ByteArray) (k : Nat) : (s.extract k s.size).data.toList = s.data.toList.drop k := by
  rw [Lib.extract_data, List.take_of_length_le]
  have := Lib.size_eq s
  simp only [List.length_drop]; omega
theorem size_rest (s : ByteArray) (k : Nat) : (s.extract k s.size).size = s.size - k := by rw [ByteArray.size_extract]; omega

set_option maxRecDepth 100000 in
theorem refparse_nan (s : ByteArray) (w : World) (h1 : (s.toList == [110, 97, 110]) = true) : Calls Tryz.prog 13 #[.string s] w fun e w' => RefRet s.data.toList e ∧ w = w' := by
  have HF : Hid (RqF.refP s.data.toList = some 9221120237041090561) := by
    have e : s.data.toList = [110, 97, 110] := by rw [← ByteArray.toList_eq]; simpa using h1
    rw [e]; rfl
  go_enter Tryz.func13, Tryz.ntmps13
  go_wp2_with fail
  refine (nanF_any _).mono ?_
  rintro e w' ⟨rfl, rfl⟩
  go_wp2_with fail
  go_ret2
  refine ⟨?_, rfl⟩
  unfold RefRet; rw [HF.out]; rfl

set_option maxRecDepth 100000 in
set_option maxHeartbeats 1000000 in
theorem refparse_hex (s : ByteArray) (w : World) (hs : s.size ≤ 9223372036854775807) (h1 : (s.toList == [110, 97, 110]) = false) (h2 : 2 < s.size) (h3 : ((s.extract 0 2).toList == [48, 120]) = true) : Calls Tryz.prog 13 #[.string s] w fun e w' => RefRet s.data.toList e ∧ w = w' := by
  have hsz := Lib.size_eq s
  obtain ⟨r, hr⟩ : ∃ r, r = s.data.toList.drop 2 := ⟨_, rfl⟩
  have HF : Hid (RqF.refP s.data.toList = if r.length = 16 ∧ r.all RqF.isHex = true ∧ RqF.nan (RqF.unhex r) = false then some (RqF.unhex r) else none) := by
    show RqF.refP s.data.toList = _
    unfold RqF.refP
    rw [if_neg, if_pos, hr]
    · exact ⟨by omega, by rw [← extract_2]; simpa using h3⟩
    · intro e; rw [ByteArray.toList_eq, e] at h1; exact absurd h1 (by decide)
  rw [← extract_rest] at hr
  have HR := Lib.hid hr; clear hr
  have HZ := Lib.hid (size_rest s 2)
  clear hsz
  go_enter Tryz.func13, Tryz.ntmps13
  go_wp2_with fail
  refine (r3unhex_any _ _ (by rw [HZ.out]; omega)).mono ?_
  rintro e w' ⟨hv, rfl⟩
  rw [← HR.out] at hv
  obtain ⟨v, rfl, hv⟩ := hv
  by_cases hh : r.length = 16 ∧ r.all RqF.isHex = true
  · have hvv := hv hh.1 hh.2
    have HB : Hid (v < 2 * RqF.sgn) := by
      show v < 2 * RqF.sgn
      have := unhexA_lt r hh.2 0
      rw [hh.1] at this
      have e : (16 : Nat) ^ 16 = 2 * RqF.sgn := by decide
      rw [hvv]; unfold RqF.unhex; omega
    have HH := Lib.hid hh
    have HV := Lib.hid hvv
    rw [decide_eq_true hh]
    clear hv hvv hh
    go_wp2_with fail
    refine (r3nan_any _ _ HB.out).mono ?_
    rintro e w' ⟨rfl, rfl⟩
    go_wp2_with fail
    all_goals go_ret2
    · refine ⟨?_, rfl⟩
      have hn : RqF.nan v = true := by assumption
      unfold RefRet; rw [HF.out, if_neg (by rw [← HV.out, hn]; simp)]; rfl
    · refine ⟨?_, rfl⟩
      have hn : RqF.nan v = false := by assumption
      unfold RefRet; rw [HF.out, if_pos ⟨HH.out.1, HH.out.2, by rw [← HV.out]; exact hn⟩, HV.out]; rfl
  · have HH := Lib.hid hh
    rw [decide_eq_false hh]
    clear hv hh
    go_wp2_with fail
    go_ret2
    refine ⟨?_, rfl⟩
    unfold RefRet; rw [HF.out, if_neg (fun h => HH.out ⟨h.1, h.2.1⟩)]; rfl

/-- Neither of the first two kinds. -/
theorem ref_rest {s : ByteArray} (h1 : (s.toList == [110, 97, 110]) = false) (h2 : ¬ 2 < s.size ∨ ((s.extract 0 2).toList == [48, 120]) = false) : RqF.refP s.data.toList = if s.data.toList.head? = some 45 then RqF.refRest true s.data.toList.tail else RqF.refRest false s.data.toList := by
  have hsz := Lib.size_eq s
  unfold RqF.refP
  rw [if_neg, if_neg]
  · rintro ⟨a, b⟩
    rcases h2 with h2 | h2
    · omega
    · rw [extract_2, b] at h2; exact absurd h2 (by decide)
  · intro e; rw [ByteArray.toList_eq, e] at h1; exact absurd h1 (by decide)
theorem refRest_inf {neg : Bool} {l : List UInt8} (h : (l == [105, 110, 102]) = true) : RqF.refRest neg l = some (Ieee.double.word neg RqF.infW) := by
  have : l = [105, 110, 102] := by simpa using h
  rw [this]; exact RqF.rest_inf neg
theorem refRest_no {neg : Bool} {l : List UInt8} (h : (l == [105, 110, 102]) = false) : RqF.refRest neg l = match RqF.digP l with
  | some v => some (Ieee.double.word neg (RqF.rungOf v))
  | none => none := by
  unfold RqF.refRest
  rw [if_neg (by simpa using h)]
  cases RqF.digP l <;> rfl

theorem inf_pos_bits : (bits BinOp.or IntKind.u64 0 9218868437227405312).toNat = Ieee.double.word false RqF.infW := by decide
theorem inf_neg_bits : (bits BinOp.or IntKind.u64 9223372036854775808 9218868437227405312).toNat = Ieee.double.word true RqF.infW := by decide
theorem word_false (r : Nat) : Ieee.double.word false r = r := (RqF.word_sgn false r).1 rfl
theorem word_true (r : Nat) : Ieee.double.word true r = RqF.sgn + r := (RqF.word_sgn true r).2 rfl
theorem rung_small {v : Nat} (h : v < 1000000000000000) : RqF.rungOf v < RqF.sgn := by
  have := RqF.rungOf_lt (t := v) (by omega)
  have := RqF.inf_lt_sgn
  omega

set_option maxRecDepth 100000 in
set_option maxHeartbeats 1000000 in
theorem refparse_pos (s : ByteArray) (w : World) (hs : s.size ≤ 9223372036854775807) (h1 : (s.toList == [110, 97, 110]) = false) (h2 : ¬ 2 < s.size ∨ (2 < s.size ∧ ((s.extract 0 2).toList == [48, 120]) = false))
    (h3 : s.size = 0 ∨ ∃ h : 0 < s.size, (((s[0]'h).toNat : Int) == 45) = false) (hh : Hid (s.data.toList.head? ≠ some 45)) : Calls Tryz.prog 13 #[.string s] w fun e w' => RefRet s.data.toList e ∧ w = w' := by
  have HF := Lib.hid (ref_rest h1 (h2.imp id And.right))
  obtain ⟨q, hq⟩ : ∃ q, (s.toList == [105, 110, 102]) = q := ⟨_, rfl⟩
  have HQ : Hid ((s.data.toList == [105, 110, 102]) = q) := by rw [ByteArray.toList_eq] at hq; exact hq
  have HS := Lib.hid hs; clear hs
  rcases h2 with h2 | ⟨h2, h4⟩
  all_goals
    rcases h3 with h3 | ⟨h3, h5⟩
    all_goals
      cases q
      · go_enter Tryz.func13, Tryz.ntmps13
        go_wp2_with fail
        refine (r3digits_any _ _ HS.out).mono ?_
        rintro e w' ⟨⟨v, rfl, hv⟩, rfl⟩
        cases hd : RqF.digP s.data.toList with
        | none =>
          rw [show (none : Option Nat).isSome = false from rfl]
          have HD := Lib.hid hd; clear hd hv
          go_wp2_with fail
          go_ret2
          refine ⟨?_, rfl⟩
          unfold RefRet; rw [HF.out, if_neg hh.out, refRest_no HQ.out, HD.out]; rfl
        | some t =>
          rw [show (some t).isSome = true from rfl]
          obtain rfl := hv t hd
          have HD := Lib.hid hd; clear hd hv
          go_wp2_with fail
          refine (r3bits_any _ _ (RqF.digP_lt HD.out)).mono ?_
          rintro e w' ⟨rfl, rfl⟩
          have HR := Lib.hid (rung_small (RqF.digP_lt HD.out))
          go_wp2_with fail
          rw [or_nought _ (by have := HR.out; unfold RqF.sgn at this; omega)]
          go_ret2
          refine ⟨?_, rfl⟩
          unfold RefRet; rw [HF.out, if_neg hh.out, refRest_no HQ.out, HD.out]
          simp only [word_false]; rfl
      · go_enter Tryz.func13, Tryz.ntmps13
        go_wp2_with fail
        rw [inf_pos_bits]
        go_ret2
        refine ⟨?_, rfl⟩
        unfold RefRet; rw [HF.out, if_neg hh.out, refRest_inf HQ.out]; rfl

set_option maxRecDepth 100000 in
set_option maxHeartbeats 1000000 in
theorem refparse_neg (s : ByteArray) (w : World) (hs : s.size ≤ 9223372036854775807) (h1 : (s.toList == [110, 97, 110]) = false) (h2 : ¬ 2 < s.size ∨ (2 < s.size ∧ ((s.extract 0 2).toList == [48, 120]) = false))
    (h3 : 0 < s.size) (h5 : (((s[0]'h3).toNat : Int) == 45) = true) (hh : Hid (s.data.toList.head? = some 45)) : Calls Tryz.prog 13 #[.string s] w fun e w' => RefRet s.data.toList e ∧ w = w' := by
  have HF := Lib.hid (ref_rest h1 (h2.imp id And.right))
  obtain ⟨r, hr⟩ : ∃ r, r = s.data.toList.tail := ⟨_, rfl⟩
  have hr2 : (s.extract 1 s.size).data.toList = r := by rw [extract_rest, hr, List.drop_one]
  rw [← hr] at HF
  obtain ⟨q, hq⟩ : ∃ q, ((s.extract 1 s.size).toList == [105, 110, 102]) = q := ⟨_, rfl⟩
  have HQ : Hid ((r == [105, 110, 102]) = q) := by rw [ByteArray.toList_eq, hr2] at hq; exact hq
  have HS := Lib.hid (show (s.extract 1 s.size).size ≤ 9223372036854775807 by rw [size_rest]; omega)
  have HR2 := Lib.hid hr2; clear hr2 hr
  rcases h2 with h2 | ⟨h2, h4⟩
  all_goals
    cases q
    · go_enter Tryz.func13, Tryz.ntmps13
      go_wp2_with fail
      refine (r3digits_any _ _ HS.out).mono ?_
      rintro e w' ⟨hv, rfl⟩
      rw [HR2.out] at hv
      obtain ⟨v, rfl, hv⟩ := hv
      cases hd : RqF.digP r with
      | none =>
        rw [show (none : Option Nat).isSome = false from rfl]
        have HD := Lib.hid hd; clear hd hv
        go_wp2_with fail
        go_ret2
        refine ⟨?_, rfl⟩
        unfold RefRet; rw [HF.out, if_pos hh.out, refRest_no HQ.out, HD.out]; rfl
      | some t =>
        rw [show (some t).isSome = true from rfl]
        obtain rfl := hv t hd
        have HD := Lib.hid hd; clear hd hv
        go_wp2_with fail
        refine (r3bits_any _ _ (RqF.digP_lt HD.out)).mono ?_
        rintro e w' ⟨rfl, rfl⟩
        have HR := Lib.hid (rung_small (RqF.digP_lt HD.out))
        go_wp2_with fail
        rw [or_top _ HR.out]
        go_ret2
        refine ⟨?_, rfl⟩
        unfold RefRet; rw [HF.out, if_pos hh.out, refRest_no HQ.out, HD.out]
        simp only [word_true]; rfl
    · go_enter Tryz.func13, Tryz.ntmps13
      go_wp2_with fail
      rw [inf_neg_bits]
      go_ret2
      refine ⟨?_, rfl⟩
      unfold RefRet; rw [HF.out, if_pos hh.out, refRest_inf HQ.out]; rfl

theorem head_list (l : List UInt8) (h : 0 < l.length) : ((((l[0]'h).toNat : Nat) : Int) == 45) = decide (l.head? = some 45) := by
  cases l with
  | nil => exact absurd h (by decide)
  | cons c r =>
    show (((c.toNat : Nat) : Int) == 45) = _
    rw [Bool.eq_iff_iff, beq_iff_eq, decide_eq_true_eq, List.head?_cons, Option.some_inj]
    constructor
    · intro h; have h2 : c.toNat = 45 := by omega
      have := congrArg UInt8.ofNat h2; rw [UInt8.ofNat_toNat] at this; exact this
    · intro h; rw [h]; rfl
theorem head_byte (s : ByteArray) (h : 0 < s.size) : (((s[0]'h).toNat : Int) == 45) = decide (s.data.toList.head? = some 45) := by
  have hsz := Lib.size_eq s
  exact head_list s.data.toList (by omega)
/-- What the document's Parse hands back. -/
theorem refparse_any (s : ByteArray) (w : World) (hs : s.size ≤ 9223372036854775807) : Calls Tryz.prog 13 #[.string s] w fun e w' => RefRet s.data.toList e ∧ w = w' := by
  cases h1 : (s.toList == [110, 97, 110])
  · cases h3 : ((s.extract 0 2).toList == [48, 120])
    · have h2 : ¬ 2 < s.size ∨ (2 < s.size ∧ ((s.extract 0 2).toList == [48, 120]) = false) := by
        by_cases h : 2 < s.size
        · exact Or.inr ⟨h, h3⟩
        · exact Or.inl h
      by_cases hh : s.data.toList.head? = some 45
      · have h0 : 0 < s.size := by
          have := Lib.size_eq s
          rcases Nat.eq_zero_or_pos s.size with h | h
          · rw [List.eq_nil_of_length_eq_zero (by omega : s.data.toList.length = 0)] at hh; cases hh
          · exact h
        exact refparse_neg s w hs h1 h2 h0 (by rw [head_byte s h0, decide_eq_true hh]) hh
      · refine refparse_pos s w hs h1 h2 ?_ hh
        rcases Nat.eq_zero_or_pos s.size with h | h
        · exact Or.inl h
        · exact Or.inr ⟨h, by rw [head_byte s h, decide_eq_false hh]⟩
    · by_cases h2 : 2 < s.size
      · exact refparse_hex s w hs h1 h2 h3
      · have hh : s.data.toList.head? ≠ some 45 := by
          intro e
          rw [extract_2] at h3
          have h4 : s.data.toList.take 2 = [48, 120] := by simpa using h3
          obtain ⟨r, hr⟩ := RqF.take_two h4
          rw [hr, List.head?_cons] at e; injection e with e; exact absurd e (by decide)
        refine refparse_pos s w hs h1 (Or.inl h2) ?_ hh
        rcases Nat.eq_zero_or_pos s.size with h | h
        · exact Or.inl h
        · exact Or.inr ⟨h, by rw [head_byte s h, decide_eq_false hh]⟩
  · exact refparse_nan s w h1
end Go.Proofs.YtnjmhneobgmejaaGreatDoor
