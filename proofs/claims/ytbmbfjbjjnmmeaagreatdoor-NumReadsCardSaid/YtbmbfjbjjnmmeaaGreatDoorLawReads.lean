/- The walk of NumReads. Conditions: the library's tables and its two errors are as they are laid. -/
import Derived.Test.YtbmbfjbjjnmmeaaGreatDoorLawTexts
import Derived.Deep.QuietTactic
import Derived.BigQuiet
import Derived.BigRegion
namespace RqF
open Ieee
end RqF
namespace Go.Proofs.YtbmbfjbjjnmmeaaGreatDoor
open Go.RowKit

theorem textF_len (b : Nat) : (RqF.textF b).length ≤ 30 := by
  unfold RqF.textF
  split
  · simp
  split
  · simp
  split
  · simp
  split
  · rename_i v hv
    have := RqF.dec_len (RqF.wholeF_some hv).2.2
    split
    · simp; omega
    · omega
  · simp [RqF.hexLow_length]
theorem textF_pos (b : Nat) : 0 < (RqF.textF b).length := by
  unfold RqF.textF
  split
  · simp
  split
  · simp
  split
  · simp
  split
  · rename_i v hv
    split
    · simp
    · have := (RqF.dec_head v).1
      exact List.length_pos_iff.2 this
  · simp

theorem cmpF_back (b : Nat) : cmpF b (if RqF.nan b then 9221120237041090561 else b) = 0 := by
  have e : RqF.code b = RqF.code (if RqF.nan b then 9221120237041090561 else b) := by
    by_cases h : RqF.nan b = true
    · rw [if_pos h]
      have h2 : RqF.nan 9221120237041090561 = true := by decide
      unfold RqF.code; rw [if_pos h, if_pos h2]
    · rw [if_neg h]
  unfold cmpF
  rw [← e]
  exact (cmpI_eq (by omega) (by omega)).symm

set_option maxRecDepth 100000 in
set_option maxHeartbeats 1000000 in
theorem numReads_any (a : Nat) (at_ by_ how : Int) (w : World) (ht : TabsP w) (ha : a < 2 * RqF.sgn) (_ : -9223372036854775808 ≤ at_) (_ : at_ ≤ 9223372036854775807) (_ : 0 ≤ by_) (_ : by_ ≤ 255) (_ : -9223372036854775808 ≤ how) (_ : how ≤ 9223372036854775807) :
    Calls Tryz.prog 3 #[.int .u64 a, .int .i64 at_, .int .u8 by_, .int .i64 how] w fun e w' => e = .returned (.bool true) ∧ Below w.heap.size w w' := by
  have HT := Lib.hid ht; clear ht
  have HA := Lib.hid ha; clear ha
  have hl1 := textF_len a
  have hl2 := textF_pos a
  obtain ⟨t, hT⟩ : ∃ t, t = RqF.textF a := ⟨_, rfl⟩
  rw [← hT] at hl1 hl2
  have HTT := Lib.hid hT; clear hT
  have hm1 : -((t.length : Int) + 1) < at_.tmod ((t.length : Int) + 1) := Int.lt_tmod_of_pos _ (by omega)
  have hm2 : at_.tmod ((t.length : Int) + 1) < (t.length : Int) + 1 := Int.tmod_lt_of_pos _ (by omega)
  obtain ⟨r, hr⟩ : ∃ r, at_.tmod ((t.length : Int) + 1) = r := ⟨_, rfl⟩
  rw [hr] at hm1 hm2
  obtain ⟨k, hk, hk2⟩ : ∃ k : Nat, (r + (t.length : Int) + 1).tmod ((t.length : Int) + 1) = k ∧ k ≤ t.length := by
    have e1 := Int.tmod_nonneg ((t.length : Int) + 1) (a := r + (t.length : Int) + 1) (by omega)
    have e2 := Int.tmod_lt_of_pos (r + (t.length : Int) + 1) (b := (t.length : Int) + 1) (by omega)
    exact ⟨((r + (t.length : Int) + 1).tmod ((t.length : Int) + 1)).toNat, by omega, by omega⟩
  go_enter Tryz.func3, Tryz.ntmps3
  go_wp2_with fail
  refine (r3text_any _ _ HA.out).mono ?_
  rintro e w' ⟨rfl, rfl⟩
  rw [← HTT.out]
  obtain ⟨c, hc⟩ : ∃ c : UInt8, c = UInt8.ofNat by_.toNat := ⟨_, rfl⟩
  have hcv : ∀ w : World, (convert 26 9 (.slice (some ⟨w.heap.size, 0, none⟩) 1 1)).run Tryz.prog (w.alloc (Obj.cells #[Value.int .u8 by_] 5)).drew = .ok (.string ⟨#[c]⟩) (w.alloc (Obj.cells #[Value.int .u8 by_] 5)).drew := by
    intro w
    have h := run_convert_bytes_arg (P := Tryz.prog) (w.alloc (Obj.cells #[Value.int .u8 by_] 5)).drew 26 5 Tryz.underlying26 Tryz.underlying5 w.heap.size 0 1 1 [by_] rfl (fun i hi => by
      obtain rfl : i = 0 := by omega
      exact World.cell?_alloc_mark w #[Value.int .u8 by_] 5 (0, 0) 0) 9 Tryz.underlying9
    rw [h, hc]; rfl
  have HC := Lib.hid hc; clear hc
  obtain ⟨hv, hhv⟩ : ∃ hv, bits BinOp.and IntKind.i64 how 3 = hv := ⟨_, rfl⟩
  have hts : (ByteArray.mk t.toArray).size = t.length := by show t.toArray.size = _; simp
  have HS0 : Hid ((((ByteArray.mk t.toArray).extract 0 k ++ ⟨#[c]⟩) ++ (ByteArray.mk t.toArray).extract k t.length).size ≤ 281474976710656) := by
    show _ ≤ _
    rw [ByteArray.size_append, ByteArray.size_append, ByteArray.size_extract, ByteArray.size_extract, hts]
    show _ + 1 + _ ≤ _
    omega
  have HS1 : Hid ((((ByteArray.mk t.toArray).extract 0 k ++ ⟨#[c]⟩) ++ (ByteArray.mk t.toArray).extract (k + 1) t.length).size ≤ 281474976710656) := by
    show _ ≤ _
    rw [ByteArray.size_append, ByteArray.size_append, ByteArray.size_extract, ByteArray.size_extract, hts]
    show _ + 1 + _ ≤ _
    omega
  have HS2 : Hid (((ByteArray.mk t.toArray).extract 0 k ++ (ByteArray.mk t.toArray).extract (k + 1) t.length).size ≤ 281474976710656) := by
    show _ ≤ _
    rw [ByteArray.size_append, ByteArray.size_extract, ByteArray.size_extract, hts]
    omega
  clear hts
  go_wp2_with fail
  go_region
  have HW1 : Hid (Below w.heap.size w (w.alloc (Obj.cells #[Value.int .u8 by_] 5)).drew) := ((Below.refl _ _).alloc (Nat.le_refl _) _).drew
  generalize (w.alloc (Obj.cells #[Value.int .u8 by_] 5)).drew = W1 at HW1 ⊢
  generalize ((ByteArray.mk t.toArray).extract 0 k ++ ⟨#[c]⟩) ++ (ByteArray.mk t.toArray).extract k t.length = S0 at HS0 ⊢
  by_cases hkl : k < t.length
  · cases h1 : (hv == 1)
    · cases h2 : (hv == 2)
      · go_wp2_with fail
        have HW2 := HW1
        have HSZ := HS0
        generalize S0 = S at HSZ ⊢
        generalize W1 = W2 at HW2 ⊢
        clear HS1 HS2 hcv HW1 HS0 h1 h2 hhv
        have HT2 := Lib.hid (HT.out.below HW2.out)
        refine (parse_any _ _ HSZ.out HT2.out).mono ?_
        rintro e w3 ⟨he, hb3⟩
        have HT3 := Lib.hid (HT2.out.below hb3)
        have HB := Lib.hid (below_trans HW2.out hb3)
        obtain ⟨o, ho⟩ : ∃ o, o = RqF.parseP S.data.toList := ⟨_, rfl⟩
        unfold ParseRet at he
        rw [← ho] at he
        have HO := Lib.hid ho; clear ho
        cases o with
        | none =>
          obtain rfl : e = .returned (.tuple #[.float .f64 0, .int .i64 3]) := by rw [he]; rfl
          clear he
          go_wp2_with fail
          refine (refparse_any _ _ (by have := HSZ.out; omega)).mono ?_
          rintro e w' ⟨he, rfl⟩
          unfold RefRet at he
          rw [RqF.refP_eq, ← HO.out] at he
          obtain rfl : e = .returned (.tuple #[.float .f64 0, .bool false]) := by rw [he]; rfl
          clear he
          go_wp2_with fail
          refine (awake3_any _ HT3.out.toTabs).mono ?_
          rintro e w4 ⟨rfl, hb4⟩
          go_wp2_with fail
          go_ret
          exact ⟨rfl, below_trans HB.out hb4⟩
        | some b =>
          have HBB := Lib.hid (RqF.parseP_lt HO.out.symm)
          obtain rfl : e = .returned (.tuple #[.float .f64 b, .int .i64 0]) := by rw [he]; rfl
          clear he
          go_wp2_with fail
          refine (refparse_any _ _ (by have := HSZ.out; omega)).mono ?_
          rintro e w' ⟨he, rfl⟩
          unfold RefRet at he
          rw [RqF.refP_eq, ← HO.out] at he
          obtain rfl : e = .returned (.tuple #[.float .f64 b, .bool true]) := by rw [he]; rfl
          clear he
          go_wp2_with fail
          refine (sameBits_any _ _ _ HBB.out HBB.out).mono ?_
          rintro e w' ⟨rfl, rfl⟩
          rw [sameB_self]
          go_wp2_with fail
          refine (text_any _ _ HT3.out.toTabs HBB.out).mono ?_
          rintro e w4 ⟨rfl, hb4⟩
          have HT4 := Lib.hid (HT3.out.below hb4)
          go_wp2_with fail
          refine (parse_any _ _ (textF_size b) HT4.out).mono ?_
          rintro e w5 ⟨he, hb5⟩
          obtain ⟨y, hy⟩ : ∃ y, y = if RqF.nan b then 9221120237041090561 else b := ⟨_, rfl⟩
          obtain rfl : e = .returned (.tuple #[.float .f64 y, .int .i64 0]) := by
            rw [show e = _ from he]
            show Ending.returned (.tuple #[.float .f64 ((RqF.parseP (RqF.textF b)).getD 0), .int .i64 (if (RqF.parseP (RqF.textF b)).isSome then 0 else 3)]) = _
            rw [RqF.parseP_textF HBB.out, hy]; rfl
          clear he
          have HY : Hid (y < 2 * RqF.sgn ∧ cmpF b y = 0) := by rw [hy]; exact ⟨RqF.back_lt_sgn HBB.out, cmpF_back b⟩
          clear hy
          go_wp2_with fail
          refine (same_any _ _ _ HBB.out HY.out.1).mono ?_
          rintro e w' ⟨rfl, rfl⟩
          rw [HY.out.2]
          go_wp2_with fail
          refine (awake3_any _ (HT4.out.below hb5).toTabs).mono ?_
          rintro e w6 ⟨rfl, hb6⟩
          go_wp2_with fail
          go_ret
          exact ⟨rfl, below_trans (below_trans (below_trans HB.out hb4) hb5) hb6⟩
      · go_wp2_with fail
        go_region
        have HW2 : Hid (Below w.heap.size w W1.drew) := HW1.out.drew
        generalize W1.drew = W2 at HW2 ⊢
        have HSZ := HS2
        generalize ((ByteArray.mk t.toArray).extract 0 k ++ (ByteArray.mk t.toArray).extract (k + 1) t.length) = S at HSZ ⊢
        clear HS1 HS2 hcv HS0 h1 h2 hhv
        go_wp2_with fail
        have HT2 := Lib.hid (HT.out.below HW2.out)
        refine (parse_any _ _ HSZ.out HT2.out).mono ?_
        rintro e w3 ⟨he, hb3⟩
        have HT3 := Lib.hid (HT2.out.below hb3)
        have HB := Lib.hid (below_trans HW2.out hb3)
        obtain ⟨o, ho⟩ : ∃ o, o = RqF.parseP S.data.toList := ⟨_, rfl⟩
        unfold ParseRet at he
        rw [← ho] at he
        have HO := Lib.hid ho; clear ho
        cases o with
        | none =>
          obtain rfl : e = .returned (.tuple #[.float .f64 0, .int .i64 3]) := by rw [he]; rfl
          clear he
          go_wp2_with fail
          refine (refparse_any _ _ (by have := HSZ.out; omega)).mono ?_
          rintro e w' ⟨he, rfl⟩
          unfold RefRet at he
          rw [RqF.refP_eq, ← HO.out] at he
          obtain rfl : e = .returned (.tuple #[.float .f64 0, .bool false]) := by rw [he]; rfl
          clear he
          go_wp2_with fail
          refine (awake3_any _ HT3.out.toTabs).mono ?_
          rintro e w4 ⟨rfl, hb4⟩
          go_wp2_with fail
          go_ret
          exact ⟨rfl, below_trans HB.out hb4⟩
        | some b =>
          have HBB := Lib.hid (RqF.parseP_lt HO.out.symm)
          obtain rfl : e = .returned (.tuple #[.float .f64 b, .int .i64 0]) := by rw [he]; rfl
          clear he
          go_wp2_with fail
          refine (refparse_any _ _ (by have := HSZ.out; omega)).mono ?_
          rintro e w' ⟨he, rfl⟩
          unfold RefRet at he
          rw [RqF.refP_eq, ← HO.out] at he
          obtain rfl : e = .returned (.tuple #[.float .f64 b, .bool true]) := by rw [he]; rfl
          clear he
          go_wp2_with fail
          refine (sameBits_any _ _ _ HBB.out HBB.out).mono ?_
          rintro e w' ⟨rfl, rfl⟩
          rw [sameB_self]
          go_wp2_with fail
          refine (text_any _ _ HT3.out.toTabs HBB.out).mono ?_
          rintro e w4 ⟨rfl, hb4⟩
          have HT4 := Lib.hid (HT3.out.below hb4)
          go_wp2_with fail
          refine (parse_any _ _ (textF_size b) HT4.out).mono ?_
          rintro e w5 ⟨he, hb5⟩
          obtain ⟨y, hy⟩ : ∃ y, y = if RqF.nan b then 9221120237041090561 else b := ⟨_, rfl⟩
          obtain rfl : e = .returned (.tuple #[.float .f64 y, .int .i64 0]) := by
            rw [show e = _ from he]
            show Ending.returned (.tuple #[.float .f64 ((RqF.parseP (RqF.textF b)).getD 0), .int .i64 (if (RqF.parseP (RqF.textF b)).isSome then 0 else 3)]) = _
            rw [RqF.parseP_textF HBB.out, hy]; rfl
          clear he
          have HY : Hid (y < 2 * RqF.sgn ∧ cmpF b y = 0) := by rw [hy]; exact ⟨RqF.back_lt_sgn HBB.out, cmpF_back b⟩
          clear hy
          go_wp2_with fail
          refine (same_any _ _ _ HBB.out HY.out.1).mono ?_
          rintro e w' ⟨rfl, rfl⟩
          rw [HY.out.2]
          go_wp2_with fail
          refine (awake3_any _ (HT4.out.below hb5).toTabs).mono ?_
          rintro e w6 ⟨rfl, hb6⟩
          go_wp2_with fail
          go_ret
          exact ⟨rfl, below_trans (below_trans (below_trans HB.out hb4) hb5) hb6⟩
    · have hcv1 := hcv W1
      clear hcv
      go_wp2_with fail
      go_region
      have HW2 : Hid (Below w.heap.size w (W1.alloc (Obj.cells #[Value.int .u8 by_] 5)).drew) := (HW1.out.alloc HW1.out.size _).drew
      generalize (W1.alloc (Obj.cells #[Value.int .u8 by_] 5)).drew = W2 at HW2 ⊢
      have HSZ := HS1
      generalize (((ByteArray.mk t.toArray).extract 0 k ++ ⟨#[c]⟩) ++ (ByteArray.mk t.toArray).extract (k + 1) t.length) = S at HSZ ⊢
      clear HS1 HS2 hcv1 HS0 h1 hhv
      go_wp2_with fail
      have HT2 := Lib.hid (HT.out.below HW2.out)
      refine (parse_any _ _ HSZ.out HT2.out).mono ?_
      rintro e w3 ⟨he, hb3⟩
      have HT3 := Lib.hid (HT2.out.below hb3)
      have HB := Lib.hid (below_trans HW2.out hb3)
      obtain ⟨o, ho⟩ : ∃ o, o = RqF.parseP S.data.toList := ⟨_, rfl⟩
      unfold ParseRet at he
      rw [← ho] at he
      have HO := Lib.hid ho; clear ho
      cases o with
      | none =>
        obtain rfl : e = .returned (.tuple #[.float .f64 0, .int .i64 3]) := by rw [he]; rfl
        clear he
        go_wp2_with fail
        refine (refparse_any _ _ (by have := HSZ.out; omega)).mono ?_
        rintro e w' ⟨he, rfl⟩
        unfold RefRet at he
        rw [RqF.refP_eq, ← HO.out] at he
        obtain rfl : e = .returned (.tuple #[.float .f64 0, .bool false]) := by rw [he]; rfl
        clear he
        go_wp2_with fail
        refine (awake3_any _ HT3.out.toTabs).mono ?_
        rintro e w4 ⟨rfl, hb4⟩
        go_wp2_with fail
        go_ret
        exact ⟨rfl, below_trans HB.out hb4⟩
      | some b =>
        have HBB := Lib.hid (RqF.parseP_lt HO.out.symm)
        obtain rfl : e = .returned (.tuple #[.float .f64 b, .int .i64 0]) := by rw [he]; rfl
        clear he
        go_wp2_with fail
        refine (refparse_any _ _ (by have := HSZ.out; omega)).mono ?_
        rintro e w' ⟨he, rfl⟩
        unfold RefRet at he
        rw [RqF.refP_eq, ← HO.out] at he
        obtain rfl : e = .returned (.tuple #[.float .f64 b, .bool true]) := by rw [he]; rfl
        clear he
        go_wp2_with fail
        refine (sameBits_any _ _ _ HBB.out HBB.out).mono ?_
        rintro e w' ⟨rfl, rfl⟩
        rw [sameB_self]
        go_wp2_with fail
        refine (text_any _ _ HT3.out.toTabs HBB.out).mono ?_
        rintro e w4 ⟨rfl, hb4⟩
        have HT4 := Lib.hid (HT3.out.below hb4)
        go_wp2_with fail
        refine (parse_any _ _ (textF_size b) HT4.out).mono ?_
        rintro e w5 ⟨he, hb5⟩
        obtain ⟨y, hy⟩ : ∃ y, y = if RqF.nan b then 9221120237041090561 else b := ⟨_, rfl⟩
        obtain rfl : e = .returned (.tuple #[.float .f64 y, .int .i64 0]) := by
          rw [show e = _ from he]
          show Ending.returned (.tuple #[.float .f64 ((RqF.parseP (RqF.textF b)).getD 0), .int .i64 (if (RqF.parseP (RqF.textF b)).isSome then 0 else 3)]) = _
          rw [RqF.parseP_textF HBB.out, hy]; rfl
        clear he
        have HY : Hid (y < 2 * RqF.sgn ∧ cmpF b y = 0) := by rw [hy]; exact ⟨RqF.back_lt_sgn HBB.out, cmpF_back b⟩
        clear hy
        go_wp2_with fail
        refine (same_any _ _ _ HBB.out HY.out.1).mono ?_
        rintro e w' ⟨rfl, rfl⟩
        rw [HY.out.2]
        go_wp2_with fail
        refine (awake3_any _ (HT4.out.below hb5).toTabs).mono ?_
        rintro e w6 ⟨rfl, hb6⟩
        go_wp2_with fail
        go_ret
        exact ⟨rfl, below_trans (below_trans (below_trans HB.out hb4) hb5) hb6⟩
  · cases h1 : (hv == 1)
    all_goals
      cases h2 : (hv == 2)
      all_goals
        go_wp2_with fail
        have HW2 := HW1
        have HSZ := HS0
        generalize S0 = S at HSZ ⊢
        generalize W1 = W2 at HW2 ⊢
        clear HS1 HS2 hcv HW1 HS0 h1 h2 hhv
        have HT2 := Lib.hid (HT.out.below HW2.out)
        refine (parse_any _ _ HSZ.out HT2.out).mono ?_
        rintro e w3 ⟨he, hb3⟩
        have HT3 := Lib.hid (HT2.out.below hb3)
        have HB := Lib.hid (below_trans HW2.out hb3)
        obtain ⟨o, ho⟩ : ∃ o, o = RqF.parseP S.data.toList := ⟨_, rfl⟩
        unfold ParseRet at he
        rw [← ho] at he
        have HO := Lib.hid ho; clear ho
        cases o with
        | none =>
          obtain rfl : e = .returned (.tuple #[.float .f64 0, .int .i64 3]) := by rw [he]; rfl
          clear he
          go_wp2_with fail
          refine (refparse_any _ _ (by have := HSZ.out; omega)).mono ?_
          rintro e w' ⟨he, rfl⟩
          unfold RefRet at he
          rw [RqF.refP_eq, ← HO.out] at he
          obtain rfl : e = .returned (.tuple #[.float .f64 0, .bool false]) := by rw [he]; rfl
          clear he
          go_wp2_with fail
          refine (awake3_any _ HT3.out.toTabs).mono ?_
          rintro e w4 ⟨rfl, hb4⟩
          go_wp2_with fail
          go_ret
          exact ⟨rfl, below_trans HB.out hb4⟩
        | some b =>
          have HBB := Lib.hid (RqF.parseP_lt HO.out.symm)
          obtain rfl : e = .returned (.tuple #[.float .f64 b, .int .i64 0]) := by rw [he]; rfl
          clear he
          go_wp2_with fail
          refine (refparse_any _ _ (by have := HSZ.out; omega)).mono ?_
          rintro e w' ⟨he, rfl⟩
          unfold RefRet at he
          rw [RqF.refP_eq, ← HO.out] at he
          obtain rfl : e = .returned (.tuple #[.float .f64 b, .bool true]) := by rw [he]; rfl
          clear he
          go_wp2_with fail
          refine (sameBits_any _ _ _ HBB.out HBB.out).mono ?_
          rintro e w' ⟨rfl, rfl⟩
          rw [sameB_self]
          go_wp2_with fail
          refine (text_any _ _ HT3.out.toTabs HBB.out).mono ?_
          rintro e w4 ⟨rfl, hb4⟩
          have HT4 := Lib.hid (HT3.out.below hb4)
          go_wp2_with fail
          refine (parse_any _ _ (textF_size b) HT4.out).mono ?_
          rintro e w5 ⟨he, hb5⟩
          obtain ⟨y, hy⟩ : ∃ y, y = if RqF.nan b then 9221120237041090561 else b := ⟨_, rfl⟩
          obtain rfl : e = .returned (.tuple #[.float .f64 y, .int .i64 0]) := by
            rw [show e = _ from he]
            show Ending.returned (.tuple #[.float .f64 ((RqF.parseP (RqF.textF b)).getD 0), .int .i64 (if (RqF.parseP (RqF.textF b)).isSome then 0 else 3)]) = _
            rw [RqF.parseP_textF HBB.out, hy]; rfl
          clear he
          have HY : Hid (y < 2 * RqF.sgn ∧ cmpF b y = 0) := by rw [hy]; exact ⟨RqF.back_lt_sgn HBB.out, cmpF_back b⟩
          clear hy
          go_wp2_with fail
          refine (same_any _ _ _ HBB.out HY.out.1).mono ?_
          rintro e w' ⟨rfl, rfl⟩
          rw [HY.out.2]
          go_wp2_with fail
          refine (awake3_any _ (HT4.out.below hb5).toTabs).mono ?_
          rintro e w6 ⟨rfl, hb6⟩
          go_wp2_with fail
          go_ret
          exact ⟨rfl, below_trans (below_trans (below_trans HB.out hb4) hb5) hb6⟩
end Go.Proofs.YtbmbfjbjjnmmeaaGreatDoor
