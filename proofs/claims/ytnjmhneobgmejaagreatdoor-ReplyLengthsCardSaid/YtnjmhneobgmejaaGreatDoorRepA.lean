/- The walks of the small functions of package reply: name, number, score; the library's Cut, Contains, TrimPrefix, Join by their contracts. Conditions: the library's tables are as they are laid; a text is of at most 2^48 bytes (Cut, Contains: under 2^32). -/
import Derived.Test.YtnjmhneobgmejaaGreatDoorCmdA
import Derived.Test.YtnjmhneobgmejaaGreatDoorRepTold
import Derived.Test.YtnjmhneobgmejaaGreatDoorShelfE
import Derived.Test.YtnjmhneobgmejaaGreatDoorMem
namespace Go.Proofs.YtnjmhneobgmejaaGreatDoor
open Go.RowKit

theorem ba_back (t : ByteArray) : (ByteArray.mk t.data.toList.toArray) = t := by cases t; simp
theorem cut_any (s : ByteArray) (w : World) (ht : TabsM w) (hs : s.size < 4294967281) :
    Calls Tryz.prog 58 #[.string s, .string ⟨#[10]⟩] w fun e w' => e = .returned (.tuple #[.string ⟨(Lib.cut s.data.toList [10]).1.toArray⟩, .string ⟨(Lib.cut s.data.toList [10]).2.1.toArray⟩, .bool (Lib.cut s.data.toList [10]).2.2]) ∧ ∃ n, w' = w.drewN n := by
  obtain ⟨m, hm⟩ := ht.ml
  exact Any.strings_Cut { Tryz.laysM145 with } s ⟨#[10]⟩ m w hs hm
theorem contains_any (s t : ByteArray) (w : World) (ht : TabsM w) (hs : s.size < 4294967281) :
    Calls Tryz.prog 37 #[.string s, .string t] w fun e w' => e = .returned (.bool (Lib.contains s.data.toList t.data.toList)) ∧ w' = w := by
  obtain ⟨m, hm⟩ := ht.ml
  exact Any.strings_Contains { Tryz.laysM144 with } s t m w hs hm

set_option maxRecDepth 100000 in
set_option maxHeartbeats 1000000 in
theorem rname_any (s : ByteArray) (w : World) (hs : s.size ≤ 9223372036854775807) :
    Calls Tryz.prog 61 #[.string s] w fun e w' => e = .returned (.bool (RqF.isWord s.data.toList)) ∧ w = w' := by
  obtain ⟨l, hl⟩ : ∃ l, l = s.data.toList := ⟨_, rfl⟩
  have hsz : l.length = s.size := by rw [hl, ← Lib.size_eq]
  have HGE : Hid (∀ k (h : k < s.size), (s[k]'h).toNat = (l[k]'(by omega)).toNat) := by intro k h; subst hl; rfl
  rw [← hl]
  have HL := Lib.hid hl; clear hl
  go_enter Tryz.func61, Tryz.ntmps61
  go_wp2
  go_loop [6] (fun i => ∃ k : Nat, i = .int .i64 k ∧ k ≤ s.size ∧ Hid ((l.take k).all RqF.inW = true)) (fun i => s.size - (intOf i).toNat)
  case atStart => exact ⟨0, rfl, by omega, rfl⟩
  case round =>
    obtain ⟨k, rfl, hk, HV⟩ := hrel
    by_cases hlt : k < s.size
    · have hb := HGE.out k hlt
      by_cases hdig : 33 ≤ (s[k]'hlt).toNat ∧ (s[k]'hlt).toNat ≤ 126
      · have HN := Lib.hid (inW_fresh (l := l) (k := k) (by omega) (by rw [← hb]; exact hdig) HV.out)
        obtain ⟨hd1, hd2⟩ := hdig
        clear hb
        go_wp2_with fail
        exact ⟨⟨k + 1, by go_num, by omega, HN⟩, by simp [intOf]; omega⟩
      · have HF := Lib.hid (inW_bad (l := l) (k := k) (by omega) (by rw [← hb]; exact hdig))
        clear hb
        rcases (show (s[k]'hlt).toNat < 33 ∨ 126 < (s[k]'hlt).toNat from by omega) with hd | hd
        all_goals
          clear hdig
          go_wp2_with fail
          go_ret
          exact ⟨by rw [HF.out]; rfl, rfl⟩
    · obtain rfl : k = s.size := by omega
      have hall := HV.out
      rw [List.take_of_length_le (by omega)] at hall
      have HF := Lib.hid (isWord_all hall)
      have HSZ := Lib.hid hsz
      clear hall HGE hsz
      by_cases h1 : 1 ≤ s.size
      · by_cases h2 : s.size ≤ 64
        all_goals
          go_wp2_with fail
          go_ret
          refine ⟨?_, rfl⟩
          rw [HF.out, HSZ.out]
          refine congrArg (fun b => Ending.returned (.bool b)) ?_
          simp [h1, h2] <;> omega
      · go_wp2_with fail
        go_ret
        refine ⟨?_, rfl⟩
        rw [HF.out, HSZ.out]
        refine congrArg (fun b => Ending.returned (.bool b)) ?_
        simp [h1] <;> omega

set_option maxRecDepth 100000 in
set_option maxHeartbeats 1000000 in
theorem rnumber_any (s : ByteArray) (w : World) (hs : s.size ≤ 281474976710656) (ht : TabsP w) :
    Calls Tryz.prog 43 #[.string s] w fun e w' => NumRet s.data.toList e ∧ Below w.heap.size w w' := by
  have HSZ := Lib.hid (Lib.size_eq s)
  have HT := Lib.hid ht; clear ht
  cases h : Lib.atoiAll s.data.toList with
  | ok n =>
    obtain ⟨hb0, hb1⟩ := atoi_bounds h
    have HA := Lib.hid h; clear h
    by_cases hl : s.size ≤ 9
    · by_cases h0 : 0 ≤ n
      · go_enter Tryz.func43, Tryz.ntmps43
        go_wp2_with fail
        refine (atoi_any s _ hs HT.out).mono ?_
        rintro e w1 ⟨hret, hbl⟩
        obtain rfl : e = .returned (.tuple #[.int .i64 n, .nilIface]) := by
          unfold AtoiRet at hret
          rw [HA.out] at hret; exact hret
        clear hret
        go_wp2_with fail
        refine (itoa_any n _ hb0 hb1 (HT.out.below hbl).toTabs).mono ?_
        rintro e w2 ⟨rfl, hbl2⟩
        go_wp2_with fail
        go_ret2
        refine ⟨?_, below_trans hbl hbl2⟩
        by_cases he : Lib.itoa n = s.data.toList
        · have hn := RqF.numP_of (by rw [← HSZ.out]; exact hl) h0 he
          refine ⟨n, ?_, fun v hv => ?_⟩
          · rw [hn]
            show Ending.returned (.tuple #[.int .i64 n, .bool (Lib.itoa n == s.toList)]) = _
            rw [he, ByteArray.toList_eq]
            simp
          · rw [hn] at hv; injection hv with hv; omega
        · have hn := numP_ok HA.out (fun hc => he hc.2.2)
          refine ⟨n, ?_, fun v hv => ?_⟩
          · rw [hn]
            show Ending.returned (.tuple #[.int .i64 n, .bool (Lib.itoa n == s.toList)]) = _
            rw [ByteArray.toList_eq]
            simp [he]
          · rw [hn] at hv; cases hv
      · have HN := Lib.hid (numP_ok HA.out (fun hc => h0 hc.2.1))
        go_enter Tryz.func43, Tryz.ntmps43
        go_wp2_with fail
        refine (atoi_any s _ hs HT.out).mono ?_
        rintro e w1 ⟨hret, hbl⟩
        obtain rfl : e = .returned (.tuple #[.int .i64 n, .nilIface]) := by
          unfold AtoiRet at hret
          rw [HA.out] at hret; exact hret
        clear hret
        go_wp2_with fail
        go_ret2
        exact ⟨numRet_none HN.out, hbl⟩
    · have HN := Lib.hid (numP_ok HA.out (fun hc => hl (by rw [HSZ.out]; exact hc.1)))
      go_enter Tryz.func43, Tryz.ntmps43
      go_wp2_with fail
      refine (atoi_any s _ hs HT.out).mono ?_
      rintro e w1 ⟨hret, hbl⟩
      obtain rfl : e = .returned (.tuple #[.int .i64 n, .nilIface]) := by
        unfold AtoiRet at hret
        rw [HA.out] at hret; exact hret
      clear hret
      go_wp2_with fail
      go_ret2
      exact ⟨numRet_none HN.out, hbl⟩
  | _ =>
    have HN := Lib.hid (numP_no (l := s.data.toList) (by rw [h]; intro n hn; cases hn))
    have HA := Lib.hid h; clear h
    go_enter Tryz.func43, Tryz.ntmps43
    go_wp2_with fail
    refine (atoi_any s _ hs HT.out).mono ?_
    rintro e w1 ⟨hret, hbl⟩
    obtain ⟨n, t, a, rfl⟩ : ∃ n t a, e = .returned (.tuple #[.int .i64 n, .iface t (.pointer (some a))]) := by
      unfold AtoiRet at hret
      rw [HA.out] at hret; exact hret
    clear hret
    go_wp2_with fail
    go_ret2
    exact ⟨numRet_none HN.out, hbl⟩

def RScoreRet (l : List UInt8) (e : Ending) : Prop := e = .returned (.bool (RqF.isScore l))
set_option maxRecDepth 100000 in
theorem rscore_any (s : ByteArray) (w : World) (hs : s.size ≤ 281474976710656) (ht : TabsP w) :
    Calls Tryz.prog 42 #[.string s] w fun e w' => RScoreRet s.data.toList e ∧ Below w.heap.size w w' := by
  have HT := Lib.hid ht; clear ht
  obtain ⟨o, ho⟩ : ∃ o, o = RqF.parseP s.data.toList := ⟨_, rfl⟩
  have HO := Lib.hid ho
  clear ho
  go_enter Tryz.func42, Tryz.ntmps42
  go_wp2_with fail
  refine (parse_any s _ hs HT.out).mono ?_
  rintro e w1 ⟨he, hbl⟩
  unfold ParseRet at he
  rw [← HO.out] at he
  cases o with
  | none =>
    obtain rfl : e = .returned (.tuple #[.float .f64 0, .int .i64 3]) := by rw [he]; rfl
    clear he
    go_wp2_with fail
    go_ret
    refine ⟨?_, hbl⟩
    unfold RScoreRet RqF.isScore; rw [← HO.out]; rfl
  | some b =>
    obtain rfl : e = .returned (.tuple #[.float .f64 b, .int .i64 0]) := by rw [he]; rfl
    clear he
    go_wp2_with fail
    go_ret
    refine ⟨?_, hbl⟩
    unfold RScoreRet RqF.isScore; rw [← HO.out]; rfl
end Go.Proofs.YtnjmhneobgmejaaGreatDoor
