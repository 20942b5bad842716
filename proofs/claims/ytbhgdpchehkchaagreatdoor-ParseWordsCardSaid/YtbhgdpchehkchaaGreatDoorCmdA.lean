/- The walks of the small functions of package parse: word, number, score, bound. Conditions: the library's tables are as they are laid; a text is of at most 2^48 bytes. -/
import Derived.Test.YtbhgdpchehkchaaGreatDoorCmdPlain
import Derived.Test.YtbhgdpchehkchaaGreatDoorLawTexts
import Derived.Test.YtbhgdpchehkchaaGreatDoorShelfD
import Derived.Deep.QuietTactic
import Derived.BigQuiet
namespace Go.Proofs.YtbhgdpchehkchaaGreatDoor
open Go.RowKit

/-- The tables, and a number in internal/bytealg.MaxLen. -/
structure TabsM (w : World) : Prop extends TabsP w where
  ml : ∃ m, w.cell? ⟨1, 0, none⟩ = some (.int .i64 m)
theorem TabsM.below {w w' : World} (h : TabsM w) (hb : Below w.heap.size w w') : TabsM w' := by
  obtain ⟨m, hm⟩ := h.ml
  exact { h.toTabsP.below hb with ml := ⟨m, cell_later hb hm⟩ }

/-- A line's words in memory. -/
def wordCells (l : List UInt8) : List Value := (RqF.wordsOf l).map fun x => Value.string ⟨x.toArray⟩
theorem count_words (s : ByteArray) : Lib.countB s ⟨#[32]⟩ + 1 = (RqF.wordsOf s.data.toList).length := by
  have h1 := Lib.splitB_data ⟨#[32]⟩ 0 (Lib.countB s ⟨#[32]⟩) s
  have h2 := Lib.splitB_all ⟨#[32]⟩ (by decide) 0 _ s rfl
  have h3 : Lib.splitK [32] 0 (Lib.countB s ⟨#[32]⟩) s.data.toList = RqF.wordsOf s.data.toList := RqF.split_words _ _ (Nat.le_refl _)
  rw [← h2, ← h3, ← List.length_map (f := fun x : ByteArray => x.data.toList), h1]
theorem cells_words (s : ByteArray) : (Lib.splitB ⟨#[32]⟩ 0 (Lib.countB s ⟨#[32]⟩) s).map Value.string = wordCells s.data.toList := by
  have h1 := Lib.splitB_data ⟨#[32]⟩ 0 (Lib.countB s ⟨#[32]⟩) s
  have h3 : Lib.splitK [32] 0 (Lib.countB s ⟨#[32]⟩) s.data.toList = RqF.wordsOf s.data.toList := RqF.split_words _ _ (Nat.le_refl _)
  unfold wordCells
  rw [← h3]
  have h1' : (Lib.splitB ⟨#[32]⟩ 0 (Lib.countB s ⟨#[32]⟩) s).map (fun x => x.data.toList) = Lib.splitK [32] 0 (Lib.countB s ⟨#[32]⟩) s.data.toList := h1
  rw [← h1', List.map_map]
  exact List.map_congr_left fun x _ => by rfl
theorem split_any (s : ByteArray) (w : World) (ht : TabsM w) (hs : s.size < 4294967281) :
    Calls Tryz.prog 35 #[.string s, .string ⟨#[32]⟩] w fun e w' =>
      e = .returned (.slice (some ⟨w.heap.size, 0, none⟩) (RqF.wordsOf s.data.toList).length (RqF.wordsOf s.data.toList).length) ∧ w' = w.alloc (.cells (wordCells s.data.toList).toArray 9) := by
  obtain ⟨m, hm⟩ := ht.ml
  have h := Any.strings_Split { Tryz.laysM146 with } Tryz.laysM146.i9 s ⟨#[32]⟩ m w hs hm (by decide)
  rw [count_words, cells_words] at h
  exact h
theorem wordCells_get (l : List UInt8) (j : Nat) (h : j < (RqF.wordsOf l).length) : (wordCells l)[j]? = some (.string ⟨(RqF.wordsOf l)[j].toArray⟩) := by
  unfold wordCells; rw [List.getElem?_map, List.getElem?_eq_getElem h]; rfl

theorem itoa_any (n : Int) (w : World) (h0 : -9223372036854775808 ≤ n) (h1 : n ≤ 9223372036854775807) (ht : Tabs w) :
    Calls Tryz.prog 48 #[.int .i64 n] w fun e w' => e = .returned (.string ⟨(Lib.itoa n).toArray⟩) ∧ Below w.heap.size w w' :=
  (Tryz.strconv_Itoa n h0 h1 w ht.pow).mono fun _ _ ⟨he, k, os, hw⟩ => ⟨he, by rw [hw]; exact below_grow k os⟩

/-- What strconv.Atoi hands back. -/
def AtoiRet (l : List UInt8) (e : Ending) : Prop :=
  match Lib.atoiAll l with
  | .ok n => e = .returned (.tuple #[.int .i64 n, .nilIface])
  | _ => ∃ n t a, e = .returned (.tuple #[.int .i64 n, .iface t (.pointer (some a))])
theorem atoi_any (s : ByteArray) (w : World) (hs : s.size ≤ 281474976710656) (ht : TabsP w) :
    Calls Tryz.prog 108 #[.string s] w fun e w' => AtoiRet s.data.toList e ∧ Below w.heap.size w w' := by
  unfold AtoiRet
  cases h : Lib.atoiAll s.data.toList
  · rename_i n
    refine (Any.strconv_Atoi_ok Tryz.laysC172 s (by omega) n h w).mono fun e w' ⟨he, hw⟩ => ⟨he, ?_⟩
    rcases hw with rfl | ⟨t, rfl⟩
    · exact Below.refl _ _
    · exact below_bytes w t
  · obtain ⟨tp, p, hv⟩ := ht.es
    exact (Any.strconv_Atoi_syntax_var Tryz.laysC172 s hs h tp p w hv).mono fun e w' ⟨N, he, _, _, hb⟩ => ⟨⟨_, _, _, he⟩, hb⟩
  · obtain ⟨tp, p, hv⟩ := ht.er
    exact (Any.strconv_Atoi_range_var Tryz.laysC172 s hs h tp p w hv).mono fun e w' ⟨N, he, _, _, hb⟩ => ⟨⟨_, _, _, he⟩, hb⟩

/-- The number of a form's error, if something is not well. -/
def errI (b : Bool) : Int := if b then 0 else 3
theorem failed_any (b : Bool) (w : World) : Calls Tryz.prog 99 #[.bool b] w fun e w' => e = .returned (.int .i64 (errI b)) ∧ w = w' := by
  cases b
  all_goals
    go_enter Tryz.func99, Tryz.ntmps99
    go_wp2
    go_ret
    exact ⟨rfl, rfl⟩

theorem inW_fresh {l : List UInt8} {k : Nat} (h : k < l.length) (hd : 33 ≤ l[k].toNat ∧ l[k].toNat ≤ 126) (hv : (l.take k).all RqF.inW = true) : (l.take (k + 1)).all RqF.inW = true := by
  rw [take_snoc h, List.all_append, hv]
  simp [RqF.inW, hd.1, hd.2]
theorem inW_bad {l : List UInt8} {k : Nat} (h : k < l.length) (hd : ¬ (33 ≤ l[k].toNat ∧ l[k].toNat ≤ 126)) : RqF.isWord l = false := by
  unfold RqF.isWord
  have : l.all RqF.inW = false := by
    rw [List.all_eq_false]
    exact ⟨l[k], List.getElem_mem h, by unfold RqF.inW; simp only [decide_eq_true_eq]; exact hd⟩
  rw [this]; rfl
theorem isWord_all {l : List UInt8} (h : l.all RqF.inW = true) : RqF.isWord l = decide (1 ≤ l.length ∧ l.length ≤ 64) := by
  unfold RqF.isWord; rw [h]; rfl

set_option maxRecDepth 100000 in
set_option maxHeartbeats 1000000 in
theorem pword_any (s : ByteArray) (w : World) (hs : s.size ≤ 9223372036854775807) :
    Calls Tryz.prog 100 #[.string s] w fun e w' => e = .returned (.bool (RqF.isWord s.data.toList)) ∧ w = w' := by
  obtain ⟨l, hl⟩ : ∃ l, l = s.data.toList := ⟨_, rfl⟩
  have hsz : l.length = s.size := by rw [hl, ← Lib.size_eq]
  have HGE : Hid (∀ k (h : k < s.size), (s[k]'h).toNat = (l[k]'(by omega)).toNat) := by intro k h; subst hl; rfl
  rw [← hl]
  have HL := Lib.hid hl; clear hl
  go_enter Tryz.func100, Tryz.ntmps100
  go_wp2
  go_loop [6] (fun i => ∃ k : Nat, i = .int .i64 k ∧ k ≤ s.size ∧ Hid ((l.take k).all RqF.inW = true)) (fun i => s.size - (intOf i).toNat)
  case atStart => exact ⟨0, rfl, by omega, rfl⟩
  case round =>
    obtain ⟨k, rfl, hk, HV⟩ := hrel
    by_cases hlt : k < s.size
    · have hb := HGE.out k hlt
      by_cases hdig : 33 ≤ (s[k]'hlt).toNat ∧ (s[k]'hlt).toNat ≤ 126
      · have HN := Lib.hid (inW_fresh (l := l) (k := k) (by omega) (by rw [← hb]; exact hdig) HV.out)
        obtain ⟨hd1, hd2⟩ := hdig
        clear hb
        go_wp2_with fail
        exact ⟨⟨k + 1, by go_num, by omega, HN⟩, by simp [intOf]; omega⟩
      · have HF := Lib.hid (inW_bad (l := l) (k := k) (by omega) (by rw [← hb]; exact hdig))
        clear hb
        rcases (show (s[k]'hlt).toNat < 33 ∨ 126 < (s[k]'hlt).toNat from by omega) with hd | hd
        all_goals
          clear hdig
          go_wp2_with fail
          go_ret
          exact ⟨by rw [HF.out]; rfl, rfl⟩
    · obtain rfl : k = s.size := by omega
      have hall := HV.out
      rw [List.take_of_length_le (by omega)] at hall
      have HF := Lib.hid (isWord_all hall)
      have HSZ := Lib.hid hsz
      clear hall HGE hsz
      by_cases h1 : 1 ≤ s.size
      · by_cases h2 : s.size ≤ 64
        all_goals
          go_wp2_with fail
          go_ret
          refine ⟨?_, rfl⟩
          rw [HF.out, HSZ.out]
          refine congrArg (fun b => Ending.returned (.bool b)) ?_
          simp [h1, h2] <;> omega
      · go_wp2_with fail
        go_ret
        refine ⟨?_, rfl⟩
        rw [HF.out, HSZ.out]
        refine congrArg (fun b => Ending.returned (.bool b)) ?_
        simp [h1] <;> omega

/-- What number hands back. -/
def NumRet (l : List UInt8) (e : Ending) : Prop := ∃ n : Int, e = .returned (.tuple #[.int .i64 n, .bool (RqF.numP l).isSome]) ∧ ∀ v, RqF.numP l = some v → n = v
theorem numRet_none {l : List UInt8} {n : Int} (h : RqF.numP l = none) : NumRet l (.returned (.tuple #[.int .i64 n, .bool false])) :=
  ⟨n, by rw [h]; rfl, fun v hv => by rw [h] at hv; cases hv⟩
theorem numP_no {l : List UInt8} (h : ∀ n, Lib.atoiAll l ≠ .ok n) : RqF.numP l = none := by
  cases hn : RqF.numP l with
  | none => rfl
  | some v => exact absurd (RqF.numP_some hn).1 (h _)
theorem numP_ok {l : List UInt8} {n : Int} (h : Lib.atoiAll l = .ok n) (hc : ¬ (l.length ≤ 9 ∧ 0 ≤ n ∧ Lib.itoa n = l)) : RqF.numP l = none := by
  cases hn : RqF.numP l with
  | none => rfl
  | some v =>
    obtain ⟨h1, h2, h3, h4⟩ := RqF.numP_some hn
    rw [h] at h1
    injection h1 with h1
    exact absurd ⟨h2, by omega, by rw [h1]; exact h3⟩ hc
theorem atoi_bounds {l : List UInt8} {n : Int} (h : Lib.atoiAll l = .ok n) : -9223372036854775808 ≤ n ∧ n ≤ 9223372036854775807 := by
  rw [← Lib.parseIntB_64] at h
  have hb := Lib.parseIntB_bounds h
  have e : (2 : Nat) ^ (64 - 1) = 9223372036854775808 := by decide
  rw [e] at hb
  omega

set_option maxRecDepth 100000 in
set_option maxHeartbeats 1000000 in
theorem pnumber_any (s : ByteArray) (w : World) (hs : s.size ≤ 281474976710656) (ht : TabsP w) :
    Calls Tryz.prog 103 #[.string s] w fun e w' => NumRet s.data.toList e ∧ Below w.heap.size w w' := by
  have HSZ := Lib.hid (Lib.size_eq s)
  have HT := Lib.hid ht; clear ht
  cases h : Lib.atoiAll s.data.toList with
  | ok n =>
    obtain ⟨hb0, hb1⟩ := atoi_bounds h
    have HA := Lib.hid h; clear h
    by_cases hl : s.size ≤ 9
    · by_cases h0 : 0 ≤ n
      · go_enter Tryz.func103, Tryz.ntmps103
        go_wp2_with fail
        refine (atoi_any s _ hs HT.out).mono ?_
        rintro e w1 ⟨hret, hbl⟩
        obtain rfl : e = .returned (.tuple #[.int .i64 n, .nilIface]) := by
          unfold AtoiRet at hret
          rw [HA.out] at hret; exact hret
        clear hret
        go_wp2_with fail
        refine (itoa_any n _ hb0 hb1 (HT.out.below hbl).toTabs).mono ?_
        rintro e w2 ⟨rfl, hbl2⟩
        go_wp2_with fail
        go_ret2
        refine ⟨?_, below_trans hbl hbl2⟩
        by_cases he : Lib.itoa n = s.data.toList
        · have hn := RqF.numP_of (by rw [← HSZ.out]; exact hl) h0 he
          refine ⟨n, ?_, fun v hv => ?_⟩
          · rw [hn]
            show Ending.returned (.tuple #[.int .i64 n, .bool (Lib.itoa n == s.toList)]) = _
            rw [he, ByteArray.toList_eq]
            simp
          · rw [hn] at hv; injection hv with hv; omega
        · have hn := numP_ok HA.out (fun hc => he hc.2.2)
          refine ⟨n, ?_, fun v hv => ?_⟩
          · rw [hn]
            show Ending.returned (.tuple #[.int .i64 n, .bool (Lib.itoa n == s.toList)]) = _
            rw [ByteArray.toList_eq]
            simp [he]
          · rw [hn] at hv; cases hv
      · have HN := Lib.hid (numP_ok HA.out (fun hc => h0 hc.2.1))
        go_enter Tryz.func103, Tryz.ntmps103
        go_wp2_with fail
        refine (atoi_any s _ hs HT.out).mono ?_
        rintro e w1 ⟨hret, hbl⟩
        obtain rfl : e = .returned (.tuple #[.int .i64 n, .nilIface]) := by
          unfold AtoiRet at hret
          rw [HA.out] at hret; exact hret
        clear hret
        go_wp2_with fail
        go_ret2
        exact ⟨numRet_none HN.out, hbl⟩
    · have HN := Lib.hid (numP_ok HA.out (fun hc => hl (by rw [HSZ.out]; exact hc.1)))
      go_enter Tryz.func103, Tryz.ntmps103
      go_wp2_with fail
      refine (atoi_any s _ hs HT.out).mono ?_
      rintro e w1 ⟨hret, hbl⟩
      obtain rfl : e = .returned (.tuple #[.int .i64 n, .nilIface]) := by
        unfold AtoiRet at hret
        rw [HA.out] at hret; exact hret
      clear hret
      go_wp2_with fail
      go_ret2
      exact ⟨numRet_none HN.out, hbl⟩
  | _ =>
    have HN := Lib.hid (numP_no (l := s.data.toList) (by rw [h]; intro n hn; cases hn))
    have HA := Lib.hid h; clear h
    go_enter Tryz.func103, Tryz.ntmps103
    go_wp2_with fail
    refine (atoi_any s _ hs HT.out).mono ?_
    rintro e w1 ⟨hret, hbl⟩
    obtain ⟨n, t, a, rfl⟩ : ∃ n t a, e = .returned (.tuple #[.int .i64 n, .iface t (.pointer (some a))]) := by
      unfold AtoiRet at hret
      rw [HA.out] at hret; exact hret
    clear hret
    go_wp2_with fail
    go_ret2
    exact ⟨numRet_none HN.out, hbl⟩

def ScoreRet (l : List UInt8) (e : Ending) : Prop := e = .returned (.tuple #[.float .f64 ((RqF.scoreP l).getD 0), .int .i64 (errI (RqF.scoreP l).isSome)])
set_option maxRecDepth 100000 in
set_option maxHeartbeats 1000000 in
theorem pscore_any (s : ByteArray) (w : World) (hs : s.size ≤ 281474976710656) (ht : TabsP w) :
    Calls Tryz.prog 104 #[.string s] w fun e w' => ScoreRet s.data.toList e ∧ Below w.heap.size w w' := by
  have HT := Lib.hid ht; clear ht
  cases hn : (s.toList == [110, 97, 110])
  · have HS : Hid (RqF.scoreP s.data.toList = RqF.parseP s.data.toList) := by
      show _ = _
      unfold RqF.scoreP
      rw [if_neg (by rw [← ByteArray.toList_eq]; exact beq_eq_false_iff_ne.1 hn)]
    obtain ⟨o, ho⟩ : ∃ o, o = RqF.parseP s.data.toList := ⟨_, rfl⟩
    have HO := Lib.hid ho
    clear ho
    go_enter Tryz.func104, Tryz.ntmps104
    go_wp2_with fail
    refine (parse_any s _ hs HT.out).mono ?_
    rintro e w1 ⟨he, hbl⟩
    unfold ParseRet at he
    rw [← HO.out] at he
    cases o with
    | none =>
      obtain rfl : e = .returned (.tuple #[.float .f64 0, .int .i64 3]) := by rw [he]; rfl
      clear he
      go_wp2_with fail
      go_ret2
      refine ⟨?_, hbl⟩
      unfold ScoreRet; rw [HS.out, ← HO.out]; rfl
    | some b =>
      obtain rfl : e = .returned (.tuple #[.float .f64 b, .int .i64 0]) := by rw [he]; rfl
      clear he
      go_wp2_with fail
      go_ret2
      refine ⟨?_, hbl⟩
      unfold ScoreRet; rw [HS.out, ← HO.out]; rfl
  · have HS : Hid (RqF.scoreP s.data.toList = none ∧ RqF.parseP s.data.toList = some 9221120237041090561) := by
      have e : s.data.toList = [110, 97, 110] := by rw [← ByteArray.toList_eq]; exact beq_iff_eq.1 hn
      show _ ∧ _
      rw [e]; exact ⟨rfl, rfl⟩
    go_enter Tryz.func104, Tryz.ntmps104
    go_wp2_with fail
    refine (parse_any s _ hs HT.out).mono ?_
    rintro e w1 ⟨he, hbl⟩
    unfold ParseRet at he
    rw [HS.out.2] at he
    obtain rfl : e = .returned (.tuple #[.float .f64 9221120237041090561, .int .i64 0]) := by rw [he]; rfl
    clear he
    go_wp2_with fail
    go_ret2
    refine ⟨?_, hbl⟩
    unfold ScoreRet; rw [HS.out.1]; rfl

/-- What bound hands back. -/
def boundT (l : List UInt8) : List UInt8 := if l = [42] then [] else l
def boundOk (l : List UInt8) : Bool := if l = [42] then true else RqF.isWord l
def BoundRet (l : List UInt8) (e : Ending) : Prop := e = .returned (.tuple #[.string ⟨(boundT l).toArray⟩, .int .i64 (errI (boundOk l))])
set_option maxRecDepth 100000 in
theorem pbound_any (s : ByteArray) (w : World) (hs : s.size ≤ 281474976710656) :
    Calls Tryz.prog 101 #[.string s] w fun e w' => BoundRet s.data.toList e ∧ w = w' := by
  cases hn : (s.toList == [42])
  · have HS : Hid (s.data.toList ≠ [42]) := by rw [← ByteArray.toList_eq]; exact beq_eq_false_iff_ne.1 hn
    go_enter Tryz.func101, Tryz.ntmps101
    go_wp2_with fail
    refine (pword_any s _ (by omega)).mono ?_
    rintro e w1 ⟨rfl, rfl⟩
    go_wp2_with fail
    refine (failed_any _ _).mono ?_
    rintro e w1 ⟨rfl, rfl⟩
    go_wp2_with fail
    go_ret2
    refine ⟨?_, rfl⟩
    unfold BoundRet boundT boundOk
    rw [if_neg HS.out, if_neg HS.out]; rfl
  · have HS : Hid (s.data.toList = [42]) := by
      show _ = _
      rw [← ByteArray.toList_eq]; exact beq_iff_eq.1 hn
    go_enter Tryz.func101, Tryz.ntmps101
    go_wp2_with fail
    go_ret2
    refine ⟨?_, rfl⟩
    unfold BoundRet boundT boundOk
    rw [if_pos HS.out, if_pos HS.out]; rfl
end Go.Proofs.YtbhgdpchehkchaaGreatDoor
