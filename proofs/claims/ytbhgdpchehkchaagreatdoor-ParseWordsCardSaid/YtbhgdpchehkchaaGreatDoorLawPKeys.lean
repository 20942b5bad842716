/- The walk of ParseKeys. Conditions: the library's tables and its two errors are as they are laid; the texts are of at most 2^47 bytes. -/
import Derived.Test.YtbhgdpchehkchaaGreatDoorLawPNumbers
namespace RqF
open Ieee

theorem wordsOf_cat (a r : List UInt8) : wordsOf (a ++ 32 :: r) = wordsOf a ++ wordsOf r := by
  induction a with
  | nil =>
    show wordsOf (32 :: r) = [] :: wordsOf r
    conv => lhs; rw [wordsOf, if_pos rfl]
  | cons c a ih =>
    show wordsOf (c :: (a ++ 32 :: r)) = _
    by_cases hc : c = 32
    · rw [wordsOf, if_pos hc, ih]
      conv => rhs; rw [wordsOf, if_pos hc]
      rfl
    · rw [wordsOf, if_neg hc, ih]
      conv => rhs; rw [wordsOf, if_neg hc]
      cases h : wordsOf a with
      | nil => exact absurd h (wordsOf_ne a)
      | cons w ws => rfl
theorem wordsOf_pos (a : List UInt8) : 0 < (wordsOf a).length := List.length_pos_iff.2 (wordsOf_ne a)
theorem wordsOf_one {a : List UInt8} (h : (wordsOf a).length = 1) : wordsOf a = [a] := by
  rcases split_first a with hno | ⟨b, r, rfl, hb⟩
  · exact wordsOf_plain a hno
  · rw [wordsOf_app _ _ hb] at h
    have := wordsOf_pos r
    rw [List.length_cons] at h
    exfalso; omega
theorem isWord_plain {a : List UInt8} (h : isWord a = true) : ∀ c ∈ a, c ≠ 32 := by
  unfold isWord at h
  rw [Bool.and_eq_true] at h
  exact plain_of_inW h.1
theorem lineP_bad {l : List UInt8} {k : Nat} {ws : List (List UInt8)} (hw : wordsOf l = nameOf k :: ws) (h1 : 1 ≤ k) (h2 : k ≤ 22) (hn : ws.length ≠ (partsOf k).length) : lineP l = (Cmd.nil, 3) := by
  refine lineP_none fun j j1 j2 => ?_
  unfold fits
  rw [decide_eq_false_iff_not]
  rintro ⟨h3, h4⟩
  rw [hw] at h3 h4
  have : j = k := name_inj ⟨j1, j2⟩ ⟨h1, h2⟩ (Option.some.inj h3).symm
  subst this
  simp at h4
  exact hn h4
def getLine (t : List UInt8) : List UInt8 := [71, 69, 84, 32] ++ t
theorem get_line (t : List UInt8) : lineP (getLine t) = if isWord t = true then (⟨2, t, [], [], 0, 0, 0, 0⟩, 0) else (Cmd.nil, 3) := by
  have hw : wordsOf (getLine t) = nameOf 2 :: wordsOf t := by
    show wordsOf ([71, 69, 84] ++ 32 :: t) = _
    exact wordsOf_app _ _ (by decide)
  by_cases h1 : (wordsOf t).length = 1
  · rw [wordsOf_one h1] at hw
    rw [lineP_of hw (by decide) (by decide) rfl]
    show (match (if isWord t = true then some ({ ({ Cmd.nil with kind := 2 } : Cmd) with key := t } : Cmd) else none).bind (readAll [] []) with
      | none => (Cmd.nil, 3)
      | some c => if 2 = 1 ∧ 1024 < c.n then ({ Cmd.nil with kind := 2, n := c.n }, 5) else (c, 0)) = _
    by_cases h : isWord t = true
    · rw [if_pos h, if_pos h]; rfl
    · rw [if_neg h, if_neg h]; rfl
  · rw [lineP_bad hw (by decide) (by decide) (by exact h1), if_neg]
    intro h
    exact h1 (by rw [wordsOf_plain _ (isWord_plain h)]; rfl)
def scanLine (k hi : List UInt8) : List UInt8 := [83, 67, 65, 78, 32] ++ k ++ [32] ++ hi ++ [32, 53]
def starT (t : List UInt8) : List UInt8 := if t = [42] then [] else t
theorem star_word : isWord [42] = true := by decide
theorem scan_line (k hi : List UInt8) : lineP (scanLine k hi) = if isWord k = true ∧ isWord hi = true then (⟨4, [], starT k, starT hi, 0, 0, 5, 0⟩, 0) else (Cmd.nil, 3) := by
  have hw : wordsOf (scanLine k hi) = nameOf 4 :: (wordsOf k ++ (wordsOf hi ++ [[53]])) := by
    have e : scanLine k hi = [83, 67, 65, 78] ++ 32 :: (k ++ 32 :: (hi ++ 32 :: [53])) := by simp [scanLine]
    rw [e, wordsOf_app _ _ (by decide), wordsOf_cat, wordsOf_cat]; rfl
  by_cases h1 : (wordsOf k).length = 1 ∧ (wordsOf hi).length = 1
  · rw [wordsOf_one h1.1, wordsOf_one h1.2] at hw
    rw [lineP_of (ws := [k, hi, [53]]) hw (by decide) (by decide) rfl]
    have step : ∀ (p : Nat) (f : Cmd → List UInt8 → Cmd) (c : Cmd) (t : List UInt8), (∀ c t, readP p c t = if t = [42] then some (f c []) else if isWord t = true then some (f c t) else none) → readP p c t = if isWord t = true then some (f c (starT t)) else none := by
      intro p f c t h
      rw [h]
      by_cases hs : t = [42]
      · rw [if_pos hs, hs, if_pos star_word]; rfl
      · rw [if_neg hs]
        unfold starT; rw [if_neg hs]
    have s1 := step 1 (fun c t => { c with lo := t }) { Cmd.nil with kind := 4 } k (fun c t => rfl)
    have s2 := step 2 (fun c t => { c with hi := t }) { { Cmd.nil with kind := 4 } with lo := starT k } hi (fun c t => rfl)
    show (match (readP 1 { Cmd.nil with kind := 4 } k).bind (readAll [2, 3] [hi, [53]]) with
      | none => (Cmd.nil, 3)
      | some c => if 4 = 1 ∧ 1024 < c.n then ({ Cmd.nil with kind := 4, n := c.n }, 5) else (c, 0)) = _
    rw [s1]
    by_cases hk : isWord k = true
    · rw [if_pos hk]
      show (match (readP 2 { { Cmd.nil with kind := 4 } with lo := starT k } hi).bind (readAll [3] [[53]]) with
        | none => (Cmd.nil, 3)
        | some c => if 4 = 1 ∧ 1024 < c.n then ({ Cmd.nil with kind := 4, n := c.n }, 5) else (c, 0)) = _
      rw [s2]
      by_cases hh : isWord hi = true
      · rw [if_pos hh, if_pos ⟨hk, hh⟩]
        have h5 : numP [53] = some 5 := by kernel_rfl
        show (match ((numP [53]).map fun n => ({ ({ ({ ({ Cmd.nil with kind := 4 } : Cmd) with lo := starT k } : Cmd) with hi := starT hi } : Cmd) with n := (n : Int) } : Cmd)).bind (readAll [] []) with
          | none => (Cmd.nil, 3)
          | some c => if 4 = 1 ∧ 1024 < c.n then ({ Cmd.nil with kind := 4, n := c.n }, 5) else (c, 0)) = _
        rw [h5]; rfl
      · rw [if_neg hh, if_neg (fun h => hh h.2)]; rfl
    · rw [if_neg hk, if_neg (fun h => hk h.1)]; rfl
  · have hl : (wordsOf k ++ (wordsOf hi ++ [[53]])).length ≠ (partsOf 4).length := by
      have p1 := wordsOf_pos k
      have p2 := wordsOf_pos hi
      simp only [List.length_append, List.length_cons, List.length_nil]
      show _ ≠ 3
      omega
    rw [lineP_bad hw (by decide) (by decide) hl, if_neg]
    rintro ⟨h2, h3⟩
    exact h1 ⟨by rw [wordsOf_plain _ (isWord_plain h2)]; rfl, by rw [wordsOf_plain _ (isWord_plain h3)]; rfl⟩
end RqF
namespace Go.Proofs.YtbhgdpchehkchaaGreatDoor
open Go.RowKit

set_option maxRecDepth 100000 in
set_option maxHeartbeats 1000000 in
theorem good_any (s : ByteArray) (w : World) (hs : s.size ≤ 9223372036854775807) :
    Calls Tryz.prog 17 #[.string s] w fun e w' => e = .returned (.bool (RqF.isWord s.data.toList)) ∧ w = w' := by
  obtain ⟨l, hl⟩ : ∃ l, l = s.data.toList := ⟨_, rfl⟩
  have hsz : l.length = s.size := by rw [hl, ← Lib.size_eq]
  have HGE : Hid (∀ k (h : k < s.size), (s[k]'h).toNat = (l[k]'(by omega)).toNat) := by intro k h; subst hl; rfl
  rw [← hl]
  have HL := Lib.hid hl; clear hl
  go_enter Tryz.func17, Tryz.ntmps17
  go_wp2
  go_loop [3] (fun i => ∃ k : Nat, i = .int .i64 k ∧ k ≤ s.size ∧ Hid ((l.take k).all RqF.inW = true)) (fun i => s.size - (intOf i).toNat)
  case atStart => exact ⟨0, rfl, by omega, rfl⟩
  case round =>
    obtain ⟨k, rfl, hk, HV⟩ := hrel
    by_cases hlt : k < s.size
    · have hb := HGE.out k hlt
      by_cases hdig : 33 ≤ (s[k]'hlt).toNat ∧ (s[k]'hlt).toNat ≤ 126
      · have HN := Lib.hid (inW_fresh (l := l) (k := k) (by omega) (by rw [← hb]; exact hdig) HV.out)
        obtain ⟨hd1, hd2⟩ := hdig
        clear hb
        go_wp2_with fail
        exact ⟨⟨k + 1, by go_num, by omega, HN⟩, by simp [intOf]; omega⟩
      · have HF := Lib.hid (inW_bad (l := l) (k := k) (by omega) (by rw [← hb]; exact hdig))
        clear hb
        rcases (show (s[k]'hlt).toNat < 33 ∨ 126 < (s[k]'hlt).toNat from by omega) with hd | hd
        all_goals
          clear hdig
          go_wp2_with fail
          go_ret
          exact ⟨by rw [HF.out]; rfl, rfl⟩
    · obtain rfl : k = s.size := by omega
      have hall := HV.out
      rw [List.take_of_length_le (by omega)] at hall
      have HF := Lib.hid (isWord_all hall)
      have HSZ := Lib.hid hsz
      clear hall HGE hsz
      by_cases h1 : 1 ≤ s.size
      · by_cases h2 : s.size ≤ 64
        all_goals
          go_wp2_with fail
          go_ret
          refine ⟨?_, rfl⟩
          rw [HF.out, HSZ.out]
          refine congrArg (fun b => Ending.returned (.bool b)) ?_
          simp [h1, h2] <;> omega
      · go_wp2_with fail
        go_ret
        refine ⟨?_, rfl⟩
        rw [HF.out, HSZ.out]
        refine congrArg (fun b => Ending.returned (.bool b)) ?_
        simp [h1] <;> omega

set_option maxRecDepth 100000 in
set_option maxHeartbeats 4000000 in
theorem parseKeys_any (k hi : ByteArray) (w : World) (ht : TabsM w) (hk : k.size ≤ 281474976710656) (hh : hi.size ≤ 281474976710656) :
    Calls Tryz.prog 5 #[.string k, .string hi] w fun e w' => e = .returned (.bool true) ∧ Below w.heap.size w w' := by
  have HT := Lib.hid ht; clear ht
  by_cases hlen : 500 < k.size + hi.size
  · go_enter Tryz.func5, Tryz.ntmps5
    go_wp2_with fail
    refine (awake18_any _ HT.out).mono ?_
    rintro e w3 ⟨rfl, hb5⟩
    go_wp2_with fail
    go_ret
    exact ⟨rfl, hb5⟩
  · have HG : Hid (∀ s : ByteArray, s = { data := #[71, 69, 84, 32] } ++ k → s.data.toList = RqF.getLine k.data.toList) := by
      intro s hs; rw [hs, ba_append]; rfl
    have HS : Hid (∀ s : ByteArray, s = { data := #[83, 67, 65, 78, 32] } ++ k ++ { data := #[32] } ++ hi ++ { data := #[32, 53] } → s.data.toList = RqF.scanLine k.data.toList hi.data.toList) := by
      intro s hs; rw [hs, ba_append, ba_append, ba_append, ba_append]; rfl
    have HGS : Hid (({ data := #[71, 69, 84, 32] } ++ k : ByteArray).size < 4294967281) := by
      show _ < _
      rw [Lib.size_eq, ba_append, List.length_append, ← Lib.size_eq, ← Lib.size_eq]
      have : ({ data := #[71, 69, 84, 32] } : ByteArray).size = 4 := rfl
      omega
    have HSS : Hid (({ data := #[83, 67, 65, 78, 32] } ++ k ++ { data := #[32] } ++ hi ++ { data := #[32, 53] } : ByteArray).size < 4294967281) := by
      show _ < _
      rw [Lib.size_eq, ba_append, ba_append, ba_append, ba_append]
      simp only [List.length_append]
      rw [← Lib.size_eq k, ← Lib.size_eq hi]
      show 5 + k.size + 1 + hi.size + 2 < _
      omega
    have HLG := Lib.hid (RqF.get_line k.data.toList)
    have HLS := Lib.hid (RqF.scan_line k.data.toList hi.data.toList)
    cases hgk : RqF.isWord k.data.toList
    · have HL1 : Hid (RqF.lineP (RqF.getLine k.data.toList) = (RqF.Cmd.nil, 3)) := by
        show _ = _; rw [HLG.out, hgk]; rfl
      have HL2 : Hid (RqF.lineP (RqF.scanLine k.data.toList hi.data.toList) = (RqF.Cmd.nil, 3)) := by
        show _ = _; rw [HLS.out, hgk]; simp
      go_enter Tryz.func5, Tryz.ntmps5
      go_wp2_with fail
      refine (line_none _ ((congrArg RqF.lineP (HG.out _ rfl)).trans HL1.out) _ HT.out HGS.out).mono ?_
      rintro e w1 ⟨rfl, hb1⟩
      have hb2 := hb1.alloc hb1.size (.cells #[.int .i64 0, .string ⟨#[]⟩, .string ⟨#[]⟩, .string ⟨#[]⟩, .float .f64 0, .float .f64 0, .int .i64 0, .int .i64 0] 30)
      have HB1 := Lib.hid hb2; clear hb1 hb2
      go_wp2_with fail
      refine (line_none _ ((congrArg RqF.lineP (HS.out _ rfl)).trans HL2.out) _ (HT.out.below HB1.out) HSS.out).mono ?_
      rintro e w2 ⟨rfl, hb2⟩
      have hb3 := below_trans HB1.out hb2
      have hb4 := hb3.alloc hb3.size (.cells #[.int .i64 0, .string ⟨#[]⟩, .string ⟨#[]⟩, .string ⟨#[]⟩, .float .f64 0, .float .f64 0, .int .i64 0, .int .i64 0] 30)
      have HB3 := Lib.hid hb4; clear hb2 hb3 hb4
      go_wp2_with fail
      refine (good_any k _ (by omega)).mono ?_
      rintro e w3 ⟨rfl, rfl⟩
      go_wp2_with fail
      refine (good_any k _ (by omega)).mono ?_
      rintro e w3 ⟨rfl, rfl⟩
      go_wp2_with fail
      refine (awake18_any _ (HT.out.below HB3.out)).mono ?_
      rintro e w3 ⟨rfl, hb5⟩
      go_wp2_with fail
      go_ret
      exact ⟨rfl, below_trans HB3.out hb5⟩
    · have HL1 : Hid (RqF.lineP (RqF.getLine k.data.toList) = (⟨2, k.data.toList, [], [], 0, 0, 0, 0⟩, 0)) := by
        show _ = _; rw [HLG.out, hgk]; rfl
      cases hgh : RqF.isWord hi.data.toList
      · have HL2 : Hid (RqF.lineP (RqF.scanLine k.data.toList hi.data.toList) = (RqF.Cmd.nil, 3)) := by
          show _ = _; rw [HLS.out, hgh]; simp
        go_enter Tryz.func5, Tryz.ntmps5
        go_wp2_with fail
        refine (line_as _ #[.int .i64 2, .string k, .string ⟨#[]⟩, .string ⟨#[]⟩, .float .f64 0, .float .f64 0, .int .i64 0, .int .i64 0] 0 ((congrArg RqF.lineP (HG.out _ rfl)).trans HL1.out) rfl rfl _ HT.out HGS.out).mono ?_
        rintro e w1 ⟨rfl, hb1⟩
        have hb2 := hb1.alloc hb1.size (.cells #[.int .i64 2, .string k, .string ⟨#[]⟩, .string ⟨#[]⟩, .float .f64 0, .float .f64 0, .int .i64 0, .int .i64 0] 30)
        have HB1 := Lib.hid hb2; clear hb1 hb2
        go_wp2_with fail
        refine (line_none _ ((congrArg RqF.lineP (HS.out _ rfl)).trans HL2.out) _ (HT.out.below HB1.out) HSS.out).mono ?_
        rintro e w2 ⟨rfl, hb2⟩
        obtain ⟨hc0, hc1, -, -, -, -, hc6, -, hlt⟩ := cmd_at (c := ⟨2, k.data.toList, [], [], 0, 0, 0, 0⟩) (below_blk hb2 (heap_alloc_new w1 _))
        replace hc1 : w2.cell? ⟨w1.heap.size, 1, none⟩ = some (.string k) := hc1
        have hb3 := below_trans HB1.out hb2
        have hb4 := hb3.alloc hb3.size (.cells #[.int .i64 0, .string ⟨#[]⟩, .string ⟨#[]⟩, .string ⟨#[]⟩, .float .f64 0, .float .f64 0, .int .i64 0, .int .i64 0] 30)
        have HB3 := Lib.hid hb4; clear hb2 hb3 hb4
        go_wp2_with fail
        refine (good_any k _ (by omega)).mono ?_
        rintro e w3 ⟨rfl, rfl⟩
        go_wp2_with fail
        refine (good_any k _ (by omega)).mono ?_
        rintro e w3 ⟨rfl, rfl⟩
        go_wp2_with fail
        refine (good_any hi _ (by omega)).mono ?_
        rintro e w3 ⟨rfl, rfl⟩
        go_wp2_with fail
        refine (awake18_any _ (HT.out.below HB3.out)).mono ?_
        rintro e w3 ⟨rfl, hb5⟩
        go_wp2_with fail
        go_ret
        exact ⟨rfl, below_trans HB3.out hb5⟩
      · have HL2' : Hid (RqF.lineP (RqF.scanLine k.data.toList hi.data.toList) = (⟨4, [], RqF.starT k.data.toList, RqF.starT hi.data.toList, 0, 0, 5, 0⟩, 0)) := by
          show _ = _; rw [HLS.out, if_pos ⟨hgk, hgh⟩]
        cases hks : (k.toList == [42])
        · cases hhs : (hi.toList == [42])
          · have e_k : RqF.starT k.data.toList = k.data.toList := by unfold RqF.starT; rw [if_neg (by rw [← ByteArray.toList_eq]; exact beq_eq_false_iff_ne.1 hks)]
            have e_hi : RqF.starT hi.data.toList = hi.data.toList := by unfold RqF.starT; rw [if_neg (by rw [← ByteArray.toList_eq]; exact beq_eq_false_iff_ne.1 hhs)]
            have HL2 : Hid (RqF.lineP (RqF.scanLine k.data.toList hi.data.toList) = (⟨4, [], k.data.toList, hi.data.toList, 0, 0, 5, 0⟩, 0)) := by show _ = _; rw [HL2'.out, e_k, e_hi]
            clear e_k e_hi
            go_enter Tryz.func5, Tryz.ntmps5
            go_wp2_with fail
            refine (line_as _ #[.int .i64 2, .string k, .string ⟨#[]⟩, .string ⟨#[]⟩, .float .f64 0, .float .f64 0, .int .i64 0, .int .i64 0] 0 ((congrArg RqF.lineP (HG.out _ rfl)).trans HL1.out) rfl rfl _ HT.out HGS.out).mono ?_
            rintro e w1 ⟨rfl, hb1⟩
            have hb2 := hb1.alloc hb1.size (.cells #[.int .i64 2, .string k, .string ⟨#[]⟩, .string ⟨#[]⟩, .float .f64 0, .float .f64 0, .int .i64 0, .int .i64 0] 30)
            have HB1 := Lib.hid hb2; clear hb1 hb2
            go_wp2_with fail
            refine (line_as _ #[.int .i64 4, .string ⟨#[]⟩, .string k, .string hi, .float .f64 0, .float .f64 0, .int .i64 5, .int .i64 0] 0 ((congrArg RqF.lineP (HS.out _ rfl)).trans HL2.out) rfl rfl _ (HT.out.below HB1.out) HSS.out).mono ?_
            rintro e w2 ⟨rfl, hb2⟩
            obtain ⟨hc0, hc1, -, -, -, -, hc6, -, hlt⟩ := cmd_at (c := ⟨2, k.data.toList, [], [], 0, 0, 0, 0⟩) (below_blk hb2 (heap_alloc_new w1 _))
            replace hc1 : w2.cell? ⟨w1.heap.size, 1, none⟩ = some (.string k) := hc1
            have hb3 := below_trans HB1.out hb2
            have hb4 := hb3.alloc hb3.size (.cells #[.int .i64 4, .string ⟨#[]⟩, .string k, .string hi, .float .f64 0, .float .f64 0, .int .i64 5, .int .i64 0] 30)
            have HB3 := Lib.hid hb4; clear hb2 hb3 hb4
            go_wp2_with fail
            refine (good_any k _ (by omega)).mono ?_
            rintro e w3 ⟨rfl, rfl⟩
            go_wp2_with fail
            refine (good_any k _ (by omega)).mono ?_
            rintro e w3 ⟨rfl, rfl⟩
            go_wp2_with fail
            refine (good_any hi _ (by omega)).mono ?_
            rintro e w3 ⟨rfl, rfl⟩
            go_wp2_with fail
            refine (awake18_any _ (HT.out.below HB3.out)).mono ?_
            rintro e w3 ⟨rfl, hb5⟩
            go_wp2_with fail
            go_ret
            exact ⟨rfl, below_trans HB3.out hb5⟩
          · have e_k : RqF.starT k.data.toList = k.data.toList := by unfold RqF.starT; rw [if_neg (by rw [← ByteArray.toList_eq]; exact beq_eq_false_iff_ne.1 hks)]
            have e_hi : RqF.starT hi.data.toList = [] := by unfold RqF.starT; rw [if_pos (by rw [← ByteArray.toList_eq]; exact beq_iff_eq.1 hhs)]
            have HL2 : Hid (RqF.lineP (RqF.scanLine k.data.toList hi.data.toList) = (⟨4, [], k.data.toList, [], 0, 0, 5, 0⟩, 0)) := by show _ = _; rw [HL2'.out, e_k, e_hi]
            clear e_k e_hi
            go_enter Tryz.func5, Tryz.ntmps5
            go_wp2_with fail
            refine (line_as _ #[.int .i64 2, .string k, .string ⟨#[]⟩, .string ⟨#[]⟩, .float .f64 0, .float .f64 0, .int .i64 0, .int .i64 0] 0 ((congrArg RqF.lineP (HG.out _ rfl)).trans HL1.out) rfl rfl _ HT.out HGS.out).mono ?_
            rintro e w1 ⟨rfl, hb1⟩
            have hb2 := hb1.alloc hb1.size (.cells #[.int .i64 2, .string k, .string ⟨#[]⟩, .string ⟨#[]⟩, .float .f64 0, .float .f64 0, .int .i64 0, .int .i64 0] 30)
            have HB1 := Lib.hid hb2; clear hb1 hb2
            go_wp2_with fail
            refine (line_as _ #[.int .i64 4, .string ⟨#[]⟩, .string k, .string ⟨#[]⟩, .float .f64 0, .float .f64 0, .int .i64 5, .int .i64 0] 0 ((congrArg RqF.lineP (HS.out _ rfl)).trans HL2.out) rfl rfl _ (HT.out.below HB1.out) HSS.out).mono ?_
            rintro e w2 ⟨rfl, hb2⟩
            obtain ⟨hc0, hc1, -, -, -, -, hc6, -, hlt⟩ := cmd_at (c := ⟨2, k.data.toList, [], [], 0, 0, 0, 0⟩) (below_blk hb2 (heap_alloc_new w1 _))
            replace hc1 : w2.cell? ⟨w1.heap.size, 1, none⟩ = some (.string k) := hc1
            have hb3 := below_trans HB1.out hb2
            have hb4 := hb3.alloc hb3.size (.cells #[.int .i64 4, .string ⟨#[]⟩, .string k, .string ⟨#[]⟩, .float .f64 0, .float .f64 0, .int .i64 5, .int .i64 0] 30)
            have HB3 := Lib.hid hb4; clear hb2 hb3 hb4
            go_wp2_with fail
            refine (good_any k _ (by omega)).mono ?_
            rintro e w3 ⟨rfl, rfl⟩
            go_wp2_with fail
            refine (good_any k _ (by omega)).mono ?_
            rintro e w3 ⟨rfl, rfl⟩
            go_wp2_with fail
            refine (good_any hi _ (by omega)).mono ?_
            rintro e w3 ⟨rfl, rfl⟩
            go_wp2_with fail
            refine (awake18_any _ (HT.out.below HB3.out)).mono ?_
            rintro e w3 ⟨rfl, hb5⟩
            go_wp2_with fail
            go_ret
            exact ⟨rfl, below_trans HB3.out hb5⟩
        · cases hhs : (hi.toList == [42])
          · have e_k : RqF.starT k.data.toList = [] := by unfold RqF.starT; rw [if_pos (by rw [← ByteArray.toList_eq]; exact beq_iff_eq.1 hks)]
            have e_hi : RqF.starT hi.data.toList = hi.data.toList := by unfold RqF.starT; rw [if_neg (by rw [← ByteArray.toList_eq]; exact beq_eq_false_iff_ne.1 hhs)]
            have HL2 : Hid (RqF.lineP (RqF.scanLine k.data.toList hi.data.toList) = (⟨4, [], [], hi.data.toList, 0, 0, 5, 0⟩, 0)) := by show _ = _; rw [HL2'.out, e_k, e_hi]
            clear e_k e_hi
            go_enter Tryz.func5, Tryz.ntmps5
            go_wp2_with fail
            refine (line_as _ #[.int .i64 2, .string k, .string ⟨#[]⟩, .string ⟨#[]⟩, .float .f64 0, .float .f64 0, .int .i64 0, .int .i64 0] 0 ((congrArg RqF.lineP (HG.out _ rfl)).trans HL1.out) rfl rfl _ HT.out HGS.out).mono ?_
            rintro e w1 ⟨rfl, hb1⟩
            have hb2 := hb1.alloc hb1.size (.cells #[.int .i64 2, .string k, .string ⟨#[]⟩, .string ⟨#[]⟩, .float .f64 0, .float .f64 0, .int .i64 0, .int .i64 0] 30)
            have HB1 := Lib.hid hb2; clear hb1 hb2
            go_wp2_with fail
            refine (line_as _ #[.int .i64 4, .string ⟨#[]⟩, .string ⟨#[]⟩, .string hi, .float .f64 0, .float .f64 0, .int .i64 5, .int .i64 0] 0 ((congrArg RqF.lineP (HS.out _ rfl)).trans HL2.out) rfl rfl _ (HT.out.below HB1.out) HSS.out).mono ?_
            rintro e w2 ⟨rfl, hb2⟩
            obtain ⟨hc0, hc1, -, -, -, -, hc6, -, hlt⟩ := cmd_at (c := ⟨2, k.data.toList, [], [], 0, 0, 0, 0⟩) (below_blk hb2 (heap_alloc_new w1 _))
            replace hc1 : w2.cell? ⟨w1.heap.size, 1, none⟩ = some (.string k) := hc1
            have hb3 := below_trans HB1.out hb2
            have hb4 := hb3.alloc hb3.size (.cells #[.int .i64 4, .string ⟨#[]⟩, .string ⟨#[]⟩, .string hi, .float .f64 0, .float .f64 0, .int .i64 5, .int .i64 0] 30)
            have HB3 := Lib.hid hb4; clear hb2 hb3 hb4
            go_wp2_with fail
            refine (good_any k _ (by omega)).mono ?_
            rintro e w3 ⟨rfl, rfl⟩
            go_wp2_with fail
            refine (good_any k _ (by omega)).mono ?_
            rintro e w3 ⟨rfl, rfl⟩
            go_wp2_with fail
            refine (good_any hi _ (by omega)).mono ?_
            rintro e w3 ⟨rfl, rfl⟩
            go_wp2_with fail
            refine (awake18_any _ (HT.out.below HB3.out)).mono ?_
            rintro e w3 ⟨rfl, hb5⟩
            go_wp2_with fail
            go_ret
            exact ⟨rfl, below_trans HB3.out hb5⟩
          · have e_k : RqF.starT k.data.toList = [] := by unfold RqF.starT; rw [if_pos (by rw [← ByteArray.toList_eq]; exact beq_iff_eq.1 hks)]
            have e_hi : RqF.starT hi.data.toList = [] := by unfold RqF.starT; rw [if_pos (by rw [← ByteArray.toList_eq]; exact beq_iff_eq.1 hhs)]
            have HL2 : Hid (RqF.lineP (RqF.scanLine k.data.toList hi.data.toList) = (⟨4, [], [], [], 0, 0, 5, 0⟩, 0)) := by show _ = _; rw [HL2'.out, e_k, e_hi]
            clear e_k e_hi
            go_enter Tryz.func5, Tryz.ntmps5
            go_wp2_with fail
            refine (line_as _ #[.int .i64 2, .string k, .string ⟨#[]⟩, .string ⟨#[]⟩, .float .f64 0, .float .f64 0, .int .i64 0, .int .i64 0] 0 ((congrArg RqF.lineP (HG.out _ rfl)).trans HL1.out) rfl rfl _ HT.out HGS.out).mono ?_
            rintro e w1 ⟨rfl, hb1⟩
            have hb2 := hb1.alloc hb1.size (.cells #[.int .i64 2, .string k, .string ⟨#[]⟩, .string ⟨#[]⟩, .float .f64 0, .float .f64 0, .int .i64 0, .int .i64 0] 30)
            have HB1 := Lib.hid hb2; clear hb1 hb2
            go_wp2_with fail
            refine (line_as _ #[.int .i64 4, .string ⟨#[]⟩, .string ⟨#[]⟩, .string ⟨#[]⟩, .float .f64 0, .float .f64 0, .int .i64 5, .int .i64 0] 0 ((congrArg RqF.lineP (HS.out _ rfl)).trans HL2.out) rfl rfl _ (HT.out.below HB1.out) HSS.out).mono ?_
            rintro e w2 ⟨rfl, hb2⟩
            obtain ⟨hc0, hc1, -, -, -, -, hc6, -, hlt⟩ := cmd_at (c := ⟨2, k.data.toList, [], [], 0, 0, 0, 0⟩) (below_blk hb2 (heap_alloc_new w1 _))
            replace hc1 : w2.cell? ⟨w1.heap.size, 1, none⟩ = some (.string k) := hc1
            have hb3 := below_trans HB1.out hb2
            have hb4 := hb3.alloc hb3.size (.cells #[.int .i64 4, .string ⟨#[]⟩, .string ⟨#[]⟩, .string ⟨#[]⟩, .float .f64 0, .float .f64 0, .int .i64 5, .int .i64 0] 30)
            have HB3 := Lib.hid hb4; clear hb2 hb3 hb4
            go_wp2_with fail
            refine (good_any k _ (by omega)).mono ?_
            rintro e w3 ⟨rfl, rfl⟩
            go_wp2_with fail
            refine (good_any k _ (by omega)).mono ?_
            rintro e w3 ⟨rfl, rfl⟩
            go_wp2_with fail
            refine (good_any hi _ (by omega)).mono ?_
            rintro e w3 ⟨rfl, rfl⟩
            go_wp2_with fail
            refine (awake18_any _ (HT.out.below HB3.out)).mono ?_
            rintro e w3 ⟨rfl, hb5⟩
            go_wp2_with fail
            go_ret
            exact ⟨rfl, below_trans HB3.out hb5⟩
end Go.Proofs.YtbhgdpchehkchaaGreatDoor
