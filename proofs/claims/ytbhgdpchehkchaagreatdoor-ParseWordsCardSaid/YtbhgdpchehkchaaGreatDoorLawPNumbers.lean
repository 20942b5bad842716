/- The walk of ParseNumbers. Conditions: the library's tables and its two errors are as they are laid. -/
import Derived.Test.YtbhgdpchehkchaaGreatDoorLawPScores
namespace RqF
open Ieee

theorem itoa_dec (n : Nat) : Go.Lib.itoa (n : Int) = Go.Lib.decDigits n := itoa_nat n
theorem numP_dec (n : Nat) : numP (Go.Lib.decDigits n) = if n < 1000000000 then some n else none := by
  by_cases h : n < 1000000000
  · rw [if_pos h]
    have h1 : Go.Lib.nDigits n ≤ 9 := by
      have key : ∀ k v : Nat, v < 10 ^ (k + 1) → Go.Lib.nDigits v ≤ k + 1 := by
        intro k
        induction k with
        | zero => intro v hv; unfold Go.Lib.nDigits; rw [dif_pos (by omega)]; omega
        | succ k ih =>
          intro v hv
          unfold Go.Lib.nDigits
          split
          · omega
          · have := ih (v / 10) (by rw [Nat.pow_succ] at hv; omega)
            omega
      exact key 8 n (by omega)
    have h2 : (Go.Lib.decDigits n).length ≤ 9 := by rw [Go.Lib.decDigits_length]; exact h1
    have h3 := numP_of (n := (n : Int)) h2 (by omega) (itoa_dec n)
    rw [h3]; simp
  · rw [if_neg h]
    cases hn : numP (Go.Lib.decDigits n) with
    | none => rfl
    | some v =>
      obtain ⟨h1, h2, h3, h4⟩ := numP_some hn
      rw [itoa_dec] at h3
      have h5 := congrArg (valA 0) h3
      rw [(dec_val v).1, (dec_val n).1] at h5
      omega
/-- With noughts ahead there is no number. -/
theorem numP_nought (c : UInt8) (l : List UInt8) : numP (48 :: c :: l) = none := by
  cases hn : numP (48 :: c :: l) with
  | none => rfl
  | some v =>
    obtain ⟨h1, h2, h3, h4⟩ := numP_some hn
    rw [itoa_dec] at h3
    have := (dec_head v).2
    rw [h3] at this
    rcases this with h | h
    · exact absurd rfl h
    · simp at h
/-- A number's digits with noughts ahead. -/
def noughts (j m : Nat) : List UInt8 := List.replicate j 48 ++ Go.Lib.decDigits m
theorem noughts_inW (j m : Nat) : (noughts j m).all inW = true := by
  unfold noughts
  rw [List.all_append, all_imp @inW_dig (dec_dig m), Bool.and_true, List.all_eq_true]
  intro c hc
  rw [List.eq_of_mem_replicate hc]; decide
theorem numP_noughts {j m : Nat} : numP (noughts j m) = if j = 0 ∧ m < 1000000000 then some m else none := by
  cases j with
  | zero =>
    show numP ([] ++ Go.Lib.decDigits m) = _
    rw [List.nil_append, numP_dec]
    by_cases h : m < 1000000000
    · rw [if_pos h, if_pos ⟨rfl, h⟩]
    · rw [if_neg h, if_neg (fun x => h x.2)]
  | succ j =>
    rw [if_neg (fun x => by omega)]
    show numP (48 :: noughts j m) = none
    cases hn : noughts j m with
    | nil =>
      unfold noughts at hn
      have := (List.append_eq_nil_iff.1 hn).2
      exact absurd this (dec_head m).1
    | cons c l => exact numP_nought c l
def putLine (t : List UInt8) : List UInt8 := [80, 85, 84, 32, 107, 101, 121, 32] ++ t
def dropLine (t : List UInt8) : List UInt8 := [68, 82, 79, 80, 32] ++ t
theorem put_line {t : List UInt8} (h : t.all inW = true) : lineP (putLine t) = match numP t with
    | none => (Cmd.nil, 3)
    | some v => if 1024 < v then ({ Cmd.nil with kind := 1, n := (v : Int) }, 5) else ({ Cmd.nil with kind := 1, key := [107, 101, 121], n := (v : Int) }, 0) := by
  have hw : wordsOf (putLine t) = nameOf 1 :: [[107, 101, 121], t] := by
    show wordsOf ([80, 85, 84] ++ 32 :: ([107, 101, 121] ++ 32 :: t)) = _
    exact words_three (by decide) (by decide) (plain_of_inW h)
  rw [lineP_of hw (by decide) (by decide) rfl]
  show (match ((numP t).map fun n => ({ ({ Cmd.nil with kind := 1, key := [107, 101, 121] } : Cmd) with n := (n : Int) } : Cmd)).bind (readAll [] []) with
      | none => (Cmd.nil, 3)
      | some c => if 1 = 1 ∧ 1024 < c.n then ({ Cmd.nil with kind := 1, n := c.n }, 5) else (c, 0)) = _
  cases numP t with
  | none => rfl
  | some v =>
    show (if 1 = 1 ∧ 1024 < (v : Int) then _ else _) = _
    by_cases hv : 1024 < v
    · rw [if_pos ⟨rfl, by omega⟩]; show _ = (if 1024 < v then _ else _); rw [if_pos hv]
    · rw [if_neg (fun x => hv (by omega))]; show _ = (if 1024 < v then _ else _); rw [if_neg hv]
theorem drop_line {t : List UInt8} (h : t.all inW = true) : lineP (dropLine t) = match numP t with
    | none => (Cmd.nil, 3)
    | some v => ({ Cmd.nil with kind := 13, id := (v : Int) }, 0) := by
  have hw : wordsOf (dropLine t) = nameOf 13 :: [t] := by
    show wordsOf ([68, 82, 79, 80] ++ 32 :: t) = _
    exact words_two (by decide) (plain_of_inW h)
  rw [lineP_of hw (by decide) (by decide) rfl]
  show (match ((numP t).map fun n => ({ ({ Cmd.nil with kind := 13 } : Cmd) with id := (n : Int) } : Cmd)).bind (readAll [] []) with
      | none => (Cmd.nil, 3)
      | some c => if 13 = 1 ∧ 1024 < c.n then ({ Cmd.nil with kind := 13, n := c.n }, 5) else (c, 0)) = _
  cases numP t <;> rfl
end RqF
namespace Go.Proofs.YtbhgdpchehkchaaGreatDoor
open Go.RowKit

theorem ba_append (a b : ByteArray) : (a ++ b).data.toList = a.data.toList ++ b.data.toList := by simp
theorem and_lowm (i : Int) (k : Nat) (hk : k < 4294967296) : ∃ m : Nat, m ≤ k ∧ bits BinOp.and IntKind.i64 i k = (m : Int) := by
  have hle : (BitVec.ofInt 64 i &&& BitVec.ofInt 64 k).toNat ≤ k := by
    rw [BitVec.toNat_and]
    refine Nat.le_trans Nat.and_le_right ?_
    simp
    omega
  refine ⟨(BitVec.ofInt 64 i &&& BitVec.ofInt 64 k).toNat, hle, ?_⟩
  show IntKind.i64.wrap ((BitVec.ofInt 64 i &&& BitVec.ofInt 64 k).toNat : Int) = _
  generalize (BitVec.ofInt 64 i &&& BitVec.ofInt 64 k).toNat = m at *
  simp [IntKind.wrap, IntKind.bits, IntKind.signed]
  omega

set_option maxRecDepth 100000 in
set_option maxHeartbeats 2000000 in
theorem parseNumbers_any (a b : Int) (w : World) (ht : TabsM w) (_ : -9223372036854775808 ≤ a) (_ : a ≤ 9223372036854775807) (_ : -9223372036854775808 ≤ b) (_ : b ≤ 9223372036854775807) :
    Calls Tryz.prog 4 #[.int .i64 a, .int .i64 b] w fun e w' => e = .returned (.bool true) ∧ Below w.heap.size w w' := by
  have HT := Lib.hid ht; clear ht
  obtain ⟨m, hm, em⟩ := and_lowm a 4294967295 (by decide)
  obtain ⟨j, hj, ej⟩ := and_lowm b 3 (by decide)
  replace em : bits BinOp.and IntKind.i64 a 4294967295 = (m : Int) := em
  replace ej : bits BinOp.and IntKind.i64 b 3 = (j : Int) := ej
  have hld : (Lib.decDigits m).length ≤ 20 := by rw [Lib.decDigits_length]; exact Lib.nDigits_le20 m (by omega)
  go_enter Tryz.func4, Tryz.ntmps4
  go_wp2_with fail
  clear em ej
  refine (digits_any m _ (by unfold RqF.sgn; omega)).mono ?_
  rintro e w1 ⟨rfl, rfl⟩
  go_wp2_with fail
  go_loop [5, 6] (fun s i => ∃ (k : Nat) (t : ByteArray), s = .string t ∧ i = .int .i64 k ∧ k ≤ j ∧ t.size ≤ 30 ∧ Hid (t.data.toList = RqF.noughts k m)) (fun _ i => j - (intOf i).toNat)
  case atStart => exact ⟨0, _, rfl, rfl, Nat.zero_le _, by show (Lib.decDigits m).toArray.size ≤ 30; rw [List.size_toArray]; omega, by show _ = _; simp [RqF.noughts]⟩
  case round =>
    obtain ⟨k, t, rfl, rfl, hk, htl, HTL⟩ := hrel
    by_cases hlt : k < j
    · go_wp2_with fail
      refine ⟨⟨k + 1, _, rfl, by go_num, by omega, ?_, ?_⟩, by simp [intOf]; omega⟩
      · have h1 := congrArg List.length HTL.out
        rw [← Lib.size_eq] at h1
        unfold RqF.noughts at h1
        simp only [List.length_append, List.length_replicate] at h1
        rw [Lib.size_eq, ba_append]
        simp only [List.length_append]
        rw [← Lib.size_eq t]
        show 1 + t.size ≤ 30
        omega
      · show _ = _
        rw [ba_append, HTL.out]
        rfl
    · obtain rfl : k = j := by omega
      have HPUT : Hid (∀ s : ByteArray, s = { data := #[80, 85, 84, 32, 107, 101, 121, 32] } ++ t → s.data.toList = RqF.putLine (RqF.noughts k m)) := by
        intro s hs; rw [hs, ba_append, HTL.out]; rfl
      have HDROP : Hid (∀ s : ByteArray, s = { data := #[68, 82, 79, 80, 32] } ++ t → s.data.toList = RqF.dropLine (RqF.noughts k m)) := by
        intro s hs; rw [hs, ba_append, HTL.out]; rfl
      have HP := Lib.hid (RqF.put_line (RqF.noughts_inW k m))
      have HD := Lib.hid (RqF.drop_line (RqF.noughts_inW k m))
      have HN := Lib.hid (RqF.numP_noughts (j := k) (m := m))
      have HSP : Hid (({ data := #[80, 85, 84, 32, 107, 101, 121, 32] } ++ t : ByteArray).size < 4294967281) := by
        show _ < _
        rw [Lib.size_eq, ba_append, List.length_append, ← Lib.size_eq, ← Lib.size_eq]
        have : ({ data := #[80, 85, 84, 32, 107, 101, 121, 32] } : ByteArray).size = 8 := rfl
        omega
      have HSD : Hid (({ data := #[68, 82, 79, 80, 32] } ++ t : ByteArray).size < 4294967281) := by
        show _ < _
        rw [Lib.size_eq, ba_append, List.length_append, ← Lib.size_eq, ← Lib.size_eq]
        have : ({ data := #[68, 82, 79, 80, 32] } : ByteArray).size = 5 := rfl
        omega
      by_cases hg : k = 0 ∧ m < 1000000000
      · have HLD : Hid (RqF.lineP (RqF.dropLine (RqF.noughts k m)) = (⟨13, [], [], [], 0, 0, 0, (m : Int)⟩, 0)) := by
          show _ = _; rw [HD.out, HN.out, if_pos hg]; rfl
        have h0 : ((k : Int) == 0) = true := beq_iff_eq.2 (by omega)
        have h1 : decide ((m : Int) < 1000000000) = true := decide_eq_true (by omega)
        have hge : ¬ ((k : Int) < (k : Int)) := by omega
        clear hlt
        by_cases hb : 1024 < m
        · have HLP : Hid (RqF.lineP (RqF.putLine (RqF.noughts k m)) = (⟨1, [], [], [], 0, 0, (m : Int), 0⟩, 5)) := by
            show _ = _
            rw [HP.out, HN.out, if_pos hg]
            show (if 1024 < m then _ else _) = _
            rw [if_pos hb]; rfl
          have hbig : decide (1024 < (m : Int)) = true := decide_eq_true (by omega)
          clear hg hb
          have HM := Lib.hid hm; clear hm
          go_wp2_with fail
          refine (line_as _ #[.int .i64 1, .string ⟨#[]⟩, .string ⟨#[]⟩, .string ⟨#[]⟩, .float .f64 0, .float .f64 0, .int .i64 (m : Int), .int .i64 0] 5 ((congrArg RqF.lineP (HPUT.out _ rfl)).trans HLP.out) rfl rfl _ HT.out HSP.out).mono ?_
          rintro e w1 ⟨rfl, hb1⟩
          have hb2 := hb1.alloc hb1.size (.cells #[.int .i64 1, .string ⟨#[]⟩, .string ⟨#[]⟩, .string ⟨#[]⟩, .float .f64 0, .float .f64 0, .int .i64 (m : Int), .int .i64 0] 30)
          have HB1 := Lib.hid hb2
          have HBB := Lib.hid hb1; clear hb1 hb2
          go_wp2_with fail
          refine (line_as _ #[.int .i64 13, .string ⟨#[]⟩, .string ⟨#[]⟩, .string ⟨#[]⟩, .float .f64 0, .float .f64 0, .int .i64 0, .int .i64 (m : Int)] 0 ((congrArg RqF.lineP (HDROP.out _ rfl)).trans HLD.out) rfl rfl _ (HT.out.below HB1.out) HSD.out).mono ?_
          rintro e w2 ⟨rfl, hb2⟩
          obtain ⟨hc0, hc1, -, -, -, -, hc6, -, hlt⟩ := cmd_at (c := ⟨1, [], [], [], 0, 0, (m : Int), 0⟩) (below_blk hb2 (heap_alloc_new w1 _))
          have hb3 := below_trans HB1.out hb2
          have hb4 := hb3.alloc hb3.size (.cells #[.int .i64 13, .string ⟨#[]⟩, .string ⟨#[]⟩, .string ⟨#[]⟩, .float .f64 0, .float .f64 0, .int .i64 0, .int .i64 (m : Int)] 30)
          have HB3 := Lib.hid hb4; clear hb2 hb3 hb4
          go_wp2_with fail
          refine (awake18_any _ (HT.out.below HB3.out)).mono ?_
          rintro e w3 ⟨rfl, hb5⟩
          go_wp2_with fail
          go_ret
          exact ⟨rfl, below_trans HB3.out hb5⟩
        · have HLP : Hid (RqF.lineP (RqF.putLine (RqF.noughts k m)) = (⟨1, [107, 101, 121], [], [], 0, 0, (m : Int), 0⟩, 0)) := by
            show _ = _
            rw [HP.out, HN.out, if_pos hg]
            show (if 1024 < m then _ else _) = _
            rw [if_neg hb]; rfl
          have hbig : decide (1024 < (m : Int)) = false := decide_eq_false (by omega)
          clear hg hb
          have HM := Lib.hid hm; clear hm
          go_wp2_with fail
          refine (line_as _ #[.int .i64 1, .string ⟨#[107, 101, 121]⟩, .string ⟨#[]⟩, .string ⟨#[]⟩, .float .f64 0, .float .f64 0, .int .i64 (m : Int), .int .i64 0] 0 ((congrArg RqF.lineP (HPUT.out _ rfl)).trans HLP.out) rfl rfl _ HT.out HSP.out).mono ?_
          rintro e w1 ⟨rfl, hb1⟩
          have hb2 := hb1.alloc hb1.size (.cells #[.int .i64 1, .string ⟨#[107, 101, 121]⟩, .string ⟨#[]⟩, .string ⟨#[]⟩, .float .f64 0, .float .f64 0, .int .i64 (m : Int), .int .i64 0] 30)
          have HB1 := Lib.hid hb2
          have HBB := Lib.hid hb1; clear hb1 hb2
          go_wp2_with fail
          refine (line_as _ #[.int .i64 13, .string ⟨#[]⟩, .string ⟨#[]⟩, .string ⟨#[]⟩, .float .f64 0, .float .f64 0, .int .i64 0, .int .i64 (m : Int)] 0 ((congrArg RqF.lineP (HDROP.out _ rfl)).trans HLD.out) rfl rfl _ (HT.out.below HB1.out) HSD.out).mono ?_
          rintro e w2 ⟨rfl, hb2⟩
          obtain ⟨hc0, hc1, -, -, -, -, hc6, -, hlt⟩ := cmd_at (c := ⟨1, [107, 101, 121], [], [], 0, 0, (m : Int), 0⟩) (below_blk hb2 (heap_alloc_new w1 _))
          have hb3 := below_trans HB1.out hb2
          have hb4 := hb3.alloc hb3.size (.cells #[.int .i64 13, .string ⟨#[]⟩, .string ⟨#[]⟩, .string ⟨#[]⟩, .float .f64 0, .float .f64 0, .int .i64 0, .int .i64 (m : Int)] 30)
          have HB3 := Lib.hid hb4; clear hb2 hb3 hb4
          go_wp2_with fail
          refine (awake18_any _ (HT.out.below HB3.out)).mono ?_
          rintro e w3 ⟨rfl, hb5⟩
          go_wp2_with fail
          go_ret
          exact ⟨rfl, below_trans HB3.out hb5⟩
      · have HLP : Hid (RqF.lineP (RqF.putLine (RqF.noughts k m)) = (RqF.Cmd.nil, 3)) := by
          show _ = _; rw [HP.out, HN.out, if_neg hg]
        have HLD : Hid (RqF.lineP (RqF.dropLine (RqF.noughts k m)) = (RqF.Cmd.nil, 3)) := by
          show _ = _; rw [HD.out, HN.out, if_neg hg]
        have hg2 : (((k : Int) == 0) = true ∧ decide ((m : Int) < 1000000000) = false) ∨ ((k : Int) == 0) = false := by
          by_cases h0 : k = 0
          · left; exact ⟨beq_iff_eq.2 (by omega), decide_eq_false (by omega)⟩
          · right; exact beq_eq_false_iff_ne.2 (by omega)
        have HM := Lib.hid hm; clear hm
        have hge : ¬ ((k : Int) < (k : Int)) := by omega
        clear hg hlt
        rcases hg2 with ⟨h0, h1⟩ | h0
        all_goals
          go_wp2_with fail
          refine (line_none _ ((congrArg RqF.lineP (HPUT.out _ rfl)).trans HLP.out) _ HT.out HSP.out).mono ?_
          rintro e w1 ⟨rfl, hb1⟩
          have hb2 := hb1.alloc hb1.size (.cells (cmdCells RqF.Cmd.nil) 30)
          have HB1 := Lib.hid hb2
          have HBB := Lib.hid hb1; clear hb1 hb2
          go_wp2_with fail
          refine (line_none _ ((congrArg RqF.lineP (HDROP.out _ rfl)).trans HLD.out) _ (HT.out.below HB1.out) HSD.out).mono ?_
          rintro e w2 ⟨rfl, hb2⟩
          obtain ⟨hc0, -, -, -, -, -, -, -, hlt⟩ := cmd_at (c := ⟨0, [], [], [], 0, 0, 0, 0⟩) (below_blk hb2 (heap_alloc_new w1 _))
          have hb3 := below_trans HB1.out hb2
          have hb4 := hb3.alloc hb3.size (.cells (cmdCells RqF.Cmd.nil) 30)
          have HB3 := Lib.hid hb4; clear hb2 hb3 hb4
          go_wp2_with fail
          refine (awake18_any _ (HT.out.below HB3.out)).mono ?_
          rintro e w3 ⟨rfl, hb5⟩
          go_wp2_with fail
          go_ret
          exact ⟨rfl, below_trans HB3.out hb5⟩
end Go.Proofs.YtbhgdpchehkchaaGreatDoor
