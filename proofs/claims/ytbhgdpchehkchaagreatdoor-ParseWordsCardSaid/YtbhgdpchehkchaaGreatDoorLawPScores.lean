/- The walk of ParseScores. Conditions: the library's tables and its two errors are as they are laid. -/
import Derived.Test.YtbhgdpchehkchaaGreatDoorAwake18
namespace RqF
open Ieee

theorem inW_dig {c : UInt8} (h : isDig c = true) : inW c = true := by
  unfold isDig at h; unfold inW; simp only [decide_eq_true_eq] at h ⊢; omega
theorem inW_hex {c : UInt8} (h : isHex c = true) : inW c = true := by
  unfold isHex at h; unfold inW; simp only [decide_eq_true_eq] at h ⊢; omega
theorem all_imp {p q : UInt8 → Bool} (h : ∀ c, p c = true → q c = true) {l : List UInt8} (hl : l.all p = true) : l.all q = true := by
  rw [List.all_eq_true] at hl ⊢
  exact fun c hc => h c (hl c hc)
theorem dec_dig (v : Nat) : (Go.Lib.decDigits v).all isDig = true := by
  rw [Go.Lib.decDigits_eq, List.all_eq_true]
  intro c hc
  rw [List.mem_map] at hc
  obtain ⟨t, _, rfl⟩ := hc
  unfold Go.Lib.dg
  exact (dig_nat _ (Nat.mod_lt _ (by decide))).2
theorem textF_inW (b : Nat) : (textF b).all inW = true := by
  unfold textF
  split
  · decide
  split
  · decide
  split
  · decide
  split
  · rename_i v hv
    have h := all_imp @inW_dig (dec_dig v)
    split
    · rw [List.all_cons, h]; rfl
    · exact h
  · rw [List.all_cons, List.all_cons, all_imp @inW_hex (hexLow_all b 16)]; rfl
theorem plain_of_inW {l : List UInt8} (h : l.all inW = true) : ∀ c ∈ l, c ≠ 32 := by
  intro c hc e
  have := List.all_eq_true.1 h c hc
  rw [e] at this; exact absurd this (by decide)
theorem scoreP_textF {b : Nat} (hb : b < 2 * sgn) : scoreP (textF b) = if nan b then none else some b := by
  unfold scoreP
  by_cases h : nan b = true
  · rw [if_pos h, if_pos (by unfold textF; rw [if_pos h])]
  · rw [if_neg h, if_neg, parseP_textF hb, if_neg h]
    intro e
    have h1 := parseP_textF hb
    rw [e, if_neg h] at h1
    have h2 : parseP [110, 97, 110] = some 9221120237041090561 := rfl
    rw [h2] at h1
    injection h1 with h1
    exact h (by rw [← h1]; decide)
theorem textF_len30 (b : Nat) : (textF b).length ≤ 30 := by
  unfold textF
  split
  · simp
  split
  · simp
  split
  · simp
  split
  · rename_i v hv
    have := dec_len (wholeF_some hv).2.2
    split
    · simp; omega
    · omega
  · simp [hexLow_length]
/-- A line of a name and words. -/
theorem words_two {a b : List UInt8} (ha : ∀ c ∈ a, c ≠ 32) (hb : ∀ c ∈ b, c ≠ 32) : wordsOf (a ++ 32 :: b) = [a, b] := by
  rw [wordsOf_app _ _ ha, wordsOf_plain _ hb]
theorem words_three {a b c : List UInt8} (ha : ∀ x ∈ a, x ≠ 32) (hb : ∀ x ∈ b, x ≠ 32) (hc : ∀ x ∈ c, x ≠ 32) : wordsOf (a ++ 32 :: (b ++ 32 :: c)) = [a, b, c] := by
  rw [wordsOf_app _ _ ha, words_two hb hc]
theorem lineP_of {l : List UInt8} {k : Nat} {ws : List (List UInt8)} (hw : wordsOf l = nameOf k :: ws) (h1 : 1 ≤ k) (h2 : k ≤ 22) (hn : ws.length = (partsOf k).length) :
    lineP l = match readAll (partsOf k) ws { Cmd.nil with kind := k } with
      | none => (Cmd.nil, 3)
      | some c => if k = 1 ∧ 1024 < c.n then ({ Cmd.nil with kind := k, n := c.n }, 5) else (c, 0) := by
  rw [lineP_at h1 h2 (by unfold fits; rw [hw]; simp [hn])]
  unfold afterP
  rw [hw]; rfl
def spreadLine (a b : Nat) : List UInt8 := [83, 80, 82, 69, 65, 68, 32] ++ textF a ++ [32] ++ textF b
theorem spread_line {a b : Nat} (ha : a < 2 * sgn) (hb : b < 2 * sgn) : lineP (spreadLine a b) = if nan a || nan b then (Cmd.nil, 3) else ({ Cmd.nil with kind := 11, a := a, b := b }, 0) := by
  have e : spreadLine a b = [83, 80, 82, 69, 65, 68] ++ 32 :: (textF a ++ 32 :: textF b) := by simp [spreadLine]
  have hw : wordsOf (spreadLine a b) = nameOf 11 :: [textF a, textF b] := by rw [e]; exact words_three (by decide) (plain_of_inW (textF_inW a)) (plain_of_inW (textF_inW b))
  rw [lineP_of hw (by decide) (by decide) rfl]
  show (match ((scoreP (textF a)).map fun x => ({ ({ Cmd.nil with kind := 11 } : Cmd) with a := x } : Cmd)).bind (readAll [6] [textF b]) with
      | none => (Cmd.nil, 3)
      | some c => if 11 = 1 ∧ 1024 < c.n then ({ Cmd.nil with kind := 11, n := c.n }, 5) else (c, 0)) = _
  rw [scoreP_textF ha]
  by_cases h1 : nan a = true
  · rw [if_pos h1, h1]; rfl
  · rw [if_neg h1, Bool.eq_false_iff.2 h1]
    show (match ((scoreP (textF b)).map fun x => ({ ({ Cmd.nil with kind := 11, a := a } : Cmd) with b := x } : Cmd)).bind (readAll [] []) with
      | none => (Cmd.nil, 3)
      | some c => if 11 = 1 ∧ 1024 < c.n then ({ Cmd.nil with kind := 11, n := c.n }, 5) else (c, 0)) = _
    rw [scoreP_textF hb]
    by_cases h2 : nan b = true
    · rw [if_pos h2, h2]; rfl
    · rw [if_neg h2, Bool.eq_false_iff.2 h2]; rfl
end RqF

namespace Go.Proofs.YtbhgdpchehkchaaGreatDoor
open Go.RowKit
set_option maxRecDepth 100000 in
set_option maxHeartbeats 2000000 in
theorem parseScores_any (a b : Nat) (w : World) (ht : TabsM w) (ha : a < 2 * RqF.sgn) (hb : b < 2 * RqF.sgn) :
    Calls Tryz.prog 7 #[.int .u64 a, .int .u64 b] w fun e w' => e = .returned (.bool true) ∧ Below w.heap.size w w' := by
  have HT := Lib.hid ht; clear ht
  have HA := Lib.hid ha; clear ha
  have HB := Lib.hid hb; clear hb
  have HL := Lib.hid (RqF.spread_line HA.out HB.out)
  have HS : Hid ((RqF.spreadLine a b).length < 4294967281) := by
    have h1 := RqF.textF_len30 a
    have h2 := RqF.textF_len30 b
    show _ < _
    unfold RqF.spreadLine
    simp only [List.length_append, List.length_cons, List.length_nil]
    omega
  have hla := RqF.textF_len30 a
  have hlb := RqF.textF_len30 b
  have str : ∀ (s : ByteArray), s = ({ data := #[83, 80, 82, 69, 65, 68, 32] } ++ { data := (RqF.textF a).toArray } ++ { data := #[32] } ++ { data := (RqF.textF b).toArray }) → s.data.toList = RqF.spreadLine a b := by
    intro s hs
    rw [hs]
    simp [RqF.spreadLine]
  have STR := Lib.hid str; clear str
  have siz : ∀ (s : ByteArray), s.data.toList = RqF.spreadLine a b → s.size < 4294967281 := by
    intro s hs
    rw [Lib.size_eq, hs]; exact HS.out
  have SIZ := Lib.hid siz; clear siz
  cases hna : RqF.nan a
  · cases hnb : RqF.nan b
    · have hne1 : (FloatKind.f64.format.order a a != some .eq) = false := (RqF.order_self _).trans hna
      have hne2 : (FloatKind.f64.format.order b b != some .eq) = false := (RqF.order_self _).trans hnb
      have HLN : Hid (RqF.lineP (RqF.spreadLine a b) = (({ RqF.Cmd.nil with kind := 11, a := a, b := b } : RqF.Cmd), 0)) := by
        show _ = _
        rw [HL.out, hna, hnb]; rfl
      clear hna hnb
      go_enter Tryz.func7, Tryz.ntmps7
      go_wp2_with fail
      refine (r3text_any a _ HA.out).mono ?_
      rintro e w1 ⟨rfl, rfl⟩
      go_wp2_with fail
      refine (r3text_any b _ HB.out).mono ?_
      rintro e w1 ⟨rfl, rfl⟩
      go_wp2_with fail
      refine (line_of _ _ _ ((congrArg RqF.lineP (STR.out _ rfl)).trans HLN.out) _ HT.out (SIZ.out _ (STR.out _ rfl))).mono ?_
      rintro e w1 ⟨rfl, hb1⟩
      have hb2 := hb1.alloc hb1.size (.cells (cmdCells { RqF.Cmd.nil with kind := 11, a := a, b := b }) 30)
      have hc := cmd_at (heap_alloc_new w1 (.cells (cmdCells { RqF.Cmd.nil with kind := 11, a := a, b := b }) 30))
      have HB1 := Lib.hid hb2; clear hb1 hb2 hc
      unfold cmdCells
      go_wp2_with fail
      refine (awake18_any _ (HT.out.below HB1.out)).mono ?_
      rintro e w2 ⟨rfl, hb2⟩
      go_wp2_with fail
      go_ret
      exact ⟨rfl, below_trans HB1.out hb2⟩
    · have hne1 : (FloatKind.f64.format.order a a != some .eq) = false := (RqF.order_self _).trans hna
      have hne2 : (FloatKind.f64.format.order b b != some .eq) = true := (RqF.order_self _).trans hnb
      have HLN : Hid (RqF.lineP (RqF.spreadLine a b) = (RqF.Cmd.nil, 3)) := by
        show _ = _
        rw [HL.out, hna, hnb]; rfl
      clear hna hnb
      go_enter Tryz.func7, Tryz.ntmps7
      go_wp2_with fail
      refine (r3text_any a _ HA.out).mono ?_
      rintro e w1 ⟨rfl, rfl⟩
      go_wp2_with fail
      refine (r3text_any b _ HB.out).mono ?_
      rintro e w1 ⟨rfl, rfl⟩
      go_wp2_with fail
      refine (line_of _ _ _ ((congrArg RqF.lineP (STR.out _ rfl)).trans HLN.out) _ HT.out (SIZ.out _ (STR.out _ rfl))).mono ?_
      rintro e w1 ⟨rfl, hb1⟩
      have hb2 := hb1.alloc hb1.size (.cells (cmdCells RqF.Cmd.nil) 30)
      have HB1 := Lib.hid hb2; clear hb1 hb2
      unfold cmdCells
      go_wp2_with fail
      refine (awake18_any _ (HT.out.below HB1.out)).mono ?_
      rintro e w2 ⟨rfl, hb2⟩
      go_wp2_with fail
      go_ret
      exact ⟨rfl, below_trans HB1.out hb2⟩
  · have hne1 : (FloatKind.f64.format.order a a != some .eq) = true := (RqF.order_self _).trans hna
    have HLN : Hid (RqF.lineP (RqF.spreadLine a b) = (RqF.Cmd.nil, 3)) := by
      show _ = _
      rw [HL.out, hna]; rfl
    clear hna
    go_enter Tryz.func7, Tryz.ntmps7
    go_wp2_with fail
    refine (r3text_any a _ HA.out).mono ?_
    rintro e w1 ⟨rfl, rfl⟩
    go_wp2_with fail
    refine (r3text_any b _ HB.out).mono ?_
    rintro e w1 ⟨rfl, rfl⟩
    go_wp2_with fail
    refine (line_of _ _ _ ((congrArg RqF.lineP (STR.out _ rfl)).trans HLN.out) _ HT.out (SIZ.out _ (STR.out _ rfl))).mono ?_
    rintro e w1 ⟨rfl, hb1⟩
    have hb2 := hb1.alloc hb1.size (.cells (cmdCells RqF.Cmd.nil) 30)
    have HB1 := Lib.hid hb2; clear hb1 hb2
    unfold cmdCells
    go_wp2_with fail
    refine (awake18_any _ (HT.out.below HB1.out)).mono ?_
    rintro e w2 ⟨rfl, hb2⟩
    go_wp2_with fail
    go_ret
    exact ⟨rfl, below_trans HB1.out hb2⟩
end Go.Proofs.YtbhgdpchehkchaaGreatDoor
