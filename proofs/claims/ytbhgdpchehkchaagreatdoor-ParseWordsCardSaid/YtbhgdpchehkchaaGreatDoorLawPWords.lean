/- The walk of ParseWords. Conditions: the library's tables and its two errors are as they are laid. -/
import Derived.Test.YtbhgdpchehkchaaGreatDoorLawPWordsA
import Derived.Test.YtbhgdpchehkchaaGreatDoorRef18L
import Derived.Laws.IdiomStrings
import Derived.Deep.RegionWith
namespace Go.Proofs.YtbhgdpchehkchaaGreatDoor
open Go.RowKit

/-- Words that a slice holds. -/
def HoldsWs (w : World) (g : Nat) (ws : List (List UInt8)) : Prop := ∀ (j : Nat) (h : j < ws.length), w.cell? ⟨g, j, none⟩ = some (.string ⟨(ws[j]).toArray⟩)
theorem holds_own {w : World} {B n : Nat} {v : Value} {ws : List (List UInt8)} (h : w.ownsRow B 9 1 v n (ws.map fun x => Value.string ⟨x.toArray⟩)) (hn : n = ws.length) (h0 : 0 < n) :
    ∃ g cap, v = .slice (some ⟨g, 0, none⟩) n cap ∧ HoldsWs w g ws ∧ n ≤ cap ∧ g < w.heap.size ∧ B ≤ g := by
  rcases h.2 with ⟨-, h1⟩ | ⟨g, cap, cur, h1, hB, h2, h3, -, -, h4⟩
  · omega
  · refine ⟨g, cap, h1, fun j hj => blk_cell h2 ?_, h3, lt_of_block h2, hB⟩
    have h5 := congrArg (fun x => x[j]?) h4
    simp only [Nat.mul_one] at h5
    rw [List.getElem?_take, if_pos (by omega), Array.getElem?_toList] at h5
    rw [h5, List.getElem?_map, List.getElem?_eq_getElem hj]; rfl
theorem HoldsWs.below {w w' : World} {g : Nat} {ws : List (List UInt8)} (h : HoldsWs w g ws) (hb : Below w.heap.size w w') : HoldsWs w' g ws := fun j hj => cell_later hb (h j hj)

set_option maxRecDepth 100000 in
set_option maxHeartbeats 8000000 in
theorem parseWords_any (a b : Int) (w : World) (ht : TabsM w) (_ : -9223372036854775808 ≤ a) (_ : a ≤ 9223372036854775807) (_ : -9223372036854775808 ≤ b) (_ : b ≤ 9223372036854775807) :
    Calls Tryz.prog 3 #[.int .i64 a, .int .i64 b] w fun e w' => e = .returned (.bool true) ∧ Below w.heap.size w w' := by
  have HT := Lib.hid ht; clear ht
  obtain ⟨m, hm, em⟩ := and_lowm a 65535 (by decide)
  obtain ⟨how, hhow, eh⟩ := and_lowm b 7 (by decide)
  replace em : bits BinOp.and IntKind.i64 a 65535 = (m : Int) := em
  replace eh : bits BinOp.and IntKind.i64 b 7 = (how : Int) := eh
  obtain ⟨k, hk⟩ : ∃ k, k = m % 22 + 1 := ⟨_, rfl⟩
  have hk1 : 1 ≤ k := by omega
  have hk2 : k ≤ 22 := by omega
  obtain ⟨i0, hi0, hz0, hz1, hz2⟩ := info_parts infoStr
  have hz0' := Lib.hid hz0; have hi0' := Lib.hid hi0; have hz1' := Lib.hid hz1; have hz2' := Lib.hid hz2
  clear hz0 hi0 hz1 hz2
  go_enter Tryz.func3, Tryz.ntmps3
  go_wp2_with fail
  refine (forms18_any _).mono ?_
  rintro e w1 ⟨rfl, rfl⟩
  have HF : Hid ((w.alloc (.cells refCells 25)).heap[w.heap.size]? = some (.cells refCells 25 (0, 0))) := heap_alloc_new w (.cells refCells 25)
  have HB1 : Hid (Below w.heap.size w (w.alloc (.cells refCells 25))) := (Below.refl _ _).alloc (Nat.le_refl _) _
  revert HF
  generalize hbf : w.heap.size = bf
  have HBF := Lib.hid hbf; clear hbf
  intro HF
  revert HF HB1
  generalize w.alloc _ = W1
  intro HB1 HF
  have hmk : (m : Int) % 22 + 1 = (k : Int) := by omega
  have HMK := Lib.hid hmk
  obtain ⟨hr1, hr2⟩ := refCells_get k (by omega)
  have hcn := blk_cell HF.out hr1
  have hct := blk_cell HF.out hr2
  obtain ⟨nm, hnm⟩ : ∃ nm : ByteArray, nm = ⟨(RqF.nameOf k).toArray⟩ := ⟨_, rfl⟩
  rw [← hnm] at hcn
  obtain ⟨tk, htk⟩ : ∃ tk : ByteArray, tk = ⟨((RqF.partsOf k).map letter).toArray⟩ := ⟨_, rfl⟩
  rw [← htk] at hct
  obtain ⟨np, hnp⟩ : ∃ np, np = (RqF.partsOf k).length := ⟨_, rfl⟩
  have htn : tk.size = np := by rw [htk, hnp]; show ((RqF.partsOf k).map letter).toArray.size = _; simp
  have hnp4 : np ≤ 4 := by rw [hnp]; exact RqF.parts_le k
  have HNM := Lib.hid hnm; clear hnm
  have HTK := Lib.hid htk; clear htk
  have HNP := Lib.hid hnp; clear hnp
  have hbl := lt_of_block HF.out
  clear hr1 hr2 hmk
  go_upto_region 3 with (fail)
  rw [HMK.out]
  clear em hk hm
  go_wp2_with fail
  obtain ⟨B, hB⟩ : ∃ B, B = W1.heap.size := ⟨_, rfl⟩
  have hown0 : (W1.alloc (.cells #[.string nm] 9)).ownsRow B 9 1 (.slice (some ⟨W1.heap.size, 0, none⟩) 1 1) 1 (strs (RqF.nameOf k :: List.replicate 0 [55])) := by
    rw [hB]
    refine ⟨rfl, .inr ⟨W1.heap.size, 1, #[.string nm], rfl, Nat.le_refl _, heap_alloc_new _ _, Nat.le_refl _, by unfold maxLen; decide, rfl, ?_⟩⟩
    rw [HNM.out]; rfl
  have hbl0 : Below W1.heap.size W1 (W1.alloc (.cells #[.string nm] 9)) := (Below.refl _ _).alloc (Nat.le_refl _) _
  have HO0 := Lib.hid hown0
  have HBL0 := Lib.hid hbl0
  have HBE := Lib.hid hB
  clear hown0 hbl0 hB
  revert HO0 HBL0
  generalize W1.alloc _ = W2
  intro HO0 HBL0
  go_loopw [7, 8] (fun v i wr => ∃ j : Nat, i = .int .i64 j ∧ j ≤ np ∧ Hid (wr.ownsRow B 9 1 v (j + 1) (strs (RqF.nameOf k :: List.replicate j [55]))) ∧ Hid (Below W1.heap.size W1 wr)) (fun _ i _ => np - (intOf i).toNat)
  case atStart => exact ⟨0, rfl, Nat.zero_le _, HO0, HBL0⟩
  case round =>
    obtain ⟨j, rfl, hj, HO, HBL⟩ := hrel
    have hct2 : wr.cell? ⟨bf, k * 2 + 1, none⟩ = some (.string tk) := cell_later HBL.out hct
    by_cases hjn : j < np
    · go_wp2_with (at_builtin; refine wpList_append_own _ rfl (.tmp 36) (.tmp 37) 26 rfl B 9 i0 (.string ⟨#[]⟩) 1 16 Tryz.underlying26 hi0'.out hz0'.out hz1'.out hz2'.out rfl (by decide) _ (j + 1) (strs (RqF.nameOf k :: List.replicate j [55])) rfl (HO.out.alloc _) ⟨wr.heap.size, 0, none⟩ 1 1 [.string ⟨#[55]⟩] rfl rfl ?c1 ?c2 ?c3 ?c4 ?c5 ?_)
      case c1 =>
        intro j u hj
        cases j with
        | zero => injection hj with hj; subst hj; exact blk_cell (heap_alloc_new wr _) rfl
        | succ j => cases hj
      case c2 => intro u hu; rw [List.mem_singleton] at hu; subst hu; rfl
      case c3 => unfold maxLen; omega
      case c4 => omega
      case c5 => have h1 := HBL.out.size; have h2 := HBE.out; simp; omega
      intro v' w1 hown' hgrow _
      have hown2 : w1.ownsRow B 9 1 v' (j + 1 + 1) (strs (RqF.nameOf k :: List.replicate (j + 1) [55])) := by
        have e : strs (RqF.nameOf k :: List.replicate (j + 1) [55]) = strs (RqF.nameOf k :: List.replicate j [55]) ++ [.string ⟨#[55]⟩] := by
          rw [show RqF.nameOf k :: List.replicate (j + 1) [55] = (RqF.nameOf k :: List.replicate j [55]) ++ [[55]] by rw [List.replicate_succ']; rfl, strs_snoc]
        rw [e]; exact hown'
      have HO2 := Lib.hid hown2
      have HB2 : Hid (Below W1.heap.size W1 w1) := by
        have h1 := HBL.out.alloc HBL.out.size (.cells #[.string ⟨#[55]⟩] 9)
        refine h1.grown hgrow h1.size (fun q hq => ?_)
        have := HO.out.lt q hq
        rw [← HBE.out]; exact this.1
      clear hown' hgrow hown2
      go_wp2_with fail
      exact ⟨⟨j + 1, by go_num, by omega, HO2, HB2⟩, by simp [intOf]; omega⟩
    · obtain rfl : j = np := by omega
      obtain ⟨g, cap, rfl, hh, hcap, hgl, hgB⟩ := holds_own HO.out (by simp) (by omega)
      have HH : Hid (HoldsWs wr g (RqF.sevens k)) := by
        unfold RqF.sevens
        rw [← show j = (RqF.partsOf k).length from HNP.out]; exact hh
      have hsl : (RqF.sevens k).length = j + 1 := by unfold RqF.sevens; rw [HNP.out]; simp
      have HSL := Lib.hid hsl
      clear hh hsl
      go_wp2_with fail
      have HW : Hid (∀ x ∈ RqF.sevens k, x.length ≤ 100) := RqF.sevens_short k hk2
      have hgood := RqF.sevens_good ⟨k, by omega⟩ hk1
      obtain ⟨c0, hc0⟩ : ∃ c, c = (RqF.lineP (RqF.joinL [32] (RqF.sevens k))).1 := ⟨_, rfl⟩
      have HC0 : Hid (RqF.lineP (RqF.joinL [32] (RqF.sevens k)) = (c0, 0) ∧ c0.kind = k) := by
        refine ⟨?_, ?_⟩
        · rw [hc0, ← hgood.1]
        · rw [hc0]; exact hgood.2
      have HJL : Hid ((RqF.joinL [32] (RqF.sevens k)).length ≤ 600) := RqF.sevens_len k hk2
      clear hc0 hgood
      have HBA : Hid (Below w.heap.size w wr) := below_trans HB1.out HBL.out
      refine (join_any (RqF.sevens k) _ g cap (j + 1) _ HSL.out.symm (by omega) (by omega) (by decide) HW.out HH.out).mono ?_
      rintro e w1 ⟨rfl, rfl⟩
      go_wp2_with fail
      refine (line_as _ #[.int .i64 (k : Int), .string ⟨c0.key.toArray⟩, .string ⟨c0.lo.toArray⟩, .string ⟨c0.hi.toArray⟩, .float .f64 c0.a, .float .f64 c0.b, .int .i64 c0.n, .int .i64 c0.id] 0 (show RqF.lineP (RqF.joinL [32] (RqF.sevens k)) = _ from HC0.out.1) (by unfold cmdCells; rw [HC0.out.2]) rfl _ (HT.out.below HBA.out) (by have := HJL.out; show (RqF.joinL [32] (RqF.sevens k)).toArray.size < _; rw [List.size_toArray]; omega)).mono ?_
      rintro e w2 ⟨rfl, hb2⟩
      have HO2 := Lib.hid (HO.out.kept (grown_of_below hb2 none) (by simp [Value.ownBlock]))
      have hb3 := hb2.alloc hb2.size (.cells #[.int .i64 (k : Int), .string ⟨c0.key.toArray⟩, .string ⟨c0.lo.toArray⟩, .string ⟨c0.hi.toArray⟩, .float .f64 c0.a, .float .f64 c0.b, .int .i64 c0.n, .int .i64 c0.id] 30)
      have HB3 : Hid (Below wr.heap.size wr (w2.alloc (.cells #[.int .i64 (k : Int), .string ⟨c0.key.toArray⟩, .string ⟨c0.lo.toArray⟩, .string ⟨c0.hi.toArray⟩, .float .f64 c0.a, .float .f64 c0.b, .int .i64 c0.n, .int .i64 c0.id] 30))) := hb3
      have HB4 : Hid (Below w.heap.size w (w2.alloc (.cells #[.int .i64 (k : Int), .string ⟨c0.key.toArray⟩, .string ⟨c0.lo.toArray⟩, .string ⟨c0.hi.toArray⟩, .float .f64 c0.a, .float .f64 c0.b, .int .i64 c0.n, .int .i64 c0.id] 30))) := below_trans HBA.out hb3
      have HH4 : Hid (HoldsWs (w2.alloc (.cells #[.int .i64 (k : Int), .string ⟨c0.key.toArray⟩, .string ⟨c0.lo.toArray⟩, .string ⟨c0.hi.toArray⟩, .float .f64 c0.a, .float .f64 c0.b, .int .i64 c0.n, .int .i64 c0.id] 30)) g (RqF.sevens k)) := HH.out.below hb3
      clear hb2 hb3
      have hkk : ((k : Int) != (k : Int)) = false := by rw [bne_eq_false_iff_eq]
      go_upto_region 13 with (fail)
      revert HB3 HB4 HH4
      generalize w2.alloc _ = W4
      intro HB3 HB4 HH4
      have hcase : how = 0 ∨ how = 1 ∨ how = 2 ∨ how = 3 ∨ how = 4 ∨ how = 5 ∨ how = 6 ∨ how = 7 := by omega
      rcases hcase with hw | hw | hw | hw | hw | hw | hw | hw
      · have HHOW := Lib.hid hw
        have h0 : ((how : Int) == 0) = true := beq_iff_eq.2 (by omega)
        have h1 : ((how : Int) == 1) = false := beq_eq_false_iff_ne.2 (by omega)
        have h2 : ((how : Int) == 2) = false := beq_eq_false_iff_ne.2 (by omega)
        have h3 : ((how : Int) == 3) = false := beq_eq_false_iff_ne.2 (by omega)
        have h4 : ((how : Int) == 4) = false := beq_eq_false_iff_ne.2 (by omega)
        have h5 : ((how : Int) == 5) = false := beq_eq_false_iff_ne.2 (by omega)
        have h6 : ((how : Int) == 6) = false := beq_eq_false_iff_ne.2 (by omega)
        clear hw
        have HBAD : Hid (RqF.lineP (RqF.wordsLine k 0) = (RqF.Cmd.nil, 3)) := RqF.words_refused k 0 hk1 hk2 (by decide) (Or.inr (by decide))
        have HSIZ : Hid (∀ s : ByteArray, s.data.toList = RqF.wordsLine k 0 → s.size < 4294967281) := fun s hs => by rw [Lib.size_eq, hs]; have := RqF.wordsLine_len k 0 hk2 (by decide); omega
        have hsl : (strs (RqF.sevens k)).length = (j + 1) * 1 := by unfold strs; rw [List.length_map, HSL.out]; omega
        have HSS := Lib.hid hsl; clear hsl
        go_wp2_with (at_builtin; refine wpList_append_own _ rfl (.tmp 63) (.tmp 64) 26 rfl W4.heap.size 9 i0 (.string ⟨#[]⟩) 1 16 Tryz.underlying26 hi0'.out hz0'.out hz1'.out hz2'.out rfl (by decide) _ 0 [] rfl (World.ownsRow_made W4 #[] 0 (Nat.le_refl _) (by decide) rfl) ⟨g, 0, none⟩ (j + 1) cap (strs (RqF.sevens k)) rfl HSS.out ?d1 ?d2 ?d3 ?d4 ?d5 ?_)
        case d1 =>
          intro q u hq
          have hq2 : q < (RqF.sevens k).length := by
            have := (List.getElem?_eq_some_iff.1 hq).1
            unfold strs at this; rwa [List.length_map] at this
          have e : u = .string ⟨((RqF.sevens k)[q]).toArray⟩ := by
            unfold strs at hq
            rw [List.getElem?_map, List.getElem?_eq_getElem hq2] at hq
            injection hq with hq; exact hq.symm
          rw [e]
          have hadd : (⟨g, 0, none⟩ : Addr).add q = ⟨g, q, none⟩ := by unfold Addr.add; split <;> simp_all
          rw [hadd]
          exact cell_later ((Below.refl _ _).alloc (Nat.le_refl _) _) (HH4.out q hq2)
        case d2 =>
          intro u hu
          unfold strs at hu
          obtain ⟨x, -, rfl⟩ := List.mem_map.1 hu
          rfl
        case d3 => unfold maxLen; omega
        case d4 => omega
        case d5 => simp
        intro v1 w6 ho1 hg1 _
        have HO6 : Hid (w6.ownsRow W4.heap.size 9 1 v1 (j + 1) (strs (RqF.sevens k))) := by
          exact ho1
        have HB6 : Hid (Below W4.heap.size W4 w6) := by
          have h1 := (Below.refl W4.heap.size W4).alloc (Nat.le_refl _) (.cells #[] 9)
          refine h1.grown hg1 h1.size (fun q hq => ?_)
          simp [Value.ownBlock] at hq
          omega
        clear ho1 hg1
        go_wp2_with (at_builtin; refine wpList_append_own _ rfl (.tmp 65) (.tmp 66) 26 rfl W4.heap.size 9 i0 (.string ⟨#[]⟩) 1 16 Tryz.underlying26 hi0'.out hz0'.out hz1'.out hz2'.out rfl (by decide) _ (j + 1) (strs (RqF.sevens k)) rfl (HO6.out.alloc _) ⟨w6.heap.size, 0, none⟩ 1 1 [.string ⟨#[55]⟩] rfl rfl ?e1 ?e2 ?e3 ?e4 ?e5 ?_)
        case e1 =>
          intro q u hq
          cases q with
          | zero => injection hq with hq; subst hq; exact blk_cell (heap_alloc_new w6 _) rfl
          | succ q => cases hq
        case e2 => intro u hu; rw [List.mem_singleton] at hu; subst hu; rfl
        case e3 => unfold maxLen; omega
        case e4 => omega
        case e5 => have := HB6.out.size; simp; omega
        intro v2 w8 ho2 hg2 _
        have hown8 : w8.ownsRow W4.heap.size 9 1 v2 (j + 1 + 1) ((RqF.sevens k ++ [[55]]).map fun x : List UInt8 => Value.string ⟨x.toArray⟩) := by
          have e : (RqF.sevens k ++ [[55]]).map (fun x : List UInt8 => Value.string ⟨x.toArray⟩) = strs (RqF.sevens k) ++ [.string ⟨#[55]⟩] := strs_snoc _ _
          rw [e]; exact ho2
        have HB8 : Hid (Below W4.heap.size W4 w8) := by
          have h1 := HB6.out.alloc HB6.out.size (.cells #[.string ⟨#[55]⟩] 9)
          refine h1.grown hg2 h1.size (fun q hq => ?_)
          exact (HO6.out.lt q hq).1
        have hl8 : j + 1 + 1 = (RqF.sevens k ++ [[55]]).length := by rw [List.length_append, HSL.out]; rfl
        obtain ⟨n8, hn8⟩ : ∃ n, n = j + 1 + 1 := ⟨_, rfl⟩
        rw [← hn8] at hown8 hl8
        have hn9 : n8 ≤ 6 := by omega
        have hn7 : 0 < n8 := by omega
        clear hn8
        obtain ⟨g8, cap8, rfl, hh8, -, -, -⟩ := holds_own hown8 hl8 (by omega)
        have HL8 := Lib.hid hl8; clear hl8
        have HH8 := Lib.hid hh8
        have HW8 : Hid (∀ x ∈ RqF.sevens k ++ [[55]], x.length ≤ 100) := by
          intro x hx
          rcases List.mem_append.1 hx with h | h
          · exact HW.out x h
          · rw [List.mem_singleton] at h; rw [h]; decide
        have HB4' : Hid (Below w.heap.size w w8) := below_trans HB4.out HB8.out
        clear ho2 hg2 hown8 hh8
        have HSTR : Hid (∀ s : ByteArray, s = { data := (RqF.joinL ({ data := #[32] } : ByteArray).data.toList (RqF.sevens k ++ [[55]])).toArray } → s.data.toList = RqF.wordsLine k 0) := by
          intro s hs; rw [hs]; rfl
        replace HB4 := HB4'
        go_wp2_with fail
        refine (join_any (RqF.sevens k ++ [[55]]) _ g8 cap8 n8 _ HL8.out (by omega) (by omega) (by decide) HW8.out HH8.out).mono ?_
        rintro e w1 ⟨rfl, rfl⟩
        go_wp2_with fail
        refine (line_none _ ((congrArg RqF.lineP (HSTR.out _ rfl)).trans HBAD.out) _ (HT.out.below HB4.out) (HSIZ.out _ (HSTR.out _ rfl))).mono ?_
        rintro e w5 ⟨rfl, hb5⟩
        have hb6 := (below_trans HB4.out hb5).alloc (below_trans HB4.out hb5).size (.cells #[.int .i64 0, .string ⟨#[]⟩, .string ⟨#[]⟩, .string ⟨#[]⟩, .float .f64 0, .float .f64 0, .int .i64 0, .int .i64 0] 30)
        have HB6 := Lib.hid hb6; clear hb5 hb6
        go_wp2_with fail
        refine (awake18_any _ (HT.out.below HB6.out)).mono ?_
        rintro e w7 ⟨rfl, hb7⟩
        go_wp2_with fail
        go_ret
        exact ⟨rfl, below_trans HB6.out hb7⟩
      · have HHOW := Lib.hid hw
        have h0 : ((how : Int) == 0) = false := beq_eq_false_iff_ne.2 (by omega)
        have h1 : ((how : Int) == 1) = true := beq_iff_eq.2 (by omega)
        have h2 : ((how : Int) == 2) = false := beq_eq_false_iff_ne.2 (by omega)
        have h3 : ((how : Int) == 3) = false := beq_eq_false_iff_ne.2 (by omega)
        have h4 : ((how : Int) == 4) = false := beq_eq_false_iff_ne.2 (by omega)
        have h5 : ((how : Int) == 5) = false := beq_eq_false_iff_ne.2 (by omega)
        have h6 : ((how : Int) == 6) = false := beq_eq_false_iff_ne.2 (by omega)
        clear hw
        by_cases hj0 : j = 0
        · have hj1 : ((j : Int) + 1 == 1) = true := beq_iff_eq.2 (by omega)
          go_wp2_with fail
          refine (awake18_any _ (HT.out.below HB4.out)).mono ?_
          rintro e w7 ⟨rfl, hb7⟩
          go_wp2_with fail
          go_ret
          exact ⟨rfl, below_trans HB4.out hb7⟩
        · have hj1 : ((j : Int) + 1 == 1) = false := beq_eq_false_iff_ne.2 (by omega)
          have HBAD : Hid (RqF.lineP (RqF.wordsLine k 1) = (RqF.Cmd.nil, 3)) := RqF.words_refused k 1 hk1 hk2 (by decide) (Or.inl (by intro e; have := HNP.out; rw [e] at this; exact hj0 this))
          have HSIZ : Hid (∀ s : ByteArray, s.data.toList = RqF.wordsLine k 1 → s.size < 4294967281) := fun s hs => by rw [Lib.size_eq, hs]; have := RqF.wordsLine_len k 1 hk2 (by decide); omega
          have HT1 : Hid (HoldsWs W4 g ((RqF.sevens k).take (RqF.sevens k).length.pred)) := by
            intro q hq
            rw [List.getElem_take]
            exact HH4.out q _
          have HSTR : Hid (∀ s : ByteArray, s = { data := (RqF.joinL ({ data := #[32] } : ByteArray).data.toList ((RqF.sevens k).take (RqF.sevens k).length.pred)).toArray } → s.data.toList = RqF.wordsLine k 1) := by
            intro s hs; rw [hs]; rfl
          have hjp : 0 < j := by omega
          clear hj0
          go_wp2_with fail
          have HLT : Hid (j = ((RqF.sevens k).take (RqF.sevens k).length.pred).length) := by
            show _ = _
            rw [List.length_take, HSL.out]; simp
          refine (join_any ((RqF.sevens k).take (RqF.sevens k).length.pred) _ g cap j _ HLT.out (by omega) (by omega) (by decide) (fun x hx => HW.out x (List.mem_of_mem_take hx)) HT1.out).mono ?_
          rintro e w1 ⟨rfl, rfl⟩
          go_wp2_with fail
          refine (line_none _ ((congrArg RqF.lineP (HSTR.out _ rfl)).trans HBAD.out) _ (HT.out.below HB4.out) (HSIZ.out _ (HSTR.out _ rfl))).mono ?_
          rintro e w5 ⟨rfl, hb5⟩
          have hb6 := (below_trans HB4.out hb5).alloc (below_trans HB4.out hb5).size (.cells #[.int .i64 0, .string ⟨#[]⟩, .string ⟨#[]⟩, .string ⟨#[]⟩, .float .f64 0, .float .f64 0, .int .i64 0, .int .i64 0] 30)
          have HB6 := Lib.hid hb6; clear hb5 hb6
          go_wp2_with fail
          refine (awake18_any _ (HT.out.below HB6.out)).mono ?_
          rintro e w7 ⟨rfl, hb7⟩
          go_wp2_with fail
          go_ret
          exact ⟨rfl, below_trans HB6.out hb7⟩
      · have HHOW := Lib.hid hw
        have h0 : ((how : Int) == 0) = false := beq_eq_false_iff_ne.2 (by omega)
        have h1 : ((how : Int) == 1) = false := beq_eq_false_iff_ne.2 (by omega)
        have h2 : ((how : Int) == 2) = true := beq_iff_eq.2 (by omega)
        have h3 : ((how : Int) == 3) = false := beq_eq_false_iff_ne.2 (by omega)
        have h4 : ((how : Int) == 4) = false := beq_eq_false_iff_ne.2 (by omega)
        have h5 : ((how : Int) == 5) = false := beq_eq_false_iff_ne.2 (by omega)
        have h6 : ((how : Int) == 6) = false := beq_eq_false_iff_ne.2 (by omega)
        clear hw
        by_cases hj0 : j = 0
        · have hj1 : ((j : Int) + 1 == 1) = true := beq_iff_eq.2 (by omega)
          go_wp2_with fail
          refine (awake18_any _ (HT.out.below HB4.out)).mono ?_
          rintro e w7 ⟨rfl, hb7⟩
          go_wp2_with fail
          go_ret
          exact ⟨rfl, below_trans HB4.out hb7⟩
        · have hj1 : ((j : Int) + 1 == 1) = false := beq_eq_false_iff_ne.2 (by omega)
          have HBAD : Hid (RqF.lineP (RqF.wordsLine k 2) = (RqF.Cmd.nil, 3)) := RqF.words_refused k 2 hk1 hk2 (by decide) (Or.inl (by intro e; have := HNP.out; rw [e] at this; exact hj0 this))
          have HSIZ : Hid (∀ s : ByteArray, s.data.toList = RqF.wordsLine k 2 → s.size < 4294967281) := fun s hs => by rw [Lib.size_eq, hs]; have := RqF.wordsLine_len k 2 hk2 (by decide); omega
          have HSTR : Hid (∀ s : ByteArray, s = { data := (RqF.joinL ({ data := #[32, 32] } : ByteArray).data.toList (RqF.sevens k)).toArray } → s.data.toList = RqF.wordsLine k 2) := by
            intro s hs; rw [hs]; rfl
          clear hj0
          go_wp2_with fail
          refine (join_any (RqF.sevens k) _ g cap (j + 1) _ HSL.out.symm (by omega) (by omega) (by decide) HW.out HH4.out).mono ?_
          rintro e w1 ⟨rfl, rfl⟩
          go_wp2_with fail
          refine (line_none _ ((congrArg RqF.lineP (HSTR.out _ rfl)).trans HBAD.out) _ (HT.out.below HB4.out) (HSIZ.out _ (HSTR.out _ rfl))).mono ?_
          rintro e w5 ⟨rfl, hb5⟩
          have hb6 := (below_trans HB4.out hb5).alloc (below_trans HB4.out hb5).size (.cells #[.int .i64 0, .string ⟨#[]⟩, .string ⟨#[]⟩, .string ⟨#[]⟩, .float .f64 0, .float .f64 0, .int .i64 0, .int .i64 0] 30)
          have HB6 := Lib.hid hb6; clear hb5 hb6
          go_wp2_with fail
          refine (awake18_any _ (HT.out.below HB6.out)).mono ?_
          rintro e w7 ⟨rfl, hb7⟩
          go_wp2_with fail
          go_ret
          exact ⟨rfl, below_trans HB6.out hb7⟩
      · have HHOW := Lib.hid hw
        have h0 : ((how : Int) == 0) = false := beq_eq_false_iff_ne.2 (by omega)
        have h1 : ((how : Int) == 1) = false := beq_eq_false_iff_ne.2 (by omega)
        have h2 : ((how : Int) == 2) = false := beq_eq_false_iff_ne.2 (by omega)
        have h3 : ((how : Int) == 3) = true := beq_iff_eq.2 (by omega)
        have h4 : ((how : Int) == 4) = false := beq_eq_false_iff_ne.2 (by omega)
        have h5 : ((how : Int) == 5) = false := beq_eq_false_iff_ne.2 (by omega)
        have h6 : ((how : Int) == 6) = false := beq_eq_false_iff_ne.2 (by omega)
        clear hw
        have HBAD : Hid (RqF.lineP (RqF.wordsLine k 3) = (RqF.Cmd.nil, 3)) := RqF.words_refused k 3 hk1 hk2 (by decide) (Or.inr (by decide))
        have HSIZ : Hid (∀ s : ByteArray, s.data.toList = RqF.wordsLine k 3 → s.size < 4294967281) := fun s hs => by rw [Lib.size_eq, hs]; have := RqF.wordsLine_len k 3 hk2 (by decide); omega
        have HSTR : Hid (∀ s : ByteArray, s = ({ data := #[32] } ++ { data := (RqF.joinL [32] (RqF.sevens k)).toArray } : ByteArray) → s.data.toList = RqF.wordsLine k 3) := by
          intro s hs; rw [hs, ba_append]; rfl
        have hjl : (RqF.joinL [32] (RqF.sevens k)).length ≤ 600 := HJL.out
        go_wp2_with fail
        refine (join_any (RqF.sevens k) _ g cap (j + 1) _ HSL.out.symm (by omega) (by omega) (by decide) HW.out HH4.out).mono ?_
        rintro e w1 ⟨rfl, rfl⟩
        go_wp2_with fail
        refine (line_none _ ((congrArg RqF.lineP (HSTR.out _ rfl)).trans HBAD.out) _ (HT.out.below HB4.out) (HSIZ.out _ (HSTR.out _ rfl))).mono ?_
        rintro e w5 ⟨rfl, hb5⟩
        have hb6 := (below_trans HB4.out hb5).alloc (below_trans HB4.out hb5).size (.cells #[.int .i64 0, .string ⟨#[]⟩, .string ⟨#[]⟩, .string ⟨#[]⟩, .float .f64 0, .float .f64 0, .int .i64 0, .int .i64 0] 30)
        have HB6 := Lib.hid hb6; clear hb5 hb6
        go_wp2_with fail
        refine (awake18_any _ (HT.out.below HB6.out)).mono ?_
        rintro e w7 ⟨rfl, hb7⟩
        go_wp2_with fail
        go_ret
        exact ⟨rfl, below_trans HB6.out hb7⟩
      · have HHOW := Lib.hid hw
        have h0 : ((how : Int) == 0) = false := beq_eq_false_iff_ne.2 (by omega)
        have h1 : ((how : Int) == 1) = false := beq_eq_false_iff_ne.2 (by omega)
        have h2 : ((how : Int) == 2) = false := beq_eq_false_iff_ne.2 (by omega)
        have h3 : ((how : Int) == 3) = false := beq_eq_false_iff_ne.2 (by omega)
        have h4 : ((how : Int) == 4) = true := beq_iff_eq.2 (by omega)
        have h5 : ((how : Int) == 5) = false := beq_eq_false_iff_ne.2 (by omega)
        have h6 : ((how : Int) == 6) = false := beq_eq_false_iff_ne.2 (by omega)
        clear hw
        have HBAD : Hid (RqF.lineP (RqF.wordsLine k 4) = (RqF.Cmd.nil, 3)) := RqF.words_refused k 4 hk1 hk2 (by decide) (Or.inr (by decide))
        have HSIZ : Hid (∀ s : ByteArray, s.data.toList = RqF.wordsLine k 4 → s.size < 4294967281) := fun s hs => by rw [Lib.size_eq, hs]; have := RqF.wordsLine_len k 4 hk2 (by decide); omega
        have HSTR : Hid (∀ s : ByteArray, s = ({ data := (RqF.joinL [32] (RqF.sevens k)).toArray } ++ { data := #[32] } : ByteArray) → s.data.toList = RqF.wordsLine k 4) := by
          intro s hs; rw [hs, ba_append]; rfl
        have hjl : (RqF.joinL [32] (RqF.sevens k)).length ≤ 600 := HJL.out
        go_wp2_with fail
        refine (join_any (RqF.sevens k) _ g cap (j + 1) _ HSL.out.symm (by omega) (by omega) (by decide) HW.out HH4.out).mono ?_
        rintro e w1 ⟨rfl, rfl⟩
        go_wp2_with fail
        refine (line_none _ ((congrArg RqF.lineP (HSTR.out _ rfl)).trans HBAD.out) _ (HT.out.below HB4.out) (HSIZ.out _ (HSTR.out _ rfl))).mono ?_
        rintro e w5 ⟨rfl, hb5⟩
        have hb6 := (below_trans HB4.out hb5).alloc (below_trans HB4.out hb5).size (.cells #[.int .i64 0, .string ⟨#[]⟩, .string ⟨#[]⟩, .string ⟨#[]⟩, .float .f64 0, .float .f64 0, .int .i64 0, .int .i64 0] 30)
        have HB6 := Lib.hid hb6; clear hb5 hb6
        go_wp2_with fail
        refine (awake18_any _ (HT.out.below HB6.out)).mono ?_
        rintro e w7 ⟨rfl, hb7⟩
        go_wp2_with fail
        go_ret
        exact ⟨rfl, below_trans HB6.out hb7⟩
      · have HHOW := Lib.hid hw
        have h0 : ((how : Int) == 0) = false := beq_eq_false_iff_ne.2 (by omega)
        have h1 : ((how : Int) == 1) = false := beq_eq_false_iff_ne.2 (by omega)
        have h2 : ((how : Int) == 2) = false := beq_eq_false_iff_ne.2 (by omega)
        have h3 : ((how : Int) == 3) = false := beq_eq_false_iff_ne.2 (by omega)
        have h4 : ((how : Int) == 4) = false := beq_eq_false_iff_ne.2 (by omega)
        have h5 : ((how : Int) == 5) = true := beq_iff_eq.2 (by omega)
        have h6 : ((how : Int) == 6) = false := beq_eq_false_iff_ne.2 (by omega)
        clear hw
        have HBAD : Hid (RqF.lineP (RqF.wordsLine k 5) = (RqF.Cmd.nil, 3)) := RqF.words_refused k 5 hk1 hk2 (by decide) (Or.inr (by decide))
        have HSIZ : Hid (∀ s : ByteArray, s.data.toList = RqF.wordsLine k 5 → s.size < 4294967281) := fun s hs => by rw [Lib.size_eq, hs]; have := RqF.wordsLine_len k 5 hk2 (by decide); omega
        obtain ⟨y, hy, hy1, hy2⟩ : ∃ y : UInt8, y = (RqF.nameOf k).headD 0 ∧ 65 ≤ y.toNat ∧ y.toNat ≤ 90 := ⟨_, rfl, RqF.name_upper k hk1 hk2⟩
        have hidx : ∀ w : World, (Instr.index 9 (.string nm) (.int .i64 0)).run Tryz.prog w = .ok (.int .u8 (y.toNat : Int)) w := by
          intro w
          rw [HNM.out, hy]
          exact index_name k hk1 hk2 w
        have HY := Lib.hid hy; clear hy
        have hwy : IntKind.u8.wrap ((y.toNat : Int) + 32) = (y.toNat : Int) + 32 := by rw [IntKind.wrap_u8]; omega
        have hg0 : W4.cell? ⟨g, 0, none⟩ = some (.string nm) := by
          rw [HNM.out]; exact HH4.out 0 (by unfold RqF.sevens; simp)
        have hcap1 : (0 : Int) < ((j : Int) + 1) := by omega
        have HJ : Hid (∀ W, Below W4.heap.size W4 W → Calls Tryz.prog 13 #[.slice (some ⟨g, 0, none⟩) (j + 1) cap, .string { data := #[32] }] W fun e w' => e = .returned (.string ⟨(RqF.joinL [32] (RqF.sevens k)).toArray⟩) ∧ W = w') := fun W hW => join_any (RqF.sevens k) _ g cap (j + 1) W HSL.out.symm (by omega) (by omega) (by decide) HW.out (HH4.out.below hW)
        have hconv : (convert 35 9 (.slice (some ⟨W4.heap.size, 0, none⟩) 1 1)).run Tryz.prog (W4.alloc (.cells #[.int .u8 ((y.toNat : Int) + 32)] 5)).drew = .ok (.string ⟨#[y + 32]⟩) (W4.alloc (.cells #[.int .u8 ((y.toNat : Int) + 32)] 5)).drew := by
          refine run_convert_bytes_back _ 35 9 5 ⟨W4.heap.size, 0, none⟩ 1 [y + 32] Tryz.underlying35 Tryz.underlying5 Tryz.underlying9 ?_
          intro q hq
          obtain rfl : q = 0 := by simp at hq; exact hq
          have e : ((y + 32).toNat : Int) = (y.toNat : Int) + 32 := by
            have h : (y + 32).toNat = (y.toNat + 32) % 256 := UInt8.toNat_add y 32
            rw [h, Nat.mod_eq_of_lt (by omega)]; rfl
          show (W4.alloc _).cell? ⟨W4.heap.size, 0, none⟩ = some (.int .u8 ((y + 32).toNat : Int))
          rw [e]
          exact blk_cell (heap_alloc_new _ _) rfl
        go_upto_region 30 with (fail)
        have hjl1 : (1 : Int) ≤ ((RqF.joinL [32] (RqF.sevens k)).length : Int) := by have := RqF.sevens_pos k hk1 hk2; omega
        have hjl2 : 1 ≤ (RqF.joinL [32] (RqF.sevens k)).length := by omega
        have hjl3 : (RqF.joinL [32] (RqF.sevens k)).length ≤ 600 := HJL.out
        go_region_with ((go_at_call 13; (first | (with_reducible refine (HJ.out _ (below_drew1 (Below.refl _ _))).mono ?_) | (refine (HJ.out _ (below_drew1 ((Below.refl _ _).alloc (Nat.le_refl _) _))).mono ?_)); rintro e w1 ⟨rfl, rfl⟩))
        all_goals clear hidx hconv hg0 hwy
        all_goals
          have HSTR : Hid (∀ s : ByteArray, s = ({ data := #[y + 32] } ++ ({ data := (RqF.joinL [32] (RqF.sevens k)).toArray } : ByteArray).extract 1 (RqF.joinL [32] (RqF.sevens k)).length : ByteArray) → s.data.toList = RqF.wordsLine k 5) := by
            intro s hs
            rw [hs, ba_append, Lib.extract_data, HY.out]
            show [(RqF.nameOf k).headD 0 + 32] ++ ((RqF.joinL [32] (RqF.sevens k)).drop 1).take _ = ((RqF.nameOf k).headD 0 + 32) :: (RqF.joinL [32] (RqF.sevens k)).drop 1
            rw [List.take_of_length_le (by rw [List.length_drop]; exact Nat.le_refl _)]; rfl
          have HB4b : Hid (Below w.heap.size w (W4.alloc (.cells #[.int .u8 ((y.toNat : Int) + 32)] 5)).drew) := below_trans HB4.out (below_drew1 ((Below.refl _ _).alloc (Nat.le_refl _) _))
          replace HB4 := HB4b
          go_wp2_with fail
          refine (line_none _ ((congrArg RqF.lineP (HSTR.out _ rfl)).trans HBAD.out) _ (HT.out.below HB4.out) (HSIZ.out _ (HSTR.out _ rfl))).mono ?_
          rintro e w5 ⟨rfl, hb5⟩
          have hb6 := (below_trans HB4.out hb5).alloc (below_trans HB4.out hb5).size (.cells #[.int .i64 0, .string ⟨#[]⟩, .string ⟨#[]⟩, .string ⟨#[]⟩, .float .f64 0, .float .f64 0, .int .i64 0, .int .i64 0] 30)
          have HB6 := Lib.hid hb6; clear hb5 hb6
          go_wp2_with fail
          refine (awake18_any _ (HT.out.below HB6.out)).mono ?_
          rintro e w7 ⟨rfl, hb7⟩
          go_wp2_with fail
          go_ret
          exact ⟨rfl, below_trans HB6.out hb7⟩
      · have HHOW := Lib.hid hw
        have h0 : ((how : Int) == 0) = false := beq_eq_false_iff_ne.2 (by omega)
        have h1 : ((how : Int) == 1) = false := beq_eq_false_iff_ne.2 (by omega)
        have h2 : ((how : Int) == 2) = false := beq_eq_false_iff_ne.2 (by omega)
        have h3 : ((how : Int) == 3) = false := beq_eq_false_iff_ne.2 (by omega)
        have h4 : ((how : Int) == 4) = false := beq_eq_false_iff_ne.2 (by omega)
        have h5 : ((how : Int) == 5) = false := beq_eq_false_iff_ne.2 (by omega)
        have h6 : ((how : Int) == 6) = true := beq_iff_eq.2 (by omega)
        clear hw
        by_cases hj0 : j = 0
        · have hj1 : ((j : Int) + 1 == 1) = true := beq_iff_eq.2 (by omega)
          go_wp2_with fail
          refine (awake18_any _ (HT.out.below HB4.out)).mono ?_
          rintro e w7 ⟨rfl, hb7⟩
          go_wp2_with fail
          go_ret
          exact ⟨rfl, below_trans HB4.out hb7⟩
        · have hj1 : ((j : Int) + 1 == 1) = false := beq_eq_false_iff_ne.2 (by omega)
          have HBAD : Hid (RqF.lineP (RqF.wordsLine k 6) = (RqF.Cmd.nil, 3)) := RqF.words_refused k 6 hk1 hk2 (by decide) (Or.inl (by intro e; have := HNP.out; rw [e] at this; exact hj0 this))
          have HSIZ : Hid (∀ s : ByteArray, s.data.toList = RqF.wordsLine k 6 → s.size < 4294967281) := fun s hs => by rw [Lib.size_eq, hs]; have := RqF.wordsLine_len k 6 hk2 (by decide); omega
          have HSTR : Hid (∀ s : ByteArray, s = { data := (RqF.joinL ({ data := #[9] } : ByteArray).data.toList (RqF.sevens k)).toArray } → s.data.toList = RqF.wordsLine k 6) := by
            intro s hs; rw [hs]; rfl
          clear hj0
          go_wp2_with fail
          refine (join_any (RqF.sevens k) _ g cap (j + 1) _ HSL.out.symm (by omega) (by omega) (by decide) HW.out HH4.out).mono ?_
          rintro e w1 ⟨rfl, rfl⟩
          go_wp2_with fail
          refine (line_none _ ((congrArg RqF.lineP (HSTR.out _ rfl)).trans HBAD.out) _ (HT.out.below HB4.out) (HSIZ.out _ (HSTR.out _ rfl))).mono ?_
          rintro e w5 ⟨rfl, hb5⟩
          have hb6 := (below_trans HB4.out hb5).alloc (below_trans HB4.out hb5).size (.cells #[.int .i64 0, .string ⟨#[]⟩, .string ⟨#[]⟩, .string ⟨#[]⟩, .float .f64 0, .float .f64 0, .int .i64 0, .int .i64 0] 30)
          have HB6 := Lib.hid hb6; clear hb5 hb6
          go_wp2_with fail
          refine (awake18_any _ (HT.out.below HB6.out)).mono ?_
          rintro e w7 ⟨rfl, hb7⟩
          go_wp2_with fail
          go_ret
          exact ⟨rfl, below_trans HB6.out hb7⟩
      · have HHOW := Lib.hid hw
        have h0 : ((how : Int) == 0) = false := beq_eq_false_iff_ne.2 (by omega)
        have h1 : ((how : Int) == 1) = false := beq_eq_false_iff_ne.2 (by omega)
        have h2 : ((how : Int) == 2) = false := beq_eq_false_iff_ne.2 (by omega)
        have h3 : ((how : Int) == 3) = false := beq_eq_false_iff_ne.2 (by omega)
        have h4 : ((how : Int) == 4) = false := beq_eq_false_iff_ne.2 (by omega)
        have h5 : ((how : Int) == 5) = false := beq_eq_false_iff_ne.2 (by omega)
        have h6 : ((how : Int) == 6) = false := beq_eq_false_iff_ne.2 (by omega)
        clear hw
        have HBAD : Hid (RqF.lineP (RqF.wordsLine k 7) = (RqF.Cmd.nil, 3)) := RqF.words_refused k 7 hk1 hk2 (by decide) (Or.inr (by decide))
        have HSIZ : Hid (∀ s : ByteArray, s.data.toList = RqF.wordsLine k 7 → s.size < 4294967281) := fun s hs => by rw [Lib.size_eq, hs]; have := RqF.wordsLine_len k 7 hk2 (by decide); omega
        have HSTR : Hid (∀ s : ByteArray, s = ({ data := #[88] } ++ { data := (RqF.joinL [32] (RqF.sevens k)).toArray } : ByteArray) → s.data.toList = RqF.wordsLine k 7) := by
          intro s hs; rw [hs, ba_append]; rfl
        have hjl : (RqF.joinL [32] (RqF.sevens k)).length ≤ 600 := HJL.out
        go_wp2_with fail
        refine (join_any (RqF.sevens k) _ g cap (j + 1) _ HSL.out.symm (by omega) (by omega) (by decide) HW.out HH4.out).mono ?_
        rintro e w1 ⟨rfl, rfl⟩
        go_wp2_with fail
        refine (line_none _ ((congrArg RqF.lineP (HSTR.out _ rfl)).trans HBAD.out) _ (HT.out.below HB4.out) (HSIZ.out _ (HSTR.out _ rfl))).mono ?_
        rintro e w5 ⟨rfl, hb5⟩
        have hb6 := (below_trans HB4.out hb5).alloc (below_trans HB4.out hb5).size (.cells #[.int .i64 0, .string ⟨#[]⟩, .string ⟨#[]⟩, .string ⟨#[]⟩, .float .f64 0, .float .f64 0, .int .i64 0, .int .i64 0] 30)
        have HB6 := Lib.hid hb6; clear hb5 hb6
        go_wp2_with fail
        refine (awake18_any _ (HT.out.below HB6.out)).mono ?_
        rintro e w7 ⟨rfl, hb7⟩
        go_wp2_with fail
        go_ret
        exact ⟨rfl, below_trans HB6.out hb7⟩
end Go.Proofs.YtbhgdpchehkchaaGreatDoor
