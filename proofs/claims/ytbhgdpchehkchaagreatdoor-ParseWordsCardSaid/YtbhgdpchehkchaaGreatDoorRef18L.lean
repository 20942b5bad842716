/- The walk of the document's Line. Conditions: the text is of less than 2^32 - 15 bytes. -/
import Derived.Test.YtbhgdpchehkchaaGreatDoorRef18W
import Derived.Deep.RegionHeld3
namespace RqF
theorem readP_nil (p : Nat) (c : Cmd) (hp : p ≤ 6) : readP p c [] = none := by
  have : p = 0 ∨ p = 1 ∨ p = 2 ∨ p = 3 ∨ p = 4 ∨ p = 5 ∨ p = 6 := by omega
  rcases this with rfl | rfl | rfl | rfl | rfl | rfl | rfl <;> rfl
theorem readAll_empty : ∀ (ps : List Nat) (ws : List (List UInt8)) (c : Cmd), (∀ p ∈ ps, p ≤ 6) → ws.length = ps.length → [] ∈ ws → readAll ps ws c = none
  | [], ws, c, _, hl, hm => by
    rw [List.length_eq_zero_iff.1 hl] at hm; cases hm
  | p :: ps, [], c, _, hl, hm => by cases hm
  | p :: ps, w :: ws, c, hp, hl, hm => by
    show (readP p c w).bind (readAll ps ws) = none
    rcases List.mem_cons.1 hm with hm | hm
    · rw [← hm, readP_nil p c (hp p List.mem_cons_self)]; rfl
    · cases readP p c w with
      | none => rfl
      | some d => exact readAll_empty ps ws d (fun q hq => hp q (List.mem_cons_of_mem _ hq)) (by simpa using hl) hm
/-- A line with an empty word is none. -/
theorem lineP_empty {l : List UInt8} (h : [] ∈ wordsOf l) : lineP l = (Cmd.nil, 3) := by
  by_cases hk : ∃ k, 1 ≤ k ∧ k ≤ 22 ∧ fits (wordsOf l) k = true
  · obtain ⟨k, h1, h2, h3⟩ := hk
    rw [lineP_at h1 h2 h3]
    unfold fits at h3
    simp only [decide_eq_true_eq] at h3
    unfold afterP
    rw [readAll_empty _ _ _ (parts_lt k) (by rw [List.length_tail, h3.2]; rfl)]
    cases hw : wordsOf l with
    | nil => exact absurd hw (wordsOf_ne l)
    | cons w ws =>
      rw [hw] at h h3
      rcases List.mem_cons.1 h with h | h
      · exfalso
        have : nameOf k = [] := (Option.some.inj h3.1).symm.trans h.symm
        have key : ∀ k : Fin 23, 1 ≤ k.val → nameOf k.val ≠ [] := by decide +kernel
        exact key ⟨k, by omega⟩ h1 this
      · exact h
  · refine lineP_none fun k h1 h2 => ?_
    cases h3 : fits (wordsOf l) k
    · rfl
    · exact absurd ⟨k, h1, h2, h3⟩ hk
/-- How many bounds there are among the first words. -/
def bnds (k j : Nat) : Nat := ((partsOf k).take j).countP fun p => p = 1 || p = 2
theorem bnds_facts (k j : Nat) (hk : k ≤ 22) (hj : j < (partsOf k).length) : ((partsOf k)[j] = 1 → bnds k j = 0) ∧ ((partsOf k)[j] = 2 → bnds k j = 1) ∧ bnds k (j + 1) = bnds k j + (if (partsOf k)[j] = 1 ∨ (partsOf k)[j] = 2 then 1 else 0) ∧ bnds k j ≤ 4 := by
  have key : ∀ (k : Fin 23) (j : Fin 4), (h : j.val < (partsOf k.val).length) → ((partsOf k.val)[j.val] = 1 → bnds k.val j.val = 0) ∧ ((partsOf k.val)[j.val] = 2 → bnds k.val j.val = 1) ∧ bnds k.val (j.val + 1) = bnds k.val j.val + (if (partsOf k.val)[j.val] = 1 ∨ (partsOf k.val)[j.val] = 2 then 1 else 0) ∧ bnds k.val j.val ≤ 4 := by decide +kernel
  have := parts_le k
  exact key ⟨k, by omega⟩ ⟨j, by omega⟩ hj
end RqF
namespace Go.Proofs.YtbhgdpchehkchaaGreatDoor
open Go.RowKit

theorem letter_b (p : Nat) (hp : p ≤ 6) : letter p = 98 ↔ p = 1 ∨ p = 2 := by
  have : p = 0 ∨ p = 1 ∨ p = 2 ∨ p = 3 ∨ p = 4 ∨ p = 5 ∨ p = 6 := by omega
  rcases this with rfl | rfl | rfl | rfl | rfl | rfl | rfl <;> decide
theorem below_drew1 {B : Nat} {W w : World} (h : Below B W w) : Below B W w.drew := below_drewN h 1
theorem twist {wr w3 : World} {Z : Obj} (h : Below (wr.alloc Z).drew.heap.size (wr.alloc Z).drew w3) : Below wr.heap.size wr w3 ∧ w3.heap[wr.heap.size]? = some Z :=
  ⟨below_trans (below_drew1 ((Below.refl _ _).alloc (Nat.le_refl _) _)) h, below_blk h (show (wr.alloc Z).drew.heap[wr.heap.size]? = some Z from heap_alloc_new _ _)⟩
theorem store_cells {w : World} {b : Nat} {cs : Array Value} {t : TypeId} (h : w.heap[b]? = some (.cells cs t (0, 0))) (c : RqF.Cmd) (hn : cs.size = 8) :
    (storeCells ⟨b, 0, none⟩ (cmdCells c).toList).run Tryz.prog w = .ok () (w.setCells b 0 (cmdCells c).toList) := by
  have ht := there_of_blk h hn
  have := run_storeCells_cells (P := Tryz.prog) b 0 (cmdCells c).toList 0 w (fun j hj => by simpa using (ht j hj).1) (fun j hj => by simpa using (ht j hj).2) (by
    intro v hv
    simp [cmdCells] at hv
    rcases hv with rfl | rfl | rfl | rfl | rfl | rfl | rfl | rfl <;> rfl)
  simpa using this
/-- What stands at each round's head. -/
structure RefInv (w0 : World) (l : List UInt8) (g : Nat) (bf : Nat) (w : World) : Prop where
  below : Below w0.heap.size w0 w
  res : w.heap[w0.heap.size]? = some (.cells (cmdCells RqF.Cmd.nil) 41 (0, 0))
  words : ∃ cur, w.heap[g]? = some (.cells cur 9 (0, 0)) ∧ ∀ j (h : j < (RqF.wordsOf l).length), cur[j]? = some (.string ⟨((RqF.wordsOf l)[j]).toArray⟩)
  forms : w.heap[bf]? = some (.cells refCells 25 (0, 0))
theorem RefInv.next {w0 w w' : World} {l : List UInt8} {g bf : Nat} (h : RefInv w0 l g bf w) (hb : Below w.heap.size w w') : RefInv w0 l g bf w' := by
  obtain ⟨cur, h1, h2⟩ := h.words
  exact ⟨h.below.trans (hb.mono h.below.size), below_blk hb h.res, ⟨cur, below_blk hb h1, h2⟩, below_blk hb h.forms⟩
theorem RefInv.word {w0 w : World} {l : List UInt8} {g bf : Nat} (h : RefInv w0 l g bf w) (j : Nat) (hj : j < (RqF.wordsOf l).length) : w.cell? ⟨g, j, none⟩ = some (.string ⟨((RqF.wordsOf l)[j]).toArray⟩) := by
  obtain ⟨cur, h1, h2⟩ := h.words
  exact blk_cell h1 (h2 j hj)
theorem RefInv.grown {w0 w w' : World} {l : List UInt8} {g bf bc : Nat} (h : RefInv w0 l g bf w) (hg : w.grownBy w' (some bc)) (h1 : w0.heap.size < bc) (h2 : g ≠ bc) (h3 : bf ≠ bc) : RefInv w0 l g bf w' := by
  obtain ⟨cur, k1, k2⟩ := h.words
  exact ⟨below_of_grown h.below hg (by omega), grown_blk hg (fun e => by injection e with e; omega) h.res, ⟨cur, grown_blk hg (fun e => h2 (by injection e)) k1, k2⟩, grown_blk hg (fun e => h3 (by injection e)) h.forms⟩
theorem line18_results (tmps : Array Value) (w : World) (b : Nat) (cs : Array Value) (v : Value) (hp : tmps.getD 2 undef = .pointer (some ⟨b, 0, none⟩)) (hv : tmps.getD 3 undef = v)
    (hb : w.heap[b]? = some (.cells cs 41 (0, 0))) (hn : cs.size = 8) : (results Tryz.f18 tmps).run Tryz.prog w = .ok (.tuple #[.agg cs, v]) w := by
  have hi : (Tryz.prog.info? 41).map (·.size) = some cs.size := by rw [hn]; kernel_rfl
  rw [results_cell_tmp rfl, hp, hv]
  simp only [asAddr, Sem.run_pure, Result.andThen_ok, run_loadVar_row w b 41 41 cs (0, 0) _ hb Tryz.underlying41 rfl hi]

set_option maxRecDepth 100000 in
set_option maxHeartbeats 4000000 in
theorem line18_any (s : ByteArray) (w : World) (hs : s.size < 4294967281) :
    Calls Tryz.prog 18 #[.string s] w fun e w' => LineRet s.data.toList e ∧ Below w.heap.size w w' := by
  obtain ⟨l, hl⟩ : ∃ l, l = s.data.toList := ⟨_, rfl⟩
  have hll : l.length ≤ s.size := by rw [hl, ← Lib.size_eq]; exact Nat.le_refl _
  have HL := Lib.hid hl; clear hl
  go_enter Tryz.func18, Tryz.ntmps18
  go_wp2_with fail
  refine (words18_any s _ hs).mono ?_
  rintro e w1 ⟨hret, hbl⟩
  rw [← show l = s.data.toList from HL.out] at hret
  have hres := below_blk hbl (heap_alloc_new w (.cells (cmdCells RqF.Cmd.nil) 41))
  have HRES := Lib.hid hres
  have hbw : Below w.heap.size w w1 := below_trans ((Below.refl _ _).alloc (Nat.le_refl _) _) hbl
  have HBW := Lib.hid hbw
  rcases hret with ⟨hm, rfl⟩ | ⟨hm, v, rfl, hown⟩
  · have HM := Lib.hid hm
    clear hm hbl hres hbw
    go_upto_region 3 with (fail)
    go_step
    refine stepPure (v := .agg (cmdCells RqF.Cmd.nil)) rfl (by kernel_rfl) ?_
    refine stepStoreRow rfl 41 (.tmp 2) (.tmp 20) rfl _ (cmdCells RqF.Cmd.nil) _ _ rfl rfl HRES.out rfl (by kernel_rfl) (by kernel_rfl) ?_
    intro w' hg1 hb1 hs1
    go_wp2_with fail
    refine bodyPost_ret (line18_results _ _ _ _ _ rfl rfl hb1 rfl) rfl ⟨?_, below_of_grown HBW.out hg1 (Nat.le_refl _)⟩
    unfold LineRet
    rw [← HL.out, RqF.lineP_empty HM.out]
    rfl
  · obtain ⟨g, cap, cur, rfl, hg, hgb, hgn⟩ : ∃ g cap cur, v = .slice (some ⟨g, 0, none⟩) (RqF.wordsOf l).length cap ∧ w1.heap[g]? = some (.cells cur 9 (0, 0)) ∧ (∀ j (h : j < (RqF.wordsOf l).length), cur[j]? = some (.string ⟨((RqF.wordsOf l)[j]).toArray⟩)) ∧ (RqF.wordsOf l).length ≤ cap := by
      rcases hown.2 with ⟨-, h0⟩ | ⟨g, cap, cur, h1, -, h2, h3, -, -, h4⟩
      · exact absurd h0 (by have := RqF.wordsOf_pos l; omega)
      · refine ⟨g, cap, cur, h1, h2, fun j hj => ?_, h3⟩
        have h5 := congrArg (fun x => x[j]?) h4
        simp only [Nat.mul_one] at h5
        rw [List.getElem?_take, if_pos hj, Array.getElem?_toList] at h5
        rw [h5]
        unfold strs
        rw [List.getElem?_map, List.getElem?_eq_getElem hj]; rfl
    have HWD : Hid (∃ cur, w1.heap[g]? = some (.cells cur 9 (0, 0)) ∧ ∀ j (h : j < (RqF.wordsOf l).length), cur[j]? = some (.string ⟨((RqF.wordsOf l)[j]).toArray⟩)) := ⟨cur, hg, hgb⟩
    obtain ⟨nW, hn⟩ : ∃ n, n = (RqF.wordsOf l).length := ⟨_, rfl⟩
    rw [← hn] at hgn ⊢
    have hn1 : 0 < nW := by rw [hn]; exact RqF.wordsOf_pos l
    have hn2 : nW ≤ 4294967282 := by have := RqF.wordsOf_len l; omega
    have HN := Lib.hid hn; clear hn
    clear hg hgb hown hres hbl hbw hm hgn
    go_wp2_with fail
    refine (forms18_any _).mono ?_
    rintro e w2 ⟨rfl, rfl⟩
    have HR0 : RefInv w l g w1.heap.size (w1.alloc (.cells refCells 25)) := by
      have hb := (Below.refl w1.heap.size w1).alloc (Nat.le_refl _) (.cells refCells 25)
      obtain ⟨cur, h1, h2⟩ := HWD.out
      exact ⟨below_trans HBW.out hb, below_blk hb HRES.out, ⟨cur, below_blk hb h1, h2⟩, heap_alloc_new _ _⟩
    clear HBW HWD HRES
    revert HR0
    generalize w1.alloc _ = W0
    generalize w1.heap.size = bf
    intro HR0
    go_wp2_with fail
    go_loopw [7] (fun i wr => ∃ k : Nat, i = .int .i64 k ∧ 1 ≤ k ∧ k ≤ 23 ∧ RefInv w l g bf wr ∧ Hid (∀ j, 1 ≤ j → j < k → RqF.fits (RqF.wordsOf l) j = false)) (fun i _ => 23 - (intOf i).toNat)
    case atStart => exact ⟨1, rfl, Nat.le_refl _, by omega, HR0, fun j h1 h2 => by omega⟩
    case round =>
      obtain ⟨k, rfl, hk0, hk, HR, HF⟩ := hrel
      by_cases hlt : k < 23
      · obtain ⟨hr1, hr2⟩ := refCells_get k hlt
        have hcn := blk_cell HR.forms hr1
        have hct := blk_cell HR.forms hr2
        obtain ⟨nm, hnm⟩ : ∃ nm : ByteArray, nm = ⟨(RqF.nameOf k).toArray⟩ := ⟨_, rfl⟩
        rw [← hnm] at hcn
        obtain ⟨tk, htk⟩ : ∃ tk : ByteArray, tk = ⟨((RqF.partsOf k).map letter).toArray⟩ := ⟨_, rfl⟩
        rw [← htk] at hct
        obtain ⟨np, hnp⟩ : ∃ np, np = (RqF.partsOf k).length := ⟨_, rfl⟩
        have htn : tk.size = np := by rw [htk, hnp]; show ((RqF.partsOf k).map letter).toArray.size = _; simp
        have hnp4 : np ≤ 4 := by rw [hnp]; exact RqF.parts_le k
        obtain ⟨w0, hw0⟩ : ∃ w0 : ByteArray, w0 = ⟨((RqF.wordsOf l)[0]'(by rw [← HN.out]; exact hn1)).toArray⟩ := ⟨_, rfl⟩
        have hc0 : wr.cell? ⟨g, 0, none⟩ = some (.string w0) := by rw [hw0]; exact HR.word 0 _
        have HNM := Lib.hid hnm; clear hnm
        have HTK := Lib.hid htk; clear htk
        have HNP := Lib.hid hnp; clear hnp
        have HW0 := Lib.hid hw0; clear hw0
        have hn0 : (0 : Int) < (nW : Int) := by omega
        have hk23 : (k : Int) < 23 := by omega
        clear hr1 hr2
        cases hname : (nm.toList == w0.toList)
        · go_upto_region 8 with (fail)
          go_quiet (fail)
          go_wp2_with fail
          refine ⟨⟨k + 1, by go_num, by omega, by omega, HR.next (below_drewN (Below.refl _ _) _), fun j h1 h2 => ?_⟩, by simp [intOf]; omega⟩
          by_cases hjk : j < k
          · exact HF.out j h1 hjk
          · obtain rfl : j = k := by omega
            exact fits_name (by rw [← HNM.out, ← HW0.out]; exact hname)
        · by_cases hlen : nW = np + 1
          · have hl1 : ((nW : Int) - 1 == (np : Int)) = true := beq_iff_eq.2 (by omega)
            have hl2 : ((nW : Int) - 1 != (np : Int)) = false := by rw [bne_eq_false_iff_eq]; omega
            have hl3 : decide ((k : Int) < 23) = true := decide_eq_true (by omega)
            have HLEN := Lib.hid hlen; clear hlen
            go_upto_region 8 with (fail)
            go_quiet (fail)
            have HR1 : RefInv w l g bf (wr.drewN nq) := HR.next (below_drewN (Below.refl _ _) _)
            clear hcn hct hc0 HR
            revert HR1
            generalize wr.drewN nq = W1
            intro HR1
            have hct : W1.cell? ⟨bf, k * 2 + 1, none⟩ = some (.string tk) := by rw [HTK.out]; exact blk_cell HR1.forms (refCells_get k hlt).2
            go_wp2_with fail
            have hb1 : Below W1.heap.size W1 (W1.alloc (.cells #[.int .i64 (k : Int), .string ⟨#[]⟩, .string ⟨#[]⟩, .string ⟨#[]⟩, .float .f64 0, .float .f64 0, .int .i64 0, .int .i64 0] 41)) := (Below.refl _ _).alloc (Nat.le_refl _) _
            have hc1 : (W1.alloc (.cells #[.int .i64 (k : Int), .string ⟨#[]⟩, .string ⟨#[]⟩, .string ⟨#[]⟩, .float .f64 0, .float .f64 0, .int .i64 0, .int .i64 0] 41)).heap[W1.heap.size]? = some (.cells (cmdCells { RqF.Cmd.nil with kind := k }) 41 (0, 0)) := heap_alloc_new _ _
            have hbc : w.heap.size < W1.heap.size := lt_of_block HR1.res
            have hgb : g ≠ W1.heap.size := by
              obtain ⟨cur, h1, -⟩ := HR1.words
              have := lt_of_block h1
              omega
            have hfb : bf ≠ W1.heap.size := by have := lt_of_block HR1.forms; omega
            revert hb1 hc1
            generalize W1.alloc _ = W
            intro hb1 hc1
            have HR2 := HR1.next hb1
            clear hb1 HR1 hct
            revert hc1 hbc hgb hfb
            generalize W1.heap.size = bc
            intro hbc hgb hfb hc1
            have HC1 := Lib.hid hc1; clear hc1
            have HGB := Lib.hid hgb; clear hgb
            have HFB := Lib.hid hfb; clear hfb
            go_loopw [9, 10] (fun b ix W => ∃ (j nb : Nat) (c : RqF.Cmd), b = .int .i64 (nb : Int) ∧ ix = .int .i64 ((j : Int) + 1) ∧ j ≤ np ∧ nb ≤ 5 ∧ Hid (nb = RqF.bnds k j) ∧ RefInv w l g bf W ∧ Hid (W.heap[bc]? = some (.cells (cmdCells c) 41 (0, 0))) ∧ Hid (RqF.readAll (RqF.partsOf k) (RqF.wordsOf l).tail { RqF.Cmd.nil with kind := k } = RqF.readAll ((RqF.partsOf k).drop j) ((RqF.wordsOf l).tail.drop j) c)) (fun _ ix _ => np + 1 - (intOf ix).toNat)
            case atStart => exact ⟨0, 0, _, rfl, rfl, Nat.zero_le _, by omega, rfl, HR2, HC1, rfl⟩
            case round =>
              obtain ⟨j, nb, c, rfl, rfl, hj, hnb, HNB, HR3, HC3, HA⟩ := hrel
              by_cases hjn : j < np
              · obtain ⟨q, hq⟩ : ∃ q, q = (RqF.partsOf k)[j]'(by rw [← HNP.out]; exact hjn) := ⟨_, rfl⟩
                have hql : q ≤ 6 := by rw [hq]; exact RqF.parts_lt k _ (List.getElem_mem _)
                have hbf := RqF.bnds_facts k j (by omega) (by rw [← HNP.out]; exact hjn)
                rw [← hq, ← show nb = RqF.bnds k j from HNB.out] at hbf
                have HBF := Lib.hid hbf; clear hbf
                have HQ := Lib.hid hq; clear hq
                obtain ⟨wi, hwi⟩ : ∃ wi : ByteArray, wi = ⟨((RqF.wordsOf l)[j + 1]'(by rw [← HN.out, HLEN.out]; omega)).toArray⟩ := ⟨_, rfl⟩
                have hwc : wr.cell? ⟨g, j + 1, none⟩ = some (.string wi) := by rw [hwi]; exact HR3.word (j + 1) _
                have HWI := Lib.hid hwi; clear hwi
                have hct : wr.cell? ⟨bf, k * 2 + 1, none⟩ = some (.string tk) := by rw [HTK.out]; exact blk_cell HR3.forms (refCells_get k hlt).2
                obtain ⟨y, hy⟩ : ∃ y : UInt8, y = letter q := ⟨_, rfl⟩
                have hidx : ∀ w : World, (Instr.index 9 (.string tk) (.int .i64 (j : Int))).run Tryz.prog w = .ok (.int .u8 (y.toNat : Int)) w := by
                  intro w
                  have hjs : j < tk.size := by omega
                  have e1 : tk[j]'hjs = y := by
                    have e2 : tk[j]'hjs = tk.data[j]'hjs := rfl
                    rw [e2]
                    have e3 : tk.data[j]? = some y := by
                      rw [HTK.out]
                      show ((RqF.partsOf k).map letter).toArray[j]? = some y
                      rw [List.getElem?_toArray, List.getElem?_map, List.getElem?_eq_getElem (by rw [← HNP.out]; exact hjn), hy, HQ.out]; rfl
                    rw [Array.getElem?_eq_getElem hjs] at e3
                    injection e3
                  have hu : Tryz.prog.underlying 9 = some .string := Tryz.underlying9
                  simp [run_index_string _ _ _ _ _ hu, e1, hjs]
                have HY := Lib.hid hy; clear hy
                obtain ⟨g0, g1, g2, g3, g4, g5, g6, g7⟩ := cells8 (c := c) HC3.out
                have hw1 : IntKind.i64.wrap ((j : Int) + 1 - 1) = (j : Int) := by rw [Int.add_sub_cancel]; exact IntWalk.i64_in _ (by omega)
                have hw2 : IntKind.i64.wrap (j : Int) = (j : Int) := IntWalk.i64_in _ (by omega)
                have hj0 : (0 : Int) ≤ (j : Int) + 1 := by omega
                have hj1 : (j : Int) + 1 < (nW : Int) := by have := HLEN.out; omega
                have hjt : ((j : Int) + 1).toNat = j + 1 := by omega
                have HTAKE : Hid (∀ W : World, Calls Tryz.prog 38 #[.agg #[.int .i64 c.kind, .string ⟨c.key.toArray⟩, .string ⟨c.lo.toArray⟩, .string ⟨c.hi.toArray⟩, .float .f64 c.a, .float .f64 c.b, .int .i64 c.n, .int .i64 c.id], .int .u8 (y.toNat : Int), .string wi, .int .i64 (nb : Int)] W (TakeRet q c wi.data.toList W)) := by
                  intro W
                  have hwl : wi.size ≤ 281474976710656 := by
                    rw [HWI.out, Lib.size_eq]
                    have h := RqF.wordsOf_mem l _ (List.getElem_mem (by rw [← HN.out, HLEN.out]; omega : j + 1 < (RqF.wordsOf l).length))
                    simp only at h ⊢
                    omega
                  rw [HY.out]
                  exact take_any q hql c wi nb W hwl (fun h => by rw [HBF.out.1 h]; rfl) (fun h => by rw [HBF.out.2.1 h]; rfl)
                have HR4 := Lib.hid HR3
                clear HR3
                go_upto_region 16 with (fail)
                have HKEEP : Hid (∀ w' : World, Below wr.heap.size wr w' → w'.cell? ⟨bc, 0, none⟩ = some (.int .i64 c.kind) ∧ w'.cell? ⟨bc, 1, none⟩ = some (.string ⟨c.key.toArray⟩) ∧ w'.cell? ⟨bc, 2, none⟩ = some (.string ⟨c.lo.toArray⟩) ∧ w'.cell? ⟨bc, 3, none⟩ = some (.string ⟨c.hi.toArray⟩) ∧ w'.cell? ⟨bc, 4, none⟩ = some (.float .f64 c.a) ∧ w'.cell? ⟨bc, 5, none⟩ = some (.float .f64 c.b) ∧ w'.cell? ⟨bc, 6, none⟩ = some (.int .i64 c.n) ∧ w'.cell? ⟨bc, 7, none⟩ = some (.int .i64 c.id) ∧ w'.cell? ⟨bf, k * 2 + 1, none⟩ = some (.string tk) ∧ w'.cell? ⟨g, j + 1, none⟩ = some (.string wi)) :=
                  fun w' h => ⟨cell_later h g0, cell_later h g1, cell_later h g2, cell_later h g3, cell_later h g4, cell_later h g5, cell_later h g6, cell_later h g7, cell_later h hct, cell_later h hwc⟩
                have HD : Hid (Below wr.heap.size wr wr.drew) := below_drewN (Below.refl _ wr) 1
                go_region_held3 (fun w' => w'.cell? ⟨bc, 0, none⟩ = some (.int .i64 c.kind) ∧ w'.cell? ⟨bc, 1, none⟩ = some (.string ⟨c.key.toArray⟩) ∧ w'.cell? ⟨bc, 2, none⟩ = some (.string ⟨c.lo.toArray⟩) ∧ w'.cell? ⟨bc, 3, none⟩ = some (.string ⟨c.hi.toArray⟩) ∧ w'.cell? ⟨bc, 4, none⟩ = some (.float .f64 c.a) ∧ w'.cell? ⟨bc, 5, none⟩ = some (.float .f64 c.b) ∧ w'.cell? ⟨bc, 6, none⟩ = some (.int .i64 c.n) ∧ w'.cell? ⟨bc, 7, none⟩ = some (.int .i64 c.id) ∧ w'.cell? ⟨bf, k * 2 + 1, none⟩ = some (.string tk) ∧ w'.cell? ⟨g, j + 1, none⟩ = some (.string wi))
                  (first
                    | with_reducible exact HKEEP.out _ HD.out
                    | with_reducible exact HKEEP.out _ (below_trans HD.out hb3)
                    | with_reducible exact HKEEP.out _ (below_trans HD.out (below_trans hb3 ((Below.refl _ _).alloc (Nat.le_refl _) _)))
                    | with_reducible exact HKEEP.out _ (below_setCells (Nat.le_refl _) _ _ _ (twist hb3).1)
                    | with_reducible exact HKEEP.out _ (twist hb3).1
                    | with_reducible exact HKEEP.out _ (below_drew1 ((Below.refl _ _).alloc (Nat.le_refl _) _)))
                  ((go_at_call 38; refine (HTAKE.out _).mono ?_; rintro e w3 ⟨c', rfl, hd, hb3⟩; first | ((with_reducible have zz := (twist hb3).2); have zst := store_cells zz c' rfl; clear zz) | simp only [cmdCells]))
                rotate_left
                all_goals clear g0 g1 g2 g3 g4 g5 g6 g7 hct hwc hw1 hw2 hj0 hj1 hjt
                rotate_right
                · have HWd : Hid (Below wr.heap.size wr (w3.alloc (.cells #[.int .i64 c'.kind, .string ⟨c'.key.toArray⟩, .string ⟨c'.lo.toArray⟩, .string ⟨c'.hi.toArray⟩, .float .f64 c'.a, .float .f64 c'.b, .int .i64 c'.n, .int .i64 c'.id] 41))) := below_trans HD.out (below_trans hb3 ((Below.refl _ _).alloc (Nat.le_refl _) _))
                  have HBD : Hid ((w3.alloc (.cells #[.int .i64 c'.kind, .string ⟨c'.key.toArray⟩, .string ⟨c'.lo.toArray⟩, .string ⟨c'.hi.toArray⟩, .float .f64 c'.a, .float .f64 c'.b, .int .i64 c'.n, .int .i64 c'.id] 41)).heap[w3.heap.size]? = some (.cells (cmdCells c') 41 (0, 0))) := heap_alloc_new _ _
                  clear hb3
                  revert HWd HBD
                  generalize w3.alloc _ = Wd
                  generalize w3.heap.size = bd
                  intro HWd HBD
                  have HR5 : RefInv w l g bf Wd := HR4.out.next HWd.out
                  have HC5 : Hid (Wd.heap[bc]? = some (.cells (cmdCells c) 41 (0, 0))) := below_blk HWd.out HC3.out
                  have HRN := Lib.hid (RqF.readAll_word (ps := RqF.partsOf k) (ws := RqF.wordsOf l) (i := j) (by rw [← HNP.out]; exact hjn) (by rw [← HN.out, HLEN.out]; omega) HQ.out (show wi.data.toList = _ by rw [HWI.out]) c)
                  have hct : Wd.cell? ⟨bf, k * 2 + 1, none⟩ = some (.string tk) := by rw [HTK.out]; exact blk_cell HR5.forms (refCells_get k hlt).2
                  clear HR4 HC3 HWd HKEEP HTAKE HD
                  cases hrp : RqF.readP q c wi.data.toList with
                  | none =>
                    have HRP := Lib.hid hrp; clear hrp hd
                    simp only [Option.isSome_none]
                    go_upto_region 18 with (fail)
                    go_step
                    refine stepPure (v := .agg (cmdCells RqF.Cmd.nil)) rfl (by kernel_rfl) ?_
                    refine stepStoreRow rfl 41 (.tmp 2) (.tmp 76) rfl _ (cmdCells RqF.Cmd.nil) _ _ rfl rfl HR5.res rfl (by kernel_rfl) (by kernel_rfl) ?_
                    intro w' hg1 hb1 hs1
                    go_wp2_with fail
                    refine bodyPost_ret (line18_results _ _ _ _ _ rfl rfl hb1 rfl) rfl ⟨?_, below_of_grown HR5.below hg1 (Nat.le_refl _)⟩
                    unfold LineRet
                    rw [← HL.out, RqF.lineP_at hk0 (by omega) (fits_yes (by rw [← HNM.out, ← HW0.out]; exact hname) (by rw [← HN.out, ← HNP.out]; exact HLEN.out))]
                    unfold RqF.afterP
                    rw [HA.out, HRN.out, HRP.out]
                    rfl
                  | some d =>
                    obtain rfl := hd d hrp
                    have HRP := Lib.hid hrp; clear hrp hd
                    simp only [Option.isSome_some]
                    have hjw : IntKind.i64.wrap ((j : Int) + 1 - 1) = (j : Int) := by rw [Int.add_sub_cancel]; exact IntWalk.i64_in _ (by omega)
                    have HIDX := Lib.hid hidx
                    by_cases hq2 : q = 1 ∨ q = 2
                    · have hy98 : ((y.toNat : Int) == 98) = true := by
                        have h := (letter_b q hql).2 hq2
                        rw [beq_iff_eq, HY.out, h]; rfl
                      have HQ2 := Lib.hid hq2; clear hq2
                      go_upto_region 21 with (fail)
                      go_step
                      refine wpList_load_row rfl 41 (.tmp 11) rfl bd rfl 41 (cmdCells c') (0, 0) _ HBD.out Tryz.underlying41 rfl (by kernel_rfl) ?_
                      refine stepStoreRow rfl 41 (.tmp 8) (.tmp 88) rfl _ (cmdCells c') _ _ rfl rfl HC5.out rfl (by kernel_rfl) (by kernel_rfl) ?_
                      intro w' hg1 hb1 hs1
                      have HR6 : RefInv w l g bf w' := HR5.grown hg1 hbc HGB.out HFB.out
                      have HC6 := Lib.hid hb1
                      clear hg1 hb1 hct HR5
                      go_wp2_with fail
                      refine ⟨⟨j + 1, nb + 1, c', by go_num, by go_num, by omega, by have := HBF.out.2.2.2; omega, ?_, HR6, HC6, ?_⟩, by simp [intOf]; omega⟩
                      · show _ = _
                        rw [HBF.out.2.2.1, if_pos HQ2.out]
                      · show _ = _
                        rw [HA.out, HRN.out, HRP.out]; rfl
                    · have hy98 : ((y.toNat : Int) == 98) = false := by
                        rw [beq_eq_false_iff_ne, HY.out]
                        intro h
                        have h2 : (letter q).toNat = 98 := by omega
                        have h3 : letter q = 98 := by have := congrArg UInt8.ofNat h2; rw [UInt8.ofNat_toNat] at this; exact this
                        exact hq2 ((letter_b q hql).1 h3)
                      have HQ2 := Lib.hid hq2; clear hq2
                      go_upto_region 21 with (fail)
                      go_step
                      refine wpList_load_row rfl 41 (.tmp 11) rfl bd rfl 41 (cmdCells c') (0, 0) _ HBD.out Tryz.underlying41 rfl (by kernel_rfl) ?_
                      refine stepStoreRow rfl 41 (.tmp 8) (.tmp 88) rfl _ (cmdCells c') _ _ rfl rfl HC5.out rfl (by kernel_rfl) (by kernel_rfl) ?_
                      intro w' hg1 hb1 hs1
                      have HR6 : RefInv w l g bf w' := HR5.grown hg1 hbc HGB.out HFB.out
                      have HC6 := Lib.hid hb1
                      clear hg1 hb1 hct HR5
                      go_wp2_with fail
                      refine ⟨⟨j + 1, nb, c', by go_num, by go_num, by omega, hnb, ?_, HR6, HC6, ?_⟩, by simp [intOf]; omega⟩
                      · show _ = _
                        rw [HBF.out.2.2.1, if_neg HQ2.out, Nat.add_zero]
                      · show _ = _
                        rw [HA.out, HRN.out, HRP.out]; rfl
                all_goals
                  have HWd : Hid (Below wr.heap.size wr (w3.setCells wr.heap.size 0 (cmdCells c').toList)) := below_setCells (Nat.le_refl _) _ _ _ (twist hb3).1
                  have HBD : Hid ((w3.setCells wr.heap.size 0 (cmdCells c').toList).heap[wr.heap.size]? = some (.cells (cmdCells c') 41 (0, 0))) := by
                    have e := blk_setCells (cmdCells c').toList 0 w3 _ (twist hb3).2 rfl
                    simp at e; exact e
                  clear hb3 zst
                  revert HWd HBD
                  generalize World.setCells _ _ _ _ = Wd
                  intro HWd
                  generalize wr.heap.size = bd
                  intro HBD
                  have HR5 : RefInv w l g bf Wd := HR4.out.next HWd.out
                  have HC5 : Hid (Wd.heap[bc]? = some (.cells (cmdCells c) 41 (0, 0))) := below_blk HWd.out HC3.out
                  have HRN := Lib.hid (RqF.readAll_word (ps := RqF.partsOf k) (ws := RqF.wordsOf l) (i := j) (by rw [← HNP.out]; exact hjn) (by rw [← HN.out, HLEN.out]; omega) HQ.out (show wi.data.toList = _ by rw [HWI.out]) c)
                  have hct : Wd.cell? ⟨bf, k * 2 + 1, none⟩ = some (.string tk) := by rw [HTK.out]; exact blk_cell HR5.forms (refCells_get k hlt).2
                  clear HR4 HC3 HWd HKEEP HTAKE HD
                  cases hrp : RqF.readP q c wi.data.toList with
                  | none =>
                    have HRP := Lib.hid hrp; clear hrp hd
                    simp only [Option.isSome_none]
                    go_upto_region 18 with (fail)
                    go_step
                    refine stepPure (v := .agg (cmdCells RqF.Cmd.nil)) rfl (by kernel_rfl) ?_
                    refine stepStoreRow rfl 41 (.tmp 2) (.tmp 76) rfl _ (cmdCells RqF.Cmd.nil) _ _ rfl rfl HR5.res rfl (by kernel_rfl) (by kernel_rfl) ?_
                    intro w' hg1 hb1 hs1
                    go_wp2_with fail
                    refine bodyPost_ret (line18_results _ _ _ _ _ rfl rfl hb1 rfl) rfl ⟨?_, below_of_grown HR5.below hg1 (Nat.le_refl _)⟩
                    unfold LineRet
                    rw [← HL.out, RqF.lineP_at hk0 (by omega) (fits_yes (by rw [← HNM.out, ← HW0.out]; exact hname) (by rw [← HN.out, ← HNP.out]; exact HLEN.out))]
                    unfold RqF.afterP
                    rw [HA.out, HRN.out, HRP.out]
                    rfl
                  | some d =>
                    obtain rfl := hd d hrp
                    have HRP := Lib.hid hrp; clear hrp hd
                    simp only [Option.isSome_some]
                    have hjw : IntKind.i64.wrap ((j : Int) + 1 - 1) = (j : Int) := by rw [Int.add_sub_cancel]; exact IntWalk.i64_in _ (by omega)
                    have HIDX := Lib.hid hidx
                    by_cases hq2 : q = 1 ∨ q = 2
                    · have hy98 : ((y.toNat : Int) == 98) = true := by
                        have h := (letter_b q hql).2 hq2
                        rw [beq_iff_eq, HY.out, h]; rfl
                      have HQ2 := Lib.hid hq2; clear hq2
                      go_upto_region 21 with (fail)
                      go_step
                      refine wpList_load_row rfl 41 (.tmp 11) rfl bd rfl 41 (cmdCells c') (0, 0) _ HBD.out Tryz.underlying41 rfl (by kernel_rfl) ?_
                      refine stepStoreRow rfl 41 (.tmp 8) (.tmp 88) rfl _ (cmdCells c') _ _ rfl rfl HC5.out rfl (by kernel_rfl) (by kernel_rfl) ?_
                      intro w' hg1 hb1 hs1
                      have HR6 : RefInv w l g bf w' := HR5.grown hg1 hbc HGB.out HFB.out
                      have HC6 := Lib.hid hb1
                      clear hg1 hb1 hct HR5
                      go_wp2_with fail
                      refine ⟨⟨j + 1, nb + 1, c', by go_num, by go_num, by omega, by have := HBF.out.2.2.2; omega, ?_, HR6, HC6, ?_⟩, by simp [intOf]; omega⟩
                      · show _ = _
                        rw [HBF.out.2.2.1, if_pos HQ2.out]
                      · show _ = _
                        rw [HA.out, HRN.out, HRP.out]; rfl
                    · have hy98 : ((y.toNat : Int) == 98) = false := by
                        rw [beq_eq_false_iff_ne, HY.out]
                        intro h
                        have h2 : (letter q).toNat = 98 := by omega
                        have h3 : letter q = 98 := by have := congrArg UInt8.ofNat h2; rw [UInt8.ofNat_toNat] at this; exact this
                        exact hq2 ((letter_b q hql).1 h3)
                      have HQ2 := Lib.hid hq2; clear hq2
                      go_upto_region 21 with (fail)
                      go_step
                      refine wpList_load_row rfl 41 (.tmp 11) rfl bd rfl 41 (cmdCells c') (0, 0) _ HBD.out Tryz.underlying41 rfl (by kernel_rfl) ?_
                      refine stepStoreRow rfl 41 (.tmp 8) (.tmp 88) rfl _ (cmdCells c') _ _ rfl rfl HC5.out rfl (by kernel_rfl) (by kernel_rfl) ?_
                      intro w' hg1 hb1 hs1
                      have HR6 : RefInv w l g bf w' := HR5.grown hg1 hbc HGB.out HFB.out
                      have HC6 := Lib.hid hb1
                      clear hg1 hb1 hct HR5
                      go_wp2_with fail
                      refine ⟨⟨j + 1, nb, c', by go_num, by go_num, by omega, hnb, ?_, HR6, HC6, ?_⟩, by simp [intOf]; omega⟩
                      · show _ = _
                        rw [HBF.out.2.2.1, if_neg HQ2.out, Nat.add_zero]
                      · show _ = _
                        rw [HA.out, HRN.out, HRP.out]; rfl
              · obtain rfl : j = np := by omega
                have HEND := Lib.hid (RqF.readAll_end (ps := RqF.partsOf k) (ws := (RqF.wordsOf l).tail) (i := j) (by rw [← HNP.out]; omega) c)
                have HAF : Hid (RqF.lineP l = if k = 1 ∧ 1024 < c.n then ({ RqF.Cmd.nil with kind := k, n := c.n }, 5) else (c, 0)) := by
                  show _ = _
                  rw [RqF.lineP_at hk0 (by omega) (fits_yes (by rw [← HNM.out, ← HW0.out]; exact hname) (by rw [← HN.out, ← HNP.out]; exact HLEN.out))]
                  unfold RqF.afterP
                  rw [HA.out, HEND.out]
                have hcn : wr.cell? ⟨bc, 6, none⟩ = some (.int .i64 c.n) := blk_cell HC3.out rfl
                have hge : ¬ ((j : Int) + 1 < (nW : Int)) := by have := HLEN.out; omega
                clear HA HEND
                by_cases hk1 : k = 1
                · have HK := Lib.hid hk1
                  have hke : ((k : Int) == 1) = true := beq_iff_eq.2 (by omega)
                  clear hk1
                  by_cases hcn1 : 1024 < c.n
                  · go_upto_region 23 with (fail)
                    go_wp2_with (refine stepStoreRow rfl 41 (.tmp 2) (.tmp 99) rfl _ (cmdCells { RqF.Cmd.nil with kind := k, n := c.n }) _ _ rfl rfl HR3.res rfl (by kernel_rfl) (by kernel_rfl) ?_; intro w' hg1 hb1 hs1)
                    refine bodyPost_ret (line18_results _ _ _ _ _ rfl rfl hb1 rfl) rfl ⟨?_, below_of_grown HR3.below hg1 (Nat.le_refl _)⟩
                    unfold LineRet
                    rw [← HL.out, HAF.out, if_pos ⟨HK.out, hcn1⟩]
                    rfl
                  · go_upto_region 24 with (fail)
                    go_step
                    refine wpList_load_row rfl 41 (.tmp 8) rfl bc rfl 41 (cmdCells c) (0, 0) _ HC3.out Tryz.underlying41 rfl (by kernel_rfl) ?_
                    refine stepStoreRow rfl 41 (.tmp 2) (.tmp 100) rfl _ (cmdCells c) _ _ rfl rfl HR3.res rfl (by kernel_rfl) (by kernel_rfl) ?_
                    intro w' hg1 hb1 hs1
                    go_wp2_with fail
                    refine bodyPost_ret (line18_results _ _ _ _ _ rfl rfl hb1 rfl) rfl ⟨?_, below_of_grown HR3.below hg1 (Nat.le_refl _)⟩
                    unfold LineRet
                    rw [← HL.out, HAF.out, if_neg (fun h => by have := h.2; omega)]
                    rfl
                · have hke : ((k : Int) == 1) = false := beq_eq_false_iff_ne.2 (by omega)
                  have HK := Lib.hid hk1; clear hk1
                  go_upto_region 24 with (fail)
                  go_step
                  refine wpList_load_row rfl 41 (.tmp 8) rfl bc rfl 41 (cmdCells c) (0, 0) _ HC3.out Tryz.underlying41 rfl (by kernel_rfl) ?_
                  refine stepStoreRow rfl 41 (.tmp 2) (.tmp 100) rfl _ (cmdCells c) _ _ rfl rfl HR3.res rfl (by kernel_rfl) (by kernel_rfl) ?_
                  intro w' hg1 hb1 hs1
                  go_wp2_with fail
                  refine bodyPost_ret (line18_results _ _ _ _ _ rfl rfl hb1 rfl) rfl ⟨?_, below_of_grown HR3.below hg1 (Nat.le_refl _)⟩
                  unfold LineRet
                  rw [← HL.out, HAF.out, if_neg (fun h => HK.out h.1)]
                  rfl
          · have hl1 : ((nW : Int) - 1 == (np : Int)) = false := beq_eq_false_iff_ne.2 (by omega)
            have HNF : Hid (RqF.lineP l = (RqF.Cmd.nil, 3)) := by
              show _ = _
              refine RqF.lineP_none fun j j1 j2 => ?_
              by_cases hjk : j = k
              · rw [hjk]; exact fits_len (by rw [← HN.out, ← HNP.out]; exact hlen)
              · have hne : RqF.nameOf j ≠ RqF.nameOf k := fun e => hjk (RqF.name_inj ⟨j1, j2⟩ ⟨hk0, by omega⟩ e)
                unfold RqF.fits
                rw [decide_eq_false_iff_not]
                rintro ⟨h1, -⟩
                rw [ByteArray.toList_eq, ByteArray.toList_eq] at hname
                simp only [beq_iff_eq] at hname
                rw [HNM.out, HW0.out] at hname
                rw [List.head?_eq_getElem?, List.getElem?_eq_getElem (by rw [← HN.out]; exact hn1)] at h1
                exact hne ((Option.some.inj h1).symm.trans hname.symm)
            go_upto_region 8 with (fail)
            go_quiet (fail)
            have HR1 : RefInv w l g bf (wr.drewN nq) := HR.next (below_drewN (Below.refl _ _) _)
            clear hcn hct hc0 HR
            revert HR1
            generalize wr.drewN nq = W1
            intro HR1
            have hct : W1.cell? ⟨bf, k * 2 + 1, none⟩ = some (.string tk) := by rw [HTK.out]; exact blk_cell HR1.forms (refCells_get k hlt).2
            go_upto_region 10 with (fail)
            go_step
            refine stepPure (v := .agg (cmdCells RqF.Cmd.nil)) rfl (by kernel_rfl) ?_
            refine stepStoreRow rfl 41 (.tmp 2) (.tmp 47) rfl _ (cmdCells RqF.Cmd.nil) _ _ rfl rfl HR1.res rfl (by kernel_rfl) (by kernel_rfl) ?_
            intro w' hg1 hb1 hs1
            go_wp2_with fail
            refine bodyPost_ret (line18_results _ _ _ _ _ rfl rfl hb1 rfl) rfl ⟨?_, below_of_grown HR1.below hg1 (Nat.le_refl _)⟩
            unfold LineRet
            rw [← HL.out, HNF.out]
            rfl
      · have hge : 23 ≤ k := by omega
        clear hlt
        go_upto_region 25 with (fail)
        go_step
        refine stepPure (v := .agg (cmdCells RqF.Cmd.nil)) rfl (by kernel_rfl) ?_
        refine stepStoreRow rfl 41 (.tmp 2) (.tmp 101) rfl _ (cmdCells RqF.Cmd.nil) _ _ rfl rfl HR.res rfl (by kernel_rfl) (by kernel_rfl) ?_
        intro w' hg1 hb1 hs1
        go_wp2_with fail
        refine bodyPost_ret (line18_results _ _ _ _ _ rfl rfl hb1 rfl) rfl ⟨?_, below_of_grown HR.below hg1 (Nat.le_refl _)⟩
        unfold LineRet
        rw [← HL.out, RqF.lineP_none (fun j h1 h2 => HF.out j h1 (by omega))]
        rfl
end Go.Proofs.YtbhgdpchehkchaaGreatDoor
