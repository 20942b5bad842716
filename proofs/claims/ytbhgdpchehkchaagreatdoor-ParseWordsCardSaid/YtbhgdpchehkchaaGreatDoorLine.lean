/- The walk of parse.Line. Conditions: the library's tables are as they are laid; a text is of less than 2^32 - 15 bytes. -/
import Derived.Test.YtbhgdpchehkchaaGreatDoorForms
import Derived.Deep.LoopGhost
import Derived.StillTailTactics
namespace Go.Proofs.YtbhgdpchehkchaaGreatDoor
open Go.RowKit

theorem index_form (cs : Array Value) (k : Nat) (hk : k < 23) (w : World) : (Instr.index 74 (.agg cs) (.int .i64 (k : Int))).run Tryz.prog w = .ok (.agg (cs.extract (k * 2) (k * 2 + 2))) w := by
  have hagg : (isAgg 73).run Tryz.prog w = .ok true w := by kernel_rfl
  have hs : (sizeOf 73).run Tryz.prog w = .ok 2 w := by kernel_rfl
  have hc : (0 : Int) ≤ (k : Int) ∧ (k : Int) < ((23 : Nat) : Int) := by omega
  unfold Instr.index
  simp only [asIntOf, Sem.run_bind, Sem.run_pure, Result.andThen_ok, run_underlying Tryz.underlying74 w, hc, and_self, if_true, hs, part, hagg, Int.toNat_natCast]
theorem extract_two (cs : Array Value) (k : Nat) (x y : Value) (hx : cs[2 * k]? = some x) (hy : cs[2 * k + 1]? = some y) : cs.extract (k * 2) (k * 2 + 2) = #[x, y] := by
  obtain ⟨h1, h2⟩ := Array.getElem?_eq_some_iff.1 hx
  obtain ⟨h3, h4⟩ := Array.getElem?_eq_some_iff.1 hy
  apply Array.ext
  · simp; omega
  · intro i hi1 hi2
    have hi : i < 2 := by simpa using hi2
    rw [Array.getElem_extract]
    rcases (show i = 0 ∨ i = 1 by omega) with rfl | rfl
    · simp only [Nat.add_zero, Nat.mul_comm k 2]; exact h2
    · simp only [Nat.mul_comm k 2]; exact h4

/-- What stands at each round's head. -/
structure LineInv (w0 : World) (l : List UInt8) (bw : Nat) (cs : Array Value) (w : World) : Prop where
  below : Below w0.heap.size w0 w
  res : w.heap[w0.heap.size]? = some (.cells (cmdCells RqF.Cmd.nil) 30 (0, 0))
  words : w.heap[bw]? = some (.cells (wordCells l).toArray 9 (0, 0))
  forms : FormsIn cs w
theorem LineInv.next {w0 w w' : World} {l : List UInt8} {bw : Nat} {cs : Array Value} (h : LineInv w0 l bw cs w) (hb : Below w.heap.size w w') : LineInv w0 l bw cs w' :=
  ⟨h.below.trans (hb.mono h.below.size), below_blk hb h.res, below_blk hb h.words, h.forms.below hb⟩

theorem LineInv.grown {w0 w w' : World} {l : List UInt8} {bw bc : Nat} {cs cc : Array Value} (h : LineInv w0 l bw cs w) (g : w.grownBy w' (some bc)) (hc : w.heap[bc]? = some (.cells cc 30 (0, 0))) (hb : w0.heap.size < bc) : LineInv w0 l bw cs w' := by
  have ne : ∀ {b : Nat} {xs : Array Value} {t : TypeId}, w.heap[b]? = some (.cells xs t (0, 0)) → t ≠ 30 → w'.heap[b]? = some (.cells xs t (0, 0)) := by
    intro b xs t hx ht
    refine grown_blk g (fun e => ?_) hx
    injection e with e
    rw [e, hc] at hx
    injection hx with hx
    injection hx with h1 h2
    exact ht h2.symm
  refine ⟨below_of_grown h.below g (by omega), grown_blk g (fun e => by injection e with e; omega) h.res, ne h.words (by decide), ?_⟩
  obtain ⟨h1, h2, h3, h4⟩ := h.forms
  refine ⟨h1, h2, h3, fun k k1 k2 => ?_⟩
  obtain ⟨h5, v, h6, p, h7, h8⟩ := h4 k k1 k2
  refine ⟨h5, v, h6, p, h7, ?_⟩
  rcases h8 with h8 | ⟨b, h8, h9⟩
  · exact .inl h8
  · exact .inr ⟨b, h8, ne h9 (by decide)⟩
theorem cell_word {l : List UInt8} {w : World} {bw : Nat} (h : w.heap[bw]? = some (.cells (wordCells l).toArray 9 (0, 0))) (j : Nat) (hj : j < (RqF.wordsOf l).length) :
    w.cell? ⟨bw, j, none⟩ = some (.string ⟨(RqF.wordsOf l)[j].toArray⟩) :=
  blk_cell h (by rw [List.getElem?_toArray]; exact wordCells_get l j hj)

theorem fits_name {l : List UInt8} {k : Nat} {h : 0 < (RqF.wordsOf l).length} (hn : ((⟨(RqF.nameOf k).toArray⟩ : ByteArray).toList == (⟨((RqF.wordsOf l)[0]'h).toArray⟩ : ByteArray).toList) = false) : RqF.fits (RqF.wordsOf l) k = false := by
  unfold RqF.fits
  rw [decide_eq_false_iff_not]
  rintro ⟨h1, -⟩
  rw [ByteArray.toList_eq, ByteArray.toList_eq] at hn
  simp only [beq_eq_false_iff_ne] at hn
  rw [List.head?_eq_getElem?, List.getElem?_eq_getElem h] at h1
  exact hn (Option.some.inj h1).symm
theorem fits_len {l : List UInt8} {k : Nat} (hn : ¬ (RqF.wordsOf l).length = (RqF.partsOf k).length + 1) : RqF.fits (RqF.wordsOf l) k = false := by
  unfold RqF.fits
  rw [decide_eq_false_iff_not]
  exact fun h => hn h.2
theorem fits_yes {l : List UInt8} {k : Nat} {h : 0 < (RqF.wordsOf l).length} (hn : ((⟨(RqF.nameOf k).toArray⟩ : ByteArray).toList == (⟨((RqF.wordsOf l)[0]'h).toArray⟩ : ByteArray).toList) = true) (hl : (RqF.wordsOf l).length = (RqF.partsOf k).length + 1) : RqF.fits (RqF.wordsOf l) k = true := by
  unfold RqF.fits
  rw [decide_eq_true_iff]
  rw [ByteArray.toList_eq, ByteArray.toList_eq] at hn
  simp only [beq_iff_eq] at hn
  rw [List.head?_eq_getElem?, List.getElem?_eq_getElem h]
  exact ⟨by rw [hn], hl⟩
theorem partCells_get (ps : List Nat) : ∀ (i : Nat) (h : i < ps.length), (partCells ps)[i * 2]? = some (.func (.func (readFn ps[i])) #[] #[]) ∧ (partCells ps)[i * 2 + 1]? = some (.func (.func (showFn ps[i])) #[] #[]) := by
  induction ps with
  | nil => intro i h; cases h
  | cons p ps ih =>
    intro i h
    unfold partCells at ih ⊢
    cases i with
    | zero => exact ⟨rfl, rfl⟩
    | succ i =>
      obtain ⟨h1, h2⟩ := ih i (by simpa using h)
      simp only [List.getElem?_toArray] at h1 h2
      rw [show (i + 1) * 2 = i * 2 + 1 + 1 by omega]
      simp only [List.getElem?_toArray]
      exact ⟨h1, h2⟩
theorem parts_at {cs : Array Value} {W : World} {k : Nat} {p : Option Addr} (hF : FormsIn cs W) (h1 : 1 ≤ k) (h2 : k ≤ 22) (hy : cs[2 * k + 1]? = some (.slice p (RqF.partsOf k).length (RqF.partsOf k).length)) (hne : 0 < (RqF.partsOf k).length) :
    ∃ b, p = some ⟨b, 0, none⟩ ∧ W.heap[b]? = some (.cells (partCells (RqF.partsOf k)) 81 (0, 0)) := by
  obtain ⟨-, v, hv, p', hp', h⟩ := hF.2.2.2 k h1 h2
  rw [hy] at hv
  injection hv with hv
  rw [← hv] at hp'
  injection hp' with hp'
  rw [hp']
  rcases h with h | h
  · rw [h] at hne; cases hne
  · exact h
theorem read_any (q : Nat) (c : RqF.Cmd) (s : ByteArray) (bc : Nat) (w : World) (hq : q ≤ 6) (hs : s.size ≤ 281474976710656) (ht : TabsP w) (hc : CmdAt bc c w) :
    Calls Tryz.prog (readFn q) #[.pointer (some ⟨bc, 0, none⟩), .string s] w (ReadRet q c s.data.toList bc w) := by
  have : q = 0 ∨ q = 1 ∨ q = 2 ∨ q = 3 ∨ q = 4 ∨ q = 5 ∨ q = 6 := by omega
  rcases this with rfl | rfl | rfl | rfl | rfl | rfl | rfl
  · exact read_key c s bc w hs hc
  · exact read_lo c s bc w hs hc
  · exact read_hi c s bc w hs hc
  · exact read_n c s bc w hs ht hc
  · exact read_id c s bc w hs ht hc
  · exact read_a c s bc w hs ht hc
  · exact read_b c s bc w hs ht hc
theorem enter_read (q : Nat) (hq : q ≤ 6) (args : Array Value) (w : World) : (callFunc (readFn q) args).run Tryz.prog w = .ok (.enter (readFn q) args) w := by
  have : q = 0 ∨ q = 1 ∨ q = 2 ∨ q = 3 ∨ q = 4 ∨ q = 5 ∨ q = 6 := by omega
  rcases this with rfl | rfl | rfl | rfl | rfl | rfl | rfl
  · show (callFunc 57 args).run Tryz.prog w = .ok (.enter 57 args) w; kernel_rfl
  · show (callFunc 59 args).run Tryz.prog w = .ok (.enter 59 args) w; kernel_rfl
  · show (callFunc 61 args).run Tryz.prog w = .ok (.enter 61 args) w; kernel_rfl
  · show (callFunc 63 args).run Tryz.prog w = .ok (.enter 63 args) w; kernel_rfl
  · show (callFunc 65 args).run Tryz.prog w = .ok (.enter 65 args) w; kernel_rfl
  · show (callFunc 67 args).run Tryz.prog w = .ok (.enter 67 args) w; kernel_rfl
  · show (callFunc 69 args).run Tryz.prog w = .ok (.enter 69 args) w; kernel_rfl
theorem line_world (wr : World) (A : Obj) (n k : Nat) : Below wr.heap.size wr (((wr.alloc A).drewN n).alloc (.cells #[.int .i64 (k : Int), .string ⟨#[]⟩, .string ⟨#[]⟩, .string ⟨#[]⟩, .float .f64 0, .float .f64 0, .int .i64 0, .int .i64 0] 30)) ∧
    CmdAt (wr.heap.size + 1) { RqF.Cmd.nil with kind := k } (((wr.alloc A).drewN n).alloc (.cells #[.int .i64 (k : Int), .string ⟨#[]⟩, .string ⟨#[]⟩, .string ⟨#[]⟩, .float .f64 0, .float .f64 0, .int .i64 0, .int .i64 0] 30)) := by
  have e : ((wr.alloc A).drewN n).heap.size = wr.heap.size + 1 := by rw [World.heap_drewN]; exact Array.size_push _
  have hb : Below wr.heap.size wr ((wr.alloc A).drewN n) := below_drewN ((Below.refl _ wr).alloc (Nat.le_refl _) A) n
  refine ⟨hb.alloc (by rw [e]; omega) _, ?_⟩
  unfold CmdAt
  rw [← e]
  exact heap_alloc_new _ _
def LineRet (l : List UInt8) (e : Ending) : Prop := e = .returned (.tuple #[.agg (cmdCells (RqF.lineP l).1), .int .i64 (RqF.lineP l).2])

theorem line_results (tmps : Array Value) (w : World) (b : Nat) (cs : Array Value) (v : Value) (hp : tmps.getD 2 undef = .pointer (some ⟨b, 0, none⟩)) (hv : tmps.getD 3 undef = v)
    (hb : w.heap[b]? = some (.cells cs 30 (0, 0))) (hn : cs.size = 8) : (results Tryz.f14 tmps).run Tryz.prog w = .ok (.tuple #[.agg cs, v]) w := by
  have hi : (Tryz.prog.info? 30).map (·.size) = some cs.size := by rw [hn]; kernel_rfl
  rw [results_cell_tmp rfl, hp, hv]
  simp only [asAddr, Sem.run_pure, Result.andThen_ok, run_loadVar_row w b 30 30 cs (0, 0) _ hb Tryz.underlying30 rfl hi]

theorem line_start {w w2 : World} {l : List UInt8} {cs : Array Value} (hf : FormsIn cs w2)
    (hb : Below ((w.alloc (.cells (cmdCells RqF.Cmd.nil) 30)).alloc (.cells (wordCells l).toArray 9)).heap.size ((w.alloc (.cells (cmdCells RqF.Cmd.nil) 30)).alloc (.cells (wordCells l).toArray 9)) w2) : LineInv w l (w.heap.size + 1) cs w2 := by
  have e : (w.alloc (.cells (cmdCells RqF.Cmd.nil) 30)).heap.size = w.heap.size + 1 := Array.size_push _
  have h0 : Below w.heap.size w ((w.alloc (.cells (cmdCells RqF.Cmd.nil) 30)).alloc (.cells (wordCells l).toArray 9)) := ((Below.refl _ _).alloc (Nat.le_refl _) _).alloc (by rw [e]; omega) _
  refine ⟨h0.trans (hb.mono h0.size), below_blk hb ?_, below_blk hb ?_, hf⟩
  · rw [heap_alloc_old _ _ (show w.heap.size < (w.alloc (.cells (cmdCells RqF.Cmd.nil) 30)).heap.size by rw [e]; omega)]
    exact heap_alloc_new _ _
  · rw [← e]
    exact heap_alloc_new _ _

set_option maxRecDepth 100000 in
set_option maxHeartbeats 4000000 in
theorem line_any (s : ByteArray) (w : World) (ht : TabsM w) (hs : s.size < 4294967281) :
    Calls Tryz.prog 14 #[.string s] w fun e w' => LineRet s.data.toList e ∧ Below w.heap.size w w' := by
  have HT := Lib.hid ht; clear ht
  go_enter Tryz.func14, Tryz.ntmps14
  go_wp2_with fail
  refine (split_any s _ (HT.out.below (below_trans (Below.refl _ _) ((Below.refl _ _).alloc (Nat.le_refl _) _))) hs).mono ?_
  rintro e w1 ⟨rfl, rfl⟩
  go_wp2_with fail
  refine (forms_any _).mono ?_
  rintro e w2 ⟨cs, rfl, hf, hb⟩
  go_wp2_with fail
  obtain ⟨l, hl⟩ : ∃ l, l = s.data.toList := ⟨_, rfl⟩
  rw [← hl] at hb ⊢
  obtain ⟨nW, hn⟩ : ∃ n, n = (RqF.wordsOf l).length := ⟨_, rfl⟩
  rw [← hn]
  have hn1 : 0 < nW := by rw [hn]; exact List.length_pos_iff.2 (RqF.wordsOf_ne l)
  have hn2 : nW ≤ 4294967282 := by have := RqF.wordsOf_len l; rw [Lib.size_eq, ← hl] at hs; omega
  obtain ⟨bw, hbw⟩ : ∃ b, b = w.heap.size + 1 := ⟨_, rfl⟩
  rw [← hbw]
  have HI : LineInv w l bw cs w2 := by rw [hbw]; exact line_start hf hb
  have hll : l.length ≤ s.size := by rw [hl, ← Lib.size_eq]; exact Nat.le_refl _
  have HN := Lib.hid hn; clear hn
  have HL := Lib.hid hl; clear hl
  have HBW := Lib.hid hbw; clear hbw
  clear hb hf
  go_loopw [14] (fun i wr => ∃ k : Nat, i = .int .i64 k ∧ k ≤ 23 ∧ LineInv w l bw cs wr ∧ Hid (∀ j, 1 ≤ j → j < k → RqF.fits (RqF.wordsOf l) j = false)) (fun i _ => 23 - (intOf i).toNat)
  case atStart => exact ⟨0, rfl, by omega, HI, fun j h1 h2 => by omega⟩
  case round =>
    obtain ⟨k, rfl, hk, HR, HF⟩ := hrel
    by_cases hlt : k < 23
    · have hidx := index_form cs k hlt
      rcases Nat.eq_zero_or_pos k with rfl | hk0
      · rw [extract_two cs 0 _ _ HR.forms.2.1 HR.forms.2.2.1] at hidx
        have hidx0 : ∀ w : World, (Instr.index 74 (.agg cs) (.int .i64 0)).run Tryz.prog w = .ok (.agg #[.string ⟨#[]⟩, .slice none 0 0]) w := fun w => hidx w
        clear hidx
        have h00 : (((0 : Nat) : Int) == 0) = true := rfl
        go_upto_region 5 with (fail)
        go_quiet (fail)
        go_wp2_with fail
        exact ⟨⟨1, by go_num, by omega, HR.next (below_drewN ((Below.refl _ _).alloc (Nat.le_refl _) _) _), fun j h1 h2 => by omega⟩, by simp [intOf]⟩
      · obtain ⟨hx, v, hy, p, rfl, hp⟩ := HR.forms.2.2.2 k hk0 (by omega)
        rw [extract_two cs k _ _ hx hy] at hidx
        have HY := Lib.hid hy
        clear hx hy
        obtain ⟨nm, hnm⟩ : ∃ nm : ByteArray, nm = ⟨(RqF.nameOf k).toArray⟩ := ⟨_, rfl⟩
        rw [← hnm] at hidx
        obtain ⟨np, hnp⟩ : ∃ np, np = (RqF.partsOf k).length := ⟨_, rfl⟩
        rw [← hnp] at hidx
        have hnp4 : np ≤ 4 := by rw [hnp]; exact RqF.parts_le k
        obtain ⟨w0, hw0⟩ : ∃ w0 : ByteArray, w0 = ⟨((RqF.wordsOf l)[0]'(by rw [← HN.out]; exact hn1)).toArray⟩ := ⟨_, rfl⟩
        have hc0 : wr.cell? ⟨bw, 0, none⟩ = some (.string w0) := by rw [hw0]; exact cell_word HR.words 0 _
        have hbwl : bw < wr.heap.size := lt_of_block HR.words
        have HNM := Lib.hid hnm; clear hnm
        have HNP := Lib.hid hnp; clear hnp
        have HW0 := Lib.hid hw0; clear hw0
        have HP := Lib.hid hp; clear hp
        have hk00 : ((k : Int) == 0) = false := beq_eq_false_iff_ne.2 (by omega)
        have hn0 : (0 : Int) < (nW : Int) := by omega
        cases hname : (nm.toList == w0.toList)
        · go_upto_region 5 with (fail)
          go_quiet (fail)
          go_wp2_with fail
          refine ⟨⟨k + 1, by go_num, by omega, HR.next (below_drewN ((Below.refl _ _).alloc (Nat.le_refl _) _) _), fun j h1 h2 => ?_⟩, by simp [intOf]; omega⟩
          by_cases hjk : j < k
          · exact HF.out j h1 hjk
          · obtain rfl : j = k := by omega
            exact fits_name (by rw [← HNM.out, ← HW0.out]; exact hname)
        · by_cases hlen : nW = np + 1
          · have hl1 : ((nW : Int) == (np : Int) + 1) = true := beq_iff_eq.2 (by omega)
            have hl2 : ((nW : Int) != (np : Int) + 1) = false := by rw [bne_eq_false_iff_eq]; omega
            have hl3 : decide ((k : Int) < 23) = true := decide_eq_true (by omega)
            have HLEN := Lib.hid hlen; clear hlen
            go_upto_region 5 with (fail)
            go_quiet (fail)
            go_wp2_with fail
            obtain ⟨hb1, hc1⟩ := line_world wr (.cells #[.string nm, .slice p np np] 73) nq k
            have hbc : w.heap.size < wr.heap.size + 1 := Nat.lt_succ_of_le HR.below.size
            revert hb1 hc1
            generalize ((wr.alloc _).drewN nq).alloc _ = W
            intro hb1 hc1
            have HR1 := HR.next hb1
            revert hc1 hbc
            generalize wr.heap.size + 1 = bc
            intro hbc hc1
            have HC1 := Lib.hid hc1
            clear hc1 hb1 hidx hc0 hn0
            go_loopw [42] (fun ix W => ∃ (i : Nat) (c : RqF.Cmd), ix = .int .i64 i ∧ i ≤ np ∧ LineInv w l bw cs W ∧ Hid (CmdAt bc c W) ∧ Hid (RqF.readAll (RqF.partsOf k) (RqF.wordsOf l).tail { RqF.Cmd.nil with kind := k } = RqF.readAll ((RqF.partsOf k).drop i) ((RqF.wordsOf l).tail.drop i) c)) (fun ix _ => np - (intOf ix).toNat)
            case atStart => exact ⟨0, _, rfl, Nat.zero_le _, HR1, HC1, rfl⟩
            case round =>
              obtain ⟨i, c, rfl, hi, HR2, HC2, HA⟩ := hrel
              by_cases hin : i < np
              · obtain ⟨b, rfl, hblk⟩ := parts_at HR2.forms hk0 (by omega) HY.out (by rw [← HNP.out]; omega)
                obtain ⟨q, hq⟩ : ∃ q, q = (RqF.partsOf k)[i]'(by rw [← HNP.out]; exact hin) := ⟨_, rfl⟩
                obtain ⟨hg0, hg1⟩ := partCells_get (RqF.partsOf k) i (by rw [← HNP.out]; exact hin)
                rw [← hq] at hg0 hg1
                obtain ⟨wi, hwi⟩ : ∃ wi : ByteArray, wi = ⟨((RqF.wordsOf l)[i + 1]'(by rw [← HN.out, HLEN.out]; omega)).toArray⟩ := ⟨_, rfl⟩
                have hw1 := cell_word HR2.words (i + 1) (by rw [← HN.out, HLEN.out]; omega)
                rw [← hwi] at hw1
                have HWI := Lib.hid hwi; clear hwi
                have HQ := Lib.hid hq; clear hq
                obtain ⟨r, hr⟩ : ∃ r, r = readFn q := ⟨_, rfl⟩
                obtain ⟨r', hr'⟩ : ∃ r, r = showFn q := ⟨_, rfl⟩
                rw [← hr] at hg0
                rw [← hr'] at hg1
                have HRF := Lib.hid hr; clear hr
                clear hr'
                have hc0 := blk_cell hblk hg0
                have hc1 := blk_cell hblk hg1
                have HBLK := Lib.hid hblk
                have hlb := lt_of_block hblk
                have hlw := lt_of_block HR2.words
                clear hg0 hg1 hblk
                go_upto_region 10 with (fail)
                have HR3 : LineInv w l bw cs (wr.alloc (.cells #[.func (.func r) #[] #[], .func (.func r') #[] #[]] 81)) := HR2.next ((Below.refl _ _).alloc (Nat.le_refl _) _)
                have HC3 : Hid (CmdAt bc c (wr.alloc (.cells #[.func (.func r) #[] #[], .func (.func r') #[] #[]] 81))) := below_blk ((Below.refl _ _).alloc (Nat.le_refl _) _) HC2.out
                have hcr : (wr.alloc (.cells #[.func (.func r) #[] #[], .func (.func r') #[] #[]] 81)).cell? ⟨wr.heap.size, 0, none⟩ = some (.func (.func r) #[] #[]) := blk_cell (heap_alloc_new _ _) rfl
                clear hw1 hc0 hc1 hlb hlw HR2 HC2
                revert HR3 HC3 hcr
                generalize wr.alloc _ = W2
                generalize wr.heap.size = bp
                intro HR3 HC3 hcr
                have hw1 := cell_word HR3.words (i + 1) (by rw [← HN.out, HLEN.out]; omega)
                rw [← show wi = _ from HWI.out] at hw1
                have hib : (i : Int) + 1 < (nW : Int) := by have := HLEN.out; omega
                have hwr : IntKind.i64.wrap ((i : Int) + 1) = (i : Int) + 1 := IntWalk.i64_in _ (by omega)
                have hi0 : (0 : Int) ≤ (i : Int) + 1 := by omega
                have hit : ((i : Int) + 1).toNat = i + 1 := by omega
                go_still_tail 7, (by kernel_rfl)
                change wpList _ _ _ _ _ (World.drew _)
                have HR4 : LineInv w l bw cs W2.drew := HR3.next (below_drewN (Below.refl _ _) 1)
                have HC4 : Hid (CmdAt bc c W2.drew) := HC3
                revert HR4 HC4
                generalize World.drew _ = W3
                intro HR4 HC4
                clear HR3 HC3 hcr hw1 hwr hi0 hit
                have hql : q ≤ 6 := by rw [HQ.out]; exact RqF.parts_lt k _ (List.getElem_mem _)
                have hcf : ∀ (args : Array Value) (w : World), (callFunc r args).run Tryz.prog w = .ok (.enter r args) w := by rw [HRF.out]; exact enter_read q hql
                go_wp2_with fail
                clear hcf
                have hwl : wi.size ≤ 281474976710656 := by
                  rw [HWI.out, Lib.size_eq]
                  have h := RqF.wordsOf_mem l _ (List.getElem_mem (by rw [← HN.out, HLEN.out]; omega : i + 1 < (RqF.wordsOf l).length))
                  simp only at h ⊢
                  omega
                rw [HRF.out]
                refine (read_any q c wi bc _ hql hwl (HT.out.toTabsP.below HR4.below) HC4.out).mono ?_
                rintro e w3 ⟨c', he, hd, hg, hb3⟩
                have HRN := Lib.hid (RqF.readAll_word (ps := RqF.partsOf k) (ws := RqF.wordsOf l) (i := i) (by rw [← HNP.out]; exact hin) (by rw [← HN.out, HLEN.out]; omega) HQ.out (show wi.data.toList = _ by rw [HWI.out]) c)
                have HR5 : LineInv w l bw cs w3 := HR4.grown hg HC4.out hbc
                have HC5 : Hid (CmdAt bc c' w3) := hb3
                clear hg hb3 HR4 HC4
                cases hrp : RqF.readP q c wi.data.toList with
                | none =>
                  rw [hrp] at he
                  have HRP := Lib.hid hrp; clear hrp hd
                  obtain rfl : e = .returned (.int .i64 3) := he
                  go_upto_region 12 with (fail)
                  go_step
                  refine stepPure (v := .agg (cmdCells RqF.Cmd.nil)) rfl (by kernel_rfl) ?_
                  refine stepPure (v := .int .i64 3) rfl rfl ?_
                  refine stepStoreRow rfl 30 (.tmp 2) (.tmp 57) rfl _ (cmdCells RqF.Cmd.nil) _ _ rfl rfl HR5.res rfl (by kernel_rfl) (by kernel_rfl) ?_
                  intro w' hg1 hb1 hs1
                  go_wp2_with fail
                  refine bodyPost_ret (line_results _ _ _ _ _ rfl rfl hb1 rfl) rfl ⟨?_, below_of_grown HR5.below hg1 (Nat.le_refl _)⟩
                  unfold LineRet
                  rw [← HL.out, RqF.lineP_at hk0 (by omega) (fits_yes (by rw [← HNM.out, ← HW0.out]; exact hname) (by rw [← HN.out, ← HNP.out]; exact HLEN.out))]
                  unfold RqF.afterP
                  rw [HA.out, HRN.out, HRP.out]
                  rfl
                | some d =>
                  rw [hrp] at he
                  obtain rfl := hd d hrp
                  have HRP := Lib.hid hrp; clear hrp hd
                  obtain rfl : e = .returned (.int .i64 0) := he
                  go_wp2_with fail
                  refine ⟨⟨i + 1, c', by go_num, by omega, HR5, HC5, ?_⟩, by simp [intOf]; omega⟩
                  show _ = _
                  rw [HA.out, HRN.out, HRP.out]
                  rfl
              · obtain rfl : i = np := by omega
                have HEND := Lib.hid (RqF.readAll_end (ps := RqF.partsOf k) (ws := (RqF.wordsOf l).tail) (i := i) (by rw [← HNP.out]; omega) c)
                have HAF : Hid (RqF.lineP l = if k = 1 ∧ 1024 < c.n then ({ RqF.Cmd.nil with kind := k, n := c.n }, 5) else (c, 0)) := by
                  show _ = _
                  rw [RqF.lineP_at hk0 (by omega) (fits_yes (by rw [← HNM.out, ← HW0.out]; exact hname) (by rw [← HN.out, ← HNP.out]; exact HLEN.out))]
                  unfold RqF.afterP
                  rw [HA.out, HEND.out]
                have hcn : wr.cell? ⟨bc, 6, none⟩ = some (.int .i64 c.n) := blk_cell HC2.out rfl
                clear HA HEND
                by_cases hk1 : k = 1
                · have HK := Lib.hid hk1
                  have hke : ((k : Int) == 1) = true := beq_iff_eq.2 (by omega)
                  clear hk1
                  by_cases hcn1 : 1024 < c.n
                  · go_upto_region 15 with (fail)
                    go_wp2_with (refine stepStoreRow rfl 30 (.tmp 2) (.tmp 70) rfl _ (cmdCells { RqF.Cmd.nil with kind := k, n := c.n }) _ _ rfl rfl HR2.res rfl (by kernel_rfl) (by kernel_rfl) ?_; intro w' hg1 hb1 hs1)
                    refine bodyPost_ret (line_results _ _ _ _ _ rfl rfl hb1 rfl) rfl ⟨?_, below_of_grown HR2.below hg1 (Nat.le_refl _)⟩
                    unfold LineRet
                    rw [← HL.out, HAF.out, if_pos ⟨HK.out, hcn1⟩]
                    rfl
                  · go_upto_region 16 with (fail)
                    go_step
                    refine wpList_load_row rfl 30 (.tmp 7) rfl bc rfl 30 (cmdCells c) (0, 0) _ HC2.out Tryz.underlying30 rfl (by kernel_rfl) ?_
                    refine stepStoreRow rfl 30 (.tmp 2) (.tmp 71) rfl _ (cmdCells c) _ _ rfl rfl HR2.res rfl (by kernel_rfl) (by kernel_rfl) ?_
                    intro w' hg1 hb1 hs1
                    go_wp2_with fail
                    refine bodyPost_ret (line_results _ _ _ _ _ rfl rfl hb1 rfl) rfl ⟨?_, below_of_grown HR2.below hg1 (Nat.le_refl _)⟩
                    unfold LineRet
                    rw [← HL.out, HAF.out, if_neg (fun h => by have := h.2; omega)]
                    rfl
                · have hke : ((k : Int) == 1) = false := beq_eq_false_iff_ne.2 (by omega)
                  have HK := Lib.hid hk1; clear hk1
                  go_upto_region 16 with (fail)
                  go_step
                  refine wpList_load_row rfl 30 (.tmp 7) rfl bc rfl 30 (cmdCells c) (0, 0) _ HC2.out Tryz.underlying30 rfl (by kernel_rfl) ?_
                  refine stepStoreRow rfl 30 (.tmp 2) (.tmp 71) rfl _ (cmdCells c) _ _ rfl rfl HR2.res rfl (by kernel_rfl) (by kernel_rfl) ?_
                  intro w' hg1 hb1 hs1
                  go_wp2_with fail
                  refine bodyPost_ret (line_results _ _ _ _ _ rfl rfl hb1 rfl) rfl ⟨?_, below_of_grown HR2.below hg1 (Nat.le_refl _)⟩
                  unfold LineRet
                  rw [← HL.out, HAF.out, if_neg (fun h => HK.out h.1)]
                  rfl
          · have hl1 : ((nW : Int) == (np : Int) + 1) = false := beq_eq_false_iff_ne.2 (by omega)
            go_upto_region 5 with (fail)
            go_quiet (fail)
            go_wp2_with fail
            refine ⟨⟨k + 1, by go_num, by omega, HR.next (below_drewN ((Below.refl _ _).alloc (Nat.le_refl _) _) _), fun j h1 h2 => ?_⟩, by simp [intOf]; omega⟩
            by_cases hjk : j < k
            · exact HF.out j h1 hjk
            · obtain rfl : j = k := by omega
              exact fits_len (by rw [← HN.out, ← HNP.out]; exact hlen)
    · have hge : 23 ≤ k := by omega
      clear hlt
      go_upto_region 18 with (fail)
      go_step
      refine stepPure (v := .agg (cmdCells RqF.Cmd.nil)) rfl (by kernel_rfl) ?_
      refine stepStoreRow rfl 30 (.tmp 2) (.tmp 73) rfl _ (cmdCells RqF.Cmd.nil) _ _ rfl rfl HR.res rfl (by kernel_rfl) (by kernel_rfl) ?_
      intro w' hg1 hb1 hs1
      go_wp2_with fail
      refine bodyPost_ret (line_results _ _ _ _ _ rfl rfl hb1 rfl) rfl ⟨?_, below_of_grown HR.below hg1 (Nat.le_refl _)⟩
      unfold LineRet
      rw [← HL.out, RqF.lineP_none (fun j h1 h2 => HF.out j h1 (by omega))]
      rfl
end Go.Proofs.YtbhgdpchehkchaaGreatDoor
