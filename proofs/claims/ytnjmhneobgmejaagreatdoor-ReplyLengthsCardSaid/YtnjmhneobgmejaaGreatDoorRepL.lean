/- The walks of package reply's reader: line, value. Conditions: the library's tables are as they are laid; the text is of less than 2^32 - 15 bytes. -/
import Derived.Test.YtnjmhneobgmejaaGreatDoorRepA
import Derived.StillTailTactics
import Derived.IntWalk
import Derived.Outline
namespace Go.Proofs.YtnjmhneobgmejaaGreatDoor
open Go.RowKit

theorem below_drewN (w : World) : ∀ n, Below w.heap.size w (w.drewN n) := fun _ => ⟨rfl, rfl, rfl, Nat.le_refl _, fun _ _ => rfl⟩
theorem TabsM.drewN {w : World} (h : TabsM w) (n : Nat) : TabsM (w.drewN n) := h.below (below_drewN w n)
theorem drop_ext (s : ByteArray) (k : Nat) : (s.extract k s.size).data.toList = s.data.toList.drop k := by
  rw [ByteArray.data_extract, Array.toList_extract, List.extract_eq_take_drop]
  rw [List.take_of_length_le]
  rw [List.length_drop, Array.length_toList]
  show s.data.size - k ≤ s.size - k
  exact Nat.le_refl _
theorem cut_some (t A R : ByteArray) (w : World) (ht : TabsM w) (hs : t.size < 4294967281) (h : RqF.cutL t.data.toList = some (A.data.toList, R.data.toList)) :
    Calls Tryz.prog 58 #[.string t, .string ⟨#[10]⟩] w fun e w' => e = .returned (.tuple #[.string A, .string R, .bool true]) ∧ ∃ n, w' = w.drewN n := by
  have hi := RqF.index_cut t.data.toList
  rw [h] at hi
  have hc : Lib.cut t.data.toList [10] = (A.data.toList, R.data.toList, true) := by
    unfold Lib.cut
    rw [hi]
    simp only
    rw [if_pos (by omega)]
    have e := (RqF.cutL_some h).1
    rw [e]
    simp [List.drop_append]
  refine (cut_any t w ht hs).mono fun e w' ⟨he, hw⟩ => ⟨?_, hw⟩
  rw [he, hc, ba_back, ba_back]
theorem cut_none (t : ByteArray) (w : World) (ht : TabsM w) (hs : t.size < 4294967281) (h : RqF.cutL t.data.toList = none) :
    Calls Tryz.prog 58 #[.string t, .string ⟨#[10]⟩] w fun e w' => e = .returned (.tuple #[.string t, .string ⟨#[]⟩, .bool false]) ∧ ∃ n, w' = w.drewN n := by
  have hi := RqF.index_cut t.data.toList
  rw [h] at hi
  have hc : Lib.cut t.data.toList [10] = (t.data.toList, [], false) := by
    unfold Lib.cut
    rw [hi]
    simp only
    rw [if_neg (by omega)]
  refine (cut_any t w ht hs).mono fun e w' ⟨he, hw⟩ => ⟨?_, hw⟩
  rw [he, hc, ba_back]

/-- A reader in its block: the text, and how far it has come. -/
def RdAt (br : Nat) (s : ByteArray) (k : Nat) (w : World) : Prop := w.heap[br]? = some (.cells #[.string s, .int .i64 k] 57 (0, 0))
theorem rd_cells {br : Nat} {s : ByteArray} {k : Nat} {w : World} (h : RdAt br s k w) : w.cell? ⟨br, 0, none⟩ = some (.string s) ∧ w.cell? ⟨br, 1, none⟩ = some (.int .i64 k) ∧ w.frozen? ⟨br, 1, none⟩ = false ∧ br < w.heap.size :=
  ⟨blk_cell h rfl, blk_cell h rfl, blk_free h, lt_of_block h⟩
theorem rd_set {br : Nat} {s : ByteArray} {k : Nat} {w : World} (h : RdAt br s k w) (j : Nat) : RdAt br s j (w.setCell ⟨br, 1, none⟩ (.int .i64 j)) := blk_set h _
/-- A reader among the blocks that are newer than the world W, in which the tables lie. -/
structure Rd (W : World) (br : Nat) (s : ByteArray) (k : Nat) (w : World) : Prop where
  tabs : TabsM W
  below : Below W.heap.size W w
  low : W.heap.size ≤ br
  here : RdAt br s k w
  le : k ≤ s.size
  small : s.size < 4294967281
theorem Rd.tabsM {W w : World} {br k : Nat} {s : ByteArray} (h : Rd W br s k w) : TabsM w := h.tabs.below h.below
theorem Rd.next {W w w' : World} {br k : Nat} {s : ByteArray} (h : Rd W br s k w) (hb : Below w.heap.size w w') : Rd W br s k w' :=
  ⟨h.tabs, h.below.trans (hb.mono h.below.size), h.low, below_blk hb h.here, h.le, h.small⟩
theorem Rd.drewN {W w : World} {br k : Nat} {s : ByteArray} (h : Rd W br s k w) (n : Nat) : Rd W br s k (w.drewN n) := h.next (below_drewN w n)
theorem Rd.set {W w : World} {br k : Nat} {s : ByteArray} (h : Rd W br s k w) {j : Nat} (hj : j ≤ s.size) : Rd W br s j (w.setCell ⟨br, 1, none⟩ (.int .i64 j)) :=
  ⟨h.tabs, h.below.setCell (p := ⟨br, 1, none⟩) h.low _, h.low, rd_set h.here j, hj, h.small⟩
theorem Rd.go {W w w' : World} {br k j : Nat} {s : ByteArray} (h : Rd W br s k w) (g : w.grownBy w' (some br)) (hr : RdAt br s j w') (hj : j ≤ s.size) : Rd W br s j w' :=
  ⟨h.tabs, below_of_grown h.below g h.low, h.low, hr, hj, h.small⟩
theorem Rd.setI {W w : World} {br k : Nat} {s : ByteArray} (h : Rd W br s k w) {j : Nat} {x : Int} (hx : x = (j : Int)) (hj : j ≤ s.size) : Rd W br s j (w.setCell ⟨br, 1, none⟩ (.int .i64 x)) := by
  subst hx; exact h.set hj
theorem grown_drewN (w : World) (n : Nat) (row : Option Nat) : w.grownBy (w.drewN n) row := ⟨rfl, rfl, rfl, Nat.le_refl _, fun _ _ _ => rfl⟩
/-- Words in memory. -/
def WordsAt (g : Nat) (ws : List (List UInt8)) (w : World) : Prop := w.heap[g]? = some (.cells (ws.map fun x => Value.string ⟨x.toArray⟩).toArray 9 (0, 0))

theorem words_new (w : World) {g : Nat} (hg : g = w.heap.size) (l : List UInt8) : WordsAt g (RqF.wordsOf l) (w.alloc (.cells (wordCells l).toArray 9)) := by
  subst hg; exact heap_alloc_new w _
/-- Nothing behind: no line. -/
def LineNone (w : World) (e : Ending) (w' : World) : Prop := e = .returned (.tuple #[.slice none 0 0, .bool false]) ∧ ∃ n, w' = w.drewN n
set_option maxRecDepth 100000 in
set_option maxHeartbeats 1000000 in
theorem line_no (W : World) (br k : Nat) (s : ByteArray) (w : World) (hR : Rd W br s k w) (h : RqF.cutL (s.data.toList.drop k) = none) :
    Calls Tryz.prog 36 #[.pointer (some ⟨br, 0, none⟩)] w (LineNone w) := by
  obtain ⟨c0, c1, f1, hlt⟩ := rd_cells hR.here
  have hk := hR.le
  have hs := hR.small
  have HR := Lib.hid hR; clear hR
  have HH : Hid (RqF.cutL (s.extract k s.size).data.toList = none) := by rw [drop_ext]; exact h
  have hsz : (s.extract k s.size).size < 4294967281 := by rw [ByteArray.size_extract]; omega
  clear h
  go_enter Tryz.func36, Tryz.ntmps36
  go_wp2_with fail
  go_quiet ((go_at_call 58; exact Calls.quiet_of (cut_none _ _ (HR.out.tabsM.drewN _) hsz HH.out)))
  go_wp2_with fail
  go_ret2
  exact ⟨rfl, _, rfl⟩

theorem wordsOf_small (A : ByteArray) : (RqF.wordsOf A.data.toList).length ≤ A.size + 1 := by
  rw [Lib.size_eq]; exact RqF.wordsOf_len _
/-- A line's words, laid in a new block; the reader stands behind the line. -/
def LineSome (W : World) (br : Nat) (s : ByteArray) (j : Nat) (ws : List (List UInt8)) (w : World) (e : Ending) (w' : World) : Prop :=
  ∃ g, w.heap.size ≤ g ∧ e = .returned (.tuple #[.slice (some ⟨g, 0, none⟩) ws.length ws.length, .bool true]) ∧ WordsAt g ws w' ∧ Rd W br s j w' ∧ w.grownBy w' (some br)
set_option maxRecDepth 100000 in
set_option maxHeartbeats 1000000 in
theorem line_yes (W : World) (br k : Nat) (s A R : ByteArray) (w : World) (hR : Rd W br s k w) (h : RqF.cutL (s.data.toList.drop k) = some (A.data.toList, R.data.toList)) :
    Calls Tryz.prog 36 #[.pointer (some ⟨br, 0, none⟩)] w (LineSome W br s (k + (A.size + 1)) (RqF.wordsOf A.data.toList) w) := by
  obtain ⟨c0, c1, f1, hlt⟩ := rd_cells hR.here
  have hk := hR.le
  have hs := hR.small
  have HR := Lib.hid hR; clear hR
  have HH : Hid (RqF.cutL (s.extract k s.size).data.toList = some (A.data.toList, R.data.toList)) := by rw [drop_ext]; exact h
  have hsz : (s.extract k s.size).size < 4294967281 := by rw [ByteArray.size_extract]; omega
  have hA : k + (A.size + 1) ≤ s.size := by
    have := RqF.cutL_len h
    rw [List.length_drop, ← Lib.size_eq, ← Lib.size_eq, ← Lib.size_eq] at this
    omega
  clear h
  go_enter Tryz.func36, Tryz.ntmps36
  go_wp2_with fail
  go_quiet ((go_at_call 58; exact Calls.quiet_of (cut_some _ A R _ (HR.out.tabsM.drewN _) hsz HH.out)))
  go_wp2_with fail
  have HR2 := Lib.hid ((HR.out.drewN nq).setI (x := ↑k + (↑A.size + 1)) (j := k + (A.size + 1)) (by omega) hA)
  refine (split_any A _ HR2.out.tabsM (by omega)).mono ?_
  rintro e w1 ⟨rfl, rfl⟩
  go_wp2_with fail
  go_ret2
  refine ⟨w.heap.size, Nat.le_refl _, ?_, ?_, HR2.out.next ((Below.refl _ _).alloc (Nat.le_refl _) _), (grown_set (grown_drewN w nq (some br)) _).trans (World.grownBy_alloc _ _ _)⟩
  · simp
  · exact words_new _ (by simp) _

theorem rnumber_none (s : ByteArray) (w : World) (hs : s.size ≤ 281474976710656) (ht : TabsP w) (h : RqF.numP s.data.toList = none) :
    Calls Tryz.prog 43 #[.string s] w fun e w' => ∃ n : Int, e = .returned (.tuple #[.int .i64 n, .bool false]) ∧ Below w.heap.size w w' :=
  (rnumber_any s w hs ht).mono fun e w' ⟨⟨n, he, _⟩, hb⟩ => ⟨n, by rw [he, h]; rfl, hb⟩
theorem rnumber_some (s : ByteArray) (v : Nat) (w : World) (hs : s.size ≤ 281474976710656) (ht : TabsP w) (h : RqF.numP s.data.toList = some v) :
    Calls Tryz.prog 43 #[.string s] w fun e w' => e = .returned (.tuple #[.int .i64 v, .bool true]) ∧ Below w.heap.size w w' :=
  (rnumber_any s w hs ht).mono fun e w' ⟨⟨n, he, hv⟩, hb⟩ => ⟨by rw [he, h, hv v h]; rfl, hb⟩

/-- A value's bytes are there: the reader stands behind them. -/
def ReadYes (W : World) (br : Nat) (s : ByteArray) (r : List UInt8) (w : World) (e : Ending) (w' : World) : Prop :=
  e = .returned (.bool true) ∧ (∃ j, r = s.data.toList.drop j ∧ Rd W br s j w') ∧ w.grownBy w' (some br)
/-- .. or not: the reader is done with. -/
def ReadNo (_W : World) (br : Nat) (w : World) (e : Ending) (w' : World) : Prop :=
  e = .returned (.bool false) ∧ w.grownBy w' (some br)
theorem byte_get (s : ByteArray) (i : Nat) (h : i < s.size) : s[i] = s.data.toList[i]'(by rw [← Lib.size_eq]; exact h) := by
  cases s; rfl
theorem index_str (s : ByteArray) (i : Nat) (x : Int) (hx : x = i) (h : i < s.size) (w : World) : (Instr.index 9 (.string s) (.int .i64 x)).run Tryz.prog w = .ok (.int .u8 ((s[i]'h).toNat : Int)) w := by
  subst hx
  have h0 : (0 : Int) ≤ (i : Int) := by omega
  have h1 : s[(i : Int).toNat]? = some (s[i]'h) := by simp [h]
  unfold Instr.index
  simp only [asIntOf, Sem.run_bind, Sem.run_pure, Result.andThen_ok, run_underlying Tryz.underlying9 w, if_pos h0, h1]
set_option maxRecDepth 100000 in
set_option maxHeartbeats 1000000 in
theorem value_no (W : World) (br k : Nat) (s t : ByteArray) (w : World) (hR : Rd W br s k w) (ht : t.size ≤ 281474976710656) (h : RqF.valueR t.data.toList (s.data.toList.drop k) = none) :
    Calls Tryz.prog 38 #[.pointer (some ⟨br, 0, none⟩), .string t] w (ReadNo W br w) := by
  have hk := hR.le
  have hs := hR.small
  have HR := Lib.hid hR; clear hR
  cases hn : RqF.numP t.data.toList with
  | none =>
    have HN := Lib.hid hn; clear hn h
    go_enter Tryz.func38, Tryz.ntmps38
    go_wp2_with fail
    refine (rnumber_none t _ ht HR.out.tabsM.toTabsP HN.out).mono ?_
    rintro e w1 ⟨n, rfl, hb⟩
    have HB := Lib.hid hb; clear hb
    go_wp2_with fail
    obtain ⟨c0, c1, f1, hlt⟩ := rd_cells (HR.out.next HB.out).here
    go_quiet (fail)
    go_wp2_with fail
    go_ret
    exact ⟨rfl, (grown_of_below HB.out _).trans (grown_drewN _ _ _)⟩
  | some v =>
    have hv := (RqF.numP_some hn).2.2.2
    have HN := Lib.hid hn; clear hn
    by_cases hl : s.size - k ≤ v
    · clear h
      go_enter Tryz.func38, Tryz.ntmps38
      go_wp2_with fail
      refine (rnumber_some t v _ ht HR.out.tabsM.toTabsP HN.out).mono ?_
      rintro e w1 ⟨rfl, hb⟩
      have HB := Lib.hid hb; clear hb
      go_wp2_with fail
      obtain ⟨c0, c1, f1, hlt⟩ := rd_cells (HR.out.next HB.out).here
      have hd : decide ((s.size : Int) - (k : Int) ≤ (v : Int)) = true := by rw [decide_eq_true_eq]; omega
      go_quiet (fail)
      go_wp2_with fail
      go_ret
      exact ⟨rfl, (grown_of_below HB.out _).trans (grown_drewN _ _ _)⟩
    · have hlt0 : k + v < s.size := by omega
      have hb : s[k + v] ≠ 10 := by
        rw [byte_get s _ hlt0]
        intro e
        unfold RqF.valueR at h
        rw [HN.out] at h
        simp only [List.drop_drop] at h
        rw [List.drop_eq_getElem_cons (by rw [← Lib.size_eq]; exact hlt0)] at h
        simp only at h
        rw [if_pos e] at h
        cases h
      have HBy : Hid (s[k + v] ≠ 10) := hb
      clear h hb
      go_enter Tryz.func38, Tryz.ntmps38
      go_wp2_with fail
      refine (rnumber_some t v _ ht HR.out.tabsM.toTabsP HN.out).mono ?_
      rintro e w1 ⟨rfl, hb⟩
      have HB := Lib.hid hb; clear hb
      go_wp2_with fail
      obtain ⟨c0, c1, f1, hlt⟩ := rd_cells (HR.out.next HB.out).here
      have hd : decide ((s.size : Int) - (k : Int) ≤ (v : Int)) = false := by rw [decide_eq_false_iff_not]; omega
      have hsub : IntKind.i64.wrap ((s.size : Int) - (k : Int)) = (s.size : Int) - (k : Int) := IntWalk.i64_in _ (by omega)
      have hsum : IntKind.i64.wrap ((k : Int) + (v : Int)) = (k : Int) + (v : Int) := IntWalk.i64_in _ (by omega)
      have hsum0 : (0 : Int) ≤ (k : Int) + (v : Int) := by omega
      have hsumN : ((k : Int) + (v : Int)).toNat = k + v := by omega
      have hidx := index_str s (k + v) ((k : Int) + (v : Int)) (by omega) hlt0
      have hne : (((s[k + v]'hlt0).toNat : Int) == 10) = false := by
        rw [beq_eq_false_iff_ne]
        intro e
        exact HBy.out (UInt8.toNat_inj.1 (by show (s[k + v]'hlt0).toNat = 10; omega))
      have hne2 : (((s[k + v]'hlt0).toNat : Int) != 10) = true := by rw [bne, hne]; rfl
      go_quiet (fail)
      go_wp2_with fail
      go_ret
      exact ⟨rfl, (grown_of_below HB.out _).trans (grown_drewN _ _ _)⟩
set_option maxRecDepth 100000 in
set_option maxHeartbeats 1000000 in
theorem value_yes (W : World) (br k : Nat) (s t : ByteArray) (r : List UInt8) (w : World) (hR : Rd W br s k w) (ht : t.size ≤ 281474976710656) (h : RqF.valueR t.data.toList (s.data.toList.drop k) = some r) :
    Calls Tryz.prog 38 #[.pointer (some ⟨br, 0, none⟩), .string t] w (ReadYes W br s r w) := by
  have hk := hR.le
  have hs := hR.small
  have HR := Lib.hid hR; clear hR
  unfold RqF.valueR at h
  cases hn : RqF.numP t.data.toList with
  | none => rw [hn] at h; cases h
  | some v =>
    rw [hn] at h
    have hv := (RqF.numP_some hn).2.2.2
    have HN := Lib.hid hn; clear hn
    simp only [List.drop_drop] at h
    have hlt0 : k + v < s.size := by
      rcases Nat.lt_or_ge (k + v) s.size with h1 | h1
      · exact h1
      · rw [List.drop_eq_nil_of_le (by rw [← Lib.size_eq]; exact h1)] at h; cases h
    rw [List.drop_eq_getElem_cons (by rw [← Lib.size_eq]; exact hlt0)] at h
    simp only at h
    split at h
    · rename_i hb
      rw [← byte_get s _ hlt0] at hb
      injection h with h
      have HBy : Hid (s[k + v] = 10) := hb
      have HRr : Hid (r = s.data.toList.drop (k + (v + 1))) := h.symm
      clear h hb
      go_enter Tryz.func38, Tryz.ntmps38
      go_wp2_with fail
      refine (rnumber_some t v _ ht HR.out.tabsM.toTabsP HN.out).mono ?_
      rintro e w1 ⟨rfl, hb⟩
      have HB := Lib.hid hb; clear hb
      go_wp2_with fail
      have HR1 := Lib.hid (HR.out.next HB.out)
      obtain ⟨c0, c1, f1, hlt⟩ := rd_cells HR1.out.here
      have hd : decide ((s.size : Int) - (k : Int) ≤ (v : Int)) = false := by rw [decide_eq_false_iff_not]; omega
      have hsub : IntKind.i64.wrap ((s.size : Int) - (k : Int)) = (s.size : Int) - (k : Int) := IntWalk.i64_in _ (by omega)
      have hsum : IntKind.i64.wrap ((k : Int) + (v : Int)) = (k : Int) + (v : Int) := IntWalk.i64_in _ (by omega)
      have hsum0 : (0 : Int) ≤ (k : Int) + (v : Int) := by omega
      have hsumN : ((k : Int) + (v : Int)).toNat = k + v := by omega
      have hidx := index_str s (k + v) ((k : Int) + (v : Int)) (by omega) hlt0
      have hne : (((s[k + v]'hlt0).toNat : Int) == 10) = true := by
        rw [beq_iff_eq, HBy.out]; rfl
      have hne2 : (((s[k + v]'hlt0).toNat : Int) != 10) = false := by rw [bne, hne]; rfl
      go_quiet (fail)
      clear hd hsub hsum hsum0 hsumN hidx hne hne2
      go_wp2_with fail
      go_ret
      exact ⟨rfl, ⟨_, HRr.out, (HR1.out.drewN nq).setI (by omega) (by omega)⟩, (grown_of_below HB.out _).trans (grown_set (grown_drewN _ _ _) _)⟩
    · cases h
end Go.Proofs.YtnjmhneobgmejaaGreatDoor
