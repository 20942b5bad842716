/- The walk of the document's take. Conditions: the text is of at most 2^48 bytes. -/
import Derived.Test.YtbhgdpchehkchaaGreatDoorRef18F
import Derived.BigRegion
namespace Go.Proofs.YtbhgdpchehkchaaGreatDoor
open Go.RowKit

/-- What take hands back. -/
def TakeRet (p : Nat) (c : RqF.Cmd) (l : List UInt8) (w : World) (e : Ending) (w' : World) : Prop :=
  ∃ c' : RqF.Cmd, e = .returned (.tuple #[.agg (cmdCells c'), .bool (RqF.readP p c l).isSome]) ∧ (∀ d, RqF.readP p c l = some d → c' = d) ∧ Below w.heap.size w w'
theorem take_results (tmps : Array Value) (w : World) (b : Nat) (cs : Array Value) (v : Value) (hp : tmps.getD 8 undef = .pointer (some ⟨b, 0, none⟩)) (hv : tmps.getD 9 undef = v)
    (hb : w.heap[b]? = some (.cells cs 41 (0, 0))) (hn : cs.size = 8) : (results Tryz.f38 tmps).run Tryz.prog w = .ok (.tuple #[.agg cs, v]) w := by
  have hi : (Tryz.prog.info? 41).map (·.size) = some cs.size := by rw [hn]; kernel_rfl
  rw [results_cell_tmp rfl, hp, hv]
  simp only [asAddr, Sem.run_pure, Result.andThen_ok, run_loadVar_row w b 41 41 cs (0, 0) _ hb Tryz.underlying41 rfl hi]

theorem cells8 {b : Nat} {c : RqF.Cmd} {w : World} {t : TypeId} {z : Nat × Nat} (h : w.heap[b]? = some (.cells (cmdCells c) t z)) : w.cell? ⟨b, 0, none⟩ = some (.int .i64 c.kind) ∧ w.cell? ⟨b, 1, none⟩ = some (.string ⟨c.key.toArray⟩) ∧ w.cell? ⟨b, 2, none⟩ = some (.string ⟨c.lo.toArray⟩) ∧ w.cell? ⟨b, 3, none⟩ = some (.string ⟨c.hi.toArray⟩) ∧
    w.cell? ⟨b, 4, none⟩ = some (.float .f64 c.a) ∧ w.cell? ⟨b, 5, none⟩ = some (.float .f64 c.b) ∧ w.cell? ⟨b, 6, none⟩ = some (.int .i64 c.n) ∧ w.cell? ⟨b, 7, none⟩ = some (.int .i64 c.id) :=
  ⟨blk_cell h rfl, blk_cell h rfl, blk_cell h rfl, blk_cell h rfl, blk_cell h rfl, blk_cell h rfl, blk_cell h rfl, blk_cell h rfl⟩
theorem grown_setCells {w : World} {b : Nat} : ∀ (vs : List Value) (o : Nat) (w1 : World), w.grownBy w1 (some b) → w.grownBy (w1.setCells b o vs) (some b)
  | [], _, _, h => h
  | v :: r, o, _, h => grown_setCells r (o + 1) _ (grown_set h v)
theorem set8 {w : World} {b : Nat} {cs : Array Value} {t : TypeId} (h : w.heap[b]? = some (.cells cs t (0, 0))) (hn : cs.size = 8) (v0 v1 v2 v3 v4 v5 v6 v7 : Value) :
    w.grownBy ((((((((w.setCell ⟨b, 0, none⟩ v0).setCell ⟨b, 1, none⟩ v1).setCell ⟨b, 2, none⟩ v2).setCell ⟨b, 3, none⟩ v3).setCell ⟨b, 4, none⟩ v4).setCell ⟨b, 5, none⟩ v5).setCell ⟨b, 6, none⟩ v6).setCell ⟨b, 7, none⟩ v7) (some b) ∧
    ((((((((w.setCell ⟨b, 0, none⟩ v0).setCell ⟨b, 1, none⟩ v1).setCell ⟨b, 2, none⟩ v2).setCell ⟨b, 3, none⟩ v3).setCell ⟨b, 4, none⟩ v4).setCell ⟨b, 5, none⟩ v5).setCell ⟨b, 6, none⟩ v6).setCell ⟨b, 7, none⟩ v7).heap[b]? = some (.cells #[v0, v1, v2, v3, v4, v5, v6, v7] t (0, 0)) := by
  refine ⟨grown_setCells [v0, v1, v2, v3, v4, v5, v6, v7] 0 w (World.grownBy.refl _ _), ?_⟩
  have e := blk_setCells [v0, v1, v2, v3, v4, v5, v6, v7] 0 w cs h (by simp; omega)
  have e2 : cs.extract 0 0 ++ [v0, v1, v2, v3, v4, v5, v6, v7].toArray = #[v0, v1, v2, v3, v4, v5, v6, v7] := by simp
  rw [e2] at e
  exact e
theorem two_world (w : World) (A B : Obj) : Below w.heap.size w ((w.alloc A).alloc B) ∧ ((w.alloc A).alloc B).heap[w.heap.size]? = some A ∧ ((w.alloc A).alloc B).heap[w.heap.size + 1]? = some B ∧ ((w.alloc A).alloc B).heap.size = w.heap.size + 2 := by
  have e : (w.alloc A).heap.size = w.heap.size + 1 := Array.size_push _
  refine ⟨((Below.refl _ _).alloc (Nat.le_refl _) _).alloc (by rw [e]; omega) _, ?_, ?_, ?_⟩
  · rw [heap_alloc_old _ _ (show w.heap.size < (w.alloc A).heap.size by rw [e]; omega)]
    exact heap_alloc_new _ _
  · rw [← e]
    exact heap_alloc_new _ _
  · show ((w.alloc A).heap.push B).size = _
    rw [Array.size_push, e]

set_option maxRecDepth 100000 in
set_option maxHeartbeats 1000000 in
theorem take_k (c : RqF.Cmd) (s : ByteArray) (bnd : Int) (w : World) (hs : s.size ≤ 281474976710656) :
    Calls Tryz.prog 38 #[.agg #[.int .i64 c.kind, .string ⟨c.key.toArray⟩, .string ⟨c.lo.toArray⟩, .string ⟨c.hi.toArray⟩, .float .f64 c.a, .float .f64 c.b, .int .i64 c.n, .int .i64 c.id], .int .u8 107, .string s, .int .i64 bnd] w (TakeRet 0 c s.data.toList w) := by
  go_enter Tryz.func38, Tryz.ntmps38
  go_upto_region 4 with (fail)
  have H := two_world w (.cells #[.int .i64 c.kind, .string s, .string ⟨c.lo.toArray⟩, .string ⟨c.hi.toArray⟩, .float .f64 c.a, .float .f64 c.b, .int .i64 c.n, .int .i64 c.id] 41) (.cells #[.int .i64 0, .string ⟨#[]⟩, .string ⟨#[]⟩, .string ⟨#[]⟩, .float .f64 0, .float .f64 0, .int .i64 0, .int .i64 0] 41)
  revert H
  generalize (w.alloc _).alloc _ = W
  rintro ⟨hbl, hbc, hbr, hsz⟩
  have HBL := Lib.hid hbl; clear hbl
  revert hbc hbr hsz
  generalize hbe : w.heap.size = bc
  have HBE := Lib.hid hbe; clear hbe
  intro hbc hbr hsz
  obtain ⟨g0, g1, g2, g3, g4, g5, g6, g7⟩ := cells8 (c := { c with key := s.data.toList }) hbc
  have HBR := Lib.hid hbr
  clear hbr hsz hbc
  refine wp_region_still_tail 3 (by kernel_rfl) (by kernel_rfl) ?_
  simp only [List.take_succ_cons, List.take_zero, List.drop_succ_cons, List.drop_zero]
  still_step
  still_step
  still_call ((name_any s _ (by omega)).mono fun e w' ⟨he, hw⟩ => ⟨he, hw.symm⟩)
  refine wpStill_nil ?_
  change wpList _ _ _ _ _ W.drew
  refine stepStoreRow rfl 41 (.tmp 8) (.tmp 17) rfl _ #[.int .i64 c.kind, .string s, .string ⟨c.lo.toArray⟩, .string ⟨c.hi.toArray⟩, .float .f64 c.a, .float .f64 c.b, .int .i64 c.n, .int .i64 c.id] _ _ rfl rfl (show W.drew.heap[bc + 1]? = _ from HBR.out) rfl (by kernel_rfl) (by kernel_rfl) ?_
  intro w' hg1 hb1 hs1
  go_wp2_with fail
  refine bodyPost_ret (take_results _ _ _ _ _ rfl rfl hb1 rfl) rfl ⟨{ c with key := s.data.toList }, ?_, ?_, below_of_grown (below_drewN HBL.out 1) hg1 (by rw [HBE.out]; omega)⟩
  · show Ending.returned (.tuple #[.agg (cmdCells { c with key := s.data.toList }), .bool (RqF.isWord s.data.toList)]) = _
    unfold RqF.readP
    cases RqF.isWord s.data.toList <;> rfl
  · intro d hd
    unfold RqF.readP at hd
    simp only at hd
    split at hd
    · injection hd
    · cases hd

set_option maxRecDepth 100000 in
set_option maxHeartbeats 1000000 in
theorem take_n (c : RqF.Cmd) (s : ByteArray) (bnd : Int) (w : World) (hs : s.size ≤ 281474976710656) :
    Calls Tryz.prog 38 #[.agg #[.int .i64 c.kind, .string ⟨c.key.toArray⟩, .string ⟨c.lo.toArray⟩, .string ⟨c.hi.toArray⟩, .float .f64 c.a, .float .f64 c.b, .int .i64 c.n, .int .i64 c.id], .int .u8 110, .string s, .int .i64 bnd] w (TakeRet 3 c s.data.toList w) := by
  go_enter Tryz.func38, Tryz.ntmps38
  go_wp2_with fail
  refine (number18_any s _ (by omega)).mono ?_
  rintro e w1 ⟨rfl, rfl⟩
  obtain ⟨z, hz⟩ : ∃ z, z = numI s.data.toList := ⟨_, rfl⟩
  rw [← hz]
  have HZ := Lib.hid hz; clear hz
  go_upto_region 16 with (fail)
  have H := two_world w (.cells #[.int .i64 c.kind, .string ⟨c.key.toArray⟩, .string ⟨c.lo.toArray⟩, .string ⟨c.hi.toArray⟩, .float .f64 c.a, .float .f64 c.b, .int .i64 z, .int .i64 c.id] 41) (.cells #[.int .i64 0, .string ⟨#[]⟩, .string ⟨#[]⟩, .string ⟨#[]⟩, .float .f64 0, .float .f64 0, .int .i64 0, .int .i64 0] 41)
  revert H
  generalize (w.alloc _).alloc _ = W
  rintro ⟨hbl, hbc, hbr, hsz⟩
  have HBL := Lib.hid hbl; clear hbl
  revert hbc hbr hsz
  generalize hbe : w.heap.size = bc
  have HBE := Lib.hid hbe; clear hbe
  intro hbc hbr hsz
  obtain ⟨g0, g1, g2, g3, g4, g5, g6, g7⟩ := cells8 (c := { c with n := z }) hbc
  have HBR := Lib.hid hbr
  clear hbr hsz hbc
  obtain ⟨r0, r1, r2, r3, r4, r5, r6, r7⟩ := cells8 (c := { kind := 0, key := [], lo := [], hi := [], a := 0, b := 0, n := 0, id := 0 }) HBR.out
  have rf : ∀ o, W.frozen? ⟨bc + 1, o, none⟩ = false := fun o => blk_free HBR.out
  go_region
  clear r0 r1 r2 r3 r4 r5 r6 r7 rf g0 g1 g2 g3 g4 g5 g6 g7
  have HX := set8 (w := W) HBR.out rfl (.int .i64 c.kind) (.string ⟨c.key.toArray⟩) (.string ⟨c.lo.toArray⟩) (.string ⟨c.hi.toArray⟩) (.float .f64 c.a) (.float .f64 c.b) (.int .i64 z) (.int .i64 c.id)
  revert HX
  generalize ((((((((W.setCell _ _).setCell _ _).setCell _ _).setCell _ _).setCell _ _).setCell _ _).setCell _ _).setCell _ _) = X
  rintro ⟨hg1, hb1⟩
  have HG1 := Lib.hid hg1
  have HB1 := Lib.hid hb1
  clear hg1 hb1
  go_wp2_with fail
  refine bodyPost_ret (take_results _ _ (bc + 1) _ _ rfl rfl HB1.out rfl) rfl ⟨{ c with n := z }, ?_, ?_, below_drewN (below_of_grown HBL.out HG1.out (by rw [HBE.out]; omega)) 1⟩
  · show Ending.returned (.tuple #[.agg (cmdCells { c with n := z }), .bool (decide (0 ≤ z))]) = _
    rw [HZ.out]
    unfold RqF.readP numI
    cases RqF.numP s.data.toList with
    | none => rfl
    | some v => simp
  · intro d hd
    rw [HZ.out]
    unfold RqF.readP at hd
    unfold numI
    cases h : RqF.numP s.data.toList with
    | none => rw [h] at hd; cases hd
    | some v => rw [h] at hd; injection hd

set_option maxRecDepth 100000 in
set_option maxHeartbeats 1000000 in
theorem take_i (c : RqF.Cmd) (s : ByteArray) (bnd : Int) (w : World) (hs : s.size ≤ 281474976710656) :
    Calls Tryz.prog 38 #[.agg #[.int .i64 c.kind, .string ⟨c.key.toArray⟩, .string ⟨c.lo.toArray⟩, .string ⟨c.hi.toArray⟩, .float .f64 c.a, .float .f64 c.b, .int .i64 c.n, .int .i64 c.id], .int .u8 105, .string s, .int .i64 bnd] w (TakeRet 4 c s.data.toList w) := by
  go_enter Tryz.func38, Tryz.ntmps38
  go_wp2_with fail
  refine (number18_any s _ (by omega)).mono ?_
  rintro e w1 ⟨rfl, rfl⟩
  obtain ⟨z, hz⟩ : ∃ z, z = numI s.data.toList := ⟨_, rfl⟩
  rw [← hz]
  have HZ := Lib.hid hz; clear hz
  go_upto_region 19 with (fail)
  have H := two_world w (.cells #[.int .i64 c.kind, .string ⟨c.key.toArray⟩, .string ⟨c.lo.toArray⟩, .string ⟨c.hi.toArray⟩, .float .f64 c.a, .float .f64 c.b, .int .i64 c.n, .int .i64 z] 41) (.cells #[.int .i64 0, .string ⟨#[]⟩, .string ⟨#[]⟩, .string ⟨#[]⟩, .float .f64 0, .float .f64 0, .int .i64 0, .int .i64 0] 41)
  revert H
  generalize (w.alloc _).alloc _ = W
  rintro ⟨hbl, hbc, hbr, hsz⟩
  have HBL := Lib.hid hbl; clear hbl
  revert hbc hbr hsz
  generalize hbe : w.heap.size = bc
  have HBE := Lib.hid hbe; clear hbe
  intro hbc hbr hsz
  obtain ⟨g0, g1, g2, g3, g4, g5, g6, g7⟩ := cells8 (c := { c with id := z }) hbc
  have HBR := Lib.hid hbr
  clear hbr hsz hbc
  obtain ⟨r0, r1, r2, r3, r4, r5, r6, r7⟩ := cells8 (c := { kind := 0, key := [], lo := [], hi := [], a := 0, b := 0, n := 0, id := 0 }) HBR.out
  have rf : ∀ o, W.frozen? ⟨bc + 1, o, none⟩ = false := fun o => blk_free HBR.out
  go_region
  clear r0 r1 r2 r3 r4 r5 r6 r7 rf g0 g1 g2 g3 g4 g5 g6 g7
  have HX := set8 (w := W) HBR.out rfl (.int .i64 c.kind) (.string ⟨c.key.toArray⟩) (.string ⟨c.lo.toArray⟩) (.string ⟨c.hi.toArray⟩) (.float .f64 c.a) (.float .f64 c.b) (.int .i64 c.n) (.int .i64 z)
  revert HX
  generalize ((((((((W.setCell _ _).setCell _ _).setCell _ _).setCell _ _).setCell _ _).setCell _ _).setCell _ _).setCell _ _) = X
  rintro ⟨hg1, hb1⟩
  have HG1 := Lib.hid hg1
  have HB1 := Lib.hid hb1
  clear hg1 hb1
  go_wp2_with fail
  refine bodyPost_ret (take_results _ _ (bc + 1) _ _ rfl rfl HB1.out rfl) rfl ⟨{ c with id := z }, ?_, ?_, below_drewN (below_of_grown HBL.out HG1.out (by rw [HBE.out]; omega)) 1⟩
  · show Ending.returned (.tuple #[.agg (cmdCells { c with id := z }), .bool (decide (0 ≤ z))]) = _
    rw [HZ.out]
    unfold RqF.readP numI
    cases RqF.numP s.data.toList with
    | none => rfl
    | some v => simp
  · intro d hd
    rw [HZ.out]
    unfold RqF.readP at hd
    unfold numI
    cases h : RqF.numP s.data.toList with
    | none => rw [h] at hd; cases hd
    | some v => rw [h] at hd; injection hd

set_option maxRecDepth 100000 in
set_option maxHeartbeats 1000000 in
theorem take_b0 (c : RqF.Cmd) (s : ByteArray) (bnd : Int) (w : World) (hs : s.size ≤ 281474976710656) (hb : bnd = 0) :
    Calls Tryz.prog 38 #[.agg #[.int .i64 c.kind, .string ⟨c.key.toArray⟩, .string ⟨c.lo.toArray⟩, .string ⟨c.hi.toArray⟩, .float .f64 c.a, .float .f64 c.b, .int .i64 c.n, .int .i64 c.id], .int .u8 98, .string s, .int .i64 bnd] w (TakeRet 1 c s.data.toList w) := by
  subst hb
  have hr : RqF.readP 1 c s.data.toList = if boundOk s.data.toList then some { c with lo := boundT s.data.toList } else none := bound_some s.data.toList c (fun c l => { c with lo := l })
  have HR := Lib.hid hr; clear hr
  cases hw : RqF.isWord s.data.toList
  · have hst : boundOk s.data.toList = false := by
      unfold boundOk
      rw [if_neg, hw]
      intro e; rw [e] at hw; exact absurd hw (by decide)
    have HST := Lib.hid hst; clear hst
    go_enter Tryz.func38, Tryz.ntmps38
    go_wp2_with fail
    refine (name_any s _ (by omega)).mono ?_
    rintro e w1 ⟨rfl, rfl⟩
    rw [hw]
    clear hw
    go_upto_region 7 with (fail)
    have H := two_world w (.cells #[.int .i64 c.kind, .string ⟨c.key.toArray⟩, .string ⟨c.lo.toArray⟩, .string ⟨c.hi.toArray⟩, .float .f64 c.a, .float .f64 c.b, .int .i64 c.n, .int .i64 c.id] 41) (.cells #[.int .i64 0, .string ⟨#[]⟩, .string ⟨#[]⟩, .string ⟨#[]⟩, .float .f64 0, .float .f64 0, .int .i64 0, .int .i64 0] 41)
    revert H
    generalize (w.alloc _).alloc _ = W
    rintro ⟨hbl, hbc, hbr, hsz⟩
    have HBL := Lib.hid hbl; clear hbl
    revert hbc hbr hsz
    generalize hbe : w.heap.size = bc
    have HBE := Lib.hid hbe; clear hbe
    intro hbc hbr hsz
    obtain ⟨g0, g1, g2, g3, g4, g5, g6, g7⟩ := cells8 (c := c) hbc
    have HBR := Lib.hid hbr
    have HBC := Lib.hid hbc
    clear hbr hsz hbc
    go_step
    refine wpList_load_row rfl 41 (.tmp 4) rfl bc rfl 41 #[.int .i64 c.kind, .string ⟨c.key.toArray⟩, .string ⟨c.lo.toArray⟩, .string ⟨c.hi.toArray⟩, .float .f64 c.a, .float .f64 c.b, .int .i64 c.n, .int .i64 c.id] (0, 0) _ HBC.out Tryz.underlying41 rfl (by kernel_rfl) ?_
    refine stepStoreRow rfl 41 (.tmp 8) (.tmp 25) rfl _ #[.int .i64 c.kind, .string ⟨c.key.toArray⟩, .string ⟨c.lo.toArray⟩, .string ⟨c.hi.toArray⟩, .float .f64 c.a, .float .f64 c.b, .int .i64 c.n, .int .i64 c.id] _ _ rfl rfl HBR.out rfl (by kernel_rfl) (by kernel_rfl) ?_
    intro w' hg1 hb1 hs1
    go_wp2_with fail
    refine bodyPost_ret (take_results _ _ _ _ _ rfl rfl hb1 rfl) rfl ⟨c, ?_, ?_, below_of_grown HBL.out hg1 (by rw [HBE.out]; omega)⟩
    · show Ending.returned (.tuple #[.agg (cmdCells c), .bool false]) = _
      rw [HR.out, HST.out]; rfl
    · intro d hd
      rw [HR.out, HST.out] at hd; cases hd
  · have hst : boundOk s.data.toList = true := by
      unfold boundOk
      by_cases e : s.data.toList = [42]
      · rw [if_pos e]
      · rw [if_neg e, hw]
    have HST := Lib.hid hst; clear hst
    cases hn : (s.toList == [42])
    · have HT : Hid (boundT s.data.toList = s.data.toList) := by
        show _ = _
        unfold boundT
        rw [if_neg (by rw [← ByteArray.toList_eq]; exact beq_eq_false_iff_ne.1 hn)]
      go_enter Tryz.func38, Tryz.ntmps38
      go_wp2_with fail
      refine (name_any s _ (by omega)).mono ?_
      rintro e w1 ⟨rfl, rfl⟩
      rw [hw]
      clear hw
      go_upto_region 13 with (fail)
      have H := two_world w (.cells #[.int .i64 c.kind, .string ⟨c.key.toArray⟩, .string s, .string ⟨c.hi.toArray⟩, .float .f64 c.a, .float .f64 c.b, .int .i64 c.n, .int .i64 c.id] 41) (.cells #[.int .i64 0, .string ⟨#[]⟩, .string ⟨#[]⟩, .string ⟨#[]⟩, .float .f64 0, .float .f64 0, .int .i64 0, .int .i64 0] 41)
      revert H
      generalize (w.alloc _).alloc _ = W
      rintro ⟨hbl, hbc, hbr, hsz⟩
      have HBL := Lib.hid hbl; clear hbl
      revert hbc hbr hsz
      generalize hbe : w.heap.size = bc
      have HBE := Lib.hid hbe; clear hbe
      intro hbc hbr hsz
      obtain ⟨g0, g1, g2, g3, g4, g5, g6, g7⟩ := cells8 (c := { c with lo := s.data.toList }) hbc
      have HBR := Lib.hid hbr
      have HBC := Lib.hid hbc
      clear hbr hsz hbc
      go_step
      refine wpList_load_row rfl 41 (.tmp 4) rfl bc rfl 41 #[.int .i64 c.kind, .string ⟨c.key.toArray⟩, .string s, .string ⟨c.hi.toArray⟩, .float .f64 c.a, .float .f64 c.b, .int .i64 c.n, .int .i64 c.id] (0, 0) _ HBC.out Tryz.underlying41 rfl (by kernel_rfl) ?_
      refine stepStoreRow rfl 41 (.tmp 8) (.tmp 34) rfl _ #[.int .i64 c.kind, .string ⟨c.key.toArray⟩, .string s, .string ⟨c.hi.toArray⟩, .float .f64 c.a, .float .f64 c.b, .int .i64 c.n, .int .i64 c.id] _ _ rfl rfl HBR.out rfl (by kernel_rfl) (by kernel_rfl) ?_
      intro w' hg1 hb1 hs1
      go_wp2_with fail
      refine bodyPost_ret (take_results _ _ _ _ _ rfl rfl hb1 rfl) rfl ⟨{ c with lo := s.data.toList }, ?_, ?_, below_of_grown HBL.out hg1 (by rw [HBE.out]; omega)⟩
      · show Ending.returned (.tuple #[.agg (cmdCells { c with lo := s.data.toList }), .bool true]) = _
        rw [HR.out, HST.out]; rfl
      · intro d hd
        rw [HR.out, HST.out, HT.out] at hd
        injection hd
    · have HT : Hid (boundT s.data.toList = []) := by
        show _ = _
        unfold boundT
        rw [if_pos (by rw [← ByteArray.toList_eq]; exact beq_iff_eq.1 hn)]
      go_enter Tryz.func38, Tryz.ntmps38
      go_wp2_with fail
      refine (name_any s _ (by omega)).mono ?_
      rintro e w1 ⟨rfl, rfl⟩
      rw [hw]
      clear hw
      go_upto_region 13 with (fail)
      have H := two_world w (.cells #[.int .i64 c.kind, .string ⟨c.key.toArray⟩, .string ⟨#[]⟩, .string ⟨c.hi.toArray⟩, .float .f64 c.a, .float .f64 c.b, .int .i64 c.n, .int .i64 c.id] 41) (.cells #[.int .i64 0, .string ⟨#[]⟩, .string ⟨#[]⟩, .string ⟨#[]⟩, .float .f64 0, .float .f64 0, .int .i64 0, .int .i64 0] 41)
      revert H
      generalize (w.alloc _).alloc _ = W
      rintro ⟨hbl, hbc, hbr, hsz⟩
      have HBL := Lib.hid hbl; clear hbl
      revert hbc hbr hsz
      generalize hbe : w.heap.size = bc
      have HBE := Lib.hid hbe; clear hbe
      intro hbc hbr hsz
      obtain ⟨g0, g1, g2, g3, g4, g5, g6, g7⟩ := cells8 (c := { c with lo := [] }) hbc
      have HBR := Lib.hid hbr
      have HBC := Lib.hid hbc
      clear hbr hsz hbc
      go_step
      refine wpList_load_row rfl 41 (.tmp 4) rfl bc rfl 41 #[.int .i64 c.kind, .string ⟨c.key.toArray⟩, .string ⟨#[]⟩, .string ⟨c.hi.toArray⟩, .float .f64 c.a, .float .f64 c.b, .int .i64 c.n, .int .i64 c.id] (0, 0) _ HBC.out Tryz.underlying41 rfl (by kernel_rfl) ?_
      refine stepStoreRow rfl 41 (.tmp 8) (.tmp 34) rfl _ #[.int .i64 c.kind, .string ⟨c.key.toArray⟩, .string ⟨#[]⟩, .string ⟨c.hi.toArray⟩, .float .f64 c.a, .float .f64 c.b, .int .i64 c.n, .int .i64 c.id] _ _ rfl rfl HBR.out rfl (by kernel_rfl) (by kernel_rfl) ?_
      intro w' hg1 hb1 hs1
      go_wp2_with fail
      refine bodyPost_ret (take_results _ _ _ _ _ rfl rfl hb1 rfl) rfl ⟨{ c with lo := [] }, ?_, ?_, below_of_grown HBL.out hg1 (by rw [HBE.out]; omega)⟩
      · show Ending.returned (.tuple #[.agg (cmdCells { c with lo := [] }), .bool true]) = _
        rw [HR.out, HST.out]; rfl
      · intro d hd
        rw [HR.out, HST.out, HT.out] at hd
        injection hd

set_option maxRecDepth 100000 in
set_option maxHeartbeats 1000000 in
theorem take_b1 (c : RqF.Cmd) (s : ByteArray) (bnd : Int) (w : World) (hs : s.size ≤ 281474976710656) (hb : bnd = 1) :
    Calls Tryz.prog 38 #[.agg #[.int .i64 c.kind, .string ⟨c.key.toArray⟩, .string ⟨c.lo.toArray⟩, .string ⟨c.hi.toArray⟩, .float .f64 c.a, .float .f64 c.b, .int .i64 c.n, .int .i64 c.id], .int .u8 98, .string s, .int .i64 bnd] w (TakeRet 2 c s.data.toList w) := by
  subst hb
  have hr : RqF.readP 2 c s.data.toList = if boundOk s.data.toList then some { c with hi := boundT s.data.toList } else none := bound_some s.data.toList c (fun c l => { c with hi := l })
  have HR := Lib.hid hr; clear hr
  cases hw : RqF.isWord s.data.toList
  · have hst : boundOk s.data.toList = false := by
      unfold boundOk
      rw [if_neg, hw]
      intro e; rw [e] at hw; exact absurd hw (by decide)
    have HST := Lib.hid hst; clear hst
    go_enter Tryz.func38, Tryz.ntmps38
    go_wp2_with fail
    refine (name_any s _ (by omega)).mono ?_
    rintro e w1 ⟨rfl, rfl⟩
    rw [hw]
    clear hw
    go_upto_region 7 with (fail)
    have H := two_world w (.cells #[.int .i64 c.kind, .string ⟨c.key.toArray⟩, .string ⟨c.lo.toArray⟩, .string ⟨c.hi.toArray⟩, .float .f64 c.a, .float .f64 c.b, .int .i64 c.n, .int .i64 c.id] 41) (.cells #[.int .i64 0, .string ⟨#[]⟩, .string ⟨#[]⟩, .string ⟨#[]⟩, .float .f64 0, .float .f64 0, .int .i64 0, .int .i64 0] 41)
    revert H
    generalize (w.alloc _).alloc _ = W
    rintro ⟨hbl, hbc, hbr, hsz⟩
    have HBL := Lib.hid hbl; clear hbl
    revert hbc hbr hsz
    generalize hbe : w.heap.size = bc
    have HBE := Lib.hid hbe; clear hbe
    intro hbc hbr hsz
    obtain ⟨g0, g1, g2, g3, g4, g5, g6, g7⟩ := cells8 (c := c) hbc
    have HBR := Lib.hid hbr
    have HBC := Lib.hid hbc
    clear hbr hsz hbc
    go_step
    refine wpList_load_row rfl 41 (.tmp 4) rfl bc rfl 41 #[.int .i64 c.kind, .string ⟨c.key.toArray⟩, .string ⟨c.lo.toArray⟩, .string ⟨c.hi.toArray⟩, .float .f64 c.a, .float .f64 c.b, .int .i64 c.n, .int .i64 c.id] (0, 0) _ HBC.out Tryz.underlying41 rfl (by kernel_rfl) ?_
    refine stepStoreRow rfl 41 (.tmp 8) (.tmp 25) rfl _ #[.int .i64 c.kind, .string ⟨c.key.toArray⟩, .string ⟨c.lo.toArray⟩, .string ⟨c.hi.toArray⟩, .float .f64 c.a, .float .f64 c.b, .int .i64 c.n, .int .i64 c.id] _ _ rfl rfl HBR.out rfl (by kernel_rfl) (by kernel_rfl) ?_
    intro w' hg1 hb1 hs1
    go_wp2_with fail
    refine bodyPost_ret (take_results _ _ _ _ _ rfl rfl hb1 rfl) rfl ⟨c, ?_, ?_, below_of_grown HBL.out hg1 (by rw [HBE.out]; omega)⟩
    · show Ending.returned (.tuple #[.agg (cmdCells c), .bool false]) = _
      rw [HR.out, HST.out]; rfl
    · intro d hd
      rw [HR.out, HST.out] at hd; cases hd
  · have hst : boundOk s.data.toList = true := by
      unfold boundOk
      by_cases e : s.data.toList = [42]
      · rw [if_pos e]
      · rw [if_neg e, hw]
    have HST := Lib.hid hst; clear hst
    cases hn : (s.toList == [42])
    · have HT : Hid (boundT s.data.toList = s.data.toList) := by
        show _ = _
        unfold boundT
        rw [if_neg (by rw [← ByteArray.toList_eq]; exact beq_eq_false_iff_ne.1 hn)]
      go_enter Tryz.func38, Tryz.ntmps38
      go_wp2_with fail
      refine (name_any s _ (by omega)).mono ?_
      rintro e w1 ⟨rfl, rfl⟩
      rw [hw]
      clear hw
      go_upto_region 13 with (fail)
      have H := two_world w (.cells #[.int .i64 c.kind, .string ⟨c.key.toArray⟩, .string ⟨c.lo.toArray⟩, .string s, .float .f64 c.a, .float .f64 c.b, .int .i64 c.n, .int .i64 c.id] 41) (.cells #[.int .i64 0, .string ⟨#[]⟩, .string ⟨#[]⟩, .string ⟨#[]⟩, .float .f64 0, .float .f64 0, .int .i64 0, .int .i64 0] 41)
      revert H
      generalize (w.alloc _).alloc _ = W
      rintro ⟨hbl, hbc, hbr, hsz⟩
      have HBL := Lib.hid hbl; clear hbl
      revert hbc hbr hsz
      generalize hbe : w.heap.size = bc
      have HBE := Lib.hid hbe; clear hbe
      intro hbc hbr hsz
      obtain ⟨g0, g1, g2, g3, g4, g5, g6, g7⟩ := cells8 (c := { c with hi := s.data.toList }) hbc
      have HBR := Lib.hid hbr
      have HBC := Lib.hid hbc
      clear hbr hsz hbc
      go_step
      refine wpList_load_row rfl 41 (.tmp 4) rfl bc rfl 41 #[.int .i64 c.kind, .string ⟨c.key.toArray⟩, .string ⟨c.lo.toArray⟩, .string s, .float .f64 c.a, .float .f64 c.b, .int .i64 c.n, .int .i64 c.id] (0, 0) _ HBC.out Tryz.underlying41 rfl (by kernel_rfl) ?_
      refine stepStoreRow rfl 41 (.tmp 8) (.tmp 34) rfl _ #[.int .i64 c.kind, .string ⟨c.key.toArray⟩, .string ⟨c.lo.toArray⟩, .string s, .float .f64 c.a, .float .f64 c.b, .int .i64 c.n, .int .i64 c.id] _ _ rfl rfl HBR.out rfl (by kernel_rfl) (by kernel_rfl) ?_
      intro w' hg1 hb1 hs1
      go_wp2_with fail
      refine bodyPost_ret (take_results _ _ _ _ _ rfl rfl hb1 rfl) rfl ⟨{ c with hi := s.data.toList }, ?_, ?_, below_of_grown HBL.out hg1 (by rw [HBE.out]; omega)⟩
      · show Ending.returned (.tuple #[.agg (cmdCells { c with hi := s.data.toList }), .bool true]) = _
        rw [HR.out, HST.out]; rfl
      · intro d hd
        rw [HR.out, HST.out, HT.out] at hd
        injection hd
    · have HT : Hid (boundT s.data.toList = []) := by
        show _ = _
        unfold boundT
        rw [if_pos (by rw [← ByteArray.toList_eq]; exact beq_iff_eq.1 hn)]
      go_enter Tryz.func38, Tryz.ntmps38
      go_wp2_with fail
      refine (name_any s _ (by omega)).mono ?_
      rintro e w1 ⟨rfl, rfl⟩
      rw [hw]
      clear hw
      go_upto_region 13 with (fail)
      have H := two_world w (.cells #[.int .i64 c.kind, .string ⟨c.key.toArray⟩, .string ⟨c.lo.toArray⟩, .string ⟨#[]⟩, .float .f64 c.a, .float .f64 c.b, .int .i64 c.n, .int .i64 c.id] 41) (.cells #[.int .i64 0, .string ⟨#[]⟩, .string ⟨#[]⟩, .string ⟨#[]⟩, .float .f64 0, .float .f64 0, .int .i64 0, .int .i64 0] 41)
      revert H
      generalize (w.alloc _).alloc _ = W
      rintro ⟨hbl, hbc, hbr, hsz⟩
      have HBL := Lib.hid hbl; clear hbl
      revert hbc hbr hsz
      generalize hbe : w.heap.size = bc
      have HBE := Lib.hid hbe; clear hbe
      intro hbc hbr hsz
      obtain ⟨g0, g1, g2, g3, g4, g5, g6, g7⟩ := cells8 (c := { c with hi := [] }) hbc
      have HBR := Lib.hid hbr
      have HBC := Lib.hid hbc
      clear hbr hsz hbc
      go_step
      refine wpList_load_row rfl 41 (.tmp 4) rfl bc rfl 41 #[.int .i64 c.kind, .string ⟨c.key.toArray⟩, .string ⟨c.lo.toArray⟩, .string ⟨#[]⟩, .float .f64 c.a, .float .f64 c.b, .int .i64 c.n, .int .i64 c.id] (0, 0) _ HBC.out Tryz.underlying41 rfl (by kernel_rfl) ?_
      refine stepStoreRow rfl 41 (.tmp 8) (.tmp 34) rfl _ #[.int .i64 c.kind, .string ⟨c.key.toArray⟩, .string ⟨c.lo.toArray⟩, .string ⟨#[]⟩, .float .f64 c.a, .float .f64 c.b, .int .i64 c.n, .int .i64 c.id] _ _ rfl rfl HBR.out rfl (by kernel_rfl) (by kernel_rfl) ?_
      intro w' hg1 hb1 hs1
      go_wp2_with fail
      refine bodyPost_ret (take_results _ _ _ _ _ rfl rfl hb1 rfl) rfl ⟨{ c with hi := [] }, ?_, ?_, below_of_grown HBL.out hg1 (by rw [HBE.out]; omega)⟩
      · show Ending.returned (.tuple #[.agg (cmdCells { c with hi := [] }), .bool true]) = _
        rw [HR.out, HST.out]; rfl
      · intro d hd
        rw [HR.out, HST.out, HT.out] at hd
        injection hd

set_option maxRecDepth 100000 in
set_option maxHeartbeats 1000000 in
theorem take_a (c : RqF.Cmd) (s : ByteArray) (bnd : Int) (w : World) (hs : s.size ≤ 281474976710656) :
    Calls Tryz.prog 38 #[.agg #[.int .i64 c.kind, .string ⟨c.key.toArray⟩, .string ⟨c.lo.toArray⟩, .string ⟨c.hi.toArray⟩, .float .f64 c.a, .float .f64 c.b, .int .i64 c.n, .int .i64 c.id], .int .u8 97, .string s, .int .i64 bnd] w (TakeRet 5 c s.data.toList w) := by
  cases hn : (s.toList == [110, 97, 110])
  · have HS : Hid (RqF.scoreP s.data.toList = RqF.parseP s.data.toList) := by
      show _ = _
      unfold RqF.scoreP
      rw [if_neg (by rw [← ByteArray.toList_eq]; exact beq_eq_false_iff_ne.1 hn)]
    cases ho : RqF.parseP s.data.toList with
    | none =>
      have HO := Lib.hid ho; clear ho
      have HR : Hid (RqF.readP 5 c s.data.toList = none) := by
        show (RqF.scoreP s.data.toList).map _ = none
        rw [HS.out, HO.out]; rfl
      go_enter Tryz.func38, Tryz.ntmps38
      go_wp2_with fail
      refine (refparse_any s _ (by omega)).mono ?_
      rintro e w1 ⟨he, rfl⟩
      unfold RefRet at he
      rw [RqF.refP_eq, HO.out] at he
      obtain rfl : e = .returned (.tuple #[.float .f64 0, .bool false]) := he
      go_upto_region 24 with (fail)
      have H := two_world w (.cells #[.int .i64 c.kind, .string ⟨c.key.toArray⟩, .string ⟨c.lo.toArray⟩, .string ⟨c.hi.toArray⟩, .float .f64 0, .float .f64 c.b, .int .i64 c.n, .int .i64 c.id] 41) (.cells #[.int .i64 0, .string ⟨#[]⟩, .string ⟨#[]⟩, .string ⟨#[]⟩, .float .f64 0, .float .f64 0, .int .i64 0, .int .i64 0] 41)
      revert H
      generalize (w.alloc _).alloc _ = W
      rintro ⟨hbl, hbc, hbr, hsz⟩
      have HBL := Lib.hid hbl; clear hbl
      revert hbc hbr hsz
      generalize hbe : w.heap.size = bc
      have HBE := Lib.hid hbe; clear hbe
      intro hbc hbr hsz
      obtain ⟨g0, g1, g2, g3, g4, g5, g6, g7⟩ := cells8 (c := { c with a := 0 }) hbc
      have HBR := Lib.hid hbr
      have HBC := Lib.hid hbc
      clear hbr hsz hbc
      go_step
      refine wpList_load_row rfl 41 (.tmp 4) rfl bc rfl 41 #[.int .i64 c.kind, .string ⟨c.key.toArray⟩, .string ⟨c.lo.toArray⟩, .string ⟨c.hi.toArray⟩, .float .f64 0, .float .f64 c.b, .int .i64 c.n, .int .i64 c.id] (0, 0) _ HBC.out Tryz.underlying41 rfl (by kernel_rfl) ?_
      go_wp2_with (refine stepStoreRow rfl 41 (.tmp 8) (.tmp 64) rfl _ #[.int .i64 c.kind, .string ⟨c.key.toArray⟩, .string ⟨c.lo.toArray⟩, .string ⟨c.hi.toArray⟩, .float .f64 0, .float .f64 c.b, .int .i64 c.n, .int .i64 c.id] _ _ rfl rfl HBR.out rfl (by kernel_rfl) (by kernel_rfl) ?_; intro w' hg1 hb1 hs1)
      refine bodyPost_ret (take_results _ _ _ _ _ rfl rfl hb1 rfl) rfl ⟨{ c with a := 0 }, ?_, ?_, below_of_grown HBL.out hg1 (by rw [HBE.out]; omega)⟩
      · show Ending.returned (.tuple #[.agg _, .bool false]) = _
        rw [HR.out]; rfl
      · intro d hd; rw [HR.out] at hd; cases hd
    | some b =>
      have HO := Lib.hid ho; clear ho
      have HR : Hid (RqF.readP 5 c s.data.toList = some { c with a := b }) := by
        show (RqF.scoreP s.data.toList).map _ = some _
        rw [HS.out, HO.out]; rfl
      go_enter Tryz.func38, Tryz.ntmps38
      go_wp2_with fail
      refine (refparse_any s _ (by omega)).mono ?_
      rintro e w1 ⟨he, rfl⟩
      unfold RefRet at he
      rw [RqF.refP_eq, HO.out] at he
      obtain rfl : e = .returned (.tuple #[.float .f64 b, .bool true]) := he
      go_upto_region 24 with (fail)
      have H := two_world w (.cells #[.int .i64 c.kind, .string ⟨c.key.toArray⟩, .string ⟨c.lo.toArray⟩, .string ⟨c.hi.toArray⟩, .float .f64 b, .float .f64 c.b, .int .i64 c.n, .int .i64 c.id] 41) (.cells #[.int .i64 0, .string ⟨#[]⟩, .string ⟨#[]⟩, .string ⟨#[]⟩, .float .f64 0, .float .f64 0, .int .i64 0, .int .i64 0] 41)
      revert H
      generalize (w.alloc _).alloc _ = W
      rintro ⟨hbl, hbc, hbr, hsz⟩
      have HBL := Lib.hid hbl; clear hbl
      revert hbc hbr hsz
      generalize hbe : w.heap.size = bc
      have HBE := Lib.hid hbe; clear hbe
      intro hbc hbr hsz
      obtain ⟨g0, g1, g2, g3, g4, g5, g6, g7⟩ := cells8 (c := { c with a := b }) hbc
      have HBR := Lib.hid hbr
      have HBC := Lib.hid hbc
      clear hbr hsz hbc
      go_step
      refine wpList_load_row rfl 41 (.tmp 4) rfl bc rfl 41 #[.int .i64 c.kind, .string ⟨c.key.toArray⟩, .string ⟨c.lo.toArray⟩, .string ⟨c.hi.toArray⟩, .float .f64 b, .float .f64 c.b, .int .i64 c.n, .int .i64 c.id] (0, 0) _ HBC.out Tryz.underlying41 rfl (by kernel_rfl) ?_
      go_wp2_with (refine stepStoreRow rfl 41 (.tmp 8) (.tmp 64) rfl _ #[.int .i64 c.kind, .string ⟨c.key.toArray⟩, .string ⟨c.lo.toArray⟩, .string ⟨c.hi.toArray⟩, .float .f64 b, .float .f64 c.b, .int .i64 c.n, .int .i64 c.id] _ _ rfl rfl HBR.out rfl (by kernel_rfl) (by kernel_rfl) ?_; intro w' hg1 hb1 hs1)
      refine bodyPost_ret (take_results _ _ _ _ _ rfl rfl hb1 rfl) rfl ⟨{ c with a := b }, ?_, ?_, below_of_grown HBL.out hg1 (by rw [HBE.out]; omega)⟩
      · rw [HR.out]; rfl
      · intro d hd; rw [HR.out] at hd; injection hd
  · have hs2 : s.data.toList = [110, 97, 110] := by rw [← ByteArray.toList_eq]; exact beq_iff_eq.1 hn
    have HO : Hid (RqF.parseP s.data.toList = some 9221120237041090561) := by
      show _ = _; rw [hs2]; rfl
    have HR : Hid (RqF.readP 5 c s.data.toList = none) := by
      show (RqF.scoreP s.data.toList).map _ = none
      rw [hs2]; rfl
    clear hs2
    go_enter Tryz.func38, Tryz.ntmps38
    go_wp2_with fail
    refine (refparse_any s _ (by omega)).mono ?_
    rintro e w1 ⟨he, rfl⟩
    unfold RefRet at he
    rw [RqF.refP_eq, HO.out] at he
    obtain rfl : e = .returned (.tuple #[.float .f64 9221120237041090561, .bool true]) := he
    go_upto_region 24 with (fail)
    have H := two_world w (.cells #[.int .i64 c.kind, .string ⟨c.key.toArray⟩, .string ⟨c.lo.toArray⟩, .string ⟨c.hi.toArray⟩, .float .f64 9221120237041090561, .float .f64 c.b, .int .i64 c.n, .int .i64 c.id] 41) (.cells #[.int .i64 0, .string ⟨#[]⟩, .string ⟨#[]⟩, .string ⟨#[]⟩, .float .f64 0, .float .f64 0, .int .i64 0, .int .i64 0] 41)
    revert H
    generalize (w.alloc _).alloc _ = W
    rintro ⟨hbl, hbc, hbr, hsz⟩
    have HBL := Lib.hid hbl; clear hbl
    revert hbc hbr hsz
    generalize hbe : w.heap.size = bc
    have HBE := Lib.hid hbe; clear hbe
    intro hbc hbr hsz
    obtain ⟨g0, g1, g2, g3, g4, g5, g6, g7⟩ := cells8 (c := { c with a := 9221120237041090561 }) hbc
    have HBR := Lib.hid hbr
    have HBC := Lib.hid hbc
    clear hbr hsz hbc
    go_step
    refine wpList_load_row rfl 41 (.tmp 4) rfl bc rfl 41 #[.int .i64 c.kind, .string ⟨c.key.toArray⟩, .string ⟨c.lo.toArray⟩, .string ⟨c.hi.toArray⟩, .float .f64 9221120237041090561, .float .f64 c.b, .int .i64 c.n, .int .i64 c.id] (0, 0) _ HBC.out Tryz.underlying41 rfl (by kernel_rfl) ?_
    go_wp2_with (refine stepStoreRow rfl 41 (.tmp 8) (.tmp 64) rfl _ #[.int .i64 c.kind, .string ⟨c.key.toArray⟩, .string ⟨c.lo.toArray⟩, .string ⟨c.hi.toArray⟩, .float .f64 9221120237041090561, .float .f64 c.b, .int .i64 c.n, .int .i64 c.id] _ _ rfl rfl HBR.out rfl (by kernel_rfl) (by kernel_rfl) ?_; intro w' hg1 hb1 hs1)
    refine bodyPost_ret (take_results _ _ _ _ _ rfl rfl hb1 rfl) rfl ⟨{ c with a := 9221120237041090561 }, ?_, ?_, below_of_grown HBL.out hg1 (by rw [HBE.out]; omega)⟩
    · show Ending.returned (.tuple #[.agg _, .bool false]) = _
      rw [HR.out]; rfl
    · intro d hd; rw [HR.out] at hd; cases hd

set_option maxRecDepth 100000 in
set_option maxHeartbeats 1000000 in
theorem take_c (c : RqF.Cmd) (s : ByteArray) (bnd : Int) (w : World) (hs : s.size ≤ 281474976710656) :
    Calls Tryz.prog 38 #[.agg #[.int .i64 c.kind, .string ⟨c.key.toArray⟩, .string ⟨c.lo.toArray⟩, .string ⟨c.hi.toArray⟩, .float .f64 c.a, .float .f64 c.b, .int .i64 c.n, .int .i64 c.id], .int .u8 99, .string s, .int .i64 bnd] w (TakeRet 6 c s.data.toList w) := by
  cases hn : (s.toList == [110, 97, 110])
  · have HS : Hid (RqF.scoreP s.data.toList = RqF.parseP s.data.toList) := by
      show _ = _
      unfold RqF.scoreP
      rw [if_neg (by rw [← ByteArray.toList_eq]; exact beq_eq_false_iff_ne.1 hn)]
    cases ho : RqF.parseP s.data.toList with
    | none =>
      have HO := Lib.hid ho; clear ho
      have HR : Hid (RqF.readP 6 c s.data.toList = none) := by
        show (RqF.scoreP s.data.toList).map _ = none
        rw [HS.out, HO.out]; rfl
      go_enter Tryz.func38, Tryz.ntmps38
      go_wp2_with fail
      refine (refparse_any s _ (by omega)).mono ?_
      rintro e w1 ⟨he, rfl⟩
      unfold RefRet at he
      rw [RqF.refP_eq, HO.out] at he
      obtain rfl : e = .returned (.tuple #[.float .f64 0, .bool false]) := he
      go_upto_region 24 with (fail)
      have H := two_world w (.cells #[.int .i64 c.kind, .string ⟨c.key.toArray⟩, .string ⟨c.lo.toArray⟩, .string ⟨c.hi.toArray⟩, .float .f64 c.a, .float .f64 0, .int .i64 c.n, .int .i64 c.id] 41) (.cells #[.int .i64 0, .string ⟨#[]⟩, .string ⟨#[]⟩, .string ⟨#[]⟩, .float .f64 0, .float .f64 0, .int .i64 0, .int .i64 0] 41)
      revert H
      generalize (w.alloc _).alloc _ = W
      rintro ⟨hbl, hbc, hbr, hsz⟩
      have HBL := Lib.hid hbl; clear hbl
      revert hbc hbr hsz
      generalize hbe : w.heap.size = bc
      have HBE := Lib.hid hbe; clear hbe
      intro hbc hbr hsz
      obtain ⟨g0, g1, g2, g3, g4, g5, g6, g7⟩ := cells8 (c := { c with b := 0 }) hbc
      have HBR := Lib.hid hbr
      have HBC := Lib.hid hbc
      clear hbr hsz hbc
      go_step
      refine wpList_load_row rfl 41 (.tmp 4) rfl bc rfl 41 #[.int .i64 c.kind, .string ⟨c.key.toArray⟩, .string ⟨c.lo.toArray⟩, .string ⟨c.hi.toArray⟩, .float .f64 c.a, .float .f64 0, .int .i64 c.n, .int .i64 c.id] (0, 0) _ HBC.out Tryz.underlying41 rfl (by kernel_rfl) ?_
      go_wp2_with (refine stepStoreRow rfl 41 (.tmp 8) (.tmp 64) rfl _ #[.int .i64 c.kind, .string ⟨c.key.toArray⟩, .string ⟨c.lo.toArray⟩, .string ⟨c.hi.toArray⟩, .float .f64 c.a, .float .f64 0, .int .i64 c.n, .int .i64 c.id] _ _ rfl rfl HBR.out rfl (by kernel_rfl) (by kernel_rfl) ?_; intro w' hg1 hb1 hs1)
      refine bodyPost_ret (take_results _ _ _ _ _ rfl rfl hb1 rfl) rfl ⟨{ c with b := 0 }, ?_, ?_, below_of_grown HBL.out hg1 (by rw [HBE.out]; omega)⟩
      · show Ending.returned (.tuple #[.agg _, .bool false]) = _
        rw [HR.out]; rfl
      · intro d hd; rw [HR.out] at hd; cases hd
    | some b =>
      have HO := Lib.hid ho; clear ho
      have HR : Hid (RqF.readP 6 c s.data.toList = some { c with b := b }) := by
        show (RqF.scoreP s.data.toList).map _ = some _
        rw [HS.out, HO.out]; rfl
      go_enter Tryz.func38, Tryz.ntmps38
      go_wp2_with fail
      refine (refparse_any s _ (by omega)).mono ?_
      rintro e w1 ⟨he, rfl⟩
      unfold RefRet at he
      rw [RqF.refP_eq, HO.out] at he
      obtain rfl : e = .returned (.tuple #[.float .f64 b, .bool true]) := he
      go_upto_region 24 with (fail)
      have H := two_world w (.cells #[.int .i64 c.kind, .string ⟨c.key.toArray⟩, .string ⟨c.lo.toArray⟩, .string ⟨c.hi.toArray⟩, .float .f64 c.a, .float .f64 b, .int .i64 c.n, .int .i64 c.id] 41) (.cells #[.int .i64 0, .string ⟨#[]⟩, .string ⟨#[]⟩, .string ⟨#[]⟩, .float .f64 0, .float .f64 0, .int .i64 0, .int .i64 0] 41)
      revert H
      generalize (w.alloc _).alloc _ = W
      rintro ⟨hbl, hbc, hbr, hsz⟩
      have HBL := Lib.hid hbl; clear hbl
      revert hbc hbr hsz
      generalize hbe : w.heap.size = bc
      have HBE := Lib.hid hbe; clear hbe
      intro hbc hbr hsz
      obtain ⟨g0, g1, g2, g3, g4, g5, g6, g7⟩ := cells8 (c := { c with b := b }) hbc
      have HBR := Lib.hid hbr
      have HBC := Lib.hid hbc
      clear hbr hsz hbc
      go_step
      refine wpList_load_row rfl 41 (.tmp 4) rfl bc rfl 41 #[.int .i64 c.kind, .string ⟨c.key.toArray⟩, .string ⟨c.lo.toArray⟩, .string ⟨c.hi.toArray⟩, .float .f64 c.a, .float .f64 b, .int .i64 c.n, .int .i64 c.id] (0, 0) _ HBC.out Tryz.underlying41 rfl (by kernel_rfl) ?_
      go_wp2_with (refine stepStoreRow rfl 41 (.tmp 8) (.tmp 64) rfl _ #[.int .i64 c.kind, .string ⟨c.key.toArray⟩, .string ⟨c.lo.toArray⟩, .string ⟨c.hi.toArray⟩, .float .f64 c.a, .float .f64 b, .int .i64 c.n, .int .i64 c.id] _ _ rfl rfl HBR.out rfl (by kernel_rfl) (by kernel_rfl) ?_; intro w' hg1 hb1 hs1)
      refine bodyPost_ret (take_results _ _ _ _ _ rfl rfl hb1 rfl) rfl ⟨{ c with b := b }, ?_, ?_, below_of_grown HBL.out hg1 (by rw [HBE.out]; omega)⟩
      · rw [HR.out]; rfl
      · intro d hd; rw [HR.out] at hd; injection hd
  · have hs2 : s.data.toList = [110, 97, 110] := by rw [← ByteArray.toList_eq]; exact beq_iff_eq.1 hn
    have HO : Hid (RqF.parseP s.data.toList = some 9221120237041090561) := by
      show _ = _; rw [hs2]; rfl
    have HR : Hid (RqF.readP 6 c s.data.toList = none) := by
      show (RqF.scoreP s.data.toList).map _ = none
      rw [hs2]; rfl
    clear hs2
    go_enter Tryz.func38, Tryz.ntmps38
    go_wp2_with fail
    refine (refparse_any s _ (by omega)).mono ?_
    rintro e w1 ⟨he, rfl⟩
    unfold RefRet at he
    rw [RqF.refP_eq, HO.out] at he
    obtain rfl : e = .returned (.tuple #[.float .f64 9221120237041090561, .bool true]) := he
    go_upto_region 24 with (fail)
    have H := two_world w (.cells #[.int .i64 c.kind, .string ⟨c.key.toArray⟩, .string ⟨c.lo.toArray⟩, .string ⟨c.hi.toArray⟩, .float .f64 c.a, .float .f64 9221120237041090561, .int .i64 c.n, .int .i64 c.id] 41) (.cells #[.int .i64 0, .string ⟨#[]⟩, .string ⟨#[]⟩, .string ⟨#[]⟩, .float .f64 0, .float .f64 0, .int .i64 0, .int .i64 0] 41)
    revert H
    generalize (w.alloc _).alloc _ = W
    rintro ⟨hbl, hbc, hbr, hsz⟩
    have HBL := Lib.hid hbl; clear hbl
    revert hbc hbr hsz
    generalize hbe : w.heap.size = bc
    have HBE := Lib.hid hbe; clear hbe
    intro hbc hbr hsz
    obtain ⟨g0, g1, g2, g3, g4, g5, g6, g7⟩ := cells8 (c := { c with b := 9221120237041090561 }) hbc
    have HBR := Lib.hid hbr
    have HBC := Lib.hid hbc
    clear hbr hsz hbc
    go_step
    refine wpList_load_row rfl 41 (.tmp 4) rfl bc rfl 41 #[.int .i64 c.kind, .string ⟨c.key.toArray⟩, .string ⟨c.lo.toArray⟩, .string ⟨c.hi.toArray⟩, .float .f64 c.a, .float .f64 9221120237041090561, .int .i64 c.n, .int .i64 c.id] (0, 0) _ HBC.out Tryz.underlying41 rfl (by kernel_rfl) ?_
    go_wp2_with (refine stepStoreRow rfl 41 (.tmp 8) (.tmp 64) rfl _ #[.int .i64 c.kind, .string ⟨c.key.toArray⟩, .string ⟨c.lo.toArray⟩, .string ⟨c.hi.toArray⟩, .float .f64 c.a, .float .f64 9221120237041090561, .int .i64 c.n, .int .i64 c.id] _ _ rfl rfl HBR.out rfl (by kernel_rfl) (by kernel_rfl) ?_; intro w' hg1 hb1 hs1)
    refine bodyPost_ret (take_results _ _ _ _ _ rfl rfl hb1 rfl) rfl ⟨{ c with b := 9221120237041090561 }, ?_, ?_, below_of_grown HBL.out hg1 (by rw [HBE.out]; omega)⟩
    · show Ending.returned (.tuple #[.agg _, .bool false]) = _
      rw [HR.out]; rfl
    · intro d hd; rw [HR.out] at hd; cases hd

/-- take, whatever a word's kind is. -/
theorem take_any (p : Nat) (hp : p ≤ 6) (c : RqF.Cmd) (s : ByteArray) (bnd : Int) (w : World) (hs : s.size ≤ 281474976710656) (h1 : p = 1 → bnd = 0) (h2 : p = 2 → bnd = 1) :
    Calls Tryz.prog 38 #[.agg (cmdCells c), .int .u8 (letter p).toNat, .string s, .int .i64 bnd] w (TakeRet p c s.data.toList w) := by
  have : p = 0 ∨ p = 1 ∨ p = 2 ∨ p = 3 ∨ p = 4 ∨ p = 5 ∨ p = 6 := by omega
  rcases this with rfl | rfl | rfl | rfl | rfl | rfl | rfl
  · exact take_k c s bnd w hs
  · exact take_b0 c s bnd w hs (h1 rfl)
  · exact take_b1 c s bnd w hs (h2 rfl)
  · exact take_n c s bnd w hs
  · exact take_i c s bnd w hs
  · exact take_a c s bnd w hs
  · exact take_c c s bnd w hs
end Go.Proofs.YtbhgdpchehkchaaGreatDoor
