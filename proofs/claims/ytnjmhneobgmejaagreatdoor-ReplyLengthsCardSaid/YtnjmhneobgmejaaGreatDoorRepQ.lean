/- The walk of reply.Parse. Conditions: the library's tables are as they are laid; the text is of less than 2^32 - 15 bytes. -/
import Derived.Test.YtnjmhneobgmejaaGreatDoorRepB
import Derived.Maps.AppendAt
import Derived.OwnWalk
namespace Go.Proofs.YtnjmhneobgmejaaGreatDoor
open Go.RowKit

def strVals (cs : List (List UInt8)) : List Value := cs.map fun x => Value.string ⟨x.toArray⟩
theorem strVals_snoc (cs : List (List UInt8)) (x : List UInt8) : strVals (cs ++ [x]) = strVals cs ++ [.string ⟨x.toArray⟩] := by unfold strVals; simp
theorem info_str : (Tryz.prog.info? 9).map (fun i => (i.zero, i.size, i.bytes)) = some (some (.string ⟨#[]⟩), 1, 16) := by kernel_rfl

/-- What stands at each round's head: the parts so far, and the reader ahead of the rest. -/
def PartsInv (W : World) (br : Nat) (s : ByteArray) (q : Nat) (v : Value) (wr : World) : Prop :=
  ∃ (j : Nat) (cs : List (List UInt8)), q = s.size - j ∧ Rd W br s j wr ∧ wr.ownsRow (br + 1) 9 1 v cs.length (strVals cs) ∧ (cs = [] → v = .slice none 0 0) ∧ cs.length ≤ j ∧
    RqF.parseR s.data.toList = (RqF.parseR (s.data.toList.drop j)).map (cs ++ ·)
/-- What Parse hands back: the parts, in a row of its own; or none. -/
def PartsRet (w : World) (o : Option (List (List UInt8))) (e : Ending) (w' : World) : Prop :=
  match o with
  | none => e = .returned (.tuple #[.slice none 0 0, .int .i64 3]) ∧ Below w.heap.size w w'
  | some cs => ∃ v, e = .returned (.tuple #[v, .int .i64 0]) ∧ w'.ownsRow w.heap.size 9 1 v cs.length (strVals cs) ∧ (cs = [] → v = .slice none 0 0) ∧ Below w.heap.size w w'
theorem ownsRow_base {w : World} {b b' : Nat} {e : TypeId} {size n : Nat} {v : Value} {xs : List Value} (h : w.ownsRow b e size v n xs) (hb : b' ≤ b) : w.ownsRow b' e size v n xs := by
  refine ⟨h.1, ?_⟩
  rcases h.2 with hn | ⟨g, cap, cur, hv, hbg, rest⟩
  · exact .inl hn
  · exact .inr ⟨g, cap, cur, hv, Nat.le_trans hb hbg, rest⟩
theorem owns_ne {w : World} {br : Nat} {e : TypeId} {size n : Nat} {v : Value} {xs : List Value} (h : w.ownsRow (br + 1) e size v n xs) : v.ownBlock ≠ some br := by
  intro hv
  have := (h.lt _ hv).1
  omega
/-- The parts' step. -/
theorem parts_step {s : ByteArray} {j j2 : Nat} {cs : List (List UInt8)} {r : List UInt8} (h : RqF.parseR s.data.toList = (RqF.parseR (s.data.toList.drop j)).map (cs ++ ·)) (ha : RqF.answerR (s.data.toList.drop j) = some r) (hr : r = s.data.toList.drop j2) (hj : j ≤ s.size) (hj2 : j2 ≤ s.size) :
    j < j2 ∧ RqF.parseR s.data.toList = (RqF.parseR (s.data.toList.drop j2)).map ((cs ++ [(s.extract j j2).data.toList]) ++ ·) := by
  have hlt := RqF.answer_lt ha
  subst hr
  rw [List.length_drop, List.length_drop, ← Lib.size_eq] at hlt
  refine ⟨by omega, ?_⟩
  rw [h, RqF.parseR_go ha, Lib.extract_data]
  have e : (s.data.toList.drop j).length - (s.data.toList.drop j2).length = j2 - j := by rw [List.length_drop, List.length_drop, ← Lib.size_eq]; omega
  rw [e, Option.map_map]
  congr 1
  funext l
  simp
theorem parts_end {s : ByteArray} {j : Nat} {cs : List (List UInt8)} (h : RqF.parseR s.data.toList = (RqF.parseR (s.data.toList.drop j)).map (cs ++ ·)) (hj : s.size ≤ j) : RqF.parseR s.data.toList = some cs := by
  rw [List.drop_eq_nil_of_le (by rw [← Lib.size_eq]; exact hj)] at h
  rw [h, RqF.parseR_nil]; simp
theorem parts_stop {s : ByteArray} {j : Nat} {cs : List (List UInt8)} (h : RqF.parseR s.data.toList = (RqF.parseR (s.data.toList.drop j)).map (cs ++ ·)) (hj : j < s.size) (ha : RqF.answerR (s.data.toList.drop j) = none) : RqF.parseR s.data.toList = none := by
  rw [h, RqF.parseR_stop (fun e => by have := congrArg List.length e; rw [List.length_drop, ← Lib.size_eq] at this; simp at this; omega) ha]; rfl

set_option maxRecDepth 100000 in
set_option maxHeartbeats 2000000 in
theorem reply_parse (s : ByteArray) (w : World) (ht : TabsM w) (hs : s.size < 4294967281) :
    Calls Tryz.prog 8 #[.string s] w (PartsRet w (RqF.parseR s.data.toList)) := by
  obtain ⟨o, ho⟩ : ∃ o, o = RqF.parseR s.data.toList := ⟨_, rfl⟩
  rw [← ho]
  have HO := Lib.hid ho; clear ho
  have HR0 : Hid (Rd w w.heap.size s 0 (w.alloc (.cells #[.string s, .int .i64 0] 57))) :=
    ⟨ht, (Below.refl _ _).alloc (Nat.le_refl _) _, Nat.le_refl _, heap_alloc_new w _, Nat.zero_le _, hs⟩
  obtain ⟨i0, hi, hz0, hz1, hz2⟩ := info_parts info_str
  clear ht
  go_enter Tryz.func8, Tryz.ntmps8
  go_wp2_with fail
  go_loopg [4] s.size (fun q v wr => PartsInv w w.heap.size s q v wr)
  case atStart => exact ⟨0, [], by omega, HR0.out, World.ownsRow_nil _ _ _ _, fun _ => rfl, Nat.zero_le _, by simp⟩
  case round =>
    obtain ⟨j, cs, rfl, hR, hown, hnil, hcj, hpo⟩ := hrel
    have hj := hR.le
    obtain ⟨c0, c1, f1, hlt⟩ := rd_cells hR.here
    have HR := Lib.hid hR; have HW := Lib.hid hown; have HNL := Lib.hid hnil; have HP := Lib.hid hpo
    clear hR hown hnil hpo
    by_cases hjs : j < s.size
    · cases ha : RqF.answerR (s.data.toList.drop j) with
      | none =>
        have HA := Lib.hid ha; clear ha
        go_wp2_with fail
        refine (read_no (answer_any w w.heap.size j s _ HR.out) HA.out).mono ?_
        rintro e w2 ⟨rfl, hg2⟩
        have HB2 := Lib.hid (below_of_grown HR.out.below hg2 HR.out.low); clear hg2
        go_wp2_with fail
        go_ret2
        rw [HO.out, parts_stop HP.out hjs HA.out]
        exact ⟨rfl, HB2.out⟩
      | some r =>
        have HA := Lib.hid ha; clear ha
        go_wp2_with fail
        refine (read_yes (answer_any w w.heap.size j s _ HR.out) HA.out).mono ?_
        rintro e w2 ⟨rfl, ⟨j2, hr2, hR2⟩, hg2⟩
        obtain ⟨hjj, hp2⟩ := parts_step HP.out HA.out hr2 hj hR2.le
        have hj2 := hR2.le
        have HW2 := Lib.hid (HW.out.kept hg2 (Or.inr (owns_ne HW.out)))
        have HR2 := Lib.hid hR2; have HP2 := Lib.hid hp2
        clear hR2 hp2 hg2 hr2 c0 c1 f1 hlt
        obtain ⟨d0, d1, f1, hlt⟩ := rd_cells HR2.out.here
        go_wp2_with (at_builtin; refine wpList_append_own_at _ rfl _ _ 23 rfl (w.heap.size + 1) 9 i0 (.string ⟨#[]⟩) 1 16 Tryz.underlying23 hi hz0 hz1 hz2 rfl (by decide) _ _ _ rfl (HW2.out.alloc _) ⟨w2.heap.size, 0, none⟩ 1 1 [.string (s.extract j j2)] rfl rfl (cell_one_new _ _ _) ?c2 ?c3 ?c4 ?c5 ?_)
        case c2 => intro u hu; simp at hu; subst hu; rfl
        case c3 => unfold maxLen; omega
        case c4 => omega
        case c5 => simp; omega
        intro v' w3 hown3 hgrow3 _ _
        have HR3 : Hid (Rd w w.heap.size s j2 w3) := by
          have h1 := HR2.out.next ((Below.refl _ _).alloc (Nat.le_refl _) (.cells #[.string (s.extract j j2)] 9))
          refine ⟨h1.tabs, h1.below.grown hgrow3 h1.below.size (fun k hk => ?_), h1.low, grown_blk hgrow3 (fun e => owns_ne HW2.out e.symm) h1.here, h1.le, h1.small⟩
          have := (HW2.out.lt k hk).1
          omega
        have HW3 : Hid (w3.ownsRow (w.heap.size + 1) 9 1 v' (cs ++ [(s.extract j j2).data.toList]).length (strVals (cs ++ [(s.extract j j2).data.toList]))) := by
          show World.ownsRow _ _ _ _ _ _ _
          rw [strVals_snoc, ba_back, List.length_append]
          exact hown3
        clear hown3 hgrow3
        go_wp2_with fail
        go_roundg (s.size - j2)
        case measure => omega
        case rel => exact ⟨j2, _, rfl, HR3.out, HW3.out, fun e => absurd e (by simp), by simp; omega, HP2.out⟩
    · go_wp2_with fail
      go_ret2
      rw [HO.out, parts_end HP.out (by omega)]
      exact ⟨_, rfl, ownsRow_base HW.out (by omega), HNL.out, HR.out.below⟩
end Go.Proofs.YtnjmhneobgmejaaGreatDoor
