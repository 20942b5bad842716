/- The walks of package reply's many, for each of the two readers that it is handed. Conditions: the library's tables are as they are laid; the text is of less than 2^32 - 15 bytes. -/
import Derived.Test.YtnjmhneobgmejaaGreatDoorRepP
import Derived.Deep.LoopGhost
namespace Go.Proofs.YtnjmhneobgmejaaGreatDoor
open Go.RowKit

theorem read_no {f : FuncId} {args : Array Value} {W w : World} {br : Nat} {s : ByteArray} {o : Option (List UInt8)} (h : Calls Tryz.prog f args w (ReadRet W br s o w)) (ho : o = none) : Calls Tryz.prog f args w (ReadNo W br w) := by
  subst ho; exact h
theorem read_yes {f : FuncId} {args : Array Value} {W w : World} {br : Nat} {s : ByteArray} {o : Option (List UInt8)} {r : List UInt8} (h : Calls Tryz.prog f args w (ReadRet W br s o w)) (ho : o = some r) : Calls Tryz.prog f args w (ReadYes W br s r w) := by
  subst ho; exact h
/-- What stands at each round's head: so many things are to be read yet; or one was none. -/
def ManyInv (R : List UInt8 → Option (List UInt8)) (W : World) (br : Nat) (s : ByteArray) (o : Option (List UInt8)) (w : World) (q : Nat) (n ok : Value) (wr : World) : Prop :=
  (∃ m j : Nat, q = m + 1 ∧ m < 1000000000 ∧ n = .int .i64 m ∧ ok = .bool true ∧ Rd W br s j wr ∧ o = RqF.iterR R m (s.data.toList.drop j) ∧ w.grownBy wr (some br)) ∨
  (∃ m : Int, q = 0 ∧ n = .int .i64 m ∧ ok = .bool false ∧ o = none ∧ w.grownBy wr (some br))
theorem iter_stop {R : List UInt8 → Option (List UInt8)} {t : List UInt8} (h : R t = none) (m : Nat) : RqF.iterR R (m + 1) t = none := by unfold RqF.iterR; rw [h]
theorem iter_go {R : List UInt8 → Option (List UInt8)} {t r : List UInt8} (h : R t = some r) (m : Nat) : RqF.iterR R (m + 1) t = RqF.iterR R m r := by rw [RqF.iterR, h]
theorem number_none_at (x : List UInt8) (w : World) (hs : x.length ≤ 281474976710656) (ht : TabsP w) (h : RqF.numP x = none) :
    Calls Tryz.prog 43 #[.string ⟨x.toArray⟩] w fun e w' => ∃ n : Int, e = .returned (.tuple #[.int .i64 n, .bool false]) ∧ Below w.heap.size w w' :=
  rnumber_none ⟨x.toArray⟩ w (by rw [size_word]; exact hs) ht (by simpa using h)
theorem number_some_at (x : List UInt8) (v : Nat) (w : World) (hs : x.length ≤ 281474976710656) (ht : TabsP w) (h : RqF.numP x = some v) :
    Calls Tryz.prog 43 #[.string ⟨x.toArray⟩] w fun e w' => e = .returned (.tuple #[.int .i64 v, .bool true]) ∧ Below w.heap.size w w' :=
  rnumber_some ⟨x.toArray⟩ v w (by rw [size_word]; exact hs) ht (by simpa using h)

set_option maxRecDepth 100000 in
set_option maxHeartbeats 2000000 in
theorem many_pair (W : World) (br k g : Nat) (s : ByteArray) (ws : List (List UInt8)) (w : World) (hR : Rd W br s k w) (hw : WordsAt g ws w) (hz1 : ws.length ≤ s.size) (hz2 : ∀ x ∈ ws, x.length ≤ s.size) :
    Calls Tryz.prog 39 #[.slice (some ⟨g, 0, none⟩) ws.length ws.length, .func (.func 40) #[.pointer (some ⟨br, 0, none⟩)] #[]] w (ReadRet W br s (RqF.manyR RqF.pairR ws (s.data.toList.drop k)) w) := by
  have hs := hR.small
  by_cases h2 : ws.length = 2
  · match ws, h2, hz2, hw with
    | [x, y], _, hz2, hw =>
      have hy := hz2 y (by simp)
      have c1 : w.cell? ⟨g, 1, none⟩ = some (.string ⟨y.toArray⟩) := words_cell hw 1 (by simp)
      have HR := Lib.hid hR
      clear hR hw hz1 hz2
      cases hn : RqF.numP y with
      | none =>
        have HP : Hid (RqF.manyR RqF.pairR [x, y] (s.data.toList.drop k) = none) := by show _ = _; unfold RqF.manyR; simp only; rw [hn]
        have HN := Lib.hid hn; clear hn
        rw [HP.out]
        show Calls _ _ _ _ (ReadNo W br w)
        go_enter Tryz.func39, Tryz.ntmps39
        go_wp2_with fail
        refine (number_none_at y _ (by omega) HR.out.tabsM.toTabsP HN.out).mono ?_
        rintro e w1 ⟨n, rfl, hb⟩
        have HB := Lib.hid hb; clear hb
        go_wp2_with fail
        refine wp_loop_rounds 1 ?_
        rw [rounds_succ]
        go_wp2_with fail
        go_ret
        exact ⟨rfl, grown_of_below HB.out _⟩
      | some v =>
        have hv := (RqF.numP_some hn).2.2.2
        have HP : Hid (RqF.manyR RqF.pairR [x, y] (s.data.toList.drop k) = RqF.iterR RqF.pairR v (s.data.toList.drop k)) := by show _ = _; unfold RqF.manyR; simp only; rw [hn]
        have HN := Lib.hid hn; clear hn
        rw [HP.out]
        obtain ⟨o, ho⟩ : ∃ o, o = RqF.iterR RqF.pairR v (s.data.toList.drop k) := ⟨_, rfl⟩
        rw [← ho]
        have HO := Lib.hid ho; clear ho
        go_enter Tryz.func39, Tryz.ntmps39
        go_wp2_with fail
        refine (number_some_at y v _ (by omega) HR.out.tabsM.toTabsP HN.out).mono ?_
        rintro e w1 ⟨rfl, hb⟩
        have HB := Lib.hid hb; clear hb
        go_wp2_with fail
        go_loopg [5, 6] (v + 1) (fun q n ok wr => ManyInv RqF.pairR W br s o w q n ok wr)
        case atStart => exact .inl ⟨v, k, rfl, hv, rfl, rfl, HR.out.next HB.out, HO.out, grown_of_below HB.out _⟩
        case round =>
          rcases hrel with ⟨m, j, rfl, hm, rfl, rfl, hRj, hoj, hgj⟩ | ⟨m, rfl, rfl, rfl, ho0, hgj⟩
          · have HRj := Lib.hid hRj; have HOj := Lib.hid hoj; have HGj := Lib.hid hgj
            clear hRj hoj hgj
            cases m with
            | zero =>
              go_wp2_with fail
              go_ret
              have e1 : o = some (s.data.toList.drop j) := HOj.out
              rw [e1]
              exact ⟨rfl, ⟨j, rfl, HRj.out⟩, HGj.out⟩
            | succ m =>
              cases hp : RqF.pairR (s.data.toList.drop j) with
              | none =>
                have HQ := Lib.hid hp; clear hp
                go_wp2_with fail
                refine (read_no (pair_any W br j s _ HRj.out) HQ.out).mono ?_
                rintro e w2 ⟨rfl, hg2⟩
                have HG2 := Lib.hid (HGj.out.trans hg2); clear hg2
                go_wp2_with fail
                go_roundg 0
                case measure => omega
                case rel => exact .inr ⟨_, rfl, rfl, rfl, HOj.out.trans (iter_stop HQ.out m), HG2.out⟩
              | some r =>
                have HQ := Lib.hid hp; clear hp
                go_wp2_with fail
                refine (read_yes (pair_any W br j s _ HRj.out) HQ.out).mono ?_
                rintro e w2 ⟨rfl, ⟨j2, hr2, hR2⟩, hg2⟩
                have HG2 := Lib.hid (HGj.out.trans hg2)
                have HR2 := Lib.hid hR2
                have HO2 : Hid (o = RqF.iterR RqF.pairR m (s.data.toList.drop j2)) := by show _ = _; rw [← hr2, ← iter_go HQ.out m]; exact HOj.out
                clear hg2 hR2 hr2
                go_wp2_with fail
                go_roundg (m + 1)
                case measure => omega
                case rel => exact .inl ⟨m, j2, rfl, by omega, by go_num, rfl, HR2.out, HO2.out, HG2.out⟩
          · have HO0 := Lib.hid ho0; have HGj := Lib.hid hgj
            clear ho0 hgj
            go_wp2_with fail
            go_ret
            rw [HO0.out]
            exact ⟨rfl, HGj.out⟩
  · have HP : Hid (RqF.manyR RqF.pairR ws (s.data.toList.drop k) = none) := by
      show _ = _; unfold RqF.manyR
      split
      · rename_i a b; exact absurd rfl h2
      · rfl
    rw [HP.out]
    show Calls _ _ _ _ (ReadNo W br w)
    have hd : (((ws.length : Nat) : Int) == 2) = false := by rw [beq_eq_false_iff_ne]; omega
    have hd2 : (((ws.length : Nat) : Int) != 2) = true := by rw [bne, hd]; rfl
    clear hw hR hz2
    go_enter Tryz.func39, Tryz.ntmps39
    go_wp2_with fail
    go_ret
    exact ⟨rfl, World.grownBy.refl _ _⟩

set_option maxRecDepth 100000 in
set_option maxHeartbeats 2000000 in
theorem many_scored (W : World) (br k g : Nat) (s : ByteArray) (ws : List (List UInt8)) (w : World) (hR : Rd W br s k w) (hw : WordsAt g ws w) (hz1 : ws.length ≤ s.size) (hz2 : ∀ x ∈ ws, x.length ≤ s.size) :
    Calls Tryz.prog 39 #[.slice (some ⟨g, 0, none⟩) ws.length ws.length, .func (.func 41) #[.pointer (some ⟨br, 0, none⟩)] #[]] w (ReadRet W br s (RqF.manyR RqF.scoredR ws (s.data.toList.drop k)) w) := by
  have hs := hR.small
  by_cases h2 : ws.length = 2
  · match ws, h2, hz2, hw with
    | [x, y], _, hz2, hw =>
      have hy := hz2 y (by simp)
      have c1 : w.cell? ⟨g, 1, none⟩ = some (.string ⟨y.toArray⟩) := words_cell hw 1 (by simp)
      have HR := Lib.hid hR
      clear hR hw hz1 hz2
      cases hn : RqF.numP y with
      | none =>
        have HP : Hid (RqF.manyR RqF.scoredR [x, y] (s.data.toList.drop k) = none) := by show _ = _; unfold RqF.manyR; simp only; rw [hn]
        have HN := Lib.hid hn; clear hn
        rw [HP.out]
        show Calls _ _ _ _ (ReadNo W br w)
        go_enter Tryz.func39, Tryz.ntmps39
        go_wp2_with fail
        refine (number_none_at y _ (by omega) HR.out.tabsM.toTabsP HN.out).mono ?_
        rintro e w1 ⟨n, rfl, hb⟩
        have HB := Lib.hid hb; clear hb
        go_wp2_with fail
        refine wp_loop_rounds 1 ?_
        rw [rounds_succ]
        go_wp2_with fail
        go_ret
        exact ⟨rfl, grown_of_below HB.out _⟩
      | some v =>
        have hv := (RqF.numP_some hn).2.2.2
        have HP : Hid (RqF.manyR RqF.scoredR [x, y] (s.data.toList.drop k) = RqF.iterR RqF.scoredR v (s.data.toList.drop k)) := by show _ = _; unfold RqF.manyR; simp only; rw [hn]
        have HN := Lib.hid hn; clear hn
        rw [HP.out]
        obtain ⟨o, ho⟩ : ∃ o, o = RqF.iterR RqF.scoredR v (s.data.toList.drop k) := ⟨_, rfl⟩
        rw [← ho]
        have HO := Lib.hid ho; clear ho
        go_enter Tryz.func39, Tryz.ntmps39
        go_wp2_with fail
        refine (number_some_at y v _ (by omega) HR.out.tabsM.toTabsP HN.out).mono ?_
        rintro e w1 ⟨rfl, hb⟩
        have HB := Lib.hid hb; clear hb
        go_wp2_with fail
        go_loopg [5, 6] (v + 1) (fun q n ok wr => ManyInv RqF.scoredR W br s o w q n ok wr)
        case atStart => exact .inl ⟨v, k, rfl, hv, rfl, rfl, HR.out.next HB.out, HO.out, grown_of_below HB.out _⟩
        case round =>
          rcases hrel with ⟨m, j, rfl, hm, rfl, rfl, hRj, hoj, hgj⟩ | ⟨m, rfl, rfl, rfl, ho0, hgj⟩
          · have HRj := Lib.hid hRj; have HOj := Lib.hid hoj; have HGj := Lib.hid hgj
            clear hRj hoj hgj
            cases m with
            | zero =>
              go_wp2_with fail
              go_ret
              have e1 : o = some (s.data.toList.drop j) := HOj.out
              rw [e1]
              exact ⟨rfl, ⟨j, rfl, HRj.out⟩, HGj.out⟩
            | succ m =>
              cases hp : RqF.scoredR (s.data.toList.drop j) with
              | none =>
                have HQ := Lib.hid hp; clear hp
                go_wp2_with fail
                refine (read_no (scored_any W br j s _ HRj.out) HQ.out).mono ?_
                rintro e w2 ⟨rfl, hg2⟩
                have HG2 := Lib.hid (HGj.out.trans hg2); clear hg2
                go_wp2_with fail
                go_roundg 0
                case measure => omega
                case rel => exact .inr ⟨_, rfl, rfl, rfl, HOj.out.trans (iter_stop HQ.out m), HG2.out⟩
              | some r =>
                have HQ := Lib.hid hp; clear hp
                go_wp2_with fail
                refine (read_yes (scored_any W br j s _ HRj.out) HQ.out).mono ?_
                rintro e w2 ⟨rfl, ⟨j2, hr2, hR2⟩, hg2⟩
                have HG2 := Lib.hid (HGj.out.trans hg2)
                have HR2 := Lib.hid hR2
                have HO2 : Hid (o = RqF.iterR RqF.scoredR m (s.data.toList.drop j2)) := by show _ = _; rw [← hr2, ← iter_go HQ.out m]; exact HOj.out
                clear hg2 hR2 hr2
                go_wp2_with fail
                go_roundg (m + 1)
                case measure => omega
                case rel => exact .inl ⟨m, j2, rfl, by omega, by go_num, rfl, HR2.out, HO2.out, HG2.out⟩
          · have HO0 := Lib.hid ho0; have HGj := Lib.hid hgj
            clear ho0 hgj
            go_wp2_with fail
            go_ret
            rw [HO0.out]
            exact ⟨rfl, HGj.out⟩
  · have HP : Hid (RqF.manyR RqF.scoredR ws (s.data.toList.drop k) = none) := by
      show _ = _; unfold RqF.manyR
      split
      · rename_i a b; exact absurd rfl h2
      · rfl
    rw [HP.out]
    show Calls _ _ _ _ (ReadNo W br w)
    have hd : (((ws.length : Nat) : Int) == 2) = false := by rw [beq_eq_false_iff_ne]; omega
    have hd2 : (((ws.length : Nat) : Int) != 2) = true := by rw [bne, hd]; rfl
    clear hw hR hz2
    go_enter Tryz.func39, Tryz.ntmps39
    go_wp2_with fail
    go_ret
    exact ⟨rfl, World.grownBy.refl _ _⟩
end Go.Proofs.YtnjmhneobgmejaaGreatDoor
