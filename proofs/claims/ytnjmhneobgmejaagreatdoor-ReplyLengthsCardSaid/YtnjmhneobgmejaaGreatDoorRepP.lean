/- The walks of package reply's reader: pair, scored. Conditions: the library's tables are as they are laid; the text is of less than 2^32 - 15 bytes. -/
import Derived.Test.YtnjmhneobgmejaaGreatDoorRepL
namespace Go.Proofs.YtnjmhneobgmejaaGreatDoor
open Go.RowKit

/-- A line's words, laid in a new block; the reader stands ahead of the text r. -/
def LineAt (W : World) (br : Nat) (s : ByteArray) (r : List UInt8) (ws : List (List UInt8)) (w : World) (e : Ending) (w' : World) : Prop :=
  ∃ g j, w.heap.size ≤ g ∧ e = .returned (.tuple #[.slice (some ⟨g, 0, none⟩) ws.length ws.length, .bool true]) ∧ WordsAt g ws w' ∧ r = s.data.toList.drop j ∧ Rd W br s j w' ∧ w.grownBy w' (some br)
theorem line_at (W : World) (br k : Nat) (s : ByteArray) (ws : List (List UInt8)) (r : List UInt8) (w : World) (hR : Rd W br s k w) (h : RqF.lineR (s.data.toList.drop k) = some (ws, r)) :
    Calls Tryz.prog 36 #[.pointer (some ⟨br, 0, none⟩)] w (LineAt W br s r ws w) := by
  obtain ⟨⟨a, r'⟩, hp, he⟩ := Option.map_eq_some_iff.1 h
  injection he with h1 h2
  subst h1; subst h2
  have hp' : RqF.cutL (s.data.toList.drop k) = some ((⟨a.toArray⟩ : ByteArray).data.toList, (⟨r'.toArray⟩ : ByteArray).data.toList) := by simpa using hp
  refine (line_yes W br k s ⟨a.toArray⟩ ⟨r'.toArray⟩ w hR hp').mono ?_
  rintro e w' ⟨g, hg, he, hw, hr, hgr⟩
  refine ⟨g, _, hg, by simpa using he, by simpa using hw, ?_, hr, hgr⟩
  have e1 := (RqF.cutL_some hp).1
  have e2 : (⟨a.toArray⟩ : ByteArray).size = a.length := by rw [Lib.size_eq]
  rw [e2, ← List.drop_drop, e1]
  simp [List.drop_append]
theorem line_gone (W : World) (br k : Nat) (s : ByteArray) (w : World) (hR : Rd W br s k w) (h : RqF.lineR (s.data.toList.drop k) = none) :
    Calls Tryz.prog 36 #[.pointer (some ⟨br, 0, none⟩)] w (LineNone w) :=
  line_no W br k s w hR (Option.map_eq_none_iff.1 h)
theorem line_sizes {s : ByteArray} {k : Nat} {ws : List (List UInt8)} {r : List UInt8} (h : RqF.lineR (s.data.toList.drop k) = some (ws, r)) : ws.length ≤ s.size ∧ ∀ x ∈ ws, x.length ≤ s.size := by
  obtain ⟨⟨a, r'⟩, hp, he⟩ := Option.map_eq_some_iff.1 h
  injection he with h1 h2
  subst h1; subst h2
  have := RqF.cutL_len hp
  rw [List.length_drop, ← Lib.size_eq] at this
  have h3 := RqF.wordsOf_len a
  refine ⟨by simp only; omega, fun x hx => ?_⟩
  have := RqF.wordsOf_mem a x hx
  omega
theorem words_cell {g : Nat} {ws : List (List UInt8)} {w : World} (h : WordsAt g ws w) (j : Nat) (hj : j < ws.length) : w.cell? ⟨g, j, none⟩ = some (.string ⟨(ws[j]).toArray⟩) :=
  blk_cell h (by rw [List.getElem?_toArray, List.getElem?_map, List.getElem?_eq_getElem hj]; rfl)
theorem words_next {g : Nat} {ws : List (List UInt8)} {w w' : World} (h : WordsAt g ws w) (hb : Below w.heap.size w w') : WordsAt g ws w' := below_blk hb h
theorem size_word (x : List UInt8) : (⟨x.toArray⟩ : ByteArray).size = x.length := by rw [Lib.size_eq]
theorem name_is (x : List UInt8) (b : Bool) (w : World) (hs : x.length ≤ 9223372036854775807) (h : RqF.isWord x = b) :
    Calls Tryz.prog 61 #[.string ⟨x.toArray⟩] w fun e w' => e = .returned (.bool b) ∧ w = w' :=
  (rname_any ⟨x.toArray⟩ w (by rw [size_word]; exact hs)).mono fun e w' ⟨he, hw⟩ => ⟨by rw [he]; simp [h], hw⟩
theorem score_is (x : List UInt8) (b : Bool) (w : World) (hs : x.length ≤ 281474976710656) (ht : TabsP w) (h : RqF.isScore x = b) :
    Calls Tryz.prog 42 #[.string ⟨x.toArray⟩] w fun e w' => e = .returned (.bool b) ∧ Below w.heap.size w w' :=
  (rscore_any ⟨x.toArray⟩ w (by rw [size_word]; exact hs) ht).mono fun e w' ⟨he, hw⟩ => ⟨by unfold RScoreRet at he; rw [he]; simp [h], hw⟩
/-- What reads a thing of the text. -/
def ReadRet (W : World) (br : Nat) (s : ByteArray) (o : Option (List UInt8)) (w : World) (e : Ending) (w' : World) : Prop :=
  match o with
  | none => ReadNo W br w e w'
  | some r => ReadYes W br s r w e w'
theorem ReadNo.of {W w w1 w' : World} {br : Nat} {e : Ending} (h : ReadNo W br w1 e w') (g : w.grownBy w1 (some br)) : ReadNo W br w e w' := ⟨h.1, g.trans h.2⟩
theorem ReadYes.of {W w w1 w' : World} {br : Nat} {s : ByteArray} {r : List UInt8} {e : Ending} (h : ReadYes W br s r w1 e w') (g : w.grownBy w1 (some br)) : ReadYes W br s r w e w' := ⟨h.1, h.2.1, g.trans h.2.2⟩
theorem value_no_at (W : World) (br j : Nat) (s : ByteArray) (x r : List UInt8) (w : World) (hR : Rd W br s j w) (hx : x.length ≤ 281474976710656) (hr : r = s.data.toList.drop j) (h : RqF.valueR x r = none) :
    Calls Tryz.prog 38 #[.pointer (some ⟨br, 0, none⟩), .string ⟨x.toArray⟩] w (ReadNo W br w) := by
  subst hr
  exact value_no W br j s ⟨x.toArray⟩ w hR (by rw [size_word]; exact hx) (by simpa using h)
theorem value_yes_at (W : World) (br j : Nat) (s : ByteArray) (x r q : List UInt8) (w : World) (hR : Rd W br s j w) (hx : x.length ≤ 281474976710656) (hr : r = s.data.toList.drop j) (h : RqF.valueR x r = some q) :
    Calls Tryz.prog 38 #[.pointer (some ⟨br, 0, none⟩), .string ⟨x.toArray⟩] w (ReadYes W br s q w) := by
  subst hr
  exact value_yes W br j s ⟨x.toArray⟩ q w hR (by rw [size_word]; exact hx) (by simpa using h)

set_option maxRecDepth 100000 in
set_option maxHeartbeats 1000000 in
theorem pair_any (W : World) (br k : Nat) (s : ByteArray) (w : World) (hR : Rd W br s k w) :
    Calls Tryz.prog 40 #[.pointer (some ⟨br, 0, none⟩)] w (ReadRet W br s (RqF.pairR (s.data.toList.drop k)) w) := by
  have hs := hR.small
  have HR := Lib.hid hR; clear hR
  cases h : RqF.lineR (s.data.toList.drop k) with
  | none =>
    have HP : Hid (RqF.pairR (s.data.toList.drop k) = none) := by show _ = _; unfold RqF.pairR; rw [h]
    have HL := Lib.hid h; clear h
    rw [HP.out]
    show Calls _ _ _ _ (ReadNo W br w)
    go_enter Tryz.func40, Tryz.ntmps40
    go_wp2_with fail
    refine (line_gone W br k s _ HR.out HL.out).mono ?_
    rintro e w1 ⟨rfl, n, rfl⟩
    go_wp2_with fail
    go_ret
    exact ⟨rfl, grown_drewN _ _ _⟩
  | some p =>
    obtain ⟨ws, r⟩ := p
    obtain ⟨hz1, hz2⟩ := line_sizes h
    have HL := Lib.hid h
    by_cases h2 : ws.length = 2
    · match ws, h2, hz1, hz2, h, HL with
      | [x, y], _, hz1, hz2, h, HL =>
        have hx := hz2 x (by simp)
        have hy := hz2 y (by simp)
        have HP : Hid (RqF.pairR (s.data.toList.drop k) = if RqF.isWord x = true then RqF.valueR y r else none) := by show _ = _; unfold RqF.pairR; rw [h]
        clear h hz1 hz2
        cases hn : RqF.isWord x with
        | false =>
          have HN := Lib.hid hn; clear hn
          rw [HP.out, if_neg (by rw [HN.out]; decide)]
          show Calls _ _ _ _ (ReadNo W br w)
          go_enter Tryz.func40, Tryz.ntmps40
          go_wp2_with fail
          refine (line_at W br k s _ _ _ HR.out HL.out).mono ?_
          rintro e w1 ⟨g, j, hg, rfl, hw, hr, hR1, hgr⟩
          have HW := Lib.hid hw; have HR1 := Lib.hid hR1; have HG := Lib.hid hgr; have HRr := Lib.hid hr
          clear hw hR1 hgr hr hg
          have c0 : w1.cell? ⟨g, 0, none⟩ = some (.string ⟨x.toArray⟩) := words_cell HW.out 0 (by simp)
          have c1 : w1.cell? ⟨g, 1, none⟩ = some (.string ⟨y.toArray⟩) := words_cell HW.out 1 (by simp)
          go_wp2_with fail
          refine (name_is x false _ (by omega) HN.out).mono ?_
          rintro e w2 ⟨rfl, rfl⟩
          go_wp2_with fail
          go_ret
          exact ⟨rfl, HG.out⟩
        | true =>
          have HN := Lib.hid hn; clear hn
          rw [HP.out, if_pos HN.out]
          cases hv : RqF.valueR y r with
          | none =>
            have HV := Lib.hid hv; clear hv
            show Calls _ _ _ _ (ReadNo W br w)
            go_enter Tryz.func40, Tryz.ntmps40
            go_wp2_with fail
            refine (line_at W br k s _ _ _ HR.out HL.out).mono ?_
            rintro e w1 ⟨g, j, hg, rfl, hw, hr, hR1, hgr⟩
            have HW := Lib.hid hw; have HR1 := Lib.hid hR1; have HG := Lib.hid hgr; have HRr := Lib.hid hr
            clear hw hR1 hgr hr hg
            have c0 : w1.cell? ⟨g, 0, none⟩ = some (.string ⟨x.toArray⟩) := words_cell HW.out 0 (by simp)
            have c1 : w1.cell? ⟨g, 1, none⟩ = some (.string ⟨y.toArray⟩) := words_cell HW.out 1 (by simp)
            go_wp2_with fail
            refine (name_is x true _ (by omega) HN.out).mono ?_
            rintro e w2 ⟨rfl, rfl⟩
            go_wp2_with fail
            refine (value_no_at W br j s y r _ HR1.out (by omega) HRr.out HV.out).mono ?_
            rintro e w2 ⟨rfl, hg2⟩
            go_wp2_with fail
            go_ret
            exact ⟨rfl, HG.out.trans hg2⟩
          | some q =>
            have HV := Lib.hid hv; clear hv
            show Calls _ _ _ _ (ReadYes W br s q w)
            go_enter Tryz.func40, Tryz.ntmps40
            go_wp2_with fail
            refine (line_at W br k s _ _ _ HR.out HL.out).mono ?_
            rintro e w1 ⟨g, j, hg, rfl, hw, hr, hR1, hgr⟩
            have HW := Lib.hid hw; have HR1 := Lib.hid hR1; have HG := Lib.hid hgr; have HRr := Lib.hid hr
            clear hw hR1 hgr hr hg
            have c0 : w1.cell? ⟨g, 0, none⟩ = some (.string ⟨x.toArray⟩) := words_cell HW.out 0 (by simp)
            have c1 : w1.cell? ⟨g, 1, none⟩ = some (.string ⟨y.toArray⟩) := words_cell HW.out 1 (by simp)
            go_wp2_with fail
            refine (name_is x true _ (by omega) HN.out).mono ?_
            rintro e w2 ⟨rfl, rfl⟩
            go_wp2_with fail
            refine (value_yes_at W br j s y r q _ HR1.out (by omega) HRr.out HV.out).mono ?_
            rintro e w2 ⟨rfl, hr2, hg2⟩
            have HR2 := Lib.hid hr2; clear hr2
            go_wp2_with fail
            go_ret
            exact ⟨rfl, HR2.out, HG.out.trans hg2⟩
    · have HP : Hid (RqF.pairR (s.data.toList.drop k) = none) := by
        show _ = _; unfold RqF.pairR; rw [h]
        simp only
        split
        · rename_i a b; exact absurd rfl h2
        · rfl
      clear h hz2
      rw [HP.out]
      show Calls _ _ _ _ (ReadNo W br w)
      go_enter Tryz.func40, Tryz.ntmps40
      go_wp2_with fail
      refine (line_at W br k s _ _ _ HR.out HL.out).mono ?_
      rintro e w1 ⟨g, j, hg, rfl, hw, hr, hR1, hgr⟩
      have hd : (((ws.length : Nat) : Int) == 2) = false := by rw [beq_eq_false_iff_ne]; omega
      clear hw hR1 hr hg
      have HG := Lib.hid hgr; clear hgr
      go_wp2_with fail
      go_ret
      exact ⟨rfl, HG.out⟩
set_option maxRecDepth 100000 in
set_option maxHeartbeats 1000000 in
theorem scored_any (W : World) (br k : Nat) (s : ByteArray) (w : World) (hR : Rd W br s k w) :
    Calls Tryz.prog 41 #[.pointer (some ⟨br, 0, none⟩)] w (ReadRet W br s (RqF.scoredR (s.data.toList.drop k)) w) := by
  have hs := hR.small
  have HR := Lib.hid hR; clear hR
  cases h : RqF.lineR (s.data.toList.drop k) with
  | none =>
    have HP : Hid (RqF.scoredR (s.data.toList.drop k) = none) := by show _ = _; unfold RqF.scoredR; rw [h]
    have HL := Lib.hid h; clear h
    rw [HP.out]
    show Calls _ _ _ _ (ReadNo W br w)
    go_enter Tryz.func41, Tryz.ntmps41
    go_wp2_with fail
    refine (line_gone W br k s _ HR.out HL.out).mono ?_
    rintro e w1 ⟨rfl, n, rfl⟩
    go_wp2_with fail
    go_ret
    exact ⟨rfl, grown_drewN _ _ _⟩
  | some p =>
    obtain ⟨ws, r⟩ := p
    obtain ⟨hz1, hz2⟩ := line_sizes h
    have HL := Lib.hid h
    by_cases h2 : ws.length = 2
    · match ws, h2, hz1, hz2, h, HL with
      | [x, y], _, hz1, hz2, h, HL =>
        have hx := hz2 x (by simp)
        have hy := hz2 y (by simp)
        have HP : Hid (RqF.scoredR (s.data.toList.drop k) = if RqF.isWord x = true ∧ (RqF.parseP y).isSome = true then some r else none) := by show _ = _; unfold RqF.scoredR; rw [h]
        clear h hz1 hz2
        cases hn : RqF.isWord x with
        | false =>
          have HN := Lib.hid hn; clear hn
          rw [HP.out, if_neg (by rw [HN.out]; exact fun h => absurd h.1 (by decide))]
          show Calls _ _ _ _ (ReadNo W br w)
          go_enter Tryz.func41, Tryz.ntmps41
          go_wp2_with fail
          refine (line_at W br k s _ _ _ HR.out HL.out).mono ?_
          rintro e w1 ⟨g, j, hg, rfl, hw, hr, hR1, hgr⟩
          have HW := Lib.hid hw; have HR1 := Lib.hid hR1; have HG := Lib.hid hgr; have HRr := Lib.hid hr
          clear hw hR1 hgr hr hg
          have c0 : w1.cell? ⟨g, 0, none⟩ = some (.string ⟨x.toArray⟩) := words_cell HW.out 0 (by simp)
          have c1 : w1.cell? ⟨g, 1, none⟩ = some (.string ⟨y.toArray⟩) := words_cell HW.out 1 (by simp)
          go_wp2_with fail
          refine (name_is x false _ (by omega) HN.out).mono ?_
          rintro e w2 ⟨rfl, rfl⟩
          go_wp2_with fail
          go_ret
          exact ⟨rfl, HG.out⟩
        | true =>
          have HN := Lib.hid hn; clear hn
          cases hv : RqF.isScore y with
          | false =>
            have HV := Lib.hid hv; clear hv
            rw [HP.out, if_neg (fun h => absurd (HV.out.symm.trans h.2) (by decide))]
            show Calls _ _ _ _ (ReadNo W br w)
            go_enter Tryz.func41, Tryz.ntmps41
            go_wp2_with fail
            refine (line_at W br k s _ _ _ HR.out HL.out).mono ?_
            rintro e w1 ⟨g, j, hg, rfl, hw, hr, hR1, hgr⟩
            have HW := Lib.hid hw; have HR1 := Lib.hid hR1; have HG := Lib.hid hgr; have HRr := Lib.hid hr
            clear hw hR1 hgr hr hg
            have c0 : w1.cell? ⟨g, 0, none⟩ = some (.string ⟨x.toArray⟩) := words_cell HW.out 0 (by simp)
            have c1 : w1.cell? ⟨g, 1, none⟩ = some (.string ⟨y.toArray⟩) := words_cell HW.out 1 (by simp)
            go_wp2_with fail
            refine (name_is x true _ (by omega) HN.out).mono ?_
            rintro e w2 ⟨rfl, rfl⟩
            go_wp2_with fail
            refine (score_is y false _ (by omega) HR1.out.tabsM.toTabsP HV.out).mono ?_
            rintro e w2 ⟨rfl, hb2⟩
            have HB2 := Lib.hid hb2; clear hb2
            go_wp2_with fail
            go_ret
            exact ⟨rfl, HG.out.trans (grown_of_below HB2.out _)⟩
          | true =>
            have HV := Lib.hid hv; clear hv
            rw [HP.out, if_pos ⟨HN.out, HV.out⟩]
            show Calls _ _ _ _ (ReadYes W br s r w)
            go_enter Tryz.func41, Tryz.ntmps41
            go_wp2_with fail
            refine (line_at W br k s _ _ _ HR.out HL.out).mono ?_
            rintro e w1 ⟨g, j, hg, rfl, hw, hr, hR1, hgr⟩
            have HW := Lib.hid hw; have HR1 := Lib.hid hR1; have HG := Lib.hid hgr; have HRr := Lib.hid hr
            clear hw hR1 hgr hr hg
            have c0 : w1.cell? ⟨g, 0, none⟩ = some (.string ⟨x.toArray⟩) := words_cell HW.out 0 (by simp)
            have c1 : w1.cell? ⟨g, 1, none⟩ = some (.string ⟨y.toArray⟩) := words_cell HW.out 1 (by simp)
            go_wp2_with fail
            refine (name_is x true _ (by omega) HN.out).mono ?_
            rintro e w2 ⟨rfl, rfl⟩
            go_wp2_with fail
            refine (score_is y true _ (by omega) HR1.out.tabsM.toTabsP HV.out).mono ?_
            rintro e w2 ⟨rfl, hb2⟩
            have HB2 := Lib.hid hb2; clear hb2
            go_wp2_with fail
            go_ret
            exact ⟨rfl, ⟨j, HRr.out, HR1.out.next HB2.out⟩, HG.out.trans (grown_of_below HB2.out _)⟩
    · have HP : Hid (RqF.scoredR (s.data.toList.drop k) = none) := by
        show _ = _; unfold RqF.scoredR; rw [h]
        simp only
        split
        · rename_i a b; exact absurd rfl h2
        · rfl
      clear h hz2
      rw [HP.out]
      show Calls _ _ _ _ (ReadNo W br w)
      go_enter Tryz.func41, Tryz.ntmps41
      go_wp2_with fail
      refine (line_at W br k s _ _ _ HR.out HL.out).mono ?_
      rintro e w1 ⟨g, j, hg, rfl, hw, hr, hR1, hgr⟩
      have hd : (((ws.length : Nat) : Int) == 2) = false := by rw [beq_eq_false_iff_ne]; omega
      clear hw hR1 hr hg
      have HG := Lib.hid hgr; clear hgr
      go_wp2_with fail
      go_ret
      exact ⟨rfl, HG.out⟩
end Go.Proofs.YtnjmhneobgmejaaGreatDoor
