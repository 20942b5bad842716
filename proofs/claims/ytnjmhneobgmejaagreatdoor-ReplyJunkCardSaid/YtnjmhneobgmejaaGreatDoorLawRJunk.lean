/- The walk of ReplyJunk. Conditions: the library's tables are as they are laid. -/
import Derived.Test.YtnjmhneobgmejaaGreatDoorLawRErrors
namespace Go.Proofs.YtnjmhneobgmejaaGreatDoor
open Go.RowKit

/-- A text that is not empty, in the walk's spellings. -/
theorem not_empty {X : ByteArray} (h : X.data.toList ≠ []) : X.toList.isEmpty = false ∧ (X.toList == []) = false ∧ (X.toList != []) = true := by
  have h' : X.toList ≠ [] := by rw [ByteArray.toList_eq]; exact h
  refine ⟨?_, by rw [beq_eq_false_iff_ne]; exact h', by rw [bne_iff_ne]; exact h'⟩
  cases hx : X.toList with
  | nil => exact absurd hx h'
  | cons a r => rfl
/-- What stands at each round's head: the parts so far, put together. -/
def JunkInv (w1 : World) (cs : List (List UInt8)) (all iv : Value) (wr : World) : Prop :=
  ∃ (k : Nat) (A : ByteArray), iv = .int .i64 k ∧ k ≤ cs.length ∧ all = .string A ∧ A.data.toList = (cs.take k).flatten ∧ Below w1.heap.size w1 wr
theorem take_flat {cs : List (List UInt8)} {k : Nat} (h : k < cs.length) : (cs.take (k + 1)).flatten = (cs.take k).flatten ++ cs[k] := by
  rw [List.take_succ_eq_append_getElem h, List.flatten_append]; simp
theorem take_flat_le (cs : List (List UInt8)) (k : Nat) : (cs.take k).flatten.length ≤ cs.flatten.length := by
  conv => rhs; rw [← List.take_append_drop k cs, List.flatten_append, List.length_append]
  omega
theorem mem_flat_le {cs : List (List UInt8)} {k : Nat} (h : k < cs.length) : cs[k].length ≤ cs.flatten.length := by
  have h1 := take_flat_le cs (k + 1)
  rw [take_flat h, List.length_append] at h1
  omega
theorem len_flat_le {cs : List (List UInt8)} (h : ∀ c ∈ cs, c ≠ []) : cs.length ≤ cs.flatten.length := by
  induction cs with
  | nil => simp
  | cons c cs ih =>
    have h1 := List.length_pos_iff.2 (h c List.mem_cons_self)
    have h2 := ih (fun x hx => h x (List.mem_cons_of_mem _ hx))
    simp only [List.flatten_cons, List.length_append, List.length_cons]
    omega

set_option maxRecDepth 100000 in
set_option maxHeartbeats 2000000 in
theorem replyJunk_any (s : ByteArray) (w : World) (ht : TabsM w) (hs : s.size ≤ 281474976710656) :
    Calls Tryz.prog 3 #[.string s] w fun r w' => r = .returned (.bool true) ∧ Below w.heap.size w w' := by
  have HT := Lib.hid ht; clear ht
  by_cases hbig : 2000 < s.size
  · go_enter Tryz.func3, Tryz.ntmps3
    go_wp2_with fail
    refine (awake19_any _ HT.out.toTabs).mono ?_
    rintro r w1 ⟨rfl, hb⟩
    go_wp2_with fail
    go_ret
    exact ⟨rfl, hb⟩
  · have hsz : s.size ≤ 2000 := by omega
    clear hbig hs
    cases hp : RqF.parseR s.data.toList with
    | none =>
      have h0 : s.data.toList ≠ [] := by
        intro e
        rw [e] at hp; cases hp
      obtain ⟨e1, e2, e3⟩ := not_empty h0
      have HP := Lib.hid hp; clear hp h0
      go_enter Tryz.func3, Tryz.ntmps3
      go_wp2_with fail
      refine (show Calls Tryz.prog 8 _ _ (PartsRet w none) from HP.out ▸ reply_parse s w HT.out (by omega)).mono ?_
      rintro r w1 ⟨rfl, hb⟩
      have HB := Lib.hid hb; clear hb
      go_wp2_with fail
      refine (awake19_any _ (HT.out.below HB.out).toTabs).mono ?_
      rintro r w2 ⟨rfl, hb2⟩
      go_wp2_with fail
      go_ret
      exact ⟨rfl, below_trans HB.out hb2⟩
    | some cs =>
      obtain ⟨hfl, htold⟩ := RqF.parts_law _ _ (Nat.le_refl _) cs hp
      have hlen : cs.flatten.length ≤ 2000 := by rw [hfl, ← Lib.size_eq]; exact hsz
      have hcs : cs.length ≤ 2000 := Nat.le_trans (len_flat_le fun c hc => (htold c hc).1) hlen
      have HP := Lib.hid hp; have HF := Lib.hid hfl; have HTo := Lib.hid htold; have HL := Lib.hid hlen
      clear hp hfl htold hlen
      go_enter Tryz.func3, Tryz.ntmps3
      go_wp2_with fail
      refine (show Calls Tryz.prog 8 _ _ (PartsRet w (some cs)) from HP.out ▸ reply_parse s w HT.out (by omega)).mono ?_
      rintro r w1 ⟨v, rfl, hown, hnil, hb⟩
      have HB := Lib.hid hb; clear hb
      have HOWN := Lib.hid hown; have HNIL := Lib.hid hnil
      clear hown hnil
      obtain ⟨A0, cap, hv, hcell⟩ : ∃ A0 cap, v = .slice A0 cs.length cap ∧ ∀ (k : Nat) (h : k < cs.length), ∃ g, A0 = some ⟨g, 0, none⟩ ∧ g < w1.heap.size ∧ w1.cell? ⟨g, k, none⟩ = some (.string ⟨(cs[k]).toArray⟩) := by
        rcases HOWN.out.2 with ⟨hv, hz⟩ | ⟨g, cap, cur, hv, hbg, hg, hnc, _⟩
        · exact ⟨none, 0, by rw [hv, hz], fun k h => by omega⟩
        · subst hv
          refine ⟨_, cap, rfl, fun k h => ⟨g, rfl, lt_of_block hg, ?_⟩⟩
          rw [HOWN.out.cellAt k (by omega)]
          unfold strVals
          rw [List.getElem?_map, List.getElem?_eq_getElem h]; rfl
      subst hv
      have HC := Lib.hid hcell; clear hcell
      go_wp2_with fail
      go_loopw [5, 6] (fun all iv wr => JunkInv w1 cs all iv wr) (fun _ iv _ => cs.length - (intOf iv).toNat)
      case atStart => exact ⟨0, ⟨#[]⟩, rfl, Nat.zero_le _, rfl, rfl, Below.refl _ _⟩
      case round =>
        obtain ⟨k, A, rfl, hk, rfl, hA, hbr⟩ := hrel
        have HA := Lib.hid hA; have HBR := Lib.hid hbr
        clear hA hbr
        have hAs : A.size ≤ 2000 := by rw [Lib.size_eq, HA.out]; exact Nat.le_trans (take_flat_le cs k) HL.out
        by_cases hlt : k < cs.length
        · obtain ⟨g, rfl, hg, hck⟩ := HC.out k hlt
          obtain ⟨X, hX⟩ : ∃ X : ByteArray, X = ⟨(cs[k]).toArray⟩ := ⟨_, rfl⟩
          have hXd : X.data.toList = cs[k] := by rw [hX]
          have hXs : X.size ≤ 2000 := by rw [Lib.size_eq, hXd]; exact Nat.le_trans (mem_flat_le hlt) HL.out
          have hTX := HTo.out cs[k] (List.getElem_mem hlt)
          obtain ⟨e1, e2, e3⟩ := not_empty (X := X) (by rw [hXd]; exact hTX.1)
          rw [← hX] at hck
          have ck : wr.cell? ⟨g, k, none⟩ = some (.string X) := cell_later HBR.out hck
          have HX := Lib.hid hXd; have HTX := Lib.hid hTX; have HCK := Lib.hid hck
          clear hX hXd hTX hck
          go_wp2_with fail
          refine (parse_told X [cs[k]] _ (HT.out.below (below_trans HB.out HBR.out)) (by omega) (by rw [HX.out]; simp) (fun c hc => by simp at hc; subst hc; exact HTX.out) (by simp)).mono ?_
          rintro r w2 ⟨g2, cap2, rfl, hg2, hlt2, hcap2, hc2, hb2⟩
          have HB2 := Lib.hid (below_trans HBR.out hb2); clear hb2 hc2 hg2
          have ck2 : w2.cell? ⟨g, k, none⟩ = some (.string X) := cell_later HB2.out HCK.out
          go_wp2_with fail
          go_roundw
          case measure => simp [intOf]; omega
          case rel => exact ⟨k + 1, A ++ X, by go_num, by omega, rfl, by rw [take_flat hlt, ← HA.out, ← HX.out]; simp, HB2.out⟩
        · obtain rfl : k = cs.length := by omega
          have hAs2 : A = s := ba_eq (by rw [HA.out, List.take_length, HF.out])
          subst hAs2
          go_wp2_with fail
          refine (awake19_any _ (HT.out.below (below_trans HB.out HBR.out)).toTabs).mono ?_
          rintro r w2 ⟨rfl, hb2⟩
          go_wp2_with fail
          go_ret
          exact ⟨rfl, below_trans (below_trans HB.out HBR.out) hb2⟩
end Go.Proofs.YtnjmhneobgmejaaGreatDoor
