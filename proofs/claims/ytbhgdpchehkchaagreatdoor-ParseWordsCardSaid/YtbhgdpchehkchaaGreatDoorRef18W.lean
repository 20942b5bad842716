/- The walk of the document's words. Conditions: the text is of less than 2^32 bytes. -/
import Derived.Test.YtbhgdpchehkchaaGreatDoorRef18B
import Derived.Maps.AppendAt
namespace RqF
/-- What is known when the signs ahead of i have been looked at: the words so far, where the next one begins. -/
structure Scan (l : List UInt8) (f i : Nat) (acc : List (List UInt8)) : Prop where
  le : f ≤ i
  words : wordsOf l = acc ++ wordsOf (l.drop f)
  plain : ∀ c ∈ (l.drop f).take (i - f), c ≠ 32
  full : [] ∉ acc
theorem Scan.start (l : List UInt8) : Scan l 0 0 [] := ⟨Nat.le_refl _, rfl, by simp, by simp⟩
theorem Scan.next {l : List UInt8} {f i : Nat} {acc : List (List UInt8)} (h : Scan l f i acc) (hi : i < l.length) (hc : l[i] ≠ 32) : Scan l f (i + 1) acc := by
  refine ⟨by have := h.le; omega, h.words, ?_, h.full⟩
  intro c hm
  have hle := h.le
  rw [show i + 1 - f = (i - f) + 1 by omega, List.take_succ_eq_append_getElem (by rw [List.length_drop]; omega)] at hm
  rcases List.mem_append.1 hm with hm | hm
  · exact h.plain c hm
  · rw [List.mem_singleton] at hm
    rw [hm, List.getElem_drop]
    have : f + (i - f) = i := by omega
    simp only [this]; exact hc
theorem Scan.hit {l : List UInt8} {f i : Nat} {acc : List (List UInt8)} (h : Scan l f i acc) (hi : i < l.length) (hc : l[i] = 32) : wordsOf (l.drop f) = (l.drop f).take (i - f) :: wordsOf (l.drop (i + 1)) := by
  have hle := h.le
  have e : l.drop f = (l.drop f).take (i - f) ++ 32 :: l.drop (i + 1) := by
    conv => lhs; rw [← List.take_append_drop (i - f) (l.drop f)]
    rw [List.drop_drop, show f + (i - f) = i by omega, List.drop_eq_getElem_cons hi, hc]
  conv => lhs; rw [e]
  exact wordsOf_app _ _ h.plain
theorem Scan.empty {l : List UInt8} {f : Nat} {acc : List (List UInt8)} (h : Scan l f f acc) (hi : f = l.length ∨ ∃ hi : f < l.length, l[f] = 32) : [] ∈ wordsOf l := by
  rw [h.words]
  refine List.mem_append_right _ ?_
  rcases hi with hi | ⟨hi, hc⟩
  · rw [hi, List.drop_length]; exact List.mem_singleton.2 rfl
  · rw [h.hit hi hc, Nat.sub_self]; exact List.mem_cons_self
theorem Scan.word {l : List UInt8} {f i : Nat} {acc : List (List UInt8)} (h : Scan l f i acc) (hi : i < l.length) (hc : l[i] = 32) (hf : f < i) : Scan l (i + 1) (i + 1) (acc ++ [(l.drop f).take (i - f)]) := by
  refine ⟨Nat.le_refl _, ?_, by simp, ?_⟩
  · rw [h.words, h.hit hi hc]; simp
  · intro hm
    rcases List.mem_append.1 hm with hm | hm
    · exact h.full hm
    · rw [List.mem_singleton] at hm
      have := congrArg List.length hm
      simp at this; omega
theorem Scan.last {l : List UInt8} {f : Nat} {acc : List (List UInt8)} (h : Scan l f l.length acc) (hf : f < l.length) : wordsOf l = acc ++ [(l.drop f).take (l.length - f)] ∧ [] ∉ acc ++ [(l.drop f).take (l.length - f)] := by
  have e : (l.drop f).take (l.length - f) = l.drop f := List.take_of_length_le (by simp)
  refine ⟨?_, ?_⟩
  · rw [h.words, e, wordsOf_plain]
    intro c hc; exact h.plain c (by rw [e]; exact hc)
  · intro hm
    rcases List.mem_append.1 hm with hm | hm
    · exact h.full hm
    · rw [List.mem_singleton, e] at hm
      have := congrArg List.length hm
      simp at this; omega
theorem Scan.len {l : List UInt8} {f i : Nat} {acc : List (List UInt8)} (h : Scan l f i acc) : acc.length ≤ l.length := by
  have h1 := wordsOf_len l
  rw [h.words] at h1
  have := wordsOf_pos (l.drop f)
  simp at h1; omega
end RqF
namespace Go.Proofs.YtbhgdpchehkchaaGreatDoor
open Go.RowKit

def strs (ws : List (List UInt8)) : List Value := ws.map fun x => Value.string ⟨x.toArray⟩
/-- What words hands back. -/
def WordsRet (l : List UInt8) (w : World) (e : Ending) (w' : World) : Prop :=
  (([] ∈ RqF.wordsOf l ∧ e = .returned (.tuple #[.slice none 0 0, .bool false])) ∨
   ([] ∉ RqF.wordsOf l ∧ ∃ v, e = .returned (.tuple #[v, .bool true]) ∧ w'.ownsRow w.heap.size 9 1 v (RqF.wordsOf l).length (strs (RqF.wordsOf l)))) ∧ Below w.heap.size w w'
theorem word_cut (s : ByteArray) (f i : Nat) : s.extract f i = ⟨((s.data.toList.drop f).take (i - f)).toArray⟩ := by
  have h := Lib.extract_data s f i
  apply ByteArray.ext
  apply Array.ext'
  rw [h]
theorem infoStr : (Tryz.prog.info? 9).map (fun i => (i.zero, i.size, i.bytes)) = some (some (.string ⟨#[]⟩), 1, 16) := by kernel_rfl
theorem strs_snoc (ws : List (List UInt8)) (x : List UInt8) : strs (ws ++ [x]) = strs ws ++ [Value.string ⟨x.toArray⟩] := by simp [strs]

set_option maxRecDepth 100000 in
set_option maxHeartbeats 2000000 in
theorem words18_any (s : ByteArray) (w : World) (hs : s.size < 4294967281) :
    Calls Tryz.prog 37 #[.string s] w (WordsRet s.data.toList w) := by
  obtain ⟨l, hl⟩ : ∃ l, l = s.data.toList := ⟨_, rfl⟩
  have hsz : l.length = s.size := by rw [hl, ← Lib.size_eq]
  have HGE : Hid (∀ k (h : k < s.size), (s[k]'h).toNat = (l[k]'(by omega)).toNat) := by intro k h; subst hl; rfl
  obtain ⟨i0, hi0, hz0, hz1, hz2⟩ := info_parts infoStr
  rw [← hl]
  have HL := Lib.hid hl; clear hl
  obtain ⟨B, hB⟩ : ∃ B, B = w.heap.size := ⟨_, rfl⟩
  have HB := Lib.hid hB
  have hz0' := Lib.hid hz0; have hi0' := Lib.hid hi0; have hz1' := Lib.hid hz1; have hz2' := Lib.hid hz2
  clear hz0 hi0 hz1 hz2 hB
  go_enter Tryz.func37, Tryz.ntmps37
  go_wp2_with fail
  go_loopw [4, 5, 6] (fun v f i wr => ∃ (F I : Nat) (acc : List (List UInt8)), f = .int .i64 F ∧ i = .int .i64 I ∧ Hid ((I ≤ s.size ∧ RqF.Scan l F I acc) ∨ (I = s.size + 1 ∧ RqF.wordsOf l = acc ∧ [] ∉ acc)) ∧ F ≤ I ∧ I ≤ s.size + 1 ∧ wr.ownsRow B 9 1 v acc.length (strs acc) ∧ Hid (Below w.heap.size w wr)) (fun _ _ i _ => s.size + 1 - (intOf i).toNat)
  case atStart => exact ⟨0, 0, [], rfl, rfl, Or.inl ⟨Nat.zero_le _, RqF.Scan.start l⟩, Nat.le_refl _, Nat.zero_le _, World.ownsRow_nil _ _ _ _, Below.refl _ _⟩
  case round =>
    obtain ⟨F, I, acc, rfl, rfl, HS, hFI, hI, hown, HBL⟩ := hrel
    have HOWN := Lib.hid hown; clear hown
    by_cases hlt : I < s.size
    · have hb := HGE.out I hlt
      have HSC : Hid (RqF.Scan l F I acc) := by
        rcases HS.out with h | h
        · exact h.2
        · omega
      by_cases hc : (s[I]'hlt).toNat = 32
      · have hc32 : l[I]'(by omega) = 32 := by
          have h1 : (l[I]'(by omega)).toNat = 32 := by rw [← hb]; exact hc
          have := congrArg UInt8.ofNat h1
          rw [UInt8.ofNat_toNat] at this; exact this
        have HC := Lib.hid hc32
        clear hb hc32
        by_cases hf : F = I
        · subst hf
          have HE := Lib.hid (RqF.Scan.empty HSC.out (Or.inr ⟨_, HC.out⟩))
          go_wp2_with fail
          refine bodyPost_ret (results_tmp2 rfl _ _ _) rfl ⟨Or.inl ⟨HE.out, rfl⟩, HBL.out⟩
        · have hf2 : F < I := by omega
          have hfne : ((I : Int) == (F : Int)) = false := beq_eq_false_iff_ne.2 (by omega)
          have HW := Lib.hid (RqF.Scan.word HSC.out _ HC.out hf2)
          have hal := RqF.Scan.len HSC.out
          clear hf
          go_wp2_with (at_builtin; refine wpList_append_own _ rfl (.tmp 26) (.tmp 31) 26 rfl B 9 i0 (.string ⟨#[]⟩) 1 16 Tryz.underlying26 hi0'.out hz0'.out hz1'.out hz2'.out rfl (by decide) _ acc.length (strs acc) rfl (HOWN.out.alloc _) ⟨wr.heap.size, 0, none⟩ 1 1 [.string (s.extract F I)] rfl rfl ?c1 ?c2 ?c3 ?c4 ?c5 ?_)
          case c1 =>
            intro j u hj
            cases j with
            | zero => injection hj with hj; subst hj; exact blk_cell (heap_alloc_new wr _) rfl
            | succ j => cases hj
          case c2 => intro u hu; rw [List.mem_singleton] at hu; subst hu; rfl
          case c3 => have := hsz; unfold maxLen; omega
          case c4 => have := hsz; omega
          case c5 => have h1 := HBL.out.size; have h2 := HB.out; simp; omega
          intro v' w1 hown' hgrow _
          have hown2 : w1.ownsRow B 9 1 v' (acc ++ [(l.drop F).take (I - F)]).length (strs (acc ++ [(l.drop F).take (I - F)])) := by
            rw [strs_snoc, List.length_append]
            have e : s.extract F I = ⟨((l.drop F).take (I - F)).toArray⟩ := by rw [HL.out]; exact word_cut s F I
            rw [← e]; exact hown'
          have HO2 := Lib.hid hown2
          have HB2 : Hid (Below w.heap.size w w1) := by
            have h1 := HBL.out.alloc HBL.out.size (.cells #[.string (s.extract F I)] 9)
            refine h1.grown hgrow h1.size (fun k hk => ?_)
            have := HOWN.out.lt k hk
            rw [← HB.out]; exact this.1
          clear hown' hgrow hown2
          go_wp2_with fail
          exact ⟨⟨I + 1, I + 1, _, by go_num, by go_num, Or.inl ⟨by omega, HW.out⟩, Nat.le_refl _, by omega, HO2.out, HB2⟩, by simp [intOf]; omega⟩
      · have hc32 : l[I]'(by omega) ≠ 32 := by
          intro e; apply hc; rw [hb, e]; rfl
        have HN := Lib.hid (RqF.Scan.next HSC.out (by omega) hc32)
        have hcb : (((s[I]'hlt).toNat : Int) == 32) = false := beq_eq_false_iff_ne.2 (by omega)
        clear hb hc32
        go_wp2_with fail
        exact ⟨⟨F, I + 1, acc, rfl, by go_num, Or.inl ⟨by omega, HN.out⟩, by omega, by omega, HOWN.out, HBL⟩, by simp [intOf]; omega⟩
    · by_cases he : I ≤ s.size
      · have heq : I = s.size := by omega
        have HSC : Hid (RqF.Scan l F l.length acc) := by
          rcases HS.out with h | h
          · have h2 := h.2; rw [show I = l.length by omega] at h2; exact h2
          · omega
        have HEQ := Lib.hid heq; clear heq
        by_cases hf : F = I
        · subst hf
          have HE : Hid ([] ∈ RqF.wordsOf l) := by
            have h := HSC.out
            rw [show l.length = F by rw [HEQ.out]; exact hsz] at h
            exact RqF.Scan.empty h (Or.inl (by rw [HEQ.out]; exact hsz.symm))
          go_wp2_with fail
          refine bodyPost_ret (results_tmp2 rfl _ _ _) rfl ⟨Or.inl ⟨HE.out, rfl⟩, HBL.out⟩
        · have hf2 : F < I := by omega
          have hfne : ((I : Int) == (F : Int)) = false := beq_eq_false_iff_ne.2 (by omega)
          have HW : Hid (RqF.wordsOf l = acc ++ [(l.drop F).take (I - F)] ∧ [] ∉ acc ++ [(l.drop F).take (I - F)]) := by
            have h := RqF.Scan.last HSC.out (by omega)
            rw [show l.length = I by rw [HEQ.out]; exact hsz] at h
            exact h
          have hal := RqF.Scan.len HSC.out
          clear hf
          go_wp2_with (at_builtin; refine wpList_append_own _ rfl (.tmp 26) (.tmp 31) 26 rfl B 9 i0 (.string ⟨#[]⟩) 1 16 Tryz.underlying26 hi0'.out hz0'.out hz1'.out hz2'.out rfl (by decide) _ acc.length (strs acc) rfl (HOWN.out.alloc _) ⟨wr.heap.size, 0, none⟩ 1 1 [.string (s.extract F I)] rfl rfl ?c1 ?c2 ?c3 ?c4 ?c5 ?_)
          case c1 =>
            intro j u hj
            cases j with
            | zero => injection hj with hj; subst hj; exact blk_cell (heap_alloc_new wr _) rfl
            | succ j => cases hj
          case c2 => intro u hu; rw [List.mem_singleton] at hu; subst hu; rfl
          case c3 => have := hsz; unfold maxLen; omega
          case c4 => have := hsz; omega
          case c5 => have h1 := HBL.out.size; have h2 := HB.out; simp; omega
          intro v' w1 hown' hgrow _
          have hown2 : w1.ownsRow B 9 1 v' (acc ++ [(l.drop F).take (I - F)]).length (strs (acc ++ [(l.drop F).take (I - F)])) := by
            rw [strs_snoc, List.length_append]
            have e : s.extract F I = ⟨((l.drop F).take (I - F)).toArray⟩ := by rw [HL.out]; exact word_cut s F I
            rw [← e]; exact hown'
          have HO2 := Lib.hid hown2
          have HB2 : Hid (Below w.heap.size w w1) := by
            have h1 := HBL.out.alloc HBL.out.size (.cells #[.string (s.extract F I)] 9)
            refine h1.grown hgrow h1.size (fun k hk => ?_)
            have := HOWN.out.lt k hk
            rw [← HB.out]; exact this.1
          clear hown' hgrow hown2
          go_wp2_with fail
          exact ⟨⟨I + 1, I + 1, _, by go_num, by go_num, Or.inr ⟨by rw [HEQ.out], HW.out⟩, Nat.le_refl _, by omega, HO2.out, HB2⟩, by simp [intOf]; omega⟩
      · have HE : Hid (RqF.wordsOf l = acc ∧ [] ∉ acc) := by
          rcases HS.out with h | h
          · omega
          · exact h.2
        go_wp2_with fail
        refine bodyPost_ret (results_tmp2 rfl _ _ _) rfl ⟨Or.inr ⟨by rw [HE.out.1]; exact HE.out.2, _, rfl, ?_⟩, HBL.out⟩
        rw [HE.out.1, ← HB.out]; exact HOWN.out
end Go.Proofs.YtbhgdpchehkchaaGreatDoor
