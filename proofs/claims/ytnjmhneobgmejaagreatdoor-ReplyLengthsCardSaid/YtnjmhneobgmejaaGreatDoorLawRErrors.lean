/- The walk of ReplyErrors. Conditions: the library's tables are as they are laid. -/
import Derived.Test.YtnjmhneobgmejaaGreatDoorRepQ
import Derived.Test.YtnjmhneobgmejaaGreatDoorAwake19
namespace RqF
/-- The number by which the law tells an error's word. -/
def wordE (e : Int) : Int := if e = 5 then 2 else if e = 2 ∨ e = 3 ∨ e = 6 ∨ e = 50 ∨ e = 60 ∨ e = 61 ∨ e = 65 then e else 1
/-- The word that is meant by such a number. -/
def wordN (n : Int) : List UInt8 := if n = 3 then [83, 89, 78, 84, 65, 88] else if n = 2 then [84, 79, 79, 66, 73, 71] else if n = 61 then [78, 79, 83, 78, 65, 80] else if n = 60 then [70, 85, 76, 76]
  else if n = 6 then [78, 65, 78] else if n = 65 then [77, 65, 78, 89] else if n = 50 then [68, 69, 65, 68] else [65, 82, 71]
theorem wordE_cases (e : Int) : wordE e = 1 ∨ wordE e = 2 ∨ wordE e = 3 ∨ wordE e = 6 ∨ wordE e = 50 ∨ wordE e = 60 ∨ wordE e = 61 ∨ wordE e = 65 := by
  unfold wordE
  split
  · simp
  · split
    · rename_i h; omega
    · simp
theorem errW_word (e : Int) : errW e = wordN (wordE e) := by
  unfold errW wordE
  by_cases h5 : e = 5
  · subst h5; decide
  by_cases h3 : e = 3
  · subst h3; decide
  by_cases h2 : e = 2
  · subst h2; decide
  by_cases h61 : e = 61
  · subst h61; decide
  by_cases h60 : e = 60
  · subst h60; decide
  by_cases h6 : e = 6
  · subst h6; decide
  by_cases h65 : e = 65
  · subst h65; decide
  by_cases h50 : e = 50
  · subst h50; decide
  simp [h5, h3, h2, h61, h60, h6, h65, h50, wordN]
theorem wordN_inj {m n : Int} (hm : m = 1 ∨ m = 2 ∨ m = 3 ∨ m = 6 ∨ m = 50 ∨ m = 60 ∨ m = 61 ∨ m = 65) (hn : n = 1 ∨ n = 2 ∨ n = 3 ∨ n = 6 ∨ n = 50 ∨ n = 60 ∨ n = 61 ∨ n = 65) (h : wordN m = wordN n) : m = n := by
  rcases hm with rfl | rfl | rfl | rfl | rfl | rfl | rfl | rfl <;> rcases hn with rfl | rfl | rfl | rfl | rfl | rfl | rfl | rfl <;> first | rfl | exact absurd h (by decide)
theorem errT_form (e : Int) : errT e = [69, 82, 82, 32] ++ (errW e ++ [10]) := by
  unfold errT tellR; rw [joinW_cons2, joinW_one]; simp [sERR]
theorem errT_inj {a b : Int} (h : errT a = errT b) : wordE a = wordE b := by
  rw [errT_form, errT_form] at h
  have h2 := List.append_cancel_right (List.append_cancel_left h)
  rw [errW_word, errW_word] at h2
  exact wordN_inj (wordE_cases a) (wordE_cases b) h2
theorem errT_same {a b : Int} (h : wordE a = wordE b) : errT a = errT b := by
  rw [errT_form, errT_form, errW_word, errW_word, h]
end RqF
namespace Go.Proofs.YtnjmhneobgmejaaGreatDoor
open Go.RowKit

/-- What is told is parted as it was told. -/
def ToldRet (w : World) (cs : List (List UInt8)) (e : Ending) (w' : World) : Prop :=
  ∃ g cap, e = .returned (.tuple #[.slice (some ⟨g, 0, none⟩) cs.length cap, .int .i64 0]) ∧ w.heap.size ≤ g ∧ g < w'.heap.size ∧ cs.length ≤ cap ∧ (∀ (j : Nat) (h : j < cs.length), w'.cell? ⟨g, j, none⟩ = some (.string ⟨(cs[j]).toArray⟩)) ∧ Below w.heap.size w w'
theorem parts_row {w w' : World} {cs : List (List UInt8)} {e : Ending} (h : PartsRet w (some cs) e w') (h0 : cs ≠ []) : ToldRet w cs e w' := by
  obtain ⟨v, he, hown, _, hb⟩ := h
  have hpos := List.length_pos_iff.2 h0
  obtain ⟨g, cap, hv, hbg, hlt, hcap⟩ : ∃ g cap, v = .slice (some ⟨g, 0, none⟩) cs.length cap ∧ w.heap.size ≤ g ∧ g < w'.heap.size ∧ cs.length ≤ cap := by
    rcases hown.2 with ⟨_, hz⟩ | ⟨g, cap, cur, hv, hbg, hg, hnc, _⟩
    · omega
    · exact ⟨g, cap, hv, hbg, lt_of_block hg, hnc⟩
  subst hv
  refine ⟨g, cap, he, hbg, hlt, hcap, fun j hj => ?_, hb⟩
  rw [hown.cellAt j (by omega)]
  unfold strVals
  rw [List.getElem?_map, List.getElem?_eq_getElem hj]; rfl
theorem parse_told (s : ByteArray) (cs : List (List UInt8)) (w : World) (ht : TabsM w) (hs : s.size < 4294967281) (h : s.data.toList = cs.flatten) (hall : ∀ c ∈ cs, RqF.Told c) (h0 : cs ≠ []) :
    Calls Tryz.prog 8 #[.string s] w (ToldRet w cs) := by
  have hp : RqF.parseR s.data.toList = some cs := by rw [h]; exact RqF.parseR_all cs hall
  have := reply_parse s w ht hs
  rw [hp] at this
  exact this.mono fun e w' hr => parts_row hr h0

set_option maxRecDepth 100000 in
theorem word_any (e : Int) (w : World) : Calls Tryz.prog 18 #[.int .i64 e] w fun r w' => r = .returned (.int .i64 (RqF.wordE e)) ∧ w = w' := by
  by_cases h5 : e = 5
  · subst h5
    go_enter Tryz.func18, Tryz.ntmps18
    go_wp2_with fail
    go_ret
    exact ⟨rfl, rfl⟩
  by_cases hin : e = 2 ∨ e = 3 ∨ e = 6 ∨ e = 50 ∨ e = 60 ∨ e = 61 ∨ e = 65
  · rcases hin with rfl | rfl | rfl | rfl | rfl | rfl | rfl
    all_goals
      clear h5
      go_enter Tryz.func18, Tryz.ntmps18
      go_wp2_with fail
      go_ret
      exact ⟨rfl, rfl⟩
  · have HE : Hid (RqF.wordE e = 1) := by show _ = _; unfold RqF.wordE; rw [if_neg h5, if_neg hin]
    have b5 : (e == 5) = false := by rw [beq_eq_false_iff_ne]; exact h5
    have b2 : (e == 2) = false := by rw [beq_eq_false_iff_ne]; exact fun h => hin (by simp [h])
    have b3 : (e == 3) = false := by rw [beq_eq_false_iff_ne]; exact fun h => hin (by simp [h])
    have b6 : (e == 6) = false := by rw [beq_eq_false_iff_ne]; exact fun h => hin (by simp [h])
    have b50 : (e == 50) = false := by rw [beq_eq_false_iff_ne]; exact fun h => hin (by simp [h])
    have b60 : (e == 60) = false := by rw [beq_eq_false_iff_ne]; exact fun h => hin (by simp [h])
    have b61 : (e == 61) = false := by rw [beq_eq_false_iff_ne]; exact fun h => hin (by simp [h])
    have b65 : (e == 65) = false := by rw [beq_eq_false_iff_ne]; exact fun h => hin (by simp [h])
    clear h5 hin
    go_enter Tryz.func18, Tryz.ntmps18
    go_wp2_with fail
    go_ret
    exact ⟨by rw [HE.out]; rfl, rfl⟩

theorem errS_facts (e : Int) (X : ByteArray) (hX : X = errS e) : X.data.toList = RqF.errT e ∧ 5 < X.size ∧ X.size ≤ 11 ∧ (X.toList == [79, 75, 10]) = false ∧ (X.toList == [78, 79, 78, 69, 10]) = false ∧ ((X.extract 0 4).toList == [69, 82, 82, 32]) = true := by
  have hd : X.data.toList = RqF.errT e := by rw [hX]; simp [errS]
  have hf := RqF.errT_form e
  have hl := errT_len e
  have hw : 3 ≤ (RqF.errW e).length := by
    have h := RqF.errW_cases e
    generalize RqF.errW e = v at h
    simp only [List.mem_cons, List.mem_nil_iff, or_false] at h
    rcases h with rfl | rfl | rfl | rfl | rfl | rfl | rfl | rfl <;> decide
  refine ⟨hd, ?_, ?_, ?_, ?_, ?_⟩
  · rw [Lib.size_eq, hd, hf]; simp; omega
  · rw [Lib.size_eq, hd]; exact hl
  · rw [beq_eq_false_iff_ne, ByteArray.toList_eq, hd, hf]; simp
  · rw [beq_eq_false_iff_ne, ByteArray.toList_eq, hd, hf]; simp
  · rw [beq_iff_eq, ByteArray.toList_eq, Lib.extract_data, hd, hf]; rfl
theorem err_as (e : Int) (X : ByteArray) (hX : X = errS e) (w : World) : Calls Tryz.prog 19 #[.int .i64 e] w fun r w' => r = .returned (.string X) ∧ Below w.heap.size w w' := by
  subst hX; exact err_any e w
set_option maxRecDepth 100000 in
set_option maxHeartbeats 2000000 in
theorem replyErrors_any (a b : Int) (w : World) (ht : TabsM w) :
    Calls Tryz.prog 6 #[.int .i64 a, .int .i64 b] w fun r w' => r = .returned (.bool true) ∧ Below w.heap.size w w' := by
  have HT := Lib.hid ht; clear ht
  obtain ⟨X, hX⟩ : ∃ X : ByteArray, X = errS a := ⟨_, rfl⟩
  obtain ⟨Y, hY⟩ : ∃ Y : ByteArray, Y = errS b := ⟨_, rfl⟩
  obtain ⟨x1, x2, x3, x4, x5, x6⟩ := errS_facts a X hX
  obtain ⟨y1, _, y3, _, _, _⟩ := errS_facts b Y hY
  have HX := Lib.hid hX; have HY := Lib.hid hY; have HX1 := Lib.hid x1; have HY1 := Lib.hid y1
  have hP : Hid ((X ++ Y ++ ⟨#[79, 75, 10]⟩ : ByteArray).data.toList = [RqF.errT a, RqF.errT b, RqF.okT].flatten) := by
    show _ = _
    rw [ba_append, ba_append, x1, y1]; simp; rfl
  have hPs : Hid ((X ++ Y ++ ⟨#[79, 75, 10]⟩ : ByteArray).size < 4294967281) := by
    show _ < _
    rw [Lib.size_eq, ba_append, ba_append]
    simp only [List.length_append]
    rw [← Lib.size_eq X, ← Lib.size_eq Y]
    show X.size + Y.size + 3 < _
    omega
  have hall : Hid (∀ c ∈ [RqF.errT a, RqF.errT b, RqF.okT], RqF.Told c) := by
    intro c hc
    simp only [List.mem_cons, List.mem_nil_iff, or_false] at hc
    rcases hc with rfl | rfl | rfl
    · exact RqF.told_err a
    · exact RqF.told_err b
    · exact RqF.told_ok
  obtain ⟨q, hq1, hq2⟩ : ∃ q : Bool, (X.toList == Y.toList) = q ∧ (RqF.wordE a == RqF.wordE b) = q := by
    by_cases h : RqF.wordE a = RqF.wordE b
    · refine ⟨true, ?_, by rw [beq_iff_eq]; exact h⟩
      rw [beq_iff_eq, ByteArray.toList_eq, ByteArray.toList_eq, x1, y1]
      exact RqF.errT_same h
    · refine ⟨false, ?_, by rw [beq_eq_false_iff_ne]; exact h⟩
      rw [beq_eq_false_iff_ne, ByteArray.toList_eq, ByteArray.toList_eq, x1, y1]
      exact fun e => h (RqF.errT_inj e)
  clear hX hY x1 y1
  cases q
  all_goals
    go_enter Tryz.func6, Tryz.ntmps6
    go_wp2_with fail
    refine (err_as a X HX.out _).mono ?_
    rintro r w1 ⟨rfl, hb1⟩
    have HB1 := Lib.hid hb1; clear hb1
    go_wp2_with fail
    refine (err_as b Y HY.out _).mono ?_
    rintro r w2 ⟨rfl, hb2⟩
    have HB2 := Lib.hid (below_trans HB1.out hb2); clear hb2
    go_wp2_with fail
    refine (word_any a _).mono ?_
    rintro r w3 ⟨rfl, rfl⟩
    go_wp2_with fail
    refine (word_any b _).mono ?_
    rintro r w3 ⟨rfl, rfl⟩
    go_wp2_with fail
    refine (ok_any _).mono ?_
    rintro r w3 ⟨rfl, hb3⟩
    have HB3 := Lib.hid (below_trans HB2.out hb3); clear hb3
    go_wp2_with fail
    refine (none_any _).mono ?_
    rintro r w4 ⟨rfl, hb4⟩
    have HB4 := Lib.hid (below_trans HB3.out hb4); clear hb4
    go_wp2_with fail
    refine (ok_any _).mono ?_
    rintro r w5 ⟨rfl, hb5⟩
    have HB5 := Lib.hid (below_trans HB4.out hb5); clear hb5
    go_wp2_with fail
    refine (parse_told _ _ _ (HT.out.below HB5.out) hPs.out hP.out hall.out (by simp)).mono ?_
    rintro r w6 ⟨g, cap, rfl, hg, hlt, hcap, hc, hb6⟩
    have HB6 := Lib.hid (below_trans HB5.out hb6); clear hb6
    have c0 : w6.cell? ⟨g, 0, none⟩ = some (.string X) := by rw [HX.out]; exact hc 0 (by simp)
    have c1 : w6.cell? ⟨g, 1, none⟩ = some (.string Y) := by rw [HY.out]; exact hc 1 (by simp)
    clear hc hg
    go_wp2_with fail
    refine (awake19_any _ (HT.out.below HB6.out).toTabs).mono ?_
    rintro r w7 ⟨rfl, hb7⟩
    go_wp2_with fail
    go_ret
    exact ⟨rfl, below_trans HB6.out hb7⟩
theorem replyErrors_row (a b : Int) (w : World) (ht : TabsM w) (_ : -9223372036854775808 ≤ a) (_ : a ≤ 9223372036854775807) (_ : -9223372036854775808 ≤ b) (_ : b ≤ 9223372036854775807) :
    Calls Tryz.prog 6 #[.int .i64 a, .int .i64 b] w fun r w' => r = .returned (.bool true) ∧ Below w.heap.size w w' := replyErrors_any a b w ht
end Go.Proofs.YtnjmhneobgmejaaGreatDoor
