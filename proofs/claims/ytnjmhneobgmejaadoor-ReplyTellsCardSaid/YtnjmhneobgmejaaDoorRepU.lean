/- The walks of package reply's telling: OK, None, Err, Score, Value. Conditions: the library's tables are as they are laid; a value is of at most 2^40 bytes. -/
import Derived.Test.YtnjmhneobgmejaaDoorRepT
import Derived.Laws.IdiomStrings
import Derived.Laws.BytesArg
namespace Go.Proofs.YtnjmhneobgmejaaDoor
open Go.RowKit

theorem ba_eq {a b : ByteArray} (h : a.data.toList = b.data.toList) : a = b := by
  cases a; cases b; congr 1; exact Array.toList_inj.1 h
theorem words_laid (w : World) (ss : List ByteArray) (cs : Array Value) (hcs : cs = (ss.map Value.string).toArray) : WordsIn w.heap.size (ss.map (·.data.toList)) (w.alloc (.cells cs 9)) := by
  subst hcs
  refine ⟨by simp, fun j hj => ?_⟩
  rw [List.length_map] at hj
  refine blk_cell (heap_alloc_new w _) ?_
  rw [List.getElem?_toArray, List.getElem?_map, List.getElem?_eq_getElem hj]
  simp
/-- told, of words that its caller has laid. -/
theorem told_laid (w : World) (ss : List ByteArray) (cs : Array Value) (n : Nat) (T : ByteArray) (hn : n = ss.length) (hcs : cs = (ss.map Value.string).toArray) (hT : T.data.toList = RqF.tellR (ss.map (·.data.toList))) (hlen : T.size ≤ 140737488355328) :
    Calls Tryd.prog 35 #[.slice (some ⟨w.heap.size, 0, none⟩) n n] (w.alloc (.cells cs 9)) fun e w' => e = .returned (.string T) ∧ Below w.heap.size w w' := by
  have h := told_any w.heap.size (ss.map (·.data.toList)).length (ss.map (·.data.toList)) _ (words_laid w ss cs hcs) (Nat.le_refl _) (by rw [← hT, ← Lib.size_eq]; exact hlen)
  rw [List.length_map, ← hn] at h
  refine h.mono fun e w' ⟨he, hb⟩ => ⟨?_, below_trans ((Below.refl _ _).alloc (Nat.le_refl _) _) hb⟩
  rw [he]
  exact congrArg (fun s => Ending.returned (.string s)) (ba_eq (by rw [hT]))
def okS : ByteArray := ⟨RqF.okT.toArray⟩
def noneS : ByteArray := ⟨RqF.noneT.toArray⟩
theorem ok_any (w : World) : Calls Tryd.prog 28 #[] w fun e w' => e = .returned (.string ⟨#[79, 75, 10]⟩) ∧ Below w.heap.size w w' := by
  go_enter Tryd.func28, Tryd.ntmps28
  go_wp2_with fail
  refine (told_laid _ [⟨#[79, 75]⟩] _ 1 ⟨#[79, 75, 10]⟩ rfl rfl rfl (by decide)).mono ?_
  rintro e w1 ⟨rfl, hb⟩
  go_wp2_with fail
  go_ret
  exact ⟨rfl, hb⟩
theorem none_any (w : World) : Calls Tryd.prog 29 #[] w fun e w' => e = .returned (.string ⟨#[78, 79, 78, 69, 10]⟩) ∧ Below w.heap.size w w' := by
  go_enter Tryd.func29, Tryd.ntmps29
  go_wp2_with fail
  refine (told_laid _ [⟨#[78, 79, 78, 69]⟩] _ 1 ⟨#[78, 79, 78, 69, 10]⟩ rfl rfl rfl (by decide)).mono ?_
  rintro e w1 ⟨rfl, hb⟩
  go_wp2_with fail
  go_ret
  exact ⟨rfl, hb⟩
/-- An error's answer. -/
def errS (e : Int) : ByteArray := ⟨(RqF.errT e).toArray⟩
theorem errT_len (e : Int) : (RqF.errT e).length ≤ 11 := by
  have h := RqF.errW_cases e
  unfold RqF.errT
  generalize RqF.errW e = v at h
  simp only [List.mem_cons, List.mem_nil_iff, or_false] at h
  rcases h with rfl | rfl | rfl | rfl | rfl | rfl | rfl | rfl <;> decide
theorem err_is (e : Int) (x : List UInt8) (h : RqF.errW e = x) (S : ByteArray) (hS : S = ⟨x.toArray⟩) (w : World) : Calls Tryd.prog 35 #[.slice (some ⟨w.heap.size, 0, none⟩) 2 2] (w.alloc (.cells #[.string ⟨#[69, 82, 82]⟩, .string S] 9)) fun r w' => r = .returned (.string (errS e)) ∧ Below w.heap.size w w' := by
  subst hS
  refine told_laid w [⟨#[69, 82, 82]⟩, ⟨x.toArray⟩] _ 2 (errS e) rfl rfl ?_ ?_
  · unfold errS RqF.errT
    rw [h]; simp [RqF.sERR]
  · have := errT_len e
    rw [Lib.size_eq]; unfold errS; simp; omega
set_option maxRecDepth 100000 in
set_option maxHeartbeats 1000000 in
theorem err_any (e : Int) (w : World) : Calls Tryd.prog 9 #[.int .i64 e] w fun r w' => r = .returned (.string (errS e)) ∧ Below w.heap.size w w' := by
  by_cases h3 : e = 3
  · subst h3
    go_enter Tryd.func9, Tryd.ntmps9
    go_wp2_with fail
    refine (err_is 3 _ rfl _ rfl _).mono ?_
    rintro r w1 ⟨rfl, hb⟩
    go_wp2_with fail
    go_ret
    exact ⟨rfl, hb⟩
  by_cases h5 : e = 5
  · subst h5
    go_enter Tryd.func9, Tryd.ntmps9
    go_wp2_with fail
    refine (err_is 5 _ rfl _ rfl _).mono ?_
    rintro r w1 ⟨rfl, hb⟩
    go_wp2_with fail
    go_ret
    exact ⟨rfl, hb⟩
  by_cases h2 : e = 2
  · subst h2
    go_enter Tryd.func9, Tryd.ntmps9
    go_wp2_with fail
    refine (err_is 2 _ rfl _ rfl _).mono ?_
    rintro r w1 ⟨rfl, hb⟩
    go_wp2_with fail
    go_ret
    exact ⟨rfl, hb⟩
  by_cases h61 : e = 61
  · subst h61
    go_enter Tryd.func9, Tryd.ntmps9
    go_wp2_with fail
    refine (err_is 61 _ rfl _ rfl _).mono ?_
    rintro r w1 ⟨rfl, hb⟩
    go_wp2_with fail
    go_ret
    exact ⟨rfl, hb⟩
  by_cases h60 : e = 60
  · subst h60
    go_enter Tryd.func9, Tryd.ntmps9
    go_wp2_with fail
    refine (err_is 60 _ rfl _ rfl _).mono ?_
    rintro r w1 ⟨rfl, hb⟩
    go_wp2_with fail
    go_ret
    exact ⟨rfl, hb⟩
  by_cases h6 : e = 6
  · subst h6
    go_enter Tryd.func9, Tryd.ntmps9
    go_wp2_with fail
    refine (err_is 6 _ rfl _ rfl _).mono ?_
    rintro r w1 ⟨rfl, hb⟩
    go_wp2_with fail
    go_ret
    exact ⟨rfl, hb⟩
  by_cases h65 : e = 65
  · subst h65
    go_enter Tryd.func9, Tryd.ntmps9
    go_wp2_with fail
    refine (err_is 65 _ rfl _ rfl _).mono ?_
    rintro r w1 ⟨rfl, hb⟩
    go_wp2_with fail
    go_ret
    exact ⟨rfl, hb⟩
  by_cases h50 : e = 50
  · subst h50
    go_enter Tryd.func9, Tryd.ntmps9
    go_wp2_with fail
    refine (err_is 50 _ rfl _ rfl _).mono ?_
    rintro r w1 ⟨rfl, hb⟩
    go_wp2_with fail
    go_ret
    exact ⟨rfl, hb⟩
  have HE : Hid (RqF.errW e = [65, 82, 71]) := by
    show _ = _
    unfold RqF.errW
    rw [if_neg h3, if_neg (by simp [h5, h2]), if_neg h61, if_neg h60, if_neg h6, if_neg h65, if_neg h50]
  have b3 : (e == 3) = false := by rw [beq_eq_false_iff_ne]; exact h3
  have b5 : (e == 5) = false := by rw [beq_eq_false_iff_ne]; exact h5
  have b2 : (e == 2) = false := by rw [beq_eq_false_iff_ne]; exact h2
  have b61 : (e == 61) = false := by rw [beq_eq_false_iff_ne]; exact h61
  have b60 : (e == 60) = false := by rw [beq_eq_false_iff_ne]; exact h60
  have b6 : (e == 6) = false := by rw [beq_eq_false_iff_ne]; exact h6
  have b65 : (e == 65) = false := by rw [beq_eq_false_iff_ne]; exact h65
  have b50 : (e == 50) = false := by rw [beq_eq_false_iff_ne]; exact h50
  clear h3 h5 h2 h61 h60 h6 h65 h50
  go_enter Tryd.func9, Tryd.ntmps9
  go_wp2_with fail
  refine (err_is e _ HE.out _ rfl _).mono ?_
  rintro r w1 ⟨rfl, hb⟩
  go_wp2_with fail
  go_ret
  exact ⟨rfl, hb⟩

def scoreS (b : Nat) : ByteArray := ⟨(RqF.scoreT b).toArray⟩
theorem scoreT_len (b : Nat) : (RqF.scoreT b).length ≤ 40 := by
  have := RqF.text_len30 b
  unfold RqF.scoreT RqF.tellR
  rw [RqF.joinW_cons2, RqF.joinW_one]
  simp [RqF.sSCORE]; omega
theorem score_tells (b : Nat) (w : World) (ht : Tabs w) (hb : b < 2 * RqF.sgn) : Calls Tryd.prog 25 #[.float .f64 b] w fun r w' => r = .returned (.string (scoreS b)) ∧ Below w.heap.size w w' := by
  have HT := Lib.hid ht
  have HB := Lib.hid hb
  clear ht hb
  go_enter Tryd.func25, Tryd.ntmps25
  go_wp2_with fail
  refine (text_any b _ HT.out HB.out).mono ?_
  rintro r w1 ⟨rfl, hb1⟩
  have HB1 := Lib.hid hb1; clear hb1
  go_wp2_with fail
  refine (told_laid _ [⟨#[83, 67, 79, 82, 69]⟩, ⟨(RqF.textF b).toArray⟩] _ 2 (scoreS b) rfl rfl (by simp [scoreS, RqF.scoreT, RqF.sSCORE]) (by have := scoreT_len b; rw [Lib.size_eq]; simp [scoreS]; omega)).mono ?_
  rintro r w2 ⟨rfl, hb2⟩
  go_wp2_with fail
  go_ret
  exact ⟨rfl, below_trans HB1.out hb2⟩
end Go.Proofs.YtnjmhneobgmejaaDoor
