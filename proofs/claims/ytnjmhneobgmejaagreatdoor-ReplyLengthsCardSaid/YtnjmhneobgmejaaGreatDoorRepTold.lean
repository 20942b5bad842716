/- Plain law of package reply: what is told is read back as it stands. No condition. -/
import Derived.Test.YtnjmhneobgmejaaGreatDoorRepPlain
import Derived.Lib.Join
namespace RqF
open Ieee

theorem all_imp2 {p q : UInt8 → Bool} (h : ∀ c, p c = true → q c = true) {l : List UInt8} (hl : l.all p = true) : l.all q = true := by
  rw [List.all_eq_true] at hl ⊢
  exact fun c hc => h c (hl c hc)
/-- A word: neither a blank nor a line feed. -/
def PlainW (w : List UInt8) : Prop := ∀ c ∈ w, c ≠ 32 ∧ c ≠ 10
theorem plainW_of {l : List UInt8} (h : l.all inW = true) : PlainW l := by
  intro c hc
  have h1 := List.all_eq_true.1 h c hc
  exact ⟨fun e => by rw [e] at h1; exact absurd h1 (by decide), fun e => by rw [e] at h1; exact absurd h1 (by decide)⟩
theorem plain_word {l : List UInt8} (h : isWord l = true) : PlainW l := by
  unfold isWord at h
  rw [Bool.and_eq_true] at h
  exact plainW_of h.1
theorem plain_text (b : Nat) : PlainW (textF b) := by
  refine plainW_of ?_
  have hd : ∀ c, isDig c = true → inW c = true := fun c h => by unfold isDig at h; unfold inW; simp only [decide_eq_true_eq] at h ⊢; omega
  have hx : ∀ c, isHex c = true → inW c = true := fun c h => by unfold isHex at h; unfold inW; simp only [decide_eq_true_eq] at h ⊢; omega
  unfold textF
  split
  · decide
  split
  · decide
  split
  · decide
  split
  · rename_i v hv
    have h := all_imp2 hd (List.all_eq_true.2 (dec_val v).2)
    split
    · rw [List.all_cons, h]; rfl
    · exact h
  · rw [List.all_cons, List.all_cons, all_imp2 hx (hexLow_all b 16)]; rfl
theorem text_len30 (b : Nat) : (textF b).length ≤ 30 := by
  unfold textF
  split
  · simp
  split
  · simp
  split
  · simp
  split
  · rename_i v hv
    have := dec_len (wholeF_some hv).2.2
    split
    · simp; omega
    · omega
  · simp [hexLow_length]
theorem dec_inW (v : Nat) : (Go.Lib.decDigits v).all inW = true :=
  all_imp2 (fun c h => by unfold isDig at h; unfold inW; simp only [decide_eq_true_eq] at h ⊢; omega) (List.all_eq_true.2 (dec_val v).2)
theorem plain_dec (v : Nat) : PlainW (Go.Lib.decDigits v) := plainW_of (dec_inW v)
theorem plain_itoa (n : Int) : PlainW (Go.Lib.itoa n) := by
  refine plainW_of ?_
  unfold Go.Lib.itoa
  split
  · rw [List.all_cons, dec_inW]; rfl
  · exact dec_inW _
theorem dec_len9 {v : Nat} (h : v < 1000000000) : (Go.Lib.decDigits v).length ≤ 9 := by
  rw [Go.Lib.decDigits_length]
  have : ∀ k v : Nat, v < 10 ^ (k + 1) → Go.Lib.nDigits v ≤ k + 1 := by
    intro k
    induction k with
    | zero =>
      intro v h
      unfold Go.Lib.nDigits
      split
      · omega
      · omega
    | succ k ih =>
      intro v h
      unfold Go.Lib.nDigits
      split
      · omega
      · have := ih (v / 10) (by rw [Nat.div_lt_iff_lt_mul (by decide)]; rw [Nat.pow_succ] at h; exact h)
        omega
  exact this 8 v h
theorem numP_itoa {n : Nat} (h : n < 1000000000) : numP (Go.Lib.itoa (n : Int)) = some n := by
  have h1 : (Go.Lib.itoa (n : Int)).length ≤ 9 := by rw [itoa_nat]; exact dec_len9 h
  have := numP_of h1 (by omega) rfl
  rw [this]; simp
theorem isScore_text {b : Nat} (h : b < 2 * sgn) : isScore (textF b) = true := by
  unfold isScore; rw [parseP_textF h]; rfl

/-- Words, a blank between two. -/
def joinW (ws : List (List UInt8)) : List UInt8 := Go.Lib.join ws [32]
/-- A line of words. -/
def tellR (ws : List (List UInt8)) : List UInt8 := joinW ws ++ [10]
theorem joinW_cons2 (a b : List UInt8) (r : List (List UInt8)) : joinW (a :: b :: r) = a ++ 32 :: joinW (b :: r) := by
  unfold joinW
  rw [Go.Lib.join_cons, Go.Lib.join_cons]
  simp [Go.Lib.joinTail]
theorem joinW_one (a : List UInt8) : joinW [a] = a := Go.Lib.join_one a [32]
theorem words_join : ∀ (ws : List (List UInt8)), ws ≠ [] → (∀ w ∈ ws, PlainW w) → wordsOf (joinW ws) = ws ∧ ∀ c ∈ joinW ws, c ≠ 10 := by
  intro ws
  induction ws with
  | nil => intro h; exact absurd rfl h
  | cons a r ih =>
    intro _ h
    have ha := h a List.mem_cons_self
    cases r with
    | nil =>
      rw [joinW_one]
      exact ⟨wordsOf_plain a fun c hc => (ha c hc).1, fun c hc => (ha c hc).2⟩
    | cons b r =>
      obtain ⟨h1, h2⟩ := ih (by simp) (fun w hw => h w (List.mem_cons_of_mem _ hw))
      rw [joinW_cons2]
      refine ⟨by rw [wordsOf_app a _ (fun c hc => (ha c hc).1), h1], fun c hc => ?_⟩
      rcases List.mem_append.1 hc with hc | hc
      · exact (ha c hc).2
      · rcases List.mem_cons.1 hc with rfl | hc
        · decide
        · exact h2 c hc
theorem line_told {ws : List (List UInt8)} (h0 : ws ≠ []) (h : ∀ w ∈ ws, PlainW w) (u : List UInt8) : lineR (tellR ws ++ u) = some (ws, u) := by
  obtain ⟨h1, h2⟩ := words_join ws h0 h
  unfold lineR tellR
  rw [List.append_assoc]
  show (cutL (joinW ws ++ 10 :: u)).map _ = _
  rw [cutL_app h2, Option.map_some, h1]
theorem tellR_ne (ws : List (List UInt8)) : tellR ws ≠ [] := by unfold tellR; simp
/-- An answer of one line. -/
theorem told_line {ws : List (List UInt8)} (h0 : ws ≠ []) (h : ∀ w ∈ ws, PlainW w) (hb : ∀ u, bodyR ws u = some u) : Told (tellR ws) :=
  ⟨tellR_ne ws, fun u => by unfold answerR; rw [line_told h0 h]; exact hb u⟩
/-- An answer of a line and more. -/
theorem told_more {ws : List (List UInt8)} {c : List UInt8} (h0 : ws ≠ []) (h : ∀ w ∈ ws, PlainW w) (hb : ∀ u, bodyR ws (c ++ u) = some u) : Told (tellR ws ++ c) :=
  ⟨by simp [tellR_ne], fun u => by unfold answerR; rw [List.append_assoc, line_told h0 h]; exact hb u⟩

def sOK : List UInt8 := [79, 75]
def sNONE : List UInt8 := [78, 79, 78, 69]
def sYES : List UInt8 := [89, 69, 83]
def sNO : List UInt8 := [78, 79]
def sERR : List UInt8 := [69, 82, 82]
def sVALUE : List UInt8 := [86, 65, 76, 85, 69]
def sPAIRS : List UInt8 := [80, 65, 73, 82, 83]
def sSCORED : List UInt8 := [83, 67, 79, 82, 69, 68]
def sSCORE : List UInt8 := [83, 67, 79, 82, 69]
def sNUMBER : List UInt8 := [78, 85, 77, 66, 69, 82]
def sNUMBERS : List UInt8 := [78, 85, 77, 66, 69, 82, 83]
def sSPREAD : List UInt8 := [83, 80, 82, 69, 65, 68]
def okT : List UInt8 := tellR [sOK]
def noneT : List UInt8 := tellR [sNONE]
/-- An error's word: by its number. -/
def errW (e : Int) : List UInt8 :=
  if e = 3 then [83, 89, 78, 84, 65, 88] else if e = 5 ∨ e = 2 then [84, 79, 79, 66, 73, 71] else if e = 61 then [78, 79, 83, 78, 65, 80] else if e = 60 then [70, 85, 76, 76]
  else if e = 6 then [78, 65, 78] else if e = 65 then [77, 65, 78, 89] else if e = 50 then [68, 69, 65, 68] else [65, 82, 71]
def errT (e : Int) : List UInt8 := tellR [sERR, errW e]
def valueT (b : List UInt8) : List UInt8 := tellR [sVALUE, Go.Lib.itoa b.length] ++ (b ++ [10])
def pairT (p : List UInt8 × List UInt8) : List UInt8 := tellR [p.1, Go.Lib.itoa p.2.length] ++ (p.2 ++ [10])
def pairsT (l : List (List UInt8 × List UInt8)) : List UInt8 := tellR [sPAIRS, Go.Lib.itoa l.length] ++ (l.map pairT).flatten
def memberT (p : List UInt8 × Nat) : List UInt8 := tellR [p.1, textF p.2]
def scoredT (l : List (List UInt8 × Nat)) : List UInt8 := tellR [sSCORED, Go.Lib.itoa l.length] ++ (l.map memberT).flatten
def scoreT (x : Nat) : List UInt8 := tellR [sSCORE, textF x]
def numberT (n : Int) : List UInt8 := tellR [sNUMBER, Go.Lib.itoa n]
def numbersT (l : List Int) : List UInt8 := tellR (sNUMBERS :: Go.Lib.itoa l.length :: l.map Go.Lib.itoa)
def spreadT (n : Int) (a b c d : Nat) : List UInt8 := tellR [sSPREAD, Go.Lib.itoa n, textF a, textF b, textF c, textF d]

theorem plain_lit {w : List UInt8} (h : w.all (fun c => decide (c ≠ 32 ∧ c ≠ 10)) = true) : PlainW w := by
  intro c hc
  exact of_decide_eq_true (List.all_eq_true.1 h c hc)
theorem errW_cases (e : Int) : errW e ∈ ([[83, 89, 78, 84, 65, 88], [84, 79, 79, 66, 73, 71], [78, 79, 83, 78, 65, 80], [70, 85, 76, 76], [78, 65, 78], [77, 65, 78, 89], [68, 69, 65, 68], [65, 82, 71]] : List (List UInt8)) := by
  unfold errW
  repeat' split
  all_goals simp
theorem told_ok : Told okT := told_line (by simp) (fun w hw => by simp at hw; subst hw; exact plain_lit rfl) (fun u => rfl)
theorem told_none : Told noneT := told_line (by simp) (fun w hw => by simp at hw; subst hw; exact plain_lit rfl) (fun u => rfl)
theorem told_err (e : Int) : Told (errT e) := by
  have h := errW_cases e
  unfold errT
  generalize errW e = w at h
  have key : ∀ v : List UInt8, v.all (fun c => decide (c ≠ 32 ∧ c ≠ 10)) = true → errR v = true → Told (tellR [sERR, v]) := fun v h1 h2 =>
    told_line (by simp) (fun w hw => by
      rcases List.mem_cons.1 hw with rfl | hw
      · exact plain_lit rfl
      · rcases List.mem_cons.1 hw with rfl | hw
        · exact plain_lit h1
        · cases hw) (fun u => by
      show (if errR v = true then some u else none) = _
      rw [if_pos h2])
  simp only [List.mem_cons, List.mem_nil_iff, or_false] at h
  rcases h with rfl | rfl | rfl | rfl | rfl | rfl | rfl | rfl
  all_goals exact key _ rfl (by decide +kernel)
theorem value_read {b : List UInt8} (h : b.length < 1000000000) (u : List UInt8) : valueR (Go.Lib.itoa b.length) (b ++ 10 :: u) = some u := by
  unfold valueR
  rw [numP_itoa h]
  simp
theorem plain2 {a b : List UInt8} (ha : PlainW a) (hb : PlainW b) : ∀ w ∈ [a, b], PlainW w := by
  intro w hw
  rcases List.mem_cons.1 hw with rfl | hw
  · exact ha
  · rcases List.mem_cons.1 hw with rfl | hw
    · exact hb
    · cases hw
theorem told_value {b : List UInt8} (h : b.length < 1000000000) : Told (valueT b) := by
  refine told_more (by simp) (plain2 (plain_lit rfl) (plain_itoa _)) fun u => ?_
  show valueR (Go.Lib.itoa b.length) (b ++ [10] ++ u) = _
  rw [List.append_assoc]
  exact value_read h u
theorem pair_read {p : List UInt8 × List UInt8} (hk : isWord p.1 = true) (h : p.2.length < 1000000000) (u : List UInt8) : pairR (pairT p ++ u) = some u := by
  unfold pairR pairT
  rw [List.append_assoc, line_told (by simp) (plain2 (plain_word hk) (plain_itoa _))]
  show (if isWord p.1 = true then valueR (Go.Lib.itoa p.2.length) (p.2 ++ [10] ++ u) else none) = _
  rw [if_pos hk, List.append_assoc]
  exact value_read h u
theorem member_read {p : List UInt8 × Nat} (hk : isWord p.1 = true) (h : p.2 < 2 * sgn) (u : List UInt8) : scoredR (memberT p ++ u) = some u := by
  unfold scoredR memberT
  rw [line_told (by simp) (plain2 (plain_word hk) (plain_text _))]
  show (if isWord p.1 = true ∧ isScore (textF p.2) = true then some u else none) = _
  rw [if_pos ⟨hk, isScore_text h⟩]
theorem iter_read {α : Type} {R : List UInt8 → Option (List UInt8)} {T : α → List UInt8} : ∀ (l : List α), (∀ p ∈ l, ∀ u, R (T p ++ u) = some u) → ∀ u, iterR R l.length ((l.map T).flatten ++ u) = some u := by
  intro l
  induction l with
  | nil => intro _ u; rfl
  | cons p l ih =>
    intro h u
    show (match R ((T p ++ (l.map T).flatten) ++ u) with | none => none | some r => iterR R l.length r) = _
    rw [List.append_assoc, h p List.mem_cons_self]
    exact ih (fun q hq => h q (List.mem_cons_of_mem _ hq)) u
theorem told_pairs {l : List (List UInt8 × List UInt8)} (hl : l.length < 1000000000) (h : ∀ p ∈ l, isWord p.1 = true ∧ p.2.length < 1000000000) : Told (pairsT l) := by
  refine told_more (by simp) (plain2 (plain_lit rfl) (plain_itoa _)) fun u => ?_
  show manyR pairR [sPAIRS, Go.Lib.itoa l.length] _ = _
  unfold manyR
  simp only
  rw [numP_itoa hl]
  exact iter_read l (fun p hp u => pair_read (h p hp).1 (h p hp).2 u) u
theorem told_scored {l : List (List UInt8 × Nat)} (hl : l.length < 1000000000) (h : ∀ p ∈ l, isWord p.1 = true ∧ p.2 < 2 * sgn) : Told (scoredT l) := by
  refine told_more (by simp) (plain2 (plain_lit rfl) (plain_itoa _)) fun u => ?_
  show manyR scoredR [sSCORED, Go.Lib.itoa l.length] _ = _
  unfold manyR
  simp only
  rw [numP_itoa hl]
  exact iter_read l (fun p hp u => member_read (h p hp).1 (h p hp).2 u) u
theorem told_score {x : Nat} (h : x < 2 * sgn) : Told (scoreT x) := by
  refine told_line (by simp) (plain2 (plain_lit rfl) (plain_text _)) fun u => ?_
  show (if isScore (textF x) = true then some u else none) = _
  rw [if_pos (isScore_text h)]
end RqF
