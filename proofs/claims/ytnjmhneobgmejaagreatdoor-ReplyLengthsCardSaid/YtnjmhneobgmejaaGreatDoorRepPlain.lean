/- Plain law of package reply: answers read over the rest of a text; what is parted is the same bytes, and each part is an answer by itself. No condition. -/
import Derived.Test.YtnjmhneobgmejaaGreatDoorCmdPlain
import Derived.Test.YtnjmhneobgmejaaGreatDoorLawTexts
namespace RqF
open Ieee

/-- Up to the first line feed, and what is behind it. -/
def cutL : List UInt8 → Option (List UInt8 × List UInt8)
  | [] => none
  | c :: r => if c = 10 then some ([], r) else (cutL r).map fun p => (c :: p.1, p.2)
theorem cutL_none {t : List UInt8} (h : cutL t = none) : ∀ c ∈ t, c ≠ 10 := by
  induction t with
  | nil => intro c hc; cases hc
  | cons c r ih =>
    unfold cutL at h
    split at h
    · cases h
    · rename_i hc
      intro x hx
      rcases List.mem_cons.1 hx with rfl | hx
      · exact hc
      · exact ih (Option.map_eq_none_iff.1 h) x hx
theorem cutL_some {t a r : List UInt8} (h : cutL t = some (a, r)) : t = a ++ 10 :: r ∧ ∀ c ∈ a, c ≠ 10 := by
  induction t generalizing a with
  | nil => cases h
  | cons c t ih =>
    unfold cutL at h
    split at h
    · rename_i hc
      injection h with h; injection h with h1 h2
      subst h1; subst h2; subst hc
      exact ⟨rfl, fun c hc => by cases hc⟩
    · rename_i hc
      obtain ⟨⟨a', r'⟩, hp, he⟩ := Option.map_eq_some_iff.1 h
      injection he with h1 h2
      subst h1; subst h2
      obtain ⟨h3, h4⟩ := ih hp
      refine ⟨by rw [h3]; rfl, fun x hx => ?_⟩
      rcases List.mem_cons.1 hx with rfl | hx
      · exact hc
      · exact h4 x hx
theorem cutL_app {a : List UInt8} (h : ∀ c ∈ a, c ≠ 10) (r : List UInt8) : cutL (a ++ 10 :: r) = some (a, r) := by
  induction a with
  | nil => show cutL (10 :: r) = _; rw [cutL, if_pos rfl]
  | cons c a ih =>
    show cutL (c :: (a ++ 10 :: r)) = _
    rw [cutL, if_neg (h c List.mem_cons_self), ih (fun x hx => h x (List.mem_cons_of_mem _ hx))]; rfl
theorem cutL_len {t a r : List UInt8} (h : cutL t = some (a, r)) : a.length + 1 + r.length = t.length := by
  rw [(cutL_some h).1]; simp; omega
theorem index_lf_app (a r : List UInt8) (h : ∀ c ∈ a, c ≠ 10) : Go.Lib.index (a ++ 10 :: r) [10] = (a.length : Int) := by
  induction a with
  | nil =>
    show Go.Lib.index (10 :: r) [10] = _
    unfold Go.Lib.index
    rw [if_pos (by simp [List.isPrefixOf])]; rfl
  | cons c a ih =>
    have h1 := ih (fun x hx => h x (List.mem_cons_of_mem _ hx))
    have hc := h c List.mem_cons_self
    show Go.Lib.index (c :: (a ++ 10 :: r)) [10] = _
    unfold Go.Lib.index
    rw [if_neg (by simp [List.isPrefixOf]; exact fun e => hc e.symm), h1, if_neg (by rw [beq_iff_eq]; omega)]
    simp
theorem index_lf_no (a : List UInt8) (h : ∀ c ∈ a, c ≠ 10) : Go.Lib.index a [10] = -1 := by
  induction a with
  | nil => rfl
  | cons c a ih =>
    have h1 := ih (fun x hx => h x (List.mem_cons_of_mem _ hx))
    have hc := h c List.mem_cons_self
    unfold Go.Lib.index
    rw [if_neg (by simp [List.isPrefixOf]; exact fun e => hc e.symm), h1, if_pos (by decide)]
theorem index_cut (t : List UInt8) : Go.Lib.index t [10] = match cutL t with | none => -1 | some p => (p.1.length : Int) := by
  cases h : cutL t with
  | none => exact index_lf_no t (cutL_none h)
  | some p =>
    obtain ⟨a, r⟩ := p
    obtain ⟨h1, h2⟩ := cutL_some h
    rw [h1]; exact index_lf_app a r h2

/-- A line's words, and what is behind the line. -/
def lineR (t : List UInt8) : Option (List (List UInt8) × List UInt8) := (cutL t).map fun p => (wordsOf p.1, p.2)
/-- A value of the length that a word says, and its line feed. -/
def valueR (w t : List UInt8) : Option (List UInt8) :=
  match numP w with
  | none => none
  | some n => match t.drop n with
    | [] => none
    | c :: r => if c = 10 then some r else none
def pairR (t : List UInt8) : Option (List UInt8) :=
  match lineR t with
  | none => none
  | some (l, r) => match l with
    | [a, b] => if isWord a = true then valueR b r else none
    | _ => none
def scoredR (t : List UInt8) : Option (List UInt8) :=
  match lineR t with
  | none => none
  | some (l, r) => match l with
    | [a, b] => if isWord a = true ∧ (parseP b).isSome = true then some r else none
    | _ => none
def iterR (R : List UInt8 → Option (List UInt8)) : Nat → List UInt8 → Option (List UInt8)
  | 0, t => some t
  | n + 1, t => match R t with
    | none => none
    | some r => iterR R n r
def manyR (R : List UInt8 → Option (List UInt8)) (ws : List (List UInt8)) (t : List UInt8) : Option (List UInt8) :=
  match ws with
  | [_, b] => match numP b with
    | none => none
    | some n => iterR R n t
  | _ => none
def numbersR (ws : List (List UInt8)) : Bool :=
  match ws with
  | [] => false
  | a :: r => r.all (fun w => (numP w).isSome) && decide (numP a = some r.length)
/-- The words of ERR, as the program's text has them. -/
def errText : List UInt8 := [32, 83, 89, 78, 84, 65, 88, 32, 84, 79, 79, 66, 73, 71, 32, 78, 79, 83, 78, 65, 80, 32, 70, 85, 76, 76, 32, 78, 65, 78, 32, 77, 65, 78, 89, 32, 68, 69, 65, 68, 32, 65, 82, 71, 32]
def errR (w : List UInt8) : Bool := Go.Lib.contains errText ([32] ++ w ++ [32]) && decide (w ≠ [])
def unsign (w : List UInt8) : List UInt8 := Go.Lib.trimPrefix w [45]
def numberR (w : List UInt8) : Bool := match numP (unsign w) with | none => false | some n => decide (0 < n ∨ w = [48])
def isScore (w : List UInt8) : Bool := (parseP w).isSome
/-- What stands behind an answer's first line, read by its words. -/
def bodyR (l : List (List UInt8)) (t : List UInt8) : Option (List UInt8) :=
  match l with
  | [] => none
  | h :: r =>
    if h = [79, 75] ∨ h = [78, 79, 78, 69] ∨ h = [89, 69, 83] ∨ h = [78, 79] then (if r = [] then some t else none)
    else if h = [69, 82, 82] then (match r with | [w] => if errR w = true then some t else none | _ => none)
    else if h = [86, 65, 76, 85, 69] then (match r with | [w] => valueR w t | _ => none)
    else if h = [80, 65, 73, 82, 83] then manyR pairR l t
    else if h = [83, 67, 79, 82, 69, 68] then manyR scoredR l t
    else if h = [83, 67, 79, 82, 69] then (match r with | [w] => if isScore w = true then some t else none | _ => none)
    else if h = [78, 85, 77, 66, 69, 82] then (match r with | [w] => if numberR w = true then some t else none | _ => none)
    else if h = [78, 85, 77, 66, 69, 82, 83] then (if numbersR r = true then some t else none)
    else if h = [83, 80, 82, 69, 65, 68] then (match r with | [n, a, b, c, d] => if (numP n).isSome = true ∧ isScore a = true ∧ isScore b = true ∧ isScore c = true ∧ isScore d = true then some t else none | _ => none)
    else none
def answerR (t : List UInt8) : Option (List UInt8) :=
  match lineR t with
  | none => none
  | some (l, r) => bodyR l r

/-- A reader is local: what it takes it takes whatever stands behind. -/
def Loc (R : List UInt8 → Option (List UInt8)) : Prop := ∀ t r, R t = some r → ∃ c, t = c ++ r ∧ ∀ u, R (c ++ u) = some u
theorem loc_some : Loc some := fun t r h => by injection h with h; subst h; exact ⟨[], rfl, fun u => rfl⟩
theorem loc_none : Loc (fun _ => none) := fun t r h => by cases h
theorem loc_if {p : Prop} [Decidable p] {R S : List UInt8 → Option (List UInt8)} (hR : Loc R) (hS : Loc S) : Loc (fun t => if p then R t else S t) := by
  by_cases hp : p
  · simp only [if_pos hp]; exact hR
  · simp only [if_neg hp]; exact hS
theorem lineR_loc {t r : List UInt8} {l : List (List UInt8)} (h : lineR t = some (l, r)) : ∃ c, c ≠ [] ∧ t = c ++ r ∧ ∀ u, lineR (c ++ u) = some (l, u) := by
  obtain ⟨⟨a, r'⟩, hp, he⟩ := Option.map_eq_some_iff.1 h
  injection he with h1 h2
  subst h1; subst h2
  obtain ⟨h3, h4⟩ := cutL_some hp
  refine ⟨a ++ [10], by simp, by rw [h3]; simp, fun u => ?_⟩
  unfold lineR
  rw [List.append_assoc]
  show (cutL (a ++ 10 :: u)).map _ = _
  rw [cutL_app h4]; rfl
theorem loc_line {F : List (List UInt8) → List UInt8 → Option (List UInt8)} (hF : ∀ l, Loc (F l)) : Loc (fun t => match lineR t with | none => none | some (l, r) => F l r) := by
  intro t r h
  simp only at h
  cases hl : lineR t with
  | none => rw [hl] at h; cases h
  | some p =>
    obtain ⟨l, m⟩ := p
    rw [hl] at h
    obtain ⟨c, _, h1, h2⟩ := lineR_loc hl
    obtain ⟨d, h3, h4⟩ := hF l m r h
    refine ⟨c ++ d, by rw [h1, h3, List.append_assoc], fun u => ?_⟩
    simp only
    rw [List.append_assoc, h2]
    exact h4 u
theorem loc_value (w : List UInt8) : Loc (valueR w) := by
  intro t r h
  unfold valueR at h ⊢
  cases hn : numP w with
  | none => rw [hn] at h; cases h
  | some n =>
    rw [hn] at h
    simp only at h ⊢
    cases hd : t.drop n with
    | nil => rw [hd] at h; cases h
    | cons c q =>
      rw [hd] at h
      simp only at h
      split at h
      · rename_i hc
        injection h with h
        subst h; subst hc
        have hlt : n < t.length := by
          rcases Nat.lt_or_ge n t.length with h | h
          · exact h
          · rw [List.drop_eq_nil_of_le h] at hd; cases hd
        refine ⟨t.take n ++ [10], by rw [List.append_assoc]; show t = t.take n ++ 10 :: q; rw [← hd, List.take_append_drop], fun u => ?_⟩
        have e : (t.take n ++ [10] ++ u).drop n = 10 :: u := by
          rw [List.append_assoc, List.drop_append, List.drop_eq_nil_of_le (by simp; omega), List.length_take, Nat.min_eq_left (by omega), Nat.sub_self]
          rfl
        rw [e]; simp
      · cases h
theorem loc_pair : Loc pairR := by
  show Loc (fun t => match lineR t with | none => none | some (l, r) => match l with | [a, b] => if isWord a = true then valueR b r else none | _ => none)
  refine loc_line (F := fun l r => match l with | [a, b] => if isWord a = true then valueR b r else none | _ => none) fun l => ?_
  split
  · exact loc_if (loc_value _) loc_none
  · exact loc_none
theorem loc_scored : Loc scoredR := by
  refine loc_line (F := fun l r => match l with | [a, b] => if isWord a = true ∧ (parseP b).isSome = true then some r else none | _ => none) fun l => ?_
  split
  · exact loc_if loc_some loc_none
  · exact loc_none
theorem loc_iter {R : List UInt8 → Option (List UInt8)} (h : Loc R) : ∀ n, Loc (iterR R n) := by
  intro n
  induction n with
  | zero => exact loc_some
  | succ n ih =>
    intro t r hr
    unfold iterR at hr
    cases h1 : R t with
    | none => rw [h1] at hr; cases hr
    | some m =>
      rw [h1] at hr
      obtain ⟨c, h2, h3⟩ := h t m h1
      obtain ⟨d, h4, h5⟩ := ih m r hr
      refine ⟨c ++ d, by rw [h2, h4, List.append_assoc], fun u => ?_⟩
      unfold iterR
      rw [List.append_assoc, h3]
      exact h5 u
theorem loc_many {R : List UInt8 → Option (List UInt8)} (h : Loc R) (ws : List (List UInt8)) : Loc (manyR R ws) := by
  unfold manyR
  split
  · split
    · exact loc_none
    · exact loc_iter h _
  · exact loc_none
theorem loc_body (l : List (List UInt8)) : Loc (bodyR l) := by
  unfold bodyR
  split
  · exact loc_none
  · rename_i h r
    refine loc_if (loc_if loc_some loc_none) (loc_if ?_ (loc_if ?_ (loc_if (loc_many loc_pair _) (loc_if (loc_many loc_scored _) (loc_if ?_ (loc_if ?_ (loc_if (loc_if loc_some loc_none) (loc_if ?_ loc_none))))))))
    all_goals split
    all_goals first | exact loc_none | exact loc_value _ | exact loc_if loc_some loc_none
theorem loc_answer {t r : List UInt8} (h : answerR t = some r) : ∃ c, c ≠ [] ∧ t = c ++ r ∧ ∀ u, answerR (c ++ u) = some u := by
  unfold answerR at h
  cases hl : lineR t with
  | none => rw [hl] at h; cases h
  | some p =>
    obtain ⟨l, m⟩ := p
    rw [hl] at h
    obtain ⟨c, h0, h1, h2⟩ := lineR_loc hl
    obtain ⟨d, h3, h4⟩ := loc_body l m r h
    refine ⟨c ++ d, by simp [h0], by rw [h1, h3, List.append_assoc], fun u => ?_⟩
    unfold answerR
    rw [List.append_assoc, h2]
    exact h4 u
theorem answer_lt {t r : List UInt8} (h : answerR t = some r) : r.length < t.length := by
  obtain ⟨c, h0, h1, _⟩ := loc_answer h
  rw [h1, List.length_append]
  have := List.length_pos_iff.2 h0
  omega

/-- The answers, one behind the other. -/
def partsR : Nat → List UInt8 → Option (List (List UInt8))
  | _, [] => some []
  | 0, _ => none
  | n + 1, t => match answerR t with
    | none => none
    | some r => (partsR n r).map (t.take (t.length - r.length) :: ·)
def parseR (t : List UInt8) : Option (List (List UInt8)) := partsR t.length t
theorem partsR_nil (n : Nat) : partsR n [] = some [] := by cases n <;> rfl
theorem partsR_succ (n : Nat) {t : List UInt8} (h : t ≠ []) : partsR (n + 1) t = match answerR t with
    | none => none
    | some r => (partsR n r).map (t.take (t.length - r.length) :: ·) := by
  cases t with
  | nil => exact absurd rfl h
  | cons c t => rfl
theorem partsR_same : ∀ (n m : Nat) (t : List UInt8), t.length ≤ n → t.length ≤ m → partsR n t = partsR m t := by
  intro n
  induction n with
  | zero =>
    intro m t h _
    have : t = [] := List.length_eq_zero_iff.1 (by omega)
    subst this; rw [partsR_nil, partsR_nil]
  | succ n ih =>
    intro m t h1 h2
    by_cases h0 : t = []
    · subst h0; rw [partsR_nil, partsR_nil]
    · have hp := List.length_pos_iff.2 h0
      obtain ⟨m, rfl⟩ : ∃ k, m = k + 1 := ⟨m - 1, by omega⟩
      rw [partsR_succ _ h0, partsR_succ _ h0]
      cases ha : answerR t with
      | none => rfl
      | some r =>
        have hl := answer_lt ha
        simp only
        rw [ih m r (by omega) (by omega)]
theorem parseR_nil : parseR [] = some [] := rfl
theorem parseR_step {t : List UInt8} (h0 : t ≠ []) : parseR t = match answerR t with
    | none => none
    | some r => (parseR r).map (t.take (t.length - r.length) :: ·) := by
  have hp := List.length_pos_iff.2 h0
  obtain ⟨m, hm⟩ : ∃ m, t.length = m + 1 := ⟨t.length - 1, by omega⟩
  show partsR t.length t = _
  rw [hm, partsR_succ _ h0]
  cases ha : answerR t with
  | none => rfl
  | some r =>
    have hl := answer_lt ha
    simp only
    rw [partsR_same m r.length r (by omega) (Nat.le_refl _), hm]; rfl
theorem parseR_stop {t : List UInt8} (h0 : t ≠ []) (h : answerR t = none) : parseR t = none := by rw [parseR_step h0, h]
theorem parseR_go {t r : List UInt8} (h : answerR t = some r) : parseR t = (parseR r).map (t.take (t.length - r.length) :: ·) := by
  have h0 : t ≠ [] := by rintro rfl; cases h
  rw [parseR_step h0, h]
/-- What is told is read back as it stands, whatever is behind. -/
def Told (c : List UInt8) : Prop := c ≠ [] ∧ ∀ u, answerR (c ++ u) = some u
theorem parseR_told {c : List UInt8} (h : Told c) (u : List UInt8) : parseR (c ++ u) = (parseR u).map (c :: ·) := by
  rw [parseR_go (h.2 u)]
  have e : (c ++ u).take ((c ++ u).length - u.length) = c := by rw [List.length_append, Nat.add_sub_cancel, List.take_left]
  rw [e]
theorem parseR_all : ∀ (cs : List (List UInt8)), (∀ c ∈ cs, Told c) → parseR cs.flatten = some cs := by
  intro cs
  induction cs with
  | nil => intro _; rfl
  | cons c cs ih =>
    intro h
    rw [List.flatten_cons, parseR_told (h c List.mem_cons_self), ih (fun x hx => h x (List.mem_cons_of_mem _ hx))]; rfl
/-- The law of ReplyJunk. -/
theorem parts_law : ∀ (n : Nat) (t : List UInt8), t.length ≤ n → ∀ l, parseR t = some l → l.flatten = t ∧ ∀ c ∈ l, Told c := by
  intro n
  induction n with
  | zero =>
    intro t h l hl
    have : t = [] := List.length_eq_zero_iff.1 (by omega)
    subst this
    injection hl with hl
    subst hl
    exact ⟨rfl, fun c hc => by cases hc⟩
  | succ n ih =>
    intro t h l hl
    by_cases h0 : t = []
    · subst h0
      injection hl with hl
      subst hl
      exact ⟨rfl, fun c hc => by cases hc⟩
    · cases ha : answerR t with
      | none => rw [parseR_stop h0 ha] at hl; cases hl
      | some r =>
        rw [parseR_go ha] at hl
        obtain ⟨l', h1, h2⟩ := Option.map_eq_some_iff.1 hl
        obtain ⟨c, c0, h3, h4⟩ := loc_answer ha
        have hlt := answer_lt ha
        obtain ⟨h5, h6⟩ := ih r (by omega) l' h1
        have e : t.take (t.length - r.length) = c := by rw [h3, List.length_append, Nat.add_sub_cancel, List.take_left]
        rw [e] at h2
        subst h2
        refine ⟨by rw [List.flatten_cons, h5, ← h3], fun x hx => ?_⟩
        rcases List.mem_cons.1 hx with rfl | hx
        · exact ⟨c0, h4⟩
        · exact h6 x hx
theorem parse_one {c : List UInt8} (h : Told c) : parseR c = some [c] := by
  have := parseR_told h []
  rw [List.append_nil] at this
  rw [this]; rfl
end RqF
