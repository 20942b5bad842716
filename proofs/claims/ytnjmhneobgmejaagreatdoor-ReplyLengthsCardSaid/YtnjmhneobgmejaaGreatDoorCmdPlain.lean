/- Plain law: a line's words, numbers of nine digits, commands. No condition. -/
import Derived.Test.YtnjmhneobgmejaaGreatDoorRefPlain
import Derived.Lib.Split
import Derived.Lib.SplitLaws
namespace RqF
open Ieee

/-- A line's words. -/
def wordsOf : List UInt8 → List (List UInt8)
  | [] => [[]]
  | c :: r => if c = 32 then [] :: wordsOf r else
    match wordsOf r with
    | [] => [[c]]
    | w :: ws => (c :: w) :: ws

theorem wordsOf_ne (l : List UInt8) : wordsOf l ≠ [] := by
  cases l with
  | nil => simp [wordsOf]
  | cons c r =>
    unfold wordsOf
    split
    · simp
    · split <;> simp
theorem wordsOf_len (l : List UInt8) : (wordsOf l).length ≤ l.length + 1 := by
  induction l with
  | nil => simp [wordsOf]
  | cons c r ih =>
    unfold wordsOf
    split
    · simp; exact ih
    · split
      · simp
      · rename_i h; rw [h] at ih; simp at ih ⊢; omega
theorem wordsOf_mem (l : List UInt8) : ∀ w ∈ wordsOf l, w.length ≤ l.length := by
  induction l with
  | nil => simp [wordsOf]
  | cons c r ih =>
    unfold wordsOf
    split
    · intro w hw
      rcases List.mem_cons.1 hw with rfl | hw
      · simp
      · have := ih w hw; simp; omega
    · split
      · intro w hw; simp at hw; subst hw; simp
      · rename_i u us h
        intro w hw
        rcases List.mem_cons.1 hw with rfl | hw
        · have := ih u (by rw [h]; exact List.mem_cons_self); simp; exact this
        · have := ih w (by rw [h]; exact List.mem_cons_of_mem _ hw); simp; omega
theorem wordsOf_plain (a : List UInt8) (h : ∀ c ∈ a, c ≠ 32) : wordsOf a = [a] := by
  induction a with
  | nil => rfl
  | cons c r ih =>
    unfold wordsOf
    rw [if_neg (h c List.mem_cons_self), ih (fun x hx => h x (List.mem_cons_of_mem _ hx))]
theorem wordsOf_app (a r : List UInt8) (h : ∀ c ∈ a, c ≠ 32) : wordsOf (a ++ 32 :: r) = a :: wordsOf r := by
  induction a with
  | nil => show wordsOf (32 :: r) = _; rw [wordsOf, if_pos rfl]
  | cons c a ih =>
    show wordsOf (c :: (a ++ 32 :: r)) = _
    rw [wordsOf, if_neg (h c List.mem_cons_self), ih (fun x hx => h x (List.mem_cons_of_mem _ hx))]

theorem index_app (a r : List UInt8) (h : ∀ c ∈ a, c ≠ 32) : Go.Lib.index (a ++ 32 :: r) [32] = (a.length : Int) := by
  induction a with
  | nil =>
    show Go.Lib.index (32 :: r) [32] = _
    unfold Go.Lib.index
    rw [if_pos (by simp [List.isPrefixOf])]; rfl
  | cons c a ih =>
    have h1 := ih (fun x hx => h x (List.mem_cons_of_mem _ hx))
    have hc := h c List.mem_cons_self
    show Go.Lib.index (c :: (a ++ 32 :: r)) [32] = _
    unfold Go.Lib.index
    rw [if_neg (by simp [List.isPrefixOf]; exact fun e => hc e.symm), h1, if_neg (by rw [beq_iff_eq]; omega)]
    simp
theorem index_no (a : List UInt8) (h : ∀ c ∈ a, c ≠ 32) : Go.Lib.index a [32] = -1 := by
  induction a with
  | nil => rfl
  | cons c a ih =>
    have h1 := ih (fun x hx => h x (List.mem_cons_of_mem _ hx))
    have hc := h c List.mem_cons_self
    unfold Go.Lib.index
    rw [if_neg (by simp [List.isPrefixOf]; exact fun e => hc e.symm), h1, if_pos (by decide)]

theorem split_first (l : List UInt8) : (∀ c ∈ l, c ≠ 32) ∨ ∃ a r, l = a ++ 32 :: r ∧ ∀ c ∈ a, c ≠ 32 := by
  induction l with
  | nil => left; intro c h; cases h
  | cons c l ih =>
    by_cases hc : c = 32
    · right; exact ⟨[], l, by rw [hc]; rfl, fun x h => by cases h⟩
    · rcases ih with h | ⟨a, r, h, hn⟩
      · left
        intro x hx
        rcases List.mem_cons.1 hx with rfl | hx
        · exact hc
        · exact h x hx
      · right
        refine ⟨c :: a, r, by rw [h]; rfl, fun x hx => ?_⟩
        rcases List.mem_cons.1 hx with rfl | hx
        · exact hc
        · exact hn x hx

theorem split_words : ∀ (n : Nat) (l : List UInt8), l.length ≤ n → Go.Lib.splitK [32] 0 (Go.Lib.count l [32]) l = wordsOf l := by
  intro n
  induction n with
  | zero =>
    intro l h
    have : l = [] := List.length_eq_zero_iff.1 (by omega)
    subst this; rfl
  | succ n ih =>
    intro l h
    rcases split_first l with hno | ⟨a, r, rfl, hn⟩
    · rw [Go.Lib.count_miss (index_no l hno), wordsOf_plain l hno]; rfl
    · have hi := index_app a r hn
      rw [Go.Lib.count_hit (by simp) hi, Nat.add_comm 1, Go.Lib.splitK, hi, if_neg (by rw [beq_iff_eq]; omega), wordsOf_app a r hn]
      have e1 : (a ++ 32 :: r).drop (a.length + [(32 : UInt8)].length) = r := by simp [List.drop_append]
      have e2 : (a ++ 32 :: r).take (((a.length : Nat) : Int).toNat + 0) = a := by simp
      have e3 : (a ++ 32 :: r).drop (((a.length : Nat) : Int).toNat + [(32 : UInt8)].length) = r := by simp [List.drop_append]
      rw [e1, e2, e3, ih r (by simp at h; omega)]

/-- A number of at most nine digits. -/
def numP (l : List UInt8) : Option Nat := if l.length ≤ 9 then digP l else none

theorem itoa_nat (v : Nat) : Go.Lib.itoa (v : Int) = Go.Lib.decDigits v := by unfold Go.Lib.itoa; rw [if_neg (by omega)]; rfl
theorem numP_some {l : List UInt8} {v : Nat} (h : numP l = some v) : Go.Lib.atoiAll l = .ok (v : Int) ∧ l.length ≤ 9 ∧ Go.Lib.itoa (v : Int) = l ∧ v < 1000000000 := by
  unfold numP at h
  split at h
  · rename_i hl
    have h1 := digP_some h
    have h2 := digP_lt h
    refine ⟨by rw [← Go.Lib.parseIntB_64, ← h1]; exact parse_pos h2, hl, by rw [itoa_nat, h1], ?_⟩
    unfold digP at h
    split at h
    · rename_i hh
      have h5 := valA_lt l hh.2.1 0
      have h6 : 10 ^ l.length ≤ 10 ^ 9 := Nat.pow_le_pow_right (by decide) hl
      injection h with h
      rw [h] at h5
      omega
    · cases h
  · cases h
theorem numP_of {l : List UInt8} {n : Int} (hl : l.length ≤ 9) (h0 : 0 ≤ n) (he : Go.Lib.itoa n = l) : numP l = some n.toNat := by
  obtain ⟨v, rfl⟩ := Int.eq_ofNat_of_zero_le h0
  rw [itoa_nat] at he
  unfold numP
  rw [if_pos hl, ← he, Int.toNat_natCast, digP_dec]
  rw [← he, Go.Lib.decDigits_length] at hl
  have : ∀ k v : Nat, Go.Lib.nDigits v ≤ k + 1 → v < 10 ^ (k + 1) := by
    intro k
    induction k with
    | zero =>
      intro v h; unfold Go.Lib.nDigits at h
      split at h
      · omega
      · have : 1 ≤ Go.Lib.nDigits (v / 10) := by unfold Go.Lib.nDigits; split <;> omega
        omega
    | succ k ih =>
      intro v h
      unfold Go.Lib.nDigits at h
      split at h
      · rename_i hv
        have hp : 0 < 10 ^ (k + 1) := Nat.pow_pos (by decide)
        rw [Nat.pow_succ]; omega
      · have := ih (v / 10) (by omega)
        rw [Nat.pow_succ]; omega
  have := this 8 v hl
  omega

/-- A key's or a member's text. -/
def inW (c : UInt8) : Bool := decide (33 ≤ c.toNat ∧ c.toNat ≤ 126)
def isWord (l : List UInt8) : Bool := l.all inW && decide (1 ≤ l.length ∧ l.length ≤ 64)
def scoreP (l : List UInt8) : Option Nat := if l = [110, 97, 110] then none else parseP l

/-- A command. -/
structure Cmd where
  kind : Nat
  key : List UInt8
  lo : List UInt8
  hi : List UInt8
  a : Nat
  b : Nat
  n : Int
  id : Int
def Cmd.nil : Cmd := ⟨0, [], [], [], 0, 0, 0, 0⟩

/-- A command's name and its words: 0 a key, 1 and 2 bounds, 3 a number, 4 an id, 5 and 6 scores. -/
def nameOf : Nat → List UInt8
  | 1 => [80, 85, 84]
  | 2 => [71, 69, 84]
  | 3 => [68, 69, 76]
  | 4 => [83, 67, 65, 78]
  | 5 => [83, 69, 84]
  | 6 => [66, 85, 77, 80]
  | 7 => [85, 78, 83, 69, 84]
  | 8 => [83, 67, 79, 82, 69]
  | 9 => [82, 65, 78, 71, 69]
  | 10 => [80, 76, 65, 67, 69]
  | 11 => [83, 80, 82, 69, 65, 68]
  | 12 => [83, 78, 65, 80]
  | 13 => [68, 82, 79, 80]
  | 14 => [71, 69, 84, 65, 84]
  | 15 => [83, 67, 65, 78, 65, 84]
  | 16 => [83, 78, 65, 80, 83]
  | 17 => [67, 79, 85, 78, 84]
  | 18 => [66, 69, 71, 73, 78]
  | 19 => [67, 79, 77, 77, 73, 84]
  | 20 => [67, 65, 78, 67, 69, 76]
  | 21 => [80, 73, 78, 71]
  | 22 => [81, 85, 73, 84]
  | _ => []
def partsOf : Nat → List Nat
  | 1 => [0, 3]
  | 2 => [0]
  | 3 => [0]
  | 4 => [1, 2, 3]
  | 5 => [0, 5]
  | 6 => [0, 5]
  | 7 => [0]
  | 8 => [0]
  | 9 => [5, 6, 3]
  | 10 => [0]
  | 11 => [5, 6]
  | 13 => [4]
  | 14 => [4, 0]
  | 15 => [4, 1, 2, 3]
  | _ => []
def readP (p : Nat) (c : Cmd) (w : List UInt8) : Option Cmd :=
  match p with
  | 0 => if isWord w then some { c with key := w } else none
  | 1 => if w = [42] then some { c with lo := [] } else if isWord w then some { c with lo := w } else none
  | 2 => if w = [42] then some { c with hi := [] } else if isWord w then some { c with hi := w } else none
  | 3 => (numP w).map fun n => { c with n := (n : Int) }
  | 4 => (numP w).map fun n => { c with id := (n : Int) }
  | 5 => (scoreP w).map fun x => { c with a := x }
  | _ => (scoreP w).map fun x => { c with b := x }
def readAll : List Nat → List (List UInt8) → Cmd → Option Cmd
  | p :: ps, w :: ws, c => (readP p c w).bind (readAll ps ws)
  | _, _, c => some c
def fits (ws : List (List UInt8)) (k : Nat) : Bool := decide (ws.head? = some (nameOf k) ∧ ws.length = (partsOf k).length + 1)
def afterP (ws : List (List UInt8)) (k : Nat) : Cmd × Nat :=
  match readAll (partsOf k) ws.tail { Cmd.nil with kind := k } with
  | none => (Cmd.nil, 3)
  | some c => if k = 1 ∧ 1024 < c.n then ({ Cmd.nil with kind := k, n := c.n }, 5) else (c, 0)
/-- What parse.Line reads. -/
def lineP (l : List UInt8) : Cmd × Nat :=
  match (List.range' 1 22).find? (fits (wordsOf l)) with
  | none => (Cmd.nil, 3)
  | some k => afterP (wordsOf l) k

theorem parts_le (k : Nat) : (partsOf k).length ≤ 4 := by
  unfold partsOf
  split <;> decide
theorem parts_lt (k : Nat) : ∀ p ∈ partsOf k, p ≤ 6 := by
  unfold partsOf
  split <;> decide
theorem name_inj {j k : Nat} (hj : 1 ≤ j ∧ j ≤ 22) (hk : 1 ≤ k ∧ k ≤ 22) (h : nameOf j = nameOf k) : j = k := by
  have key : ∀ j k : Fin 23, 1 ≤ j.val → 1 ≤ k.val → nameOf j.val = nameOf k.val → j.val = k.val := by decide +kernel
  exact key ⟨j, by omega⟩ ⟨k, by omega⟩ hj.1 hk.1 h
theorem readAll_step {ps : List Nat} {ws : List (List UInt8)} {i : Nat} (hp : i < ps.length) (hw : i < ws.length) (c : Cmd) : readAll (ps.drop i) (ws.drop i) c = (readP ps[i] c ws[i]).bind (readAll (ps.drop (i + 1)) (ws.drop (i + 1))) := by
  rw [List.drop_eq_getElem_cons hp, List.drop_eq_getElem_cons hw]; rfl
theorem readAll_word {ps : List Nat} {ws : List (List UInt8)} {i q : Nat} {wi : List UInt8} (hp : i < ps.length) (hw : i + 1 < ws.length) (hq : q = ps[i]) (hwi : wi = ws[i + 1]) (c : Cmd) :
    readAll (ps.drop i) (ws.tail.drop i) c = (readP q c wi).bind (readAll (ps.drop (i + 1)) (ws.tail.drop (i + 1))) := by
  rw [readAll_step hp (by rw [List.length_tail]; omega), hq, hwi, List.getElem_tail]
theorem readAll_end {ps : List Nat} {ws : List (List UInt8)} {i : Nat} (hp : ps.length ≤ i) (c : Cmd) : readAll (ps.drop i) (ws.drop i) c = some c := by
  rw [List.drop_of_length_le hp]; unfold readAll; rfl
theorem lineP_none {l : List UInt8} (h : ∀ k, 1 ≤ k → k ≤ 22 → fits (wordsOf l) k = false) : lineP l = (Cmd.nil, 3) := by
  unfold lineP
  rw [List.find?_eq_none.2]
  intro k hk
  rw [List.mem_range'_1] at hk
  rw [h k hk.1 (by omega)]; decide
theorem lineP_at {l : List UInt8} {k : Nat} (h1 : 1 ≤ k) (h2 : k ≤ 22) (h : fits (wordsOf l) k = true) : lineP l = afterP (wordsOf l) k := by
  unfold lineP
  cases hf : (List.range' 1 22).find? (fits (wordsOf l)) with
  | none =>
    have := List.find?_eq_none.1 hf k (by rw [List.mem_range'_1]; omega)
    exact absurd h this
  | some j =>
    have h3 := List.find?_some hf
    have h4 := List.mem_of_find?_eq_some hf
    rw [List.mem_range'_1] at h4
    unfold fits at h h3
    simp only [decide_eq_true_eq] at h h3
    have : nameOf j = nameOf k := Option.some.inj (h3.1.symm.trans h.1)
    rw [name_inj ⟨h4.1, by omega⟩ ⟨h1, h2⟩ this]
end RqF
