/- Plain law of package reply, what is told alone. No condition. -/
import Derived.Test.YtnjmhneobgmejaaDoorNumT
import Derived.Test.YtnjmhneobgmejaaDoorRefT
import Derived.Lib.Join
namespace RqF
open Ieee

theorem itoa_nat (v : Nat) : Go.Lib.itoa (v : Int) = Go.Lib.decDigits v := by unfold Go.Lib.itoa; rw [if_neg (by omega)]; rfl
theorem dec_len {v : Nat} (h : v < 1000000000000000) : (Go.Lib.decDigits v).length ≤ 15 := by
  rw [Go.Lib.decDigits_length]
  have : ∀ k v : Nat, v < 10 ^ (k + 1) → Go.Lib.nDigits v ≤ k + 1 := by
    intro k
    induction k with
    | zero => intro v h; unfold Go.Lib.nDigits; rw [dif_pos (by omega)]; omega
    | succ k ih =>
      intro v h
      unfold Go.Lib.nDigits
      split
      · omega
      · have := ih (v / 10) (by rw [Nat.div_lt_iff_lt_mul (by decide)]; rw [Nat.pow_succ] at h; exact h)
        omega
  exact this 14 v h

theorem text_len30 (b : Nat) : (textF b).length ≤ 30 := by
  unfold textF
  split
  · simp
  split
  · simp
  split
  · simp
  split
  · rename_i v hv
    have := dec_len (wholeF_some hv).2.2
    split
    · simp; omega
    · omega
  · simp [hexLow_length]
/-- Words, a blank between two. -/
def joinW (ws : List (List UInt8)) : List UInt8 := Go.Lib.join ws [32]
/-- A line of words. -/
def tellR (ws : List (List UInt8)) : List UInt8 := joinW ws ++ [10]
theorem joinW_cons2 (a b : List UInt8) (r : List (List UInt8)) : joinW (a :: b :: r) = a ++ 32 :: joinW (b :: r) := by
  unfold joinW
  rw [Go.Lib.join_cons, Go.Lib.join_cons]
  simp [Go.Lib.joinTail]
theorem joinW_one (a : List UInt8) : joinW [a] = a := Go.Lib.join_one a [32]
theorem tellR_ne (ws : List (List UInt8)) : tellR ws ≠ [] := by unfold tellR; simp
def sOK : List UInt8 := [79, 75]
def sNONE : List UInt8 := [78, 79, 78, 69]
def sYES : List UInt8 := [89, 69, 83]
def sNO : List UInt8 := [78, 79]
def sERR : List UInt8 := [69, 82, 82]
def sVALUE : List UInt8 := [86, 65, 76, 85, 69]
def sPAIRS : List UInt8 := [80, 65, 73, 82, 83]
def sSCORED : List UInt8 := [83, 67, 79, 82, 69, 68]
def sSCORE : List UInt8 := [83, 67, 79, 82, 69]
def sNUMBER : List UInt8 := [78, 85, 77, 66, 69, 82]
def sNUMBERS : List UInt8 := [78, 85, 77, 66, 69, 82, 83]
def sSPREAD : List UInt8 := [83, 80, 82, 69, 65, 68]
def okT : List UInt8 := tellR [sOK]
def noneT : List UInt8 := tellR [sNONE]
/-- An error's word: by its number. -/
def errW (e : Int) : List UInt8 :=
  if e = 3 then [83, 89, 78, 84, 65, 88] else if e = 5 ∨ e = 2 then [84, 79, 79, 66, 73, 71] else if e = 61 then [78, 79, 83, 78, 65, 80] else if e = 60 then [70, 85, 76, 76]
  else if e = 6 then [78, 65, 78] else if e = 65 then [77, 65, 78, 89] else if e = 50 then [68, 69, 65, 68] else [65, 82, 71]
def errT (e : Int) : List UInt8 := tellR [sERR, errW e]
def valueT (b : List UInt8) : List UInt8 := tellR [sVALUE, Go.Lib.itoa b.length] ++ (b ++ [10])
def pairT (p : List UInt8 × List UInt8) : List UInt8 := tellR [p.1, Go.Lib.itoa p.2.length] ++ (p.2 ++ [10])
def pairsT (l : List (List UInt8 × List UInt8)) : List UInt8 := tellR [sPAIRS, Go.Lib.itoa l.length] ++ (l.map pairT).flatten
def memberT (p : List UInt8 × Nat) : List UInt8 := tellR [p.1, textF p.2]
def scoredT (l : List (List UInt8 × Nat)) : List UInt8 := tellR [sSCORED, Go.Lib.itoa l.length] ++ (l.map memberT).flatten
def scoreT (x : Nat) : List UInt8 := tellR [sSCORE, textF x]
def numberT (n : Int) : List UInt8 := tellR [sNUMBER, Go.Lib.itoa n]
def numbersT (l : List Int) : List UInt8 := tellR (sNUMBERS :: Go.Lib.itoa l.length :: l.map Go.Lib.itoa)
def spreadT (n : Int) (a b c d : Nat) : List UInt8 := tellR [sSPREAD, Go.Lib.itoa n, textF a, textF b, textF c, textF d]

theorem errW_cases (e : Int) : errW e ∈ ([[83, 89, 78, 84, 65, 88], [84, 79, 79, 66, 73, 71], [78, 79, 83, 78, 65, 80], [70, 85, 76, 76], [78, 65, 78], [77, 65, 78, 89], [68, 69, 65, 68], [65, 82, 71]] : List (List UInt8)) := by
  unfold errW
  repeat' split
  all_goals simp
end RqF
