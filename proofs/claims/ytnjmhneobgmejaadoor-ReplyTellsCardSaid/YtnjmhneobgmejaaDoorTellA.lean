/- The walks of the document's answer to telling: digits, Err, Value, Bool, Num, Score; and of reply.Bool, reply.Number. Conditions: the library's tables are as they are laid. -/
import Derived.Test.YtnjmhneobgmejaaDoorRepR
import Derived.Test.YtnjmhneobgmejaaDoorRefText
namespace Go.Proofs.YtnjmhneobgmejaaDoor
open Go.RowKit

theorem digits_as (n : Nat) (D : ByteArray) (w : World) (hn : n < 2 * RqF.sgn) (hD : D = ⟨(Lib.decDigits n).toArray⟩) : Calls Tryd.prog 45 #[.int .u64 n] w fun r w' => r = .returned (.string D) ∧ w = w' := by
  subst hD; exact digits_any n w hn
def itoaS (n : Int) : ByteArray := ⟨(Lib.itoa n).toArray⟩
theorem itoaS_size (n : Int) (h0 : -9223372036854775808 < n) (h1 : n ≤ 9223372036854775807) : (itoaS n).size ≤ 25 := by
  have key : ∀ v : Nat, v < 10000000000000000000 → (Lib.decDigits v).length ≤ 20 := by
    intro v hv
    rw [Lib.decDigits_length]
    exact Lib.nDigits_le20 v (by omega)
  unfold itoaS
  rw [size_of]
  unfold Lib.itoa
  split
  · have := key n.natAbs (by omega)
    simp; omega
  · have := key n.toNat (by omega)
    omega
set_option maxRecDepth 100000 in
theorem r18digits_any (n : Int) (w : World) (h0 : -9223372036854775808 < n) (h1 : n ≤ 9223372036854775807) :
    Calls Tryd.prog 37 #[.int .i64 n] w fun r w' => r = .returned (.string (itoaS n)) ∧ w = w' := by
  by_cases hn : n < 0
  · obtain ⟨m, hm⟩ : ∃ m : Nat, n = -(m : Int) := ⟨n.natAbs, by omega⟩
    have hm0 : 0 < m := by omega
    have hm1 : m ≤ 9223372036854775807 := by omega
    obtain ⟨D, hD⟩ : ∃ D : ByteArray, D = ⟨(Lib.decDigits m).toArray⟩ := ⟨_, rfl⟩
    have hDs : D.size ≤ 25 := by
      rw [hD, size_of, Lib.decDigits_length]
      exact Nat.le_trans (Lib.nDigits_le20 m (by omega)) (by decide)
    have hres : itoaS n = { data := #[45] } ++ D := by
      refine ba_eq ?_
      rw [ba_cat, hD]
      unfold itoaS Lib.itoa
      rw [if_pos hn, hm]; simp
    rw [hres]
    have HD := Lib.hid hD
    clear hres hD h0 h1
    subst hm
    go_enter Tryd.func37, Tryd.ntmps37
    go_wp2_with fail
    refine (digits_as m D _ (by show m < 18446744073709551616; omega) HD.out).mono ?_
    rintro r w1 ⟨rfl, rfl⟩
    go_wp2_with fail
    go_ret
    exact ⟨rfl, rfl⟩
  · obtain ⟨m, hm⟩ : ∃ m : Nat, n = (m : Int) := ⟨n.natAbs, by omega⟩
    have hm1 : m ≤ 9223372036854775807 := by omega
    have hres : itoaS n = ⟨(Lib.decDigits m).toArray⟩ := by
      unfold itoaS Lib.itoa
      rw [if_neg hn, hm]; rfl
    rw [hres]
    clear hres h0 h1 hn
    subst hm
    go_enter Tryd.func37, Tryd.ntmps37
    go_wp2_with fail
    refine (digits_any m _ (by show m < 18446744073709551616; omega)).mono ?_
    rintro r w1 ⟨rfl, rfl⟩
    go_wp2_with fail
    go_ret
    exact ⟨rfl, rfl⟩
theorem r18digits_as (n : Int) (D : ByteArray) (w : World) (h0 : -9223372036854775808 < n) (h1 : n ≤ 9223372036854775807) (hD : D = itoaS n) :
    Calls Tryd.prog 37 #[.int .i64 n] w fun r w' => r = .returned (.string D) ∧ w = w' := by
  subst hD; exact r18digits_any n w h0 h1
set_option maxRecDepth 100000 in
theorem r18value_any (b : ByteArray) (w : World) (hs : b.size ≤ 1099511627776) :
    Calls Tryd.prog 12 #[.string b] w fun r w' => r = .returned (.string (valueS b.data.toList)) ∧ w = w' := by
  obtain ⟨D, hD⟩ : ∃ D : ByteArray, D = itoaS b.size := ⟨_, rfl⟩
  have hDs : D.size ≤ 25 := by rw [hD]; exact itoaS_size _ (by omega) (by omega)
  have hres : valueS b.data.toList = { data := #[86, 65, 76, 85, 69, 32] } ++ D ++ { data := #[10] } ++ b ++ { data := #[10] } := by
    refine ba_eq ?_
    rw [ba_cat, ba_cat, ba_cat, ba_cat, hD]
    unfold valueS RqF.valueT RqF.tellR
    rw [RqF.joinW_cons2, RqF.joinW_one, ← Lib.size_eq]
    simp [RqF.sVALUE, itoaS]
  rw [hres]
  have HD := Lib.hid hD
  clear hres hD
  go_enter Tryd.func12, Tryd.ntmps12
  go_wp2_with fail
  refine (r18digits_as b.size D _ (by omega) (by omega) HD.out).mono ?_
  rintro r w1 ⟨rfl, rfl⟩
  go_wp2_with fail
  go_ret
  exact ⟨rfl, rfl⟩
def boolS (b : Bool) : ByteArray := if b then ⟨#[89, 69, 83, 10]⟩ else ⟨#[78, 79, 10]⟩
theorem r18bool_any (b : Bool) (w : World) : Calls Tryd.prog 16 #[.bool b] w fun r w' => r = .returned (.string (boolS b)) ∧ w = w' := by
  cases b
  all_goals
    go_enter Tryd.func16, Tryd.ntmps16
    go_wp2_with fail
    go_ret
    exact ⟨rfl, rfl⟩
theorem bool_tells (b : Bool) (w : World) : Calls Tryd.prog 15 #[.bool b] w fun r w' => r = .returned (.string (boolS b)) ∧ Below w.heap.size w w' := by
  cases b
  · go_enter Tryd.func15, Tryd.ntmps15
    go_wp2_with fail
    refine (told_laid _ [⟨#[78, 79]⟩] _ 1 ⟨#[78, 79, 10]⟩ rfl rfl rfl (by decide)).mono ?_
    rintro r w1 ⟨rfl, hb⟩
    go_wp2_with fail
    go_ret
    exact ⟨rfl, hb⟩
  · go_enter Tryd.func15, Tryd.ntmps15
    go_wp2_with fail
    refine (told_laid _ [⟨#[89, 69, 83]⟩] _ 1 ⟨#[89, 69, 83, 10]⟩ rfl rfl rfl (by decide)).mono ?_
    rintro r w1 ⟨rfl, hb⟩
    go_wp2_with fail
    go_ret
    exact ⟨rfl, hb⟩
def numberS (n : Int) : ByteArray := ⟨(RqF.numberT n).toArray⟩
theorem numberS_eq (n : Int) : numberS n = { data := #[78, 85, 77, 66, 69, 82, 32] } ++ itoaS n ++ { data := #[10] } := by
  refine ba_eq ?_
  rw [ba_cat, ba_cat]
  unfold numberS RqF.numberT RqF.tellR
  rw [RqF.joinW_cons2, RqF.joinW_one]
  simp [RqF.sNUMBER, itoaS]
set_option maxRecDepth 100000 in
theorem r18num_any (n : Int) (w : World) (h0 : -9223372036854775808 < n) (h1 : n ≤ 9223372036854775807) :
    Calls Tryd.prog 24 #[.int .i64 n] w fun r w' => r = .returned (.string (numberS n)) ∧ w = w' := by
  obtain ⟨D, hD⟩ : ∃ D : ByteArray, D = itoaS n := ⟨_, rfl⟩
  have hDs : D.size ≤ 25 := by rw [hD]; exact itoaS_size _ h0 h1
  rw [numberS_eq, ← hD]
  have HD := Lib.hid hD
  clear hD
  go_enter Tryd.func24, Tryd.ntmps24
  go_wp2_with fail
  refine (r18digits_as n D _ h0 h1 HD.out).mono ?_
  rintro r w1 ⟨rfl, rfl⟩
  go_wp2_with fail
  go_ret
  exact ⟨rfl, rfl⟩
theorem number_tells (n : Int) (w : World) (ht : Tabs w) (h0 : -9223372036854775808 < n) (h1 : n ≤ 9223372036854775807) :
    Calls Tryd.prog 23 #[.int .i64 n] w fun r w' => r = .returned (.string (numberS n)) ∧ Below w.heap.size w w' := by
  have HT := Lib.hid ht; clear ht
  have hs := itoaS_size n h0 h1
  go_enter Tryd.func23, Tryd.ntmps23
  go_wp2_with fail
  refine (itoa_any n _ (by omega) h1 HT.out).mono ?_
  rintro r w1 ⟨rfl, hb1⟩
  have HB1 := Lib.hid hb1; clear hb1
  go_wp2_with fail
  refine (told_laid _ [⟨#[78, 85, 77, 66, 69, 82]⟩, itoaS n] _ 2 (numberS n) rfl rfl (by simp [numberS, RqF.numberT, RqF.sNUMBER, itoaS]) (by rw [numberS_eq]; simp only [ByteArray.size_append]; show 7 + (itoaS n).size + 1 ≤ _; omega)).mono ?_
  rintro r w2 ⟨rfl, hb2⟩
  go_wp2_with fail
  go_ret
  exact ⟨rfl, below_trans HB1.out hb2⟩
theorem r3text_as (b : Nat) (F : ByteArray) (w : World) (hb : b < 2 * RqF.sgn) (hF : F = ⟨(RqF.textF b).toArray⟩) : Calls Tryd.prog 42 #[.float .f64 b] w fun e w' => e = .returned (.string F) ∧ w = w' := by
  subst hF; exact r3text_any b w hb
set_option maxRecDepth 100000 in
theorem r18score_any (x : Nat) (w : World) (hx : x < 2 * RqF.sgn) : Calls Tryd.prog 26 #[.float .f64 x] w fun r w' => r = .returned (.string (scoreS x)) ∧ w = w' := by
  obtain ⟨D, hD⟩ : ∃ D : ByteArray, D = ⟨(RqF.textF x).toArray⟩ := ⟨_, rfl⟩
  have hDs : D.size ≤ 30 := by rw [hD, size_of]; exact RqF.text_len30 x
  have hres : scoreS x = { data := #[83, 67, 79, 82, 69, 32] } ++ D ++ { data := #[10] } := by
    refine ba_eq ?_
    rw [ba_cat, ba_cat, hD]
    unfold scoreS RqF.scoreT RqF.tellR
    rw [RqF.joinW_cons2, RqF.joinW_one]
    simp [RqF.sSCORE]
  rw [hres]
  have HD := Lib.hid hD; have HX := Lib.hid hx
  clear hres hD hx
  go_enter Tryd.func26, Tryd.ntmps26
  go_wp2_with fail
  refine (r3text_as x D _ HX.out HD.out).mono ?_
  rintro r w1 ⟨rfl, rfl⟩
  go_wp2_with fail
  go_ret
  exact ⟨rfl, rfl⟩
end Go.Proofs.YtnjmhneobgmejaaDoor
