/- The walk of NamesNumbers. Condition: the library's tables are as they are laid. -/
import Derived.Test.YtbmbfjbjjnmmeaaDoorLawNamesA
namespace Go.Proofs.YtbmbfjbjjnmmeaaDoor
open Go.RowKit

theorem itoa_any (n : Int) (w : World) (h0 : -9223372036854775808 ≤ n) (h1 : n ≤ 9223372036854775807) (ht : Tabs w) :
    Calls Tryd.prog 56 #[.int .i64 n] w fun e w' => e = .returned (.string ⟨(Lib.itoa n).toArray⟩) ∧ Below w.heap.size w w' :=
  (Tryd.strconv_Itoa n h0 h1 w ht.pow).mono fun _ _ ⟨he, k, os, hw⟩ => ⟨he, by rw [hw]; exact below_grow k os⟩

set_option maxRecDepth 100000 in
theorem errno_any (n : Int) (w : World) (h0 : -9223372036854775808 ≤ n) (h1 : n ≤ 9223372036854775807) (ht : Tabs w) :
    Calls Tryd.prog 14 #[.int .i64 n] w fun e w' => e = .returned (.string ⟨([101, 114, 114, 111, 114, 32] ++ Lib.itoa n).toArray⟩) ∧ Below w.heap.size w w' := by
  have hadd : ∀ W, (Op.stringOp .add ⟨#[101, 114, 114, 111, 114, 32]⟩ ⟨(Lib.itoa n).toArray⟩).run Tryd.prog W = .ok (.string ⟨([101, 114, 114, 111, 114, 32] ++ Lib.itoa n).toArray⟩) W := fun W =>
    run_string_add_lists W [101, 114, 114, 111, 114, 32] (Lib.itoa n) (by simp) (by have := Lib.itoa_length_le n h0 h1; omega)
  have H0 := Lib.hid h0
  have H1 := Lib.hid h1
  clear h0 h1
  go_enter Tryd.func14, Tryd.ntmps14
  go_wp2_with fail
  refine (itoa_any _ _ H0.out H1.out ht).mono ?_
  rintro e w1 ⟨rfl, hb⟩
  go_wp2_with fail
  go_ret
  exact ⟨rfl, hb⟩

theorem itoa_60 : [101, 114, 114, 111, 114, 32] ++ Lib.itoa 60 = [101, 114, 114, 111, 114, 32, 54, 48] := by
  unfold Lib.itoa; rw [if_neg (by decide)]; unfold Lib.decDigits; rw [dif_neg (by decide)]; unfold Lib.decDigits; rfl
theorem itoa_0 : [101, 114, 114, 111, 114, 32] ++ Lib.itoa 0 = [101, 114, 114, 111, 114, 32, 48] := by
  unfold Lib.itoa; rw [if_neg (by decide)]; unfold Lib.decDigits; rfl

theorem pairs_at (l : List Int) : ∀ k : Nat, (l.flatMap fun n => [Value.int .i64 n, Value.int .i64 n])[k * 2]? = l[k]?.map (Value.int .i64) ∧ (l.flatMap fun n => [Value.int .i64 n, Value.int .i64 n])[k * 2 + 1]? = l[k]?.map (Value.int .i64) := by
  induction l with
  | nil => intro k; simp
  | cons x l ih =>
    intro k
    cases k with
    | zero => exact ⟨rfl, rfl⟩
    | succ k =>
      have e1 : (k + 1) * 2 = k * 2 + 1 + 1 := by omega
      have := ih k
      rw [e1]
      simp only [List.flatMap_cons, List.cons_append, List.nil_append, List.getElem?_cons_succ]
      exact this
theorem nameCells_at (k : Nat) (h : k < 51) : nameCells[k * 2]? = some (.int .i64 (nameNums.getD k 0)) ∧ nameCells[k * 2 + 1]? = some (.int .i64 (nameNums.getD k 0)) := by
  have hl : k < nameNums.length := h
  have hp := pairs_at nameNums k
  unfold nameCells
  simp only [List.getElem?_toArray]
  rw [hp.1, hp.2, List.getElem?_eq_getElem hl]
  simp [List.getD, hl]

set_option maxRecDepth 100000 in
theorem namesNumbers_walk (w : World) (ht : Tabs w) : Calls Tryd.prog 3 #[] w fun e w' => e = .returned (.bool true) ∧ Below w.heap.size w w' := by
  have HT := Lib.hid ht; clear ht
  go_enter Tryd.func3, Tryd.ntmps3
  go_wp2_with fail
  refine (all_any _).mono ?_
  rintro e w' ⟨rfl, rfl⟩
  go_wp2_with fail
  go_loopw [2] (fun i wr => ∃ k n : Nat, k ≤ 51 ∧ i = .int .i64 k ∧ wr = (w.alloc (.cells nameCells 25)).drewN n) (fun i _ => 51 - (intOf i).toNat)
  case atStart => exact ⟨0, 0, by omega, rfl, rfl⟩
  case round =>
    obtain ⟨k, n, hk, rfl, rfl⟩ := hrel
    by_cases hlt : k < 51
    · have hc1 := (nameCells_at k hlt).1
      have hc2 := (nameCells_at k hlt).2
      go_wp2_with fail
      go_quiet (fail)
      go_wp2_with fail
      exact ⟨⟨k + 1, _, by omega, by go_num, rfl⟩, by simp [intOf]; omega⟩
    · obtain rfl : k = 51 := by omega
      have HW : Hid (Below w.heap.size w ((w.alloc (.cells nameCells 25)).drewN n)) := below_drewN ((Below.refl _ _).alloc (Nat.le_refl _) _) n
      have HT0 := Lib.hid (HT.out.below HW.out)
      go_wp2_with fail
      refine (errno_any _ _ (by decide) (by decide) HT0.out).mono ?_
      rintro e w1 ⟨rfl, hb1⟩
      rw [itoa_60]
      have HT1 := Lib.hid (HT0.out.below hb1)
      go_wp2_with fail
      refine (errno_any _ _ (by decide) (by decide) HT1.out).mono ?_
      rintro e w2 ⟨rfl, hb2⟩
      rw [itoa_0]
      go_wp2_with fail
      go_ret
      exact ⟨rfl, below_trans (below_trans HW.out hb1) hb2⟩
end Go.Proofs.YtbmbfjbjjnmmeaaDoor
