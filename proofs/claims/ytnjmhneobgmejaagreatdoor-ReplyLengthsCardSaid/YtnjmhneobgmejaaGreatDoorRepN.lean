/- The walk of package reply's numbers. Conditions: the library's tables are as they are laid; the words are of at most 2^32 bytes. -/
import Derived.Test.YtnjmhneobgmejaaGreatDoorRepM
namespace Go.Proofs.YtnjmhneobgmejaaGreatDoor
open Go.RowKit

def isNum (w : List UInt8) : Bool := (RqF.numP w).isSome
theorem all_take_succ {P : List UInt8 → Bool} {r : List (List UInt8)} {i : Nat} (h : i < r.length) : (r.take (i + 1)).all P = ((r.take i).all P && P r[i]) := by
  rw [List.take_succ_eq_append_getElem h, List.all_append]; simp
theorem number_is (x : List UInt8) (w : World) (hs : x.length ≤ 281474976710656) (ht : TabsP w) :
    Calls Tryz.prog 43 #[.string ⟨x.toArray⟩] w fun e w' => ∃ n : Int, e = .returned (.tuple #[.int .i64 n, .bool (isNum x)]) ∧ Below w.heap.size w w' :=
  (rnumber_any ⟨x.toArray⟩ w (by rw [size_word]; exact hs) ht).mono fun e w' ⟨⟨n, he, _⟩, hb⟩ => ⟨n, by simpa [isNum] using he, hb⟩
/-- The first word's number, and whether it is one. -/
def headOk (x : List UInt8) (n : Int) (b : Bool) : Prop := b = isNum x ∧ ∀ v, RqF.numP x = some v → n = v
theorem number_head (x : List UInt8) (w : World) (hs : x.length ≤ 281474976710656) (ht : TabsP w) :
    Calls Tryz.prog 43 #[.string ⟨x.toArray⟩] w fun e w' => ∃ (n : Int) (b : Bool), e = .returned (.tuple #[.int .i64 n, .bool b]) ∧ headOk x n b ∧ Below w.heap.size w w' :=
  (rnumber_any ⟨x.toArray⟩ w (by rw [size_word]; exact hs) ht).mono fun e w' ⟨⟨n, he, hv⟩, hb⟩ => ⟨n, isNum x, by simpa [isNum] using he, ⟨rfl, by simpa using hv⟩, hb⟩
theorem numbers_val {x : List UInt8} {r : List (List UInt8)} {n : Int} {b : Bool} (h : headOk x n b) {B : Bool} (hB : B = (b && r.all isNum)) {m : Nat} (hm : r.length = m) :
    RqF.numbersR (x :: r) = (B && decide (n = (m : Int))) := by
  obtain ⟨h1, h2⟩ := h
  subst hB; subst h1; subst hm
  show (r.all isNum && decide (RqF.numP x = some r.length)) = _
  generalize r.all isNum = q
  unfold isNum
  cases hx : RqF.numP x with
  | none => simp
  | some v =>
    have := h2 v hx
    subst this
    cases q
    · simp
    · simp; omega
def NumsInv (r : List (List UInt8)) (b : Bool) (w : World) (ok iv : Value) (wr : World) : Prop :=
  ∃ (i : Nat) (B : Bool), iv = .int .i64 i ∧ i ≤ r.length ∧ ok = .bool B ∧ B = (b && (r.take i).all isNum) ∧ Below w.heap.size w wr

set_option maxRecDepth 100000 in
set_option maxHeartbeats 2000000 in
theorem numbers_any (g : Nat) (x0 x : List UInt8) (r : List (List UInt8)) (w : World) (ht : TabsM w) (hw : WordsAt g (x0 :: x :: r) w) (hz1 : r.length + 2 ≤ 4294967296) (hz2 : ∀ y ∈ x :: r, y.length ≤ 4294967296) :
    Calls Tryz.prog 45 #[.slice (some ⟨g, 1, none⟩) (r.length + 1) (r.length + 1)] w fun e w' => e = .returned (.bool (RqF.numbersR (x :: r))) ∧ Below w.heap.size w w' := by
  have hg := lt_of_block hw
  have hx := hz2 x (by simp)
  have c1 : w.cell? ⟨g, 1, none⟩ = some (.string ⟨x.toArray⟩) := words_cell hw 1 (by simp)
  have HC : Hid (∀ (i : Nat) (h : i < r.length), w.cell? ⟨g, 2 + i, none⟩ = some (.string ⟨(r[i]).toArray⟩)) := by
    intro i h
    have := words_cell hw (2 + i) (by simp; omega)
    simpa [show 2 + i = i + 1 + 1 from by omega] using this
  have HZ := Lib.hid hz2
  have HT := Lib.hid ht
  clear hw hz2 ht
  obtain ⟨m, hm⟩ : ∃ m, m = r.length := ⟨_, rfl⟩
  have HM := Lib.hid hm
  rw [← hm] at hz1 ⊢
  clear hm
  by_cases h0 : m = 0
  · subst h0
    go_enter Tryz.func45, Tryz.ntmps45
    go_wp2_with fail
    refine (number_head x _ (by omega) HT.out.toTabsP).mono ?_
    rintro e w1 ⟨n, b, rfl, hh, hb⟩
    have HB := Lib.hid hb; have HH := Lib.hid hh
    clear hb hh
    go_wp2_with fail
    refine wp_loop_rounds 1 ?_
    rw [rounds_succ]
    cases b
    · go_wp2_with fail
      go_ret
      refine ⟨?_, HB.out⟩
      rw [numbers_val HH.out rfl HM.out.symm]; rfl
    · by_cases hn : n = 0
      · subst hn
        go_wp2_with fail
        go_ret
        refine ⟨?_, HB.out⟩
        rw [numbers_val HH.out rfl HM.out.symm]
        have : r = [] := List.length_eq_zero_iff.1 HM.out.symm
        subst this; rfl
      · have hd : (n == 0) = false := by rw [beq_eq_false_iff_ne]; exact hn
        go_wp2_with fail
        go_ret
        refine ⟨?_, HB.out⟩
        rw [numbers_val HH.out rfl HM.out.symm]
        simp [hn]
  · go_enter Tryz.func45, Tryz.ntmps45
    go_wp2_with fail
    refine (number_head x _ (by omega) HT.out.toTabsP).mono ?_
    rintro e w1 ⟨n, b, rfl, hh, hb⟩
    have HB := Lib.hid hb; have HH := Lib.hid hh
    clear hb hh
    go_wp2_with fail
    go_loopw [4, 22] (fun ok iv wr => NumsInv r b w ok iv wr) (fun _ iv _ => m - (intOf iv).toNat)
    case atStart => exact ⟨0, b, rfl, by omega, rfl, by simp, HB.out⟩
    case round =>
      obtain ⟨i, B, rfl, hi, rfl, hB, hbr⟩ := hrel
      have HBB := Lib.hid hB; have HBR := Lib.hid hbr
      rw [← HM.out] at hi
      clear hB hbr
      by_cases hlt : i < m
      · have hir : i < r.length := by rw [← HM.out]; exact hlt
        have ci : wr.cell? ⟨g, 2 + i, none⟩ = some (.string ⟨(r[i]).toArray⟩) := cell_later HBR.out (HC.out i hir)
        obtain ⟨y, hy⟩ : ∃ y, y = r[i] := ⟨_, rfl⟩
        rw [← hy] at ci
        have hyl : y.length ≤ 4294967296 := by rw [hy]; exact HZ.out _ (by simp)
        have HY := Lib.hid hy; clear hy
        go_wp2_with fail
        refine (number_is y _ (by omega) (HT.out.below HBR.out).toTabsP).mono ?_
        rintro e w2 ⟨n2, rfl, hb2⟩
        have HB2 := Lib.hid (below_trans HBR.out hb2); clear hb2
        obtain ⟨q, hq⟩ : ∃ q, q = isNum y := ⟨_, rfl⟩
        rw [← hq]
        have HQ := Lib.hid hq; clear hq
        cases B <;> cases q
        all_goals
          go_wp2_with fail
          go_roundw
          case measure => simp [intOf]; omega
          case rel => exact ⟨i + 1, _, by go_num, by rw [← HM.out]; omega, rfl, by rw [all_take_succ hir, ← Bool.and_assoc, ← HBB.out, ← HY.out, ← HQ.out]; rfl, HB2.out⟩
      · obtain rfl : i = m := by omega
        have hB2 : B = (b && r.all isNum) := by rw [HBB.out, List.take_of_length_le (by rw [← HM.out]; exact Nat.le_refl _)]
        have HV := Lib.hid (numbers_val HH.out hB2 HM.out.symm)
        clear hB2
        cases B
        · go_wp2_with fail
          go_ret
          exact ⟨by rw [HV.out]; rfl, HBR.out⟩
        · by_cases hn : n = (i : Int)
          · subst hn
            go_wp2_with fail
            go_ret
            refine ⟨?_, HBR.out⟩
            rw [HV.out]; simp
          · have hd : (n == (i : Int)) = false := by rw [beq_eq_false_iff_ne]; exact hn
            go_wp2_with fail
            go_ret
            refine ⟨?_, HBR.out⟩
            rw [HV.out]; simp [hn]
theorem numbers_nil (o : Option Addr) (c : Nat) (w : World) :
    Calls Tryz.prog 45 #[.slice o 0 c] w fun e w' => e = .returned (.bool false) ∧ w = w' := by
  go_enter Tryz.func45, Tryz.ntmps45
  go_wp2_with fail
  go_ret
  exact ⟨rfl, rfl⟩
end Go.Proofs.YtnjmhneobgmejaaGreatDoor
