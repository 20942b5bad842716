/- The walk of NumEdges. Condition: the library's tables are as they are laid. -/
import Derived.Test.YtbmbfjbjjnmmeaaDoorLawNum
import Derived.Test.YtbmbfjbjjnmmeaaDoorLawSums
import Derived.Deep.QuietTactic
import Derived.BigQuiet
namespace Go.Proofs.YtbmbfjbjjnmmeaaDoor
open Go.RowKit

def edges : List Nat := [18442240474082181120, 18442240474082181119, 9223372036854775809, 9223372036854775808, 0, 1, 9218868437227405311, 9218868437227405312, 9221120237041090560]
def edge (k : Nat) : Nat := edges.getD k 0
def edgeCells : Array Value := (edges.map fun n : Nat => Value.int .u64 (n : Int)).toArray
theorem edgeCells_eq : edgeCells = #[.int .u64 18442240474082181120, .int .u64 18442240474082181119, .int .u64 9223372036854775809, .int .u64 9223372036854775808, .int .u64 0, .int .u64 1, .int .u64 9218868437227405311, .int .u64 9218868437227405312, .int .u64 9221120237041090560] := by kernel_rfl
theorem edgeCells_at (k : Nat) (h : k < 9) : edgeCells[k]? = some (.int .u64 (edge k : Int)) := by
  have hl : k < edges.length := h
  unfold edgeCells edge
  simp [hl, List.getD]
theorem edge_lt (k : Nat) : edge k < 2 * RqF.sgn := by
  by_cases h : k < 9
  · have key : ∀ k : Fin 9, edge k.val < 2 * RqF.sgn := by decide +kernel
    exact key ⟨k, h⟩
  · unfold edge
    have hl : edges.length ≤ k := by show 9 ≤ k; omega
    simp only [List.getD, List.getElem?_eq_none hl, Option.getD_none]; decide +kernel
theorem edge_code {p q : Nat} (hp : p < 9) (hq : q < 9) (h : p < q) : RqF.code (edge p) < RqF.code (edge q) := by
  have key : ∀ p q : Fin 9, p.val < q.val → RqF.code (edge p.val) < RqF.code (edge q.val) := by decide +kernel
  exact key ⟨p, hp⟩ ⟨q, hq⟩ h
theorem edge_first {y : Nat} (h : y < 2 * RqF.sgn) : RqF.code (edge 0) ≤ RqF.code y := by
  have e : RqF.code (edge 0) = 4503599627370495 := by decide +kernel
  rw [e, RqF.code_top h]
  unfold RqF.sgn RqF.infW at *
  split
  · omega
  · split <;> omega

/-- How many of the edges are not above a number. -/
theorem edge_count (y : Nat) (hy : y < 2 * RqF.sgn) : ∃ N, 1 ≤ N ∧ N ≤ 9 ∧ ∀ k, k < 9 → (cmpF (edge k) y ≤ 0 ↔ k < N) := by
  have step : ∀ m, m ≤ 9 → (∀ k, k < m → RqF.code (edge k) ≤ RqF.code y) → (∃ N, m ≤ N ∧ N ≤ 9 ∧ ∀ k, k < 9 → (RqF.code (edge k) ≤ RqF.code y ↔ k < N)) := by
    intro m hm
    generalize hd : 9 - m = d
    induction d generalizing m with
    | zero =>
      intro h
      exact ⟨9, hm, by omega, fun k hk => ⟨fun _ => hk, fun _ => h k (by omega)⟩⟩
    | succ d ih =>
      intro h
      by_cases hc : RqF.code (edge m) ≤ RqF.code y
      · obtain ⟨N, h1, h2, h3⟩ := ih (m + 1) (by omega) (by omega) (fun k hk => by
          by_cases e : k = m
          · subst e; exact hc
          · exact h k (by omega))
        exact ⟨N, by omega, h2, h3⟩
      · refine ⟨m, Nat.le_refl _, hm, fun k hk => ⟨fun hk2 => ?_, fun hk2 => h k hk2⟩⟩
        by_cases e : k < m
        · exact e
        · exfalso
          by_cases e2 : k = m
          · subst e2; exact hc hk2
          · have := edge_code (p := m) (q := k) (by omega) hk (by omega)
            omega
  obtain ⟨N, h1, h2, h3⟩ := step 1 (by omega) (fun k hk => by
    have : k = 0 := by omega
    subst this; exact edge_first hy)
  refine ⟨N, h1, h2, fun k hk => ?_⟩
  rw [← h3 k hk]
  unfold cmpF cmpI
  constructor
  · intro h; split at h
    · omega
    · split at h <;> omega
  · intro h; split
    · omega
    · split <;> omega

theorem and_ffff (i : Int) : ∃ m : Nat, m ≤ 65535 ∧ bits BinOp.and IntKind.i64 i 65535 = (m : Int) := by
  refine ⟨(BitVec.ofInt 64 i &&& BitVec.ofInt 64 65535).toNat, ?_, ?_⟩
  · rw [BitVec.toNat_and]
    exact Nat.le_trans Nat.and_le_right (by decide)
  · have h : (BitVec.ofInt 64 i &&& BitVec.ofInt 64 65535).toNat ≤ 65535 := by
      rw [BitVec.toNat_and]
      exact Nat.le_trans Nat.and_le_right (by decide)
    show IntKind.i64.wrap ((BitVec.ofInt 64 i &&& BitVec.ofInt 64 65535).toNat : Int) = _
    generalize (BitVec.ofInt 64 i &&& BitVec.ofInt 64 65535).toNat = m at *
    simp [IntKind.wrap, IntKind.bits, IntKind.signed]
    omega

set_option maxRecDepth 100000 in
set_option maxHeartbeats 1000000 in
theorem numEdges_lt (i j : Int) (y m1 m2 p q : Nat) (w : World) (ht : Tabs w) (hy : y < 2 * RqF.sgn) (h1 : bits BinOp.and IntKind.i64 i 65535 = (m1 : Int)) (h2 : bits BinOp.and IntKind.i64 j 65535 = (m2 : Int))
    (hp : (m1 : Int) % 9 = (p : Int)) (hq : (m2 : Int) % 9 = (q : Int)) (hp9 : p < 9) (hq9 : q < 9) (hpq : p < q) :
    Calls Tryd.prog 4 #[.int .i64 i, .int .i64 j, .int .u64 y] w fun e w' => e = .returned (.bool true) ∧ Below w.heap.size w w' := by
  obtain ⟨N, hN1, hN2, HN⟩ := edge_count y hy
  have HNN := Lib.hid HN; clear HN
  have HT := Lib.hid ht; clear ht
  have HY := Lib.hid hy; clear hy
  have hc1 := edgeCells_at p hp9
  have hc2 := edgeCells_at q hq9
  have HC : Hid (cmpF (edge p) (edge q) = -1) := (cmpF_lt (edge_code hp9 hq9 hpq)).1
  have hd1 : decide ((p : Int) < (q : Int)) = true := by simp; omega
  have hd2 : decide ((q : Int) < (p : Int)) = false := by simp; omega
  have hd3 : decide (p < q) = true := by simp; omega
  have hd4 : decide (q < p) = false := by simp; omega
  go_enter Tryd.func4, Tryd.ntmps4
  go_wp2_with fail
  rw [← edgeCells_eq, hp, hq]
  clear hp hq h1 h2
  go_quiet (fail)
  go_wp2_with fail
  refine (cmp_any _ _ _ (edge_lt p) (edge_lt q)).mono ?_
  rintro e w' ⟨rfl, rfl⟩
  rw [HC.out]
  go_wp2_with fail
  go_loop [12, 13] (fun n k => ∃ c : Nat, c ≤ 9 ∧ k = .int .i64 c ∧ n = .int .i64 (min c N : Nat)) (fun _ k => 9 - (intOf k).toNat)
  case atStart => exact ⟨0, by omega, rfl, by simp⟩
  case round =>
    obtain ⟨c, hc9, rfl, rfl⟩ := hrel
    by_cases hlt : c < 9
    · have hcc := edgeCells_at c hlt
      have hmn : min c N ≤ 9 := by omega
      obtain ⟨mn, hmn2⟩ : ∃ mn, mn = min c N := ⟨_, rfl⟩
      rw [← hmn2] at hmn ⊢
      have HM := Lib.hid hmn2; clear hmn2
      by_cases hle : cmpF (edge c) y ≤ 0
      · have hcN := (HNN.out c hlt).1 hle
        go_wp2_with fail
        refine (cmp_any _ _ _ (edge_lt c) HY.out).mono ?_
        rintro e w' ⟨rfl, rfl⟩
        go_wp2_with fail
        exact ⟨⟨c + 1, by omega, by go_num, by have := HM.out; congr 1; omega⟩, by simp [intOf]; omega⟩
      · have hcN : ¬ c < N := fun h => hle ((HNN.out c hlt).2 h)
        go_wp2_with fail
        refine (cmp_any _ _ _ (edge_lt c) HY.out).mono ?_
        rintro e w' ⟨rfl, rfl⟩
        go_wp2_with fail
        exact ⟨⟨c + 1, by omega, by go_num, by have := HM.out; congr 1; omega⟩, by simp [intOf]; omega⟩
    · obtain rfl : c = 9 := by omega
      have hmn : min 9 N = N := by omega
      rw [hmn]
      clear hmn
      go_wp2_with fail
      go_loop [14] (fun k => ∃ c : Nat, c ≤ N ∧ k = .int .i64 c) (fun k => N - (intOf k).toNat)
      case atStart => exact ⟨0, by omega, rfl⟩
      case round =>
        obtain ⟨c, hcN, rfl⟩ := hrel
        by_cases hlt : c < N
        · have hcc := edgeCells_at c (by omega)
          have hle := (HNN.out c (by omega)).2 hlt
          go_wp2_with fail
          refine (cmp_any _ _ _ (edge_lt c) HY.out).mono ?_
          rintro e w' ⟨rfl, rfl⟩
          go_wp2_with fail
          exact ⟨⟨c + 1, by omega, by go_num⟩, by simp [intOf]; omega⟩
        · obtain rfl : c = N := by omega
          have HW : Hid (Below w.heap.size w ((w.alloc (.cells edgeCells 29)).drewN nq)) := below_drewN ((Below.refl _ _).alloc (Nat.le_refl _) _) nq
          have HT0 := Lib.hid (HT.out.below HW.out)
          have hg1 : RqF.code 18442240474082181120 ≤ RqF.code y := edge_first HY.out
          have hg2 : RqF.code y ≤ RqF.code 9221120237041090561 := by
            have e : RqF.code 9221120237041090561 = 18446744073709551615 := by decide +kernel
            have := RqF.code_lt HY.out
            rw [e]; omega
          have HG1 := Lib.hid hg1; have HG2 := Lib.hid hg2; clear hg1 hg2
          go_wp2_with fail
          refine (code_any _ _ HY.out).mono ?_
          rintro e w' ⟨rfl, rfl⟩
          go_wp2_with fail
          refine (inf_neg (-1) _ (by decide)).mono ?_
          rintro e w' ⟨rfl, rfl⟩
          go_wp2_with fail
          refine (code_any _ _ (edge_lt 0)).mono ?_
          rintro e w' ⟨rfl, rfl⟩
          have hg1 : RqF.code (edge 0) ≤ RqF.code y := HG1.out
          go_wp2_with fail
          refine (code_any _ _ HY.out).mono ?_
          rintro e w' ⟨rfl, rfl⟩
          go_wp2_with fail
          refine (nanF_any _).mono ?_
          rintro e w' ⟨rfl, rfl⟩
          go_wp2_with fail
          refine (code_any _ _ small_4).mono ?_
          rintro e w' ⟨rfl, rfl⟩
          have hg2 : RqF.code y ≤ RqF.code 9221120237041090561 := HG2.out
          go_wp2_with fail
          refine (awake3_any _ HT0.out).mono ?_
          rintro e w1 ⟨rfl, hb⟩
          go_wp2_with fail
          go_ret
          exact ⟨rfl, below_trans HW.out hb⟩
set_option maxRecDepth 100000 in
set_option maxHeartbeats 1000000 in
theorem numEdges_eq (i j : Int) (y m1 m2 p q : Nat) (w : World) (ht : Tabs w) (hy : y < 2 * RqF.sgn) (h1 : bits BinOp.and IntKind.i64 i 65535 = (m1 : Int)) (h2 : bits BinOp.and IntKind.i64 j 65535 = (m2 : Int))
    (hp : (m1 : Int) % 9 = (p : Int)) (hq : (m2 : Int) % 9 = (q : Int)) (hp9 : p < 9) (hq9 : q < 9) (hpq : p = q) :
    Calls Tryd.prog 4 #[.int .i64 i, .int .i64 j, .int .u64 y] w fun e w' => e = .returned (.bool true) ∧ Below w.heap.size w w' := by
  obtain ⟨N, hN1, hN2, HN⟩ := edge_count y hy
  have HNN := Lib.hid HN; clear HN
  have HT := Lib.hid ht; clear ht
  have HY := Lib.hid hy; clear hy
  have hc1 := edgeCells_at p hp9
  have hc2 := edgeCells_at q hq9
  have HC : Hid (cmpF (edge p) (edge q) = 0) := by rw [hpq]; exact (cmpF_eq rfl).1
  have hd1 : decide ((p : Int) < (q : Int)) = false := by simp; omega
  have hd2 : decide ((q : Int) < (p : Int)) = false := by simp; omega
  have hd3 : decide (p < q) = false := by simp; omega
  have hd4 : decide (q < p) = false := by simp; omega
  have HPQ := Lib.hid hpq; clear hpq
  go_enter Tryd.func4, Tryd.ntmps4
  go_wp2_with fail
  rw [← edgeCells_eq, hp, hq]
  clear hp hq h1 h2
  go_quiet (fail)
  go_wp2_with fail
  refine (cmp_any _ _ _ (edge_lt p) (edge_lt q)).mono ?_
  rintro e w' ⟨rfl, rfl⟩
  rw [HC.out]
  go_wp2_with fail
  go_loop [12, 13] (fun n k => ∃ c : Nat, c ≤ 9 ∧ k = .int .i64 c ∧ n = .int .i64 (min c N : Nat)) (fun _ k => 9 - (intOf k).toNat)
  case atStart => exact ⟨0, by omega, rfl, by simp⟩
  case round =>
    obtain ⟨c, hc9, rfl, rfl⟩ := hrel
    by_cases hlt : c < 9
    · have hcc := edgeCells_at c hlt
      have hmn : min c N ≤ 9 := by omega
      obtain ⟨mn, hmn2⟩ : ∃ mn, mn = min c N := ⟨_, rfl⟩
      rw [← hmn2] at hmn ⊢
      have HM := Lib.hid hmn2; clear hmn2
      by_cases hle : cmpF (edge c) y ≤ 0
      · have hcN := (HNN.out c hlt).1 hle
        go_wp2_with fail
        refine (cmp_any _ _ _ (edge_lt c) HY.out).mono ?_
        rintro e w' ⟨rfl, rfl⟩
        go_wp2_with fail
        exact ⟨⟨c + 1, by omega, by go_num, by have := HM.out; congr 1; omega⟩, by simp [intOf]; omega⟩
      · have hcN : ¬ c < N := fun h => hle ((HNN.out c hlt).2 h)
        go_wp2_with fail
        refine (cmp_any _ _ _ (edge_lt c) HY.out).mono ?_
        rintro e w' ⟨rfl, rfl⟩
        go_wp2_with fail
        exact ⟨⟨c + 1, by omega, by go_num, by have := HM.out; congr 1; omega⟩, by simp [intOf]; omega⟩
    · obtain rfl : c = 9 := by omega
      have hmn : min 9 N = N := by omega
      rw [hmn]
      clear hmn
      go_wp2_with fail
      go_loop [14] (fun k => ∃ c : Nat, c ≤ N ∧ k = .int .i64 c) (fun k => N - (intOf k).toNat)
      case atStart => exact ⟨0, by omega, rfl⟩
      case round =>
        obtain ⟨c, hcN, rfl⟩ := hrel
        by_cases hlt : c < N
        · have hcc := edgeCells_at c (by omega)
          have hle := (HNN.out c (by omega)).2 hlt
          go_wp2_with fail
          refine (cmp_any _ _ _ (edge_lt c) HY.out).mono ?_
          rintro e w' ⟨rfl, rfl⟩
          go_wp2_with fail
          exact ⟨⟨c + 1, by omega, by go_num⟩, by simp [intOf]; omega⟩
        · obtain rfl : c = N := by omega
          have HW : Hid (Below w.heap.size w ((w.alloc (.cells edgeCells 29)).drewN nq)) := below_drewN ((Below.refl _ _).alloc (Nat.le_refl _) _) nq
          have HT0 := Lib.hid (HT.out.below HW.out)
          have hg1 : RqF.code 18442240474082181120 ≤ RqF.code y := edge_first HY.out
          have hg2 : RqF.code y ≤ RqF.code 9221120237041090561 := by
            have e : RqF.code 9221120237041090561 = 18446744073709551615 := by decide +kernel
            have := RqF.code_lt HY.out
            rw [e]; omega
          have HG1 := Lib.hid hg1; have HG2 := Lib.hid hg2; clear hg1 hg2
          go_wp2_with fail
          refine (code_any _ _ HY.out).mono ?_
          rintro e w' ⟨rfl, rfl⟩
          go_wp2_with fail
          refine (inf_neg (-1) _ (by decide)).mono ?_
          rintro e w' ⟨rfl, rfl⟩
          go_wp2_with fail
          refine (code_any _ _ (edge_lt 0)).mono ?_
          rintro e w' ⟨rfl, rfl⟩
          have hg1 : RqF.code (edge 0) ≤ RqF.code y := HG1.out
          go_wp2_with fail
          refine (code_any _ _ HY.out).mono ?_
          rintro e w' ⟨rfl, rfl⟩
          go_wp2_with fail
          refine (nanF_any _).mono ?_
          rintro e w' ⟨rfl, rfl⟩
          go_wp2_with fail
          refine (code_any _ _ small_4).mono ?_
          rintro e w' ⟨rfl, rfl⟩
          have hg2 : RqF.code y ≤ RqF.code 9221120237041090561 := HG2.out
          go_wp2_with fail
          refine (awake3_any _ HT0.out).mono ?_
          rintro e w1 ⟨rfl, hb⟩
          go_wp2_with fail
          go_ret
          exact ⟨rfl, below_trans HW.out hb⟩
set_option maxRecDepth 100000 in
set_option maxHeartbeats 1000000 in
theorem numEdges_gt (i j : Int) (y m1 m2 p q : Nat) (w : World) (ht : Tabs w) (hy : y < 2 * RqF.sgn) (h1 : bits BinOp.and IntKind.i64 i 65535 = (m1 : Int)) (h2 : bits BinOp.and IntKind.i64 j 65535 = (m2 : Int))
    (hp : (m1 : Int) % 9 = (p : Int)) (hq : (m2 : Int) % 9 = (q : Int)) (hp9 : p < 9) (hq9 : q < 9) (hpq : q < p) :
    Calls Tryd.prog 4 #[.int .i64 i, .int .i64 j, .int .u64 y] w fun e w' => e = .returned (.bool true) ∧ Below w.heap.size w w' := by
  obtain ⟨N, hN1, hN2, HN⟩ := edge_count y hy
  have HNN := Lib.hid HN; clear HN
  have HT := Lib.hid ht; clear ht
  have HY := Lib.hid hy; clear hy
  have hc1 := edgeCells_at p hp9
  have hc2 := edgeCells_at q hq9
  have HC : Hid (cmpF (edge p) (edge q) = 1) := (cmpF_lt (edge_code hq9 hp9 hpq)).2
  have hd1 : decide ((p : Int) < (q : Int)) = false := by simp; omega
  have hd2 : decide ((q : Int) < (p : Int)) = true := by simp; omega
  have hd3 : decide (p < q) = false := by simp; omega
  have hd4 : decide (q < p) = true := by simp; omega
  go_enter Tryd.func4, Tryd.ntmps4
  go_wp2_with fail
  rw [← edgeCells_eq, hp, hq]
  clear hp hq h1 h2
  go_quiet (fail)
  go_wp2_with fail
  refine (cmp_any _ _ _ (edge_lt p) (edge_lt q)).mono ?_
  rintro e w' ⟨rfl, rfl⟩
  rw [HC.out]
  go_wp2_with fail
  go_loop [12, 13] (fun n k => ∃ c : Nat, c ≤ 9 ∧ k = .int .i64 c ∧ n = .int .i64 (min c N : Nat)) (fun _ k => 9 - (intOf k).toNat)
  case atStart => exact ⟨0, by omega, rfl, by simp⟩
  case round =>
    obtain ⟨c, hc9, rfl, rfl⟩ := hrel
    by_cases hlt : c < 9
    · have hcc := edgeCells_at c hlt
      have hmn : min c N ≤ 9 := by omega
      obtain ⟨mn, hmn2⟩ : ∃ mn, mn = min c N := ⟨_, rfl⟩
      rw [← hmn2] at hmn ⊢
      have HM := Lib.hid hmn2; clear hmn2
      by_cases hle : cmpF (edge c) y ≤ 0
      · have hcN := (HNN.out c hlt).1 hle
        go_wp2_with fail
        refine (cmp_any _ _ _ (edge_lt c) HY.out).mono ?_
        rintro e w' ⟨rfl, rfl⟩
        go_wp2_with fail
        exact ⟨⟨c + 1, by omega, by go_num, by have := HM.out; congr 1; omega⟩, by simp [intOf]; omega⟩
      · have hcN : ¬ c < N := fun h => hle ((HNN.out c hlt).2 h)
        go_wp2_with fail
        refine (cmp_any _ _ _ (edge_lt c) HY.out).mono ?_
        rintro e w' ⟨rfl, rfl⟩
        go_wp2_with fail
        exact ⟨⟨c + 1, by omega, by go_num, by have := HM.out; congr 1; omega⟩, by simp [intOf]; omega⟩
    · obtain rfl : c = 9 := by omega
      have hmn : min 9 N = N := by omega
      rw [hmn]
      clear hmn
      go_wp2_with fail
      go_loop [14] (fun k => ∃ c : Nat, c ≤ N ∧ k = .int .i64 c) (fun k => N - (intOf k).toNat)
      case atStart => exact ⟨0, by omega, rfl⟩
      case round =>
        obtain ⟨c, hcN, rfl⟩ := hrel
        by_cases hlt : c < N
        · have hcc := edgeCells_at c (by omega)
          have hle := (HNN.out c (by omega)).2 hlt
          go_wp2_with fail
          refine (cmp_any _ _ _ (edge_lt c) HY.out).mono ?_
          rintro e w' ⟨rfl, rfl⟩
          go_wp2_with fail
          exact ⟨⟨c + 1, by omega, by go_num⟩, by simp [intOf]; omega⟩
        · obtain rfl : c = N := by omega
          have HW : Hid (Below w.heap.size w ((w.alloc (.cells edgeCells 29)).drewN nq)) := below_drewN ((Below.refl _ _).alloc (Nat.le_refl _) _) nq
          have HT0 := Lib.hid (HT.out.below HW.out)
          have hg1 : RqF.code 18442240474082181120 ≤ RqF.code y := edge_first HY.out
          have hg2 : RqF.code y ≤ RqF.code 9221120237041090561 := by
            have e : RqF.code 9221120237041090561 = 18446744073709551615 := by decide +kernel
            have := RqF.code_lt HY.out
            rw [e]; omega
          have HG1 := Lib.hid hg1; have HG2 := Lib.hid hg2; clear hg1 hg2
          go_wp2_with fail
          refine (code_any _ _ HY.out).mono ?_
          rintro e w' ⟨rfl, rfl⟩
          go_wp2_with fail
          refine (inf_neg (-1) _ (by decide)).mono ?_
          rintro e w' ⟨rfl, rfl⟩
          go_wp2_with fail
          refine (code_any _ _ (edge_lt 0)).mono ?_
          rintro e w' ⟨rfl, rfl⟩
          have hg1 : RqF.code (edge 0) ≤ RqF.code y := HG1.out
          go_wp2_with fail
          refine (code_any _ _ HY.out).mono ?_
          rintro e w' ⟨rfl, rfl⟩
          go_wp2_with fail
          refine (nanF_any _).mono ?_
          rintro e w' ⟨rfl, rfl⟩
          go_wp2_with fail
          refine (code_any _ _ small_4).mono ?_
          rintro e w' ⟨rfl, rfl⟩
          have hg2 : RqF.code y ≤ RqF.code 9221120237041090561 := HG2.out
          go_wp2_with fail
          refine (awake3_any _ HT0.out).mono ?_
          rintro e w1 ⟨rfl, hb⟩
          go_wp2_with fail
          go_ret
          exact ⟨rfl, below_trans HW.out hb⟩
theorem numEdges_walk (i j : Int) (y : Nat) (w : World) (ht : Tabs w) (_h1 : -9223372036854775808 ≤ i) (_h2 : i ≤ 9223372036854775807) (_h3 : -9223372036854775808 ≤ j) (_h4 : j ≤ 9223372036854775807) (hy : y < 2 * RqF.sgn) :
    Calls Tryd.prog 4 #[.int .i64 i, .int .i64 j, .int .u64 y] w fun e w' => e = .returned (.bool true) ∧ Below w.heap.size w w' := by
  obtain ⟨m1, _, h1⟩ := and_ffff i
  obtain ⟨m2, _, h2⟩ := and_ffff j
  rcases Nat.lt_trichotomy (m1 % 9) (m2 % 9) with h | h | h
  · exact numEdges_lt i j y m1 m2 (m1 % 9) (m2 % 9) w ht hy h1 h2 (by omega) (by omega) (by omega) (by omega) h
  · exact numEdges_eq i j y m1 m2 (m1 % 9) (m2 % 9) w ht hy h1 h2 (by omega) (by omega) (by omega) (by omega) h
  · exact numEdges_gt i j y m1 m2 (m1 % 9) (m2 % 9) w ht hy h1 h2 (by omega) (by omega) (by omega) (by omega) h
end Go.Proofs.YtbmbfjbjjnmmeaaDoor
