/- The walk of NumSteps, and of math.Nextafter towards infinity. Condition: the library's tables are as they are laid. -/
import Derived.Test.YtbmbfjbjjnmmeaaDoorLawChains
namespace Go.Proofs.YtbmbfjbjjnmmeaaDoor
open Go.RowKit

/-- The next word above a number that is not infinity. -/
def nextF (a : Nat) : Nat := RqF.backF (RqF.code a + 1)

theorem next_facts {a : Nat} (ha : a < 2 * RqF.sgn) (hn : RqF.nan a = false) (hi : a ≠ RqF.infW) :
    RqF.code a + 1 < 2 * RqF.sgn ∧ RqF.nan (nextF a) = false ∧ RqF.code (nextF a) = RqF.code a + 1 ∧
    nextF a = (if a = RqF.sgn then 0 else if RqF.sgn ≤ a then a - 1 else a + 1) := by
  have hb : RqF.code a + 1 < 2 * RqF.sgn := by
    rw [RqF.nan_top ha] at hn
    simp only [decide_eq_false_iff_not] at hn
    rw [RqF.code_top ha, if_neg hn]
    unfold RqF.sgn RqF.infW at *
    split <;> omega
  have h4 : RqF.back (RqF.code a + 1) = (if a = RqF.sgn then 0 else if RqF.sgn ≤ a then a - 1 else a + 1) := by
    rw [RqF.back_top hb]
    rw [RqF.nan_top ha] at hn
    simp only [decide_eq_false_iff_not] at hn
    rw [RqF.code_top ha, if_neg hn]
    unfold RqF.sgn RqF.infW at *
    have k : (9223372036854775808 ≤ a) ∨ ¬ (9223372036854775808 ≤ a) := by omega
    rcases k with k | k <;> simp only [k, if_true, if_false]
    · by_cases e : a = 9223372036854775808
      · subst e; rfl
      · rw [if_neg (by omega), if_neg e]; omega
    · rw [if_pos (by omega), if_neg (by omega)]; omega
  have h2 : RqF.nan (RqF.back (RqF.code a + 1)) = false := by
    rw [h4]
    rw [RqF.nan_top ha] at hn
    simp only [decide_eq_false_iff_not] at hn
    have hl : (if a = RqF.sgn then 0 else if RqF.sgn ≤ a then a - 1 else a + 1) < 2 * RqF.sgn := by
      unfold RqF.sgn RqF.infW at *
      split
      · omega
      · split <;> omega
    rw [RqF.nan_top hl]
    simp only [decide_eq_false_iff_not]
    unfold RqF.sgn RqF.infW at *
    by_cases e : a = 9223372036854775808
    · rw [if_pos e]; omega
    · rw [if_neg e]; split <;> omega
  have h5 : nextF a = RqF.back (RqF.code a + 1) := by unfold nextF RqF.backF; rw [h2]; simp
  refine ⟨hb, by rw [h5]; exact h2, by rw [h5]; exact RqF.code_back hb h2, by rw [h5]; exact h4⟩

theorem next_lt {a : Nat} (ha : a < 2 * RqF.sgn) (hn : RqF.nan a = false) (hi : a ≠ RqF.infW) : nextF a < 2 * RqF.sgn := backF_lt (next_facts ha hn hi).1

theorem next_cmp {a : Nat} (ha : a < 2 * RqF.sgn) (hn : RqF.nan a = false) (hi : a ≠ RqF.infW) : cmpF a (nextF a) = -1 :=
  (cmpF_lt (by rw [(next_facts ha hn hi).2.2.1]; omega)).1

theorem wrap_next {a : Nat} (ha : a < 2 * RqF.sgn) (hn : RqF.nan a = false) (hi : a ≠ RqF.infW) : IntKind.u64.wrap ((RqF.code a : Int) + 1) = ((RqF.code a + 1 : Nat) : Int) := by
  have := (next_facts ha hn hi).1
  rw [IntKind.wrap_u64]
  unfold RqF.sgn at this
  omega

/-- Facts that Nextafter asks. -/
theorem na_ne {a : Nat} (ha : a < 2 * RqF.sgn) (hn : RqF.nan a = false) (hi : a ≠ RqF.infW) : (FloatKind.f64.format.order a RqF.infW == some .eq) = false := by
  have ni : RqF.nan RqF.infW = false := by decide +kernel
  have ki : RqF.skey RqF.infW = 9218868437227405312 := by decide +kernel
  have : Ieee.double.order a RqF.infW ≠ some .eq := by
    rw [RqF.order_eq hn ni, ki]
    intro e
    have := Int.compare_eq_eq.1 (Option.some.inj e)
    rw [RqF.skey_top ha] at this
    unfold RqF.sgn RqF.infW at *
    split at this <;> omega
  exact beq_eq_false_iff_ne.2 this
theorem na_gt {a : Nat} (ha : a < 2 * RqF.sgn) (hn : RqF.nan a = false) (hi : a ≠ RqF.infW) : (FloatKind.f64.format.order RqF.infW a == some .gt) = true := by
  have ni : RqF.nan RqF.infW = false := by decide +kernel
  have ki : RqF.skey RqF.infW = 9218868437227405312 := by decide +kernel
  have : Ieee.double.order RqF.infW a = some .gt := by
    rw [RqF.order_eq ni hn, ki, Int.compare_eq_gt.2]
    rw [RqF.nan_top ha] at hn
    simp only [decide_eq_false_iff_not] at hn
    rw [RqF.skey_top ha]
    unfold RqF.sgn RqF.infW at *
    split <;> omega
  exact beq_iff_eq.2 this
theorem na_zero {a : Nat} (ha : a < 2 * RqF.sgn) (hn : RqF.nan a = false) : (FloatKind.f64.format.order a 0 == some .eq) = decide (a = 0 ∨ a = RqF.sgn) := by
  have n0 : RqF.nan 0 = false := by decide
  have k0 : RqF.skey 0 = 0 := by decide
  have : (Ieee.double.order a 0 == some .eq) = decide (a = 0 ∨ a = RqF.sgn) := by
    rw [RqF.order_eq hn n0, k0, RqF.beq_eq_some, Bool.eq_iff_iff, decide_eq_true_eq, decide_eq_true_eq, Int.compare_eq_eq, RqF.skey_top ha]
    unfold RqF.sgn
    split <;> omega
  exact this
theorem na_pos {a : Nat} (ha : a < 2 * RqF.sgn) (hn : RqF.nan a = false) (h0 : a ≠ 0) : (FloatKind.f64.format.order a 0 == some .gt) = decide (a < RqF.sgn) := by
  have n0 : RqF.nan 0 = false := by decide
  have k0 : RqF.skey 0 = 0 := by decide
  have e : ∀ o : Ordering, ((some o == some Ordering.gt) : Bool) = decide (o = .gt) := fun o => by cases o <;> rfl
  have : (Ieee.double.order a 0 == some .gt) = decide (a < RqF.sgn) := by
    rw [RqF.order_eq hn n0, k0, e, Bool.eq_iff_iff, decide_eq_true_eq, decide_eq_true_eq, Int.compare_eq_gt, RqF.skey_top ha]
    unfold RqF.sgn
    split <;> omega
  exact this

set_option maxRecDepth 100000 in
set_option maxHeartbeats 400000 in
theorem nextafter_zero (a : Nat) (w : World) (ha : a < 2 * RqF.sgn) (hn : RqF.nan a = false) (hi : a ≠ RqF.infW) (hz : a = 0) : Calls Tryd.prog 31 #[.float .f64 a, .float .f64 RqF.infW] w fun e w' => e = .returned (.float .f64 (nextF a)) ∧ w = w' := by
  have ni : RqF.nan RqF.infW = false := by decide +kernel
  have h1 := na_ne ha hn hi
  have h2 := na_gt ha hn hi
  have h3 := na_zero ha hn
  have h4 : (FloatKind.f64.format.order a 0 == some .eq) = true := by rw [h3]; simp [hz]
  have HF := Lib.hid (show RqF.cps 1 RqF.infW = nextF a by rw [(next_facts ha hn hi).2.2.2, hz]; decide +kernel)
  have HS1 : Hid (1 < 2 * RqF.sgn) := by show 1 < 2 * RqF.sgn; decide +kernel
  have HS2 : Hid (RqF.infW < 2 * RqF.sgn) := small_5
  clear h3 hz ha hi h2
  go_enter Tryd.func31, Tryd.ntmps31
  go_wp2_with fail
  refine (isNaN_any _ _).mono ?_
  rintro e w' ⟨rfl, rfl⟩
  go_wp2_with fail
  refine (isNaN_any _ _).mono ?_
  rintro e w' ⟨rfl, rfl⟩
  go_wp2_with fail
  refine (copysign_any _ _ _ HS1.out HS2.out).mono ?_
  rintro e w' ⟨rfl, rfl⟩
  go_wp2_with fail
  go_ret
  exact ⟨ret_float HF.out, rfl⟩
set_option maxRecDepth 100000 in
set_option maxHeartbeats 400000 in
theorem nextafter_pos (a : Nat) (w : World) (ha : a < 2 * RqF.sgn) (hn : RqF.nan a = false) (hi : a ≠ RqF.infW) (hz : a ≠ 0) (hp : a < RqF.sgn) : Calls Tryd.prog 31 #[.float .f64 a, .float .f64 RqF.infW] w fun e w' => e = .returned (.float .f64 (nextF a)) ∧ w = w' := by
  have ni : RqF.nan RqF.infW = false := by decide +kernel
  have h1 := na_ne ha hn hi
  have h2 := na_gt ha hn hi
  have h3 := na_zero ha hn
  have h4 : (FloatKind.f64.format.order a 0 == some .eq) = false := by rw [h3]; simp [hz]; omega
  have hz2 : a ≠ RqF.sgn := by omega
  have h5 : (FloatKind.f64.format.order a 0 == some .gt) = true := by rw [na_pos ha hn hz]; exact decide_eq_true hp
  have hw : IntKind.u64.wrap ((a : Int) + 1) = ((nextF a : Nat) : Int) := by
    rw [(next_facts ha hn hi).2.2.2, if_neg hz2, if_neg (by omega), IntKind.wrap_u64]; unfold RqF.sgn at hp; omega
  clear h3 ha hi hz hz2 hp
  go_enter Tryd.func31, Tryd.ntmps31
  go_wp2_with fail
  refine (isNaN_any _ _).mono ?_
  rintro e w' ⟨rfl, rfl⟩
  go_wp2_with fail
  refine (isNaN_any _ _).mono ?_
  rintro e w' ⟨rfl, rfl⟩
  go_wp2_with fail
  go_ret
  exact ⟨rfl, rfl⟩
set_option maxRecDepth 100000 in
set_option maxHeartbeats 400000 in
theorem nextafter_neg (a : Nat) (w : World) (ha : a < 2 * RqF.sgn) (hn : RqF.nan a = false) (hi : a ≠ RqF.infW) (hz : a ≠ 0) (hz2 : a ≠ RqF.sgn) (hp : ¬ a < RqF.sgn) : Calls Tryd.prog 31 #[.float .f64 a, .float .f64 RqF.infW] w fun e w' => e = .returned (.float .f64 (nextF a)) ∧ w = w' := by
  have ni : RqF.nan RqF.infW = false := by decide +kernel
  have h1 := na_ne ha hn hi
  have h2 := na_gt ha hn hi
  have h3 := na_zero ha hn
  have h4 : (FloatKind.f64.format.order a 0 == some .eq) = false := by rw [h3]; simp [hz, hz2]
  have h5 : (FloatKind.f64.format.order a 0 == some .gt) = false := by rw [na_pos ha hn hz]; exact decide_eq_false hp
  have hw : IntKind.u64.wrap ((a : Int) - 1) = ((nextF a : Nat) : Int) := by
    rw [(next_facts ha hn hi).2.2.2, if_neg hz2, if_pos (by omega), IntKind.wrap_u64]; unfold RqF.sgn at *; omega
  clear h3 ha hi hz hz2 hp
  go_enter Tryd.func31, Tryd.ntmps31
  go_wp2_with fail
  refine (isNaN_any _ _).mono ?_
  rintro e w' ⟨rfl, rfl⟩
  go_wp2_with fail
  refine (isNaN_any _ _).mono ?_
  rintro e w' ⟨rfl, rfl⟩
  go_wp2_with fail
  go_ret
  exact ⟨rfl, rfl⟩
theorem nextafter_any (a : Nat) (w : World) (ha : a < 2 * RqF.sgn) (hn : RqF.nan a = false) (hi : a ≠ RqF.infW) (hz2 : a ≠ RqF.sgn) : Calls Tryd.prog 31 #[.float .f64 a, .float .f64 RqF.infW] w fun e w' => e = .returned (.float .f64 (nextF a)) ∧ w = w' := by
  by_cases hz : a = 0
  · exact nextafter_zero a w ha hn hi hz
  · by_cases hp : a < RqF.sgn
    · exact nextafter_pos a w ha hn hi hz hp
    · exact nextafter_neg a w ha hn hi hz hz2 hp

set_option maxRecDepth 100000 in
set_option maxHeartbeats 400000 in
theorem numSteps_nan (a : Nat) (w : World) (ht : Tabs w) (ha : a < 2 * RqF.sgn) (hn : RqF.nan a = true) : Calls Tryd.prog 10 #[.int .u64 a] w fun e w' => e = .returned (.bool true) ∧ Below w.heap.size w w' := by
  have hne : (FloatKind.f64.format.order a a != some .eq) = true := (RqF.order_self _).trans hn
  have hge : decide ((RqF.code RqF.infW : Int) ≤ (RqF.code a : Int)) = true := by
    have : RqF.code a = 18446744073709551615 := by unfold RqF.code; rw [hn]; rfl
    rw [this, RqF.code_inf]; decide
  have HG := Lib.hid hge
  have HT := Lib.hid ht
  have HA := Lib.hid ha
  clear ht ha hn hge
  go_enter Tryd.func10, Tryd.ntmps10
  go_wp2_with fail
  refine (code_any _ _ HA.out).mono ?_
  rintro e w' ⟨rfl, rfl⟩
  go_wp2_with fail
  refine (inf_pos 1 _ (by decide)).mono ?_
  rintro e w' ⟨rfl, rfl⟩
  go_wp2_with fail
  refine (code_any _ _ small_5).mono ?_
  rintro e w' ⟨rfl, rfl⟩
  have hge : RqF.code RqF.infW ≤ RqF.code a := by have := of_decide_eq_true HG.out; omega
  go_wp2_with fail
  refine (awake3_any _ HT.out).mono ?_
  rintro e w1 ⟨rfl, hb⟩
  go_wp2_with fail
  go_ret
  exact ⟨rfl, hb⟩

set_option maxRecDepth 100000 in
set_option maxHeartbeats 400000 in
theorem numSteps_inf (a : Nat) (w : World) (ht : Tabs w) (ha : a < 2 * RqF.sgn) (hn : RqF.nan a = false) (hi : a = RqF.infW) : Calls Tryd.prog 10 #[.int .u64 a] w fun e w' => e = .returned (.bool true) ∧ Below w.heap.size w w' := by
  have hne : (FloatKind.f64.format.order a a != some .eq) = false := (RqF.order_self _).trans hn
  have hd : decide (a = RqF.infW) = true := decide_eq_true hi
  have HI := Lib.hid hi
  have HT := Lib.hid ht
  have HA := Lib.hid ha
  clear ht ha hn hi
  go_enter Tryd.func10, Tryd.ntmps10
  go_wp2_with fail
  refine (isInf_pos _ _ HA.out).mono ?_
  rintro e w' ⟨rfl, rfl⟩
  rw [hd]
  go_wp2_with fail
  refine (code_any _ _ HA.out).mono ?_
  rintro e w' ⟨rfl, rfl⟩
  go_wp2_with fail
  refine (inf_pos 1 _ (by decide)).mono ?_
  rintro e w' ⟨rfl, rfl⟩
  go_wp2_with fail
  refine (code_any _ _ small_5).mono ?_
  rintro e w' ⟨rfl, rfl⟩
  have hge : RqF.code RqF.infW ≤ RqF.code a := by rw [HI.out]; exact Nat.le_refl _
  go_wp2_with fail
  refine (awake3_any _ HT.out).mono ?_
  rintro e w1 ⟨rfl, hb⟩
  go_wp2_with fail
  go_ret
  exact ⟨rfl, hb⟩

set_option maxRecDepth 100000 in
set_option maxHeartbeats 400000 in
theorem numSteps_sgn (a : Nat) (w : World) (ht : Tabs w) (ha : a < 2 * RqF.sgn) (hn : RqF.nan a = false) (hi : a ≠ RqF.infW) (hs : a = RqF.sgn) : Calls Tryd.prog 10 #[.int .u64 a] w fun e w' => e = .returned (.bool true) ∧ Below w.heap.size w w' := by
  have hne : (FloatKind.f64.format.order a a != some .eq) = false := (RqF.order_self _).trans hn
  have hd : decide (a = RqF.infW) = false := decide_eq_false hi
  have hw := wrap_next ha hn hi
  have HL := Lib.hid (next_facts ha hn hi).1
  have HC := Lib.hid (next_cmp ha hn hi)
  have HN := Lib.hid (next_lt ha hn hi)
  have hz0 : (FloatKind.f64.format.order a 0 == some .eq) = true := by rw [na_zero ha hn]; simp [hs]
  have hsb : decide (a / RqF.sgn % 2 = 1) = true := by rw [hs]; decide +kernel
  have HF : Hid (nextF a = 0) := by rw [(next_facts ha hn hi).2.2.2, if_pos hs]; rfl
  have HT := Lib.hid ht
  have HA := Lib.hid ha
  have HI := Lib.hid hi
  have HNN := Lib.hid hn
  clear ht ha hn hi hs
  go_enter Tryd.func10, Tryd.ntmps10
  go_wp2_with fail
  refine (isInf_pos _ _ HA.out).mono ?_
  rintro e w' ⟨rfl, rfl⟩
  rw [hd]
  go_wp2_with fail
  refine (code_any _ _ HA.out).mono ?_
  rintro e w' ⟨rfl, rfl⟩
  go_wp2_with fail
  refine (back_any _ _ HL.out).mono ?_
  rintro e w' ⟨rfl, rfl⟩
  rw [show RqF.backF (RqF.code a + 1) = nextF a from rfl]
  go_wp2_with fail
  refine (cmp_any _ _ _ HA.out HN.out).mono ?_
  rintro e w' ⟨rfl, rfl⟩
  rw [HC.out]
  go_wp2_with fail
  refine (signbit_any _ _ HA.out).mono ?_
  rintro e w' ⟨rfl, rfl⟩
  rw [hsb]
  rw [HF.out]
  go_wp2_with fail
  refine (awake3_any _ HT.out).mono ?_
  rintro e w1 ⟨rfl, hb⟩
  go_wp2_with fail
  go_ret
  exact ⟨rfl, hb⟩

set_option maxRecDepth 100000 in
set_option maxHeartbeats 400000 in
theorem numSteps_z (a : Nat) (w : World) (ht : Tabs w) (ha : a < 2 * RqF.sgn) (hn : RqF.nan a = false) (hi : a ≠ RqF.infW) (hs : a ≠ RqF.sgn) (hz : a = 0) : Calls Tryd.prog 10 #[.int .u64 a] w fun e w' => e = .returned (.bool true) ∧ Below w.heap.size w w' := by
  have hne : (FloatKind.f64.format.order a a != some .eq) = false := (RqF.order_self _).trans hn
  have hd : decide (a = RqF.infW) = false := decide_eq_false hi
  have hw := wrap_next ha hn hi
  have HL := Lib.hid (next_facts ha hn hi).1
  have HC := Lib.hid (next_cmp ha hn hi)
  have HN := Lib.hid (next_lt ha hn hi)
  have hz0 : (FloatKind.f64.format.order a 0 == some .eq) = true := by rw [na_zero ha hn]; simp [hz]
  have hsb : decide (a / RqF.sgn % 2 = 1) = false := by rw [hz]; decide +kernel
  have HT := Lib.hid ht
  have HA := Lib.hid ha
  have HI := Lib.hid hi
  have HNN := Lib.hid hn
  have HS := Lib.hid hs
  clear ht ha hn hi hs hz
  go_enter Tryd.func10, Tryd.ntmps10
  go_wp2_with fail
  refine (isInf_pos _ _ HA.out).mono ?_
  rintro e w' ⟨rfl, rfl⟩
  rw [hd]
  go_wp2_with fail
  refine (code_any _ _ HA.out).mono ?_
  rintro e w' ⟨rfl, rfl⟩
  go_wp2_with fail
  refine (back_any _ _ HL.out).mono ?_
  rintro e w' ⟨rfl, rfl⟩
  rw [show RqF.backF (RqF.code a + 1) = nextF a from rfl]
  go_wp2_with fail
  refine (cmp_any _ _ _ HA.out HN.out).mono ?_
  rintro e w' ⟨rfl, rfl⟩
  rw [HC.out]
  go_wp2_with fail
  refine (signbit_any _ _ HA.out).mono ?_
  rintro e w' ⟨rfl, rfl⟩
  rw [hsb]
  go_wp2_with fail
  refine (inf_pos 1 _ (by decide)).mono ?_
  rintro e w' ⟨rfl, rfl⟩
  go_wp2_with fail
  refine (nextafter_any _ _ HA.out HNN.out HI.out HS.out).mono ?_
  rintro e w' ⟨rfl, rfl⟩
  go_wp2_with fail
  refine (awake3_any _ HT.out).mono ?_
  rintro e w1 ⟨rfl, hb⟩
  go_wp2_with fail
  go_ret
  exact ⟨rfl, hb⟩

set_option maxRecDepth 100000 in
set_option maxHeartbeats 400000 in
theorem numSteps_o (a : Nat) (w : World) (ht : Tabs w) (ha : a < 2 * RqF.sgn) (hn : RqF.nan a = false) (hi : a ≠ RqF.infW) (hs : a ≠ RqF.sgn) (hz : a ≠ 0) : Calls Tryd.prog 10 #[.int .u64 a] w fun e w' => e = .returned (.bool true) ∧ Below w.heap.size w w' := by
  have hne : (FloatKind.f64.format.order a a != some .eq) = false := (RqF.order_self _).trans hn
  have hd : decide (a = RqF.infW) = false := decide_eq_false hi
  have hw := wrap_next ha hn hi
  have HL := Lib.hid (next_facts ha hn hi).1
  have HC := Lib.hid (next_cmp ha hn hi)
  have HN := Lib.hid (next_lt ha hn hi)
  have hz0 : (FloatKind.f64.format.order a 0 == some .eq) = false := by rw [na_zero ha hn]; simp [hz, hs]
  have HT := Lib.hid ht
  have HA := Lib.hid ha
  have HI := Lib.hid hi
  have HNN := Lib.hid hn
  have HS := Lib.hid hs
  clear ht ha hn hi hs hz
  go_enter Tryd.func10, Tryd.ntmps10
  go_wp2_with fail
  refine (isInf_pos _ _ HA.out).mono ?_
  rintro e w' ⟨rfl, rfl⟩
  rw [hd]
  go_wp2_with fail
  refine (code_any _ _ HA.out).mono ?_
  rintro e w' ⟨rfl, rfl⟩
  go_wp2_with fail
  refine (back_any _ _ HL.out).mono ?_
  rintro e w' ⟨rfl, rfl⟩
  rw [show RqF.backF (RqF.code a + 1) = nextF a from rfl]
  go_wp2_with fail
  refine (cmp_any _ _ _ HA.out HN.out).mono ?_
  rintro e w' ⟨rfl, rfl⟩
  rw [HC.out]
  go_wp2_with fail
  refine (inf_pos 1 _ (by decide)).mono ?_
  rintro e w' ⟨rfl, rfl⟩
  go_wp2_with fail
  refine (nextafter_any _ _ HA.out HNN.out HI.out HS.out).mono ?_
  rintro e w' ⟨rfl, rfl⟩
  go_wp2_with fail
  refine (awake3_any _ HT.out).mono ?_
  rintro e w1 ⟨rfl, hb⟩
  go_wp2_with fail
  go_ret
  exact ⟨rfl, hb⟩
theorem numSteps_walk (a : Nat) (w : World) (ht : Tabs w) (ha : a < 2 * RqF.sgn) : Calls Tryd.prog 10 #[.int .u64 a] w fun e w' => e = .returned (.bool true) ∧ Below w.heap.size w w' := by
  cases hn : RqF.nan a
  · by_cases hi : a = RqF.infW
    · exact numSteps_inf a w ht ha hn hi
    · by_cases hs : a = RqF.sgn
      · exact numSteps_sgn a w ht ha hn hi hs
      · by_cases hz : a = 0
        · exact numSteps_z a w ht ha hn hi hs hz
        · exact numSteps_o a w ht ha hn hi hs hz
  · exact numSteps_nan a w ht ha hn
end Go.Proofs.YtbmbfjbjjnmmeaaDoor
