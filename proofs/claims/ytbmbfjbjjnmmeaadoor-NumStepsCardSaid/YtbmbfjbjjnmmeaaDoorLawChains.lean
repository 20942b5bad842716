/- The walk of NumChains. Condition: the library's tables are as they are laid. -/
import Derived.Test.YtbmbfjbjjnmmeaaDoorLawNum
namespace Go.Proofs.YtbmbfjbjjnmmeaaDoor
open Go.RowKit

theorem cmpI_trans {a b c : Int} (h1 : cmpI a b ≤ 0) (h2 : cmpI b c ≤ 0) : cmpI a c ≤ 0 := by
  unfold cmpI at *
  repeat (split at h1)
  all_goals (repeat (split at h2))
  all_goals (repeat split)
  all_goals omega
theorem cmpI_vals (a b : Int) : cmpI a b = -1 ∨ cmpI a b = 0 ∨ cmpI a b = 1 := by
  unfold cmpI; split
  · exact Or.inl rfl
  · split
    · exact Or.inr (Or.inr rfl)
    · exact Or.inr (Or.inl rfl)
theorem cmpI_zero {a b : Int} : cmpI a b = 0 ↔ a = b := by
  unfold cmpI; split
  · constructor <;> intro h <;> omega
  · split <;> constructor <;> intro h <;> omega

/-- What Go's own comparisons say, held against the codes. -/
theorem order_lt_cmp {a b : Nat} (ha : a < 2 * RqF.sgn) (hb : b < 2 * RqF.sgn) (h : (FloatKind.f64.format.order a b == some .lt) = true) : cmpF a b = -1 := by
  have h' : Ieee.double.order a b = some .lt := (beq_iff_eq (a := Ieee.double.order a b)).1 h
  cases na : RqF.nan a
  · cases nb : RqF.nan b
    · rw [RqF.order_eq na nb] at h'
      have := Int.compare_eq_lt.1 (Option.some.inj h')
      exact (cmpF_lt (RqF.code_lt_iff ha hb na nb this)).1
    · rw [RqF.order_nan_right nb] at h'; cases h'
  · rw [RqF.order_nan_left na] at h'; cases h'
theorem order_eq_cmp {a b : Nat} (ha : a < 2 * RqF.sgn) (hb : b < 2 * RqF.sgn) (h : (FloatKind.f64.format.order a b == some .eq) = true) (h0 : (FloatKind.f64.format.order a 0 != some .eq) = true) : cmpF a b = 0 := by
  have h' : Ieee.double.order a b = some .eq := (beq_iff_eq (a := Ieee.double.order a b)).1 h
  have h0' : Ieee.double.order a 0 ≠ some .eq := (bne_iff_ne (a := Ieee.double.order a 0)).1 h0
  cases na : RqF.nan a
  · cases nb : RqF.nan b
    · rw [RqF.order_eq na nb] at h'
      have := Int.compare_eq_eq.1 (Option.some.inj h')
      have n0 : RqF.nan 0 = false := by decide
      rw [RqF.order_eq na n0] at h0'
      have k0 : RqF.skey a ≠ RqF.skey 0 := fun e => h0' (by rw [Int.compare_eq_eq.2 e])
      have e0 : RqF.skey 0 = 0 := by decide
      rw [e0] at k0
      rw [RqF.skey_top ha, RqF.skey_top hb] at this
      rw [RqF.skey_top ha] at k0
      have : a = b := by
        have hs := RqF.sgn2
        split at this <;> split at this <;> rename_i x y <;> simp only [x, if_true, if_false] at k0 <;> omega
      rw [this]; exact (cmpF_eq rfl).1
    · rw [RqF.order_nan_right nb] at h'; cases h'
  · rw [RqF.order_nan_left na] at h'; cases h'

set_option maxRecDepth 100000 in
set_option maxHeartbeats 400000 in
theorem chain_m_t_lt (a b c : Nat) (w : World) (ht : Tabs w) (ha : a < 2 * RqF.sgn) (hb : b < 2 * RqF.sgn) (hcl : c < 2 * RqF.sgn) (hc : cmpF a b = -1) (hbc : cmpF b c ≤ 0) (hac : cmpF a c ≤ 0) (hol : (FloatKind.f64.format.order a b == some .lt) = true) (hoe : (FloatKind.f64.format.order a b == some .eq) = false) : Calls Tryd.prog 7 #[.int .u64 a, .int .u64 b, .int .u64 c] w fun e w' => e = .returned (.bool true) ∧ Below w.heap.size w w' := by
  have hq : ((RqF.code a : Int) == (RqF.code b : Int)) = false := by
    have := cmpI_zero (a := RqF.code a) (b := RqF.code b)
    have hc' : cmpI (RqF.code a) (RqF.code b) = -1 := hc
    rw [hc'] at this
    simpa using this
  have HC := Lib.hid hc; clear hc
  have HT := Lib.hid ht; clear ht
  have HA := Lib.hid ha
  have HB := Lib.hid hb
  have HCL := Lib.hid hcl
  clear ha hb hcl
  go_enter Tryd.func7, Tryd.ntmps7
  go_wp2_with fail
  refine (cmp_any _ _ _ HA.out HB.out).mono ?_
  rintro e w' ⟨rfl, rfl⟩
  rw [HC.out]
  go_wp2_with fail
  refine (cmp_any _ _ _ HB.out HCL.out).mono ?_
  rintro e w' ⟨rfl, rfl⟩
  go_wp2_with fail
  refine (cmp_any _ _ _ HA.out HCL.out).mono ?_
  rintro e w' ⟨rfl, rfl⟩
  go_wp2_with fail
  refine (cmp_any _ _ _ HA.out HB.out).mono ?_
  rintro e w' ⟨rfl, rfl⟩
  rw [HC.out]
  go_wp2_with fail
  refine (cmp_any _ _ _ HA.out HB.out).mono ?_
  rintro e w' ⟨rfl, rfl⟩
  rw [HC.out]
  go_wp2_with fail
  refine (code_any _ _ HA.out).mono ?_
  rintro e w' ⟨rfl, rfl⟩
  go_wp2_with fail
  refine (code_any _ _ HB.out).mono ?_
  rintro e w' ⟨rfl, rfl⟩
  go_wp2_with fail
  refine (awake3_any _ HT.out).mono ?_
  rintro e w1 ⟨rfl, hb⟩
  go_wp2_with fail
  go_ret
  exact ⟨rfl, hb⟩
set_option maxRecDepth 100000 in
set_option maxHeartbeats 400000 in
theorem chain_m_t_eqz (a b c : Nat) (w : World) (ht : Tabs w) (ha : a < 2 * RqF.sgn) (hb : b < 2 * RqF.sgn) (hcl : c < 2 * RqF.sgn) (hc : cmpF a b = -1) (hbc : cmpF b c ≤ 0) (hac : cmpF a c ≤ 0) (hol : (FloatKind.f64.format.order a b == some .lt) = false) (hoe : (FloatKind.f64.format.order a b == some .eq) = true) (ho0 : (FloatKind.f64.format.order a 0 != some .eq) = false) : Calls Tryd.prog 7 #[.int .u64 a, .int .u64 b, .int .u64 c] w fun e w' => e = .returned (.bool true) ∧ Below w.heap.size w w' := by
  have hq : ((RqF.code a : Int) == (RqF.code b : Int)) = false := by
    have := cmpI_zero (a := RqF.code a) (b := RqF.code b)
    have hc' : cmpI (RqF.code a) (RqF.code b) = -1 := hc
    rw [hc'] at this
    simpa using this
  have HC := Lib.hid hc; clear hc
  have HT := Lib.hid ht; clear ht
  have HA := Lib.hid ha
  have HB := Lib.hid hb
  have HCL := Lib.hid hcl
  clear ha hb hcl
  go_enter Tryd.func7, Tryd.ntmps7
  go_wp2_with fail
  refine (cmp_any _ _ _ HA.out HB.out).mono ?_
  rintro e w' ⟨rfl, rfl⟩
  rw [HC.out]
  go_wp2_with fail
  refine (cmp_any _ _ _ HB.out HCL.out).mono ?_
  rintro e w' ⟨rfl, rfl⟩
  go_wp2_with fail
  refine (cmp_any _ _ _ HA.out HCL.out).mono ?_
  rintro e w' ⟨rfl, rfl⟩
  go_wp2_with fail
  refine (cmp_any _ _ _ HA.out HB.out).mono ?_
  rintro e w' ⟨rfl, rfl⟩
  rw [HC.out]
  go_wp2_with fail
  refine (code_any _ _ HA.out).mono ?_
  rintro e w' ⟨rfl, rfl⟩
  go_wp2_with fail
  refine (code_any _ _ HB.out).mono ?_
  rintro e w' ⟨rfl, rfl⟩
  go_wp2_with fail
  refine (awake3_any _ HT.out).mono ?_
  rintro e w1 ⟨rfl, hb⟩
  go_wp2_with fail
  go_ret
  exact ⟨rfl, hb⟩
set_option maxRecDepth 100000 in
set_option maxHeartbeats 400000 in
theorem chain_m_t_no (a b c : Nat) (w : World) (ht : Tabs w) (ha : a < 2 * RqF.sgn) (hb : b < 2 * RqF.sgn) (hcl : c < 2 * RqF.sgn) (hc : cmpF a b = -1) (hbc : cmpF b c ≤ 0) (hac : cmpF a c ≤ 0) (hol : (FloatKind.f64.format.order a b == some .lt) = false) (hoe : (FloatKind.f64.format.order a b == some .eq) = false) : Calls Tryd.prog 7 #[.int .u64 a, .int .u64 b, .int .u64 c] w fun e w' => e = .returned (.bool true) ∧ Below w.heap.size w w' := by
  have hq : ((RqF.code a : Int) == (RqF.code b : Int)) = false := by
    have := cmpI_zero (a := RqF.code a) (b := RqF.code b)
    have hc' : cmpI (RqF.code a) (RqF.code b) = -1 := hc
    rw [hc'] at this
    simpa using this
  have HC := Lib.hid hc; clear hc
  have HT := Lib.hid ht; clear ht
  have HA := Lib.hid ha
  have HB := Lib.hid hb
  have HCL := Lib.hid hcl
  clear ha hb hcl
  go_enter Tryd.func7, Tryd.ntmps7
  go_wp2_with fail
  refine (cmp_any _ _ _ HA.out HB.out).mono ?_
  rintro e w' ⟨rfl, rfl⟩
  rw [HC.out]
  go_wp2_with fail
  refine (cmp_any _ _ _ HB.out HCL.out).mono ?_
  rintro e w' ⟨rfl, rfl⟩
  go_wp2_with fail
  refine (cmp_any _ _ _ HA.out HCL.out).mono ?_
  rintro e w' ⟨rfl, rfl⟩
  go_wp2_with fail
  refine (cmp_any _ _ _ HA.out HB.out).mono ?_
  rintro e w' ⟨rfl, rfl⟩
  rw [HC.out]
  go_wp2_with fail
  refine (code_any _ _ HA.out).mono ?_
  rintro e w' ⟨rfl, rfl⟩
  go_wp2_with fail
  refine (code_any _ _ HB.out).mono ?_
  rintro e w' ⟨rfl, rfl⟩
  go_wp2_with fail
  refine (awake3_any _ HT.out).mono ?_
  rintro e w1 ⟨rfl, hb⟩
  go_wp2_with fail
  go_ret
  exact ⟨rfl, hb⟩
set_option maxRecDepth 100000 in
set_option maxHeartbeats 400000 in
theorem chain_m_f_lt (a b c : Nat) (w : World) (ht : Tabs w) (ha : a < 2 * RqF.sgn) (hb : b < 2 * RqF.sgn) (hcl : c < 2 * RqF.sgn) (hc : cmpF a b = -1) (hbc : 0 < cmpF b c) (hol : (FloatKind.f64.format.order a b == some .lt) = true) (hoe : (FloatKind.f64.format.order a b == some .eq) = false) : Calls Tryd.prog 7 #[.int .u64 a, .int .u64 b, .int .u64 c] w fun e w' => e = .returned (.bool true) ∧ Below w.heap.size w w' := by
  have hq : ((RqF.code a : Int) == (RqF.code b : Int)) = false := by
    have := cmpI_zero (a := RqF.code a) (b := RqF.code b)
    have hc' : cmpI (RqF.code a) (RqF.code b) = -1 := hc
    rw [hc'] at this
    simpa using this
  have HC := Lib.hid hc; clear hc
  have HT := Lib.hid ht; clear ht
  have HA := Lib.hid ha
  have HB := Lib.hid hb
  have HCL := Lib.hid hcl
  clear ha hb hcl
  go_enter Tryd.func7, Tryd.ntmps7
  go_wp2_with fail
  refine (cmp_any _ _ _ HA.out HB.out).mono ?_
  rintro e w' ⟨rfl, rfl⟩
  rw [HC.out]
  go_wp2_with fail
  refine (cmp_any _ _ _ HB.out HCL.out).mono ?_
  rintro e w' ⟨rfl, rfl⟩
  go_wp2_with fail
  refine (cmp_any _ _ _ HA.out HB.out).mono ?_
  rintro e w' ⟨rfl, rfl⟩
  rw [HC.out]
  go_wp2_with fail
  refine (cmp_any _ _ _ HA.out HB.out).mono ?_
  rintro e w' ⟨rfl, rfl⟩
  rw [HC.out]
  go_wp2_with fail
  refine (code_any _ _ HA.out).mono ?_
  rintro e w' ⟨rfl, rfl⟩
  go_wp2_with fail
  refine (code_any _ _ HB.out).mono ?_
  rintro e w' ⟨rfl, rfl⟩
  go_wp2_with fail
  refine (awake3_any _ HT.out).mono ?_
  rintro e w1 ⟨rfl, hb⟩
  go_wp2_with fail
  go_ret
  exact ⟨rfl, hb⟩
set_option maxRecDepth 100000 in
set_option maxHeartbeats 400000 in
theorem chain_m_f_eqz (a b c : Nat) (w : World) (ht : Tabs w) (ha : a < 2 * RqF.sgn) (hb : b < 2 * RqF.sgn) (hcl : c < 2 * RqF.sgn) (hc : cmpF a b = -1) (hbc : 0 < cmpF b c) (hol : (FloatKind.f64.format.order a b == some .lt) = false) (hoe : (FloatKind.f64.format.order a b == some .eq) = true) (ho0 : (FloatKind.f64.format.order a 0 != some .eq) = false) : Calls Tryd.prog 7 #[.int .u64 a, .int .u64 b, .int .u64 c] w fun e w' => e = .returned (.bool true) ∧ Below w.heap.size w w' := by
  have hq : ((RqF.code a : Int) == (RqF.code b : Int)) = false := by
    have := cmpI_zero (a := RqF.code a) (b := RqF.code b)
    have hc' : cmpI (RqF.code a) (RqF.code b) = -1 := hc
    rw [hc'] at this
    simpa using this
  have HC := Lib.hid hc; clear hc
  have HT := Lib.hid ht; clear ht
  have HA := Lib.hid ha
  have HB := Lib.hid hb
  have HCL := Lib.hid hcl
  clear ha hb hcl
  go_enter Tryd.func7, Tryd.ntmps7
  go_wp2_with fail
  refine (cmp_any _ _ _ HA.out HB.out).mono ?_
  rintro e w' ⟨rfl, rfl⟩
  rw [HC.out]
  go_wp2_with fail
  refine (cmp_any _ _ _ HB.out HCL.out).mono ?_
  rintro e w' ⟨rfl, rfl⟩
  go_wp2_with fail
  refine (cmp_any _ _ _ HA.out HB.out).mono ?_
  rintro e w' ⟨rfl, rfl⟩
  rw [HC.out]
  go_wp2_with fail
  refine (code_any _ _ HA.out).mono ?_
  rintro e w' ⟨rfl, rfl⟩
  go_wp2_with fail
  refine (code_any _ _ HB.out).mono ?_
  rintro e w' ⟨rfl, rfl⟩
  go_wp2_with fail
  refine (awake3_any _ HT.out).mono ?_
  rintro e w1 ⟨rfl, hb⟩
  go_wp2_with fail
  go_ret
  exact ⟨rfl, hb⟩
set_option maxRecDepth 100000 in
set_option maxHeartbeats 400000 in
theorem chain_m_f_no (a b c : Nat) (w : World) (ht : Tabs w) (ha : a < 2 * RqF.sgn) (hb : b < 2 * RqF.sgn) (hcl : c < 2 * RqF.sgn) (hc : cmpF a b = -1) (hbc : 0 < cmpF b c) (hol : (FloatKind.f64.format.order a b == some .lt) = false) (hoe : (FloatKind.f64.format.order a b == some .eq) = false) : Calls Tryd.prog 7 #[.int .u64 a, .int .u64 b, .int .u64 c] w fun e w' => e = .returned (.bool true) ∧ Below w.heap.size w w' := by
  have hq : ((RqF.code a : Int) == (RqF.code b : Int)) = false := by
    have := cmpI_zero (a := RqF.code a) (b := RqF.code b)
    have hc' : cmpI (RqF.code a) (RqF.code b) = -1 := hc
    rw [hc'] at this
    simpa using this
  have HC := Lib.hid hc; clear hc
  have HT := Lib.hid ht; clear ht
  have HA := Lib.hid ha
  have HB := Lib.hid hb
  have HCL := Lib.hid hcl
  clear ha hb hcl
  go_enter Tryd.func7, Tryd.ntmps7
  go_wp2_with fail
  refine (cmp_any _ _ _ HA.out HB.out).mono ?_
  rintro e w' ⟨rfl, rfl⟩
  rw [HC.out]
  go_wp2_with fail
  refine (cmp_any _ _ _ HB.out HCL.out).mono ?_
  rintro e w' ⟨rfl, rfl⟩
  go_wp2_with fail
  refine (cmp_any _ _ _ HA.out HB.out).mono ?_
  rintro e w' ⟨rfl, rfl⟩
  rw [HC.out]
  go_wp2_with fail
  refine (code_any _ _ HA.out).mono ?_
  rintro e w' ⟨rfl, rfl⟩
  go_wp2_with fail
  refine (code_any _ _ HB.out).mono ?_
  rintro e w' ⟨rfl, rfl⟩
  go_wp2_with fail
  refine (awake3_any _ HT.out).mono ?_
  rintro e w1 ⟨rfl, hb⟩
  go_wp2_with fail
  go_ret
  exact ⟨rfl, hb⟩
set_option maxRecDepth 100000 in
set_option maxHeartbeats 400000 in
theorem chain_z_t_eqn (a b c : Nat) (w : World) (ht : Tabs w) (ha : a < 2 * RqF.sgn) (hb : b < 2 * RqF.sgn) (hcl : c < 2 * RqF.sgn) (hc : cmpF a b = 0) (hbc : cmpF b c ≤ 0) (hac : cmpF a c ≤ 0) (hol : (FloatKind.f64.format.order a b == some .lt) = false) (hoe : (FloatKind.f64.format.order a b == some .eq) = true) (ho0 : (FloatKind.f64.format.order a 0 != some .eq) = true) : Calls Tryd.prog 7 #[.int .u64 a, .int .u64 b, .int .u64 c] w fun e w' => e = .returned (.bool true) ∧ Below w.heap.size w w' := by
  have hq : ((RqF.code a : Int) == (RqF.code b : Int)) = true := by
    have := cmpI_zero (a := RqF.code a) (b := RqF.code b)
    have hc' : cmpI (RqF.code a) (RqF.code b) = 0 := hc
    rw [hc'] at this
    simpa using this
  have HC := Lib.hid hc; clear hc
  have HT := Lib.hid ht; clear ht
  have HA := Lib.hid ha
  have HB := Lib.hid hb
  have HCL := Lib.hid hcl
  clear ha hb hcl
  go_enter Tryd.func7, Tryd.ntmps7
  go_wp2_with fail
  refine (cmp_any _ _ _ HA.out HB.out).mono ?_
  rintro e w' ⟨rfl, rfl⟩
  rw [HC.out]
  go_wp2_with fail
  refine (cmp_any _ _ _ HB.out HCL.out).mono ?_
  rintro e w' ⟨rfl, rfl⟩
  go_wp2_with fail
  refine (cmp_any _ _ _ HA.out HCL.out).mono ?_
  rintro e w' ⟨rfl, rfl⟩
  go_wp2_with fail
  refine (cmp_any _ _ _ HA.out HB.out).mono ?_
  rintro e w' ⟨rfl, rfl⟩
  rw [HC.out]
  go_wp2_with fail
  refine (cmp_any _ _ _ HA.out HB.out).mono ?_
  rintro e w' ⟨rfl, rfl⟩
  rw [HC.out]
  go_wp2_with fail
  refine (code_any _ _ HA.out).mono ?_
  rintro e w' ⟨rfl, rfl⟩
  go_wp2_with fail
  refine (code_any _ _ HB.out).mono ?_
  rintro e w' ⟨rfl, rfl⟩
  go_wp2_with fail
  refine (awake3_any _ HT.out).mono ?_
  rintro e w1 ⟨rfl, hb⟩
  go_wp2_with fail
  go_ret
  exact ⟨rfl, hb⟩
set_option maxRecDepth 100000 in
set_option maxHeartbeats 400000 in
theorem chain_z_t_eqz (a b c : Nat) (w : World) (ht : Tabs w) (ha : a < 2 * RqF.sgn) (hb : b < 2 * RqF.sgn) (hcl : c < 2 * RqF.sgn) (hc : cmpF a b = 0) (hbc : cmpF b c ≤ 0) (hac : cmpF a c ≤ 0) (hol : (FloatKind.f64.format.order a b == some .lt) = false) (hoe : (FloatKind.f64.format.order a b == some .eq) = true) (ho0 : (FloatKind.f64.format.order a 0 != some .eq) = false) : Calls Tryd.prog 7 #[.int .u64 a, .int .u64 b, .int .u64 c] w fun e w' => e = .returned (.bool true) ∧ Below w.heap.size w w' := by
  have hq : ((RqF.code a : Int) == (RqF.code b : Int)) = true := by
    have := cmpI_zero (a := RqF.code a) (b := RqF.code b)
    have hc' : cmpI (RqF.code a) (RqF.code b) = 0 := hc
    rw [hc'] at this
    simpa using this
  have HC := Lib.hid hc; clear hc
  have HT := Lib.hid ht; clear ht
  have HA := Lib.hid ha
  have HB := Lib.hid hb
  have HCL := Lib.hid hcl
  clear ha hb hcl
  go_enter Tryd.func7, Tryd.ntmps7
  go_wp2_with fail
  refine (cmp_any _ _ _ HA.out HB.out).mono ?_
  rintro e w' ⟨rfl, rfl⟩
  rw [HC.out]
  go_wp2_with fail
  refine (cmp_any _ _ _ HB.out HCL.out).mono ?_
  rintro e w' ⟨rfl, rfl⟩
  go_wp2_with fail
  refine (cmp_any _ _ _ HA.out HCL.out).mono ?_
  rintro e w' ⟨rfl, rfl⟩
  go_wp2_with fail
  refine (cmp_any _ _ _ HA.out HB.out).mono ?_
  rintro e w' ⟨rfl, rfl⟩
  rw [HC.out]
  go_wp2_with fail
  refine (code_any _ _ HA.out).mono ?_
  rintro e w' ⟨rfl, rfl⟩
  go_wp2_with fail
  refine (code_any _ _ HB.out).mono ?_
  rintro e w' ⟨rfl, rfl⟩
  go_wp2_with fail
  refine (awake3_any _ HT.out).mono ?_
  rintro e w1 ⟨rfl, hb⟩
  go_wp2_with fail
  go_ret
  exact ⟨rfl, hb⟩
set_option maxRecDepth 100000 in
set_option maxHeartbeats 400000 in
theorem chain_z_t_no (a b c : Nat) (w : World) (ht : Tabs w) (ha : a < 2 * RqF.sgn) (hb : b < 2 * RqF.sgn) (hcl : c < 2 * RqF.sgn) (hc : cmpF a b = 0) (hbc : cmpF b c ≤ 0) (hac : cmpF a c ≤ 0) (hol : (FloatKind.f64.format.order a b == some .lt) = false) (hoe : (FloatKind.f64.format.order a b == some .eq) = false) : Calls Tryd.prog 7 #[.int .u64 a, .int .u64 b, .int .u64 c] w fun e w' => e = .returned (.bool true) ∧ Below w.heap.size w w' := by
  have hq : ((RqF.code a : Int) == (RqF.code b : Int)) = true := by
    have := cmpI_zero (a := RqF.code a) (b := RqF.code b)
    have hc' : cmpI (RqF.code a) (RqF.code b) = 0 := hc
    rw [hc'] at this
    simpa using this
  have HC := Lib.hid hc; clear hc
  have HT := Lib.hid ht; clear ht
  have HA := Lib.hid ha
  have HB := Lib.hid hb
  have HCL := Lib.hid hcl
  clear ha hb hcl
  go_enter Tryd.func7, Tryd.ntmps7
  go_wp2_with fail
  refine (cmp_any _ _ _ HA.out HB.out).mono ?_
  rintro e w' ⟨rfl, rfl⟩
  rw [HC.out]
  go_wp2_with fail
  refine (cmp_any _ _ _ HB.out HCL.out).mono ?_
  rintro e w' ⟨rfl, rfl⟩
  go_wp2_with fail
  refine (cmp_any _ _ _ HA.out HCL.out).mono ?_
  rintro e w' ⟨rfl, rfl⟩
  go_wp2_with fail
  refine (cmp_any _ _ _ HA.out HB.out).mono ?_
  rintro e w' ⟨rfl, rfl⟩
  rw [HC.out]
  go_wp2_with fail
  refine (code_any _ _ HA.out).mono ?_
  rintro e w' ⟨rfl, rfl⟩
  go_wp2_with fail
  refine (code_any _ _ HB.out).mono ?_
  rintro e w' ⟨rfl, rfl⟩
  go_wp2_with fail
  refine (awake3_any _ HT.out).mono ?_
  rintro e w1 ⟨rfl, hb⟩
  go_wp2_with fail
  go_ret
  exact ⟨rfl, hb⟩
set_option maxRecDepth 100000 in
set_option maxHeartbeats 400000 in
theorem chain_z_f_eqn (a b c : Nat) (w : World) (ht : Tabs w) (ha : a < 2 * RqF.sgn) (hb : b < 2 * RqF.sgn) (hcl : c < 2 * RqF.sgn) (hc : cmpF a b = 0) (hbc : 0 < cmpF b c) (hol : (FloatKind.f64.format.order a b == some .lt) = false) (hoe : (FloatKind.f64.format.order a b == some .eq) = true) (ho0 : (FloatKind.f64.format.order a 0 != some .eq) = true) : Calls Tryd.prog 7 #[.int .u64 a, .int .u64 b, .int .u64 c] w fun e w' => e = .returned (.bool true) ∧ Below w.heap.size w w' := by
  have hq : ((RqF.code a : Int) == (RqF.code b : Int)) = true := by
    have := cmpI_zero (a := RqF.code a) (b := RqF.code b)
    have hc' : cmpI (RqF.code a) (RqF.code b) = 0 := hc
    rw [hc'] at this
    simpa using this
  have HC := Lib.hid hc; clear hc
  have HT := Lib.hid ht; clear ht
  have HA := Lib.hid ha
  have HB := Lib.hid hb
  have HCL := Lib.hid hcl
  clear ha hb hcl
  go_enter Tryd.func7, Tryd.ntmps7
  go_wp2_with fail
  refine (cmp_any _ _ _ HA.out HB.out).mono ?_
  rintro e w' ⟨rfl, rfl⟩
  rw [HC.out]
  go_wp2_with fail
  refine (cmp_any _ _ _ HB.out HCL.out).mono ?_
  rintro e w' ⟨rfl, rfl⟩
  go_wp2_with fail
  refine (cmp_any _ _ _ HA.out HB.out).mono ?_
  rintro e w' ⟨rfl, rfl⟩
  rw [HC.out]
  go_wp2_with fail
  refine (cmp_any _ _ _ HA.out HB.out).mono ?_
  rintro e w' ⟨rfl, rfl⟩
  rw [HC.out]
  go_wp2_with fail
  refine (code_any _ _ HA.out).mono ?_
  rintro e w' ⟨rfl, rfl⟩
  go_wp2_with fail
  refine (code_any _ _ HB.out).mono ?_
  rintro e w' ⟨rfl, rfl⟩
  go_wp2_with fail
  refine (awake3_any _ HT.out).mono ?_
  rintro e w1 ⟨rfl, hb⟩
  go_wp2_with fail
  go_ret
  exact ⟨rfl, hb⟩
set_option maxRecDepth 100000 in
set_option maxHeartbeats 400000 in
theorem chain_z_f_eqz (a b c : Nat) (w : World) (ht : Tabs w) (ha : a < 2 * RqF.sgn) (hb : b < 2 * RqF.sgn) (hcl : c < 2 * RqF.sgn) (hc : cmpF a b = 0) (hbc : 0 < cmpF b c) (hol : (FloatKind.f64.format.order a b == some .lt) = false) (hoe : (FloatKind.f64.format.order a b == some .eq) = true) (ho0 : (FloatKind.f64.format.order a 0 != some .eq) = false) : Calls Tryd.prog 7 #[.int .u64 a, .int .u64 b, .int .u64 c] w fun e w' => e = .returned (.bool true) ∧ Below w.heap.size w w' := by
  have hq : ((RqF.code a : Int) == (RqF.code b : Int)) = true := by
    have := cmpI_zero (a := RqF.code a) (b := RqF.code b)
    have hc' : cmpI (RqF.code a) (RqF.code b) = 0 := hc
    rw [hc'] at this
    simpa using this
  have HC := Lib.hid hc; clear hc
  have HT := Lib.hid ht; clear ht
  have HA := Lib.hid ha
  have HB := Lib.hid hb
  have HCL := Lib.hid hcl
  clear ha hb hcl
  go_enter Tryd.func7, Tryd.ntmps7
  go_wp2_with fail
  refine (cmp_any _ _ _ HA.out HB.out).mono ?_
  rintro e w' ⟨rfl, rfl⟩
  rw [HC.out]
  go_wp2_with fail
  refine (cmp_any _ _ _ HB.out HCL.out).mono ?_
  rintro e w' ⟨rfl, rfl⟩
  go_wp2_with fail
  refine (cmp_any _ _ _ HA.out HB.out).mono ?_
  rintro e w' ⟨rfl, rfl⟩
  rw [HC.out]
  go_wp2_with fail
  refine (code_any _ _ HA.out).mono ?_
  rintro e w' ⟨rfl, rfl⟩
  go_wp2_with fail
  refine (code_any _ _ HB.out).mono ?_
  rintro e w' ⟨rfl, rfl⟩
  go_wp2_with fail
  refine (awake3_any _ HT.out).mono ?_
  rintro e w1 ⟨rfl, hb⟩
  go_wp2_with fail
  go_ret
  exact ⟨rfl, hb⟩
set_option maxRecDepth 100000 in
set_option maxHeartbeats 400000 in
theorem chain_z_f_no (a b c : Nat) (w : World) (ht : Tabs w) (ha : a < 2 * RqF.sgn) (hb : b < 2 * RqF.sgn) (hcl : c < 2 * RqF.sgn) (hc : cmpF a b = 0) (hbc : 0 < cmpF b c) (hol : (FloatKind.f64.format.order a b == some .lt) = false) (hoe : (FloatKind.f64.format.order a b == some .eq) = false) : Calls Tryd.prog 7 #[.int .u64 a, .int .u64 b, .int .u64 c] w fun e w' => e = .returned (.bool true) ∧ Below w.heap.size w w' := by
  have hq : ((RqF.code a : Int) == (RqF.code b : Int)) = true := by
    have := cmpI_zero (a := RqF.code a) (b := RqF.code b)
    have hc' : cmpI (RqF.code a) (RqF.code b) = 0 := hc
    rw [hc'] at this
    simpa using this
  have HC := Lib.hid hc; clear hc
  have HT := Lib.hid ht; clear ht
  have HA := Lib.hid ha
  have HB := Lib.hid hb
  have HCL := Lib.hid hcl
  clear ha hb hcl
  go_enter Tryd.func7, Tryd.ntmps7
  go_wp2_with fail
  refine (cmp_any _ _ _ HA.out HB.out).mono ?_
  rintro e w' ⟨rfl, rfl⟩
  rw [HC.out]
  go_wp2_with fail
  refine (cmp_any _ _ _ HB.out HCL.out).mono ?_
  rintro e w' ⟨rfl, rfl⟩
  go_wp2_with fail
  refine (cmp_any _ _ _ HA.out HB.out).mono ?_
  rintro e w' ⟨rfl, rfl⟩
  rw [HC.out]
  go_wp2_with fail
  refine (code_any _ _ HA.out).mono ?_
  rintro e w' ⟨rfl, rfl⟩
  go_wp2_with fail
  refine (code_any _ _ HB.out).mono ?_
  rintro e w' ⟨rfl, rfl⟩
  go_wp2_with fail
  refine (awake3_any _ HT.out).mono ?_
  rintro e w1 ⟨rfl, hb⟩
  go_wp2_with fail
  go_ret
  exact ⟨rfl, hb⟩
set_option maxRecDepth 100000 in
set_option maxHeartbeats 400000 in
theorem chain_p_n_eqz (a b c : Nat) (w : World) (ht : Tabs w) (ha : a < 2 * RqF.sgn) (hb : b < 2 * RqF.sgn) (hcl : c < 2 * RqF.sgn) (hc : cmpF a b = 1) (hol : (FloatKind.f64.format.order a b == some .lt) = false) (hoe : (FloatKind.f64.format.order a b == some .eq) = true) (ho0 : (FloatKind.f64.format.order a 0 != some .eq) = false) : Calls Tryd.prog 7 #[.int .u64 a, .int .u64 b, .int .u64 c] w fun e w' => e = .returned (.bool true) ∧ Below w.heap.size w w' := by
  have hq : ((RqF.code a : Int) == (RqF.code b : Int)) = false := by
    have := cmpI_zero (a := RqF.code a) (b := RqF.code b)
    have hc' : cmpI (RqF.code a) (RqF.code b) = 1 := hc
    rw [hc'] at this
    simpa using this
  have HC := Lib.hid hc; clear hc
  have HT := Lib.hid ht; clear ht
  have HA := Lib.hid ha
  have HB := Lib.hid hb
  have HCL := Lib.hid hcl
  clear ha hb hcl
  go_enter Tryd.func7, Tryd.ntmps7
  go_wp2_with fail
  refine (cmp_any _ _ _ HA.out HB.out).mono ?_
  rintro e w' ⟨rfl, rfl⟩
  rw [HC.out]
  go_wp2_with fail
  refine (cmp_any _ _ _ HA.out HB.out).mono ?_
  rintro e w' ⟨rfl, rfl⟩
  rw [HC.out]
  go_wp2_with fail
  refine (code_any _ _ HA.out).mono ?_
  rintro e w' ⟨rfl, rfl⟩
  go_wp2_with fail
  refine (code_any _ _ HB.out).mono ?_
  rintro e w' ⟨rfl, rfl⟩
  go_wp2_with fail
  refine (awake3_any _ HT.out).mono ?_
  rintro e w1 ⟨rfl, hb⟩
  go_wp2_with fail
  go_ret
  exact ⟨rfl, hb⟩
set_option maxRecDepth 100000 in
set_option maxHeartbeats 400000 in
theorem chain_p_n_no (a b c : Nat) (w : World) (ht : Tabs w) (ha : a < 2 * RqF.sgn) (hb : b < 2 * RqF.sgn) (hcl : c < 2 * RqF.sgn) (hc : cmpF a b = 1) (hol : (FloatKind.f64.format.order a b == some .lt) = false) (hoe : (FloatKind.f64.format.order a b == some .eq) = false) : Calls Tryd.prog 7 #[.int .u64 a, .int .u64 b, .int .u64 c] w fun e w' => e = .returned (.bool true) ∧ Below w.heap.size w w' := by
  have hq : ((RqF.code a : Int) == (RqF.code b : Int)) = false := by
    have := cmpI_zero (a := RqF.code a) (b := RqF.code b)
    have hc' : cmpI (RqF.code a) (RqF.code b) = 1 := hc
    rw [hc'] at this
    simpa using this
  have HC := Lib.hid hc; clear hc
  have HT := Lib.hid ht; clear ht
  have HA := Lib.hid ha
  have HB := Lib.hid hb
  have HCL := Lib.hid hcl
  clear ha hb hcl
  go_enter Tryd.func7, Tryd.ntmps7
  go_wp2_with fail
  refine (cmp_any _ _ _ HA.out HB.out).mono ?_
  rintro e w' ⟨rfl, rfl⟩
  rw [HC.out]
  go_wp2_with fail
  refine (cmp_any _ _ _ HA.out HB.out).mono ?_
  rintro e w' ⟨rfl, rfl⟩
  rw [HC.out]
  go_wp2_with fail
  refine (code_any _ _ HA.out).mono ?_
  rintro e w' ⟨rfl, rfl⟩
  go_wp2_with fail
  refine (code_any _ _ HB.out).mono ?_
  rintro e w' ⟨rfl, rfl⟩
  go_wp2_with fail
  refine (awake3_any _ HT.out).mono ?_
  rintro e w1 ⟨rfl, hb⟩
  go_wp2_with fail
  go_ret
  exact ⟨rfl, hb⟩

theorem numChains_walk (a b c : Nat) (w : World) (ht : Tabs w) (ha : a < 2 * RqF.sgn) (hb : b < 2 * RqF.sgn) (hcl : c < 2 * RqF.sgn) : Calls Tryd.prog 7 #[.int .u64 a, .int .u64 b, .int .u64 c] w fun e w' => e = .returned (.bool true) ∧ Below w.heap.size w w' := by
  have hlt := @order_lt_cmp a b ha hb
  have heq := @order_eq_cmp a b ha hb
  have hne : (FloatKind.f64.format.order a b == some .lt) = true → (FloatKind.f64.format.order a b == some .eq) = false := fun h => by
    have : FloatKind.f64.format.order a b = some .lt := by simpa using h
    rw [this]; rfl
  cases hol : (FloatKind.f64.format.order a b == some .lt)
  · cases hoe : (FloatKind.f64.format.order a b == some .eq)
    · rcases cmpI_vals (RqF.code a) (RqF.code b) with hc | hc | hc
      · by_cases hbc : cmpF b c ≤ 0
        · exact chain_m_t_no a b c w ht ha hb hcl hc hbc (cmpI_trans (by rw [hc]; omega) hbc) hol hoe
        · exact chain_m_f_no a b c w ht ha hb hcl hc (by omega) hol hoe
      · by_cases hbc : cmpF b c ≤ 0
        · exact chain_z_t_no a b c w ht ha hb hcl hc hbc (cmpI_trans (by rw [hc]; omega) hbc) hol hoe
        · exact chain_z_f_no a b c w ht ha hb hcl hc (by omega) hol hoe
      · exact chain_p_n_no a b c w ht ha hb hcl hc hol hoe
    · cases ho0 : (FloatKind.f64.format.order a 0 != some .eq)
      · rcases cmpI_vals (RqF.code a) (RqF.code b) with hc | hc | hc
        · by_cases hbc : cmpF b c ≤ 0
          · exact chain_m_t_eqz a b c w ht ha hb hcl hc hbc (cmpI_trans (by rw [hc]; omega) hbc) hol hoe ho0
          · exact chain_m_f_eqz a b c w ht ha hb hcl hc (by omega) hol hoe ho0
        · by_cases hbc : cmpF b c ≤ 0
          · exact chain_z_t_eqz a b c w ht ha hb hcl hc hbc (cmpI_trans (by rw [hc]; omega) hbc) hol hoe ho0
          · exact chain_z_f_eqz a b c w ht ha hb hcl hc (by omega) hol hoe ho0
        · exact chain_p_n_eqz a b c w ht ha hb hcl hc hol hoe ho0
      · have hc := heq hoe ho0
        by_cases hbc : cmpF b c ≤ 0
        · exact chain_z_t_eqn a b c w ht ha hb hcl hc hbc (cmpI_trans (by show cmpF a b ≤ 0; rw [hc]; omega) hbc) hol hoe ho0
        · exact chain_z_f_eqn a b c w ht ha hb hcl hc (by omega) hol hoe ho0
  · have hc := hlt hol
    by_cases hbc : cmpF b c ≤ 0
    · exact chain_m_t_lt a b c w ht ha hb hcl hc hbc (cmpI_trans (by show cmpF a b ≤ 0; rw [hc]; omega) hbc) hol (hne hol)
    · exact chain_m_f_lt a b c w ht ha hb hcl hc (by omega) hol (hne hol)
end Go.Proofs.YtbmbfjbjjnmmeaaDoor
