/- The walks of the reference's Least, Most, Sum: each hands back some double. No condition. -/
import Derived.Test.YtnjmhneobgmejaaDoorTellE
namespace RqF
open Ieee
theorem word_lt (s : Bool) {r : Nat} (h : r ≤ infW) : double.word s r < 2 * sgn := by
  unfold Format.word
  rw [sgn_eq]
  have : infW < sgn := by decide
  cases s
  · simp; omega
  · simp; omega
theorem nearest_lt (s : Bool) (m : Nat) (p : Int) : double.nearest s m p < 2 * sgn := by
  unfold Format.nearest
  dsimp only
  split
  · exact word_lt _ (by decide)
  · exact word_lt _ (by rw [inf_eq]; omega)
theorem add_lt {x y r : Nat} (h : double.add x y = some r) : r < 2 * sgn := by
  unfold Format.add at h
  generalize double.read x = a at h
  generalize double.read y = b at h
  cases a <;> cases b <;> simp only [Datum.sum, Option.map_none, Option.map_some, reduceCtorEq, Option.some.injEq] at h
  · rw [← h]; exact nearest_lt _ _ _
  · rw [← h]; exact word_lt _ (by rw [inf_eq]; omega)
  · rw [← h]; exact word_lt _ (by rw [inf_eq]; omega)
  · rename_i s t
    by_cases e : s = t
    · rw [if_pos e] at h; simp at h; rw [← h]; exact word_lt _ (by rw [inf_eq]; omega)
    · rw [if_neg e] at h; simp at h
theorem cut_lt (t : Nat) : (t % 2) * 9223372036854775808 + 9218868437227405312 + 1 + (t / 2) % 4503599627370495 < 2 * sgn := by
  show _ < 18446744073709551616
  omega
end RqF
namespace Go.Proofs.YtnjmhneobgmejaaDoor
open Go.RowKit

theorem run_add_none2 (t : TypeId) {x y : Nat} (h : Ieee.double.add x y = none) (w : World) : ∃ n, n < 2 * RqF.sgn ∧ (binOp .add t (.float .f64 x) (.float .f64 y)).run Tryd.prog w = .ok (.float .f64 n) w.drew := by
  refine ⟨(Question.nanBits .f64 x y).cut (w.tape w.drawn (.nanBits .f64 x y)), ?_, ?_⟩
  · exact RqF.cut_lt _
  · have h2 : FloatKind.f64.format.add x y = none := h
    simp [binOp, Op.floatArith, h2, Question.forced]
/-- Whatever the sum: some double, the world as it was but for draws. -/
theorem run_add_any (t : TypeId) (x y : Nat) (w : World) : ∃ n m, n < 2 * RqF.sgn ∧ (binOp .add t (.float .f64 x) (.float .f64 y)).run Tryd.prog w = .ok (.float .f64 n) (w.drewN m) := by
  cases h : Ieee.double.add x y with
  | none => obtain ⟨n, h1, h2⟩ := run_add_none2 t h w; exact ⟨n, 1, h1, h2⟩
  | some r => exact ⟨r, 0, RqF.add_lt h, run_float_arith (P := Tryd.prog) w .add t .f64 x y r h⟩

def FInv (l : List Nat) (o iv : Value) : Prop := ∃ k b : Nat, iv = .int .i64 k ∧ k ≤ l.length ∧ o = .float .f64 b ∧ b < 2 * RqF.sgn
set_option maxRecDepth 100000 in
set_option maxHeartbeats 1000000 in
theorem least_any (A : Option Addr) (c : Nat) (X : List Nat) (w : World) (hX : F64sAt A X w) (hall : ∀ x ∈ X, x < 2 * RqF.sgn) (hn : X.length ≤ 1000) :
    Calls Tryd.prog 6 #[.slice A X.length c] w fun r w' => (∃ b, b < 2 * RqF.sgn ∧ r = .returned (.float .f64 b)) ∧ w = w' := by
  have HX := Lib.hid hX; have HALL := Lib.hid hall
  clear hX hall
  go_enter Tryd.func6, Tryd.ntmps6
  go_wp2_with fail
  refine (inf_pos 1 _ (by decide)).mono ?_
  rintro r w1 ⟨rfl, rfl⟩
  go_wp2_with fail
  go_loop [3, 4] (fun o iv => FInv X o iv) (fun _ iv => X.length - (intOf iv).toNat)
  case atStart => exact ⟨0, _, rfl, Nat.zero_le _, rfl, by decide⟩
  case round =>
    obtain ⟨k, b, rfl, hk, rfl, hb⟩ := hrel
    have HB := Lib.hid hb; clear hb
    by_cases hlt : k < X.length
    · obtain ⟨a, rfl, ha, hc⟩ := HX.out k hlt
      obtain ⟨x, hx⟩ : ∃ x, x = X[k] := ⟨_, rfl⟩
      have hxx : x < 2 * RqF.sgn := by rw [hx]; exact HALL.out _ (List.getElem_mem hlt)
      rw [← hx] at hc
      have HXX := Lib.hid hxx
      clear hx ha hxx
      go_wp2_with fail
      refine (r3nan_any x _ HXX.out).mono ?_
      rintro r w2 ⟨rfl, rfl⟩
      cases hnan : RqF.nan x
      · go_wp2_with fail
        refine (r3cmp_any x b _ HXX.out HB.out).mono ?_
        rintro r w3 ⟨rfl, rfl⟩
        go_wp2_with fail
        all_goals go_round
        all_goals first
          | (case measure => simp [intOf]; omega)
          | (case rel => exact ⟨k + 1, _, by go_num, by omega, rfl, HXX.out⟩)
          | (case rel => exact ⟨k + 1, _, by go_num, by omega, rfl, HB.out⟩)
      · go_wp2_with fail
        refine (nanF_any _).mono ?_
        rintro r w3 ⟨rfl, rfl⟩
        go_wp2_with fail
        go_ret
        exact ⟨⟨_, by decide, rfl⟩, rfl⟩
    · obtain rfl : k = X.length := by omega
      go_wp2_with fail
      go_ret
      exact ⟨⟨_, HB.out, rfl⟩, rfl⟩
set_option maxRecDepth 100000 in
set_option maxHeartbeats 1000000 in
theorem most_any (A : Option Addr) (c : Nat) (X : List Nat) (w : World) (hX : F64sAt A X w) (hall : ∀ x ∈ X, x < 2 * RqF.sgn) (hn : X.length ≤ 1000) :
    Calls Tryd.prog 7 #[.slice A X.length c] w fun r w' => (∃ b, b < 2 * RqF.sgn ∧ r = .returned (.float .f64 b)) ∧ w = w' := by
  have HX := Lib.hid hX; have HALL := Lib.hid hall
  clear hX hall
  go_enter Tryd.func7, Tryd.ntmps7
  go_wp2_with fail
  refine (inf_neg (-1) _ (by decide)).mono ?_
  rintro r w1 ⟨rfl, rfl⟩
  go_wp2_with fail
  go_loop [3, 4] (fun o iv => FInv X o iv) (fun _ iv => X.length - (intOf iv).toNat)
  case atStart => exact ⟨0, _, rfl, Nat.zero_le _, rfl, by decide⟩
  case round =>
    obtain ⟨k, b, rfl, hk, rfl, hb⟩ := hrel
    have HB := Lib.hid hb; clear hb
    by_cases hlt : k < X.length
    · obtain ⟨a, rfl, ha, hc⟩ := HX.out k hlt
      obtain ⟨x, hx⟩ : ∃ x, x = X[k] := ⟨_, rfl⟩
      have hxx : x < 2 * RqF.sgn := by rw [hx]; exact HALL.out _ (List.getElem_mem hlt)
      rw [← hx] at hc
      have HXX := Lib.hid hxx
      clear hx ha hxx
      go_wp2_with fail
      refine (r3nan_any x _ HXX.out).mono ?_
      rintro r w2 ⟨rfl, rfl⟩
      cases hnan : RqF.nan x
      · go_wp2_with fail
        refine (r3cmp_any x b _ HXX.out HB.out).mono ?_
        rintro r w3 ⟨rfl, rfl⟩
        go_wp2_with fail
        all_goals go_round
        all_goals first
          | (case measure => simp [intOf]; omega)
          | (case rel => exact ⟨k + 1, _, by go_num, by omega, rfl, HXX.out⟩)
          | (case rel => exact ⟨k + 1, _, by go_num, by omega, rfl, HB.out⟩)
      · go_wp2_with fail
        refine (nanF_any _).mono ?_
        rintro r w3 ⟨rfl, rfl⟩
        go_wp2_with fail
        go_ret
        exact ⟨⟨_, by decide, rfl⟩, rfl⟩
    · obtain rfl : k = X.length := by omega
      go_wp2_with fail
      go_ret
      exact ⟨⟨_, HB.out, rfl⟩, rfl⟩
def SInv (w : World) (l : List Nat) (o iv : Value) (wr : World) : Prop := ∃ k b m : Nat, iv = .int .i64 k ∧ k ≤ l.length ∧ o = .float .f64 b ∧ b < 2 * RqF.sgn ∧ wr = w.drewN m
set_option maxRecDepth 100000 in
set_option maxHeartbeats 1000000 in
theorem sum_any (A : Option Addr) (c : Nat) (X : List Nat) (w : World) (hX : F64sAt A X w) (hall : ∀ x ∈ X, x < 2 * RqF.sgn) (hn : X.length ≤ 1000) :
    Calls Tryd.prog 8 #[.slice A X.length c] w fun r w' => (∃ b, b < 2 * RqF.sgn ∧ r = .returned (.float .f64 b)) ∧ Below w.heap.size w w' := by
  have HX := Lib.hid hX; have HALL := Lib.hid hall
  clear hX hall
  go_enter Tryd.func8, Tryd.ntmps8
  go_wp2_with fail
  go_loopw [3, 4] (fun o iv wr => SInv w X o iv wr) (fun _ iv _ => X.length - (intOf iv).toNat)
  case atStart => exact ⟨0, _, 0, rfl, Nat.zero_le _, rfl, by decide, rfl⟩
  case round =>
    obtain ⟨k, b, m, rfl, hk, rfl, hb, rfl⟩ := hrel
    have HB := Lib.hid hb; clear hb
    by_cases hlt : k < X.length
    · obtain ⟨a, rfl, ha, hc⟩ := HX.out k hlt
      obtain ⟨x, hx⟩ : ∃ x, x = X[k] := ⟨_, rfl⟩
      rw [← hx] at hc
      clear hx ha
      obtain ⟨s, j, hs, hrun⟩ := run_add_any 35 b x (w.drewN m)
      have HS := Lib.hid hs; clear hs
      go_wp2_with fail
      go_roundw
      case measure => simp [intOf]; omega
      case rel => exact ⟨k + 1, s, m + j, by go_num, by omega, rfl, HS.out, by simp [World.drewN_drewN]⟩
    · obtain rfl : k = X.length := by omega
      go_wp2_with fail
      go_ret
      exact ⟨⟨_, HB.out, rfl⟩, below_dn (Below.refl _ _) _⟩
end Go.Proofs.YtnjmhneobgmejaaDoor
