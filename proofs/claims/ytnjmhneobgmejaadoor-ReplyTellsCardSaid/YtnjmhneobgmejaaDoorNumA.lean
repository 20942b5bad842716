import Derived.Test.YtnjmhneobgmejaaDoorProg
import Derived.Test.YtnjmhneobgmejaaDoorBits
import Derived.WalkKit
import Derived.WalkSpells
import Derived.WalkLawsBesides
import Derived.Laws.Externs
import Derived.Lib.Hide
import Derived.Outline
namespace Go.Proofs.YtnjmhneobgmejaaDoor
open Go.RowKit

theorem ret_int {k : IntKind} {a b : Int} (h : a = b) : Ending.returned (.int k a) = .returned (.int k b) := by rw [h]
theorem ret_bool {a b : Bool} (h : a = b) : Ending.returned (.bool a) = .returned (.bool b) := by rw [h]
theorem ret_float {a b : Nat} (h : a = b) : Ending.returned (.float .f64 a) = .returned (.float .f64 b) := by rw [h]

@[go_sem] theorem run_bits (b : Nat) (w : World) : (callFunc 32 #[.float .f64 b]).run Tryd.prog w = .ok (.value (.int .u64 b)) w := by
  rw [run_callFunc_extern Tryd.func32 (by kernel_rfl) (by kernel_rfl) (by kernel_rfl) (e := Extern.MathFloatBits.float64bits) (by kernel_rfl)]; rfl
@[go_sem] theorem run_frombits (n : Int) (w : World) : (callFunc 5 #[.int .u64 n]).run Tryd.prog w = .ok (.value (.float .f64 n.toNat)) w := by
  rw [run_callFunc_extern Tryd.func5 (by kernel_rfl) (by kernel_rfl) (by kernel_rfl) (e := Extern.MathFloatBits.float64frombits) (by kernel_rfl)]; rfl

theorem isNaN_any (b : Nat) (w : World) :
    Calls Tryd.prog 48 #[.float .f64 b] w fun e w' => e = .returned (.bool (RqF.nan b)) ∧ w = w' := by
  have H := Lib.hid (RqF.order_self b)
  go_enter Tryd.func48, Tryd.ntmps48
  go_wp2
  go_ret
  exact ⟨by rw [← H.out]; rfl, rfl⟩

/-- How two words stand. -/
def cmpI (a b : Int) : Int := if a < b then -1 else if b < a then 1 else 0
theorem cmpI_lt {a b : Int} (h : a < b) : -1 = cmpI a b := by unfold cmpI; rw [if_pos h]
theorem cmpI_gt {a b : Int} (h : b < a) : 1 = cmpI a b := by unfold cmpI; rw [if_neg (by omega), if_pos h]
theorem cmpI_eq {a b : Int} (h1 : b ≤ a) (h2 : a ≤ b) : 0 = cmpI a b := by unfold cmpI; rw [if_neg (by omega), if_neg (by omega)]

/-- How two numbers stand. -/
def cmpF (a b : Nat) : Int := cmpI (RqF.code a) (RqF.code b)
end Go.Proofs.YtnjmhneobgmejaaDoor
