/- NumAdds: sums are rounded as they are to be, and what is no number is refused: the walk. Condition: the library's tables are as they are laid. -/
import Derived.Test.YtbmbfjbjjnmmeaaDoorAwake3
namespace Go.Proofs.YtbmbfjbjjnmmeaaDoor
open Go.RowKit




set_option maxRecDepth 100000 in
set_option maxHeartbeats 400000 in
theorem numAdds_walk (a b : Nat) (w : World) (ht : Tabs w) (_ha : a < 2 * RqF.sgn) (_hb : b < 2 * RqF.sgn) : Calls Tryd.prog 6 #[.int .u64 a, .int .u64 b] w fun e w' => e = .returned (.bool true) ∧ Below w.heap.size w w' := by
  cases h : Ieee.double.add a b with
  | none =>
    have HT := Lib.hid ht; clear ht
    obtain ⟨n, hn, hr⟩ := run_add_none 31 h w.drew
    have hne := (RqF.order_self n).trans hn
    have HH := Lib.hid h; clear h hn
    have hne2 : (FloatKind.f64.format.order n n != some .eq) = true := hne
    clear hne
    go_enter Tryd.func6, Tryd.ntmps6
    go_wp2_with fail
    refine (add_none _ _ _ HH.out).mono ?_
    rintro e w' ⟨rfl, rfl⟩
    go_wp2_with fail
    refine (awake3_any _ HT.out.drew.drew).mono ?_
    rintro e w1 ⟨rfl, hb⟩
    go_wp2_with fail
    go_ret
    exact ⟨rfl, below_trans (((Below.refl _ _).drew).drew) hb⟩
  | some r =>
    have HT := Lib.hid ht; clear ht
    have hr := fun w : World => run_float_arith (P := Tryd.prog) w .add 31 .f64 a b r h
    have hn := RqF.add_num h
    have hne := (RqF.order_self r).trans hn
    have hne2 : (FloatKind.f64.format.order r r != some .eq) = false := hne
    have HH := Lib.hid h; clear h hn hne
    go_enter Tryd.func6, Tryd.ntmps6
    go_wp2_with fail
    refine (add_some _ _ _ _ HH.out).mono ?_
    rintro e w' ⟨rfl, rfl⟩
    go_wp2_with fail
    refine (awake3_any _ HT.out).mono ?_
    rintro e w1 ⟨rfl, hb⟩
    go_wp2_with fail
    go_ret
    exact ⟨rfl, hb⟩
end Go.Proofs.YtbmbfjbjjnmmeaaDoor
