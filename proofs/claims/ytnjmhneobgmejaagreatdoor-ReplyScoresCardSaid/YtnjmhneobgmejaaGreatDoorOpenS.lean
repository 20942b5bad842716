/- An argument that is a slice of 64-bit words, opened. No condition. -/
import Derived.Test.YtnjmhneobgmejaaGreatDoorOpenA
import Derived.Test.YtnjmhneobgmejaaGreatDoorLawRScores
namespace Go.Proofs.YtnjmhneobgmejaaGreatDoor
open Go.RowKit
set_option maxRecDepth 100000 in
open Go.ChangeShapes Go.WideShapes in
theorem open_u64s {H : Type} {enc : TypeId × Value → H} {W : World} {base b0 : Nat} {sp : Nat → Bool} {held : Bool} {r : Reach} {v : Value} {d : DataW H} {p : List MemPlace} (hv : Value.okWide Tryz.prog W r b0 28 v) (h : DataW.Trod enc Tryz.prog W base sp held 28 v d p) :
    ∃ A c U, v = .slice A U.length c ∧ U64sAt A U W ∧ U.length ≤ maxLen := by
  obtain ⟨A, c, l, rfl, hl, hn⟩ := open_ints_at Tryz.underlying28 Tryz.underlying32 (by kernel_rfl) hv h
  refine ⟨A, c, l.map Int.toNat, by rw [List.length_map], fun i hi => ?_, by rw [List.length_map]; exact hn⟩
  rw [List.length_map] at hi
  obtain ⟨a, h1, h2, h3, h4⟩ := hl i hi
  obtain ⟨m, hm, hm2⟩ := u64_bounds h4
  refine ⟨a, h1, h2, ?_, ?_⟩
  · rw [h3, List.getElem_map, hm, Int.toNat_natCast]
  · rw [List.getElem_map, hm, Int.toNat_natCast]; exact hm2
end Go.Proofs.YtnjmhneobgmejaaGreatDoor
