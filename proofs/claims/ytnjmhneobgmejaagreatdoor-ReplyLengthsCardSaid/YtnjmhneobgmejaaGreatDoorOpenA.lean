/- Arguments that lie in memory, opened: a slice of 64-bit words, of bytes, of slices of bytes. No condition. -/
import Derived.Test.YtnjmhneobgmejaaGreatDoorPostM
import Derived.Test.YtnjmhneobgmejaaGreatDoorRepV
import Derived.Deep.Slices
import Derived.ChangeSlices
import Derived.WideKeyArgs
namespace Go.Proofs.YtnjmhneobgmejaaGreatDoor
open Go.ChangeShapes Go.WideShapes Go.ChangeAt Go.RowKit Go.Deep

theorem laidOut : laidOutB Tryz.prog = true := by kernel_rfl
theorem lt_of_cell {w : World} {a : Addr} {v : Value} (h : w.cell? a = some v) : a.block < w.heap.size := by
  rcases Nat.lt_or_ge a.block w.heap.size with h' | h'
  · exact h'
  · simp [World.cell?, Array.getElem?_eq_none h'] at h
theorem add_block' (a : Addr) (j : Nat) : (a.add j).block = a.block := by unfold Addr.add; split <;> rfl
section
variable {H : Type} {enc : TypeId × Value → H} {W : World} {base b0 : Nat} {sp : Nat → Bool} {held : Bool} {r : Reach}
/-- Numbers in a row. -/
def IntsAt (k : IntKind) (A : Option Addr) (l : List Int) (w : World) : Prop := ∀ (i : Nat) (h : i < l.length), ∃ a : Addr, A = some a ∧ a.block < w.heap.size ∧ w.cell? (a.add i) = some (.int k l[i]) ∧ (Lit.int k l[i]).wf = true
set_option maxRecDepth 100000 in
theorem open_ints_at {t e : TypeId} {k : IntKind} {v : Value} {d : DataW H} {p : List MemPlace} (ht : Tryz.prog.underlying t = some (.slice e)) (he : Tryz.prog.underlying e = some (.int k)) (hc : Tryz.prog.cellsOf e = 1) (hv : Value.okWide Tryz.prog W r b0 t v) (h : DataW.Trod enc Tryz.prog W base sp held t v d p) :
    ∃ A c l, v = .slice A l.length c ∧ IntsAt k A l W ∧ l.length ≤ maxLen := by
  obtain ⟨a0, len, cap, rfl⟩ := okWide_slice ht hv
  obtain ⟨fuel, hf⟩ := h
  rcases open_ints ht he hc hf with ⟨hcs, _⟩ | ⟨a, len', cap', zs, hcs, _, hl, hm, hz, _, hcell, hwf⟩
  · simp [Value.cells] at hcs
    obtain ⟨rfl, rfl, rfl⟩ := hcs
    exact ⟨none, 0, [], rfl, fun i h => absurd h (by simp), Nat.zero_le _⟩
  · simp [Value.cells] at hcs
    obtain ⟨rfl, rfl, rfl⟩ := hcs
    have hle : len ≤ zs.length := by rw [hz]; split <;> omega
    have hlen : (zs.take len).length = len := by rw [List.length_take]; omega
    refine ⟨some a, cap, zs.take len, by rw [hlen], fun i h => ?_, by rw [hlen]; exact Nat.le_trans hl hm⟩
    rw [hlen] at h
    have hc1 := hcell i (by omega)
    have e : (zs.take len)[i]'(by omega) = zs.getD i 0 := by simp [List.getD, List.getElem?_eq_getElem (show i < zs.length by omega)]
    refine ⟨a, rfl, ?_, by rw [e]; exact hc1, hwf _ (List.mem_of_mem_take (List.getElem_mem _))⟩
    have := lt_of_cell hc1
    rw [add_block'] at this; exact this
end
end Go.Proofs.YtnjmhneobgmejaaGreatDoor
