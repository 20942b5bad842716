/- An argument that is a slice of slices of bytes, opened. No condition. -/
import Derived.Test.YtnjmhneobgmejaaGreatDoorOpenA
import Derived.Test.YtnjmhneobgmejaaGreatDoorLawRLengths
namespace Go.Proofs.YtnjmhneobgmejaaGreatDoor
open Go.RowKit Go.Deep Go.ChangeShapes Go.WideShapes

theorem u8_of {z : Int} (h : (Lit.int .u8 z).wf = true) : ((UInt8.ofNat z.toNat).toNat : Int) = z := by
  have h2 : IntKind.u8.min ≤ z ∧ z ≤ IntKind.u8.max := by simpa [Lit.wf] using h
  have h3 : (0 : Int) ≤ z := h2.1
  have h4 : z ≤ 255 := h2.2
  rw [UInt8.toNat_ofNat']
  omega
section
variable {H : Type} {enc : TypeId × Value → H} {W : World} {base b0 : Nat} {sp : Nat → Bool} {held : Bool} {r : Reach}
set_option maxRecDepth 100000 in
/-- A slice of bytes, out of its reading. -/
theorem bytes_read {fuel : Nat} {v : Value} {x : DataW H × List MemPlace} (h : DataW.trod enc Tryz.prog W base sp held fuel 44 [v] = some x) :
    ∃ b : BytesV, v = .slice b.addr b.val.length b.cap ∧ BytesAt b.addr b.val W ∧ b.val.length ≤ maxLen := by
  rcases open_ints Tryz.underlying44 Tryz.underlying5 (by kernel_rfl) h with ⟨hcs, _⟩ | ⟨a, len, cap, zs, hcs, _, hl, hm, hz, _, hcell, hwf⟩
  · simp only [List.cons.injEq, and_true] at hcs
    exact ⟨⟨none, 0, []⟩, hcs, fun h0 => absurd rfl h0, Nat.zero_le _⟩
  · simp only [List.cons.injEq, and_true] at hcs
    have hle : len ≤ zs.length := by rw [hz]; split <;> omega
    have hlen : ((zs.take len).map fun z => UInt8.ofNat z.toNat).length = len := by rw [List.length_map, List.length_take]; omega
    refine ⟨⟨some a, cap, (zs.take len).map fun z => UInt8.ofNat z.toNat⟩, by rw [hcs]; simp only [hlen], fun h0 => ?_, by simp only [hlen]; exact Nat.le_trans hl hm⟩
    have hpos := List.length_pos_iff.2 h0
    simp only [hlen] at hpos
    refine ⟨a, rfl, by have := lt_of_cell (hcell 0 (by omega)); rw [add_block'] at this; exact this, fun j hj => ?_⟩
    simp only [hlen] at hj
    have hc1 := hcell j (by omega)
    have e : zs.getD j 0 = zs[j]'(by omega) := by simp [List.getD, List.getElem?_eq_getElem (show j < zs.length by omega)]
    rw [hc1, e]
    simp only [List.getElem_map, List.getElem_take]
    rw [u8_of (hwf _ (List.getElem_mem (by omega)))]
set_option maxRecDepth 100000 in
theorem open_bytess {v : Value} {d : DataW H} {p : List MemPlace} (hv : Value.okWide Tryz.prog W r b0 42 v) (h : DataW.Trod enc Tryz.prog W base sp held 42 v d p) :
    ∃ A c L, v = .slice A L.length c ∧ RowsAt A L W ∧ L.length ≤ maxLen := by
  obtain ⟨a0, len, cap, rfl⟩ := okWide_slice Tryz.underlying42 hv
  obtain ⟨fuel, hf⟩ := h
  rcases open_slice1 Tryz.underlying42 (by kernel_rfl) hf with ⟨hcs, _⟩ | ⟨a, len', cap', m, n, V, D, Pl, hcs, _, hl, hm, hmm, _, hel⟩
  · simp [Value.cells] at hcs
    obtain ⟨rfl, rfl, rfl⟩ := hcs
    exact ⟨none, 0, [], rfl, fun i h => absurd h (by simp), Nat.zero_le _⟩
  · simp [Value.cells] at hcs
    obtain ⟨rfl, rfl, rfl⟩ := hcs
    have hle : len ≤ m := by rw [hmm]; split <;> omega
    have hex : ∀ i, ∃ b : BytesV, i < len → V i = .slice b.addr b.val.length b.cap ∧ BytesAt b.addr b.val W ∧ b.val.length ≤ maxLen := by
      intro i
      by_cases hi : i < len
      · obtain ⟨b, hb⟩ := bytes_read (hel i (by omega)).2
        exact ⟨b, fun _ => hb⟩
      · exact ⟨⟨none, 0, []⟩, fun h => absurd h hi⟩
    let f := fun i => Classical.choose (hex i)
    have hf2 : ∀ i, i < len → V i = .slice (f i).addr (f i).val.length (f i).cap ∧ BytesAt (f i).addr (f i).val W ∧ (f i).val.length ≤ maxLen := fun i => Classical.choose_spec (hex i)
    have hlen : ((List.range len).map f).length = len := by simp
    refine ⟨some a, cap, (List.range len).map f, by rw [hlen], fun i hi => ?_, by rw [hlen]; exact Nat.le_trans hl hm⟩
    rw [hlen] at hi
    obtain ⟨h1, h2, h3⟩ := hf2 i hi
    have hc1 := (hel i (by omega)).1
    have e : ((List.range len).map f)[i]'(by rw [hlen]; exact hi) = f i := by simp
    rw [e]
    refine ⟨a, rfl, ?_, by rw [hc1, h1], h2, h3⟩
    have := lt_of_cell hc1
    rw [add_block'] at this; exact this
end
end Go.Proofs.YtnjmhneobgmejaaGreatDoor
