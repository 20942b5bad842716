/- The walk of reply.Value. Conditions: the library's tables are as they are laid; a value is of at most 2^40 bytes. -/
import Derived.Test.YtnjmhneobgmejaaDoorRepU
namespace Go.Proofs.YtnjmhneobgmejaaDoor
open Go.RowKit

/-- A slice's cells are these bytes (a slice of no bytes may lie nowhere). -/
def BytesAt (A : Option Addr) (l : List UInt8) (w : World) : Prop := l ≠ [] → ∃ a, A = some a ∧ a.block < w.heap.size ∧ ∀ j (hj : j < l.length), w.cell? (a.add j) = some (.int .u8 (l[j].toNat : Int))
theorem add_block (a : Addr) (j : Nat) : (a.add j).block = a.block := by unfold Addr.add; split <;> rfl
theorem BytesAt.below {A : Option Addr} {l : List UInt8} {w w' : World} (h : BytesAt A l w) (hb : Below w.heap.size w w') : BytesAt A l w' := by
  intro h0
  obtain ⟨a, h1, h2, h3⟩ := h h0
  exact ⟨a, h1, Nat.lt_of_lt_of_le h2 hb.size, fun j hj => (hb.cell (by rw [add_block]; exact h2)).trans (h3 j hj)⟩
theorem bytes_back {A : Option Addr} {c : Nat} {l : List UInt8} {w : World} (X : ByteArray) (hX : X = ⟨l.toArray⟩) (h : BytesAt A l w) : (convert 22 9 (.slice A l.length c)).run Tryd.prog w = .ok (.string X) w := by
  subst hX
  by_cases h0 : l = []
  · subst h0
    cases A with
    | none => exact run_convert_bytes_nil w 22 5 Tryd.underlying22 Tryd.underlying5 0 c 9 Tryd.underlying9
    | some a => exact run_convert_bytes_back w 22 9 5 a c [] Tryd.underlying22 Tryd.underlying5 Tryd.underlying9 (fun j hj => absurd hj (by simp))
  · obtain ⟨a, rfl, _, h3⟩ := h h0
    exact run_convert_bytes_back w 22 9 5 a c l Tryd.underlying22 Tryd.underlying5 Tryd.underlying9 h3
def valueS (l : List UInt8) : ByteArray := ⟨(RqF.valueT l).toArray⟩
theorem itoa_len (n : Nat) (h : n ≤ 1099511627776) : (Lib.itoa (n : Int)).length ≤ 15 := by
  rw [RqF.itoa_nat]; exact RqF.dec_len (by omega)

theorem ba_cat (a b : ByteArray) : (a ++ b).data.toList = a.data.toList ++ b.data.toList := by simp
theorem size_of (x : List UInt8) : (⟨x.toArray⟩ : ByteArray).size = x.length := by rw [Lib.size_eq]
theorem itoa_as (n : Nat) (D : ByteArray) (w : World) (hn : n ≤ 1099511627776) (hD : D = ⟨(Lib.itoa (n : Int)).toArray⟩) (ht : Tabs w) :
    Calls Tryd.prog 36 #[.int .i64 n] w fun e w' => e = .returned (.string D) ∧ Below w.heap.size w w' := by
  subst hD; exact itoa_any n w (by omega) (by omega) ht
set_option maxRecDepth 100000 in
set_option maxHeartbeats 2000000 in
theorem value_tells (A : Option Addr) (c : Nat) (l : List UInt8) (w : World) (ht : Tabs w) (hl : BytesAt A l w) (hs : l.length ≤ 1099511627776) :
    Calls Tryd.prog 11 #[.slice A l.length c] w fun r w' => r = .returned (.string (valueS l)) ∧ Below w.heap.size w w' := by
  obtain ⟨X, hX⟩ : ∃ X : ByteArray, X = ⟨l.toArray⟩ := ⟨_, rfl⟩
  obtain ⟨D, hD⟩ : ∃ D : ByteArray, D = ⟨(Lib.itoa (l.length : Int)).toArray⟩ := ⟨_, rfl⟩
  obtain ⟨T, hT⟩ : ∃ T : ByteArray, T.data.toList = RqF.tellR [[86, 65, 76, 85, 69], D.data.toList] := ⟨⟨(RqF.tellR [[86, 65, 76, 85, 69], D.data.toList]).toArray⟩, by simp⟩
  have hXs : X.size ≤ 1099511627776 := by rw [hX, size_of]; exact hs
  have hTs : T.size ≤ 100 := by
    rw [Lib.size_eq, hT]
    unfold RqF.tellR
    rw [RqF.joinW_cons2, RqF.joinW_one]
    have := itoa_len l.length hs
    rw [hD]
    simp; omega
  have HC : ∀ w', Below w.heap.size w w' → (convert 22 9 (.slice A l.length c)).run Tryd.prog w' = .ok (.string X) w' := fun w' hb => bytes_back X hX (hl.below hb)
  have HCC := Lib.hid HC; clear HC
  have hs1 : ¬ 9223372036854775807 < T.size + X.size := by omega
  have hs2 : ¬ 9223372036854775807 < T.size + X.size + 1 := by omega
  have HT := Lib.hid hT; have HX := Lib.hid hX; have HD := Lib.hid hD; have HTab := Lib.hid ht
  clear hT hX hD ht hl
  go_enter Tryd.func11, Tryd.ntmps11
  go_wp2_with fail
  go_region_held3 (fun w' => Below w.heap.size w w' ∧ (convert 22 9 (.slice A l.length c)).run Tryd.prog w' = .ok (.string X) w')
    (first | exact ⟨Below.drew (Below.refl _ _), HCC.out _ (Below.drew (Below.refl _ _))⟩ | exact ⟨below_trans (Below.drew (Below.refl _ _)) hb1, HCC.out _ (below_trans (Below.drew (Below.refl _ _)) hb1)⟩ | exact ⟨below_trans (below_trans (Below.drew (Below.refl _ _)) hb1) hb2, HCC.out _ (below_trans (below_trans (Below.drew (Below.refl _ _)) hb1) hb2)⟩ | exact ⟨below_trans (below_trans (Below.drew (Below.refl _ _)) hb1) ((Below.refl _ _).alloc (Nat.le_refl _) _), HCC.out _ (below_trans (below_trans (Below.drew (Below.refl _ _)) hb1) ((Below.refl _ _).alloc (Nat.le_refl _) _))⟩)
    (first | (go_at_call 36; refine (itoa_as l.length D _ hs HD.out (HTab.out.below (by first | exact Below.drew (Below.refl _ _) | assumption))).mono ?_; rintro e w1 ⟨rfl, hb1⟩) | (go_at_call 35; refine (told_laid _ [⟨#[86, 65, 76, 85, 69]⟩, D] _ 2 T rfl rfl HT.out (by omega)).mono ?_; rintro e w2 ⟨rfl, hb2⟩))
  rename_i hHeld
  have HB := Lib.hid hHeld.1
  clear hHeld hb1 hb2
  go_wp2_with fail
  go_ret
  refine ⟨congrArg (fun s => Ending.returned (.string s)) (ba_eq ?_), HB.out⟩
  rw [ba_cat, ba_cat, HT.out, HX.out, HD.out]
  simp [valueS, RqF.valueT, RqF.sVALUE]
end Go.Proofs.YtnjmhneobgmejaaDoor
