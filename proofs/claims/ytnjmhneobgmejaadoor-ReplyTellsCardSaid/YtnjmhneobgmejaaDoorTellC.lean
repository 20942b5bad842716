/- The walks of the document's Numbers, Scored, Pairs. Conditions: what is told is of at most 2^40 bytes. -/
import Derived.Test.YtnjmhneobgmejaaDoorTellB
import Derived.Deep.QuietTactic
import Derived.BigQuiet
namespace Go.Proofs.YtnjmhneobgmejaaDoor
open Go.RowKit

theorem Calls.quiet_flip {P : Program} {f : FuncId} {args : Array Value} {w : World} {n : Nat} {v : Value}
    (h : Calls P f args (w.drewN n) fun e w' => e = .returned v ∧ w.drewN n = w') : Calls P f args (w.drewN n) fun e w'' => e = .returned v ∧ ∃ m, w'' = w.drewN m :=
  h.mono fun _ _ ⟨he, hm⟩ => ⟨he, n, hm.symm⟩
theorem below_dn {B : Nat} {w w' : World} (h : Below B w w') (n : Nat) : Below B w (w'.drewN n) := ⟨h.os, h.tape, h.output, h.size, h.block⟩

/-- The numbers so far, as the document puts them together. -/
def numsP (n : Nat) (l : List Int) : List UInt8 := RqF.sNUMBERS ++ 32 :: (Lib.itoa (n : Int) ++ (l.map fun x => 32 :: Lib.itoa x).flatten)
theorem numsP_snoc (n : Nat) (l : List Int) (x : Int) : numsP n (l ++ [x]) = numsP n l ++ (32 :: Lib.itoa x) := by unfold numsP; simp
theorem numsP_end (l : List Int) : numsP l.length l ++ [10] = RqF.tellR (numsW l.length l) := by
  unfold numsP numsW RqF.tellR RqF.joinW
  rw [Lib.join_cons]
  simp [Lib.joinTail, Function.comp_def]
theorem numsP_le (n : Nat) (l : List Int) (k : Nat) : (numsP n (l.take k)).length ≤ (numsP n l).length := by
  conv => rhs; rw [← List.take_append_drop k l]
  unfold numsP
  rw [List.map_append, List.flatten_append]
  simp
def NumsInv2 (l : List Int) (s iv : Value) : Prop := ∃ (k : Nat) (S : ByteArray), iv = .int .i64 k ∧ k ≤ l.length ∧ s = .string S ∧ S.data.toList = numsP l.length (l.take k)
set_option maxRecDepth 100000 in
set_option maxHeartbeats 1000000 in
theorem r18numbers_any (A : Option Addr) (c : Nat) (l : List Int) (w : World) (hl : NumsAt A l w) (hn : l.length ≤ 1000) :
    Calls Tryd.prog 20 #[.slice A l.length c] w fun r w' => r = .returned (.string (numsS l)) ∧ w = w' := by
  have hall : ∀ x ∈ l, -9223372036854775808 < x ∧ x ≤ 9223372036854775807 := by
    intro x hx
    obtain ⟨i, hi, rfl⟩ := List.getElem_of_mem hx
    obtain ⟨_, _, _, _, h4, h5⟩ := hl i hi
    exact ⟨h4, h5⟩
  have hlen : (numsP l.length l).length ≤ 40000 := by
    have h1 := numsT_len l hn hall
    rw [← numsP_end, List.length_append] at h1
    simp at h1; omega
  have HLEN := Lib.hid hlen; have HL := Lib.hid hl
  obtain ⟨D, hD⟩ : ∃ D : ByteArray, D = itoaS (l.length : Int) := ⟨_, rfl⟩
  have hDs : D.size ≤ 25 := by rw [hD]; exact itoaS_size _ (by omega) (by omega)
  have h0 : ({ data := #[78, 85, 77, 66, 69, 82, 83, 32] } ++ D : ByteArray).data.toList = numsP l.length (l.take 0) := by
    rw [ba_cat, hD]; simp [numsP, RqF.sNUMBERS, itoaS]
  have H0 := Lib.hid h0; have HD := Lib.hid hD
  clear hlen hl hall h0 hD
  go_enter Tryd.func20, Tryd.ntmps20
  go_wp2_with fail
  refine (r18digits_as l.length D _ (by omega) (by omega) HD.out).mono ?_
  rintro r w1 ⟨rfl, rfl⟩
  go_wp2_with fail
  go_loop [3, 4] (fun s iv => NumsInv2 l s iv) (fun _ iv => l.length - (intOf iv).toNat)
  case atStart => exact ⟨0, _, rfl, Nat.zero_le _, rfl, H0.out⟩
  case round =>
    obtain ⟨k, S, rfl, hk, rfl, hS⟩ := hrel
    have hSs : S.size ≤ 40000 := by rw [Lib.size_eq, hS]; exact Nat.le_trans (numsP_le _ _ _) HLEN.out
    have HS := Lib.hid hS; clear hS
    by_cases hlt : k < l.length
    · obtain ⟨a, rfl, ha, hc, hx0, hx1⟩ := HL.out k hlt
      obtain ⟨x, hx⟩ : ∃ x, x = l[k] := ⟨_, rfl⟩
      rw [← hx] at hc hx0 hx1
      obtain ⟨E, hE⟩ : ∃ E : ByteArray, E = itoaS x := ⟨_, rfl⟩
      have hEs : E.size ≤ 25 := by rw [hE]; exact itoaS_size _ hx0 hx1
      have HX := Lib.hid hx; have HE := Lib.hid hE
      clear hx ha hE
      go_wp2_with fail
      refine (r18digits_as x E _ hx0 hx1 HE.out).mono ?_
      rintro r w2 ⟨rfl, rfl⟩
      go_wp2_with fail
      go_round
      case measure => simp [intOf]; omega
      case rel => exact ⟨k + 1, _, by go_num, by omega, rfl, by rw [ba_cat, ba_cat, HS.out, HE.out, List.take_succ_eq_append_getElem hlt, numsP_snoc, ← HX.out]; simp [itoaS]⟩
    · obtain rfl : k = l.length := by omega
      have hfin : S ++ { data := #[10] } = numsS l := by
        refine ba_eq ?_
        rw [ba_cat, HS.out, List.take_length]
        show numsP l.length l ++ [10] = _
        rw [numsP_end]; simp [numsS]
      have HFIN := Lib.hid hfin; clear hfin
      go_wp2_with fail
      go_ret
      exact ⟨congrArg (fun s => Ending.returned (.string s)) HFIN.out, rfl⟩

/-- Texts in a row. -/
def StrsAt (A : Option Addr) (N : List ByteArray) (w : World) : Prop := ∀ (i : Nat) (h : i < N.length), ∃ a : Addr, A = some a ∧ a.block < w.heap.size ∧ w.cell? (a.add i) = some (.string N[i])
theorem StrsAt.below {A : Option Addr} {l : List ByteArray} {w w' : World} (h : StrsAt A l w) (hb : Below w.heap.size w w') : StrsAt A l w' := by
  intro i hi
  obtain ⟨a, h1, h2, h3⟩ := h i hi
  exact ⟨a, h1, Nat.lt_of_lt_of_le h2 hb.size, (hb.cell (by rw [add_block]; exact h2)).trans h3⟩
/-- Doubles in a row. -/
def F64sAt (A : Option Addr) (X : List Nat) (w : World) : Prop := ∀ (i : Nat) (h : i < X.length), ∃ a : Addr, A = some a ∧ a.block < w.heap.size ∧ w.cell? (a.add i) = some (.float .f64 X[i])
theorem F64sAt.below {A : Option Addr} {l : List Nat} {w w' : World} (h : F64sAt A l w) (hb : Below w.heap.size w w') : F64sAt A l w' := by
  intro i hi
  obtain ⟨a, h1, h2, h3⟩ := h i hi
  exact ⟨a, h1, Nat.lt_of_lt_of_le h2 hb.size, (hb.cell (by rw [add_block]; exact h2)).trans h3⟩
def ScInvR (w : World) (l : List (ByteArray × Nat)) (s iv : Value) (wr : World) : Prop :=
  ∃ (k : Nat) (S : ByteArray), iv = .int .i64 k ∧ k ≤ l.length ∧ s = .string S ∧ S.data.toList = memsT l.length (l.take k) ∧ Below w.heap.size w wr
theorem memT_form (nm F : ByteArray) (x : Nat) (hF : F = ⟨(RqF.textF x).toArray⟩) : memT (nm, x) = nm.data.toList ++ [32] ++ F.data.toList ++ [10] := by
  subst hF
  unfold memT RqF.tellR; rw [RqF.joinW_cons2, RqF.joinW_one]; simp
set_option maxRecDepth 100000 in
set_option maxHeartbeats 2000000 in
theorem r18scored_any (A B : Option Addr) (c d : Nat) (l : List (ByteArray × Nat)) (w : World) (hA : StrsAt A (l.map (·.1)) w) (hB : F64sAt B (l.map (·.2)) w) (hx : ∀ p ∈ l, p.2 < 2 * RqF.sgn) (hn : l.length ≤ 1000) (hlen : (memsT l.length l).length ≤ 1099511627776) :
    Calls Tryd.prog 18 #[.slice A l.length c, .slice B l.length d] w fun r w' => r = .returned (.string ⟨(memsT l.length l).toArray⟩) ∧ Below w.heap.size w w' := by
  obtain ⟨D, hD⟩ : ∃ D : ByteArray, D = itoaS (l.length : Int) := ⟨_, rfl⟩
  have hDs : D.size ≤ 25 := by rw [hD]; exact itoaS_size _ (by omega) (by omega)
  have h0 : ({ data := #[83, 67, 79, 82, 69, 68, 32] } ++ D ++ { data := #[10] } : ByteArray).data.toList = memsT l.length (l.take 0) := by
    rw [ba_cat, ba_cat, hD]; unfold memsT RqF.tellR; rw [RqF.joinW_cons2, RqF.joinW_one]; simp [RqF.sSCORED, itoaS]
  have H0 := Lib.hid h0; have HD := Lib.hid hD; have HA := Lib.hid hA; have HB := Lib.hid hB; have HX := Lib.hid hx; have HLEN := Lib.hid hlen
  clear h0 hD hA hB hx hlen
  go_enter Tryd.func18, Tryd.ntmps18
  go_wp2_with fail
  refine (r18digits_as l.length D _ (by omega) (by omega) HD.out).mono ?_
  rintro r w1 ⟨rfl, rfl⟩
  go_wp2_with fail
  go_loopw [5, 6] (fun s iv wr => ScInvR w l s iv wr) (fun _ iv _ => l.length - (intOf iv).toNat)
  case atStart => exact ⟨0, _, rfl, Nat.zero_le _, rfl, H0.out, Below.refl _ _⟩
  case round =>
    obtain ⟨k, S, rfl, hk, rfl, hS, hbr⟩ := hrel
    have hSs : S.size ≤ 1099511627776 := by rw [Lib.size_eq, hS]; exact Nat.le_trans (memsT_le _ _ _) HLEN.out
    have HS := Lib.hid hS; have HBR := Lib.hid hbr; clear hS hbr
    by_cases hlt : k < l.length
    · obtain ⟨a, rfl, ha, hca⟩ := HA.out.below HBR.out k (by rw [List.length_map]; exact hlt)
      obtain ⟨b, rfl, hb, hcb⟩ := HB.out.below HBR.out k (by rw [List.length_map]; exact hlt)
      obtain ⟨nm, x, hp⟩ : ∃ nm x, l[k] = (nm, x) := ⟨_, _, rfl⟩
      rw [List.getElem_map, hp] at hca hcb
      simp only at hca hcb
      have hxx : x < 2 * RqF.sgn := by have := HX.out l[k] (List.getElem_mem hlt); rw [hp] at this; exact this
      obtain ⟨F, hF⟩ : ∃ F : ByteArray, F = ⟨(RqF.textF x).toArray⟩ := ⟨_, rfl⟩
      have hFs : F.size ≤ 30 := by rw [hF, size_of]; exact RqF.text_len30 x
      have hnx : memsT l.length (l.take (k + 1)) = S.data.toList ++ (nm.data.toList ++ [32] ++ F.data.toList ++ [10]) := by
        rw [memsT_succ hlt, hp, memT_form nm F x hF, HS.out]
      have hnl : (memsT l.length (l.take (k + 1))).length ≤ 1099511627776 := Nat.le_trans (memsT_le _ _ _) HLEN.out
      have hnm : S.size + nm.size + 1 + F.size + 1 ≤ 1099511627776 := by
        rw [hnx] at hnl
        simp only [List.length_append, List.length_cons, List.length_nil] at hnl
        rw [← Lib.size_eq, ← Lib.size_eq, ← Lib.size_eq] at hnl
        omega
      have hs1 : ¬ 9223372036854775807 < S.size + nm.size := by omega
      have hs2 : ¬ 9223372036854775807 < S.size + nm.size + 1 := by omega
      have hs3 : ¬ 9223372036854775807 < S.size + nm.size + 1 + F.size := by omega
      have hs4 : ¬ 9223372036854775807 < S.size + nm.size + 1 + F.size + 1 := by omega
      have hi0 : (0 : Int) ≤ (k : Int) := by omega
      have hi1 : (k : Int) < (l.length : Int) := by omega
      have HXX := Lib.hid hxx; have HF := Lib.hid hF; have HNX := Lib.hid hnx
      clear hp hxx hF hnx hnl ha hb
      go_wp2_with fail
      go_quiet ((go_at_call 42; exact Calls.quiet_flip (r3text_as x F _ HXX.out HF.out)))
      clear hs1 hs2 hs3 hs4 hi0 hi1 hca hcb
      go_wp2_with fail
      go_roundw
      case measure => simp [intOf]; omega
      case rel => exact ⟨k + 1, _, by go_num, by omega, rfl, by rw [ba_cat, ba_cat, ba_cat, ba_cat, HNX.out]; simp, below_dn HBR.out _⟩
    · obtain rfl : k = l.length := by omega
      have hfin : S = ⟨(memsT l.length l).toArray⟩ := ba_eq (by rw [HS.out, List.take_length])
      have HFIN := Lib.hid hfin; clear hfin
      go_wp2_with fail
      go_ret
      exact ⟨congrArg (fun s => Ending.returned (.string s)) HFIN.out, HBR.out⟩
end Go.Proofs.YtnjmhneobgmejaaDoor
