/- The walks of the document's Pairs and Spread; of reply.Spread. Conditions: the library's tables are as they are laid; what is told is of at most 2^40 bytes. -/
import Derived.Test.YtnjmhneobgmejaaDoorTellC
import Derived.Deep.RegionHeld3
namespace Go.Proofs.YtnjmhneobgmejaaDoor
open Go.RowKit

/-- The document's pairs: keys and texts, as structs in a row. -/
def RPairsAt (A : Option Addr) (l : List PairV) (w : World) : Prop :=
  ∀ (i : Nat) (h : i < l.length), ∃ a : Addr, A = some a ∧ a.block < w.heap.size ∧ w.cell? (a.add (i * 2)) = some (.string (l[i]).key) ∧ w.cell? ⟨(a.add (i * 2)).block, (a.add (i * 2)).off + 1, none⟩ = some (.string ⟨(l[i]).val.toArray⟩)
theorem RPairsAt.below {A : Option Addr} {l : List PairV} {w w' : World} (h : RPairsAt A l w) (hb : Below w.heap.size w w') : RPairsAt A l w' := by
  intro i hi
  obtain ⟨a, h1, h2, h3, h4⟩ := h i hi
  exact ⟨a, h1, Nat.lt_of_lt_of_le h2 hb.size, (hb.cell (by rw [add_block]; exact h2)).trans h3, (hb.cell (by show (a.add (i * 2)).block < _; rw [add_block]; exact h2)).trans h4⟩
def PrInvR (w : World) (l : List PairV) (s iv : Value) (wr : World) : Prop :=
  ∃ (k : Nat) (S : ByteArray), iv = .int .i64 k ∧ k ≤ l.length ∧ s = .string S ∧ S.data.toList = prsT l.length (l.take k) ∧ Below w.heap.size w wr
set_option maxRecDepth 100000 in
set_option maxHeartbeats 2000000 in
theorem r18pairs_any (A : Option Addr) (c : Nat) (l : List PairV) (w : World) (hA : RPairsAt A l w) (hn : l.length ≤ 1000) (hlen : (prsT l.length l).length ≤ 1099511627776) :
    Calls Tryd.prog 14 #[.slice A l.length c] w fun r w' => r = .returned (.string ⟨(prsT l.length l).toArray⟩) ∧ Below w.heap.size w w' := by
  obtain ⟨D, hD⟩ : ∃ D : ByteArray, D = itoaS (l.length : Int) := ⟨_, rfl⟩
  have hDs : D.size ≤ 25 := by rw [hD]; exact itoaS_size _ (by omega) (by omega)
  have h0 : ({ data := #[80, 65, 73, 82, 83, 32] } ++ D ++ { data := #[10] } : ByteArray).data.toList = prsT l.length (l.take 0) := by
    rw [ba_cat, ba_cat, hD]; unfold prsT RqF.tellR; rw [RqF.joinW_cons2, RqF.joinW_one]; simp [RqF.sPAIRS, itoaS]
  have H0 := Lib.hid h0; have HD := Lib.hid hD; have HA := Lib.hid hA; have HLEN := Lib.hid hlen
  clear h0 hD hA hlen
  go_enter Tryd.func14, Tryd.ntmps14
  go_wp2_with fail
  refine (r18digits_as l.length D _ (by omega) (by omega) HD.out).mono ?_
  rintro r w1 ⟨rfl, rfl⟩
  go_wp2_with fail
  go_loopw [3, 4] (fun s iv wr => PrInvR w l s iv wr) (fun _ iv _ => l.length - (intOf iv).toNat)
  case atStart => exact ⟨0, _, rfl, Nat.zero_le _, rfl, H0.out, Below.refl _ _⟩
  case round =>
    obtain ⟨k, S, rfl, hk, rfl, hS, hbr⟩ := hrel
    have hSs : S.size ≤ 1099511627776 := by rw [Lib.size_eq, hS]; exact Nat.le_trans (prsT_le _ _ _) HLEN.out
    have HS := Lib.hid hS; have HBR := Lib.hid hbr; clear hS hbr
    by_cases hlt : k < l.length
    · obtain ⟨a, rfl, ha, hca, hcb⟩ := HA.out.below HBR.out k hlt
      obtain ⟨nm, A1, c1, vb, hp⟩ : ∃ nm A1 c1 vb, l[k] = ⟨nm, A1, c1, vb⟩ := ⟨_, _, _, _, rfl⟩
      rw [hp] at hca hcb
      simp only at hca hcb
      obtain ⟨X, hX⟩ : ∃ X : ByteArray, X = ⟨vb.toArray⟩ := ⟨_, rfl⟩
      rw [← hX] at hcb
      obtain ⟨F, hF⟩ : ∃ F : ByteArray, F = itoaS (X.size : Int) := ⟨_, rfl⟩
      have hXd : X.data.toList = vb := by rw [hX]
      have hXv : X.size = vb.length := by rw [hX, size_of]
      have hnx : prsT l.length (l.take (k + 1)) = S.data.toList ++ (nm.data.toList ++ [32] ++ F.data.toList ++ [10] ++ X.data.toList ++ [10]) := by
        rw [prsT_succ hlt, hp, HS.out, hF, hXd, hXv]
        unfold prT RqF.tellR; rw [RqF.joinW_cons2, RqF.joinW_one]; simp [itoaS]
      have hnl : (prsT l.length (l.take (k + 1))).length ≤ 1099511627776 := Nat.le_trans (prsT_le _ _ _) HLEN.out
      have hnm : S.size + nm.size + 1 + F.size + 1 + X.size + 1 ≤ 1099511627776 := by
        rw [hnx] at hnl
        simp only [List.length_append, List.length_cons, List.length_nil] at hnl
        rw [← Lib.size_eq, ← Lib.size_eq, ← Lib.size_eq, ← Lib.size_eq] at hnl
        omega
      have hs1 : ¬ 9223372036854775807 < S.size + nm.size := by omega
      have hs2 : ¬ 9223372036854775807 < S.size + nm.size + 1 := by omega
      have hs3 : ¬ 9223372036854775807 < S.size + nm.size + 1 + F.size := by omega
      have hs4 : ¬ 9223372036854775807 < S.size + nm.size + 1 + F.size + 1 := by omega
      have hs5 : ¬ 9223372036854775807 < S.size + nm.size + 1 + F.size + 1 + X.size := by omega
      have hs6 : ¬ 9223372036854775807 < S.size + nm.size + 1 + F.size + 1 + X.size + 1 := by omega
      have hi0 : (0 : Int) ≤ (k : Int) := by omega
      have hi1 : (k : Int) < (l.length : Int) := by omega
      have HF := Lib.hid hF; have HNX := Lib.hid hnx
      clear hp hF hnx hnl ha hX hXd hXv
      go_wp2_with fail
      go_quiet ((go_at_call 37; exact Calls.quiet_flip (r18digits_as X.size F _ (by omega) (by omega) HF.out)))
      clear hs1 hs2 hs3 hs4 hs5 hs6 hi0 hi1 hca hcb
      go_wp2_with fail
      go_roundw
      case measure => simp [intOf]; omega
      case rel => exact ⟨k + 1, _, by go_num, by omega, rfl, by rw [ba_cat, ba_cat, ba_cat, ba_cat, ba_cat, ba_cat, HNX.out]; simp, below_dn HBR.out _⟩
    · obtain rfl : k = l.length := by omega
      have hfin : S = ⟨(prsT l.length l).toArray⟩ := ba_eq (by rw [HS.out, List.take_length])
      have HFIN := Lib.hid hfin; clear hfin
      go_wp2_with fail
      go_ret
      exact ⟨congrArg (fun s => Ending.returned (.string s)) HFIN.out, HBR.out⟩

def spreadS (n : Int) (a b c d : Nat) : ByteArray := ⟨(RqF.spreadT n a b c d).toArray⟩
theorem spreadS_eq (n : Int) (a b c d : Nat) (D F1 F2 F3 F4 : ByteArray) (hD : D = itoaS n) (h1 : F1 = ⟨(RqF.textF a).toArray⟩) (h2 : F2 = ⟨(RqF.textF b).toArray⟩) (h3 : F3 = ⟨(RqF.textF c).toArray⟩) (h4 : F4 = ⟨(RqF.textF d).toArray⟩) :
    spreadS n a b c d = { data := #[83, 80, 82, 69, 65, 68, 32] } ++ D ++ { data := #[32] } ++ F1 ++ { data := #[32] } ++ F2 ++ { data := #[32] } ++ F3 ++ { data := #[32] } ++ F4 ++ { data := #[10] } := by
  subst hD; subst h1; subst h2; subst h3; subst h4
  refine ba_eq ?_
  simp only [ba_cat]
  unfold spreadS RqF.spreadT RqF.tellR
  rw [RqF.joinW_cons2, RqF.joinW_cons2, RqF.joinW_cons2, RqF.joinW_cons2, RqF.joinW_cons2, RqF.joinW_one]
  simp [RqF.sSPREAD, itoaS]
set_option maxRecDepth 100000 in
set_option maxHeartbeats 2000000 in
theorem r18spread_any (n : Int) (a b c d : Nat) (w : World) (h0 : -9223372036854775808 < n) (h1 : n ≤ 9223372036854775807) (ha : a < 2 * RqF.sgn) (hb : b < 2 * RqF.sgn) (hc : c < 2 * RqF.sgn) (hd : d < 2 * RqF.sgn) :
    Calls Tryd.prog 22 #[.agg #[.int .i64 n, .float .f64 a, .float .f64 b, .float .f64 c, .float .f64 d]] w fun r w' => r = .returned (.string (spreadS n a b c d)) ∧ Below w.heap.size w w' := by
  obtain ⟨D, hD⟩ : ∃ D : ByteArray, D = itoaS n := ⟨_, rfl⟩
  obtain ⟨F1, e1⟩ : ∃ F : ByteArray, F = ⟨(RqF.textF a).toArray⟩ := ⟨_, rfl⟩
  obtain ⟨F2, e2⟩ : ∃ F : ByteArray, F = ⟨(RqF.textF b).toArray⟩ := ⟨_, rfl⟩
  obtain ⟨F3, e3⟩ : ∃ F : ByteArray, F = ⟨(RqF.textF c).toArray⟩ := ⟨_, rfl⟩
  obtain ⟨F4, e4⟩ : ∃ F : ByteArray, F = ⟨(RqF.textF d).toArray⟩ := ⟨_, rfl⟩
  have hDs : D.size ≤ 25 := by rw [hD]; exact itoaS_size _ h0 h1
  have s1 : F1.size ≤ 30 := by rw [e1, size_of]; exact RqF.text_len30 a
  have s2 : F2.size ≤ 30 := by rw [e2, size_of]; exact RqF.text_len30 b
  have s3 : F3.size ≤ 30 := by rw [e3, size_of]; exact RqF.text_len30 c
  have s4 : F4.size ≤ 30 := by rw [e4, size_of]; exact RqF.text_len30 d
  rw [spreadS_eq n a b c d D F1 F2 F3 F4 hD e1 e2 e3 e4]
  have HD := Lib.hid hD; have E1 := Lib.hid e1; have E2 := Lib.hid e2; have E3 := Lib.hid e3; have E4 := Lib.hid e4
  have HAa := Lib.hid ha; have HBb := Lib.hid hb; have HCc := Lib.hid hc; have HDd := Lib.hid hd
  clear hD e1 e2 e3 e4 ha hb hc hd
  have k1 : ¬ 9223372036854775807 < 7 + D.size := by omega
  have k2 : ¬ 9223372036854775807 < 7 + D.size + 1 := by omega
  have k3 : ¬ 9223372036854775807 < 7 + D.size + 1 + F1.size := by omega
  have k4 : ¬ 9223372036854775807 < 7 + D.size + 1 + F1.size + 1 := by omega
  have k5 : ¬ 9223372036854775807 < 7 + D.size + 1 + F1.size + 1 + F2.size := by omega
  have k6 : ¬ 9223372036854775807 < 7 + D.size + 1 + F1.size + 1 + F2.size + 1 := by omega
  have k7 : ¬ 9223372036854775807 < 7 + D.size + 1 + F1.size + 1 + F2.size + 1 + F3.size := by omega
  have k8 : ¬ 9223372036854775807 < 7 + D.size + 1 + F1.size + 1 + F2.size + 1 + F3.size + 1 := by omega
  have k9 : ¬ 9223372036854775807 < 7 + D.size + 1 + F1.size + 1 + F2.size + 1 + F3.size + 1 + F4.size := by omega
  have k10 : ¬ 9223372036854775807 < 7 + D.size + 1 + F1.size + 1 + F2.size + 1 + F3.size + 1 + F4.size + 1 := by omega
  go_enter Tryd.func22, Tryd.ntmps22
  go_wp2_with fail
  go_quiet (first | (go_at_call 37; exact Calls.quiet_flip (r18digits_as n D _ h0 h1 HD.out)) | (go_at_call 42; first | (with_reducible exact Calls.quiet_flip (r3text_as a F1 _ HAa.out E1.out)) | (with_reducible exact Calls.quiet_flip (r3text_as b F2 _ HBb.out E2.out)) | (with_reducible exact Calls.quiet_flip (r3text_as c F3 _ HCc.out E3.out)) | (with_reducible exact Calls.quiet_flip (r3text_as d F4 _ HDd.out E4.out))))
  clear k1 k2 k3 k4 k5 k6 k7 k8 k9 k10
  go_wp2_with fail
  go_ret
  exact ⟨rfl, below_dn ((Below.refl _ _).alloc (Nat.le_refl _) _) _⟩
end Go.Proofs.YtnjmhneobgmejaaDoor
