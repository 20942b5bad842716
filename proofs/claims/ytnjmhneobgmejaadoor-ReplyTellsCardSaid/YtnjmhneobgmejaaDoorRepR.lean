/- The walk of reply.Pairs. Conditions: the library's tables are as they are laid; what is told is of at most 2^40 bytes. -/
import Derived.Test.YtnjmhneobgmejaaDoorRepS
namespace Go.Proofs.YtnjmhneobgmejaaDoor
open Go.RowKit

/-- A pair as it lies in memory: its key, and where its value's bytes lie. -/
structure PairV where
  key : ByteArray
  addr : Option Addr
  cap : Nat
  val : List UInt8
/-- Pairs, as structs in a row (a row of none may lie nowhere). -/
def PairsAt (A : Option Addr) (l : List PairV) (w : World) : Prop :=
  ∀ (i : Nat) (h : i < l.length), ∃ a : Addr, A = some a ∧ a.block < w.heap.size ∧ w.cell? (a.add (i * 2)) = some (.string (l[i]).key) ∧ w.cell? ⟨(a.add (i * 2)).block, (a.add (i * 2)).off + 1, none⟩ = some (.slice (l[i]).addr (l[i]).val.length (l[i]).cap) ∧ BytesAt (l[i]).addr (l[i]).val w
theorem PairsAt.below {A : Option Addr} {l : List PairV} {w w' : World} (h : PairsAt A l w) (hb : Below w.heap.size w w') : PairsAt A l w' := by
  intro i hi
  obtain ⟨a, h1, h2, h3, h4, h5⟩ := h i hi
  exact ⟨a, h1, Nat.lt_of_lt_of_le h2 hb.size, (hb.cell (by rw [add_block]; exact h2)).trans h3, (hb.cell (by show (a.add (i * 2)).block < _; rw [add_block]; exact h2)).trans h4, h5.below hb⟩
theorem pair_cells {w : World} {g : Nat} {nm : ByteArray} {v : Value} (h : w.heap[g]? = some (.cells #[.string nm, v] 30 (0, 0))) :
    w.heap[g]? = some (.cells #[.string nm, v] 30 (0, 0)) ∧ w.cell? ⟨g, 0, none⟩ = some (.string nm) ∧ w.cell? ⟨g, 1, none⟩ = some v := ⟨h, blk_cell h rfl, blk_cell h rfl⟩
def prT (p : PairV) : List UInt8 := RqF.tellR [p.key.data.toList, Lib.itoa (p.val.length : Int)] ++ (p.val ++ [10])
def prsT (n : Nat) (l : List PairV) : List UInt8 := RqF.tellR [RqF.sPAIRS, Lib.itoa (n : Int)] ++ (l.map prT).flatten
theorem prsT_succ {n : Nat} {l : List PairV} {k : Nat} (h : k < l.length) : prsT n (l.take (k + 1)) = prsT n (l.take k) ++ prT l[k] := by
  unfold prsT
  rw [List.take_succ_eq_append_getElem h, List.map_append, List.flatten_append, List.append_assoc]
  congr 2
  simp
theorem prsT_le (n : Nat) (l : List PairV) (k : Nat) : (prsT n (l.take k)).length ≤ (prsT n l).length := by
  unfold prsT
  have e : (l.map prT).flatten = ((l.take k).map prT).flatten ++ ((l.drop k).map prT).flatten := by
    rw [← List.flatten_append, ← List.map_append, List.take_append_drop]
  rw [e, List.length_append, List.length_append, List.length_append]
  omega
/-- What stands at each round's head: the pairs so far are written. -/
def PairsInv (w : World) (b : Nat) (n : Nat) (l : List PairV) (iv : Value) (wr : World) : Prop :=
  ∃ k : Nat, iv = .int .i64 k ∧ k ≤ l.length ∧ Lib.IsBuilderF 70 5 w.heap.size b (Lib.byteCells (prsT n (l.take k))) wr ∧ Below w.heap.size w wr

set_option maxRecDepth 100000 in
set_option maxHeartbeats 2000000 in
theorem pairs_tells (A : Option Addr) (c : Nat) (l : List PairV) (w : World) (ht : Tabs w) (hm : PairsAt A l w) (hn : l.length ≤ 1099511627776) (hlen : (prsT l.length l).length ≤ 1099511627776) :
    Calls Tryd.prog 13 #[.slice A l.length c] w fun r w' => r = .returned (.string ⟨(prsT l.length l).toArray⟩) ∧ Below w.heap.size w w' := by
  obtain ⟨D, hD⟩ : ∃ D : ByteArray, D = ⟨(Lib.itoa (l.length : Int)).toArray⟩ := ⟨_, rfl⟩
  have HD := Lib.hid hD; have HT := Lib.hid ht; have HM := Lib.hid hm; have HL := Lib.hid hlen
  clear hD ht hm hlen
  go_enter Tryd.func13, Tryd.ntmps13
  go_wp2_with fail
  have HN := Lib.hid (writer_new w)
  refine (itoa_as l.length D _ hn HD.out (HT.out.below ((Below.refl _ _).alloc (Nat.le_refl _) _))).mono ?_
  rintro r w1 ⟨rfl, hb1⟩
  have HB1 := Lib.hid hb1; clear hb1
  go_wp2_with fail
  refine (wline_laid w.heap.size w.heap.size [⟨#[80, 65, 73, 82, 83]⟩, D] _ 2 [] (prsT l.length []) _ (isB_below HN.out HB1.out) (Nat.le_trans (by simp) HB1.out.size) rfl rfl (by rw [HD.out]; simp [prsT, RqF.sPAIRS]) ?_).mono ?_
  · have := HL.out
    unfold prsT at this ⊢
    rw [List.length_append] at this
    simp
    omega
  rintro r w2 ⟨rfl, hI, hB2, -⟩
  have HI := Lib.hid hI; have HB2 := Lib.hid (((Below.refl _ _).alloc (Nat.le_refl _) _).trans ((HB1.out.mono (by simp)).trans hB2))
  clear hI hB2
  go_wp2_with fail
  go_loopw [16] (fun iv wr => PairsInv w w.heap.size l.length l iv wr) (fun iv _ => l.length - (intOf iv).toNat)
  case atStart => exact ⟨0, rfl, Nat.zero_le _, HI.out, HB2.out⟩
  case round =>
    obtain ⟨k, rfl, hk, hI, hbr⟩ := hrel
    have HI := Lib.hid hI; have HBR := Lib.hid hbr
    clear hI hbr
    by_cases hlt : k < l.length
    · obtain ⟨a, rfl, ha, hc0, hc1, hby⟩ := HM.out.below HBR.out k hlt
      obtain ⟨nm, A1, c1, vb, hp⟩ : ∃ nm A1 c1 vb, l[k] = ⟨nm, A1, c1, vb⟩ := ⟨_, _, _, _, rfl⟩
      rw [hp] at hc0 hc1 hby
      simp only at hc0 hc1 hby
      obtain ⟨F, hF⟩ : ∃ F : ByteArray, F = ⟨(Lib.itoa (vb.length : Int)).toArray⟩ := ⟨_, rfl⟩
      obtain ⟨X, hX⟩ : ∃ X : ByteArray, X = ⟨vb.toArray⟩ := ⟨_, rfl⟩
      have hnext : prsT l.length (l.take (k + 1)) = prsT l.length (l.take k) ++ RqF.tellR ([nm, F].map (·.data.toList)) ++ (vb ++ [10]) := by
        rw [prsT_succ hlt, hp, hF]; simp [prT]
      have hnl : (prsT l.length (l.take (k + 1))).length ≤ 1099511627776 := Nat.le_trans (prsT_le _ _ _) HL.out
      have hvl : vb.length ≤ 1099511627776 := by
        have e := congrArg List.length hnext
        simp only [List.length_append] at e
        omega
      have hml : (prsT l.length (l.take k) ++ RqF.tellR ([nm, F].map (·.data.toList))).length ≤ 140737488355328 := by rw [hnext, List.length_append] at hnl; omega
      have hXs : X.size ≤ 1099511627776 := by rw [hX, size_of]; exact hvl
      have hs1 : ¬ 9223372036854775807 < X.size + 1 := by omega
      have hwl : (Lib.byteCells (prsT l.length (l.take k) ++ RqF.tellR ([nm, F].map (·.data.toList)))).length + (X ++ ⟨#[10]⟩ : ByteArray).size ≤ 140737488355328 := by
        rw [Lib.byteCells_length]
        have : (X ++ ⟨#[10]⟩ : ByteArray).size = vb.length + 1 := by rw [Lib.size_eq, ba_cat, hX]; simp
        rw [this]
        rw [hnext, List.length_append] at hnl
        simp at hnl ⊢
        omega
      have hbw : BytesAt A1 vb w := by
        obtain ⟨_, _, _, _, _, h5⟩ := HM.out k hlt
        rw [hp] at h5; exact h5
      have HBW := Lib.hid hbw; clear hbw
      have HP := Lib.hid hp; have HF := Lib.hid hF; have HX := Lib.hid hX; have HNX := Lib.hid hnext; have HML := Lib.hid hml; have HWL := Lib.hid hwl; have HBY := Lib.hid hby
      have H0 : Hid ((wr.alloc (.cells #[.string nm, .slice A1 vb.length c1] 30)).heap[wr.heap.size]? = some (.cells #[.string nm, .slice A1 vb.length c1] 30 (0, 0))) := heap_alloc_new wr _
      have hbx : Below wr.heap.size wr (wr.alloc (.cells #[.string nm, .slice A1 vb.length c1] 30)) := (Below.refl _ _).alloc (Nat.le_refl _) _
      have HI2 := Lib.hid (isB_below HI.out hbx)
      have HNE : Hid (wr.heap.size ≠ w.heap.size) := by have := isB_lt HI.out; show _ ≠ _; omega
      have HBX := Lib.hid (HBR.out.trans (hbx.mono HBR.out.size))
      have HBYX := Lib.hid (hby.below hbx)
      clear hp hF hX hnext hnl hml hwl hbx ha hby
      go_wp2_with fail
      clear hc0 hc1
      obtain ⟨wx, hwx⟩ : ∃ wx : World, wx = wr.alloc (.cells #[.string nm, .slice A1 vb.length c1] 30) := ⟨_, rfl⟩
      rw [← hwx]
      have H0x : Hid (wx.heap[wr.heap.size]? = some (.cells #[.string nm, .slice A1 vb.length c1] 30 (0, 0))) := by rw [hwx]; exact H0.out
      have HI2x : Hid (Lib.IsBuilderF 70 5 w.heap.size w.heap.size (Lib.byteCells (prsT l.length (l.take k))) wx) := by rw [hwx]; exact HI2.out
      have HBXx : Hid (Below w.heap.size w wx) := by rw [hwx]; exact HBX.out
      clear hwx
      go_region_held3 (fun w' => w'.heap[wr.heap.size]? = some (.cells #[.string nm, .slice A1 vb.length c1] 30 (0, 0)) ∧ w'.cell? ⟨wr.heap.size, 0, none⟩ = some (.string nm) ∧ w'.cell? ⟨wr.heap.size, 1, none⟩ = some (.slice A1 vb.length c1))
        (first | exact pair_cells H0x.out | exact pair_cells (below_blk hb2 H0x.out) | exact pair_cells (below_blk ((Below.refl _ _).alloc (Nat.le_refl _) _) (below_blk hb2 H0x.out)) | exact pair_cells (hk3 _ _ _ _ (below_blk hb2 H0x.out) (by decide) HNE.out))
        (first | (go_at_call 36; refine (itoa_as vb.length F _ hvl HF.out (HT.out.below HBXx.out.drew)).mono ?_; rintro e w2 ⟨rfl, hb2⟩) | (go_at_call 38; refine (wline_laid w.heap.size w.heap.size [nm, F] _ 2 _ _ _ (isB_below (show Lib.IsBuilderF 70 5 w.heap.size w.heap.size (Lib.byteCells (prsT l.length (l.take k))) wx.drew from HI2x.out) hb2) (Nat.le_trans HBXx.out.size hb2.size) rfl rfl rfl HML.out).mono ?_; rintro e w3 ⟨rfl, hI3, hB3, hk3⟩))
      rename_i hHeld
      have hb3 := (HBXx.out.drew.trans (hb2.mono HBXx.out.size)).trans hB3
      have HI3 := Lib.hid hI3; have HB3 := Lib.hid hb3
      have c1p : w3.cell? ⟨wr.heap.size, 1, none⟩ = some (.slice A1 vb.length c1) := hHeld.2.2
      clear hHeld hI3 hB3 hk3 hb2 hb3
      go_wp2_with fail
      have hcv : (convert 22 9 (.slice A1 vb.length c1)).run Tryd.prog w3.drew = .ok (.string X) w3.drew := bytes_back X HX.out (show BytesAt A1 vb w3.drew from HBW.out.below HB3.out.drew)
      go_region_with (go_at_call 39; refine (write_any w.heap.size w.heap.size _ _ _ (show Lib.IsBuilderF 70 5 w.heap.size w.heap.size (Lib.byteCells (prsT l.length (l.take k) ++ RqF.tellR ([nm, F].map (·.data.toList)))) w3.drew from HI3.out) HWL.out (show w.heap.size ≤ w3.drew.heap.size from HB3.out.size)).mono ?_; rintro e w4 ⟨rfl, hA, hb4⟩)
      have hA2 : Lib.IsBuilderF 70 5 w.heap.size w.heap.size (Lib.byteCells (prsT l.length (l.take (k + 1)))) w4 := by
        refine .inr ?_
        rw [byteCells_str, ba_cat, HX.out] at hA
        rw [HNX.out]
        simpa using hA
      have HA2 := Lib.hid hA2; have HB4 := Lib.hid (HB3.out.drew.trans hb4)
      clear hA hA2 hb4 hcv c1p
      go_wp2_with fail
      go_roundw
      case measure => simp [intOf]; omega
      case rel => exact ⟨k + 1, by go_num, by omega, HA2.out, HB4.out⟩
    · obtain rfl : k = l.length := by omega
      have hne : prsT l.length (l.take l.length) ≠ [] := by unfold prsT; simp [RqF.tellR]
      have HNE := Lib.hid hne; clear hne
      go_wp2_with fail
      refine (string_any w.heap.size w.heap.size _ _ HI.out HNE.out).mono ?_
      rintro r w4 ⟨rfl, hb4⟩
      go_wp2_with fail
      go_ret
      exact ⟨rfl, HBR.out.trans hb4⟩
end Go.Proofs.YtnjmhneobgmejaaDoor
