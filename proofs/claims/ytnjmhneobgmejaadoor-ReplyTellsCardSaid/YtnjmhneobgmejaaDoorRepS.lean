/- The walk of reply.Scored. Conditions: the library's tables are as they are laid; what is told is of at most 2^40 bytes. -/
import Derived.Test.YtnjmhneobgmejaaDoorRepV
namespace Go.Proofs.YtnjmhneobgmejaaDoor
open Go.RowKit

/-- A line of words that its caller has laid. -/
def LineLaid (B b : Nat) (T : List UInt8) (w : World) (e : Ending) (w' : World) : Prop :=
  e = .returned (.tuple #[]) ∧ Lib.IsBuilderF 70 5 B b (Lib.byteCells T) w' ∧ Below B w w' ∧ Kept b w w'
theorem wline_laid (B b : Nat) (ss : List ByteArray) (cs : Array Value) (n : Nat) (bs T : List UInt8) (w : World) (h : Lib.IsBuilderF 70 5 B b (Lib.byteCells bs) w) (hB : B ≤ w.heap.size) (hn : n = ss.length) (hcs : cs = (ss.map Value.string).toArray) (hT : T = bs ++ RqF.tellR (ss.map (·.data.toList))) (hlen : T.length ≤ 140737488355328) :
    Calls Tryd.prog 38 #[.pointer (some ⟨b, 0, none⟩), .slice (some ⟨w.heap.size, 0, none⟩) n n] (w.alloc (.cells cs 9)) (LineLaid B b T w) := by
  have hb : Below w.heap.size w (w.alloc (.cells cs 9)) := (Below.refl _ _).alloc (Nat.le_refl _) _
  have h1 := wline_kept B b w.heap.size (ss.map (·.data.toList)).length (ss.map (·.data.toList)) bs _ (isB_below h hb) (Nat.le_trans hB hb.size) (words_laid w ss cs hcs) (Nat.le_refl _) (by rw [hT, List.length_append] at hlen; exact hlen)
  rw [List.length_map, ← hn] at h1
  refine h1.mono ?_
  rintro e w' ⟨he, ⟨hI, hBl⟩, hK⟩
  exact ⟨he, by rw [hT]; exact hI, (hb.mono hB).trans hBl, (Kept.below hb).trans hK⟩
theorem isB_lt {B b : Nat} {bs : List Value} {w : World} (h : Lib.IsBuilderF 70 5 B b bs w) : b < w.heap.size := h.elim (fun x => x.lt) (fun x => x.lt)
/-- Members and their scores, as structs in a row (a row of none may lie nowhere). -/
def MembersAt (A : Option Addr) (l : List (ByteArray × Nat)) (w : World) : Prop :=
  ∀ (i : Nat) (h : i < l.length), ∃ a : Addr, A = some a ∧ a.block < w.heap.size ∧ w.cell? (a.add (i * 2)) = some (.string (l[i]).1) ∧ w.cell? ⟨(a.add (i * 2)).block, (a.add (i * 2)).off + 1, none⟩ = some (.float .f64 (l[i]).2)
theorem MembersAt.below {A : Option Addr} {l : List (ByteArray × Nat)} {w w' : World} (h : MembersAt A l w) (hb : Below w.heap.size w w') : MembersAt A l w' := by
  intro i hi
  obtain ⟨a, h1, h2, h3, h4⟩ := h i hi
  exact ⟨a, h1, Nat.lt_of_lt_of_le h2 hb.size, (hb.cell (by rw [add_block]; exact h2)).trans h3, (hb.cell (by show (a.add (i * 2)).block < _; rw [add_block]; exact h2)).trans h4⟩
theorem mem_cells {w : World} {g : Nat} {nm : ByteArray} {x : Nat} (h : w.heap[g]? = some (.cells #[.string nm, .float .f64 x] 39 (0, 0))) :
    w.heap[g]? = some (.cells #[.string nm, .float .f64 x] 39 (0, 0)) ∧ w.cell? ⟨g, 0, none⟩ = some (.string nm) ∧ w.cell? ⟨g, 1, none⟩ = some (.float .f64 x) := ⟨h, blk_cell h rfl, blk_cell h rfl⟩
theorem text_as (b : Nat) (F : ByteArray) (w : World) (ht : Tabs w) (hb : b < 2 * RqF.sgn) (hF : F = ⟨(RqF.textF b).toArray⟩) :
    Calls Tryd.prog 41 #[.float .f64 b] w fun e w' => e = .returned (.string F) ∧ Below w.heap.size w w' := by
  subst hF; exact text_any b w ht hb
def memT (p : ByteArray × Nat) : List UInt8 := RqF.tellR [p.1.data.toList, RqF.textF p.2]
theorem memT_eq (nm : ByteArray) (x : Nat) (F : ByteArray) (hF : F = ⟨(RqF.textF x).toArray⟩) : memT (nm, x) = RqF.tellR ([nm, F].map (·.data.toList)) := by subst hF; simp [memT]
def memsT (n : Nat) (l : List (ByteArray × Nat)) : List UInt8 := RqF.tellR [RqF.sSCORED, Lib.itoa (n : Int)] ++ (l.map memT).flatten
theorem memsT_succ {n : Nat} {l : List (ByteArray × Nat)} {k : Nat} (h : k < l.length) : memsT n (l.take (k + 1)) = memsT n (l.take k) ++ memT l[k] := by
  unfold memsT
  rw [List.take_succ_eq_append_getElem h, List.map_append, List.flatten_append, List.append_assoc]
  congr 2
  simp
theorem memsT_le (n : Nat) (l : List (ByteArray × Nat)) (k : Nat) : (memsT n (l.take k)).length ≤ (memsT n l).length := by
  unfold memsT
  have e : (l.map memT).flatten = ((l.take k).map memT).flatten ++ ((l.drop k).map memT).flatten := by
    rw [← List.flatten_append, ← List.map_append, List.take_append_drop]
  rw [e, List.length_append, List.length_append, List.length_append]
  omega
/-- What stands at each round's head: the members so far are written. -/
def ScoredInv (w : World) (b : Nat) (n : Nat) (l : List (ByteArray × Nat)) (iv : Value) (wr : World) : Prop :=
  ∃ k : Nat, iv = .int .i64 k ∧ k ≤ l.length ∧ Lib.IsBuilderF 70 5 w.heap.size b (Lib.byteCells (memsT n (l.take k))) wr ∧ Below w.heap.size w wr

set_option maxRecDepth 100000 in
set_option maxHeartbeats 2000000 in
theorem scored_tells (A : Option Addr) (c : Nat) (l : List (ByteArray × Nat)) (w : World) (ht : Tabs w) (hm : MembersAt A l w) (hx : ∀ p ∈ l, p.2 < 2 * RqF.sgn) (hn : l.length ≤ 1099511627776) (hlen : (memsT l.length l).length ≤ 1099511627776) :
    Calls Tryd.prog 17 #[.slice A l.length c] w fun r w' => r = .returned (.string ⟨(memsT l.length l).toArray⟩) ∧ Below w.heap.size w w' := by
  obtain ⟨D, hD⟩ : ∃ D : ByteArray, D = ⟨(Lib.itoa (l.length : Int)).toArray⟩ := ⟨_, rfl⟩
  have HD := Lib.hid hD; have HT := Lib.hid ht; have HM := Lib.hid hm; have HX := Lib.hid hx; have HL := Lib.hid hlen
  clear hD ht hm hx hlen
  go_enter Tryd.func17, Tryd.ntmps17
  go_wp2_with fail
  have HN := Lib.hid (writer_new w)
  refine (itoa_as l.length D _ hn HD.out (HT.out.below ((Below.refl _ _).alloc (Nat.le_refl _) _))).mono ?_
  rintro r w1 ⟨rfl, hb1⟩
  have HB1 := Lib.hid hb1; clear hb1
  go_wp2_with fail
  refine (wline_laid w.heap.size w.heap.size [⟨#[83, 67, 79, 82, 69, 68]⟩, D] _ 2 [] (memsT l.length []) _ (isB_below HN.out HB1.out) (Nat.le_trans (by simp) HB1.out.size) rfl rfl (by rw [HD.out]; simp [memsT, RqF.sSCORED]) ?_).mono ?_
  · have := HL.out
    unfold memsT at this ⊢
    rw [List.length_append] at this
    simp
    omega
  rintro r w2 ⟨rfl, hI, hB2, -⟩
  have HI := Lib.hid hI; have HB2 := Lib.hid (((Below.refl _ _).alloc (Nat.le_refl _) _).trans ((HB1.out.mono (by simp)).trans hB2))
  clear hI hB2
  go_wp2_with fail
  go_loopw [16] (fun iv wr => ScoredInv w w.heap.size l.length l iv wr) (fun iv _ => l.length - (intOf iv).toNat)
  case atStart => exact ⟨0, rfl, Nat.zero_le _, HI.out, HB2.out⟩
  case round =>
    obtain ⟨k, rfl, hk, hI, hbr⟩ := hrel
    have HI := Lib.hid hI; have HBR := Lib.hid hbr
    clear hI hbr
    by_cases hlt : k < l.length
    · obtain ⟨a, rfl, ha, hc0, hc1⟩ := HM.out.below HBR.out k hlt
      obtain ⟨nm, x, hp⟩ : ∃ nm x, l[k] = (nm, x) := ⟨_, _, rfl⟩
      rw [hp] at hc0 hc1
      have hxx : x < 2 * RqF.sgn := by have := HX.out l[k] (List.getElem_mem hlt); rw [hp] at this; exact this
      have HP := Lib.hid hp; have HXX := Lib.hid hxx
      clear hp hxx
      obtain ⟨F, hF⟩ : ∃ F : ByteArray, F = ⟨(RqF.textF x).toArray⟩ := ⟨_, rfl⟩
      have hnext : memsT l.length (l.take (k + 1)) = memsT l.length (l.take k) ++ RqF.tellR ([nm, F].map (·.data.toList)) := by
        rw [memsT_succ hlt, HP.out, memT_eq nm x F hF]
      have hnl : (memsT l.length (l.take (k + 1))).length ≤ 140737488355328 := Nat.le_trans (memsT_le _ _ _) (Nat.le_trans HL.out (by decide))
      have HF := Lib.hid hF; have HNX := Lib.hid hnext; have HNL := Lib.hid hnl
      have H0 : Hid ((wr.alloc (.cells #[.string nm, .float .f64 x] 39)).heap[wr.heap.size]? = some (.cells #[.string nm, .float .f64 x] 39 (0, 0))) := heap_alloc_new wr _
      have hbx : Below wr.heap.size wr (wr.alloc (.cells #[.string nm, .float .f64 x] 39)) := (Below.refl _ _).alloc (Nat.le_refl _) _
      have HI2 := Lib.hid (isB_below HI.out hbx)
      have HNE : Hid (wr.heap.size ≠ w.heap.size) := by have := isB_lt HI.out; show _ ≠ _; omega
      have HBX := Lib.hid (HBR.out.trans (hbx.mono HBR.out.size))
      clear hF hnext hnl hbx ha
      go_wp2_with fail
      clear hc0 hc1
      obtain ⟨wx, hwx⟩ : ∃ wx : World, wx = wr.alloc (.cells #[.string nm, .float .f64 x] 39) := ⟨_, rfl⟩
      rw [← hwx]
      have H0x : Hid (wx.heap[wr.heap.size]? = some (.cells #[.string nm, .float .f64 x] 39 (0, 0))) := by rw [hwx]; exact H0.out
      have HI2x : Hid (Lib.IsBuilderF 70 5 w.heap.size w.heap.size (Lib.byteCells (memsT l.length (l.take k))) wx) := by rw [hwx]; exact HI2.out
      have HBXx : Hid (Below w.heap.size w wx) := by rw [hwx]; exact HBX.out
      clear hwx
      go_region_held3 (fun w' => w'.heap[wr.heap.size]? = some (.cells #[.string nm, .float .f64 x] 39 (0, 0)) ∧ w'.cell? ⟨wr.heap.size, 0, none⟩ = some (.string nm) ∧ w'.cell? ⟨wr.heap.size, 1, none⟩ = some (.float .f64 x))
        (first | exact mem_cells H0x.out | exact mem_cells (below_blk hb2 H0x.out) | exact mem_cells (below_blk ((Below.refl _ _).alloc (Nat.le_refl _) _) (below_blk hb2 H0x.out)) | exact mem_cells (hk3 _ _ _ _ (below_blk hb2 H0x.out) (by decide) HNE.out))
        (first | (go_at_call 41; refine (text_as x F _ (HT.out.below HBXx.out.drew) HXX.out HF.out).mono ?_; rintro e w2 ⟨rfl, hb2⟩) | (go_at_call 38; refine (wline_laid w.heap.size w.heap.size [nm, F] _ 2 _ _ _ (isB_below (show Lib.IsBuilderF 70 5 w.heap.size w.heap.size (Lib.byteCells (memsT l.length (l.take k))) wx.drew from HI2x.out) hb2) (Nat.le_trans HBXx.out.size hb2.size) rfl rfl HNX.out HNL.out).mono ?_; rintro e w3 ⟨rfl, hI3, hB3, hk3⟩))
      rename_i hHeld
      have HI3 := Lib.hid hI3; have HB3 := Lib.hid ((HBXx.out.drew.trans (hb2.mono HBXx.out.size)).trans hB3)
      clear hHeld hI3 hB3 hk3 hb2
      go_wp2_with fail
      go_roundw
      case measure => simp [intOf]; omega
      case rel => exact ⟨k + 1, by go_num, by omega, HI3.out, HB3.out⟩
    · obtain rfl : k = l.length := by omega
      have hne : memsT l.length (l.take l.length) ≠ [] := by unfold memsT; simp [RqF.tellR]
      have HNE := Lib.hid hne; clear hne
      go_wp2_with fail
      refine (string_any w.heap.size w.heap.size _ _ HI.out HNE.out).mono ?_
      rintro r w4 ⟨rfl, hb4⟩
      go_wp2_with fail
      go_ret
      exact ⟨rfl, HBR.out.trans hb4⟩
end Go.Proofs.YtnjmhneobgmejaaDoor
