/- The walk of reply.Spread. Condition: the library's tables are as they are laid. -/
import Derived.Test.YtnjmhneobgmejaaDoorTellD
namespace Go.Proofs.YtnjmhneobgmejaaDoor
open Go.RowKit

theorem itoa_is (n : Int) (D : ByteArray) (w : World) (h0 : -9223372036854775808 ≤ n) (h1 : n ≤ 9223372036854775807) (hD : D = itoaS n) (ht : Tabs w) :
    Calls Tryd.prog 36 #[.int .i64 n] w fun e w' => e = .returned (.string D) ∧ Below w.heap.size w w' := by
  subst hD; exact itoa_any n w h0 h1 ht
/-- The five cells of a spread in a block. -/
def SpreadIn (g : Nat) (n : Int) (a b c d : Nat) (w : World) : Prop :=
  w.cell? ⟨g, 0, none⟩ = some (.int .i64 n) ∧ w.cell? ⟨g, 1, none⟩ = some (.float .f64 a) ∧ w.cell? ⟨g, 2, none⟩ = some (.float .f64 b) ∧ w.cell? ⟨g, 3, none⟩ = some (.float .f64 c) ∧ w.cell? ⟨g, 4, none⟩ = some (.float .f64 d)
theorem spread_cells {w : World} {g : Nat} {n : Int} {a b c d : Nat} (h : w.heap[g]? = some (.cells #[.int .i64 n, .float .f64 a, .float .f64 b, .float .f64 c, .float .f64 d] 42 (0, 0))) : SpreadIn g n a b c d w :=
  ⟨blk_cell h rfl, blk_cell h rfl, blk_cell h rfl, blk_cell h rfl, blk_cell h rfl⟩
theorem spread_keep {wx w' : World} {g : Nat} {n : Int} {a b c d : Nat} (h : SpreadIn g n a b c d wx) (hg : g < wx.heap.size) (hb : Below wx.heap.size wx w') : Below wx.heap.size wx w' ∧ SpreadIn g n a b c d w' :=
  ⟨hb, (hb.cell hg).trans h.1, (hb.cell hg).trans h.2.1, (hb.cell hg).trans h.2.2.1, (hb.cell hg).trans h.2.2.2.1, (hb.cell hg).trans h.2.2.2.2⟩
theorem below_one {wx w1 : World} {X : Prop} (h : Below wx.heap.size wx w1 ∧ X) (o : Obj) : Below wx.heap.size wx (w1.alloc o) := h.1.alloc h.1.size o
/-- told, of words that its caller has laid: no elder block is turned. -/
theorem told_past (w : World) (ss : List ByteArray) (cs : Array Value) (n : Nat) (T : ByteArray) (hn : n = ss.length) (hcs : cs = (ss.map Value.string).toArray) (hT : T.data.toList = RqF.tellR (ss.map (·.data.toList))) (hlen : T.size ≤ 140737488355328) :
    Calls Tryd.prog 35 #[.slice (some ⟨w.heap.size, 0, none⟩) n n] (w.alloc (.cells cs 9)) fun e w' => e = .returned (.string T) ∧ Below (w.alloc (.cells cs 9)).heap.size (w.alloc (.cells cs 9)) w' := by
  have h := told_any w.heap.size (ss.map (·.data.toList)).length (ss.map (·.data.toList)) _ (words_laid w ss cs hcs) (Nat.le_refl _) (by rw [← hT, ← Lib.size_eq]; exact hlen)
  rw [List.length_map, ← hn] at h
  refine h.mono fun e w' ⟨he, hb⟩ => ⟨?_, hb⟩
  rw [he]
  exact congrArg (fun s => Ending.returned (.string s)) (ba_eq (by rw [hT]))
theorem spread_told (n : Int) (a b c d : Nat) (D F1 F2 F3 F4 : ByteArray) (hD : D = itoaS n) (h1 : F1 = ⟨(RqF.textF a).toArray⟩) (h2 : F2 = ⟨(RqF.textF b).toArray⟩) (h3 : F3 = ⟨(RqF.textF c).toArray⟩) (h4 : F4 = ⟨(RqF.textF d).toArray⟩) :
    (spreadS n a b c d).data.toList = RqF.tellR ([⟨#[83, 80, 82, 69, 65, 68]⟩, D, F1, F2, F3, F4].map (·.data.toList)) := by
  subst hD; subst h1; subst h2; subst h3; subst h4
  simp [spreadS, RqF.spreadT, RqF.sSPREAD, itoaS]
theorem spreadS_len (n : Int) (a b c d : Nat) (h0 : -9223372036854775808 < n) (h1 : n ≤ 9223372036854775807) : (spreadS n a b c d).size ≤ 1000 := by
  have t1 := RqF.text_len30 a; have t2 := RqF.text_len30 b; have t3 := RqF.text_len30 c; have t4 := RqF.text_len30 d
  have t5 := itoaS_size n h0 h1
  unfold itoaS at t5
  rw [size_of] at t5
  unfold spreadS
  rw [size_of]
  unfold RqF.spreadT RqF.tellR
  rw [RqF.joinW_cons2, RqF.joinW_cons2, RqF.joinW_cons2, RqF.joinW_cons2, RqF.joinW_cons2, RqF.joinW_one]
  simp [RqF.sSPREAD]
  omega
set_option maxRecDepth 100000 in
set_option maxHeartbeats 2000000 in
theorem spread_tells (n : Int) (a b c d : Nat) (w : World) (ht : Tabs w) (h0 : -9223372036854775808 < n) (h1 : n ≤ 9223372036854775807) (ha : a < 2 * RqF.sgn) (hb : b < 2 * RqF.sgn) (hc : c < 2 * RqF.sgn) (hd : d < 2 * RqF.sgn) :
    Calls Tryd.prog 21 #[.agg #[.int .i64 n, .float .f64 a, .float .f64 b, .float .f64 c, .float .f64 d]] w fun r w' => r = .returned (.string (spreadS n a b c d)) ∧ Below w.heap.size w w' := by
  obtain ⟨D, hD⟩ : ∃ D : ByteArray, D = itoaS n := ⟨_, rfl⟩
  obtain ⟨F1, e1⟩ : ∃ F : ByteArray, F = ⟨(RqF.textF a).toArray⟩ := ⟨_, rfl⟩
  obtain ⟨F2, e2⟩ : ∃ F : ByteArray, F = ⟨(RqF.textF b).toArray⟩ := ⟨_, rfl⟩
  obtain ⟨F3, e3⟩ : ∃ F : ByteArray, F = ⟨(RqF.textF c).toArray⟩ := ⟨_, rfl⟩
  obtain ⟨F4, e4⟩ : ∃ F : ByteArray, F = ⟨(RqF.textF d).toArray⟩ := ⟨_, rfl⟩
  have hlen := spreadS_len n a b c d h0 h1
  obtain ⟨T, hT⟩ : ∃ T, T = spreadS n a b c d := ⟨_, rfl⟩
  have htold := spread_told n a b c d D F1 F2 F3 F4 hD e1 e2 e3 e4
  rw [← hT] at hlen htold ⊢
  have hTab0 : Tabs (w.alloc (.cells #[.int .i64 n, .float .f64 a, .float .f64 b, .float .f64 c, .float .f64 d] 42)) := ht.below ((Below.refl _ _).alloc (Nat.le_refl _) _)
  have hI0 : SpreadIn w.heap.size n a b c d (w.alloc (.cells #[.int .i64 n, .float .f64 a, .float .f64 b, .float .f64 c, .float .f64 d] 42)) := spread_cells (heap_alloc_new w _)
  have HD := Lib.hid hD; have E1 := Lib.hid e1; have E2 := Lib.hid e2; have E3 := Lib.hid e3; have E4 := Lib.hid e4
  have HAa := Lib.hid ha; have HBb := Lib.hid hb; have HCc := Lib.hid hc; have HDd := Lib.hid hd
  have HLEN := Lib.hid hlen; have HTO := Lib.hid htold; have HTab := Lib.hid hTab0; have HI := Lib.hid hI0
  have HN0 : Hid (-9223372036854775808 ≤ n) := by show _ ≤ _; omega
  have HN1 := Lib.hid h1
  clear hD e1 e2 e3 e4 ha hb hc hd hT hlen htold hTab0 hI0 ht h0 h1
  go_enter Tryd.func21, Tryd.ntmps21
  go_wp2_with fail
  obtain ⟨wx, hwx⟩ : ∃ wx : World, wx = w.alloc (.cells #[.int .i64 n, .float .f64 a, .float .f64 b, .float .f64 c, .float .f64 d] 42) := ⟨_, rfl⟩
  rw [← hwx]
  have HTx : Hid (Tabs wx) := by rw [hwx]; exact HTab.out
  have HIx : Hid (SpreadIn w.heap.size n a b c d wx) := by rw [hwx]; exact HI.out
  have HG : Hid (w.heap.size < wx.heap.size) := by rw [hwx]; show _ < _; simp
  have HBX : Hid (Below w.heap.size w wx) := by rw [hwx]; exact (Below.refl _ _).alloc (Nat.le_refl _) _
  clear hwx HTab HI
  go_region_held3 (fun w' => Below wx.heap.size wx w' ∧ w'.cell? ⟨w.heap.size, 0, none⟩ = some (.int .i64 n) ∧ w'.cell? ⟨w.heap.size, 1, none⟩ = some (.float .f64 a) ∧ w'.cell? ⟨w.heap.size, 2, none⟩ = some (.float .f64 b) ∧ w'.cell? ⟨w.heap.size, 3, none⟩ = some (.float .f64 c) ∧ w'.cell? ⟨w.heap.size, 4, none⟩ = some (.float .f64 d))
    (first | exact spread_keep HIx.out HG.out (Below.drew (Below.refl _ _)) | exact spread_keep HIx.out HG.out (below_trans (And.left (by assumption)) hbn) | exact spread_keep HIx.out HG.out (below_one (by assumption) _) | exact spread_keep HIx.out HG.out (below_trans (And.left (by assumption)) hbt))
    (first | (go_at_call 36; refine (itoa_is n D _ HN0.out HN1.out HD.out (HTx.out.below (And.left (by assumption)))).mono ?_; rintro e wn ⟨rfl, hbn⟩) | (go_at_call 41; (first | (with_reducible refine (text_as a F1 _ (HTx.out.below (And.left (by assumption))) HAa.out E1.out).mono ?_) | (with_reducible refine (text_as b F2 _ (HTx.out.below (And.left (by assumption))) HBb.out E2.out).mono ?_) | (with_reducible refine (text_as c F3 _ (HTx.out.below (And.left (by assumption))) HCc.out E3.out).mono ?_) | (with_reducible refine (text_as d F4 _ (HTx.out.below (And.left (by assumption))) HDd.out E4.out).mono ?_)); rintro e wn ⟨rfl, hbn⟩) | (go_at_call 35; refine (told_past _ [⟨#[83, 80, 82, 69, 65, 68]⟩, D, F1, F2, F3, F4] _ 6 T rfl rfl HTO.out (Nat.le_trans HLEN.out (by decide))).mono ?_; rintro e wn ⟨rfl, hbt⟩))
  all_goals
    rename_i hHeld
    have HB := Lib.hid (below_trans HBX.out hHeld.1)
    clear hHeld
    go_wp2_with fail
    go_ret
    exact ⟨rfl, HB.out⟩
end Go.Proofs.YtnjmhneobgmejaaDoor
