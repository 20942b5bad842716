/- The walks of the document's Err; of Numbers, told and by the document. Conditions: the library's tables are as they are laid. -/
import Derived.Test.YtnjmhneobgmejaaDoorTellA
import Derived.Maps.AppendAt
import Derived.OwnWalk
namespace Go.Proofs.YtnjmhneobgmejaaDoor
open Go.RowKit

set_option maxRecDepth 100000 in
set_option maxHeartbeats 1000000 in
theorem r18err_any (e : Int) (w : World) : Calls Tryd.prog 10 #[.int .i64 e] w fun r w' => r = .returned (.string (errS e)) ∧ w = w' := by
  by_cases h3 : e = 3
  · subst h3
    go_enter Tryd.func10, Tryd.ntmps10
    go_wp2_with fail
    go_ret
    exact ⟨congrArg (fun s => Ending.returned (.string s)) (ba_eq rfl), rfl⟩
  by_cases h5 : e = 5
  · subst h5
    go_enter Tryd.func10, Tryd.ntmps10
    go_wp2_with fail
    go_ret
    exact ⟨congrArg (fun s => Ending.returned (.string s)) (ba_eq rfl), rfl⟩
  by_cases h2 : e = 2
  · subst h2
    go_enter Tryd.func10, Tryd.ntmps10
    go_wp2_with fail
    go_ret
    exact ⟨congrArg (fun s => Ending.returned (.string s)) (ba_eq rfl), rfl⟩
  by_cases h61 : e = 61
  · subst h61
    go_enter Tryd.func10, Tryd.ntmps10
    go_wp2_with fail
    go_ret
    exact ⟨congrArg (fun s => Ending.returned (.string s)) (ba_eq rfl), rfl⟩
  by_cases h60 : e = 60
  · subst h60
    go_enter Tryd.func10, Tryd.ntmps10
    go_wp2_with fail
    go_ret
    exact ⟨congrArg (fun s => Ending.returned (.string s)) (ba_eq rfl), rfl⟩
  by_cases h6 : e = 6
  · subst h6
    go_enter Tryd.func10, Tryd.ntmps10
    go_wp2_with fail
    go_ret
    exact ⟨congrArg (fun s => Ending.returned (.string s)) (ba_eq rfl), rfl⟩
  by_cases h65 : e = 65
  · subst h65
    go_enter Tryd.func10, Tryd.ntmps10
    go_wp2_with fail
    go_ret
    exact ⟨congrArg (fun s => Ending.returned (.string s)) (ba_eq rfl), rfl⟩
  by_cases h50 : e = 50
  · subst h50
    go_enter Tryd.func10, Tryd.ntmps10
    go_wp2_with fail
    go_ret
    exact ⟨congrArg (fun s => Ending.returned (.string s)) (ba_eq rfl), rfl⟩
  have HE : Hid (errS e = ⟨#[69, 82, 82, 32, 65, 82, 71, 10]⟩) := by
    show _ = _
    unfold errS RqF.errT RqF.errW
    rw [if_neg h3, if_neg (by simp [h5, h2]), if_neg h61, if_neg h60, if_neg h6, if_neg h65, if_neg h50]; rfl
  have b3 : (e == 3) = false := by rw [beq_eq_false_iff_ne]; exact h3
  have b5 : (e == 5) = false := by rw [beq_eq_false_iff_ne]; exact h5
  have b2 : (e == 2) = false := by rw [beq_eq_false_iff_ne]; exact h2
  have b61 : (e == 61) = false := by rw [beq_eq_false_iff_ne]; exact h61
  have b60 : (e == 60) = false := by rw [beq_eq_false_iff_ne]; exact h60
  have b6 : (e == 6) = false := by rw [beq_eq_false_iff_ne]; exact h6
  have b65 : (e == 65) = false := by rw [beq_eq_false_iff_ne]; exact h65
  have b50 : (e == 50) = false := by rw [beq_eq_false_iff_ne]; exact h50
  clear h3 h5 h2 h61 h60 h6 h65 h50
  rw [HE.out]
  go_enter Tryd.func10, Tryd.ntmps10
  go_wp2_with fail
  go_ret
  exact ⟨congrArg (fun s => Ending.returned (.string s)) (ba_eq rfl), rfl⟩

/-- Numbers in a row (a row of none may lie nowhere); none is the least of all. -/
def NumsAt (A : Option Addr) (l : List Int) (w : World) : Prop :=
  ∀ (i : Nat) (h : i < l.length), ∃ a : Addr, A = some a ∧ a.block < w.heap.size ∧ w.cell? (a.add i) = some (.int .i64 l[i]) ∧ -9223372036854775808 < l[i] ∧ l[i] ≤ 9223372036854775807
theorem NumsAt.below {A : Option Addr} {l : List Int} {w w' : World} (h : NumsAt A l w) (hb : Below w.heap.size w w') : NumsAt A l w' := by
  intro i hi
  obtain ⟨a, h1, h2, h3, h4, h5⟩ := h i hi
  exact ⟨a, h1, Nat.lt_of_lt_of_le h2 hb.size, (hb.cell (by rw [add_block]; exact h2)).trans h3, h4, h5⟩
def numsW (n : Nat) (l : List Int) : List (List UInt8) := RqF.sNUMBERS :: Lib.itoa (n : Int) :: l.map Lib.itoa
def numsS (l : List Int) : ByteArray := ⟨(RqF.tellR (numsW l.length l)).toArray⟩
def wvals (ws : List (List UInt8)) : List Value := ws.map fun x => Value.string ⟨x.toArray⟩
theorem info_str : (Tryd.prog.info? 9).map (fun i => (i.zero, i.size, i.bytes)) = some (some (.string ⟨#[]⟩), 1, 16) := by kernel_rfl
/-- What stands at each round's head. -/
def NumsInv (w : World) (l : List Int) (v iv : Value) (wr : World) : Prop :=
  ∃ k : Nat, iv = .int .i64 k ∧ k ≤ l.length ∧ wr.ownsRow w.heap.size 9 1 v (2 + k) (wvals (numsW l.length (l.take k))) ∧ Below w.heap.size w wr
theorem row_made (w : World) (x y : Value) (base : Nat) (hb : base ≤ w.heap.size) : (w.alloc (.cells #[x, y] 9)).ownsRow base 9 1 (.slice (some ⟨w.heap.size, 0, none⟩) 2 2) 2 [x, y] :=
  ⟨rfl, .inr ⟨w.heap.size, 2, #[x, y], rfl, hb, heap_alloc_new w _, Nat.le_refl _, by unfold maxLen; omega, rfl, rfl⟩⟩
theorem numsW_len (n : Nat) (l : List Int) : (numsW n l).length = 2 + l.length := by unfold numsW; simp; omega
theorem numsW_snoc (n : Nat) (l : List Int) (x : Int) : wvals (numsW n (l ++ [x])) = wvals (numsW n l) ++ [.string (itoaS x)] := by unfold wvals numsW itoaS; simp
theorem numsT_len (l : List Int) (hl : l.length ≤ 1000) (h : ∀ x ∈ l, -9223372036854775808 < x ∧ x ≤ 9223372036854775807) : (RqF.tellR (numsW l.length l)).length ≤ 40000 := by
  unfold RqF.tellR RqF.joinW numsW
  rw [Lib.join_cons]
  have h1 : ∀ m : List Int, (∀ x ∈ m, -9223372036854775808 < x ∧ x ≤ 9223372036854775807) → (Lib.joinTail [32] (m.map Lib.itoa)).length ≤ m.length * 26 := by
    intro m
    induction m with
    | nil => intro _; simp [Lib.joinTail]
    | cons x m ih =>
      intro hm
      have h2 := ih (fun y hy => hm y (List.mem_cons_of_mem _ hy))
      obtain ⟨h3, h4⟩ := hm x List.mem_cons_self
      have h5 := itoaS_size x h3 h4
      unfold itoaS at h5
      rw [size_of] at h5
      unfold Lib.joinTail at h2 ⊢
      simp only [List.map_cons, List.flatten_cons, List.length_append, List.length_cons, List.length_nil]
      omega
  have h6 := h1 l h
  have h7 := itoaS_size (l.length : Int) (by omega) (by omega)
  unfold itoaS at h7
  rw [size_of] at h7
  have e : Lib.joinTail [32] (Lib.itoa (l.length : Int) :: l.map Lib.itoa) = 32 :: Lib.itoa (l.length : Int) ++ Lib.joinTail [32] (l.map Lib.itoa) := by simp [Lib.joinTail]
  rw [e]
  simp [RqF.sNUMBERS]
  omega

theorem told_n (g c n : Nat) (ws : List (List UInt8)) (w : World) (hw : WordsIn g ws w) (hcap : n ≤ c) (hn : n = ws.length) (hlen : (RqF.tellR ws).length ≤ 140737488355328) :
    Calls Tryd.prog 35 #[.slice (some ⟨g, 0, none⟩) n c] w fun e w' => e = .returned (.string ⟨(RqF.tellR ws).toArray⟩) ∧ Below w.heap.size w w' := by
  subst hn; exact told_any g c ws w hw hcap hlen
set_option maxRecDepth 100000 in
set_option maxHeartbeats 1000000 in
theorem numbers_tells (A : Option Addr) (c : Nat) (l : List Int) (w : World) (ht : Tabs w) (hl : NumsAt A l w) (hn : l.length ≤ 1000) :
    Calls Tryd.prog 19 #[.slice A l.length c] w fun r w' => r = .returned (.string (numsS l)) ∧ Below w.heap.size w w' := by
  have hall : ∀ x ∈ l, -9223372036854775808 < x ∧ x ≤ 9223372036854775807 := by
    intro x hx
    obtain ⟨i, hi, rfl⟩ := List.getElem_of_mem hx
    obtain ⟨_, _, _, _, h4, h5⟩ := hl i hi
    exact ⟨h4, h5⟩
  have HLEN := Lib.hid (numsT_len l hn hall)
  have HT := Lib.hid ht; have HL := Lib.hid hl
  clear ht hl hall
  obtain ⟨i0, hi, hz0, hz1, hz2⟩ := info_parts info_str
  go_enter Tryd.func19, Tryd.ntmps19
  go_wp2_with fail
  refine (itoa_any l.length _ (by omega) (by omega) HT.out).mono ?_
  rintro r w1 ⟨rfl, hb1⟩
  have HB1 := Lib.hid hb1; clear hb1
  go_wp2_with fail
  have HR1 := Lib.hid (row_made w1 (.string ⟨#[78, 85, 77, 66, 69, 82, 83]⟩) (.string ⟨(Lib.itoa (l.length : Int)).toArray⟩) w.heap.size HB1.out.size)
  go_loopw [3, 12] (fun v iv wr => NumsInv w l v iv wr) (fun _ iv _ => l.length - (intOf iv).toNat)
  case atStart => exact ⟨0, rfl, Nat.zero_le _, HR1.out, HB1.out.alloc HB1.out.size _⟩
  case round =>
    obtain ⟨k, rfl, hk, hown, hbr⟩ := hrel
    have HR := Lib.hid hown; have HB := Lib.hid hbr
    clear hown hbr
    by_cases hlt : k < l.length
    · obtain ⟨a, rfl, ha, hc, hx0, hx1⟩ := HL.out k hlt
      obtain ⟨x, hx⟩ : ∃ x, x = l[k] := ⟨_, rfl⟩
      rw [← hx] at hc hx0 hx1
      have hcr : wr.cell? (a.add k) = some (.int .i64 x) := (HB.out.cell (by rw [add_block]; exact ha)).trans hc
      have HX := Lib.hid hx
      clear hx hc ha
      go_wp2_with fail
      refine (itoa_any x _ (by omega) hx1 (HT.out.below HB.out)).mono ?_
      rintro r w2 ⟨rfl, hb2⟩
      have HR2 := Lib.hid (HR.out.kept (grown_of_below hb2 none) (by cases hv : Value.ownBlock _ <;> simp))
      have HB2 := Lib.hid (below_trans HB.out hb2)
      clear hb2
      go_wp2_with (at_builtin; refine wpList_append_own_at _ rfl _ _ 24 rfl w.heap.size 9 i0 (.string ⟨#[]⟩) 1 16 Tryd.underlying24 hi hz0 hz1 hz2 rfl (by decide) _ _ _ rfl (HR2.out.alloc _) ⟨w2.heap.size, 0, none⟩ 1 1 [.string ⟨(Lib.itoa x).toArray⟩] rfl rfl (cell_one_new _ _ _) ?c2 ?c3 ?c4 ?c5 ?_)
      case c2 => intro u hu; simp at hu; subst hu; rfl
      case c3 => unfold maxLen; omega
      case c4 => omega
      case c5 => have := HB2.out.size; simp; omega
      intro v' w3 hown3 hgrow3 _ _
      have HR3 : Hid (w3.ownsRow w.heap.size 9 1 v' (2 + (k + 1)) (wvals (numsW l.length (l.take (k + 1))))) := by
        show World.ownsRow _ _ _ _ _ _ _
        rw [List.take_succ_eq_append_getElem hlt, numsW_snoc, ← HX.out]
        exact hown3
      have HB3 : Hid (Below w.heap.size w w3) := by
        have h1 : Below w.heap.size w (w2.alloc (.cells #[.string ⟨(Lib.itoa x).toArray⟩] 9)) := HB2.out.alloc HB2.out.size _
        exact h1.grown hgrow3 h1.size (fun j hj => (HR2.out.lt j hj).1)
      clear hown3 hgrow3
      go_wp2_with fail
      go_roundw
      case measure => simp [intOf]; omega
      case rel => exact ⟨k + 1, by go_num, by omega, HR3.out, HB3.out⟩
    · obtain rfl : k = l.length := by omega
      rw [List.take_length] at HR
      obtain ⟨g, cap, hv, hgb, hnc, hw⟩ : ∃ g cap, _ = Value.slice (some ⟨g, 0, none⟩) (2 + l.length) cap ∧ w.heap.size ≤ g ∧ 2 + l.length ≤ cap ∧ WordsIn g (numsW l.length l) wr := by
        rcases HR.out.2 with ⟨_, hz⟩ | ⟨g, cap, cur, hv, hbg, hg, hnc, _⟩
        · omega
        · refine ⟨g, cap, hv, hbg, hnc, lt_of_block hg, fun j hj => ?_⟩
          have h2 := HR.out
          rw [hv] at h2
          rw [h2.cellAt j (by rw [numsW_len] at hj; omega)]
          unfold wvals
          rw [List.getElem?_map, List.getElem?_eq_getElem hj]; rfl
      subst hv
      have HW := Lib.hid hw; clear hw
      go_wp2_with fail
      refine (told_n g cap (2 + l.length) (numsW l.length l) _ HW.out hnc (numsW_len _ _).symm (Nat.le_trans HLEN.out (by decide))).mono ?_
      rintro r w4 ⟨rfl, hb4⟩
      go_wp2_with fail
      go_ret
      exact ⟨rfl, below_trans HB.out hb4⟩
end Go.Proofs.YtnjmhneobgmejaaDoor
