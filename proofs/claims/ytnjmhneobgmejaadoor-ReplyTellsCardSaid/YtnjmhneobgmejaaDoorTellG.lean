/- What the law ReplyTells lays: rows of two cells and of one; how long what it tells is. No condition. -/
import Derived.Test.YtnjmhneobgmejaaDoorTellF
import Derived.Test.YtnjmhneobgmejaaDoorAwake19
import Derived.Deep.AppendLies
import Derived.Deep.RegionLaw
import Derived.Lib.OwnKind
namespace Go.Proofs.YtnjmhneobgmejaaDoor
open Go.RowKit

def cells2 {α : Type} (f g : α → Value) (l : List α) : List Value := l.flatMap fun p => [f p, g p]
theorem cells2_snoc {α : Type} (f g : α → Value) (l : List α) (p : α) : cells2 f g (l ++ [p]) = cells2 f g l ++ [f p, g p] := by unfold cells2; simp
theorem cells2_get {α : Type} (f g : α → Value) : ∀ (l : List α) (i : Nat) (h : i < l.length), (cells2 f g l)[i * 2]? = some (f l[i]) ∧ (cells2 f g l)[i * 2 + 1]? = some (g l[i]) := by
  intro l
  induction l with
  | nil => intro i h; exact absurd h (by simp)
  | cons x l ih =>
    intro i h
    cases i with
    | zero => exact ⟨rfl, rfl⟩
    | succ i =>
      have h2 := ih i (by simpa using h)
      have e : cells2 f g (x :: l) = [f x, g x] ++ cells2 f g l := rfl
      have e1 : (i + 1) * 2 = i * 2 + 2 := by omega
      rw [e, e1]
      refine ⟨?_, ?_⟩
      · rw [List.getElem?_append_right (by simp)]; simpa using h2.1
      · show ([f x, g x] ++ cells2 f g l)[i * 2 + 2 + 1]? = _
        rw [List.getElem?_append_right (by simp)]; simpa using h2.2
theorem row_shape {base : Nat} {e : TypeId} {size n : Nat} {v : Value} {xs : List Value} {w : World} (h : w.ownsRow base e size v n xs) : ∃ A c, v = .slice A n c := by
  rcases h.2 with ⟨hv, hz⟩ | ⟨g, cap, cur, hv, _⟩
  · exact ⟨none, 0, by rw [hv, hz]⟩
  · exact ⟨_, _, hv⟩
theorem row2_at {α : Type} {f g : α → Value} {base : Nat} {e : TypeId} {A : Option Addr} {c : Nat} {l : List α} {w : World} (h : w.ownsRow base e 2 (.slice A l.length c) l.length (cells2 f g l)) :
    ∀ (i : Nat) (hi : i < l.length), ∃ a : Addr, A = some a ∧ a.block < w.heap.size ∧ w.cell? (a.add (i * 2)) = some (f l[i]) ∧ w.cell? ⟨(a.add (i * 2)).block, (a.add (i * 2)).off + 1, none⟩ = some (g l[i]) := by
  intro i hi
  rcases h.2 with ⟨hv, hz⟩ | ⟨g', cap, cur, hv, _, hg, _⟩
  · omega
  · injection hv with hA _ _
    subst hA
    obtain ⟨h1, h2⟩ := cells2_get f g l i hi
    refine ⟨_, rfl, lt_of_block hg, ?_, ?_⟩
    · rw [Addr.add_lit, Nat.zero_add, h.cellAt (i * 2) (by omega)]; exact h1
    · have e : (⟨g', 0, none⟩ : Addr).add (i * 2) = ⟨g', i * 2, none⟩ := by rw [Addr.add_lit, Nat.zero_add]
      rw [e, h.cellAt (i * 2 + 1) (by omega)]; exact h2
theorem row1_at {α : Type} {f : α → Value} {base : Nat} {e : TypeId} {A : Option Addr} {c : Nat} {l : List α} {w : World} (h : w.ownsRow base e 1 (.slice A l.length c) l.length (l.map f)) :
    ∀ (i : Nat) (hi : i < l.length), ∃ a : Addr, A = some a ∧ a.block < w.heap.size ∧ w.cell? (a.add i) = some (f l[i]) := by
  intro i hi
  rcases h.2 with ⟨hv, hz⟩ | ⟨g', cap, cur, hv, _, hg, _⟩
  · omega
  · injection hv with hA _ _
    subst hA
    refine ⟨_, rfl, lt_of_block hg, ?_⟩
    rw [Addr.add_lit, Nat.zero_add, h.cellAt i (by omega), List.getElem?_map, List.getElem?_eq_getElem hi]; rfl
/-- Rows of unlike kinds lie apart. -/
theorem rows_apart {w : World} {B1 B2 : Nat} {e1 e2 : TypeId} {s1 s2 n1 n2 : Nat} {v1 v2 : Value} {xs1 xs2 : List Value} (h1 : w.ownsRow B1 e1 s1 v1 n1 xs1) (h2 : w.ownsRow B2 e2 s2 v2 n2 xs2) (hne : e1 ≠ e2) : v1.ownBlock = none ∨ v1.ownBlock ≠ v2.ownBlock := by
  cases hv : v1.ownBlock with
  | none => exact .inl rfl
  | some g =>
    refine .inr fun e => hne ?_
    obtain ⟨c1, f1, hb1⟩ := Lib.ownsRow_kind h1 g hv
    obtain ⟨c2, f2, hb2⟩ := Lib.ownsRow_kind h2 g e.symm
    rw [hb1] at hb2
    injection hb2 with hb2
    injection hb2
theorem two_new2 (w : World) (x y : Value) (t : TypeId) : ∀ j u, [x, y][j]? = some u → (w.alloc (.cells #[x, y] t)).cell? ((⟨w.heap.size, 0, none⟩ : Addr).add j) = some u := by
  intro j u hj
  match j, hj with
  | 0, hj => simp at hj; subst hj; simp [Addr.add]
  | 1, hj => simp at hj; subst hj; simp [Addr.add]
theorem one_ss (s t : ByteArray) : ∀ u ∈ ([.string s, .string t] : List Value), u.oneCell' = true := by
  intro u hu; simp at hu; rcases hu with rfl | rfl <;> rfl
theorem one_sf (s : ByteArray) (x : Nat) : ∀ u ∈ ([.string s, .float .f64 x] : List Value), u.oneCell' = true := by
  intro u hu; simp at hu; rcases hu with rfl | rfl <;> rfl
def keyV (p : PairV) : Value := .string p.key
def valV (p : PairV) : Value := .string ⟨p.val.toArray⟩
def nmV (p : ByteArray × Nat) : Value := .string p.1
def scV (p : ByteArray × Nat) : Value := .float .f64 p.2
theorem info_rpair : (Tryd.prog.info? 32).map (fun i => (i.zero, i.size, i.bytes)) = some (some (.agg #[.string ⟨#[]⟩, .string ⟨#[]⟩]), 2, 32) := by kernel_rfl
theorem info_scored : (Tryd.prog.info? 39).map (fun i => (i.zero, i.size, i.bytes)) = some (some (.agg #[.string ⟨#[]⟩, .float .f64 0]), 2, 24) := by kernel_rfl
theorem info_f64 : (Tryd.prog.info? 35).map (fun i => (i.zero, i.size, i.bytes)) = some (some (.float .f64 0), 1, 8) := by kernel_rfl
theorem flat_len {α : Type} (f : α → List UInt8) (m : Nat) : ∀ l : List α, (∀ p ∈ l, (f p).length ≤ m) → (l.map f).flatten.length ≤ l.length * m := by
  intro l
  induction l with
  | nil => intro _; simp
  | cons x l ih =>
    intro hp
    have h3 := hp x List.mem_cons_self
    have h4 := ih (fun y hy => hp y (List.mem_cons_of_mem _ hy))
    rw [List.map_cons, List.flatten_cons, List.length_append, List.length_cons, Nat.succ_mul]
    omega
theorem prsT_len (l : List PairV) (hn : l.length ≤ 40) (h : ∀ p ∈ l, p.key.size + p.val.length ≤ 2000) : (prsT l.length l).length ≤ 1000000 := by
  unfold prsT
  rw [List.length_append]
  have h1 : (RqF.tellR [RqF.sPAIRS, Lib.itoa (l.length : Int)]).length ≤ 100 := by
    have := itoaS_size (l.length : Int) (by omega) (by omega)
    unfold itoaS at this; rw [size_of] at this
    unfold RqF.tellR
    rw [RqF.joinW_cons2, RqF.joinW_one]
    simp [RqF.sPAIRS]; omega
  have h2 := flat_len prT 2100 l (fun p hp => by
    have h6 := h _ hp
    have h7 := itoaS_size (p.val.length : Int) (by omega) (by omega)
    unfold itoaS at h7; rw [size_of] at h7
    rw [Lib.size_eq] at h6
    unfold prT RqF.tellR
    rw [RqF.joinW_cons2, RqF.joinW_one]
    simp at h6 ⊢; omega)
  omega
theorem memsT_len (l : List (ByteArray × Nat)) (hn : l.length ≤ 40) (h : ∀ p ∈ l, p.1.size ≤ 200) : (memsT l.length l).length ≤ 1000000 := by
  unfold memsT
  rw [List.length_append]
  have h1 : (RqF.tellR [RqF.sSCORED, Lib.itoa (l.length : Int)]).length ≤ 100 := by
    have := itoaS_size (l.length : Int) (by omega) (by omega)
    unfold itoaS at this; rw [size_of] at this
    unfold RqF.tellR
    rw [RqF.joinW_cons2, RqF.joinW_one]
    simp [RqF.sSCORED]; omega
  have h2 := flat_len memT 300 l (fun p hp => by
    have h6 := h _ hp
    have h7 := RqF.text_len30 p.2
    rw [Lib.size_eq] at h6
    unfold memT RqF.tellR
    rw [RqF.joinW_cons2, RqF.joinW_one]
    simp at h6 ⊢; omega)
  omega
/-- Words of 64 bits in a row. -/
def U64sAt (A : Option Addr) (X : List Nat) (w : World) : Prop := ∀ (i : Nat) (h : i < X.length), ∃ a : Addr, A = some a ∧ a.block < w.heap.size ∧ w.cell? (a.add i) = some (.int .u64 X[i]) ∧ X[i] < 2 * RqF.sgn
/-- Ints in a row. -/
def I64sAt (A : Option Addr) (X : List Int) (w : World) : Prop := ∀ (i : Nat) (h : i < X.length), ∃ a : Addr, A = some a ∧ a.block < w.heap.size ∧ w.cell? (a.add i) = some (.int .i64 X[i]) ∧ -9223372036854775808 ≤ X[i] ∧ X[i] ≤ 9223372036854775807
theorem I64sAt.nums {A : Option Addr} {X : List Int} {w : World} (h : I64sAt A X w) (hm : ∀ x ∈ X, x ≠ -9223372036854775808) : NumsAt A X w := by
  intro i hi
  obtain ⟨a, h1, h2, h3, h4, h5⟩ := h i hi
  have := hm _ (List.getElem_mem hi)
  exact ⟨a, h1, h2, h3, by omega, h5⟩
/-- A name and a word beside it. -/
def ZAt (An Au : Option Addr) (Z : List (ByteArray × Nat)) (w : World) : Prop :=
  ∀ (i : Nat) (h : i < Z.length), (∃ a : Addr, An = some a ∧ a.block < w.heap.size ∧ w.cell? (a.add i) = some (.string (Z[i]).1)) ∧ (∃ a : Addr, Au = some a ∧ a.block < w.heap.size ∧ w.cell? (a.add i) = some (.int .u64 (Z[i]).2)) ∧ (Z[i]).2 < 2 * RqF.sgn
theorem zat_of {An Au : Option Addr} {N : List ByteArray} {U : List Nat} {w : World} (hN : StrsAt An N w) (hU : U64sAt Au U w) : ZAt An Au (N.zip U) w := by
  intro i hi
  have hi2 : i < N.length ∧ i < U.length := by rw [List.length_zip] at hi; omega
  obtain ⟨a, h1, h2, h3⟩ := hN i hi2.1
  obtain ⟨b, g1, g2, g3, g4⟩ := hU i hi2.2
  rw [List.getElem_zip]
  exact ⟨⟨a, h1, h2, h3⟩, ⟨b, g1, g2, g3⟩, g4⟩
theorem zat_strs {An Au : Option Addr} {Z : List (ByteArray × Nat)} {w : World} (h : ZAt An Au Z w) : StrsAt An (Z.map (·.1)) w := by
  intro i hi
  rw [List.length_map] at hi
  obtain ⟨a, h1, h2, h3⟩ := (h i hi).1
  exact ⟨a, h1, h2, by rw [List.getElem_map]; exact h3⟩
theorem zat_lt {An Au : Option Addr} {Z : List (ByteArray × Nat)} {w : World} (h : ZAt An Au Z w) : ∀ p ∈ Z, p.2 < 2 * RqF.sgn := by
  intro p hp
  obtain ⟨i, hi, rfl⟩ := List.getElem_of_mem hp
  exact (h i hi).2.2
end Go.Proofs.YtnjmhneobgmejaaDoor
