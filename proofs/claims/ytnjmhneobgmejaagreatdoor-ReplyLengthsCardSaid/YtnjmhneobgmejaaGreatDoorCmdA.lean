/- The walks of the small functions of package parse: word, number, score, bound. Conditions: the library's tables are as they are laid; a text is of at most 2^48 bytes. -/
import Derived.Test.YtnjmhneobgmejaaGreatDoorCmdPlain
import Derived.Test.YtnjmhneobgmejaaGreatDoorLawTexts
import Derived.Test.YtnjmhneobgmejaaGreatDoorShelfD
import Derived.Deep.QuietTactic
import Derived.BigQuiet
namespace Go.Proofs.YtnjmhneobgmejaaGreatDoor
open Go.RowKit

/-- The tables, and a number in internal/bytealg.MaxLen. -/
structure TabsM (w : World) : Prop extends TabsP w where
  ml : ∃ m, w.cell? ⟨1, 0, none⟩ = some (.int .i64 m)
theorem TabsM.below {w w' : World} (h : TabsM w) (hb : Below w.heap.size w w') : TabsM w' := by
  obtain ⟨m, hm⟩ := h.ml
  exact { h.toTabsP.below hb with ml := ⟨m, cell_later hb hm⟩ }

/-- A line's words in memory. -/
def wordCells (l : List UInt8) : List Value := (RqF.wordsOf l).map fun x => Value.string ⟨x.toArray⟩
theorem count_words (s : ByteArray) : Lib.countB s ⟨#[32]⟩ + 1 = (RqF.wordsOf s.data.toList).length := by
  have h1 := Lib.splitB_data ⟨#[32]⟩ 0 (Lib.countB s ⟨#[32]⟩) s
  have h2 := Lib.splitB_all ⟨#[32]⟩ (by decide) 0 _ s rfl
  have h3 : Lib.splitK [32] 0 (Lib.countB s ⟨#[32]⟩) s.data.toList = RqF.wordsOf s.data.toList := RqF.split_words _ _ (Nat.le_refl _)
  rw [← h2, ← h3, ← List.length_map (f := fun x : ByteArray => x.data.toList), h1]
theorem cells_words (s : ByteArray) : (Lib.splitB ⟨#[32]⟩ 0 (Lib.countB s ⟨#[32]⟩) s).map Value.string = wordCells s.data.toList := by
  have h1 := Lib.splitB_data ⟨#[32]⟩ 0 (Lib.countB s ⟨#[32]⟩) s
  have h3 : Lib.splitK [32] 0 (Lib.countB s ⟨#[32]⟩) s.data.toList = RqF.wordsOf s.data.toList := RqF.split_words _ _ (Nat.le_refl _)
  unfold wordCells
  rw [← h3]
  have h1' : (Lib.splitB ⟨#[32]⟩ 0 (Lib.countB s ⟨#[32]⟩) s).map (fun x => x.data.toList) = Lib.splitK [32] 0 (Lib.countB s ⟨#[32]⟩) s.data.toList := h1
  rw [← h1', List.map_map]
  exact List.map_congr_left fun x _ => by rfl
theorem split_any (s : ByteArray) (w : World) (ht : TabsM w) (hs : s.size < 4294967281) :
    Calls Tryz.prog 59 #[.string s, .string ⟨#[32]⟩] w fun e w' =>
      e = .returned (.slice (some ⟨w.heap.size, 0, none⟩) (RqF.wordsOf s.data.toList).length (RqF.wordsOf s.data.toList).length) ∧ w' = w.alloc (.cells (wordCells s.data.toList).toArray 9) := by
  obtain ⟨m, hm⟩ := ht.ml
  have h := Any.strings_Split { Tryz.laysM146 with } Tryz.laysM146.i9 s ⟨#[32]⟩ m w hs hm (by decide)
  rw [count_words, cells_words] at h
  exact h
theorem wordCells_get (l : List UInt8) (j : Nat) (h : j < (RqF.wordsOf l).length) : (wordCells l)[j]? = some (.string ⟨(RqF.wordsOf l)[j].toArray⟩) := by
  unfold wordCells; rw [List.getElem?_map, List.getElem?_eq_getElem h]; rfl

theorem itoa_any (n : Int) (w : World) (h0 : -9223372036854775808 ≤ n) (h1 : n ≤ 9223372036854775807) (ht : Tabs w) :
    Calls Tryz.prog 26 #[.int .i64 n] w fun e w' => e = .returned (.string ⟨(Lib.itoa n).toArray⟩) ∧ Below w.heap.size w w' :=
  (Tryz.strconv_Itoa n h0 h1 w ht.pow).mono fun _ _ ⟨he, k, os, hw⟩ => ⟨he, by rw [hw]; exact below_grow k os⟩

/-- What strconv.Atoi hands back. -/
def AtoiRet (l : List UInt8) (e : Ending) : Prop :=
  match Lib.atoiAll l with
  | .ok n => e = .returned (.tuple #[.int .i64 n, .nilIface])
  | _ => ∃ n t a, e = .returned (.tuple #[.int .i64 n, .iface t (.pointer (some a))])
theorem atoi_any (s : ByteArray) (w : World) (hs : s.size ≤ 281474976710656) (ht : TabsP w) :
    Calls Tryz.prog 63 #[.string s] w fun e w' => AtoiRet s.data.toList e ∧ Below w.heap.size w w' := by
  unfold AtoiRet
  cases h : Lib.atoiAll s.data.toList
  · rename_i n
    refine (Any.strconv_Atoi_ok Tryz.laysC172 s (by omega) n h w).mono fun e w' ⟨he, hw⟩ => ⟨he, ?_⟩
    rcases hw with rfl | ⟨t, rfl⟩
    · exact Below.refl _ _
    · exact below_bytes w t
  · obtain ⟨tp, p, hv⟩ := ht.es
    exact (Any.strconv_Atoi_syntax_var Tryz.laysC172 s hs h tp p w hv).mono fun e w' ⟨N, he, _, _, hb⟩ => ⟨⟨_, _, _, he⟩, hb⟩
  · obtain ⟨tp, p, hv⟩ := ht.er
    exact (Any.strconv_Atoi_range_var Tryz.laysC172 s hs h tp p w hv).mono fun e w' ⟨N, he, _, _, hb⟩ => ⟨⟨_, _, _, he⟩, hb⟩

/-- The number of a form's error, if something is not well. -/
def errI (b : Bool) : Int := if b then 0 else 3
theorem inW_fresh {l : List UInt8} {k : Nat} (h : k < l.length) (hd : 33 ≤ l[k].toNat ∧ l[k].toNat ≤ 126) (hv : (l.take k).all RqF.inW = true) : (l.take (k + 1)).all RqF.inW = true := by
  rw [take_snoc h, List.all_append, hv]
  simp [RqF.inW, hd.1, hd.2]
theorem inW_bad {l : List UInt8} {k : Nat} (h : k < l.length) (hd : ¬ (33 ≤ l[k].toNat ∧ l[k].toNat ≤ 126)) : RqF.isWord l = false := by
  unfold RqF.isWord
  have : l.all RqF.inW = false := by
    rw [List.all_eq_false]
    exact ⟨l[k], List.getElem_mem h, by unfold RqF.inW; simp only [decide_eq_true_eq]; exact hd⟩
  rw [this]; rfl
theorem isWord_all {l : List UInt8} (h : l.all RqF.inW = true) : RqF.isWord l = decide (1 ≤ l.length ∧ l.length ≤ 64) := by
  unfold RqF.isWord; rw [h]; rfl

/-- What number hands back. -/
def NumRet (l : List UInt8) (e : Ending) : Prop := ∃ n : Int, e = .returned (.tuple #[.int .i64 n, .bool (RqF.numP l).isSome]) ∧ ∀ v, RqF.numP l = some v → n = v
theorem numRet_none {l : List UInt8} {n : Int} (h : RqF.numP l = none) : NumRet l (.returned (.tuple #[.int .i64 n, .bool false])) :=
  ⟨n, by rw [h]; rfl, fun v hv => by rw [h] at hv; cases hv⟩
theorem numP_no {l : List UInt8} (h : ∀ n, Lib.atoiAll l ≠ .ok n) : RqF.numP l = none := by
  cases hn : RqF.numP l with
  | none => rfl
  | some v => exact absurd (RqF.numP_some hn).1 (h _)
theorem numP_ok {l : List UInt8} {n : Int} (h : Lib.atoiAll l = .ok n) (hc : ¬ (l.length ≤ 9 ∧ 0 ≤ n ∧ Lib.itoa n = l)) : RqF.numP l = none := by
  cases hn : RqF.numP l with
  | none => rfl
  | some v =>
    obtain ⟨h1, h2, h3, h4⟩ := RqF.numP_some hn
    rw [h] at h1
    injection h1 with h1
    exact absurd ⟨h2, by omega, by rw [h1]; exact h3⟩ hc
theorem atoi_bounds {l : List UInt8} {n : Int} (h : Lib.atoiAll l = .ok n) : -9223372036854775808 ≤ n ∧ n ≤ 9223372036854775807 := by
  rw [← Lib.parseIntB_64] at h
  have hb := Lib.parseIntB_bounds h
  have e : (2 : Nat) ^ (64 - 1) = 9223372036854775808 := by decide
  rw [e] at hb
  omega

def ScoreRet (l : List UInt8) (e : Ending) : Prop := e = .returned (.tuple #[.float .f64 ((RqF.scoreP l).getD 0), .int .i64 (errI (RqF.scoreP l).isSome)])
/-- What bound hands back. -/
def boundT (l : List UInt8) : List UInt8 := if l = [42] then [] else l
def boundOk (l : List UInt8) : Bool := if l = [42] then true else RqF.isWord l
def BoundRet (l : List UInt8) (e : Ending) : Prop := e = .returned (.tuple #[.string ⟨(boundT l).toArray⟩, .int .i64 (errI (boundOk l))])
end Go.Proofs.YtnjmhneobgmejaaGreatDoor
