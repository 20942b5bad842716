/- Small laws on blocks of memory. No condition. -/
import Derived.Test.YtnjmhneobgmejaaDoorTabs
import Derived.OneCell
import Derived.Deep.MidRow
import Derived.Maps.AppendAt
import Derived.OwnWalk
import Derived.Laws.EntriesVeiled
namespace Go.Proofs.YtnjmhneobgmejaaDoor
open Go.RowKit

theorem run_store_float (P : Program) (w : World) (a : Addr) (m : Mode) (k : FloatKind) (n : Nat) : (store a (.float k n) m).run P w = stored P w a (.float k n) m := run_store P w a _ m rfl
attribute [go_sem] run_store_float
theorem blk_set {w : World} {b o : Nat} {cs : Array Value} {t : TypeId} {z : Nat × Nat} (h : w.heap[b]? = some (.cells cs t z)) (v : Value) : (w.setCell ⟨b, o, none⟩ v).heap[b]? = some (.cells (cs.setIfInBounds o v) t z) := by
  have hlt := lt_of_block h
  have h' : w.heap[b] = .cells cs t z := by simpa [Array.getElem?_eq_getElem hlt] using h
  show (w.heap.modify b _)[b]? = _
  rw [Array.getElem?_eq_getElem (by simpa using hlt), Array.getElem_modify_self, h']
  rfl
theorem blk_cell {w : World} {b o : Nat} {cs : Array Value} {t : TypeId} {z : Nat × Nat} (h : w.heap[b]? = some (.cells cs t z)) {v : Value} (hv : cs[o]? = some v) : w.cell? ⟨b, o, none⟩ = some v := by simp [World.cell?, h, hv]
theorem blk_free {w : World} {b o : Nat} {cs : Array Value} {t : TypeId} (h : w.heap[b]? = some (.cells cs t (0, 0))) : w.frozen? ⟨b, o, none⟩ = false := by simp [World.frozen?, h]
theorem grown_of_below {w w' : World} (h : Below w.heap.size w w') (row : Option Nat) : w.grownBy w' row := ⟨h.os, h.tape, h.output, h.size, fun i hi _ => h.block i hi⟩
theorem grown_set {w w' : World} {b o : Nat} (h : w.grownBy w' (some b)) (v : Value) : w.grownBy (w'.setCell ⟨b, o, none⟩ v) (some b) :=
  ⟨h.os, h.tape, h.output, by simpa [World.setCell] using h.size, fun i hi hne => by
    rw [Below.heap_setCell _ _ _ _ (fun e => hne (by rw [e]))]
    exact h.block i hi hne⟩
theorem grown_blk {w w' : World} {row : Option Nat} {b : Nat} {o : Obj} (h : w.grownBy w' row) (hne : some b ≠ row) (hb : w.heap[b]? = some o) : w'.heap[b]? = some o := by
  rw [h.block b (lt_of_block hb) hne]; exact hb
theorem below_blk {w w' : World} {b : Nat} {o : Obj} (h : Below w.heap.size w w') (hb : w.heap[b]? = some o) : w'.heap[b]? = some o := by
  rw [h.block b (lt_of_block hb)]; exact hb
theorem below_of_grown {W w w' : World} {b : Nat} (h : Below W.heap.size W w) (g : w.grownBy w' (some b)) (hb : W.heap.size ≤ b) : Below W.heap.size W w' :=
  h.grown g h.size (fun k hk => by injection hk with hk; omega)
/-- The blocks that lie from B on, and what lay below w0's end. -/
structure Mem (w0 : World) (B : Nat) (os : List Obj) (w : World) : Prop where
  size : w.heap.size = B + os.length
  blk : ∀ i o, os[i]? = some o → w.heap[B + i]? = some o
  below : Below w0.heap.size w0 w
theorem Mem.alloc {w0 w : World} {B : Nat} {os : List Obj} (h : Mem w0 B os w) (hB : w0.heap.size ≤ B) (o : Obj) : Mem w0 B (os ++ [o]) (w.alloc o) := by
  have e : (w.alloc o).heap = w.heap.push o := rfl
  refine ⟨by rw [e, Array.size_push, h.size]; simp; omega, fun i o' hi => ?_, h.below.alloc (by rw [h.size]; omega) o⟩
  rw [e, Array.getElem?_push]
  by_cases hlt : i < os.length
  · rw [List.getElem?_append_left hlt] at hi
    rw [if_neg (by rw [h.size]; omega)]
    exact h.blk i o' hi
  · rw [List.getElem?_append_right (by omega)] at hi
    have : i - os.length = 0 := by
      cases hk : i - os.length with
      | zero => rfl
      | succ k => rw [hk] at hi; cases hi
    rw [this] at hi
    obtain rfl : o = o' := by injection hi
    rw [if_pos (by rw [h.size]; omega)]

section steps
variable {P : Program} {ops : Array Oper} {Q : Exit → Act → World → Prop} {rest : List Oper} {op : Oper} {a : Act} {w w' : World}
theorem stepVal {v : Value} (hg : op.guard = none) (hrun : (execOp a.eval op).run P w = .ok (.value v) w') (h : wpList P ops Q rest (a.put op.dst v) w') : wpList P ops Q (op :: rest) a w :=
  wpList_plain hg fun K hK => by unfold Oper.wp; rw [hrun]; exact hK _ _ h
theorem stepPure {v : Value} (hg : op.guard = none) (hrun : (execOp a.eval op).run P w = .ok (.value v) w) (h : wpList P ops Q rest (a.put op.dst v) w) : wpList P ops Q (op :: rest) a w := stepVal hg hrun h
theorem stepSkip (hg : op.guard = none) (hrun : (execOp a.eval op).run P w = .ok .skip w') (h : wpList P ops Q rest (a.put op.dst undef) w') : wpList P ops Q (op :: rest) a w :=
  wpList_plain hg fun K hK => by unfold Oper.wp; rw [hrun]; exact hK _ _ h
theorem stepNew {w0 : World} {B n : Nat} {os : List Obj} (HM : Mem w0 B os w) (hB : w0.heap.size ≤ B) (o : Obj) (hg : op.guard = none)
    (hrun : ∀ w : World, (execOp a.eval op).run P w = .ok (.value (.slice (some ⟨w.heap.size, 0, none⟩) n n)) (w.alloc o))
    (h : ∀ w', Mem w0 B (os ++ [o]) w' → wpList P ops Q rest (a.put op.dst (.slice (some ⟨B + os.length, 0, none⟩) n n)) w') : wpList P ops Q (op :: rest) a w :=
  stepVal hg (hrun w) (by rw [HM.size]; exact h _ (HM.alloc hB o))
end steps

theorem blk_setCells {b : Nat} {t : TypeId} {z : Nat × Nat} : ∀ (vs : List Value) (o : Nat) (w : World) (cs : Array Value), w.heap[b]? = some (.cells cs t z) → o + vs.length = cs.size →
    (w.setCells b o vs).heap[b]? = some (.cells (cs.extract 0 o ++ vs.toArray) t z)
  | [], o, w, cs, h, hs => by
    simp at hs
    simp [World.setCells, h, hs]
  | v :: r, o, w, cs, h, hs => by
    simp at hs
    rw [World.setCells, blk_setCells r (o + 1) _ (cs.setIfInBounds o v) (blk_set h v) (by simp; omega)]
    congr 2
    apply Array.ext'
    simp only [Array.toList_append, Array.toList_extract, Array.toList_setIfInBounds, List.extract_eq_take_drop, List.drop_zero, Nat.sub_zero]
    rw [List.take_set, List.take_succ_eq_append_getElem (by simp; omega)]
    rw [List.set_append_right _ _ (by simp; omega)]
    have : o - (List.take o cs.toList).length = 0 := by simp; omega
    rw [this]
    simp
theorem blk_setCells_other {b b' : Nat} : ∀ (vs : List Value) (o : Nat) (w : World), b' ≠ b → (w.setCells b o vs).heap[b']? = w.heap[b']?
  | [], _, _, _ => rfl
  | v :: r, o, w, h => by
    rw [World.setCells, blk_setCells_other r (o + 1) _ h]
    exact Below.heap_setCell _ _ _ _ (fun e => h e)
theorem size_setCells {b : Nat} : ∀ (vs : List Value) (o : Nat) (w : World), (w.setCells b o vs).heap.size = w.heap.size
  | [], _, _ => rfl
  | v :: r, o, w => by rw [World.setCells, size_setCells r]; simp [World.setCell]
theorem below_setCells {W : World} {B b : Nat} (hb : B ≤ b) : ∀ (vs : List Value) (o : Nat) (w : World), Below B W w → Below B W (w.setCells b o vs)
  | [], _, _, h => h
  | _ :: r, o, _, h => below_setCells hb r (o + 1) _ (h.setCell hb _)
/-- All cells of a block are there and may be written. -/
theorem there_of_blk {w : World} {b n : Nat} {cs : Array Value} {t : TypeId} (h : w.heap[b]? = some (.cells cs t (0, 0))) (hn : cs.size = n) : w.there b 0 n := by
  intro j hj
  have hj' : j < cs.size := by omega
  refine ⟨?_, blk_free h⟩
  rw [Nat.zero_add, blk_cell h (Array.getElem?_eq_getElem hj')]; rfl
/-- A whole row (or struct) is stored into its block. -/
theorem stepStoreRow {P : Program} {ops : Array Oper} {Q : Exit → Act → World → Prop} {rest : List Oper} {op : Oper} {a : Act} {w : World} (hg : op.guard = none) (ty : TypeId) (x y : Operand) (ho : op.op = .store ty x y)
    (b : Nat) (vs cs : Array Value) (t : TypeId) (hx : a.eval x = .pointer (some ⟨b, 0, none⟩)) (hy : a.eval y = .agg vs) (hb : w.heap[b]? = some (.cells cs t (0, 0))) (hn : vs.size = cs.size)
    (hi : (P.info? ty).map (·.size) = some vs.size) (h1 : vs.all (·.oneCell') = true)
    (h : ∀ w', w.grownBy w' (some b) → w'.heap[b]? = some (.cells vs t (0, 0)) → w'.heap.size = w.heap.size → wpList P ops Q rest (a.put op.dst undef) w') : wpList P ops Q (op :: rest) a w := by
  refine wpList_store_mid hg ty x y ho b 0 vs hx hy (there_of_blk hb hn.symm) hi h1 (h _ ?_ ?_ (size_setCells _ _ _))
  · have : ∀ (vs : List Value) (o : Nat) (w1 : World), w.grownBy w1 (some b) → w.grownBy (w1.setCells b o vs) (some b) := by
      intro vs
      induction vs with
      | nil => intro o w1 h; exact h
      | cons v r ih => intro o w1 h; exact ih _ _ (grown_set h v)
    exact this _ _ _ (World.grownBy.refl _ _)
  · rw [blk_setCells vs.toList 0 w cs hb (by simp; omega)]
    simp
theorem Mem.cast {w0 w : World} {B : Nat} {os os' : List Obj} (h : Mem w0 B os w) (e : os = os') : Mem w0 B os' w := e ▸ h
theorem Mem.setRow {w0 w : World} {B : Nat} {os : List Obj} {cs : Array Value} {t : TypeId} (h : Mem w0 B (.cells cs t (0, 0) :: os) w) (hB : w0.heap.size ≤ B) (vs : Array Value) (hn : vs.size = cs.size) :
    Mem w0 B (.cells vs t (0, 0) :: os) (w.setCells B 0 vs.toList) := by
  refine ⟨by rw [size_setCells, h.size]; rfl, fun i o hi => ?_, below_setCells hB _ _ _ h.below⟩
  cases i with
  | zero =>
    have h0 := h.blk 0 _ rfl
    rw [Nat.add_zero] at h0 ⊢
    rw [blk_setCells vs.toList 0 w cs h0 (by simp; omega)]
    injection hi with hi
    rw [← hi]; simp
  | succ i =>
    rw [blk_setCells_other _ _ _ (by omega)]
    exact h.blk (i + 1) o hi
end Go.Proofs.YtnjmhneobgmejaaDoor
