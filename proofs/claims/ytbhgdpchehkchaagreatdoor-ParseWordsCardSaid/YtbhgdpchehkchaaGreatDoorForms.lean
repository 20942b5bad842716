/- The walk of parse.forms. No condition. -/
import Derived.Test.YtbhgdpchehkchaaGreatDoorCmdB
import Derived.Deep.DeepCutAuto
import Derived.Deep.Heap
import Derived.Laws.ResultCell
import Derived.Laws.Rows
namespace Go.Proofs.YtbhgdpchehkchaaGreatDoor
open Go.RowKit

/-- A part's two functions. -/
def readFn : Nat → Nat
  | 0 => 57
  | 1 => 59
  | 2 => 61
  | 3 => 63
  | 4 => 65
  | 5 => 67
  | _ => 69
def showFn : Nat → Nat
  | 0 => 58
  | 1 => 60
  | 2 => 62
  | 3 => 64
  | 4 => 66
  | 5 => 68
  | _ => 70
def partCells (ps : List Nat) : Array Value := (ps.flatMap fun p => [Value.func (.func (readFn p)) #[] #[], Value.func (.func (showFn p)) #[] #[]]).toArray
def zero46 : Array Value := #[.string ⟨#[]⟩, .slice none 0 0, .string ⟨#[]⟩, .slice none 0 0, .string ⟨#[]⟩, .slice none 0 0, .string ⟨#[]⟩, .slice none 0 0, .string ⟨#[]⟩, .slice none 0 0, .string ⟨#[]⟩, .slice none 0 0, .string ⟨#[]⟩, .slice none 0 0, .string ⟨#[]⟩, .slice none 0 0, .string ⟨#[]⟩, .slice none 0 0, .string ⟨#[]⟩, .slice none 0 0, .string ⟨#[]⟩, .slice none 0 0, .string ⟨#[]⟩, .slice none 0 0, .string ⟨#[]⟩, .slice none 0 0, .string ⟨#[]⟩, .slice none 0 0, .string ⟨#[]⟩, .slice none 0 0, .string ⟨#[]⟩, .slice none 0 0, .string ⟨#[]⟩, .slice none 0 0, .string ⟨#[]⟩, .slice none 0 0, .string ⟨#[]⟩, .slice none 0 0, .string ⟨#[]⟩, .slice none 0 0, .string ⟨#[]⟩, .slice none 0 0, .string ⟨#[]⟩, .slice none 0 0, .string ⟨#[]⟩, .slice none 0 0]
def formCells (B : Nat) : Array Value := #[.string ⟨#[]⟩, .slice none 0 0,
  .string ⟨#[80, 85, 84]⟩, .slice (some ⟨B + 8, 0, none⟩) 2 2,
  .string ⟨#[71, 69, 84]⟩, .slice (some ⟨B + 9, 0, none⟩) 1 1,
  .string ⟨#[68, 69, 76]⟩, .slice (some ⟨B + 10, 0, none⟩) 1 1,
  .string ⟨#[83, 67, 65, 78]⟩, .slice (some ⟨B + 11, 0, none⟩) 3 3,
  .string ⟨#[83, 69, 84]⟩, .slice (some ⟨B + 12, 0, none⟩) 2 2,
  .string ⟨#[66, 85, 77, 80]⟩, .slice (some ⟨B + 13, 0, none⟩) 2 2,
  .string ⟨#[85, 78, 83, 69, 84]⟩, .slice (some ⟨B + 14, 0, none⟩) 1 1,
  .string ⟨#[83, 67, 79, 82, 69]⟩, .slice (some ⟨B + 15, 0, none⟩) 1 1,
  .string ⟨#[82, 65, 78, 71, 69]⟩, .slice (some ⟨B + 16, 0, none⟩) 3 3,
  .string ⟨#[80, 76, 65, 67, 69]⟩, .slice (some ⟨B + 17, 0, none⟩) 1 1,
  .string ⟨#[83, 80, 82, 69, 65, 68]⟩, .slice (some ⟨B + 18, 0, none⟩) 2 2,
  .string ⟨#[83, 78, 65, 80]⟩, .slice none 0 0,
  .string ⟨#[68, 82, 79, 80]⟩, .slice (some ⟨B + 19, 0, none⟩) 1 1,
  .string ⟨#[71, 69, 84, 65, 84]⟩, .slice (some ⟨B + 20, 0, none⟩) 2 2,
  .string ⟨#[83, 67, 65, 78, 65, 84]⟩, .slice (some ⟨B + 21, 0, none⟩) 4 4,
  .string ⟨#[83, 78, 65, 80, 83]⟩, .slice none 0 0,
  .string ⟨#[67, 79, 85, 78, 84]⟩, .slice none 0 0,
  .string ⟨#[66, 69, 71, 73, 78]⟩, .slice none 0 0,
  .string ⟨#[67, 79, 77, 77, 73, 84]⟩, .slice none 0 0,
  .string ⟨#[67, 65, 78, 67, 69, 76]⟩, .slice none 0 0,
  .string ⟨#[80, 73, 78, 71]⟩, .slice none 0 0,
  .string ⟨#[81, 85, 73, 84]⟩, .slice none 0 0]
def firstBlocks : List Obj := [.cells zero46 74, .cells (partCells [0]) 81, .cells (partCells [1]) 81, .cells (partCells [2]) 81, .cells (partCells [3]) 81, .cells (partCells [4]) 81, .cells (partCells [5]) 81, .cells (partCells [6]) 81]
def formBlocks : List Obj := [1, 2, 3, 4, 5, 6, 7, 8, 9, 10, 11, 13, 14, 15].map fun k => .cells (partCells (RqF.partsOf k)) 81

theorem mem_first (w : World) : Mem w w.heap.size firstBlocks ((((((((w.alloc (.cells zero46 74)).alloc (.cells #[.func (.func 57) #[] #[], .func (.func 58) #[] #[]] 81)).alloc (.cells #[.func (.func 59) #[] #[], .func (.func 60) #[] #[]] 81)).alloc
    (.cells #[.func (.func 61) #[] #[], .func (.func 62) #[] #[]] 81)).alloc (.cells #[.func (.func 63) #[] #[], .func (.func 64) #[] #[]] 81)).alloc (.cells #[.func (.func 65) #[] #[], .func (.func 66) #[] #[]] 81)).alloc
    (.cells #[.func (.func 67) #[] #[], .func (.func 68) #[] #[]] 81)).alloc (.cells #[.func (.func 69) #[] #[], .func (.func 70) #[] #[]] 81)) := by
  have h0 : Mem w w.heap.size [] w := ⟨by simp, (fun i o h => by simp at h), Below.refl _ _⟩
  exact (((((((h0.alloc (Nat.le_refl _) _).alloc (Nat.le_refl _) _).alloc (Nat.le_refl _) _).alloc (Nat.le_refl _) _).alloc (Nat.le_refl _) _).alloc (Nat.le_refl _) _).alloc (Nat.le_refl _) _).alloc (Nat.le_refl _) _

section
variable {ops : Array Oper} {Q : Exit → Act → World → Prop} {rest : List Oper} {op : Oper} {a : Act} {w w0 : World}
/-- A part is read out of its variable. -/
theorem stepPart {B : Nat} {os : List Obj} (HM : Mem w0 B os w) (hg : op.guard = none) (x : Operand) (ho : op.op = .load 81 x) (i : Nat) (hx : a.eval x = .pointer (some ⟨B + i, 0, none⟩))
    (r s : Nat) (hi : os[i]? = some (.cells #[.func (.func r) #[] #[], .func (.func s) #[] #[]] 81)) (h : wpList Tryz.prog ops Q rest (a.put op.dst (.agg #[.func (.func r) #[] #[], .func (.func s) #[] #[]])) w) : wpList Tryz.prog ops Q (op :: rest) a w :=
  wpList_load_row hg 81 x ho (B + i) hx 81 _ (0, 0) _ (HM.blk i _ hi) Tryz.underlying81 rfl (by kernel_rfl) h
end

set_option maxRecDepth 100000 in
set_option maxHeartbeats 4000000 in
theorem forms_walk (w : World) :
    Calls Tryz.prog 36 #[] w fun e w' => e = .returned (.agg (formCells w.heap.size)) ∧ Mem w w.heap.size (.cells (formCells w.heap.size) 74 :: (firstBlocks.tail ++ formBlocks)) w' := by
  go_enter Tryz.func36, Tryz.ntmps36
  go_upto_region 4 with (fail)
  have HM := mem_first w
  unfold zero46 at HM
  revert HM
  generalize ((((((((w.alloc _).alloc _).alloc _).alloc _).alloc _).alloc _).alloc _).alloc _) = W
  generalize hBe : w.heap.size = B
  have hB := Nat.le_of_eq hBe
  have HB := Lib.hid hBe; clear hBe
  intro HM
  go_step
  refine stepPart HM rfl (.tmp 1) rfl 1 (by kernel_rfl) 57 58 (by kernel_rfl) ?_
  refine stepPart HM rfl (.tmp 4) rfl 4 (by kernel_rfl) 63 64 (by kernel_rfl) ?_
  refine stepNew HM hB (.cells #[.func (.func 57) #[] #[], .func (.func 58) #[] #[], .func (.func 63) #[] #[], .func (.func 64) #[] #[]] 81) rfl (n := 2) (fun _ => by kernel_rfl) ?_; clear HM; intro w1 HM
  refine stepPure (v := .agg #[.string ⟨#[80, 85, 84]⟩, .slice (some ⟨B + 8, 0, none⟩) 2 2]) rfl (by kernel_rfl) ?_
  refine stepPart HM rfl (.tmp 1) rfl 1 (by kernel_rfl) 57 58 (by kernel_rfl) ?_
  refine stepNew HM hB (.cells #[.func (.func 57) #[] #[], .func (.func 58) #[] #[]] 81) rfl (n := 1) (fun _ => by kernel_rfl) ?_; clear HM; intro w1 HM
  refine stepPure (v := .agg #[.string ⟨#[71, 69, 84]⟩, .slice (some ⟨B + 9, 0, none⟩) 1 1]) rfl (by kernel_rfl) ?_
  refine stepPart HM rfl (.tmp 1) rfl 1 (by kernel_rfl) 57 58 (by kernel_rfl) ?_
  refine stepNew HM hB (.cells #[.func (.func 57) #[] #[], .func (.func 58) #[] #[]] 81) rfl (n := 1) (fun _ => by kernel_rfl) ?_; clear HM; intro w1 HM
  refine stepPure (v := .agg #[.string ⟨#[68, 69, 76]⟩, .slice (some ⟨B + 10, 0, none⟩) 1 1]) rfl (by kernel_rfl) ?_
  refine stepPart HM rfl (.tmp 2) rfl 2 (by kernel_rfl) 59 60 (by kernel_rfl) ?_
  refine stepPart HM rfl (.tmp 3) rfl 3 (by kernel_rfl) 61 62 (by kernel_rfl) ?_
  refine stepPart HM rfl (.tmp 4) rfl 4 (by kernel_rfl) 63 64 (by kernel_rfl) ?_
  refine stepNew HM hB (.cells #[.func (.func 59) #[] #[], .func (.func 60) #[] #[], .func (.func 61) #[] #[], .func (.func 62) #[] #[], .func (.func 63) #[] #[], .func (.func 64) #[] #[]] 81) rfl (n := 3) (fun _ => by kernel_rfl) ?_; clear HM; intro w1 HM
  refine stepPure (v := .agg #[.string ⟨#[83, 67, 65, 78]⟩, .slice (some ⟨B + 11, 0, none⟩) 3 3]) rfl (by kernel_rfl) ?_
  refine stepPart HM rfl (.tmp 1) rfl 1 (by kernel_rfl) 57 58 (by kernel_rfl) ?_
  refine stepPart HM rfl (.tmp 6) rfl 6 (by kernel_rfl) 67 68 (by kernel_rfl) ?_
  refine stepNew HM hB (.cells #[.func (.func 57) #[] #[], .func (.func 58) #[] #[], .func (.func 67) #[] #[], .func (.func 68) #[] #[]] 81) rfl (n := 2) (fun _ => by kernel_rfl) ?_; clear HM; intro w1 HM
  refine stepPure (v := .agg #[.string ⟨#[83, 69, 84]⟩, .slice (some ⟨B + 12, 0, none⟩) 2 2]) rfl (by kernel_rfl) ?_
  refine stepPart HM rfl (.tmp 1) rfl 1 (by kernel_rfl) 57 58 (by kernel_rfl) ?_
  refine stepPart HM rfl (.tmp 6) rfl 6 (by kernel_rfl) 67 68 (by kernel_rfl) ?_
  refine stepNew HM hB (.cells #[.func (.func 57) #[] #[], .func (.func 58) #[] #[], .func (.func 67) #[] #[], .func (.func 68) #[] #[]] 81) rfl (n := 2) (fun _ => by kernel_rfl) ?_; clear HM; intro w1 HM
  refine stepPure (v := .agg #[.string ⟨#[66, 85, 77, 80]⟩, .slice (some ⟨B + 13, 0, none⟩) 2 2]) rfl (by kernel_rfl) ?_
  refine stepPart HM rfl (.tmp 1) rfl 1 (by kernel_rfl) 57 58 (by kernel_rfl) ?_
  refine stepNew HM hB (.cells #[.func (.func 57) #[] #[], .func (.func 58) #[] #[]] 81) rfl (n := 1) (fun _ => by kernel_rfl) ?_; clear HM; intro w1 HM
  refine stepPure (v := .agg #[.string ⟨#[85, 78, 83, 69, 84]⟩, .slice (some ⟨B + 14, 0, none⟩) 1 1]) rfl (by kernel_rfl) ?_
  refine stepPart HM rfl (.tmp 1) rfl 1 (by kernel_rfl) 57 58 (by kernel_rfl) ?_
  refine stepNew HM hB (.cells #[.func (.func 57) #[] #[], .func (.func 58) #[] #[]] 81) rfl (n := 1) (fun _ => by kernel_rfl) ?_; clear HM; intro w1 HM
  refine stepPure (v := .agg #[.string ⟨#[83, 67, 79, 82, 69]⟩, .slice (some ⟨B + 15, 0, none⟩) 1 1]) rfl (by kernel_rfl) ?_
  refine stepPart HM rfl (.tmp 6) rfl 6 (by kernel_rfl) 67 68 (by kernel_rfl) ?_
  refine stepPart HM rfl (.tmp 7) rfl 7 (by kernel_rfl) 69 70 (by kernel_rfl) ?_
  refine stepPart HM rfl (.tmp 4) rfl 4 (by kernel_rfl) 63 64 (by kernel_rfl) ?_
  refine stepNew HM hB (.cells #[.func (.func 67) #[] #[], .func (.func 68) #[] #[], .func (.func 69) #[] #[], .func (.func 70) #[] #[], .func (.func 63) #[] #[], .func (.func 64) #[] #[]] 81) rfl (n := 3) (fun _ => by kernel_rfl) ?_; clear HM; intro w1 HM
  refine stepPure (v := .agg #[.string ⟨#[82, 65, 78, 71, 69]⟩, .slice (some ⟨B + 16, 0, none⟩) 3 3]) rfl (by kernel_rfl) ?_
  refine stepPart HM rfl (.tmp 1) rfl 1 (by kernel_rfl) 57 58 (by kernel_rfl) ?_
  refine stepNew HM hB (.cells #[.func (.func 57) #[] #[], .func (.func 58) #[] #[]] 81) rfl (n := 1) (fun _ => by kernel_rfl) ?_; clear HM; intro w1 HM
  refine stepPure (v := .agg #[.string ⟨#[80, 76, 65, 67, 69]⟩, .slice (some ⟨B + 17, 0, none⟩) 1 1]) rfl (by kernel_rfl) ?_
  refine stepPart HM rfl (.tmp 6) rfl 6 (by kernel_rfl) 67 68 (by kernel_rfl) ?_
  refine stepPart HM rfl (.tmp 7) rfl 7 (by kernel_rfl) 69 70 (by kernel_rfl) ?_
  refine stepNew HM hB (.cells #[.func (.func 67) #[] #[], .func (.func 68) #[] #[], .func (.func 69) #[] #[], .func (.func 70) #[] #[]] 81) rfl (n := 2) (fun _ => by kernel_rfl) ?_; clear HM; intro w1 HM
  refine stepPure (v := .agg #[.string ⟨#[83, 80, 82, 69, 65, 68]⟩, .slice (some ⟨B + 18, 0, none⟩) 2 2]) rfl (by kernel_rfl) ?_
  refine stepPure (v := .agg #[.string ⟨#[83, 78, 65, 80]⟩, .slice none 0 0]) rfl (by kernel_rfl) ?_
  refine stepPart HM rfl (.tmp 5) rfl 5 (by kernel_rfl) 65 66 (by kernel_rfl) ?_
  refine stepNew HM hB (.cells #[.func (.func 65) #[] #[], .func (.func 66) #[] #[]] 81) rfl (n := 1) (fun _ => by kernel_rfl) ?_; clear HM; intro w1 HM
  refine stepPure (v := .agg #[.string ⟨#[68, 82, 79, 80]⟩, .slice (some ⟨B + 19, 0, none⟩) 1 1]) rfl (by kernel_rfl) ?_
  refine stepPart HM rfl (.tmp 5) rfl 5 (by kernel_rfl) 65 66 (by kernel_rfl) ?_
  refine stepPart HM rfl (.tmp 1) rfl 1 (by kernel_rfl) 57 58 (by kernel_rfl) ?_
  refine stepNew HM hB (.cells #[.func (.func 65) #[] #[], .func (.func 66) #[] #[], .func (.func 57) #[] #[], .func (.func 58) #[] #[]] 81) rfl (n := 2) (fun _ => by kernel_rfl) ?_; clear HM; intro w1 HM
  refine stepPure (v := .agg #[.string ⟨#[71, 69, 84, 65, 84]⟩, .slice (some ⟨B + 20, 0, none⟩) 2 2]) rfl (by kernel_rfl) ?_
  refine stepPart HM rfl (.tmp 5) rfl 5 (by kernel_rfl) 65 66 (by kernel_rfl) ?_
  refine stepPart HM rfl (.tmp 2) rfl 2 (by kernel_rfl) 59 60 (by kernel_rfl) ?_
  refine stepPart HM rfl (.tmp 3) rfl 3 (by kernel_rfl) 61 62 (by kernel_rfl) ?_
  refine stepPart HM rfl (.tmp 4) rfl 4 (by kernel_rfl) 63 64 (by kernel_rfl) ?_
  refine stepNew HM hB (.cells #[.func (.func 65) #[] #[], .func (.func 66) #[] #[], .func (.func 59) #[] #[], .func (.func 60) #[] #[], .func (.func 61) #[] #[], .func (.func 62) #[] #[], .func (.func 63) #[] #[], .func (.func 64) #[] #[]] 81) rfl (n := 4) (fun _ => by kernel_rfl) ?_; clear HM; intro w1 HM
  refine stepPure (v := .agg #[.string ⟨#[83, 67, 65, 78, 65, 84]⟩, .slice (some ⟨B + 21, 0, none⟩) 4 4]) rfl (by kernel_rfl) ?_
  refine stepPure (v := .agg #[.string ⟨#[83, 78, 65, 80, 83]⟩, .slice none 0 0]) rfl (by kernel_rfl) ?_
  refine stepPure (v := .agg #[.string ⟨#[67, 79, 85, 78, 84]⟩, .slice none 0 0]) rfl (by kernel_rfl) ?_
  refine stepPure (v := .agg #[.string ⟨#[66, 69, 71, 73, 78]⟩, .slice none 0 0]) rfl (by kernel_rfl) ?_
  refine stepPure (v := .agg #[.string ⟨#[67, 79, 77, 77, 73, 84]⟩, .slice none 0 0]) rfl (by kernel_rfl) ?_
  refine stepPure (v := .agg #[.string ⟨#[67, 65, 78, 67, 69, 76]⟩, .slice none 0 0]) rfl (by kernel_rfl) ?_
  refine stepPure (v := .agg #[.string ⟨#[80, 73, 78, 71]⟩, .slice none 0 0]) rfl (by kernel_rfl) ?_
  refine stepPure (v := .agg #[.string ⟨#[81, 85, 73, 84]⟩, .slice none 0 0]) rfl (by kernel_rfl) ?_
  refine stepPure (v := .agg (formCells B)) rfl (by kernel_rfl) ?_
  refine wpList_store_mid rfl 74 (.tmp 0) (.tmp 77) rfl B 0 (formCells B) (by kernel_rfl) (by kernel_rfl) ?hth (by kernel_rfl) (by kernel_rfl) ?_
  case hth => exact there_of_blk (by have h := HM.blk 0 _ rfl; rwa [Nat.add_zero] at h) (by kernel_rfl)
  refine wpList_nil ?_
  go_step
  go_step
  go_step
  have HF : Mem w B (.cells (formCells B) 74 :: (firstBlocks.tail ++ formBlocks)) (w1.setCells B 0 (formCells B).toList) := Mem.setRow (Mem.cast HM (show _ = Obj.cells zero46 74 :: (firstBlocks.tail ++ formBlocks) by kernel_rfl)) hB (formCells B) (by kernel_rfl)
  have hb := HF.blk 0 _ rfl
  rw [Nat.add_zero] at hb
  refine bodyPost_ret (v := .agg (formCells B)) (results_cell_row rfl _ _ B 74 (formCells B) (0, 0) _ (by kernel_rfl) hb Tryz.underlying74 rfl (by kernel_rfl)) rfl ⟨by rw [HB.out], by rw [HB.out]; exact HF⟩

/-- What a form's words are: a slice over the words' readers. -/
def PartsIn (w : World) (v : Value) (ps : List Nat) : Prop :=
  ∃ p, v = .slice p ps.length ps.length ∧ (ps = [] ∨ ∃ b, p = some ⟨b, 0, none⟩ ∧ w.heap[b]? = some (.cells (partCells ps) 81 (0, 0)))
def FormsIn (cs : Array Value) (w : World) : Prop :=
  cs.size = 46 ∧ cs[0]? = some (.string ⟨#[]⟩) ∧ cs[1]? = some (.slice none 0 0) ∧ ∀ k, 1 ≤ k → k ≤ 22 → cs[2 * k]? = some (.string ⟨(RqF.nameOf k).toArray⟩) ∧ ∃ v, cs[2 * k + 1]? = some v ∧ PartsIn w v (RqF.partsOf k)
theorem PartsIn.below {w w' : World} {v : Value} {ps : List Nat} (h : PartsIn w v ps) (hb : Below w.heap.size w w') : PartsIn w' v ps := by
  obtain ⟨p, hv, h⟩ := h
  refine ⟨p, hv, ?_⟩
  rcases h with h | ⟨b, h1, h2⟩
  · exact .inl h
  · exact .inr ⟨b, h1, below_blk hb h2⟩
theorem FormsIn.below {w w' : World} {cs : Array Value} (h : FormsIn cs w) (hb : Below w.heap.size w w') : FormsIn cs w' := by
  obtain ⟨h1, h2, h3, h4⟩ := h
  refine ⟨h1, h2, h3, fun k k1 k2 => ?_⟩
  obtain ⟨h5, v, h6, h7⟩ := h4 k k1 k2
  exact ⟨h5, v, h6, h7.below hb⟩
theorem forms_in {w0 w : World} {B : Nat} (h : Mem w0 B (.cells (formCells B) 74 :: (firstBlocks.tail ++ formBlocks)) w) : FormsIn (formCells B) w := by
  refine ⟨rfl, rfl, rfl, fun k h1 h2 => ?_⟩
  have hk : k = 1 ∨ k = 2 ∨ k = 3 ∨ k = 4 ∨ k = 5 ∨ k = 6 ∨ k = 7 ∨ k = 8 ∨ k = 9 ∨ k = 10 ∨ k = 11 ∨ k = 13 ∨ k = 14 ∨ k = 15 ∨ k = 12 ∨ k = 16 ∨ k = 17 ∨ k = 18 ∨ k = 19 ∨ k = 20 ∨ k = 21 ∨ k = 22 := by omega
  rcases hk with rfl | rfl | rfl | rfl | rfl | rfl | rfl | rfl | rfl | rfl | rfl | rfl | rfl | rfl | hk
  · exact ⟨rfl, _, rfl, some ⟨B + 8, 0, none⟩, rfl, .inr ⟨B + 8, rfl, h.blk 8 _ rfl⟩⟩
  · exact ⟨rfl, _, rfl, some ⟨B + 9, 0, none⟩, rfl, .inr ⟨B + 9, rfl, h.blk 9 _ rfl⟩⟩
  · exact ⟨rfl, _, rfl, some ⟨B + 10, 0, none⟩, rfl, .inr ⟨B + 10, rfl, h.blk 10 _ rfl⟩⟩
  · exact ⟨rfl, _, rfl, some ⟨B + 11, 0, none⟩, rfl, .inr ⟨B + 11, rfl, h.blk 11 _ rfl⟩⟩
  · exact ⟨rfl, _, rfl, some ⟨B + 12, 0, none⟩, rfl, .inr ⟨B + 12, rfl, h.blk 12 _ rfl⟩⟩
  · exact ⟨rfl, _, rfl, some ⟨B + 13, 0, none⟩, rfl, .inr ⟨B + 13, rfl, h.blk 13 _ rfl⟩⟩
  · exact ⟨rfl, _, rfl, some ⟨B + 14, 0, none⟩, rfl, .inr ⟨B + 14, rfl, h.blk 14 _ rfl⟩⟩
  · exact ⟨rfl, _, rfl, some ⟨B + 15, 0, none⟩, rfl, .inr ⟨B + 15, rfl, h.blk 15 _ rfl⟩⟩
  · exact ⟨rfl, _, rfl, some ⟨B + 16, 0, none⟩, rfl, .inr ⟨B + 16, rfl, h.blk 16 _ rfl⟩⟩
  · exact ⟨rfl, _, rfl, some ⟨B + 17, 0, none⟩, rfl, .inr ⟨B + 17, rfl, h.blk 17 _ rfl⟩⟩
  · exact ⟨rfl, _, rfl, some ⟨B + 18, 0, none⟩, rfl, .inr ⟨B + 18, rfl, h.blk 18 _ rfl⟩⟩
  · exact ⟨rfl, _, rfl, some ⟨B + 19, 0, none⟩, rfl, .inr ⟨B + 19, rfl, h.blk 19 _ rfl⟩⟩
  · exact ⟨rfl, _, rfl, some ⟨B + 20, 0, none⟩, rfl, .inr ⟨B + 20, rfl, h.blk 20 _ rfl⟩⟩
  · exact ⟨rfl, _, rfl, some ⟨B + 21, 0, none⟩, rfl, .inr ⟨B + 21, rfl, h.blk 21 _ rfl⟩⟩
  · rcases hk with rfl | rfl | rfl | rfl | rfl | rfl | rfl | rfl
    all_goals exact ⟨rfl, _, rfl, none, rfl, .inl rfl⟩
theorem forms_any (w : World) :
    Calls Tryz.prog 36 #[] w fun e w' => ∃ cs, e = .returned (.agg cs) ∧ FormsIn cs w' ∧ Below w.heap.size w w' :=
  (forms_walk w).mono fun _ _ ⟨he, hm⟩ => ⟨_, he, forms_in hm, hm.below⟩
end Go.Proofs.YtbhgdpchehkchaaGreatDoor
