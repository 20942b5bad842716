/- The walk of reliquarylaw18.awake. Conditions: the library's tables are as they are laid. -/
import Derived.Test.YtbhgdpchehkchaaGreatDoorLine
namespace Go.Proofs.YtbhgdpchehkchaaGreatDoor
open Go.RowKit

theorem lineP_put3 : RqF.lineP [80, 85, 84, 32, 97, 32, 51] = (⟨1, [97], [], [], 0, 0, 3, 0⟩, 0) := by kernel_rfl
theorem lineP_put03 : RqF.lineP [80, 85, 84, 32, 97, 32, 48, 51] = (RqF.Cmd.nil, 3) := by kernel_rfl
/-- A command's text of the program's own, read. -/
theorem line_of (s : ByteArray) (c : RqF.Cmd) (x : Nat) (hl : RqF.lineP s.data.toList = (c, x)) (w : World) (ht : TabsM w) (hs : s.size < 4294967281) :
    Calls Tryz.prog 14 #[.string s] w fun e w' => e = .returned (.tuple #[.agg (cmdCells c), .int .i64 x]) ∧ Below w.heap.size w w' := by
  refine (line_any s w ht hs).mono fun e w' ⟨he, hb⟩ => ⟨?_, hb⟩
  unfold LineRet at he
  rw [hl] at he; exact he
/-- A command's text, its cells written out. -/
theorem line_as (s : ByteArray) {c : RqF.Cmd} {x : Nat} (cells : Array Value) (y : Int) (hl : RqF.lineP s.data.toList = (c, x)) (hc : cmdCells c = cells) (hx : (x : Int) = y) (w : World) (ht : TabsM w) (hs : s.size < 4294967281) :
    Calls Tryz.prog 14 #[.string s] w fun e w' => e = .returned (.tuple #[.agg cells, .int .i64 y]) ∧ Below w.heap.size w w' := by
  subst hc; subst hx
  exact line_of s c x hl w ht hs
/-- A refused text. -/
theorem line_none (s : ByteArray) (hl : RqF.lineP s.data.toList = (RqF.Cmd.nil, 3)) (w : World) (ht : TabsM w) (hs : s.size < 4294967281) :
    Calls Tryz.prog 14 #[.string s] w fun e w' => e = .returned (.tuple #[.agg #[.int .i64 0, .string ⟨#[]⟩, .string ⟨#[]⟩, .string ⟨#[]⟩, .float .f64 0, .float .f64 0, .int .i64 0, .int .i64 0], .int .i64 3]) ∧ Below w.heap.size w w' :=
  line_of s _ _ hl w ht hs
theorem cmd_at {bc : Nat} {c : RqF.Cmd} {w : World} (h : CmdAt bc c w) : w.cell? ⟨bc, 0, none⟩ = some (.int .i64 c.kind) ∧ w.cell? ⟨bc, 1, none⟩ = some (.string ⟨c.key.toArray⟩) ∧ w.cell? ⟨bc, 2, none⟩ = some (.string ⟨c.lo.toArray⟩) ∧ w.cell? ⟨bc, 3, none⟩ = some (.string ⟨c.hi.toArray⟩) ∧
    w.cell? ⟨bc, 4, none⟩ = some (.float .f64 c.a) ∧ w.cell? ⟨bc, 5, none⟩ = some (.float .f64 c.b) ∧ w.cell? ⟨bc, 6, none⟩ = some (.int .i64 c.n) ∧ w.cell? ⟨bc, 7, none⟩ = some (.int .i64 c.id) ∧ bc < w.heap.size :=
  ⟨blk_cell h rfl, blk_cell h rfl, blk_cell h rfl, blk_cell h rfl, blk_cell h rfl, blk_cell h rfl, blk_cell h rfl, blk_cell h rfl, lt_of_block h⟩
set_option maxRecDepth 100000 in
set_option maxHeartbeats 2000000 in
theorem awake18_any (w : World) (ht : TabsM w) :
    Calls Tryz.prog 15 #[] w fun e w' => e = .returned (.bool true) ∧ Below w.heap.size w w' := by
  have HT := Lib.hid ht; clear ht
  go_enter Tryz.func15, Tryz.ntmps15
  go_wp2_with fail
  refine (line_of _ _ _ lineP_put3 _ HT.out (by decide)).mono ?_
  rintro e w1 ⟨rfl, hb1⟩
  have HB1 := Lib.hid hb1; clear hb1
  unfold cmdCells
  go_wp2_with fail
  refine (line_of _ _ _ lineP_put03 _ (HT.out.below (HB1.out.alloc HB1.out.size _)) (by decide)).mono ?_
  rintro e w2 ⟨rfl, hb2⟩
  obtain ⟨hc0, hc1, -, -, -, -, hc6, -, hlt⟩ := cmd_at (c := ⟨1, [97], [], [], 0, 0, 3, 0⟩) (below_blk hb2 (heap_alloc_new w1 _))
  have HB2 := Lib.hid hb2; clear hb2
  unfold cmdCells
  go_wp2_with fail
  go_ret
  exact ⟨rfl, (below_trans (HB1.out.alloc HB1.out.size _) HB2.out).alloc (Nat.le_trans HB1.out.size (Nat.le_trans (by simp) HB2.out.size)) _⟩
end Go.Proofs.YtbhgdpchehkchaaGreatDoor
