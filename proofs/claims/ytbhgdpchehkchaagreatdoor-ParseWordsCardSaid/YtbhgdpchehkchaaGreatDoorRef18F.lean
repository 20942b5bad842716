/- The walk of the document's Forms. No condition. -/
import Derived.Test.YtbhgdpchehkchaaGreatDoorRef18A
namespace Go.Proofs.YtbhgdpchehkchaaGreatDoor
open Go.RowKit

/-- The sign of a word's kind. -/
def letter : Nat → UInt8
  | 0 => 107
  | 1 => 98
  | 2 => 98
  | 3 => 110
  | 4 => 105
  | 5 => 97
  | _ => 99
def refCells : Array Value := ((List.range 23).flatMap fun k => [Value.string ⟨(RqF.nameOf k).toArray⟩, Value.string ⟨((RqF.partsOf k).map letter).toArray⟩]).toArray
theorem refCells_size : refCells.size = 46 := by kernel_rfl
theorem refCells_get (k : Nat) (h : k < 23) : refCells[k * 2]? = some (.string ⟨(RqF.nameOf k).toArray⟩) ∧ refCells[k * 2 + 1]? = some (.string ⟨((RqF.partsOf k).map letter).toArray⟩) := by
  have hk : k = 0 ∨ k = 1 ∨ k = 2 ∨ k = 3 ∨ k = 4 ∨ k = 5 ∨ k = 6 ∨ k = 7 ∨ k = 8 ∨ k = 9 ∨ k = 10 ∨ k = 11 ∨ k = 12 ∨ k = 13 ∨ k = 14 ∨ k = 15 ∨ k = 16 ∨ k = 17 ∨ k = 18 ∨ k = 19 ∨ k = 20 ∨ k = 21 ∨ k = 22 := by omega
  rcases hk with rfl | rfl | rfl | rfl | rfl | rfl | rfl | rfl | rfl | rfl | rfl | rfl | rfl | rfl | rfl | rfl | rfl | rfl | rfl | rfl | rfl | rfl | rfl
  all_goals exact ⟨rfl, rfl⟩
set_option maxRecDepth 100000 in
set_option maxHeartbeats 2000000 in
theorem forms18_any (w : World) :
    Calls Tryz.prog 12 #[] w fun e w' => e = .returned (.slice (some ⟨w.heap.size, 0, none⟩) 23 23) ∧ w' = w.alloc (.cells refCells 25) := by
  go_enter Tryz.func12, Tryz.ntmps12
  go_wp2
  go_ret
  exact ⟨rfl, by kernel_rfl⟩
end Go.Proofs.YtbhgdpchehkchaaGreatDoor
