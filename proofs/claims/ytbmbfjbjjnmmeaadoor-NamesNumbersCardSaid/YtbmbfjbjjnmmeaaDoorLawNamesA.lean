/- NamesNumbers: the list of all names' numbers. Condition: the library's tables are as they are laid. -/
import Derived.Test.YtbmbfjbjjnmmeaaDoorTabs
import Derived.Test.YtbmbfjbjjnmmeaaDoorShelfB
import Derived.Lib.ItoaLen
import Derived.Deep.QuietTactic
import Derived.BigQuiet
namespace Go.Proofs.YtbmbfjbjjnmmeaaDoor
open Go.RowKit

def nameNums : List Int := [0, 1, 2, 3, 4, 5, 6, 50, 60, 61, 64, 65, 8, 6144, 512, 4096, 80, 64, 1024, 8, 8, 1000, 256, 8, 1, 2, 3, 4, 5, 1, 2, 3, 4, 5, 6, 7, 8, 9, 10, 11, 12, 13, 14, 15, 16, 17, 18, 19, 20, 21, 22]
def nameCells : Array Value := (nameNums.flatMap fun n => [.int .i64 n, .int .i64 n]).toArray

set_option maxRecDepth 100000 in
set_option maxHeartbeats 4000000 in
theorem all_any (w : World) : Calls Tryd.prog 13 #[] w fun e w' => e = .returned (.slice (some ⟨w.heap.size, 0, none⟩) 51 51) ∧ w.alloc (.cells nameCells 25) = w' := by
  go_enter Tryd.func13, Tryd.ntmps13
  go_wp2
  go_ret
  exact ⟨rfl, congrArg (fun c => w.alloc (.cells c 25)) (show nameCells = _ by kernel_rfl)⟩
end Go.Proofs.YtbmbfjbjjnmmeaaDoor
