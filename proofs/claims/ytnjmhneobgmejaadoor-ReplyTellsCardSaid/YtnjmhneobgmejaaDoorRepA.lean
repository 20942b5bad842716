/- What the telling side of package reply needs. Condition: the library's tables are as they are laid. -/
import Derived.Test.YtnjmhneobgmejaaDoorRepTold
import Derived.Test.YtnjmhneobgmejaaDoorShelfD
import Derived.Test.YtnjmhneobgmejaaDoorShelfE
import Derived.Test.YtnjmhneobgmejaaDoorMem
namespace Go.Proofs.YtnjmhneobgmejaaDoor
open Go.RowKit

theorem ba_back (t : ByteArray) : (ByteArray.mk t.data.toList.toArray) = t := by cases t; simp
theorem itoa_any (n : Int) (w : World) (h0 : -9223372036854775808 ≤ n) (h1 : n ≤ 9223372036854775807) (ht : Tabs w) :
    Calls Tryd.prog 36 #[.int .i64 n] w fun e w' => e = .returned (.string ⟨(Lib.itoa n).toArray⟩) ∧ Below w.heap.size w w' :=
  (Tryd.strconv_Itoa n h0 h1 w ht.pow).mono fun _ _ ⟨he, k, os, hw⟩ => ⟨he, by rw [hw]; exact below_grow k os⟩

end Go.Proofs.YtnjmhneobgmejaaDoor
