/- What the document fixes of numbers ('awake' of layer 3). Condition: the library's tables are as they are laid. -/
import Derived.Test.YtnjmhneobgmejaaDoorNumT
namespace Go.Proofs.YtnjmhneobgmejaaDoor
open Go.RowKit

theorem text_3 : RqF.textF 4613937818241073152 = [51] := by
  have h1 : RqF.wholeF 4613937818241073152 = some 3 := by decide +kernel
  unfold RqF.textF
  rw [if_neg (by decide +kernel), if_neg (by decide +kernel), if_neg (by decide +kernel), h1]
  unfold Lib.decDigits; rfl
theorem text_nought : RqF.textF RqF.sgn = [45, 48] := by
  have h1 : RqF.wholeF RqF.sgn = some 0 := by decide +kernel
  unfold RqF.textF
  rw [if_neg (by decide +kernel), if_neg (by decide +kernel), if_neg (by decide +kernel), h1]
  unfold Lib.decDigits; rfl
theorem text_half : RqF.textF 4602678819172646912 = [48, 120, 51, 102, 101, 48, 48, 48, 48, 48, 48, 48, 48, 48, 48, 48, 48, 48] := by
  have h1 : RqF.wholeF 4602678819172646912 = none := by decide +kernel
  unfold RqF.textF
  rw [if_neg (by decide +kernel), if_neg (by decide +kernel), if_neg (by decide +kernel), h1]
  decide +kernel

theorem cps_nought : RqF.cps 0 13830554455654793216 = RqF.sgn := by decide +kernel
theorem add_infs : Ieee.double.add RqF.infW 18442240474082181120 = none := by decide +kernel
theorem cmp_1 : cmpF RqF.sgn 0 = -1 := by decide +kernel
theorem cmp_2 : cmpF 9221120237041090561 RqF.infW = 1 := by decide +kernel
theorem cmp_3 : cmpF 9221120237041090561 9221120237041090561 = 0 := by decide +kernel
theorem small_1 : 0 < 2 * RqF.sgn := by decide +kernel
theorem small_2 : 13830554455654793216 < 2 * RqF.sgn := by decide +kernel
theorem small_3 : RqF.sgn < 2 * RqF.sgn := by decide +kernel
theorem small_4 : 9221120237041090561 < 2 * RqF.sgn := by decide +kernel
theorem small_5 : RqF.infW < 2 * RqF.sgn := by decide +kernel
theorem small_6 : 4613937818241073152 < 2 * RqF.sgn := by decide +kernel
theorem small_7 : 4602678819172646912 < 2 * RqF.sgn := by decide +kernel

end Go.Proofs.YtnjmhneobgmejaaDoor
