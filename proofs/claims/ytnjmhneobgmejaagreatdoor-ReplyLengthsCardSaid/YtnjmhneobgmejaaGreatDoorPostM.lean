/- The tables, the two errors and the number in internal/bytealg.MaxLen out of what a row lists and the world's shape. No condition. -/
import Derived.Test.YtnjmhneobgmejaaGreatDoorPostP
import Derived.Test.YtnjmhneobgmejaaGreatDoorCmdA
namespace Go.Proofs.YtnjmhneobgmejaaGreatDoor
open Go.ChangeShapes Go.WideShapes Go.ChangeAt Go.RowKit

theorem tabsM_of_laid {W : World} (h : laidMetH Tryz.prog [("math/bits.deBruijn32tab", Rows.laid_math_bits_deBruijn32tab), ("math/bits.deBruijn64tab", Rows.laid_math_bits_deBruijn64tab), ("internal/strconv.uint64pow10", Rows.laid_internal_strconv_uint64pow10), ("unicode/utf8.acceptRanges", Rows.laid_unicode_utf8_acceptRanges), ("strconv.ErrRange", Rows.laid_strconv_ErrRange), ("strconv.ErrSyntax", Rows.laid_strconv_ErrSyntax), ("unicode/utf8.first", Rows.laid_unicode_utf8_first)] W) (hsh : W.ShapedOpen Tryz.prog) : TabsM W :=
  { tabsP_of_laid h with ml := Tryz.laysM146.s1_3 W hsh }
end Go.Proofs.YtnjmhneobgmejaaGreatDoor
