/- The library's sort laid at []Told. -/
import Derived.Test.YtgopmklcggoliaaFacts
import Derived.Test.YtgopmklcggoliaaL18
import Derived.Shelf.SlSortCmp.NoneTotal
import Derived.Shelf.Lay
import Derived.Ground.SlsfProg
namespace Go.Proofs.Ytgopmklcggoliaa
open Go.Shelf Go.RowKit Go.Lib Go.Sort
shelf_lay_g SlLaysF0.n6 Slsf 6 at Try 32 as sortTold

end Go.Proofs.Ytgopmklcggoliaa
