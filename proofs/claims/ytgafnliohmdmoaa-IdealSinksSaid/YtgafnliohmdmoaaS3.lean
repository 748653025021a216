/- The library's sort laid at []Row. -/
import Derived.Test.YtgafnliohmdmoaaFacts
import Derived.Test.YtgafnliohmdmoaaL18
import Derived.Shelf.SlSortCmp.NoneTotal
import Derived.Shelf.Lay
import Derived.Ground.SlsfProg
namespace Go.Proofs.Ytgafnliohmdmoaa
open Go.Shelf Go.RowKit Go.Lib Go.Sort
shelf_lay_g SlLaysF0.n6 Slsf 6 at Try 28 as sortRow

end Go.Proofs.Ytgafnliohmdmoaa
