/- Contracts of the library functions that the claim calls. Conditions: as stated. -/
import Derived.Test.YtobbagjpngkpkaaBase
import Derived.Shelf.SlSortCmp.NoneTotal
import Derived.Shelf.SlicesG.Cmp
import Derived.Shelf.SlIterI.Nil
import Derived.Shelf.Lay
import Derived.Ground.SlsfProg
import Derived.Ground.SlgcProg
import Derived.Ground.GgzProg
namespace Go.Proofs
open Go.Shelf Go.RowKit Go.Lib Go.Sort Go.Maps
shelf_lay_g SlLaysF.n6 Slsf 6 at Try 35 as Try.sortA
shelf_lay_g SlLaysC2.n5 Slgc 5 at Try 36 as Try.cmpA
shelf_lay_g SlLaysZI.n7 Ggz 7 at Try 41 as Try.keysA
shelf_lay_g SlLaysZI.n8 Ggz 8 at Try 40 as Try.collA
end Go.Proofs
