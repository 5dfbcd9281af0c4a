/-
  No statement is proved here: the library's functions that the disk calls, by their contracts: maps.Clone, maps.Keys, slices.Sorted.
-/
import Derived.Test.YtnijencmoceiaaaRows
import Derived.Test.YtnijencmoceiaaaObj
import Derived.Shelf.SlIter.Nil
import Derived.Shelf.SortM.Plain
import Derived.Shelf.SortM.SortNone
import Derived.Shelf.SlMaps.Clone
import Derived.Ground.GgzProg
import Derived.Ground.SlgmProg
import Derived.Ground.SlmcProg
import Derived.Shelf.Lay
namespace Go.Proofs
open Go.RowKit Go.Maps Go.Sort Go.Shelf
shelf_lay_g SlLaysZ.n7 Ggz 7 at Try 45 as Try.keysA
shelf_lay_g SlLaysZ.n6 Ggz 6 at Try 44 as Try.sortedA
shelf_lay_g SlLaysM.n6 Slgm 6 at Try 50 as Try.sortA
shelf_lay_g SlLaysW.n5 Slmc 5 at Try 41 as Try.cloneA
end Go.Proofs
