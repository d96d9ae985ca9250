/- The shelf's contracts that region's texts call. -/
import Derived.Shelf.Sort.Plain
import Derived.Shelf.Slices.In.SortNone
import Derived.Shelf.Slices.CompactI
import Derived.Shelf.SlSortCmp.WholeK
import Derived.Shelf.SlSortCmp.NoneTotal
import Derived.Shelf.Spec.SlicesGrow
import Derived.Test.YtcoegjdnobiogaaLaysG
import Derived.Shelf.SlGeneric
import Derived.Shelf.Small.Wraps
import Derived.Ground.SlsfProg
import Derived.Ground.Names2Prog
import Derived.Ground.Names8Prog
