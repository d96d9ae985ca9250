/- Words of the printed texts, those that this claim uses: out of the kit's print for this seat. -/
import Derived.Test.YtcoegjdnobiogaaWInv
import Derived.Test.YtcoegjdnobiogaaWFootNe
namespace Go.Proofs.YtcoegjdnobiogaaW.PrintWords
open Go.RowKit
end Go.Proofs.YtcoegjdnobiogaaW.PrintWords
namespace Go.Proofs.YtcoegjdnobiogaaW.PrintLast
section
variable {ops : Array Oper} {a : Act} {o og : Oper} {g : Nat} {t : Tmp} {u : Bool}
end
end Go.Proofs.YtcoegjdnobiogaaW.PrintLast
