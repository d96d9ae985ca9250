/- Words of the printed texts, those that this claim uses: out of the kit's print for this seat. -/
import Derived.Test.YtcoegjdnobiogaaWTab
namespace Go.Proofs.YtcoegjdnobiogaaW.PrintLast
section
variable {P : Program} {ops : Array Oper} {Q : Exit → Act → World → Prop} {md : Region.Mode} {S : World → Prop} {ds : List Nat} {T : Bool × List (List Nat × List Nat)}
end
end Go.Proofs.YtcoegjdnobiogaaW.PrintLast
