/- Words of the printed texts, those that this claim uses: out of the kit's print for this seat. -/
import Derived.Test.YtcoegjdnobiogaaWN
namespace Go.Proofs.YtcoegjdnobiogaaW.PrintWords
open Go.RowKit
namespace Kd
section
variable {α : Type} {d : Kd α} {W : World} {g n : Nat} {S ok : Nat → Prop} {A : Option Addr} {ad : Addr} {xs : List α}
end
end Kd
end Go.Proofs.YtcoegjdnobiogaaW.PrintWords
