/- Words of the printed texts, those that this claim uses: out of the kit's print for this seat. -/
import Derived.Test.YtcoegjdnobiogaaWWords
import Derived.Test.YtcoegjdnobiogaaWLast
namespace Go.Proofs.YtcoegjdnobiogaaW.PrintWords
open Go.RowKit
namespace Kd
section
variable {α : Type} {d : Kd α} {e base g o n cap : Nat} {ok okp : Nat → Prop} {w W : World} {v : Value} {xs : List α}
end
section
variable {α : Type} {enc : α → Value} {h1 : ∀ x, (enc x).oneCell' = true} {e base g o n cap : Nat} {ok : Nat → Prop} {W : World} {xs : List α}
end
end Kd
end Go.Proofs.YtcoegjdnobiogaaW.PrintWords
