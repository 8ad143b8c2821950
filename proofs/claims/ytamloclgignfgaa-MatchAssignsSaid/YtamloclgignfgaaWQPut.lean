-- Words of the seat, those alone that its texts name (prune.py of the session).
import Derived.Test.YtamloclgignfgaaWWords
import Derived.Test.YtamloclgignfgaaWLast
namespace Go.Proofs.YtamloclgignfgaaW.PrintWords
open Go.RowKit
namespace Kd
section
variable {α : Type} {d : Kd α} {e base g o n cap : Nat} {ok okp : Nat → Prop} {w W : World} {v : Value} {xs : List α}
end
section
variable {α : Type} {enc : α → Value} {h1 : ∀ x, (enc x).oneCell' = true} {e base g o n cap : Nat} {ok : Nat → Prop} {W : World} {xs : List α}
end
end Kd
end Go.Proofs.YtamloclgignfgaaW.PrintWords
