-- Words of the seat, those alone that its texts name (prune.py of the session).
import Derived.Test.YtamloclgignfgaaWN
namespace Go.Proofs.YtamloclgignfgaaW.PrintWords
open Go.RowKit
namespace Kd
section
variable {α : Type} {d : Kd α} {W : World} {g n : Nat} {S ok : Nat → Prop} {A : Option Addr} {ad : Addr} {xs : List α}
end
end Kd
end Go.Proofs.YtamloclgignfgaaW.PrintWords
