-- Words of the seat, those alone that its texts name (prune.py of the session).
import Derived.Test.YtamloclgignfgaaWInv
import Derived.Test.YtamloclgignfgaaWFootNe
namespace Go.Proofs.YtamloclgignfgaaW.PrintWords
open Go.RowKit
end Go.Proofs.YtamloclgignfgaaW.PrintWords
namespace Go.Proofs.YtamloclgignfgaaW.PrintLast
section
variable {ops : Array Oper} {a : Act} {o og : Oper} {g : Nat} {t : Tmp} {u : Bool}
end
end Go.Proofs.YtamloclgignfgaaW.PrintLast
