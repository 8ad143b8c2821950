-- Words of the seat, those alone that its texts name (prune.py of the session).
import Derived.Test.YtamloclgignfgaaWTab
namespace Go.Proofs.YtamloclgignfgaaW.PrintLast
section
variable {P : Program} {ops : Array Oper} {Q : Exit → Act → World → Prop} {md : Region.Mode} {S : World → Prop} {ds : List Nat} {T : Bool × List (List Nat × List Nat)}
end
end Go.Proofs.YtamloclgignfgaaW.PrintLast
