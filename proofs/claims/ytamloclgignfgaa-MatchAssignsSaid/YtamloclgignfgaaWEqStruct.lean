-- Words of the seat, those alone that its texts name (prune.py of the session).
import Derived.Test.YtamloclgignfgaaWWords
import Derived.Laws.StructEq
namespace Go.Proofs.YtamloclgignfgaaW.PrintWords
open Go.RowKit
section
variable {P : Program} {d : Nat} {xs ys : Array Value} {f : Field} {fs : List Field} {a b : Value} {r s : Bool} {w : World}
end
end Go.Proofs.YtamloclgignfgaaW.PrintWords
