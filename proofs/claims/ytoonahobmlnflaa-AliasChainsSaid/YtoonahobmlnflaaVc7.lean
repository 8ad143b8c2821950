/- Texts of this claim, one behind the other. -/
import Derived.Test.YtoonahobmlnflaaVc4
set_option linter.unusedVariables false
set_option linter.unusedSimpArgs false
set_option maxRecDepth 100000
set_option maxHeartbeats 16000000
namespace Go.Proofs.Ytoonahobmlnflaa.PC
open Go.RowKit A B C
attribute [local go_sem] yC yE xO xP yK yL yD yF
end Go.Proofs.Ytoonahobmlnflaa.PC
