/- What is known of the arguments' numbers: written by a program (row.py). -/
import Derived.Test.YtadlndnagfnlgaaDoorD
import GoSem.Claim
set_option linter.unusedVariables false
namespace Go.Proofs.YtadlndnagfnlgaaDoor.W
open Go

end Go.Proofs.YtadlndnagfnlgaaDoor.W
