/-
  The texts of this claim, put together: Open.
-/
import Derived.ProofKit
import Derived.OpenShut
import Derived.ShutString
import Derived.ChangeOld
import Derived.Test.YtjfpfeapbcjioaaGreatZLib
set_option linter.unusedSimpArgs false
set_option linter.unusedVariables false
set_option maxHeartbeats 12800000
set_option maxRecDepth 100000
namespace Go.Proofs.YtjfpfeapbcjioaaGreat
section
open Go.ChangeShapes Go.WideShapes Go.ChangeAt Go.RowKit
end
end Go.Proofs.YtjfpfeapbcjioaaGreat
