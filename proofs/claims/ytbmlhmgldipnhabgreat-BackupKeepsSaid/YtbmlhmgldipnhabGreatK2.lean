/-
  The sanity check of layer 31 answers true.
  Conditions: those that each theorem names.
-/
import Derived.Test.YtbmlhmgldipnhabGreatL1
set_option linter.unusedVariables false
set_option linter.unnecessarySimpa false
set_option linter.unusedSimpArgs false
namespace Go.Proofs.YtbmlhmgldipnhabGreatE
open Go
theorem tA : evG tbl B1 1000000 32 [] = some (.sc (.bool true)) := by kernel_rfl
end Go.Proofs.YtbmlhmgldipnhabGreatE
