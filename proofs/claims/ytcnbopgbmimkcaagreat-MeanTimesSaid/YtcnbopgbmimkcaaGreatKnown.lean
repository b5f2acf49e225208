/- Functions of the program, one by one, in the machine FM; plain laws of what they answer. -/
import Derived.Test.YtcnbopgbmimkcaaGreatWalkA
set_option linter.all false
set_option linter.unusedSimpArgs false
set_option linter.unusedVariables false
set_option linter.unnecessarySimpa false
set_option linter.unusedSectionVars false
section
set_option autoImplicit false
set_option maxRecDepth 100000
namespace Go.Proofs.YtcnbopgbmimkcaaGreat
open Go Go.Fm Go.Proofs
theorem known_eq : call T F_hyphenlaw6_known [] = some (.bool true, []) := call_of_runF 100000 (by kernel_rfl)
end Go.Proofs.YtcnbopgbmimkcaaGreat
end
