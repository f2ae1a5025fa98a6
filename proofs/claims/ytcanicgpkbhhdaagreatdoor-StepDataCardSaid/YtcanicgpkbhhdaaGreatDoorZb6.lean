/- Joined out of own texts. No condition: it holds of every program, or of this one by what is shown here. -/
import Derived.Test.YtcanicgpkbhhdaaGreatDoorZb5
set_option linter.unusedSectionVars false
set_option linter.constructorNameAsVariable false
set_option linter.unusedVariables false
set_option linter.unusedSimpArgs false
namespace Go.Proofs.YtcanicgpkbhhdaaGreatDoor.Rn
open Go Go.RowKit Go.Proofs.YtcanicgpkbhhdaaGreatDoor.Sh
set_option maxRecDepth 100000
theorem pd1 : endB (callV Tryz.prog X0 100000 100 (.fn 7 [] []) argsD (hoL (rowsO false leavesD 0) [(.cmp .gtr (.len 1000) (.lit (.ofNat 60000)), true)])) (.bool true) = true := by kernel_rfl
end Go.Proofs.YtcanicgpkbhhdaaGreatDoor.Rn
