/- Joined out of own texts. No condition: it holds of every program, or of this one by what is shown here. -/
import Derived.Test.YtcanicgpkbhhdaaGreatDoorZa5
set_option linter.unusedSectionVars false
set_option linter.constructorNameAsVariable false
set_option linter.unusedVariables false
set_option linter.unusedSimpArgs false
namespace Go.Proofs.YtcanicgpkbhhdaaGreatDoor.Rn
open Go Go.RowKit Go.Proofs.YtcanicgpkbhhdaaGreatDoor.Sh
set_option maxRecDepth 100000
def eh2 : List (Bx × Bool) := [((.cmp .gtr (.len 1000) (.lit (.ofNat 256))), false),
  ((.cmp .gtr (.len 1001) (.lit (.ofNat 1048576))), true)]
theorem ph2 : endB (callV Tryz.prog X0 100000 100 (.fn 6 [] []) argsH (hoL (rowsO false leavesH 0) eh2)) (.bool true) = true := by kernel_rfl
end Go.Proofs.YtcanicgpkbhhdaaGreatDoor.Rn
