/- Joined out of own texts. No condition: it holds of every program, or of this one by what is shown here. -/
import Derived.Test.YtcanicgpkbhhdaaGreatDoorZb5
set_option linter.unusedSectionVars false
set_option linter.constructorNameAsVariable false
set_option linter.unusedVariables false
set_option linter.unusedSimpArgs false
namespace Go.Proofs.YtcanicgpkbhhdaaGreatDoor.Rn
open Go Go.RowKit Go.Proofs.YtcanicgpkbhhdaaGreatDoor.Sh
set_option maxRecDepth 100000
theorem pd4 : fnT Tryz.prog (callV Tryz.prog X0 100000 99) 100000 Tryz.f7 argsD (hoL (rowsO true leavesD 0) (firstD 17)) (treeD 32 15 17) endT = true := by kernel_rfl
end Go.Proofs.YtcanicgpkbhhdaaGreatDoor.Rn
