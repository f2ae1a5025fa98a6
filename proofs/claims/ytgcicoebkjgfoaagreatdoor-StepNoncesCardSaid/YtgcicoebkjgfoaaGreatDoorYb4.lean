/- Joined out of own texts. No condition: it holds of every program, or of this one by what is shown here. -/
import Derived.Test.YtgcicoebkjgfoaaGreatDoorYb3
set_option linter.unusedSectionVars false
set_option linter.constructorNameAsVariable false
set_option linter.unusedVariables false
set_option linter.unusedSimpArgs false
namespace Go.Proofs.YtgcicoebkjgfoaaGreatDoor.Rn
open Go Go.RowKit Go.Proofs.YtgcicoebkjgfoaaGreatDoor.Sh
set_option maxRecDepth 100000
def en1 : List (Bx × Bool) := [(Bx.cmp BinOp.eql (Sx.var 0) (Sx.lit (Int.ofNat 0)), true),
  (Bx.cmp BinOp.eql (Sx.var 0) (Sx.lit (Int.ofNat 18446744073709551615)), false),
  ((Bx.cmp BinOp.eql (Sx.var 0) (Sx.lit (Int.ofNat 18446744073709551615))).not, true)]
theorem pn1 : endB (callV Tryz.prog X0 100000 100 (.fn 4 [] []) [.sint .u64 (.var 0)] ⟨0, .nil, .nil, en1⟩) ((V.bool true)) = true := by kernel_rfl
end Go.Proofs.YtgcicoebkjgfoaaGreatDoor.Rn
