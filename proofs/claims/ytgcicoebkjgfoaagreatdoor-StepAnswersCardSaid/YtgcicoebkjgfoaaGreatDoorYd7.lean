/- Joined out of own texts. No condition: it holds of every program, or of this one by what is shown here. -/
import Derived.Test.YtgcicoebkjgfoaaGreatDoorYd3
set_option linter.unusedSectionVars false
set_option linter.constructorNameAsVariable false
set_option linter.unusedVariables false
set_option linter.unusedSimpArgs false
namespace Go.Proofs.YtgcicoebkjgfoaaGreatDoor.Rn
open Go Go.RowKit Go.Proofs.YtgcicoebkjgfoaaGreatDoor.Sh
set_option maxRecDepth 100000
def ea4 : List (Bx × Bool) := [(Bx.cmp BinOp.gtr (Sx.len 0) (Sx.lit (Int.ofNat 1048576)), false),
  (Bx.cmp BinOp.eql (Sx.bin BinOp.and IntKind.i64 (Sx.var 0) (Sx.lit (Int.ofNat 3))) (Sx.lit (Int.ofNat 0)), false),
  (Bx.cmp BinOp.eql (Sx.bin BinOp.and IntKind.i64 (Sx.var 0) (Sx.lit (Int.ofNat 3))) (Sx.lit (Int.ofNat 1)), true),
  (Bx.cmp BinOp.lss (Sx.lit (Int.ofNat 1029627)) (Sx.var 2), true),
  (Bx.cmp BinOp.lss (Sx.bin BinOp.rem IntKind.i64 (Sx.bin BinOp.and IntKind.i64 (Sx.var 1) (Sx.lit (Int.ofNat 3))) (Sx.lit (Int.ofNat 3))) (Sx.lit (Int.ofNat 0)), false),
  (Bx.cmp BinOp.gtr (Sx.bin BinOp.rem IntKind.i64 (Sx.bin BinOp.and IntKind.i64 (Sx.var 1) (Sx.lit (Int.ofNat 3))) (Sx.lit (Int.ofNat 3))) (Sx.lit (Int.ofNat 2)), false),
  (Bx.cmp BinOp.gtr (Sx.bin BinOp.and IntKind.i64 (Sx.var 0) (Sx.lit (Int.ofNat 3))) (Sx.lit (Int.ofNat 1)), false)]
theorem pa4 : endB (callV Tryz.prog X0 100000 100 (.fn 6 [] []) [.sint .i64 (.var 0), .agg rep6] (ho1 true ea4)) ((V.bool true)) = true := by kernel_rfl
end Go.Proofs.YtgcicoebkjgfoaaGreatDoor.Rn
