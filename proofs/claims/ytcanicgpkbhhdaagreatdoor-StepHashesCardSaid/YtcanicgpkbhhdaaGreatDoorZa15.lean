/- Joined out of own texts. No condition: it holds of every program, or of this one by what is shown here. -/
import Derived.Test.YtcanicgpkbhhdaaGreatDoorZa5
set_option linter.unusedSectionVars false
set_option linter.constructorNameAsVariable false
set_option linter.unusedVariables false
set_option linter.unusedSimpArgs false
namespace Go.Proofs.YtcanicgpkbhhdaaGreatDoor.Rn
open Go Go.RowKit Go.Proofs.YtcanicgpkbhhdaaGreatDoor.Sh
set_option maxRecDepth 100000
def eh10 : List (Bx × Bool) := [((.cmp .gtr (.len 1000) (.lit (.ofNat 256))), false),
  ((.cmp .gtr (.len 1001) (.lit (.ofNat 1048576))), false),
  ((.cmp .gtr (.len 1000) (.lit (.ofNat 256))), false),
  ((.and (.cmp .eql (.cvt .u64 (.var 4)) (.lit (.ofNat 0))) (.and (.cmp .eql (.cvt .u64 (.var 3)) (.lit (.ofNat 0))) (.cmp .eql (.cvt .u64 (.var 2)) (.lit (.ofNat 0))))), true),
  ((.cmp .geq (.cvt .u64 (.var 1)) (.cvt .u64 (.var 0))), false),
  ((.cmp .geq (.bin .sub .u64 (.bin .sub .u64 (.cvt .u64 (.var 0)) (.lit (.ofNat 1))) (.cvt .u64 (.var 1))) (.cvt .u64 (.len 1000))), false),
  ((.cmp .geq (.bin .sub .u64 (.bin .sub .u64 (.cvt .u64 (.var 0)) (.lit (.ofNat 1))) (.cvt .u64 (.var 1))) (.lit (.ofNat 0))), true),
  ((.cmp .lss (.bin .sub .u64 (.bin .sub .u64 (.cvt .u64 (.var 0)) (.lit (.ofNat 1))) (.cvt .u64 (.var 1))) (.len 1000)), true),
  ((.and (.cmp .eql (.cvt .u64 (.var 4)) (.lit (.ofNat 0))) (.and (.cmp .eql (.cvt .u64 (.var 3)) (.lit (.ofNat 0))) (.cmp .eql (.cvt .u64 (.var 2)) (.lit (.ofNat 0))))), true),
  ((.cmp .lss (.cvt .u64 (.var 1)) (.cvt .u64 (.len 1001))), true),
  ((.cmp .geq (.cvt .u64 (.var 1)) (.lit (.ofNat 0))), true),
  ((.cmp .lss (.cvt .u64 (.var 1)) (.len 1001)), true),
  ((.cmp .eql (.cvt .u64 (.var 2)) (.lit (.ofNat 0))), true),
  ((.cmp .eql (.cvt .u64 (.var 3)) (.lit (.ofNat 0))), true),
  ((.cmp .eql (.cvt .u64 (.var 4)) (.lit (.ofNat 0))), true),
  ((.cmp .lss (.cvt .u64 (.var 1)) (.cvt .u64 (.var 0))), true),
  ((.cmp .lss (.bin .sub .u64 (.bin .sub .u64 (.cvt .u64 (.var 0)) (.lit (.ofNat 1))) (.cvt .u64 (.var 1))) (.cvt .u64 (.len 1000))), true),
  ((.cmp .geq (.bin .sub .u64 (.bin .sub .u64 (.cvt .u64 (.var 0)) (.lit (.ofNat 1))) (.cvt .u64 (.var 1))) (.lit (.ofNat 0))), true),
  ((.cmp .lss (.bin .sub .u64 (.bin .sub .u64 (.cvt .u64 (.var 0)) (.lit (.ofNat 1))) (.cvt .u64 (.var 1))) (.len 1000)), true),
  ((.cmp .eql (.cvt .u64 (.var 4)) (.lit (.ofNat 0))), true),
  ((.cmp .lss (.cvt .u64 (.var 1)) (.cvt .u64 (.len 1001))), true),
  ((.cmp .geq (.cvt .u64 (.var 1)) (.lit (.ofNat 0))), true),
  ((.cmp .lss (.cvt .u64 (.var 1)) (.len 1001)), true)]
theorem ph10 : endB (callV Tryz.prog X0 100000 100 (.fn 6 [] []) argsH (hoL (rowsO true leavesH 0) eh10)) (.bool true) = true := by kernel_rfl
end Go.Proofs.YtcanicgpkbhhdaaGreatDoor.Rn
