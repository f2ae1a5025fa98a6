/- The functions of this text, as the layer Sh reckons them out (printed by shp.py, a program of ours): for each the predicate F, and that it suffices for a call. No condition. -/
import Derived.Test.YtamllimonjfmiaaSh5
import Derived.Test.YtamllimonjfmiaaProg
namespace Go.Proofs.Ytamllimonjfmiaa.W
open Go Go.Proofs.Ytamllimonjfmiaa.Sh
set_option linter.unusedVariables false
set_option maxRecDepth 100000

/-! 22 vouch/gas.Memory -/
def F22 (a0 : Int) (w : World) (R : Value → World → Prop) : Prop :=
  CallV Try.prog 37 #[(.int .i64 a0)] w fun v1 w1 => asI .i64 v1 fun n1 => R (.int .u64 (IntKind.wrap .u64 ((IntKind.wrap .u64 (3 * (IntKind.wrap .u64 n1))) + (IntKind.wrap .u64 (Int.tdiv (IntKind.wrap .u64 ((IntKind.wrap .u64 n1) * (IntKind.wrap .u64 n1))) 512))))) w1
def A22 (R : Value → World → Prop) : Ann := .no
theorem sides22 (R : Value → World → Prop) : fnSides Try.prog Try.f22 (A22 R) R := by
  trivial
theorem call22 (a0 : Int) (w : World) (R : Value → World → Prop) (h : F22 a0 w R) : CallV Try.prog 22 #[(.int .i64 a0)] w R :=
  callV_of (fn := Try.f22) (an := A22 R) (args := [(.int .i64 a0)]) Try.func22 rfl (sides22 R) (Eq.mp (by kernel_rfl) h)
end Go.Proofs.Ytamllimonjfmiaa.W
