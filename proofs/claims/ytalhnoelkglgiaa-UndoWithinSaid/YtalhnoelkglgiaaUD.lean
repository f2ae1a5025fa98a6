/- The orders falling and flat. No condition. -/
import Derived.Test.YtalhnoelkglgiaaUC
namespace Go.Proofs.Ytalhnoelkglgiaa.W
open Go Go.Proofs.Ytalhnoelkglgiaa.Sh Go.RowKit
set_option linter.unusedVariables false
set_option maxRecDepth 100000
def fallN (a b : Int) : Int := riseN b a
theorem falling (x y : Int) (W : World) : CallV Try.prog 24 #[.int .i64 x, .int .i64 y] W fun v W' => v = .int .i64 (fallN x y) ∧ W' = W := by
  refine call24 x y W _ ?_
  unfold F24
  exact CallV.mono (rising y x W) fun v W' ⟨h1, h2⟩ => by subst h1 h2; exact asI_of ⟨rfl, rfl⟩
theorem fallLt (x y : Int) : Go.Proofs.ltOf fallN x y = decide (y < x) := by
  have := riseLt y x
  unfold Go.Proofs.ltOf fallN at *
  exact this
theorem fallO : Sort.SWO (Go.Proofs.ltOf fallN) where
  irrefl x := by rw [fallLt]; simp
  trans x y z h1 h2 := by rw [fallLt] at *; simp at *; omega
  ntrans x y z h1 h2 := by rw [fallLt] at *; simp at *; omega
theorem eg24 : ∀ args w, (callFunc 24 args).run Try.prog w = .ok (.enter 24 args) w := enters_of Try.func24 (by kernel_rfl) rfl
def flatN (a b : Int) : Int := 0
theorem flat (x y : Int) (W : World) : CallV Try.prog 25 #[.int .i64 x, .int .i64 y] W fun v W' => v = .int .i64 (flatN x y) ∧ W' = W := by
  refine call25 x y W _ ?_
  unfold F25
  exact ⟨rfl, rfl⟩
theorem flatO : Sort.SWO (Go.Proofs.ltOf flatN) where
  irrefl x := by simp [Go.Proofs.ltOf, flatN]
  trans x y z h1 h2 := by simp [Go.Proofs.ltOf, flatN] at h1
  ntrans x y z h1 h2 := by simp [Go.Proofs.ltOf, flatN]
theorem eg25 : ∀ args w, (callFunc 25 args).run Try.prog w = .ok (.enter 25 args) w := enters_of Try.func25 (by kernel_rfl) rfl
end Go.Proofs.Ytalhnoelkglgiaa.W
