/- The law UndoOwn in the row's form, by a walk of ours. No condition. Printed by lawp.py, a program of ours. -/
import Derived.Test.YtalhnoelkglgiaaRows
import Derived.Test.YtalhnoelkglgiaaVA
import Derived.Test.YtalhnoelkglgiaaSh8
import Derived.WalkKit
import Derived.ProofKit
import Derived.OpenShut
import Derived.ShutString
import Derived.ChangeOld
import Derived.Below
import Derived.SizedLaws
import Derived.Carry
namespace Go.Proofs.Ytalhnoelkglgiaa.undoOwn
open Go.ChangeShapes Go.WideShapes Go.ChangeAt Go.RowKit Go.Proofs.Ytalhnoelkglgiaa.Sh
open Go.ChangeMaps (open_string shut_string)
open Go.Proofs.Ytalhnoelkglgiaa.W (open_ops)
set_option linter.unusedVariables false
theorem own : ownKnob Try.prog.godebug = none := by kernel_rfl
theorem laid : laidOutB Try.prog = true := by kernel_rfl
set_option maxRecDepth 100000 in
theorem lifted (os : Os) (started : os.Started) (H : Type) (enc : TypeId × Value → H) :
    ReturnsInHanded {} Try.checked os 7 .any (Rows.undoOwnSpec.pre6 enc Try.prog Try.f7 Rows.undoOwnRow.domain false) (Rows.undoOwnSpec.post enc Try.prog Try.f7 false true false false) := by
  refine returnsInHanded_of_change_sized (C := Try.checked) own started (by kernel_rfl) Try.func7
    (ChangeSpec.witness6 (enc := enc) (C := Try.checked) false ⟨#[], #[.slice none 0 0], []⟩ 8 (by kernel_rfl) (by kernel_rfl) (by kernel_rfl) (by kernel_rfl)) ?_
  intro W base args ds gs before hval0 hW hcnd hsz0 _
  have hval : ∀ (j : Nat) t v, Try.f7.params[j]? = some t → args[j]? = some v → Value.okWide Try.prog W .any base t v := hval0
  have hW' := hW
  obtain ⟨p, q, hA0, hV, rfl, hfz, hnd⟩ := hW
  have hA : DataW.TrodAll enc Try.prog W 0 (fun _ => true) true Try.f7.params.toList args.toList ds p := hA0
  rw [show Try.f7.params = #[22] from rfl] at hA hval
  obtain ⟨v0, vs0, d0, ds0, p0, q0, hargs, rfl, rfl, h0, r0⟩ := trodAll_cons hA
  obtain ⟨rfl, rfl, rfl⟩ := trodAll_nil r0
  obtain rfl : args = #[v0] := by cases args; simp_all
  obtain ⟨rfl, rfl⟩ := trodVars_none hV
  have h0k := h0
  obtain ⟨p_0, l_0, c_0, rfl, ok0⟩ := open_ops (hval 0 22 v0 rfl rfl) h0
  clear hA0 hval0
  refine (Go.Proofs.Ytalhnoelkglgiaa.W.undoOwn_walk p_0 l_0 c_0 W ok0).mono fun e W' ⟨he, bel⟩ => ?_
  subst he
  exact ⟨_, rfl, _, _, _, [], _, [], hW', trodAll_mk1 (shut_bool (show Try.prog.underlying 4 = some .bool by kernel_rfl) _), (trodAll_cons_mk (Below.trod laid (by kernel_rfl) (of_decide_eq_true (by kernel_rfl)) h0k bel (fun x hx => by have := hW'.lt x (by simp [hx]); simpa using this)) trodAll_mk0), rfl, bel.frame _, fun h => by cases h⟩
theorem over : Rows.undoOwnRow.holds Try.pinned (OpenSpec.ofChange Rows.undoOwnSpec) :=
  OpenClaim.holds_of_wide 7 Try.f7 rfl rfl rfl rfl rfl rfl rfl ⟨rfl, rfl, rfl, rfl, rfl⟩ rfl rfl rfl rfl rfl (by kernel_rfl) Try.func7 (by kernel_rfl)
    (of_decide_eq_true (by kernel_rfl)) (by unfold Func.isWrapper; first | (rw [if_pos (by decide +kernel)]; kernel_rfl) | (rw [if_neg (by decide +kernel)]; exact ⟨rfl, rfl⟩))
    (fun os started H enc _ => lifted os started H enc)
theorem proved : Rows.UndoOwnSaid := over
#print axioms proved
end Go.Proofs.Ytalhnoelkglgiaa.undoOwn
namespace Go.Proofs.Ytalhnoelkglgiaa
/-- The row, under a short name, for the claim. -/
theorem undoOwn_holds : Rows.UndoOwnSaid := undoOwn.proved
end Go.Proofs.Ytalhnoelkglgiaa
