/- The law UndoWithin in the row's form, by a walk of ours. No condition. Printed by lawp.py, a program of ours. -/
import Derived.Test.YtalhnoelkglgiaaRows
import Derived.Test.YtalhnoelkglgiaaVE
import Derived.Test.YtalhnoelkglgiaaSh8
import Derived.WalkKit
import Derived.ProofKit
import Derived.OpenShut
import Derived.ShutString
import Derived.ChangeOld
import Derived.Below
import Derived.SizedLaws
import Derived.Carry
namespace Go.Proofs.Ytalhnoelkglgiaa.undoWithin
open Go.ChangeShapes Go.WideShapes Go.ChangeAt Go.RowKit Go.Proofs.Ytalhnoelkglgiaa.Sh
open Go.ChangeMaps (open_string shut_string)
open Go.Proofs.Ytalhnoelkglgiaa.W (open_ops)
set_option linter.unusedVariables false
theorem own : ownKnob Try.prog.godebug = none := by kernel_rfl
theorem laid : laidOutB Try.prog = true := by kernel_rfl
set_option maxRecDepth 100000 in
theorem lifted (os : Os) (started : os.Started) (H : Type) (enc : TypeId × Value → H) :
    ReturnsInHanded {} Try.checked os 9 .any (Rows.undoWithinSpec.pre6 enc Try.prog Try.f9 Rows.undoWithinRow.domain false) (Rows.undoWithinSpec.post enc Try.prog Try.f9 false true false false) := by
  refine returnsInHanded_of_change_sized (C := Try.checked) own started (by kernel_rfl) Try.func9
    (ChangeSpec.witness6 (enc := enc) (C := Try.checked) false ⟨#[], #[.slice none 0 0, .slice none 0 0, .int .i64 0], []⟩ 8 (by kernel_rfl) (by kernel_rfl) (by kernel_rfl) (by kernel_rfl)) ?_
  intro W base args ds gs before hval0 hW hcnd hsz0 _
  have hval : ∀ (j : Nat) t v, Try.f9.params[j]? = some t → args[j]? = some v → Value.okWide Try.prog W .any base t v := hval0
  have hW' := hW
  obtain ⟨p, q, hA0, hV, rfl, hfz, hnd⟩ := hW
  have hA : DataW.TrodAll enc Try.prog W 0 (fun _ => true) true Try.f9.params.toList args.toList ds p := hA0
  rw [show Try.f9.params = #[22, 22, 3] from rfl] at hA hval
  obtain ⟨v0, vs0, d0, ds0, p0, q0, hargs, rfl, rfl, h0, r0⟩ := trodAll_cons hA
  obtain ⟨v1, vs1, d1, ds1, p1, q1, rfl, rfl, rfl, h1, r1⟩ := trodAll_cons r0
  obtain ⟨v2, vs2, d2, ds2, p2, q2, rfl, rfl, rfl, h2, r2⟩ := trodAll_cons r1
  obtain ⟨rfl, rfl, rfl⟩ := trodAll_nil r2
  obtain rfl : args = #[v0, v1, v2] := by cases args; simp_all
  obtain ⟨rfl, rfl⟩ := trodVars_none hV
  have h0k := h0
  obtain ⟨p_0, l_0, c_0, rfl, ok0⟩ := open_ops (hval 0 22 v0 rfl rfl) h0
  have h1k := h1
  obtain ⟨p_1, l_1, c_1, rfl, ok1⟩ := open_ops (hval 1 22 v1 rfl rfl) h1
  obtain ⟨a2, rfl, rfl, rfl, w2⟩ := open_int (k := .i64) (show Try.prog.underlying 3 = some (.int .i64) by kernel_rfl) (hval 2 3 v2 rfl rfl) h2
  clear hA0 hval0
  refine (Go.Proofs.Ytalhnoelkglgiaa.W.undoWithin_walk p_0 l_0 c_0 p_1 l_1 c_1 a2 W ok0 ok1 w2).mono fun e W' ⟨he, bel⟩ => ?_
  subst he
  exact ⟨_, rfl, _, _, _, [], _, [], hW', trodAll_mk1 (shut_bool (show Try.prog.underlying 4 = some .bool by kernel_rfl) _), (trodAll_cons_mk (Below.trod laid (by kernel_rfl) (of_decide_eq_true (by kernel_rfl)) h0k bel (fun x hx => by have := hW'.lt x (by simp [hx]); simpa using this)) (trodAll_cons_mk (Below.trod laid (by kernel_rfl) (of_decide_eq_true (by kernel_rfl)) h1k bel (fun x hx => by have := hW'.lt x (by simp [hx]); simpa using this)) (trodAll_cons_mk (shut_int (show Try.prog.underlying 3 = some (.int .i64) by kernel_rfl) w2) trodAll_mk0))), rfl, bel.frame _, fun h => by cases h⟩
theorem over : Rows.undoWithinRow.holds Try.pinned (OpenSpec.ofChange Rows.undoWithinSpec) :=
  OpenClaim.holds_of_wide 9 Try.f9 rfl rfl rfl rfl rfl rfl rfl ⟨rfl, rfl, rfl, rfl, rfl⟩ rfl rfl rfl rfl rfl (by kernel_rfl) Try.func9 (by kernel_rfl)
    (of_decide_eq_true (by kernel_rfl)) (by unfold Func.isWrapper; first | (rw [if_pos (by decide +kernel)]; kernel_rfl) | (rw [if_neg (by decide +kernel)]; exact ⟨rfl, rfl⟩))
    (fun os started H enc _ => lifted os started H enc)
theorem proved : Rows.UndoWithinSaid := over
#print axioms proved
end Go.Proofs.Ytalhnoelkglgiaa.undoWithin
namespace Go.Proofs.Ytalhnoelkglgiaa
/-- The row, under a short name, for the claim. -/
theorem undoWithin_holds : Rows.UndoWithinSaid := undoWithin.proved
end Go.Proofs.Ytalhnoelkglgiaa
