/- The law GasWhole in the row's form, by a walk of ours. No condition. Printed by lawp.py, a program of ours. -/
import Derived.Test.YtamllimonjfmiaaRows
import Derived.Test.YtamllimonjfmiaaG4
import Derived.Test.YtamllimonjfmiaaSh8
import Derived.WalkKit
import Derived.ProofKit
import Derived.OpenShut
import Derived.ShutString
import Derived.ChangeOld
import Derived.Below
import Derived.SizedLaws
import Derived.Carry
namespace Go.Proofs.Ytamllimonjfmiaa.gasWhole
open Go.ChangeShapes Go.WideShapes Go.ChangeAt Go.RowKit Go.Proofs.Ytamllimonjfmiaa.Sh
open Go.ChangeMaps (open_string shut_string)
set_option linter.unusedVariables false
theorem own : ownKnob Try.prog.godebug = none := by kernel_rfl
theorem laid : laidOutB Try.prog = true := by kernel_rfl
set_option maxRecDepth 100000 in
theorem lifted (os : Os) (started : os.Started) (H : Type) (enc : TypeId × Value → H) :
    ReturnsInHanded {} Try.checked os 6 .any (Rows.gasWholeSpec.pre6 enc Try.prog Try.f6 Rows.gasWholeRow.domain false) (Rows.gasWholeSpec.post enc Try.prog Try.f6 false true false false) := by
  refine returnsInHanded_of_change_sized (C := Try.checked) own started (by kernel_rfl) Try.func6
    (ChangeSpec.witness6 (enc := enc) (C := Try.checked) false ⟨#[], #[.int .u64 0, .slice none 0 0], []⟩ 8 (by kernel_rfl) (by kernel_rfl) (by kernel_rfl) (by kernel_rfl)) ?_
  intro W base args ds gs before hval0 hW hcnd hsz0 _
  have hval : ∀ (j : Nat) t v, Try.f6.params[j]? = some t → args[j]? = some v → Value.okWide Try.prog W .any base t v := hval0
  have hW' := hW
  obtain ⟨p, q, hA0, hV, rfl, hfz, hnd⟩ := hW
  have hA : DataW.TrodAll enc Try.prog W 0 (fun _ => true) true Try.f6.params.toList args.toList ds p := hA0
  rw [show Try.f6.params = #[22, 32] from rfl] at hA hval
  obtain ⟨v0, vs0, d0, ds0, p0, q0, hargs, rfl, rfl, h0, r0⟩ := trodAll_cons hA
  obtain ⟨v1, vs1, d1, ds1, p1, q1, rfl, rfl, rfl, h1, r1⟩ := trodAll_cons r0
  obtain ⟨rfl, rfl, rfl⟩ := trodAll_nil r1
  obtain rfl : args = #[v0, v1] := by cases args; simp_all
  obtain ⟨rfl, rfl⟩ := trodVars_none hV
  obtain ⟨a0, rfl, rfl, rfl, w0⟩ := open_int (k := .u64) (show Try.prog.underlying 22 = some (.int .u64) by kernel_rfl) (hval 0 22 v0 rfl rfl) h0
  have h1k := h1
  obtain ⟨p_1, l_1, c_1, rfl, ml1, ok1⟩ := open_nums (k := .u64) (show Try.prog.underlying 32 = some (.slice 22) by kernel_rfl) (show Try.prog.underlying 22 = some (.int .u64) by kernel_rfl) (show Try.prog.cellsOf 22 = 1 by kernel_rfl) (hval 1 32 v1 rfl rfl) h1
  clear hA0 hval0
  refine (Go.Proofs.Ytamllimonjfmiaa.W.gasWhole_walk a0 p_1 l_1 c_1 W w0 ml1 ok1).mono fun e W' ⟨he, bel⟩ => ?_
  subst he
  exact ⟨_, rfl, _, _, _, [], _, [], hW', trodAll_mk1 (shut_bool (show Try.prog.underlying 4 = some .bool by kernel_rfl) _), (trodAll_cons_mk (shut_int (show Try.prog.underlying 22 = some (.int .u64) by kernel_rfl) w0) (trodAll_cons_mk (Below.trod laid (by kernel_rfl) (of_decide_eq_true (by kernel_rfl)) h1k bel (fun x hx => by have := hW'.lt x (by simp [hx]); simpa using this)) trodAll_mk0)), rfl, bel.frame _, fun h => by cases h⟩
theorem over : Rows.gasWholeRow.holds Try.pinned (OpenSpec.ofChange Rows.gasWholeSpec) :=
  OpenClaim.holds_of_wide 6 Try.f6 rfl rfl rfl rfl rfl rfl rfl ⟨rfl, rfl, rfl, rfl, rfl⟩ rfl rfl rfl rfl rfl (by kernel_rfl) Try.func6 (by kernel_rfl)
    (of_decide_eq_true (by kernel_rfl)) (by unfold Func.isWrapper; first | (rw [if_pos (by decide +kernel)]; kernel_rfl) | (rw [if_neg (by decide +kernel)]; exact ⟨rfl, rfl⟩))
    (fun os started H enc _ => lifted os started H enc)
theorem proved : Rows.GasWholeSaid := over
#print axioms proved
end Go.Proofs.Ytamllimonjfmiaa.gasWhole
namespace Go.Proofs.Ytamllimonjfmiaa
/-- The row, under a short name, for the claim. -/
theorem gasWhole_holds : Rows.GasWholeSaid := gasWhole.proved
end Go.Proofs.Ytamllimonjfmiaa
