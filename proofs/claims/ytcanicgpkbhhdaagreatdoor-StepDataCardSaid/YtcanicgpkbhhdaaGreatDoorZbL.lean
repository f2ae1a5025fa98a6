/- Joined out of own texts. No condition: it holds of every program, or of this one by what is shown here. -/
import Derived.Test.YtcanicgpkbhhdaaGreatDoorCards
import Derived.Test.YtcanicgpkbhhdaaGreatDoorTie
import Derived.Test.YtcanicgpkbhhdaaGreatDoorZb12
import Derived.Test.YtcanicgpkbhhdaaGreatDoorZb1
import Derived.Test.YtcanicgpkbhhdaaGreatDoorZb5
import Derived.WalkKit
import Derived.ProofKit
import Derived.OpenShut
import Derived.ShutString
import Derived.ChangeOld
import Derived.Below
import Derived.SizedLaws
import Derived.Carry
import Derived.Deep.DeepHandedRow
import Derived.Lib.LaidTab
set_option linter.unusedSectionVars false
set_option linter.constructorNameAsVariable false
set_option linter.unusedVariables false
set_option linter.unusedSimpArgs false
namespace Go.Proofs.YtcanicgpkbhhdaaGreatDoor.stepData
open Go.ChangeShapes Go.WideShapes Go.ChangeAt Go.RowKit Go.Proofs.YtcanicgpkbhhdaaGreatDoor.Sh
set_option linter.unusedVariables false
theorem own : ownKnob Tryz.prog.godebug = none := by kernel_rfl
theorem laid : laidOutB Tryz.prog = true := by kernel_rfl
/-- A world for the witness: the variables listed hold what their initialisers lay. -/
def hold (b : Nat) (cs : Array Value) (h : Array Obj) : Array Obj := h.modify b fun o => match o with
  | .cells _ t frozen => .cells cs t frozen
  | o => o
noncomputable def laidWorld (os : Os) : World := { World.holding Tryz.prog os ⟨#[], #[], []⟩ with heap := (hold 5 #[.int .u8 0, .int .u8 1, .int .u8 56, .int .u8 2, .int .u8 57, .int .u8 49, .int .u8 28, .int .u8 3, .int .u8 61, .int .u8 58, .int .u8 42, .int .u8 50, .int .u8 38, .int .u8 29, .int .u8 17, .int .u8 4, .int .u8 62, .int .u8 47, .int .u8 59, .int .u8 36, .int .u8 45, .int .u8 43, .int .u8 51, .int .u8 22, .int .u8 53, .int .u8 39, .int .u8 33, .int .u8 30, .int .u8 24, .int .u8 18, .int .u8 12, .int .u8 5, .int .u8 63, .int .u8 55, .int .u8 48, .int .u8 27, .int .u8 60, .int .u8 41, .int .u8 37, .int .u8 16, .int .u8 46, .int .u8 35, .int .u8 44, .int .u8 21, .int .u8 52, .int .u8 32, .int .u8 23, .int .u8 11, .int .u8 54, .int .u8 26, .int .u8 40, .int .u8 15, .int .u8 34, .int .u8 20, .int .u8 31, .int .u8 10, .int .u8 25, .int .u8 14, .int .u8 19, .int .u8 9, .int .u8 13, .int .u8 8, .int .u8 7, .int .u8 6]
    (hold 4 #[.int .u8 0, .int .u8 1, .int .u8 28, .int .u8 2, .int .u8 29, .int .u8 14, .int .u8 24, .int .u8 3, .int .u8 30, .int .u8 22, .int .u8 20, .int .u8 15, .int .u8 25, .int .u8 17, .int .u8 4, .int .u8 8, .int .u8 31, .int .u8 27, .int .u8 13, .int .u8 23, .int .u8 21, .int .u8 19, .int .u8 16, .int .u8 7, .int .u8 26, .int .u8 12, .int .u8 18, .int .u8 6, .int .u8 11, .int .u8 5, .int .u8 10, .int .u8 9]
    (hold 3 #[.int .u64 1, .int .u64 10, .int .u64 100, .int .u64 1000, .int .u64 10000, .int .u64 100000, .int .u64 1000000, .int .u64 10000000, .int .u64 100000000, .int .u64 1000000000, .int .u64 10000000000, .int .u64 100000000000, .int .u64 1000000000000, .int .u64 10000000000000, .int .u64 100000000000000, .int .u64 1000000000000000, .int .u64 10000000000000000, .int .u64 100000000000000000, .int .u64 1000000000000000000, .int .u64 10000000000000000000]
    (hold 2 #[.int .i64 0, .int .i64 1, .int .i64 62, .int .i64 28, .int .i64 27, .int .i64 36, .int .i64 44, .int .i64 6, .int .i64 55, .int .i64 20, .int .i64 3, .int .i64 10, .int .i64 43, .int .i64 25, .int .i64 39, .int .i64 41, .int .i64 45, .int .i64 15, .int .i64 21, .int .i64 8, .int .i64 18, .int .i64 2, .int .i64 61, .int .i64 56, .int .i64 14]
    (hold 1 #[.int .u64 1, .int .u64 32898, .int .u64 9223372036854808714, .int .u64 9223372039002292224, .int .u64 32907, .int .u64 2147483649, .int .u64 9223372039002292353, .int .u64 9223372036854808585, .int .u64 138, .int .u64 136, .int .u64 2147516425, .int .u64 2147483658, .int .u64 2147516555, .int .u64 9223372036854775947, .int .u64 9223372036854808713, .int .u64 9223372036854808579, .int .u64 9223372036854808578, .int .u64 9223372036854775936, .int .u64 32778, .int .u64 9223372039002259466, .int .u64 9223372039002292353, .int .u64 9223372036854808704, .int .u64 2147483649, .int .u64 9223372039002292232]
    (World.holding Tryz.prog os ⟨#[], #[], []⟩).heap))))) }
theorem laid_met (os : Os) : laidMet Tryz.prog Rows.stepDataRow.laid ((laidWorld os).forCall (fun _ _ => 0) ⟨#[], #[.slice none 0 0, .int .i64 0, .int .u64 0], []⟩).memory :=
  laidMet_of_run' 8 (by kernel_rfl) (by kernel_rfl)
theorem reads (os : Os) {H : Type} (enc : TypeId × Value → H) : ∃ ds places, DataW.whole enc Tryz.prog ((laidWorld os).forCall (fun _ _ => 0) ⟨#[], #[.slice none 0 0, .int .i64 0, .int .u64 0], []⟩).memory Tryz.f7.params.toList Rows.stepDataSpec.vars false #[Value.slice none 0 0, Value.int .i64 0, Value.int .u64 0].toList 8 = some (ds, [], places) :=
  ⟨[.nil, .lit (.int .i64 0), .lit (.int .u64 0)], [], by kernel_rfl⟩
set_option maxRecDepth 100000 in
theorem lifted (os : Os) (started : os.Started) (H : Type) (enc : TypeId × Value → H) (F : Stop.Interp) :
    ReturnsInHanded {} Tryz.checked os 7 .any ((OpenSpec.ofChange Rows.stepDataSpec).preRow enc Tryz.prog Tryz.f7 Rows.stepDataRow.domain false Rows.stepDataRow.laid) (((OpenSpec.ofChange Rows.stepDataSpec).at F).post enc Tryz.prog Tryz.f7 false true false false) := by
  obtain ⟨xs, places, hx⟩ := reads os enc
  refine returnsInHanded_of_row (C := Tryz.checked) (s := OpenSpec.ofChange Rows.stepDataSpec) own started (by kernel_rfl) Tryz.func7
    (witness_row_at (enc := enc) (C := Tryz.checked) false (laidWorld os) #[.slice none 0 0, .int .i64 0, .int .u64 0] rfl (by kernel_rfl) (by kernel_rfl) (by kernel_rfl)
      (OpenSpec.preRow_of_cond 8 hx (by kernel_rfl) (fun k hk => by cases hk) (by kernel_rfl) (laid_met os))) ?_
  intro W base args ds gs before hval0 hW _ hcond _ _ _ _
  have hval : ∀ (j : Nat) t v, Tryz.f7.params[j]? = some t → args[j]? = some v → Value.okWide Tryz.prog W .any base t v := hval0
  have hW' := hW
  obtain ⟨p, q, hA0, hV, rfl, hfz, hnd⟩ := hW
  have hA : DataW.TrodAll enc Tryz.prog W 0 (fun _ => true) true Tryz.f7.params.toList args.toList ds p := hA0
  rw [show Tryz.f7.params = #[28, 3, 22] from rfl] at hA hval
  obtain ⟨v0, vs0, d0, ds0, p0, q0, hargs, rfl, rfl, h0, r0⟩ := trodAll_cons hA
  obtain ⟨v1, vs1, d1, ds1, p1, q1, rfl, rfl, rfl, h1, r1⟩ := trodAll_cons r0
  obtain ⟨v2, vs2, d2, ds2, p2, q2, rfl, rfl, rfl, h2, r2⟩ := trodAll_cons r1
  obtain ⟨rfl, rfl, rfl⟩ := trodAll_nil r2
  obtain rfl : args = #[v0, v1, v2] := by cases args; simp_all
  obtain ⟨rfl, rfl⟩ := trodVars_none hV
  have h0k := h0
  obtain ⟨p_0, l_0, k_0, x_0, rfl, z_0, n_0, s_0⟩ := open_rows (d := 20) (z := 1) (show Tryz.prog.underlying 28 = some (.slice 5) by kernel_rfl) (by kernel_rfl) (hval 0 28 v0 rfl rfl) h0
  obtain ⟨a1, rfl, rfl, rfl, w1⟩ := open_int (k := .i64) (show Tryz.prog.underlying 3 = some (.int .i64) by kernel_rfl) (hval 1 3 v1 rfl rfl) h1
  obtain ⟨a2, rfl, rfl, rfl, w2⟩ := open_int (k := .u64) (show Tryz.prog.underlying 22 = some (.int .u64) by kernel_rfl) (hval 2 22 v2 rfl rfl) h2
  clear hA0 hval0
  refine (Go.Proofs.YtcanicgpkbhhdaaGreatDoor.Rn.stepData_walk p_0 l_0 k_0 x_0 a1 a2 W z_0 n_0 s_0 w1 w2).mono fun e W' ⟨he, bel⟩ => ?_
  subst he
  exact ⟨_, rfl, _, _, _, [], _, [], hW', trodAll_mk1 (shut_bool (show Tryz.prog.underlying 4 = some .bool by kernel_rfl) _), (trodAll_cons_mk (Below.trod laid (by kernel_rfl) (of_decide_eq_true (by kernel_rfl)) h0k bel (fun x hx => by have := hW'.lt x (by simp [hx]); simpa using this)) (trodAll_cons_mk (shut_int (show Tryz.prog.underlying 3 = some (.int .i64) by kernel_rfl) w1) (trodAll_cons_mk (shut_int (show Tryz.prog.underlying 22 = some (.int .u64) by kernel_rfl) w2) trodAll_mk0))), rfl, bel.frame _, fun h => by cases h⟩
theorem and_mk {a b : Bool} (h : a = true) (k : b = true) : (a && b) = true := by rw [h, k]; rfl
set_option maxHeartbeats 100000000 in
theorem q1 : joinedFacts Tryz.checked.prog 7 Tryz.f7 (OpenSpec.ofChange Rows.stepDataSpec).bare Rows.stepDataRow = true := by
  unfold joinedFacts
  repeat' (with_reducible refine and_mk ?_ ?_)
  all_goals (as_aux_lemma => kernel_rfl)
theorem q2 : Tryz.f7.isInstance Tryz.pinned.checked.prog Rows.stepDataRow.origin Rows.stepDataRow.targs := (of_decide_eq_true (by kernel_rfl))
theorem q3 : Tryz.f7.isWrapper Tryz.pinned.checked.prog Rows.stepDataRow.wrapper Rows.stepDataRow.mainSum := (by unfold Func.isWrapper; first | (rw [if_pos (by decide +kernel)]; kernel_rfl) | (rw [if_neg (by decide +kernel)]; exact ⟨rfl, rfl⟩))
theorem q4 : ∀ os : Os, os.Started → ∀ (H : Type) (enc : TypeId × Value → H), (∀ a b, enc a = enc b → a = b) → ∀ F : Stop.Interp,
    ReturnsInHanded Rows.stepDataRow.assume Tryz.pinned.checked os 7 .any (Rows.stepDataRow.pre enc Tryz.pinned.checked.prog Tryz.f7 (OpenSpec.ofChange Rows.stepDataSpec)) (((OpenSpec.ofChange Rows.stepDataSpec).at F).post enc Tryz.pinned.checked.prog Tryz.f7 Rows.stepDataRow.apart Rows.stepDataRow.fresh Rows.stepDataRow.handsOn Rows.stepDataRow.again) :=
  fun os started H enc _ F => by rw [OpenClaim.pre_eq_preRow]; exact lifted os started H enc F
theorem q5 : Tryz.pinned.checked.prog.funcNamed Rows.stepDataRow.func = some 7 := by kernel_rfl
theorem said : Rows.StepDataSaid :=
  OpenClaim.holds_of_cond 7 Tryz.f7 rfl rfl rfl rfl rfl rfl rfl ⟨rfl, rfl, rfl, rfl, rfl⟩ rfl rfl rfl rfl rfl q5 Tryz.func7 q1 q2 q3 q4
theorem plain (f : FuncId) (fn : Func) (hf : Tryz.pinned.checked.prog.funcNamed "vouch/vouchlaw12.StepData" = some f) (hfn : Tryz.pinned.checked.prog.funcs[f]? = some fn) :
    true = Tryz.pinned.checked.prog.looks [] ∧ ∀ (j : Nat) t, fn.params[j]? = some t → Tryz.pinned.checked.prog.wantsStandIn t = false := by
  obtain rfl : f = 7 := Option.some.inj ((show Tryz.prog.funcNamed "vouch/vouchlaw12.StepData" = some 7 by kernel_rfl).symm.trans hf) |>.symm
  obtain rfl : fn = Tryz.f7 := (Option.some.inj (Tryz.func7.symm.trans hfn)).symm
  refine ⟨by kernel_rfl, fun j t ht => ?_⟩
  rw [show Tryz.f7.params = #[28, 3, 22] from rfl] at ht
  have hm := Array.mem_of_getElem? ht
  have hc : t = 28 ∨ t = 3 ∨ t = 22 := by simpa using hm
  rcases hc with rfl | rfl | rfl
  · exact (show Tryz.prog.wantsStandIn 28 = false by kernel_rfl)
  · exact (show Tryz.prog.wantsStandIn 3 = false by kernel_rfl)
  · exact (show Tryz.prog.wantsStandIn 22 = false by kernel_rfl)
theorem proved : Rows.StepDataCardSaid :=
  Claim7.holds_tied_plain_at .later [] _ _ _ _ said (fun _ h => by cases h) (by kernel_rfl) (fun _ h => by cases h) stepData_row_tie rfl ⟨rfl, rfl⟩ (by kernel_rfl) rfl plain (by kernel_rfl)
end Go.Proofs.YtcanicgpkbhhdaaGreatDoor.stepData
namespace Go.Proofs.YtcanicgpkbhhdaaGreatDoor
/-- The card, under a short name, for the claim. -/
theorem stepData_holds : Rows.StepDataCardSaid := stepData.proved
end Go.Proofs.YtcanicgpkbhhdaaGreatDoor
