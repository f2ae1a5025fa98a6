/- Joined out of own texts. No condition: it holds of every program, or of this one by what is shown here. -/
import Derived.Test.YtcanicgpkbhhdaaGreatDoorZb3
set_option linter.unusedSectionVars false
set_option linter.constructorNameAsVariable false
set_option linter.unusedVariables false
set_option linter.unusedSimpArgs false
namespace Go.Proofs.YtcanicgpkbhhdaaGreatDoor.Rn
open Go Go.RowKit Go.Proofs.YtcanicgpkbhhdaaGreatDoor.Sh
set_option linter.unusedVariables false
set_option linter.unusedSimpArgs false
set_option maxRecDepth 100000
noncomputable def endB : Rs → V → Bool
  | .ok v _, r => V.beq v r
  | _, _ => false
theorem endB_ok {r : Rs} {v : V} (h : endB r v = true) : ∃ H', r = .ok v H' := by
  unfold endB at h
  split at h
  · rename_i v' H'; exact ⟨H', by rw [V.beq_eq h]⟩
  · cases h
/-- A call that asks for no memory of ours and leaves none. -/
theorem pure_call {X : Xs} (hX : PX Tryz.prog X) {lf n f : Nat} {args : List V} {v : V} (hb : hasBodyB Tryz.prog f = true) (hl : V.flatL args = true) (hv : v.flat = true) (h : endB (callV Tryz.prog X lf (n + 1) (.fn f [] []) args H0) v = true) (c : Cx) (w : World) (K : Value → World → Prop) (hK : ∀ w', Bl w w' → K (v.den c) w') : CallV Tryz.prog f (V.denL c args).toArray w K := by
  obtain ⟨H', hrun⟩ := endB_ok h
  have hr0 : Rep c ⟨w, fun _ => False, fun _ => False⟩ w H0 := ⟨Ext.refl w, fun b o _ hg => (by rw [show H0.get b = none from Tr.get_nil b] at hg; cases hg), fun b o hb => absurd hb (Nat.not_lt_zero b), fun b o hb => absurd hb (Nat.not_lt_zero b), fun b b' o o' hb => absurd hb (Nat.not_lt_zero b), fun p hp => (by cases hp), by show (0 : Nat) < _; omega⟩
  have hg := callFn_ok hX (n := n) (callV_ok hX n) hr0 ⟨trivial, trivial⟩ (flatL_lt args hl) (K := K) (Q := fun _ _ => False) (f := f) (first := []) (cap := []) (args := args) (lf := lf) (by
    rw [hrun]
    intro c' w' h1 h2 h3 h4
    rw [V.agr h1 v (flat_lt v hv)]
    exact hK w' (h3.bl.bl fun _ _ h => h))
  simp only [List.nil_append, List.append_nil] at hg
  rcases hg with ⟨_, hg⟩ | ⟨⟨v1, w1, h1, h2⟩, _⟩
  · exact CallX.to_V hg
  · exfalso
    have e1 : (callFunc f (V.denL c args).toArray).run Tryz.prog w = .ok (.enter f (V.denL c args).toArray) w := run_callFunc hb
    rw [e1] at h1
    cases h1
def ofL : List (Nat × V) := [
  (1, .tup [.agg [.int .i64 (.ofNat 1), .str [65, 68, 68], .int .i64 (.ofNat 0), .int .i64 (.ofNat 2), .int .i64 (.ofNat 1), .int .i64 (.ofNat 3), .bool false], .bool true]),
  (2, .tup [.agg [.int .i64 (.ofNat 2), .str [77, 85, 76], .int .i64 (.ofNat 0), .int .i64 (.ofNat 2), .int .i64 (.ofNat 1), .int .i64 (.ofNat 5), .bool false], .bool true]),
  (3, .tup [.agg [.int .i64 (.ofNat 3), .str [83, 85, 66], .int .i64 (.ofNat 0), .int .i64 (.ofNat 2), .int .i64 (.ofNat 1), .int .i64 (.ofNat 3), .bool false], .bool true]),
  (4, .tup [.agg [.int .i64 (.ofNat 4), .str [68, 73, 86], .int .i64 (.ofNat 0), .int .i64 (.ofNat 2), .int .i64 (.ofNat 1), .int .i64 (.ofNat 5), .bool false], .bool true]),
  (5, .tup [.agg [.int .i64 (.ofNat 5), .str [83, 68, 73, 86], .int .i64 (.ofNat 0), .int .i64 (.ofNat 2), .int .i64 (.ofNat 1), .int .i64 (.ofNat 5), .bool false], .bool true]),
  (6, .tup [.agg [.int .i64 (.ofNat 6), .str [77, 79, 68], .int .i64 (.ofNat 0), .int .i64 (.ofNat 2), .int .i64 (.ofNat 1), .int .i64 (.ofNat 5), .bool false], .bool true]),
  (7, .tup [.agg [.int .i64 (.ofNat 7), .str [83, 77, 79, 68], .int .i64 (.ofNat 0), .int .i64 (.ofNat 2), .int .i64 (.ofNat 1), .int .i64 (.ofNat 5), .bool false], .bool true]),
  (8, .tup [.agg [.int .i64 (.ofNat 8), .str [65, 68, 68, 77, 79, 68], .int .i64 (.ofNat 0), .int .i64 (.ofNat 3), .int .i64 (.ofNat 1), .int .i64 (.ofNat 8), .bool false], .bool true]),
  (9, .tup [.agg [.int .i64 (.ofNat 9), .str [77, 85, 76, 77, 79, 68], .int .i64 (.ofNat 0), .int .i64 (.ofNat 3), .int .i64 (.ofNat 1), .int .i64 (.ofNat 8), .bool false], .bool true]),
  (10, .tup [.agg [.int .i64 (.ofNat 10), .str [69, 88, 80], .int .i64 (.ofNat 0), .int .i64 (.ofNat 2), .int .i64 (.ofNat 1), .int .i64 (.ofNat 10), .bool false], .bool true]),
  (11, .tup [.agg [.int .i64 (.ofNat 11), .str [83, 73, 71, 78, 69, 88, 84, 69, 78, 68], .int .i64 (.ofNat 0), .int .i64 (.ofNat 2), .int .i64 (.ofNat 1), .int .i64 (.ofNat 5), .bool false], .bool true]),
  (16, .tup [.agg [.int .i64 (.ofNat 16), .str [76, 84], .int .i64 (.ofNat 0), .int .i64 (.ofNat 2), .int .i64 (.ofNat 1), .int .i64 (.ofNat 3), .bool false], .bool true]),
  (17, .tup [.agg [.int .i64 (.ofNat 17), .str [71, 84], .int .i64 (.ofNat 0), .int .i64 (.ofNat 2), .int .i64 (.ofNat 1), .int .i64 (.ofNat 3), .bool false], .bool true]),
  (18, .tup [.agg [.int .i64 (.ofNat 18), .str [83, 76, 84], .int .i64 (.ofNat 0), .int .i64 (.ofNat 2), .int .i64 (.ofNat 1), .int .i64 (.ofNat 3), .bool false], .bool true]),
  (19, .tup [.agg [.int .i64 (.ofNat 19), .str [83, 71, 84], .int .i64 (.ofNat 0), .int .i64 (.ofNat 2), .int .i64 (.ofNat 1), .int .i64 (.ofNat 3), .bool false], .bool true]),
  (20, .tup [.agg [.int .i64 (.ofNat 20), .str [69, 81], .int .i64 (.ofNat 0), .int .i64 (.ofNat 2), .int .i64 (.ofNat 1), .int .i64 (.ofNat 3), .bool false], .bool true]),
  (21, .tup [.agg [.int .i64 (.ofNat 21), .str [73, 83, 90, 69, 82, 79], .int .i64 (.ofNat 0), .int .i64 (.ofNat 1), .int .i64 (.ofNat 1), .int .i64 (.ofNat 3), .bool false], .bool true]),
  (22, .tup [.agg [.int .i64 (.ofNat 22), .str [65, 78, 68], .int .i64 (.ofNat 0), .int .i64 (.ofNat 2), .int .i64 (.ofNat 1), .int .i64 (.ofNat 3), .bool false], .bool true]),
  (23, .tup [.agg [.int .i64 (.ofNat 23), .str [79, 82], .int .i64 (.ofNat 0), .int .i64 (.ofNat 2), .int .i64 (.ofNat 1), .int .i64 (.ofNat 3), .bool false], .bool true]),
  (24, .tup [.agg [.int .i64 (.ofNat 24), .str [88, 79, 82], .int .i64 (.ofNat 0), .int .i64 (.ofNat 2), .int .i64 (.ofNat 1), .int .i64 (.ofNat 3), .bool false], .bool true]),
  (25, .tup [.agg [.int .i64 (.ofNat 25), .str [78, 79, 84], .int .i64 (.ofNat 0), .int .i64 (.ofNat 1), .int .i64 (.ofNat 1), .int .i64 (.ofNat 3), .bool false], .bool true]),
  (26, .tup [.agg [.int .i64 (.ofNat 26), .str [66, 89, 84, 69], .int .i64 (.ofNat 0), .int .i64 (.ofNat 2), .int .i64 (.ofNat 1), .int .i64 (.ofNat 3), .bool false], .bool true]),
  (27, .tup [.agg [.int .i64 (.ofNat 27), .str [83, 72, 76], .int .i64 (.ofNat 0), .int .i64 (.ofNat 2), .int .i64 (.ofNat 1), .int .i64 (.ofNat 3), .bool false], .bool true]),
  (28, .tup [.agg [.int .i64 (.ofNat 28), .str [83, 72, 82], .int .i64 (.ofNat 0), .int .i64 (.ofNat 2), .int .i64 (.ofNat 1), .int .i64 (.ofNat 3), .bool false], .bool true]),
  (29, .tup [.agg [.int .i64 (.ofNat 29), .str [83, 65, 82], .int .i64 (.ofNat 0), .int .i64 (.ofNat 2), .int .i64 (.ofNat 1), .int .i64 (.ofNat 3), .bool false], .bool true]),
  (30, .tup [.agg [.int .i64 (.ofNat 30), .str [67, 76, 90], .int .i64 (.ofNat 0), .int .i64 (.ofNat 1), .int .i64 (.ofNat 1), .int .i64 (.ofNat 5), .bool false], .bool true]),
  (48, .tup [.agg [.int .i64 (.ofNat 48), .str [65, 68, 68, 82, 69, 83, 83], .int .i64 (.ofNat 0), .int .i64 (.ofNat 0), .int .i64 (.ofNat 1), .int .i64 (.ofNat 2), .bool false], .bool true]),
  (50, .tup [.agg [.int .i64 (.ofNat 50), .str [79, 82, 73, 71, 73, 78], .int .i64 (.ofNat 0), .int .i64 (.ofNat 0), .int .i64 (.ofNat 1), .int .i64 (.ofNat 2), .bool false], .bool true]),
  (51, .tup [.agg [.int .i64 (.ofNat 51), .str [67, 65, 76, 76, 69, 82], .int .i64 (.ofNat 0), .int .i64 (.ofNat 0), .int .i64 (.ofNat 1), .int .i64 (.ofNat 2), .bool false], .bool true]),
  (52, .tup [.agg [.int .i64 (.ofNat 52), .str [67, 65, 76, 76, 86, 65, 76, 85, 69], .int .i64 (.ofNat 0), .int .i64 (.ofNat 0), .int .i64 (.ofNat 1), .int .i64 (.ofNat 2), .bool false], .bool true]),
  (53, .tup [.agg [.int .i64 (.ofNat 53), .str [67, 65, 76, 76, 68, 65, 84, 65, 76, 79, 65, 68], .int .i64 (.ofNat 0), .int .i64 (.ofNat 1), .int .i64 (.ofNat 1), .int .i64 (.ofNat 3), .bool false], .bool true]),
  (54, .tup [.agg [.int .i64 (.ofNat 54), .str [67, 65, 76, 76, 68, 65, 84, 65, 83, 73, 90, 69], .int .i64 (.ofNat 0), .int .i64 (.ofNat 0), .int .i64 (.ofNat 1), .int .i64 (.ofNat 2), .bool false], .bool true]),
  (55, .tup [.agg [.int .i64 (.ofNat 55), .str [67, 65, 76, 76, 68, 65, 84, 65, 67, 79, 80, 89], .int .i64 (.ofNat 0), .int .i64 (.ofNat 3), .int .i64 (.ofNat 0), .int .i64 (.ofNat 3), .bool false], .bool true]),
  (58, .tup [.agg [.int .i64 (.ofNat 58), .str [71, 65, 83, 80, 82, 73, 67, 69], .int .i64 (.ofNat 0), .int .i64 (.ofNat 0), .int .i64 (.ofNat 1), .int .i64 (.ofNat 2), .bool false], .bool true]),
  (61, .tup [.agg [.int .i64 (.ofNat 61), .str [82, 69, 84, 85, 82, 78, 68, 65, 84, 65, 83, 73, 90, 69], .int .i64 (.ofNat 0), .int .i64 (.ofNat 0), .int .i64 (.ofNat 1), .int .i64 (.ofNat 2), .bool false], .bool true]),
  (64, .tup [.agg [.int .i64 (.ofNat 64), .str [66, 76, 79, 67, 75, 72, 65, 83, 72], .int .i64 (.ofNat 0), .int .i64 (.ofNat 1), .int .i64 (.ofNat 1), .int .i64 (.ofNat 20), .bool false], .bool true]),
  (65, .tup [.agg [.int .i64 (.ofNat 65), .str [67, 79, 73, 78, 66, 65, 83, 69], .int .i64 (.ofNat 0), .int .i64 (.ofNat 0), .int .i64 (.ofNat 1), .int .i64 (.ofNat 2), .bool false], .bool true]),
  (66, .tup [.agg [.int .i64 (.ofNat 66), .str [84, 73, 77, 69, 83, 84, 65, 77, 80], .int .i64 (.ofNat 0), .int .i64 (.ofNat 0), .int .i64 (.ofNat 1), .int .i64 (.ofNat 2), .bool false], .bool true]),
  (67, .tup [.agg [.int .i64 (.ofNat 67), .str [78, 85, 77, 66, 69, 82], .int .i64 (.ofNat 0), .int .i64 (.ofNat 0), .int .i64 (.ofNat 1), .int .i64 (.ofNat 2), .bool false], .bool true]),
  (68, .tup [.agg [.int .i64 (.ofNat 68), .str [80, 82, 69, 86, 82, 65, 78, 68, 65, 79], .int .i64 (.ofNat 0), .int .i64 (.ofNat 0), .int .i64 (.ofNat 1), .int .i64 (.ofNat 2), .bool false], .bool true]),
  (69, .tup [.agg [.int .i64 (.ofNat 69), .str [71, 65, 83, 76, 73, 77, 73, 84], .int .i64 (.ofNat 0), .int .i64 (.ofNat 0), .int .i64 (.ofNat 1), .int .i64 (.ofNat 2), .bool false], .bool true]),
  (70, .tup [.agg [.int .i64 (.ofNat 70), .str [67, 72, 65, 73, 78, 73, 68], .int .i64 (.ofNat 0), .int .i64 (.ofNat 0), .int .i64 (.ofNat 1), .int .i64 (.ofNat 2), .bool false], .bool true]),
  (71, .tup [.agg [.int .i64 (.ofNat 71), .str [83, 69, 76, 70, 66, 65, 76, 65, 78, 67, 69], .int .i64 (.ofNat 0), .int .i64 (.ofNat 0), .int .i64 (.ofNat 1), .int .i64 (.ofNat 5), .bool false], .bool true]),
  (72, .tup [.agg [.int .i64 (.ofNat 72), .str [66, 65, 83, 69, 70, 69, 69], .int .i64 (.ofNat 0), .int .i64 (.ofNat 0), .int .i64 (.ofNat 1), .int .i64 (.ofNat 2), .bool false], .bool true]),
  (73, .tup [.agg [.int .i64 (.ofNat 73), .str [66, 76, 79, 66, 72, 65, 83, 72], .int .i64 (.ofNat 0), .int .i64 (.ofNat 1), .int .i64 (.ofNat 1), .int .i64 (.ofNat 3), .bool false], .bool true]),
  (74, .tup [.agg [.int .i64 (.ofNat 74), .str [66, 76, 79, 66, 66, 65, 83, 69, 70, 69, 69], .int .i64 (.ofNat 0), .int .i64 (.ofNat 0), .int .i64 (.ofNat 1), .int .i64 (.ofNat 2), .bool false], .bool true]),
  (82, .tup [.agg [.int .i64 (.ofNat 82), .str [77, 83, 84, 79, 82, 69], .int .i64 (.ofNat 0), .int .i64 (.ofNat 2), .int .i64 (.ofNat 0), .int .i64 (.ofNat 3), .bool false], .bool true]),
  (95, .tup [.agg [.int .i64 (.ofNat 95), .str [80, 85, 83, 72, 48], .int .i64 (.ofNat 0), .int .i64 (.ofNat 0), .int .i64 (.ofNat 1), .int .i64 (.ofNat 2), .bool false], .bool true]),
  (96, .tup [.agg [.int .i64 (.ofNat 96), .str [80, 85, 83, 72, 49], .int .i64 (.ofNat 1), .int .i64 (.ofNat 0), .int .i64 (.ofNat 1), .int .i64 (.ofNat 3), .bool false], .bool true]),
  (98, .tup [.agg [.int .i64 (.ofNat 98), .str [80, 85, 83, 72, 51], .int .i64 (.ofNat 3), .int .i64 (.ofNat 0), .int .i64 (.ofNat 1), .int .i64 (.ofNat 3), .bool false], .bool true]),
  (127, .tup [.agg [.int .i64 (.ofNat 127), .str [80, 85, 83, 72, 51, 50], .int .i64 (.ofNat 32), .int .i64 (.ofNat 0), .int .i64 (.ofNat 1), .int .i64 (.ofNat 3), .bool false], .bool true]),
  (208, .tup [.agg [.int .i64 (.ofNat 208), .str [68, 65, 84, 65, 76, 79, 65, 68], .int .i64 (.ofNat 0), .int .i64 (.ofNat 1), .int .i64 (.ofNat 1), .int .i64 (.ofNat 4), .bool false], .bool true]),
  (210, .tup [.agg [.int .i64 (.ofNat 210), .str [68, 65, 84, 65, 83, 73, 90, 69], .int .i64 (.ofNat 0), .int .i64 (.ofNat 0), .int .i64 (.ofNat 1), .int .i64 (.ofNat 2), .bool false], .bool true]),
  (211, .tup [.agg [.int .i64 (.ofNat 211), .str [68, 65, 84, 65, 67, 79, 80, 89], .int .i64 (.ofNat 0), .int .i64 (.ofNat 3), .int .i64 (.ofNat 0), .int .i64 (.ofNat 3), .bool false], .bool true]),
  (243, .tup [.agg [.int .i64 (.ofNat 243), .str [82, 69, 84, 85, 82, 78], .int .i64 (.ofNat 0), .int .i64 (.ofNat 2), .int .i64 (.ofNat 0), .int .i64 (.ofNat 0), .bool true], .bool true])]
def deedsL : V := .agg [.fn 115 [] [], .fn 90 [] [], .fn 90 [] [], .fn 90 [] [], .fn 90 [] [], .fn 90 [] [], .fn 90 [] [], .fn 90 [] [], .fn 90 [] [], .fn 90 [] [], .fn 90 [] [], .fn 90 [] [], .nilf, .nilf, .nilf, .nilf, .fn 90 [] [], .fn 90 [] [], .fn 90 [] [], .fn 90 [] [], .fn 90 [] [], .fn 90 [] [], .fn 90 [] [], .fn 90 [] [], .fn 90 [] [], .fn 90 [] [], .fn 90 [] [], .fn 90 [] [], .fn 90 [] [], .fn 90 [] [], .fn 90 [] [], .nilf, .fn 91 [] [], .nilf, .nilf, .nilf, .nilf, .nilf, .nilf, .nilf, .nilf, .nilf, .nilf, .nilf, .nilf, .nilf, .nilf, .nilf, .fn 92 [] [], .fn 92 [] [], .fn 92 [] [], .fn 92 [] [], .fn 92 [] [], .fn 92 [] [], .fn 92 [] [], .fn 92 [] [], .fn 92 [] [], .fn 92 [] [], .fn 92 [] [], .fn 92 [] [], .fn 92 [] [], .fn 92 [] [], .fn 92 [] [], .nilf, .fn 92 [] [], .fn 92 [] [], .fn 92 [] [], .fn 92 [] [], .fn 92 [] [], .fn 92 [] [], .fn 92 [] [], .fn 92 [] [], .fn 92 [] [], .fn 92 [] [], .fn 92 [] [], .nilf, .nilf, .nilf, .nilf, .nilf, .fn 93 [] [], .fn 93 [] [], .fn 93 [] [], .fn 93 [] [], .fn 93 [] [], .fn 93 [] [], .fn 93 [] [], .fn 93 [] [], .fn 93 [] [], .fn 93 [] [], .fn 93 [] [], .fn 93 [] [], .fn 93 [] [], .fn 93 [] [], .fn 93 [] [], .fn 93 [] [], .fn 94 [] [], .fn 94 [] [], .fn 94 [] [], .fn 94 [] [], .fn 94 [] [], .fn 94 [] [], .fn 94 [] [], .fn 94 [] [], .fn 94 [] [], .fn 94 [] [], .fn 94 [] [], .fn 94 [] [], .fn 94 [] [], .fn 94 [] [], .fn 94 [] [], .fn 94 [] [], .fn 94 [] [], .fn 94 [] [], .fn 94 [] [], .fn 94 [] [], .fn 94 [] [], .fn 94 [] [], .fn 94 [] [], .fn 94 [] [], .fn 94 [] [], .fn 94 [] [], .fn 94 [] [], .fn 94 [] [], .fn 94 [] [], .fn 94 [] [], .fn 94 [] [], .fn 94 [] [], .fn 97 [] [], .fn 97 [] [], .fn 97 [] [], .fn 97 [] [], .fn 97 [] [], .fn 97 [] [], .fn 97 [] [], .fn 97 [] [], .fn 97 [] [], .fn 97 [] [], .fn 97 [] [], .fn 97 [] [], .fn 97 [] [], .fn 97 [] [], .fn 97 [] [], .fn 97 [] [], .fn 99 [] [], .fn 99 [] [], .fn 99 [] [], .fn 99 [] [], .fn 99 [] [], .fn 99 [] [], .fn 99 [] [], .fn 99 [] [], .fn 99 [] [], .fn 99 [] [], .fn 99 [] [], .fn 99 [] [], .fn 99 [] [], .fn 99 [] [], .fn 99 [] [], .fn 99 [] [], .fn 101 [] [], .fn 101 [] [], .fn 101 [] [], .fn 101 [] [], .fn 101 [] [], .nilf, .nilf, .nilf, .nilf, .nilf, .nilf, .nilf, .nilf, .nilf, .nilf, .nilf, .nilf, .nilf, .nilf, .nilf, .nilf, .nilf, .nilf, .nilf, .nilf, .nilf, .nilf, .nilf, .nilf, .nilf, .nilf, .nilf, .nilf, .nilf, .nilf, .nilf, .nilf, .nilf, .nilf, .nilf, .nilf, .nilf, .nilf, .nilf, .nilf, .nilf, .nilf, .nilf, .fn 102 [] [], .fn 102 [] [], .fn 102 [] [], .fn 102 [] [], .nilf, .nilf, .nilf, .nilf, .nilf, .nilf, .nilf, .nilf, .nilf, .nilf, .nilf, .nilf, .fn 103 [] [], .fn 103 [] [], .fn 103 [] [], .fn 104 [] [], .fn 104 [] [], .fn 104 [] [], .fn 105 [] [], .fn 106 [] [], .fn 107 [] [], .nilf, .nilf, .nilf, .fn 109 [] [], .nilf, .fn 110 [] [], .nilf, .nilf, .nilf, .nilf, .fn 118 [] [], .nilf, .nilf, .nilf, .fn 111 [] [], .fn 114 [] [], .fn 114 [] [], .fn 114 [] [], .fn 114 [] [], .nilf, .fn 120 [] [], .fn 121 [] [], .nilf]
noncomputable def allOf : List (Nat × V) → Bool
  | [] => true
  | (n, v) :: l => endB (callV Tryz.prog X1 100000 100 (.fn 126 [] []) [.int .i64 (.ofNat n)] H0) v && (v.flat && allOf l)
theorem of_all : allOf ofL = true := by kernel_rfl
theorem able_all : endB (callV Tryz.prog X1 100000 100 (.fn 8 [] []) [] H0) (.bool true) = true := by kernel_rfl
theorem deeds_all : (endB (callV Tryz.prog X1 100000 100 (.fn 40 [] []) [] H0) deedsL && deedsL.flat) = true := by kernel_rfl
noncomputable def lookN : List (Nat × V) → Nat → Option V
  | [], _ => none
  | (n, v) :: l, m => match Nat.beq n m with | true => some v | false => lookN l m
theorem look_ok : ∀ {l : List (Nat × V)} {m : Nat} {v : V}, allOf l = true → lookN l m = some v → endB (callV Tryz.prog X1 100000 100 (.fn 126 [] []) [.int .i64 (.ofNat m)] H0) v = true ∧ v.flat = true
  | [], m, v, _, h => by cases h
  | (n, u) :: l, m, v, ha, h => by
    rw [allOf, Bool.and_eq_true, Bool.and_eq_true] at ha
    rw [lookN] at h
    split at h
    · rename_i hn
      have hn := Nat.eq_of_beq_eq_true hn
      subst hn
      cases h
      exact ⟨ha.1, ha.2.1⟩
    · exact look_ok ha.2.2 h
noncomputable def always (v : V) : Option (Bx × V × V) := some (.lit true, v, v)
noncomputable def sums0 (f : Nat) (args : List V) : Option (Bx × V × V) := match Nat.beq f 126 with
  | true => (match args with
    | [.int .i64 (.ofNat n)] => (match lookN ofL n with | some v => always v | none => none)
    | _ => none)
  | false => match Nat.beq f 8 with
    | true => (match args with | [] => always (.bool true) | _ => none)
    | false => match Nat.beq f 40 with
      | true => (match args with | [] => always deedsL | _ => none)
      | false => sumsX f args
theorem sums0_ok (f : Nat) (args : List V) (b : Bx) (r1 r2 : V) (h : sums0 f args = some (b, r1, r2)) : hasBodyB Tryz.prog f = true ∧ ∀ (c : Cx) (w : World) (K : Value → World → Prop), (∀ w', Bl w w' → K ((cond (b.den c) r1 r2).den c) w') → CallV Tryz.prog f (V.denL c args).toArray w K := by
  unfold sums0 at h
  split at h
  · rename_i hf
    have hf := Nat.eq_of_beq_eq_true hf
    subst hf
    split at h <;> first | (cases h; done) | skip
    rename_i n
    split at h <;> first | (cases h; done) | skip
    rename_i v hv
    cases h
    obtain ⟨h1, h2⟩ := look_ok of_all hv
    have hb : hasBodyB Tryz.prog 126 = true := by kernel_rfl
    exact ⟨hb, fun c w K hK => pure_call px1 hb rfl h2 h1 c w K hK⟩
  · split at h
    · rename_i hf
      have hf := Nat.eq_of_beq_eq_true hf
      subst hf
      split at h <;> first | (cases h; done) | skip
      cases h
      have hb : hasBodyB Tryz.prog 8 = true := by kernel_rfl
      exact ⟨hb, fun c w K hK => pure_call px1 hb rfl rfl able_all c w K hK⟩
    · split at h
      · rename_i hf
        have hf := Nat.eq_of_beq_eq_true hf
        subst hf
        split at h <;> first | (cases h; done) | skip
        cases h
        have hb : hasBodyB Tryz.prog 40 = true := by kernel_rfl
        have hd := deeds_all
        rw [Bool.and_eq_true] at hd
        exact ⟨hb, fun c w K hK => pure_call px1 hb rfl hd.2 hd.1 c w K hK⟩
      · exact sums_ok f args b r1 r2 h
noncomputable def X0 : Xs := ⟨[126, 40, 9, 127], 209, 211, [(34, 1), (35, 32)], sums0⟩
theorem px : PX Tryz.prog X0 where
  pv := px1.pv
  body := px1.body
  add := px1.add
  sub := px1.sub
  sums := sums0_ok
  clone := px1.clone
end Go.Proofs.YtcanicgpkbhhdaaGreatDoor.Rn
