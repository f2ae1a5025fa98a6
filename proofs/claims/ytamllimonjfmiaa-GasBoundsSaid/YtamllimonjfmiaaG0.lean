/- What passes, what is made with, what is given back, what memory costs: what the functions answer, and the law GasPasses. No condition beyond the kinds of the numbers. -/
import Derived.Test.YtamllimonjfmiaaW0
import Derived.Test.YtamllimonjfmiaaSh6
import Derived.OpenShut
namespace Go.Proofs.Ytamllimonjfmiaa.W
open Go Go.Proofs.Ytamllimonjfmiaa.Sh Go.RowKit
set_option linter.unusedVariables false
variable {w : World} {K : Value → World → Prop}

/-- What is kept, and what passes. -/
def keptN (a : Int) : Int := if a / 64 < 5000 then 5000 else a / 64
def passN (a : Int) : Int := if a < keptN a + 2300 then 0 else a - keptN a
def okN (a : Int) : Bool := !decide (a < keptN a + 2300)

theorem pass {a : Int} (h0 : 0 ≤ a) (h1 : a ≤ 18446744073709551615) (k : K (.tuple #[.int .u64 (passN a), .bool (okN a)]) w) : CallV Try.prog 13 #[.int .u64 a] w K := by
  refine call13 a w K ?_
  unfold F13
  rw [show IntKind.wrap .u64 (Int.tdiv a 64) = a / 64 by rw [Int.tdiv_eq_ediv_of_nonneg h0, u64w]; omega]
  have hk : (if (5000 : Int) > a / 64 then 5000 else a / 64) = keptN a := rfl
  rw [hk]
  have k0 : 0 ≤ keptN a := by unfold keptN; split <;> omega
  have zero : a < keptN a + 2300 → (Value.tuple #[.int .u64 (passN a), .bool (okN a)]) = .tuple #[.int .u64 0, .bool false] := by intro h; unfold passN okN; rw [if_pos h, decide_eq_true h]; rfl
  refine ifD (fun h => ?_) fun h => ?_
  · rw [← zero (by omega)]; exact k
  · rw [show IntKind.wrap .u64 (a - keptN a) = a - keptN a by rw [u64w]; omega]
    refine ifD (fun h2 => ?_) fun h2 => ?_
    · rw [← zero (by omega)]; exact k
    · have : (Value.tuple #[.int .u64 (passN a), .bool (okN a)]) = .tuple #[.int .u64 (a - keptN a), .bool true] := by
        have h3 : ¬ a < keptN a + 2300 := by omega
        unfold passN okN; rw [if_neg h3, decide_eq_false h3]; rfl
      rw [← this]; exact k

theorem passRef {a : Int} (h0 : 0 ≤ a) (h1 : a ≤ 18446744073709551615) (k : K (.tuple #[.int .u64 (passN a), .bool (okN a)]) w) : CallV Try.prog 14 #[.int .u64 a] w K := by
  refine call14 a w K ?_
  unfold F14
  rw [show IntKind.wrap .u64 (Int.tdiv a 64) = a / 64 by rw [Int.tdiv_eq_ediv_of_nonneg h0, u64w]; omega]
  have zero : a < keptN a + 2300 → (Value.tuple #[.int .u64 (passN a), .bool (okN a)]) = .tuple #[.int .u64 0, .bool false] := by intro h; unfold passN okN; rw [if_pos h, decide_eq_true h]; rfl
  have one : ¬ a < keptN a + 2300 → (Value.tuple #[.int .u64 (passN a), .bool (okN a)]) = .tuple #[.int .u64 (a - keptN a), .bool true] := by
    intro h3; unfold passN okN; rw [if_neg h3, decide_eq_false h3]; rfl
  refine ifD (fun h => ?_) fun h => ?_
  · have e : keptN a = 5000 := if_pos h
    rw [e] at zero one
    refine ifD (fun h2 => ?_) fun h2 => ?_
    · rw [u64w] at h2; rw [← zero (by omega)]; exact k
    · rw [u64w] at h2; rw [show IntKind.wrap .u64 (a - 5000) = a - 5000 by rw [u64w]; omega, ← one (by omega)]; exact k
  · have e : keptN a = a / 64 := if_neg h
    rw [e] at zero one
    rw [show IntKind.wrap .u64 (a / 64 + 2300) = a / 64 + 2300 by rw [u64w]; omega, show IntKind.wrap .u64 (a - a / 64) = a - a / 64 by rw [u64w]; omega]
    refine ifD (fun h2 => ?_) fun h2 => ?_
    · rw [← zero (by omega)]; exact k
    · rw [← one (by omega)]; exact k

theorem makeW {a : Int} (h0 : 0 ≤ a) (h1 : a ≤ 18446744073709551615) (k : K (.int .u64 (a - a / 64)) w) : CallV Try.prog 15 #[.int .u64 a] w K := by
  refine call15 a w K ?_
  unfold F15
  rw [show IntKind.wrap .u64 (Int.tdiv a 64) = a / 64 by rw [Int.tdiv_eq_ediv_of_nonneg h0, u64w]; omega, show IntKind.wrap .u64 (a - a / 64) = a - a / 64 by rw [u64w]; omega]
  exact k
theorem makeRef {a : Int} (h0 : 0 ≤ a) (h1 : a ≤ 18446744073709551615) (k : K (.int .u64 (a - a / 64)) w) : CallV Try.prog 16 #[.int .u64 a] w K := by
  refine call16 a w K ?_
  unfold F16
  rw [show IntKind.wrap .u64 (Int.tdiv a 64) = a / 64 by rw [Int.tdiv_eq_ediv_of_nonneg h0, u64w]; omega, show IntKind.wrap .u64 (a - a / 64) = a - a / 64 by rw [u64w]; omega]
  exact k

theorem gasPasses {a : Int} (h0 : 0 ≤ a) (h1 : a ≤ 18446744073709551615) (k : K (.bool true) w) : CallV Try.prog 4 #[.int .u64 a] w K := by
  refine call4 a w K ?_
  unfold F4
  refine pass h0 h1 (passRef h0 h1 (makeW h0 h1 (pass (by decide) (by decide) ?_)))
  refine ifB_t (by simp) (ifB_t (by simp) (makeRef h0 h1 ?_))
  refine ifB_t (by simp) (ifB_t (by decide) ?_)
  exact k
theorem gasPasses_walk (a : Int) (W : World) (ha : (Lit.int .u64 a).wf = true) : Calls Try.prog 4 #[.int .u64 a] W fun e W' => e = .returned (.bool true) ∧ Below W.heap.size W W' :=
  have hb := bounds_u64 ha
  Calls.mono (gasPasses (K := fun v w' => v = .bool true ∧ Below W.heap.size W w') hb.1 hb.2 ⟨rfl, Below.refl _ _⟩) fun e w' ⟨v, he, hv, hb⟩ => ⟨by rw [he, hv], hb⟩
end Go.Proofs.Ytamllimonjfmiaa.W
