/- The printed law GasBacks (gas.Back is the document's Back) is true: for every three numbers of the kinds uint64, uint64 and int. -/
import Derived.Test.YtamllimonjfmiaaPGasBacksx1
import Derived.OpenShut
namespace Go.Proofs.Ytamllimonjfmiaa.Pure
open Go.RowKit Go.Proofs.Ytamllimonjfmiaa.PGasBacks Go.Proofs.YtamllimonjfmiaaW.PrintWords Go.Proofs.YtamllimonjfmiaaW.PrintLast Go.Proofs.YtamllimonjfmiaaW.PrintMore

theorem u64w (n : Int) : IntKind.u64.wrap n = n % 18446744073709551616 := by
  simp [IntKind.wrap, IntKind.bits, IntKind.signed]

theorem GasBacks : vouchlaw10_GasBacks.Pure := by
  intro a b c ha hb hc
  have ha := bounds_u64 ha
  have hb := bounds_u64 hb
  have hc := bounds_i64 hc
  refine ⟨1, ?_⟩
  have e3 : gas_Back.f 100 1 50 = some 19 := by decide +kernel
  unfold vouchlaw10_GasBacks.f
  rw [e3]
  unfold gas_Back.f vouchref10_Back.f
  simp only [vouchref10_Back.j0, mn, mx, u64w]
  by_cases h1 : b > a
  · simp [h1]
  · rw [if_neg h1, if_neg h1]
    have e1 : (a - b) % 18446744073709551616 = a - b := by omega
    simp only [e1, Int.tdiv_eq_ediv_of_nonneg (show 0 ≤ a - b by omega)]
    by_cases h2 : c < 0
    · have e2 : ¬ ((a - b) / 5 % 18446744073709551616 < 0) := by omega
      by_cases h3 : 0 < (a - b) / 5 % 18446744073709551616
      · simp [h2, h3]
      · have : (a - b) / 5 % 18446744073709551616 = 0 := by omega
        simp [h2, this]
    · have e2 : c % 18446744073709551616 = c := by omega
      by_cases h4 : c < (a - b) / 5 % 18446744073709551616
      · simp [h2, e2, h4]
      · simp [h2, e2, h4]

end Go.Proofs.Ytamllimonjfmiaa.Pure
