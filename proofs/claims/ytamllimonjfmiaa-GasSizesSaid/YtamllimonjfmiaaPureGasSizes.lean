/- The printed law GasSizes (gas.Words, Copy, Hash, Log, Deploy, Memory are the document's) is true: for every int. -/
import Derived.Test.YtamllimonjfmiaaPGasSizesx1
import Derived.OpenShut
namespace Go.Proofs.Ytamllimonjfmiaa.Pure
open Go.RowKit Go.Proofs.Ytamllimonjfmiaa.PGasSizes Go.Proofs.YtamllimonjfmiaaW.PrintWords Go.Proofs.YtamllimonjfmiaaW.PrintLast Go.Proofs.YtamllimonjfmiaaW.PrintMore

theorem u64w (n : Int) : IntKind.u64.wrap n = n % 18446744073709551616 := by
  simp [IntKind.wrap, IntKind.bits, IntKind.signed]

theorem bound_same (a : Int) : ∃ r, 0 ≤ r ∧ r ≤ 2147483648 ∧ gas_bound.f a = some r ∧ vouchref10_within.f a = some r := by
  unfold gas_bound.f vouchref10_within.f mn mx
  by_cases h : a < 0
  · exact ⟨0, by omega, by omega, by simp [h], by simp [h]⟩
  · by_cases h2 : 2147483648 < a
    · exact ⟨2147483648, by omega, by omega, by simp [h, h2], by simp [h, h2]⟩
    · exact ⟨a, by omega, by omega, by simp [h, h2], by simp [h, h2]⟩

theorem words_same (a : Int) : ∃ r, 0 ≤ r ∧ r ≤ 67108864 ∧ gas_Words.f a = some r ∧ vouchref10_Words.f a = some r := by
  obtain ⟨r, h0, h1, e1, e2⟩ := bound_same a
  unfold gas_Words.f vouchref10_Words.f
  rw [e1, e2]
  simp only [Option.bind_some]
  rw [IntWalk.wrap64_in (r + 31) (by omega), Int.tdiv_eq_ediv_of_nonneg (show 0 ≤ r + 31 by omega), Int.tdiv_eq_ediv_of_nonneg h0,
    IntWalk.wrap64_in ((r + 31) / 32) (by omega), IntWalk.wrap64_in (r / 32) (by omega), IntWalk.wrap64_in (32 * (r / 32)) (by omega), IntWalk.wrap64_in (r / 32 + 1) (by omega)]
  refine ⟨(r + 31) / 32, by omega, by omega, rfl, ?_⟩
  by_cases h : 32 * (r / 32) < r
  · rw [if_pos h]; exact congrArg some (by omega)
  · rw [if_neg h]; exact congrArg some (by omega)

theorem GasSizes : vouchlaw10_GasSizes.Pure := by
  intro a ha
  obtain ⟨w, w0, w1, ew, ew'⟩ := words_same a
  obtain ⟨b, b0, b1, eb, eb'⟩ := bound_same a
  have c1 : gas_Words.f 33 = some 2 := by decide +kernel
  have c2 : gas_Copy.f 33 = some 6 := by decide +kernel
  have c3 : gas_Hash.f 33 = some 12 := by decide +kernel
  have c4 : gas_Log.f 3 = some 24 := by decide +kernel
  have c5 : gas_Deploy.f 2 = some 400 := by decide +kernel
  have c6 : gas_Memory.f 23 = some 70 := by decide +kernel
  have d1 : gas_Copy.f a = some (3 * w) ∧ vouchref10_Copy.f a = some (3 * w) := by
    unfold gas_Copy.f vouchref10_Copy.f; rw [ew, ew']; simp only [Option.bind_some, u64w]
    exact ⟨congrArg some (by omega), congrArg some (by rw [IntWalk.wrap64_in _ (by omega)]; omega)⟩
  have d2 : gas_Hash.f a = some (6 * w) ∧ vouchref10_Hash.f a = some (6 * w) := by
    unfold gas_Hash.f vouchref10_Hash.f; rw [ew, ew']; simp only [Option.bind_some, u64w]
    exact ⟨congrArg some (by omega), congrArg some (by rw [IntWalk.wrap64_in _ (by omega)]; omega)⟩
  have d3 : gas_Log.f a = some (8 * b) ∧ vouchref10_Log.f a = some (8 * b) := by
    unfold gas_Log.f vouchref10_Log.f; rw [eb, eb']; simp only [Option.bind_some, u64w]
    exact ⟨congrArg some (by omega), congrArg some (by rw [IntWalk.wrap64_in _ (by omega)]; omega)⟩
  have d4 : gas_Deploy.f a = some (200 * b) ∧ vouchref10_Deploy.f a = some (200 * b) := by
    unfold gas_Deploy.f vouchref10_Deploy.f; rw [eb, eb']; simp only [Option.bind_some, u64w]
    exact ⟨congrArg some (by omega), congrArg some (by rw [IntWalk.wrap64_in _ (by omega)]; omega)⟩
  have d5 : gas_Memory.f a = some (3 * b + b * b / 512) ∧ vouchref10_Memory.f a = some (3 * b + b * b / 512) := by
    unfold gas_Memory.f vouchref10_Memory.f; rw [eb, eb']; simp only [Option.bind_some, u64w]
    have hb : b % 18446744073709551616 = b := by omega
    have q0 : 0 ≤ b * b := Int.mul_nonneg b0 b0
    have q1 : b * b ≤ 2147483648 * 2147483648 := Int.mul_le_mul b1 b1 b0 (by omega)
    rw [hb]
    generalize b * b = q at *
    rw [show q % 18446744073709551616 = q by omega, Int.tdiv_eq_ediv_of_nonneg q0]
    refine ⟨congrArg some (by omega), congrArg some ?_⟩
    rw [IntWalk.wrap64_in (3 * b) (by omega), IntWalk.wrap64_in q (by omega), Int.tdiv_eq_ediv_of_nonneg q0, IntWalk.wrap64_in (q / 512) (by omega), IntWalk.wrap64_in _ (by omega)]
    omega
  unfold vouchlaw10_GasSizes.f
  rw [ew, ew', d1.1, d1.2, d2.1, d2.2, d3.1, d3.2, d4.1, d4.2, d5.1, d5.2, c1, c2, c3, c4, c5, c6]
  simp

end Go.Proofs.Ytamllimonjfmiaa.Pure
