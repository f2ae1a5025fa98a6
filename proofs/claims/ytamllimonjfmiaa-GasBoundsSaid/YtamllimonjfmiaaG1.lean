/- The law GasBounds: bounds of what passes, is made with, is given back, of memory; with more no less. No condition beyond the kinds of the numbers. -/
import Derived.Test.YtamllimonjfmiaaG0
import Derived.Test.YtamllimonjfmiaaW1
namespace Go.Proofs.Ytamllimonjfmiaa.W
open Go Go.Proofs.Ytamllimonjfmiaa.Sh Go.RowKit
set_option linter.unusedVariables false
variable {w : World} {K : Value → World → Prop}

theorem memory {b : Int} (b0 : 0 ≤ b) (b1 : b ≤ 2147483648) (k : K (.int .u64 (3 * b + b * b / 512)) w) : CallV Try.prog 22 #[.int .i64 b] w K := by
  refine call22 b w K ?_
  unfold F22
  refine call37 b w _ ?_
  unfold F37
  rw [show (if (0 : Int) > b then 0 else b) = b from if_neg (by omega), show (if (2147483648 : Int) < b then 2147483648 else b) = b from if_neg (by omega)]
  refine asI_of ?_
  have hb : IntKind.wrap .u64 b = b := by rw [u64w]; omega
  have q0 : 0 ≤ b * b := Int.mul_nonneg b0 b0
  have q1 : b * b ≤ 2147483648 * 2147483648 := Int.mul_le_mul b1 b1 b0 (by omega)
  rw [hb]
  generalize b * b = q at *
  rw [show IntKind.wrap .u64 q = q by rw [u64w]; omega, Int.tdiv_eq_ediv_of_nonneg q0, show IntKind.wrap .u64 (3 * b) = 3 * b by rw [u64w]; omega, show IntKind.wrap .u64 (q / 512) = q / 512 by rw [u64w]; omega, show IntKind.wrap .u64 (3 * b + q / 512) = 3 * b + q / 512 by rw [u64w]; omega]
  exact k

/-- What Back gives. -/
def mxN (r : Int) : Int := if 0 > r then 0 else r
def bk (g l r : Int) : Int := if l > g then 0 else if mxN r < (g - l) / 5 then mxN r else (g - l) / 5
theorem back {g l r : Int} (g0 : 0 ≤ g) (g1 : g ≤ 18446744073709551615) (l0 : 0 ≤ l) (l1 : l ≤ 18446744073709551615) (r0 : -9223372036854775808 ≤ r) (r1 : r ≤ 9223372036854775807) (k : K (.int .u64 (bk g l r)) w) :
    CallV Try.prog 11 #[.int .u64 g, .int .u64 l, .int .i64 r] w K := by
  refine call11 g l r w K ?_
  unfold F11
  unfold bk at k
  refine ifD (fun h => ?_) fun h => ?_
  · rw [if_pos h] at k; exact k
  · rw [if_neg h] at k
    rw [show IntKind.wrap .u64 (g - l) = g - l by rw [u64w]; omega, Int.tdiv_eq_ediv_of_nonneg (show 0 ≤ g - l by omega), show IntKind.wrap .u64 ((g - l) / 5) = (g - l) / 5 by rw [u64w]; omega]
    have : IntKind.wrap .u64 (if (0 : Int) > r then 0 else r) = mxN r := by rw [u64w]; unfold mxN; split <;> omega
    rw [this]
    exact k

variable {a b c v z : Int}
theorem bk_cases (ab : a ≤ b) : (c ≤ 0 ∧ bk b a c = 0) ∨ (0 < c ∧ c < (b - a) / 5 ∧ bk b a c = c) ∨ (0 < c ∧ ¬ c < (b - a) / 5 ∧ bk b a c = (b - a) / 5) := by
  unfold bk
  rw [if_neg (show ¬ a > b by omega)]
  by_cases h : 0 < c
  · have : mxN c = c := if_neg (by omega)
    rw [this]
    by_cases h2 : c < (b - a) / 5
    · rw [if_pos h2]; exact .inr (.inl ⟨h, h2, rfl⟩)
    · rw [if_neg h2]; exact .inr (.inr ⟨h, h2, rfl⟩)
  · have : mxN c = 0 := by unfold mxN; split <;> omega
    rw [this]
    by_cases h2 : 0 < (b - a) / 5
    · rw [if_pos h2]; exact .inl ⟨by omega, rfl⟩
    · rw [if_neg h2]; exact .inl ⟨by omega, by omega⟩
theorem pass_cases (a0 : 0 ≤ a) : (a < 7300 ∧ passN a = 0 ∧ okN a = false) ∨ (7300 ≤ a ∧ a / 64 < 5000 ∧ passN a = a - 5000 ∧ okN a = true) ∨ (¬ a / 64 < 5000 ∧ passN a = a - a / 64 ∧ okN a = true) := by
  unfold passN okN
  by_cases h : a / 64 < 5000
  · have : keptN a = 5000 := if_pos h
    rw [this]
    by_cases h2 : a < 5000 + 2300
    · rw [if_pos h2, decide_eq_true h2]; exact .inl ⟨by omega, rfl, rfl⟩
    · rw [if_neg h2, decide_eq_false h2]; exact .inr (.inl ⟨by omega, h, rfl, rfl⟩)
  · have : keptN a = a / 64 := if_neg h
    rw [this, if_neg (by omega), decide_eq_false (show ¬ a < a / 64 + 2300 by omega)]
    exact .inr (.inr ⟨h, rfl, rfl⟩)
theorem j9_ok (k : K (.bool true) w) (h0 : 0 ≤ v) (h1 : v ≤ z) (h2 : z ≤ 2147483648) : J7_9 K v z w := by
  unfold J7_9
  refine memory h0 (by omega) (asI_of (memory (by omega) h2 (asI_of ?_)))
  have q0 : 0 ≤ v * v := Int.mul_nonneg h0 h0
  have q1 : v * v ≤ z * z := Int.mul_le_mul h1 h1 h0 (by omega)
  have q2 : z * z ≤ 2147483648 * 2147483648 := Int.mul_le_mul h2 h2 (by omega) (by omega)
  generalize v * v = p at *
  generalize z * z = q at *
  rw [show IntKind.wrap .i64 (z - v) = z - v from i64w (by omega) (by omega), show IntKind.wrap .i64 (3 * (z - v)) = 3 * (z - v) from i64w (by omega) (by omega), u64w, u64w]
  have hpq : p / 512 ≤ q / 512 := Int.ediv_le_ediv (by decide) q1
  have q3 : q / 512 ≤ 9007199254740992 := by omega
  have p0 : 0 ≤ p / 512 := by omega
  clear q0 q1 q2
  generalize p / 512 = p at *
  generalize q / 512 = q at *
  refine ifB_t (decide_eq_true (by omega)) ?_
  rw [show (3 * z + q - (3 * v + p)) % 18446744073709551616 = 3 * z + q - (3 * v + p) by omega, show 3 * (z - v) % 18446744073709551616 = 3 * (z - v) by omega, decide_eq_true (show 3 * z + q - (3 * v + p) ≥ 3 * (z - v) by omega)]
  exact k
theorem j8_ok (k : K (.bool true) w) : J7_8 K v z w := by
  unfold J7_8
  exact ifD (fun _ => k) fun h0 => ifD (fun _ => k) fun h1 => ifD (fun _ => k) fun h2 => j9_ok k (by omega) (by omega) (by omega)
theorem j6_ok (k : K (.bool true) w) (a0 : 0 ≤ a) (ab : a ≤ b) (b1 : b ≤ 18446744073709551615) (c0 : -9223372036854775808 ≤ c) (c1 : c ≤ 9223372036854775807) : J7_6 K a b c v z (bk b a c) w := by
  unfold J7_6
  rw [show IntKind.wrap .u64 (b - a) = b - a by rw [u64w]; omega, Int.tdiv_eq_ediv_of_nonneg (show 0 ≤ b - a by omega), show IntKind.wrap .u64 ((b - a) / 5) = (b - a) / 5 by rw [u64w]; omega]
  refine ifD (fun h => ?_) fun h => j8_ok k
  rw [show IntKind.wrap .u64 c = c by rw [u64w]; omega]
  refine ifD (fun h2 => ifNe (fun h3 => ?_) fun h3 => j8_ok k) fun h2 => j8_ok k
  refine absurd ?_ h3
  rcases bk_cases (c := c) ab with h4 | h4 | h4 <;> omega
theorem j7_ok {x : Int} (hx : x = bk b a c) (k : K (.bool true) w) (a0 : 0 ≤ a) (ab : a ≤ b) (b1 : b ≤ 18446744073709551615) (c0 : -9223372036854775808 ≤ c) (c1 : c ≤ 9223372036854775807) : J7_7 K a b c v z x false w := by
  unfold J7_7
  subst hx
  exact j6_ok k a0 ab b1 c0 c1
theorem j5_ok (k : K (.bool true) w) (a0 : 0 ≤ a) (ab : a ≤ b) (b1 : b ≤ 18446744073709551615) (c0 : -9223372036854775808 ≤ c) (c1 : c ≤ 9223372036854775807) : J7_5 K a b c v z w := by
  unfold J7_5
  have hk := j7_ok (v := v) (z := z) (x := bk b a c) rfl k a0 ab b1 c0 c1
  refine back (by omega) b1 a0 (by omega) c0 c1 (asI_of (back a0 (by omega) (by omega) b1 c0 c1 (asI_of ?_)))
  rw [show IntKind.wrap .u64 (b - a) = b - a by rw [u64w]; omega, Int.tdiv_eq_ediv_of_nonneg (show 0 ≤ b - a by omega), show IntKind.wrap .u64 ((b - a) / 5) = (b - a) / 5 by rw [u64w]; omega]
  have e1 : ¬ bk b a c > (b - a) / 5 := by rcases bk_cases (c := c) ab with h4 | h4 | h4 <;> omega
  have e2 : c < 0 → bk b a c = 0 := by intro h; rcases bk_cases (c := c) ab with h4 | h4 | h4 <;> omega
  have e3 : c ≥ 0 → ¬ bk b a c > IntKind.wrap .u64 c := by intro h; rw [u64w]; rcases bk_cases (c := c) ab with h4 | h4 | h4 <;> omega
  have e4 : a < b → (bk a b c != 0) = false := by intro h; unfold bk; rw [if_pos (by omega)]; rfl
  have last : ifB (decide (a < b)) (J7_7 K a b c v z (bk b a c) (bk a b c != 0) w) (J7_7 K a b c v z (bk b a c) false w) := ifD (fun h => by rw [e4 h]; exact hk) fun _ => hk
  refine ifD (fun h => absurd h e1) fun _ => ifD (fun h => ifNe (fun h2 => absurd (e2 h) h2) fun _ => ifD (fun h3 => by omega) fun _ => last) fun h => ifD (fun h3 => ifD (fun h4 => absurd h4 (e3 h3)) fun _ => last) fun h3 => last
theorem j4_ok (k : K (.bool true) w) (a0 : 0 ≤ a) (ab : a ≤ b) (b1 : b ≤ 18446744073709551615) (c0 : -9223372036854775808 ≤ c) (c1 : c ≤ 9223372036854775807) : J7_4 K a b c v z w := by
  unfold J7_4
  refine makeW a0 (by omega) (asI_of (makeW (by omega) b1 (asI_of ?_)))
  refine ifD (fun h => by omega) fun _ => ifD (fun h => by omega) fun _ => ifNe (fun h => ?_) fun _ => j5_ok k a0 ab b1 c0 c1
  rw [u64w, u64w, Int.tdiv_eq_ediv_of_nonneg (show 0 ≤ b by omega)] at h
  omega
theorem j2_ok (k : K (.bool true) w) (a0 : 0 ≤ a) (ab : a ≤ b) (b1 : b ≤ 18446744073709551615) (c0 : -9223372036854775808 ≤ c) (c1 : c ≤ 9223372036854775807) : J7_2 K a b c v z (passN b) (okN b) w := by
  unfold J7_2
  have hk := j4_ok (v := v) (z := z) k a0 ab b1 c0 c1
  refine ifBb (fun h => ?_) fun _ => hk
  have h2 : b < keptN b + 2300 := by
    unfold okN at h; simpa using h
  refine ifNe (fun h3 => ?_) fun _ => ifD (fun h3 => ?_) fun _ => hk
  · exact absurd (by unfold passN; rw [if_pos h2]) h3
  · unfold keptN at h2; split at h2 <;> omega
theorem j1_ok (k : K (.bool true) w) (a0 : 0 ≤ a) (ab : a ≤ b) (b1 : b ≤ 18446744073709551615) (c0 : -9223372036854775808 ≤ c) (c1 : c ≤ 9223372036854775807) : J7_1 K a b c v z (passN b) (okN b) w := by
  unfold J7_1
  have hk : J7_3 K a b c v z (passN b) (okN b) false w := by unfold J7_3; exact j2_ok k a0 ab b1 c0 c1
  refine ifBb (fun h => ?_) fun _ => hk
  have h2 : ¬ b < keptN b + 2300 := by
    unfold okN at h; simpa using h
  have hp : passN b = b - keptN b := by unfold passN; rw [if_neg h2]
  have hkp : (b / 64 < 5000 → keptN b = 5000) ∧ (¬ b / 64 < 5000 → keptN b = b / 64) := ⟨fun h => if_pos h, fun h => if_neg h⟩
  rw [hp] at hk ⊢
  have hs : IntKind.wrap .u64 (b - (b - keptN b)) = keptN b := by
    rw [u64w]; by_cases h3 : b / 64 < 5000
    · rw [hkp.1 h3] at *; omega
    · rw [hkp.2 h3] at *; omega
  rw [hs, show IntKind.wrap .u64 (Int.tdiv b 64) = b / 64 by rw [Int.tdiv_eq_ediv_of_nonneg (show 0 ≤ b by omega), u64w]; omega]
  have hc : (keptN b = 5000 ∧ b / 64 < 5000) ∨ (keptN b = b / 64 ∧ ¬ b / 64 < 5000) := by
    by_cases h3 : b / 64 < 5000
    · exact .inl ⟨hkp.1 h3, h3⟩
    · exact .inr ⟨hkp.2 h3, h3⟩
  refine ifD (fun h => by omega) fun _ => ifD (fun h => by omega) fun _ => ifD (fun h => by omega) fun _ => ifD (fun h => by omega) fun _ => ifD (fun h => ?_) fun _ => hk
  rw [show decide (keptN b > b / 64) = false from decide_eq_false (by omega)]
  exact hk
theorem j0_ok (k : K (.bool true) w) (a0 : 0 ≤ a) (ab : a ≤ b) (b1 : b ≤ 18446744073709551615) (c0 : -9223372036854775808 ≤ c) (c1 : c ≤ 9223372036854775807) : J7_0 K a b c v z w := by
  unfold J7_0
  have hk := j1_ok (v := v) (z := z) k a0 ab b1 c0 c1
  refine pass a0 (by omega) (pass (by omega) b1 ?_)
  refine ifD (fun h => ?_) fun _ => ifBb (fun h => ifBb (fun h2 => ?_) fun _ => hk) fun _ => hk
  · exfalso
    rcases pass_cases a0 with h1 | h1 | h1 <;> rcases pass_cases (show 0 ≤ b by omega) with h2 | h2 | h2 <;> omega
  · exfalso
    rcases pass_cases a0 with h1 | h1 | h1 <;> rcases pass_cases (show 0 ≤ b by omega) with h3 | h3 | h3 <;> simp_all <;> omega
theorem gasBounds {x y : Int} (x0 : 0 ≤ x) (x1 : x ≤ 18446744073709551615) (y0 : 0 ≤ y) (y1 : y ≤ 18446744073709551615) (c0 : -9223372036854775808 ≤ c) (c1 : c ≤ 9223372036854775807) (k : K (.bool true) w) :
    CallV Try.prog 7 #[.int .u64 x, .int .u64 y, .int .i64 c, .int .i64 v, .int .i64 z] w K := by
  refine call7 x y c v z w K ?_
  unfold F7
  exact ifD (fun h => j0_ok k y0 (by omega) x1 c0 c1) fun h => j0_ok k x0 (by omega) y1 c0 c1
theorem gasBounds_walk (a b c v z : Int) (W : World) (ha : (Lit.int .u64 a).wf = true) (hb : (Lit.int .u64 b).wf = true) (hc : (Lit.int .i64 c).wf = true) (hv : (Lit.int .i64 v).wf = true) (hz : (Lit.int .i64 z).wf = true) :
    Calls Try.prog 7 #[.int .u64 a, .int .u64 b, .int .i64 c, .int .i64 v, .int .i64 z] W fun e W' => e = .returned (.bool true) ∧ Below W.heap.size W W' :=
  have ha := bounds_u64 ha
  have hb := bounds_u64 hb
  have hc := bounds_i64 hc
  Calls.mono (gasBounds (K := fun v w' => v = .bool true ∧ Below W.heap.size W w') ha.1 ha.2 hb.1 hb.2 hc.1 hc.2 ⟨rfl, Below.refl _ _⟩) fun e w' ⟨v, he, hv, hb⟩ => ⟨by rw [he, hv], hb⟩
end Go.Proofs.Ytamllimonjfmiaa.W
