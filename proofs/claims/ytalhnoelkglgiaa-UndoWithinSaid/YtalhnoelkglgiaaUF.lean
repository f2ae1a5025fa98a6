/- How often a number stands in a row (once). No condition. -/
import Derived.Test.YtalhnoelkglgiaaUE
namespace Go.Proofs.Ytalhnoelkglgiaa.W
open Go Go.Proofs.Ytalhnoelkglgiaa.Sh Go.RowKit
set_option linter.unusedVariables false
set_option maxRecDepth 100000
variable {w : World} {K : Value → World → Prop}
theorem once {p : Option Addr} {n c : Nat} {xs : List Int} {x : Int} (h : Row w (.slice p n c) 3 n (ints xs)) (hn : n < 1073741824) (k : K (.bool (decide (xs.count x = 1))) w) : CallV Try.prog 26 #[.slice p n c, .int .i64 x] w K := by
  refine call26 p n c x w K ?_
  unfold F26
  have hl : xs.length = n := by have := h.len; simpa [ints] using this
  have loop : ∀ (m i : Nat), i + m = n → L26_1 K (m + 1) p n c x ((xs.take i).count x : Int) (i : Int) w := by
    intro m
    induction m with
    | zero =>
      intro i hi
      simp only [L26_1]
      refine ifD (fun h => by omega) fun _ => ?_
      unfold J26_0
      rw [List.take_of_length_le (by omega)]
      have : ((xs.count x : Int) == 1) = decide (xs.count x = 1) := by
        by_cases hc : xs.count x = 1
        · simp [hc]
        · rw [decide_eq_false hc]; simp; omega
      rw [this]; exact k
    | succ m ih =>
      intro i hi
      rw [L26_1]
      simp only []
      refine ifD (fun _ => ?_) fun h => by omega
      have hlt : i < xs.length := by omega
      obtain ⟨g, rfl⟩ := row_some h (show i < n by omega)
      have q : (ints xs)[i]? = some (.int .i64 xs[i]) := by simp [ints, hlt]
      have hc : (xs.take (i + 1)).count x = (xs.take i).count x + if xs[i] = x then 1 else 0 := by
        rw [List.take_succ_eq_append_getElem hlt, List.count_append]
        congr 1
        by_cases hx : xs[i] = x
        · simp [hx]
        · simp [hx]
      have hle : (xs.take i).count x ≤ i := Nat.le_trans List.count_le_length (by rw [List.length_take]; omega)
      have hi1 : IntKind.wrap .i64 ((i : Int) + 1) = ((i + 1 : Nat) : Int) := by rw [i64w (by omega) (by omega)]; rfl
      refine ixS (z := 1) u29 s3 (by omega) (by omega) (show asA (.pointer (some _)) _ from ?_)
      rw [addAt]
      refine ldI (h.cell q) (ifE (fun hx => ?_) fun hx => ?_)
      · rw [hi1, show IntKind.wrap .i64 (((xs.take i).count x : Int) + 1) = ((xs.take (i + 1)).count x : Int) by rw [i64w (by omega) (by omega), hc, if_pos hx]; rfl]
        exact ih (i + 1) (by omega)
      · rw [hi1, show (((xs.take i).count x : Nat) : Int) = ((xs.take (i + 1)).count x : Int) by rw [hc, if_neg hx]; rfl]
        exact ih (i + 1) (by omega)
  exact ⟨n + 1, loop n 0 (by omega)⟩
end Go.Proofs.Ytalhnoelkglgiaa.W
