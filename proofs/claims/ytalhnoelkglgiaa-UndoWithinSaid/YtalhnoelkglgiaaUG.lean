/- The document's table: where a key stands (place). No condition. -/
import Derived.Test.YtalhnoelkglgiaaUF
import Derived.Test.YtalhnoelkglgiaaShZ
namespace Go.Proofs.Ytalhnoelkglgiaa.W
open Go Go.Proofs.Ytalhnoelkglgiaa.Sh Go.RowKit
set_option linter.unusedVariables false
set_option maxRecDepth 100000
variable {w : World} {K : Value → World → Prop}
def prs (L : List (Int × Int)) : List Value := L.flatMap fun p => [.int .i64 p.1, .int .i64 p.2]
theorem prs_len : ∀ L : List (Int × Int), (prs L).length = L.length * 2
  | [] => rfl
  | p :: L => by have := prs_len L; simp only [prs, List.flatMap_cons, List.length_append, List.length_cons, List.length_nil] at *; omega
theorem prs_at : ∀ (L : List (Int × Int)) (i : Nat) (h : i < L.length), (prs L)[i * 2]? = some (.int .i64 L[i].1) ∧ (prs L)[i * 2 + 1]? = some (.int .i64 L[i].2)
  | [], i, h => by simp at h
  | p :: L, 0, h => ⟨rfl, rfl⟩
  | p :: L, i + 1, h => by
    have := prs_at L i (by simpa using h)
    have e : prs (p :: L) = .int .i64 p.1 :: .int .i64 p.2 :: prs L := rfl
    rw [e, show (i + 1) * 2 = i * 2 + 1 + 1 by omega]
    exact this
def placeN (L : List (Int × Int)) (k : Int) : Nat := (L.takeWhile fun p => decide (p.1 < k)).length
theorem place_le (L : List (Int × Int)) (k : Int) : placeN L k ≤ L.length := (List.takeWhile_sublist _).length_le
end Go.Proofs.Ytalhnoelkglgiaa.W
