/- Rows of elements of z cells each that are wholly known. No condition. -/
import Derived.Test.YtalhnoelkglgiaaShM
namespace Go.Proofs.Ytalhnoelkglgiaa.Sh
open Go Go.RowKit
set_option linter.unusedVariables false
/-- The slice v, of n elements of z cells each, holds the cells xs. -/
def RowZ (w : World) (z : Nat) (v : Value) (e : TypeId) (n : Nat) (xs : List Value) : Prop := w.ownsRow 0 e z v n xs
theorem RowZ.len {w : World} {z : Nat} {v : Value} {e n : Nat} {xs : List Value} (h : RowZ w z v e n xs) : xs.length = n * z := h.1
theorem RowZ.lt {w : World} {z : Nat} {v : Value} {e n g : Nat} {xs : List Value} (h : RowZ w z v e n xs) (hb : Blk v g) : g < w.heap.size := by
  rcases h.2 with ⟨rfl, _⟩ | ⟨g', cap, cur, rfl, _, hg, _⟩
  · cases hb
  · have : g' = g := by simpa [Blk, Value.ownBlock] using hb
    subst this
    by_cases hh : g' < w.heap.size
    · exact hh
    · rw [Array.getElem?_eq_none (Nat.le_of_not_lt hh)] at hg; cases hg
theorem RowZ.ext {S : Nat → Prop} {w w' : World} {z : Nat} {v : Value} {e n : Nat} {xs : List Value} (h : RowZ w z v e n xs) (k : Ext S w w') (hs : ∀ g, Blk v g → ¬ S g) : RowZ w' z v e n xs := by
  have hl := @RowZ.lt
  refine ⟨h.1, h.2.imp id ?_⟩
  rintro ⟨g, cap, cur, rfl, hb, hg, r⟩
  exact ⟨g, cap, cur, rfl, hb, (k.block g (h.lt rfl) (hs g rfl)).trans hg, r⟩
theorem RowZ.bl {w w' : World} {z : Nat} {v : Value} {e n : Nat} {xs : List Value} (h : RowZ w z v e n xs) (k : Bl w w') : RowZ w' z v e n xs := h.ext (S := None') (Ext.of_bl k) fun _ _ h => h
theorem RowZ.nil (w : World) (z : Nat) (e : TypeId) : RowZ w z (.slice none 0 0) e 0 [] := ⟨by simp, .inl ⟨rfl, rfl⟩⟩
theorem RowZ.form {w : World} {z : Nat} {v : Value} {e n : Nat} {xs : List Value} (h : RowZ w z v e n xs) : (v = .slice none 0 0 ∧ n = 0) ∨ ∃ g cap, v = .slice (some ⟨g, 0, none⟩) n cap ∧ n ≤ cap := by
  rcases h.2 with h | ⟨g, cap, cur, hv, _, _, hc, _⟩
  · exact .inl h
  · exact .inr ⟨g, cap, hv, hc⟩
theorem RowZ.cell {w : World} {z e n g c j : Nat} {xs : List Value} {u : Value} (h : RowZ w z (.slice (some ⟨g, 0, none⟩) n c) e n xs) (hj : xs[j]? = some u) : w.cell? ⟨g, j, none⟩ = some u := by
  have hl := h.len
  rcases h.2 with ⟨h, _⟩ | ⟨g', cap, cur, hv, _, hg, hc, hm, hs, ht⟩
  · cases h
  · simp only [Value.slice.injEq, Option.some.injEq, Addr.mk.injEq] at hv
    obtain ⟨⟨rfl, _⟩, _, rfl⟩ := hv
    have : Own w g cur e := hg
    rw [this.cell]
    have hjn : j < n * z := by rw [← hl]; exact (List.getElem?_eq_some_iff.1 hj).1
    rw [← ht, List.getElem?_take] at hj
    rw [if_pos (by omega)] at hj
    simpa using hj

/-- Some elements more at the end, out of cells that are known. -/
theorem appZ {P : Program} {w : World} {z t e n ty m c by' : Nat} {v zv : Value} {xs news : List Value} {ad : Addr} {F : Value → World → Prop} (h : RowZ w z v e n xs) (hz0 : 0 < z) (ht : P.underlying t = some (.slice e)) (hi : (P.info? e).map (fun i => (i.zero, i.size, i.bytes)) = some (some zv, z, by'))
    (hzv : zv.cells.size = z) (hl : news.length = m * z) (hnews : ∀ (j : Nat) (u : Value), news[j]? = some u → w.cell? (ad.add j) = some u) (h1 : ∀ u ∈ news, u.oneCell' = true) (hm : 0 < m) (hn : n + m ≤ 1073741824) (hb : by' ≤ 65536)
    (kk : ∀ g cap w', RowZ w' z (.slice (some ⟨g, 0, none⟩) (n + m) cap) e (n + m) (xs ++ news) → Ext (Blk v) w w' → (Blk v g ∨ g = w.heap.size) → g < w'.heap.size → F (.slice (some ⟨g, 0, none⟩) (n + m) cap) w') :
    semK P (Builtin.append_ #[t, t] ty #[v, .slice (some ad) m c]) w F := by
  cases hinf : P.info? e with
  | none => rw [hinf] at hi; cases hi
  | some i =>
    rw [hinf] at hi
    simp only [Option.map_some, Option.some.injEq, Prod.mk.injEq] at hi
    obtain ⟨hz, hs, hby⟩ := hi
    have hmx : maxLen = 9223372036854775807 := rfl
    obtain ⟨g, cap, w', hr, h2, h3, h4, h5⟩ := run_append_lies (P := P) w t ty 0 e i zv z by' ht hinf hz hs hby hzv hz0 v n xs h ad m c news hl hnews h1 hm (by omega)
      (Nat.le_trans (Nat.mul_le_mul hn hb) (by decide)) (Nat.zero_le _) w.heap.size rfl
    exact semK_of hr (kk g cap w' h2 ⟨h3.os, h3.tape, h3.output, h3.size, fun k hk hb => h3.block k hk fun e => hb e.symm⟩ h4 h5)
end Go.Proofs.Ytalhnoelkglgiaa.Sh
