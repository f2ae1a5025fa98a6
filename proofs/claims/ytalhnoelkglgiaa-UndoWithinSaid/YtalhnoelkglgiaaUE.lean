/- The plain law of histories: as long as a mark stands, Back to it gives what was there at the mark. No condition. -/
import Derived.Test.YtalhnoelkglgiaaUD
namespace Go.Proofs.Ytalhnoelkglgiaa.W
open Go Go.Proofs.Ytalhnoelkglgiaa.Sh Go.RowKit
set_option linter.unusedVariables false
/-- s came out of s0 by a mark and steps that leave the mark. -/
structure Keep (s0 s : Hist) : Prop where
  at_ : s.ms[s0.ms.length]? = some s0.B.length
  ms : s.ms.take s0.ms.length = s0.ms
  len : s0.B.length ≤ s.B.length
  B : s.B.take s0.B.length = s0.B
  M : undone (s.B.drop s0.B.length) s.M = s0.M
  up : ∀ (j n : Nat), s0.ms.length ≤ j → s.ms[j]? = some n → s0.B.length ≤ n
theorem keep_mark (s : Hist) : Keep s s.mark := by
  refine ⟨by simp [Hist.mark], by simp [Hist.mark], Nat.le_refl _, by simp [Hist.mark], by simp [Hist.mark, undone], fun j n hj hn => ?_⟩
  simp only [Hist.mark] at hn
  rw [List.getElem?_append_right hj] at hn
  cases h : j - s.ms.length with
  | zero => rw [h] at hn; simp at hn; omega
  | succ i => rw [h] at hn; simp at hn
theorem inv_set (M : Int → Option Int) (k v : Int) : (invM M k).app (fun j => if j = k then some v else M j) = M := by
  funext j
  unfold invM
  cases h : M k with
  | some u => simp only [Un.app]; by_cases hj : j = k <;> simp [hj, h]
  | none => simp only [Un.app]; by_cases hj : j = k <;> simp [hj, h]
theorem inv_del (M : Int → Option Int) (k : Int) : (invM M k).app (fun j => if j = k then none else M j) = M := by
  funext j
  unfold invM
  cases h : M k with
  | some u => simp only [Un.app]; by_cases hj : j = k <;> simp [hj, h]
  | none => simp only [Un.app]; by_cases hj : j = k <;> simp [hj, h]
theorem Keep.ne {s0 s : Hist} (h : Keep s0 s) : s.ms ≠ [] := by intro e; have := h.at_; rw [e] at this; simp at this
theorem Keep.put {s0 s : Hist} {M' : Int → Option Int} {k : Int} (h : Keep s0 s) (hM : (invM s.M k).app M' = s.M) : Keep s0 ⟨M', s.noted k, s.ms⟩ := by
  have hn : s.noted k = s.B ++ [invM s.M k] := by unfold Hist.noted; rw [if_neg h.ne]
  have hl := h.len
  refine ⟨h.at_, h.ms, ?_, ?_, ?_, h.up⟩
  · rw [hn]; simp; omega
  · rw [hn, List.take_append_of_le_length hl]; exact h.B
  · show undone ((s.noted k).drop _) M' = s0.M
    rw [hn, List.drop_append_of_le_length hl, undone_snoc, hM]; exact h.M
theorem Keep.set {s0 s : Hist} (h : Keep s0 s) (k v : Int) : Keep s0 (s.set k v) := h.put (inv_set _ _ _)
theorem Keep.del {s0 s : Hist} (h : Keep s0 s) (k : Int) : Keep s0 (s.del k) := by
  unfold Hist.del; split
  · exact h
  · exact h.put (inv_del _ _)
theorem Keep.mark {s0 s : Hist} (h : Keep s0 s) : Keep s0 s.mark := by
  have hlt : s0.ms.length < s.ms.length := (List.getElem?_eq_some_iff.1 h.at_).1
  refine ⟨?_, ?_, h.len, h.B, h.M, fun j n hj hn => ?_⟩
  · show (s.ms ++ [s.B.length])[s0.ms.length]? = _
    rw [List.getElem?_append_left hlt]; exact h.at_
  · show (s.ms ++ [s.B.length]).take _ = _
    rw [List.take_append_of_le_length (by omega)]; exact h.ms
  · have hn : (s.ms ++ [s.B.length])[j]? = some n := hn
    by_cases hj2 : j < s.ms.length
    · rw [List.getElem?_append_left hj2] at hn; exact h.up j n hj hn
    · rw [List.getElem?_append_right (by omega)] at hn
      cases hq : j - s.ms.length with
      | zero => rw [hq] at hn; simp at hn; have := h.len; omega
      | succ i => rw [hq] at hn; simp at hn
theorem undone_app (l m : List Un) (M : Int → Option Int) : undone (l ++ m) M = undone l (undone m M) := by simp [undone]
theorem Keep.back {s0 s : Hist} (h : Keep s0 s) {a : Nat} (ha : s0.ms.length < a) : Keep s0 (s.back a) := by
  unfold Hist.back
  cases hn : s.ms[a]? with
  | none => exact h
  | some n =>
    have hup := h.up a n (by omega) hn
    have hl := h.len
    by_cases hnB : n ≤ s.B.length
    · refine ⟨?_, ?_, ?_, ?_, ?_, fun j n' hj hn' => ?_⟩
      · show (s.ms.take a)[s0.ms.length]? = _
        rw [List.getElem?_take, if_pos ha]; exact h.at_
      · show (s.ms.take a).take _ = _
        rw [List.take_take, Nat.min_eq_left (by omega)]; exact h.ms
      · show _ ≤ (s.B.take n).length
        rw [List.length_take]; omega
      · show (s.B.take n).take _ = _
        rw [List.take_take, Nat.min_eq_left hup]; exact h.B
      · show undone ((s.B.take n).drop _) (undone (s.B.drop n) s.M) = _
        rw [← undone_app, ← h.M]
        congr 1
        rw [List.drop_take]
        have h2 : s.B.drop n = (s.B.drop s0.B.length).drop (n - s0.B.length) := by rw [List.drop_drop, show s0.B.length + (n - s0.B.length) = n by omega]
        rw [h2]
        exact List.take_append_drop _ _
      · have hn' : (s.ms.take a)[j]? = some n' := hn'
        rw [List.getElem?_take] at hn'
        split at hn'
        · exact h.up j n' hj hn'
        · cases hn'
    · refine ⟨?_, ?_, ?_, ?_, ?_, fun j n' hj hn' => ?_⟩
      · show (s.ms.take a)[s0.ms.length]? = _
        rw [List.getElem?_take, if_pos ha]; exact h.at_
      · show (s.ms.take a).take _ = _
        rw [List.take_take, Nat.min_eq_left (by omega)]; exact h.ms
      · show _ ≤ (s.B.take n).length
        rw [List.length_take]; omega
      · show (s.B.take n).take _ = _
        rw [List.take_take, Nat.min_eq_left hup]; exact h.B
      · show undone ((s.B.take n).drop _) (undone (s.B.drop n) s.M) = _
        rw [List.take_of_length_le (by omega), List.drop_of_length_le (by omega : s.B.length ≤ n)]; exact h.M
      · have hn' : (s.ms.take a)[j]? = some n' := hn'
        rw [List.getElem?_take] at hn'
        split at hn'
        · exact h.up j n' hj hn'
        · cases hn'
theorem Keep.forget {s0 s : Hist} (h : Keep s0 s) {a : Nat} (ha : s0.ms.length < a) : Keep s0 (s.forget a) := by
  unfold Hist.forget
  split
  · rw [if_neg (by omega)]
    refine ⟨?_, ?_, h.len, h.B, h.M, fun j n' hj hn' => ?_⟩
    · show (s.ms.take a)[s0.ms.length]? = _
      rw [List.getElem?_take, if_pos ha]; exact h.at_
    · show (s.ms.take a).take _ = _
      rw [List.take_take, Nat.min_eq_left (by omega)]; exact h.ms
    · have hn' : (s.ms.take a)[j]? = some n' := hn'
      rw [List.getElem?_take] at hn'
      split at hn'
      · exact h.up j n' hj hn'
      · cases hn'
  · exact h
/-- Back to the mark: what was there. -/
theorem Keep.gone {s0 s : Hist} (h : Keep s0 s) : s.back s0.ms.length = s0 := by
  unfold Hist.back
  rw [h.at_]
  show (⟨_, _, _⟩ : Hist) = s0
  rw [h.M, h.B, h.ms]
end Go.Proofs.Ytalhnoelkglgiaa.W
