/- Arguments opened: an array of four numbers, a slice of numbers, a slice of such arrays. No condition. -/
import Derived.Test.YtalhnoelkglgiaaSh7
import Derived.OpenShut
import Derived.ChangeSlices
import Derived.Carry
namespace Go.Proofs.Ytalhnoelkglgiaa.Sh
open Go Go.RowKit Go.ChangeShapes
set_option linter.unusedVariables false
set_option linter.unusedSimpArgs false
section
variable {H : Type} {enc : TypeId × Value → H} {P : Program} {w : World} {base b0 : Nat} {sp : Nat → Bool} {held : Bool}

theorem trod_word {t e : TypeId} {fuel : Nat} {cs : List Value} {y : DataW H × List MemPlace} (ht : P.underlying t = some (.array 4 e)) (he : P.underlying e = some (.int .u64)) (hc : P.cellsOf e = 1) (hct : P.cellsOf t = 4)
    (h : DataW.trod enc P w base sp held fuel t cs = some y) :
    ∃ x0 x1 x2 x3, cs = [.int .u64 x0, .int .u64 x1, .int .u64 x2, .int .u64 x3] ∧ y.2 = [] ∧ (Lit.int .u64 x0).wf = true ∧ (Lit.int .u64 x1).wf = true ∧ (Lit.int .u64 x2).wf = true ∧ (Lit.int .u64 x3).wf = true := by
  cases fuel with
  | zero => simp [DataW.trod] at h
  | succ m =>
    rw [DataW.trod_step] at h
    unfold DataW.trodStep at h
    simp only [ht] at h
    by_cases hl : cs.length = P.cellsOf t
    · rw [if_pos hl] at h
      rw [hct] at hl
      obtain ⟨c0, c1, c2, c3, rfl⟩ : ∃ c0 c1 c2 c3, cs = [c0, c1, c2, c3] := by
        match cs, hl with
        | [c0, c1, c2, c3], _ => exact ⟨c0, c1, c2, c3, rfl⟩
      simp only [Option.map_eq_some_iff] at h
      obtain ⟨ys, hy, e1⟩ := h
      rw [show List.range 4 = [0, 1, 2, 3] from rfl, hc] at hy
      simp only [List.mapM_cons, List.mapM_nil, Option.bind_eq_bind, Option.pure_def, Option.bind_eq_some_iff, Option.some.injEq] at hy
      obtain ⟨y0, h0, r1, ⟨y1, h1, r2, ⟨y2, h2, r3, ⟨y3, h3, r4, rfl, rfl⟩, rfl⟩, rfl⟩, rfl⟩ := hy
      obtain ⟨n0, k0, rfl, w0⟩ := DataW.trod_int he h0
      obtain ⟨n1, k1, rfl, w1⟩ := DataW.trod_int he h1
      obtain ⟨n2, k2, rfl, w2⟩ := DataW.trod_int he h2
      obtain ⟨n3, k3, rfl, w3⟩ := DataW.trod_int he h3
      simp at k0 k1 k2 k3
      refine ⟨n0, n1, n2, n3, ?_, ?_, w0, w1, w2, w3⟩
      · rw [k0, k1, k2, k3]
      · rw [← e1]; rfl
    · rw [if_neg hl] at h; cases h

theorem open_word {t e : TypeId} {r : Reach} {v : Value} {d : DataW H} {ps : List MemPlace} (ht : P.underlying t = some (.array 4 e)) (he : P.underlying e = some (.int .u64)) (hc : P.cellsOf e = 1) (hct : P.cellsOf t = 4)
    (hval : Value.okWide P w r b0 t v) (h : DataW.Trod enc P w base sp held t v d ps) :
    ∃ x0 x1 x2 x3, v = .agg #[.int .u64 x0, .int .u64 x1, .int .u64 x2, .int .u64 x3] ∧ ps = [] ∧ (Lit.int .u64 x0).wf = true ∧ (Lit.int .u64 x1).wf = true ∧ (Lit.int .u64 x2).wf = true ∧ (Lit.int .u64 x3).wf = true := by
  unfold Value.okWide at hval
  simp only [ht] at hval
  obtain ⟨cs, rfl, _, _⟩ := hval
  obtain ⟨fuel, hf⟩ := h
  obtain ⟨x0, x1, x2, x3, h1, h2, h3⟩ := trod_word ht he hc hct hf
  refine ⟨x0, x1, x2, x3, ?_, h2, h3⟩
  have : cs.toList = [.int .u64 x0, .int .u64 x1, .int .u64 x2, .int .u64 x3] := h1
  rw [← this]

theorem cell_lt {a : Addr} {v : Value} (h : w.cell? a = some v) : a.block < w.heap.size := by
  by_cases hb : a.block < w.heap.size
  · exact hb
  · simp [World.cell?, Array.getElem?_eq_none (Nat.le_of_not_lt hb)] at h

/-- A slice of such. -/
def WordAt (w : World) (a : Addr) : Prop := ∃ x0 x1 x2 x3, (Lit.int .u64 x0).wf = true ∧ (Lit.int .u64 x1).wf = true ∧ (Lit.int .u64 x2).wf = true ∧ (Lit.int .u64 x3).wf = true ∧
  w.cell? a = some (.int .u64 x0) ∧ w.cell? (a.add 1) = some (.int .u64 x1) ∧ w.cell? (a.add 2) = some (.int .u64 x2) ∧ w.cell? (a.add 3) = some (.int .u64 x3)
theorem add_zero (a : Addr) : a.add 0 = a := by cases a; simp [Addr.add]
theorem open_words {t s e : TypeId} {r : Reach} {v : Value} {d : DataW H} {ps : List MemPlace} (hs : P.underlying s = some (.slice t)) (ht : P.underlying t = some (.array 4 e)) (he : P.underlying e = some (.int .u64)) (hc : P.cellsOf e = 1) (hct : P.cellsOf t = 4)
    (hval : Value.okWide P w r b0 s v) (h : DataW.Trod enc P w base sp held s v d ps) :
    ∃ p l c, v = .slice p l c ∧ l ≤ maxLen ∧ (0 < l → ∃ a, p = some a ∧ ∀ i, i < l → WordAt w (a.add (i * 4))) := by
  obtain ⟨p, l, c, rfl⟩ := WideShapes.okWide_slice hs hval
  obtain ⟨fuel, hf⟩ := h
  refine ⟨p, l, c, rfl, ?_⟩
  rcases DataW.trod_slice hs hf with ⟨h0, _⟩ | ⟨a, len, cap, elems, rest, n, _, h0, _, _, hl, hm, hlen, hel, _⟩
  · simp [Value.cells] at h0
    obtain ⟨rfl, rfl, rfl⟩ := h0
    exact ⟨Nat.zero_le _, fun h => absurd h (by simp)⟩
  · simp [Value.cells] at h0
    obtain ⟨rfl, rfl, rfl⟩ := h0
    refine ⟨by omega, fun _ => ⟨a, rfl, fun i hi => ?_⟩⟩
    have h1 := hel i hi
    rw [hct] at h1
    obtain ⟨y, hy⟩ : ∃ y, elems[i]? = some y := ⟨_, List.getElem?_eq_getElem (by omega)⟩
    rw [hy, Option.bind_eq_some_iff] at h1
    obtain ⟨cs, hcs, hy'⟩ := h1
    obtain ⟨x0, x1, x2, x3, rfl, _, w0, w1, w2, w3⟩ := trod_word ht he hc hct hy'
    have hg := (World.cells?_some hcs).2.2
    have g0 := hg 0 (by decide)
    rw [add_zero] at g0
    exact ⟨x0, x1, x2, x3, w0, w1, w2, w3, g0, hg 1 (by decide), hg 2 (by decide), hg 3 (by decide)⟩

/-- A slice of numbers. -/
theorem open_nums {k : IntKind} {s e : TypeId} {r : Reach} {v : Value} {d : DataW H} {ps : List MemPlace} (hs : P.underlying s = some (.slice e)) (he : P.underlying e = some (.int k)) (hc : P.cellsOf e = 1)
    (hval : Value.okWide P w r b0 s v) (h : DataW.Trod enc P w base sp held s v d ps) :
    ∃ p l c, v = .slice p l c ∧ l ≤ maxLen ∧ (0 < l → ∃ a, p = some a ∧ ∀ i, i < l → ∃ n, (Lit.int k n).wf = true ∧ w.cell? (a.add i) = some (.int k n)) := by
  obtain ⟨p, l, c, rfl⟩ := WideShapes.okWide_slice hs hval
  obtain ⟨fuel, hf⟩ := h
  refine ⟨p, l, c, rfl, ?_⟩
  rcases DataW.trod_slice hs hf with ⟨h0, _⟩ | ⟨a, len, cap, elems, rest, n, _, h0, _, _, hl, hm, hlen, hel, _⟩
  · simp [Value.cells] at h0
    obtain ⟨rfl, rfl, rfl⟩ := h0
    exact ⟨Nat.zero_le _, fun h => absurd h (by simp)⟩
  · simp [Value.cells] at h0
    obtain ⟨rfl, rfl, rfl⟩ := h0
    refine ⟨by omega, fun _ => ⟨a, rfl, fun i hi => ?_⟩⟩
    have h1 := hel i hi
    rw [hc] at h1
    obtain ⟨y, hy⟩ : ∃ y, elems[i]? = some y := ⟨_, List.getElem?_eq_getElem (by omega)⟩
    rw [hy, Option.bind_eq_some_iff] at h1
    obtain ⟨cs, hcs, hy'⟩ := h1
    obtain ⟨m, rfl, _, wm⟩ := DataW.trod_int he hy'
    have hg := (World.cells?_some hcs).2.2 0 (by decide)
    rw [add_zero, Nat.mul_one] at hg
    exact ⟨m, wm, hg⟩
end
end Go.Proofs.Ytalhnoelkglgiaa.Sh
