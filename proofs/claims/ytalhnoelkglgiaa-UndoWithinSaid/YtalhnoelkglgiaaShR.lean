/- Rows (slices of elements of one cell) that are wholly known: append of one, cutting, clearing, an element, making. No condition. -/
import Derived.Test.YtalhnoelkglgiaaSh9
import Derived.Deep.AppendLies
import Derived.Laws.CopyRow
namespace Go.Proofs.Ytalhnoelkglgiaa.Sh
open Go Go.RowKit
set_option linter.unusedVariables false
set_option linter.unusedSimpArgs false

/-- The slice v, of n elements of one cell each, holds xs. -/
def Row (w : World) (v : Value) (e : TypeId) (n : Nat) (xs : List Value) : Prop := w.ownsRow 0 e 1 v n xs
def Blk (v : Value) : Nat → Prop := fun k => v.ownBlock = some k
theorem Row.len {w : World} {v : Value} {e n : Nat} {xs : List Value} (h : Row w v e n xs) : xs.length = n := by have := h.1; omega
theorem Row.ext {S : Nat → Prop} {w w' : World} {v : Value} {e n : Nat} {xs : List Value} (h : Row w v e n xs) (k : Ext S w w') (hs : ∀ g, Blk v g → ¬ S g) : Row w' v e n xs := by
  refine ⟨h.1, h.2.imp id ?_⟩
  rintro ⟨g, cap, cur, rfl, hb, hg, r⟩
  refine ⟨g, cap, cur, rfl, hb, ?_, r⟩
  have hlt : g < w.heap.size := by
    by_cases hh : g < w.heap.size
    · exact hh
    · rw [Array.getElem?_eq_none (Nat.le_of_not_lt hh)] at hg; cases hg
  exact (k.block g hlt (hs g rfl)).trans hg
theorem Row.bl {w w' : World} {v : Value} {e n : Nat} {xs : List Value} (h : Row w v e n xs) (k : Bl w w') : Row w' v e n xs := h.ext (S := None') (Ext.of_bl k) fun _ _ h => h
theorem Row.drew {w : World} {v : Value} {e n : Nat} {xs : List Value} (h : Row w v e n xs) : Row w.drew v e n xs := h.bl (Bl.refl w).drew
theorem Row.nil (w : World) (e : TypeId) : Row w (.slice none 0 0) e 0 [] := ⟨rfl, .inl ⟨rfl, rfl⟩⟩
theorem Row.lt {w : World} {v : Value} {e n g : Nat} {xs : List Value} (h : Row w v e n xs) (hb : Blk v g) : g < w.heap.size := by
  rcases h.2 with ⟨rfl, _⟩ | ⟨g', cap, cur, rfl, _, hg, _⟩
  · cases hb
  · have : g' = g := by simpa [Blk, Value.ownBlock] using hb
    subst this
    by_cases hh : g' < w.heap.size
    · exact hh
    · rw [Array.getElem?_eq_none (Nat.le_of_not_lt hh)] at hg; cases hg
/-- What the value looks like. -/
theorem Row.form {w : World} {v : Value} {e n : Nat} {xs : List Value} (h : Row w v e n xs) : (v = .slice none 0 0 ∧ n = 0) ∨ ∃ g cap, v = .slice (some ⟨g, 0, none⟩) n cap ∧ n ≤ cap := by
  rcases h.2 with h | ⟨g, cap, cur, hv, _, _, hc, _⟩
  · exact .inl h
  · exact .inr ⟨g, cap, hv, hc⟩
theorem Row.cell {w : World} {e n g c j : Nat} {xs : List Value} {u : Value} (h : Row w (.slice (some ⟨g, 0, none⟩) n c) e n xs) (hj : xs[j]? = some u) : w.cell? ⟨g, j, none⟩ = some u := by
  have hl := h.len
  rcases h.2 with ⟨h, _⟩ | ⟨g', cap, cur, hv, _, hg, hc, hm, hs, ht⟩
  · cases h
  · simp only [Value.slice.injEq, Option.some.injEq, Addr.mk.injEq] at hv
    obtain ⟨⟨rfl, _⟩, _, rfl⟩ := hv
    have : Own w g cur e := hg
    rw [this.cell]
    have hjn : j < n := by rw [← hl]; exact (List.getElem?_eq_some_iff.1 hj).1
    rw [← ht, List.getElem?_take] at hj
    rw [if_pos (by omega)] at hj
    simpa using hj

section
variable {P : Program} {w : World} {t e n : Nat} {v : Value} {xs : List Value}
/-- One more at the end. -/
theorem app1 {ty b e' by' c : Nat} {u z : Value} {F : Value → World → Prop} (h : Row w v e n xs) (ho : Own w b #[u] e') (ht : P.underlying t = some (.slice e)) (hi : (P.info? e).map (fun i => (i.zero, i.size, i.bytes)) = some (some z, 1, by')) (hz : z.cells = #[z])
    (h1 : u.oneCell' = true) (hn : n + 1 ≤ 1073741824) (hb : by' ≤ 65536)
    (kk : ∀ g cap w', Row w' (.slice (some ⟨g, 0, none⟩) (n + 1) cap) e (n + 1) (xs ++ [u]) → Ext (Blk v) w w' → (Blk v g ∨ g = w.heap.size) → g < w'.heap.size → F (.slice (some ⟨g, 0, none⟩) (n + 1) cap) w') :
    semK P (Builtin.append_ #[t, t] ty #[v, .slice (some ⟨b, 0, none⟩) 1 c]) w F := by
  cases hinf : P.info? e with
  | none => rw [hinf] at hi; cases hi
  | some i =>
    rw [hinf] at hi
    simp only [Option.map_some, Option.some.injEq, Prod.mk.injEq] at hi
    obtain ⟨hz0, hs, hby⟩ := hi
    have hm : maxLen = 9223372036854775807 := rfl
    have hnews : ∀ (j : Nat) (q : Value), [u][j]? = some q → w.cell? ((⟨b, 0, none⟩ : Addr).add j) = some q := by
      intro j q hj
      cases j with
      | zero =>
        simp only [List.getElem?_cons_zero, Option.some.injEq] at hj
        subst hj
        have := ho.cell (i := 0)
        simpa [Addr.add] using this
      | succ j => simp at hj
    obtain ⟨g, cap, w', hr, h2, h3, h4, h5⟩ := run_append_lies (P := P) w t ty 0 e i z 1 by' ht hinf hz0 hs hby (by rw [hz]; rfl) (by decide) v n xs h ⟨b, 0, none⟩ 1 c [u] rfl hnews (by simpa using h1) (by decide) (by omega)
      (Nat.le_trans (Nat.mul_le_mul hn hb) (by decide)) (Nat.zero_le _) w.heap.size rfl
    exact semK_of hr (kk g cap w' h2 ⟨h3.os, h3.tape, h3.output, h3.size, fun k hk hb => h3.block k hk fun e => hb e.symm⟩ h4 h5)
/-- Cut at the end. -/
theorem cutTo {p : Option Addr} {l c : Nat} {k : IntKind} {x : Int} {F : Value → World → Prop} (ht : P.underlying t = some (.slice e)) (hz : (P.info? e).map (·.size) = some 1) (h0 : 0 ≤ x) (h1 : x ≤ (l : Int)) (hl : l ≤ c) (kk : F (.slice p x.toNat c) w) :
    semK P (Instr.sliceAt t (.slice p l c) none (some (.int k x)) none) w F := by
  refine semK_of ?_ kk
  have hx : 0 ≤ x ∧ x ≤ (c : Int) := ⟨h0, by omega⟩
  by_cases hc : c = 0
  · subst hc
    have hx0 : x = 0 := by omega
    subst hx0
    simp [Instr.sliceAt, Instr.slice, Instr.sliceBounds, Instr.sliceBound, asIntOf, run_underlying ht, run_sizeOf hz, Result.andThen]
  · simp [Instr.sliceAt, Instr.slice, Instr.sliceBounds, Instr.sliceBound, asIntOf, run_underlying ht, run_sizeOf hz, hx, Result.andThen, hc]
    cases p with
    | none => rfl
    | some a => cases a; simp [Addr.add]
theorem Row.cut {x : Nat} {p : Option Addr} {c : Nat} (h : Row w (.slice p n c) e n xs) (hx : x ≤ n) : Row w (.slice p x c) e x (xs.take x) := by
  have hl := h.len
  refine ⟨by rw [List.length_take]; omega, ?_⟩
  rcases h.2 with ⟨h0, h1⟩ | ⟨g, cap, cur, hv, hb, hg, hc, hm, hs, ht⟩
  · simp only [Value.slice.injEq] at h0
    obtain ⟨rfl, h2, rfl⟩ := h0
    refine .inl ⟨?_, by omega⟩
    rw [show x = 0 by omega]
  · simp only [Value.slice.injEq] at hv
    obtain ⟨rfl, _, rfl⟩ := hv
    refine .inr ⟨g, c, cur, rfl, hb, hg, by omega, hm, hs, ?_⟩
    rw [← ht, List.take_take]
    congr 1; omega
/-- What is behind, wiped. -/
theorem wipe {x : Nat} {p : Option Addr} {c ty : Nat} {k : IntKind} {z : Value} {F : Value → World → Prop} (h : Row w (.slice p n c) e n xs) (hx : x ≤ n) (ht : P.underlying t = some (.slice e)) (hi : (P.info? e).map (·.size) = some 1) (hz : ∀ w, (zeroValue e).run P w = .ok z w) (hz1 : z.cells = #[z]) (h1 : z.oneCell' = true)
    (kk : ∀ w', Row w' (.slice p n c) e n (xs.take x ++ List.replicate (n - x) z) → Ext (Blk (.slice p n c)) w w' → F (.tuple #[]) w') :
    semK P (Instr.sliceAt t (.slice p n c) (some (.int k (x : Int))) none none) w fun v1 w1 => asL v1 fun p1 l1 c1 => semK P (Builtin.clear_ #[t] ty #[.slice p1 l1 c1]) w1 F := by
  have hl := h.len
  have hx' : (0 : Int) ≤ (x : Int) ∧ (x : Int) ≤ (n : Int) := by omega
  rcases h.2 with ⟨h0, h2⟩ | ⟨g, cap, cur, hv, hb, hg, hc, hm, hs, htk⟩
  · simp only [Value.slice.injEq] at h0
    obtain ⟨rfl, h3, rfl⟩ := h0
    subst h3
    have hx0 : x = 0 := by omega
    subst hx0
    refine semK_of (v := .slice none 0 0) (w' := w) ?_ ?_
    · simp [Instr.sliceAt, Instr.slice, Instr.sliceBounds, Instr.sliceBound, asIntOf, run_underlying ht, run_sizeOf hi, Result.andThen]
    · refine semK_of (v := .tuple #[]) (w' := w) ?_ (kk w (by simpa [List.length_eq_zero_iff.1 hl] using Row.nil w e) (Ext.refl w))
      simp [Builtin.clear_, run_underlying ht, Result.andThen]
  · simp only [Value.slice.injEq] at hv
    obtain ⟨rfl, _, rfl⟩ := hv
    by_cases hxn : x = n
    · -- nothing behind
      subst hxn
      have hrow : Row w (.slice (some ⟨g, 0, none⟩) x c) e x (xs.take x ++ List.replicate (x - x) z) := by
        rw [Nat.sub_self, List.replicate_zero, List.append_nil, List.take_of_length_le (by omega)]; exact h
      refine semK_of (v := .slice (if c = x then some ⟨g, 0, none⟩ else some ⟨g, x, none⟩) 0 (c - x)) (w' := w) ?_ ?_
      · simp [Instr.sliceAt, Instr.slice, Instr.sliceBounds, Instr.sliceBound, asIntOf, run_underlying ht, run_sizeOf hi, Result.andThen, Addr.add]
        by_cases hx0 : x = 0
        · simp [hx0]
        · simp [hx0]
      · refine semK_of (v := .tuple #[]) (w' := w) ?_ (kk w hrow (Ext.refl w))
        by_cases hcx : c = x <;> simp [Builtin.clear_, run_underlying ht, Result.andThen, hcx]
    · have hcx : ¬ c = x := by omega
      have hst := run_storeCells_at P g x e (List.replicate (n - x) z) 0 cur w hg (by simp [hs]; omega) (fun v hv => by rw [List.eq_of_mem_replicate hv]; exact h1)
      have hzc : (Builtin.zeroCells z.cells (n - x)).toList = List.replicate (n - x) z := by
        rw [hz1]
        simp only [Builtin.zeroCells, Array.toList_map, List.size_toArray, List.length_cons, List.length_nil, Nat.zero_add, Nat.mul_one, Nat.mod_one, Array.toList_range]
        show List.map (fun _ => z) (List.range (n - x)) = _
        rw [List.map_const']; simp
      simp only [Nat.add_zero, List.length_replicate] at hst
      rw [show x + (n - x) = n by omega] at hst
      refine semK_of (v := .slice (some ⟨g, x, none⟩) (n - x) (c - x)) (w' := w) ?_ ?_
      · simp [Instr.sliceAt, Instr.slice, Instr.sliceBounds, Instr.sliceBound, asIntOf, run_underlying ht, run_sizeOf hi, Result.andThen, Addr.add, hx, hcx]
        intro h0; omega
      · refine semK_of (v := .tuple #[]) (w' := w.setRow g (cur.toList.take x ++ List.replicate (n - x) z ++ cur.toList.drop n).toArray) ?_ (kk _ ⟨?_, .inr ⟨g, c, (cur.toList.take x ++ List.replicate (n - x) z ++ cur.toList.drop n).toArray, rfl, Nat.zero_le _, ?_, hc, hm, ?_, ?_⟩⟩ ?_)
        · have hne : ¬ n - x = 0 := by omega
          unfold Builtin.clear_
          simp only [List.getElem?_toArray, List.getElem?_cons_zero, Sem.run_bind, run_underlying ht, Result.andThen_ok]
          rw [hz]
          simp only [Result.andThen_ok]
          rw [hzc, hst]
          rfl
        · simp; omega
        · unfold World.setRow
          simp only [Array.getElem?_modify, if_true, hg]
          rfl
        · simp [hs]; omega
        · rw [Nat.mul_one, List.take_left' (by simp [hs]; omega)]
          congr 1
          rw [← htk, List.take_take]; congr 1; omega
        · refine ⟨rfl, rfl, rfl, by simp [World.setRow], fun k hk hb => ?_⟩
          simp only [World.setRow, Array.getElem?_modify]
          rw [if_neg fun e => hb (by rw [← e]; rfl)]
end
end Go.Proofs.Ytalhnoelkglgiaa.Sh
