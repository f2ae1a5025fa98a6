/- Going through a map of numbers, and making a row with room. No condition. -/
import Derived.Test.YtalhnoelkglgiaaShR
import Derived.Lib.JoinLaws
namespace Go.Proofs.Ytalhnoelkglgiaa.Sh
open Go Go.RowKit Go.MapKept
set_option linter.unusedVariables false
set_option linter.unusedSimpArgs false
section
variable {P : Program} {w : World} {t kt et mb c c0 r since : Nat} {E S : List E3}
/-- The walker in a block: it has handed out S. -/
def Iter (w : World) (r mb since c0 : Nat) (S : List E3) : Prop := w.heap[r]? = some (.mapIter (some mb) since (S.map (·.b)).toArray c0)
theorem Iter.ext {Z : Nat → Prop} {w w' : World} (h : Iter w r mb since c0 S) (k : Ext Z w w') (hz : ¬ Z r) : Iter w' r mb since c0 S := by
  refine (k.block r ?_ hz).trans h
  by_cases hh : r < w.heap.size
  · exact hh
  · unfold Iter at h; rw [Array.getElem?_eq_none (Nat.le_of_not_lt hh)] at h; cases h
theorem rangeI {F : Value → World → Prop} (h : IMap w mb E c) (ht : P.underlying t = some (.map kt et)) (kk : ∀ w', Iter w' w.heap.size mb c c [] → Bl w w' → w'.heap.size = w.heap.size + 1 → F (.pointer (some ⟨w.heap.size, 0, none⟩)) w') :
    semK P (Instr.range t (.map (some mb))) w F :=
  semK_of (run_range_map (P := P) w t kt et mb _ c ht h.heap) (kk _ (heap_alloc w _).1 ((Bl.refl w).alloc _) (size_alloc _ _))
theorem nextI {ty : TypeId} {F : Value → World → Prop} (h : IMap w mb E c) (hr : Iter w r mb since c0 S) (hlt : ∀ x ∈ E, x.b < since) (hsc : since ≤ c0)
    (k1 : (∀ x ∈ E, x.b ∈ S.map (·.b)) → F (.tuple #[.bool false]) w)
    (k2 : ∀ x ∈ E, x.b ∉ S.map (·.b) → ∀ w', Iter w' r mb since c (S ++ [x]) → Ext (· = r) w w' → F (.tuple #[.bool true, .int .i64 x.k, .int .i64 x.v]) w') :
    semK P (Instr.next (.pointer (some ⟨r, 0, none⟩)) false ty) w F := by
  have hold : ∀ x ∈ (E.map E3.ent).toArray.toList, x.born < since := by
    intro x hx
    obtain ⟨y, hy, rfl⟩ := List.mem_map.1 (by simpa using hx)
    exact hlt y hy
  rcases run_next_at (P := P) w ty r mb since c0 _ _ c hr h.heap hold hsc with ⟨h0, hrun⟩ | ⟨e, he, w1, hw1, hrun⟩
  · refine semK_of hrun (k1 fun x hx => ?_)
    have hnil : leftOf (E.map E3.ent).toArray (S.map (·.b)).toArray = #[] := Array.eq_empty_of_size_eq_zero h0
    unfold leftOf at hnil
    rw [Array.filter_eq_empty_iff] at hnil
    have := hnil x.ent (by simpa using ⟨x, hx, rfl⟩)
    simpa [E3.ent] using this
  · unfold leftOf at he
    simp only [Array.toList_filter, List.mem_filter] at he
    obtain ⟨he1, he2⟩ := he
    obtain ⟨x, hx, rfl⟩ := List.mem_map.1 (by simpa using he1)
    refine semK_of hrun (k2 x hx (by simpa [E3.ent] using he2) _ ?_ ?_)
    · have hr1 : w1.heap[r]? = some (.mapIter (some mb) since (S.map (·.b)).toArray c0) := by rcases hw1 with rfl | rfl <;> exact hr
      have := (heap_set (o' := .mapIter (some mb) since ((S.map (·.b)).toArray.push x.ent.born) c) hr1).1
      unfold Iter
      rw [List.map_append]
      simpa [ChangeMaps.setBlock, E3.ent] using this
    · have hr1 : w1.heap[r]? = some (.mapIter (some mb) since (S.map (·.b)).toArray c0) := by rcases hw1 with rfl | rfl <;> exact hr
      have e1 : Ext (· = r) w1 (ChangeMaps.setBlock w1 r (.mapIter (some mb) since ((S.map (·.b)).toArray.push x.ent.born) c)) :=
        ⟨rfl, rfl, rfl, by simp [ChangeMaps.setBlock], fun k hk hb => (heap_set hr1).2 k hb⟩
      rcases hw1 with rfl | rfl
      · exact e1
      · exact (Ext.refl w).drew.trans e1 fun _ _ h => h
theorem entryI {x : E3} {F : Value → World → Prop} (h : IMap w mb E c) (hr : Iter w r mb since c (S ++ [x])) (hx : x ∈ E) (kk : F (.tuple #[.int .i64 x.k, .int .i64 x.v]) w) :
    semK P (Instr.entry (.pointer (some ⟨r, 0, none⟩))) w F := by
  have hr' : w.heap[r]? = some (.mapIter (some mb) since ((S.map (·.b)).toArray.push x.ent.born) c) := by
    unfold Iter at hr
    rw [List.map_append] at hr
    simpa [E3.ent] using hr
  refine semK_of (run_entry_at (P := P) w r mb since _ _ c x.ent hr' h.heap (by simpa using ⟨x, hx, rfl⟩) ?_) kk
  have := h.borns
  simpa [List.map_map, Function.comp_def, E3.ent] using this
theorem ext0 {v : Value} {l : List Value} {F : Value → World → Prop} (kk : F v w) : semK P (Instr.extract (.tuple (v :: l).toArray) 0) w F :=
  semK_of (by simp [Instr.extract]) kk
theorem ext1 {u v : Value} {l : List Value} {F : Value → World → Prop} (kk : F v w) : semK P (Instr.extract (.tuple (u :: v :: l).toArray) 1) w F :=
  semK_of (by simp [Instr.extract]) kk
theorem makeR {t e by' n : Nat} {z : Value} {F : Value → World → Prop} (ht : P.underlying t = some (.slice e)) (hi : (P.info? e).map (fun i => (i.zero, i.size, i.bytes)) = some (some z, 1, by')) (hz : z.cells = #[z]) (hn : n ≤ 1073741824) (hb : by' ≤ 65536)
    (kk : ∀ w', Row w' (.slice (some ⟨w.heap.size, 0, none⟩) 0 n) e 0 [] → Bl w w' → w'.heap.size = w.heap.size + 1 → F (.slice (some ⟨w.heap.size, 0, none⟩) 0 n) w') :
    semK P (Instr.makeSlice t (.int .i64 0) (.int .i64 (n : Int))) w F := by
  have hm : maxLen = 9223372036854775807 := rfl
  refine semK_of (run_make_room (P := P) t e z by' ht hi hz .i64 .i64 n (Nat.le_trans (Nat.mul_le_mul hb hn) (by decide)) (by omega) w) (kk _ ?_ ((Bl.refl w).alloc _) (size_alloc _ _))
  exact ⟨rfl, .inr ⟨w.heap.size, n, madeCells #[z] n, rfl, Nat.zero_le _, Own.new _ _ _, Nat.zero_le _, by omega, by rw [size_madeCells]; omega, by simp⟩⟩
end
end Go.Proofs.Ytalhnoelkglgiaa.Sh
