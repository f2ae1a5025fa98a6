/- Slices that can be read, whoever owns them (Sees); append of such; cutting at either end. No condition. -/
import Derived.Test.YtalhnoelkglgiaaShZ
import Derived.Deep.Upon
namespace Go.Proofs.Ytalhnoelkglgiaa.Sh
open Go Go.RowKit
set_option linter.unusedVariables false
set_option linter.unusedSimpArgs false
/-- The slice, of n elements of z cells each, reads xs. -/
structure Sees (w : World) (z : Nat) (p : Option Addr) (n c : Nat) (xs : List Value) : Prop where
  len : xs.length = n * z
  le : n ≤ c
  at_ : ∀ j u, xs[j]? = some u → ∃ a, p = some a ∧ w.cell? (a.add j) = some u
theorem blockAdd (a : Addr) (n : Nat) : (a.add n).block = a.block := by unfold Addr.add; split <;> rfl
theorem addAdd (a : Addr) (m n : Nat) : (a.add m).add n = a.add (m + n) := by
  unfold Addr.add
  by_cases hm : m = 0
  · subst hm; simp
  · by_cases hn : n = 0
    · subst hn; simp [hm]
    · rw [if_neg hm, if_neg hn, if_neg (by omega)]; simp [Nat.add_assoc]
theorem addG (g j : Nat) : (⟨g, 0, none⟩ : Addr).add j = ⟨g, j, none⟩ := by
  unfold Addr.add
  by_cases hj : j = 0
  · subst hj; rfl
  · rw [if_neg hj]; simp
theorem cellLt {w : World} {a : Addr} {v : Value} (h : w.cell? a = some v) : a.block < w.heap.size := by
  by_cases hb : a.block < w.heap.size
  · exact hb
  · simp [World.cell?, Array.getElem?_eq_none (Nat.le_of_not_lt hb)] at h
theorem Ext.cellAt {S : Nat → Prop} {w w' : World} (h : Ext S w w') {a : Addr} {v : Value} (hc : w.cell? a = some v) (hs : ¬ S a.block) : w'.cell? a = some v := by
  have hl := cellLt hc
  rw [← hc]
  simp only [World.cell?]
  rw [h.block _ hl hs]
section
variable {w w' : World} {z n c : Nat} {p : Option Addr} {xs : List Value}
theorem Sees.ext {S : Nat → Prop} (h : Sees w z p n c xs) (k : Ext S w w') (hs : ∀ a, p = some a → ¬ S a.block) : Sees w' z p n c xs :=
  ⟨h.len, h.le, fun j u hj => let ⟨a, ha, hc⟩ := h.at_ j u hj; ⟨a, ha, k.cellAt hc (by rw [blockAdd]; exact hs a ha)⟩⟩
theorem Sees.bl (h : Sees w z p n c xs) (k : Bl w w') : Sees w' z p n c xs := h.ext (S := None') (Ext.of_bl k) fun _ _ h => h
theorem Sees.nil (w : World) (z : Nat) : Sees w z none 0 0 [] := ⟨by simp, Nat.le_refl _, fun j u h => by simp at h⟩
theorem Sees.addr (h : Sees w z p n c xs) (hz : 0 < z) (hn : 0 < n) : ∃ a, p = some a ∧ a.block < w.heap.size := by
  have hl : 0 < xs.length := by rw [h.len]; exact Nat.mul_pos hn hz
  obtain ⟨a, ha, hc⟩ := h.at_ 0 _ (List.getElem?_eq_getElem hl)
  exact ⟨a, ha, by have := cellLt hc; rwa [blockAdd] at this⟩
theorem Sees.get (h : Sees w z p n c xs) {j : Nat} {u : Value} {a : Addr} (hp : p = some a) (hj : xs[j]? = some u) : w.cell? (a.add j) = some u := by
  obtain ⟨b, hb, hc⟩ := h.at_ j u hj
  rw [hp] at hb; cases hb; exact hc
theorem RowZ.sees {e : TypeId} (h : RowZ w z (.slice p n c) e n xs) : Sees w z p n c xs := by
  refine ⟨h.len, ?_, fun j u hj => ?_⟩
  · rcases h.form with ⟨hv, h0⟩ | ⟨g, cap, hv, hc⟩
    · omega
    · simp only [Value.slice.injEq] at hv; obtain ⟨_, _, rfl⟩ := hv; exact hc
  · rcases h.form with ⟨hv, h0⟩ | ⟨g, cap, hv, hc⟩
    · have := h.len; rw [h0, Nat.zero_mul] at this
      rw [List.length_eq_zero_iff.1 this] at hj; simp at hj
    · simp only [Value.slice.injEq] at hv; obtain ⟨rfl, _, rfl⟩ := hv
      exact ⟨_, rfl, by rw [addG]; exact h.cell hj⟩
theorem Sees.take (h : Sees w z p n c xs) {x : Nat} (hx : x ≤ n) : Sees w z p x c (xs.take (x * z)) :=
  ⟨by rw [List.length_take, h.len]; exact Nat.min_eq_left (Nat.mul_le_mul_right z hx), Nat.le_trans hx h.le, fun j u hj => h.at_ j u (by
    rw [List.getElem?_take] at hj
    split at hj
    · exact hj
    · cases hj)⟩
theorem Sees.drop (h : Sees w z p n c xs) {x : Nat} (hx : x ≤ n) : Sees w z (if c = x then p else p.map (·.add (x * z))) (n - x) (c - x) (xs.drop (x * z)) := by
  have hle := h.le
  refine ⟨by rw [List.length_drop, h.len, Nat.sub_mul], Nat.sub_le_sub_right hle x, fun j u hj => ?_⟩
  rw [List.getElem?_drop] at hj
  obtain ⟨a, rfl, hc⟩ := h.at_ _ u hj
  by_cases hcx : c = x
  · have hl := (List.getElem?_eq_some_iff.1 hj).1
    rw [h.len, show n = x by omega] at hl
    omega
  · rw [if_neg hcx]
    refine ⟨a.add (x * z), rfl, ?_⟩
    rw [← hc]
    rw [addAdd]
end
section
variable {P : Program} {w : World} {t e n z : Nat} {xs : List Value}
theorem cutZ {p : Option Addr} {l c : Nat} {k : IntKind} {x : Int} {F : Value → World → Prop} (ht : P.underlying t = some (.slice e)) (hz : (P.info? e).map (·.size) = some z) (h0 : 0 ≤ x) (h1 : x ≤ (l : Int)) (hl : l ≤ c) (kk : F (.slice p x.toNat c) w) :
    semK P (Instr.sliceAt t (.slice p l c) none (some (.int k x)) none) w F := by
  refine semK_of ?_ kk
  have hx : 0 ≤ x ∧ x ≤ (c : Int) := ⟨h0, by omega⟩
  by_cases hc : c = 0
  · subst hc
    have hx0 : x = 0 := by omega
    subst hx0
    simp [Instr.sliceAt, Instr.slice, Instr.sliceBounds, Instr.sliceBound, asIntOf, run_underlying ht, run_sizeOf hz, Result.andThen]
  · simp [Instr.sliceAt, Instr.slice, Instr.sliceBounds, Instr.sliceBound, asIntOf, run_underlying ht, run_sizeOf hz, hx, Result.andThen, hc]
    cases p with
    | none => rfl
    | some a => cases a; simp [Addr.add]
theorem dropZ {p : Option Addr} {l c : Nat} {k : IntKind} {x : Int} {F : Value → World → Prop} (ht : P.underlying t = some (.slice e)) (hz : (P.info? e).map (·.size) = some z) (h0 : 0 ≤ x) (h1 : x ≤ (l : Int)) (hl : l ≤ c)
    (kk : F (.slice (if c = x.toNat then p else p.map (·.add (x.toNat * z))) (l - x.toNat) (c - x.toNat)) w) :
    semK P (Instr.sliceAt t (.slice p l c) (some (.int k x)) none none) w F := by
  refine semK_of ?_ kk
  have hx : 0 ≤ x ∧ x ≤ (l : Int) := ⟨h0, h1⟩
  simp [Instr.sliceAt, Instr.slice, Instr.sliceBounds, Instr.sliceBound, asIntOf, run_underlying ht, run_sizeOf hz, hx, Result.andThen]
/-- append of whatever can be read. -/
theorem appS {ty m c by' : Nat} {v zv : Value} {p : Option Addr} {news : List Value} {F : Value → World → Prop} (h : RowZ w z v e n xs) (hs : Sees w z p m c news) (hz0 : 0 < z) (ht : P.underlying t = some (.slice e))
    (hi : (P.info? e).map (fun i => (i.zero, i.size, i.bytes)) = some (some zv, z, by')) (hzv : zv.cells.size = z) (h1 : ∀ u ∈ news, u.oneCell' = true) (hn : n + m ≤ 1073741824) (hb : by' ≤ 65536)
    (kk : ∀ q cap w', RowZ w' z (.slice q (n + m) cap) e (n + m) (xs ++ news) → Ext (Blk v) w w' → (∀ g, Blk (.slice q (n + m) cap) g → Blk v g ∨ g = w.heap.size) → F (.slice q (n + m) cap) w') :
    semK P (Builtin.append_ #[t, t] ty #[v, .slice p m c]) w F := by
  by_cases hm : m = 0
  · subst hm
    have hnil : news = [] := List.length_eq_zero_iff.1 (by rw [hs.len, Nat.zero_mul])
    subst hnil
    cases hinf : P.info? e with
    | none => rw [hinf] at hi; cases hi
    | some i =>
      rw [hinf] at hi
      simp only [Option.map_some, Option.some.injEq, Prod.mk.injEq] at hi
      obtain ⟨hz, hsz, hby⟩ := hi
      have hv : ∃ q l cap, v = .slice q l cap ∧ l = n ∧ n ≤ cap := by
        rcases h.form with ⟨rfl, rfl⟩ | ⟨g, cap, rfl, hc⟩
        · exact ⟨_, _, _, rfl, rfl, Nat.le_refl _⟩
        · exact ⟨_, _, _, rfl, rfl, hc⟩
      obtain ⟨q, l, cap, rfl, rfl, hle⟩ := hv
      have hsrc : Src P i.size t (.slice p 0 c) 0 [] w := by
        cases p with
        | none => exact Src.ofNil (P := P) w ht c
        | some a => exact Src.ofSlice (P := P) w ht a 0 c [] (by simp) (fun j u hj => by simp at hj) (fun u hu => by cases hu)
      refine semK_of (run_append_nothing (P := P) w t t ty e i ht hinf q l cap hle _ hsrc) (kk q cap w ?_ (Ext.refl w) fun g hg => .inl hg)
      simpa using h
  · have hm0 : 0 < m := by omega
    obtain ⟨a, rfl, _⟩ := hs.addr hz0 hm0
    refine appZ (P := P) (z := z) h hz0 ht hi hzv hs.len (fun j u hj => hs.get rfl hj) h1 hm0 hn hb fun g cap w' hr he hg hgl => ?_
    exact kk _ cap w' hr he fun g' hg' => by
      have : g = g' := by simpa [Blk, Value.ownBlock] using hg'
      subst this; exact hg
end
/-- One element of a row written. -/
theorem stR {P : Program} {w : World} {g n c e ty i : Nat} {xs : List Value} {v : Value} {F : World → Prop} (h : Row w (.slice (some ⟨g, 0, none⟩) n c) e n xs) (hi : i < n) (hz : (P.info? ty).map (·.size) = some 1) (h1 : v.oneCell' = true) (hc : v.cells = #[v])
    (k : ∀ w', Row w' (.slice (some ⟨g, 0, none⟩) n c) e n (xs.set i v) → Ext (· = g) w w' → F w') : semU P (Instr.storeAt ty (.pointer (some ⟨g, i, none⟩)) v) w F := by
  have hl := h.len
  rcases h.2 with ⟨h0, _⟩ | ⟨g', cap, cur, hv, hb, hg, hcap, hm, hs, ht⟩
  · cases h0
  · simp only [Value.slice.injEq, Option.some.injEq, Addr.mk.injEq] at hv
    obtain ⟨⟨rfl, _⟩, _, rfl⟩ := hv
    have ho : Own w g cur e := hg
    refine stO (i := i) ho (by omega) hz h1 hc fun w' o' e' => k w' ⟨by rw [List.length_set]; exact h.1, .inr ⟨g, c, cur.set i v, rfl, hb, o', hcap, hm, by rw [Array.size_set]; exact hs, ?_⟩⟩ e'
    rw [Array.toList_set, List.take_set, ht]
end Go.Proofs.Ytalhnoelkglgiaa.Sh
