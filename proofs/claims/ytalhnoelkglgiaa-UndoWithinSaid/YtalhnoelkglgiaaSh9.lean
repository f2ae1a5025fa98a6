/- Maps from numbers to numbers: what looking up, setting, taking away, counting and going through do. No condition. -/
import Derived.Test.YtalhnoelkglgiaaSh8
import Derived.MapKept
import Derived.Maps.RangeRun
namespace Go.Proofs.Ytalhnoelkglgiaa.Sh
open Go Go.RowKit Go.MapKept
set_option linter.unusedVariables false
set_option linter.unusedSimpArgs false

/-- An entry: key, value, stamp. -/
structure E3 where
  k : Int
  v : Int
  b : Nat
def E3.ent (x : E3) : MapEntry := { key := .int .i64 x.k, val := .int .i64 x.v, born := x.b }
/-- A map in a block. -/
structure IMap (w : World) (mb : Nat) (E : List E3) (c : Nat) : Prop where
  heap : w.heap[mb]? = some (.map (E.map E3.ent).toArray c)
  keys : (E.map (·.k)).Nodup
  borns : (E.map (·.b)).Nodup
  lt : ∀ x ∈ E, x.b < c
theorem IMap.block {w : World} {mb : Nat} {E : List E3} {c : Nat} (h : IMap w mb E c) : mb < w.heap.size := by
  by_cases hb : mb < w.heap.size
  · exact hb
  · have := h.heap; rw [Array.getElem?_eq_none (Nat.le_of_not_lt hb)] at this; cases this
theorem IMap.ext {S : Nat → Prop} {w w' : World} {mb : Nat} {E : List E3} {c : Nat} (h : IMap w mb E c) (k : Ext S w w') (hb : ¬ S mb) : IMap w' mb E c := ⟨(k.block mb h.block hb).trans h.heap, h.keys, h.borns, h.lt⟩
theorem IMap.bl {w w' : World} {mb : Nat} {E : List E3} {c : Nat} (h : IMap w mb E c) (k : Bl w w') : IMap w' mb E c := h.ext (S := None') (Ext.of_bl k) (fun h => h)
theorem IMap.new (w : World) : IMap (w.alloc (.map #[] 0)) w.heap.size [] 0 := ⟨(heap_alloc w _).1, List.nodup_nil, List.nodup_nil, fun x hx => by cases hx⟩
theorem IMap.drew {w : World} {mb : Nat} {E : List E3} {c : Nat} (h : IMap w mb E c) : IMap w.drew mb E c := ⟨h.heap, h.keys, h.borns, h.lt⟩

/-- What a key has. -/
def lkE : List E3 → Int → Option Int
  | [], _ => none
  | x :: xs, k => if x.k = k then some x.v else lkE xs k
def posE : List E3 → Int → Nat → Option (Nat × Value)
  | [], _, _ => none
  | x :: xs, k, i => if x.k = k then some (i, .int .i64 x.v) else posE xs k (i + 1)
theorem findNow_eq (k : Int) : ∀ (E : List E3) (i : Nat), Instr.findNow (.int .i64) (.int .i64 k) (E.map E3.ent) i = some (posE E k i)
  | [], i => rfl
  | x :: xs, i => by
    simp only [List.map_cons, Instr.findNow, E3.ent, Instr.sameNow, if_true, posE]
    by_cases h : x.k = k
    · rw [if_pos h, h]; simp
    · have : (k == x.k) = false := by simpa using fun e => h e.symm
      rw [this, if_neg h]
      exact findNow_eq k xs (i + 1)
theorem pos_look (k : Int) : ∀ (E : List E3) (i : Nat), (posE E k i).map (·.2) = (lkE E k).map (fun v => .int .i64 v)
  | [], i => rfl
  | x :: xs, i => by
    simp only [posE, lkE]
    by_cases h : x.k = k
    · rw [if_pos h, if_pos h]; rfl
    · rw [if_neg h, if_neg h]; exact pos_look k xs (i + 1)

section
variable {P : Program} {w : World} {t kt et mb c : Nat} {E : List E3}
theorem lookupI {k : Int} {F : Value → World → Prop} (h : IMap w mb E c) (ht : P.underlying t = some (.map kt et)) (hk : P.underlying kt = some (.int .i64)) (kk : F (.tuple #[.int .i64 ((lkE E k).getD 0), .bool (lkE E k).isSome]) w)
    (hz : ∀ w, (zeroValue et).run P w = .ok (.int .i64 0) w) : semK P (Instr.lookup t (.map (some mb)) (.int .i64 k) true) w F := by
  refine semK_of ?_ kk
  have hf := MapKept.run_findKey (P := P) (w := w) hk (findNow_eq k E 0)
  have hp := pos_look k E 0
  simp only [Instr.lookup, Sem.run_bind, run_underlying ht, Result.andThen_ok, MapKept.run_getObj_map h.heap, Sem.run_pure, MapKept.run_checkKey hk (show IsKey (.int .i64) (.int .i64 k) from rfl)]
  rw [hf]
  simp only [Result.andThen_ok]
  cases hq : posE E k 0 with
  | none =>
    rw [hq] at hp
    cases hl : lkE E k with
    | none => simp [Sem.run_bind, hz, Result.andThen]
    | some v => rw [hl] at hp; cases hp
  | some y =>
    obtain ⟨i, u⟩ := y
    rw [hq] at hp
    cases hl : lkE E k with
    | none => rw [hl] at hp; cases hp
    | some v =>
      rw [hl] at hp
      simp only [Option.map_some, Option.some.injEq] at hp
      subst hp
      simp [Sem.run_bind, Result.andThen]

theorem modify_at {α : Type} (f : α → α) (x : α) (B : List α) : ∀ A : List α, (A ++ x :: B).modify A.length f = A ++ f x :: B
  | [] => rfl
  | a :: A => by
    show a :: (A ++ x :: B).modify A.length f = _
    rw [modify_at f x B A]; rfl
theorem erase_at {α : Type} (x : α) (B : List α) : ∀ A : List α, (A ++ x :: B).eraseIdx A.length = A ++ B
  | [] => rfl
  | a :: A => by
    show a :: (A ++ x :: B).eraseIdx A.length = _
    rw [erase_at x B A]; rfl
/-! ### Writing -/
def updE (E : List E3) (k v : Int) (c : Nat) : List E3 := if (lkE E k).isSome then E.map (fun x => if x.k = k then ⟨x.k, v, x.b⟩ else x) else E ++ [⟨k, v, c⟩]
def delE (E : List E3) (k : Int) : List E3 := E.filter (fun x => !decide (x.k = k))
theorem look_none {k : Int} : ∀ {E : List E3}, lkE E k = none ↔ ∀ x ∈ E, x.k ≠ k
  | [] => by simp [lkE]
  | x :: xs => by
    simp only [lkE]
    by_cases h : x.k = k
    · simp [h]
    · rw [if_neg h, look_none]; simp [h]
theorem pos_some {k : Int} : ∀ {E : List E3} {i : Nat} {v : Int}, lkE E k = some v → ∃ A x B, E = A ++ x :: B ∧ x.k = k ∧ x.v = v ∧ (∀ y ∈ A, y.k ≠ k) ∧ posE E k i = some (i + A.length, .int .i64 v)
  | [], _, _, h => by simp [lkE] at h
  | x :: xs, i, v, h => by
    simp only [lkE] at h
    by_cases hk : x.k = k
    · rw [if_pos hk] at h
      simp only [Option.some.injEq] at h
      exact ⟨[], x, xs, rfl, hk, h, (fun y hy => by cases hy), by simp [posE, hk, h]⟩
    · rw [if_neg hk] at h
      obtain ⟨A, y, B, h1, h2, h3, h4, h5⟩ := pos_some (i := i + 1) h
      refine ⟨x :: A, y, B, by rw [h1]; rfl, h2, h3, ?_, ?_⟩
      · intro z hz
        rcases List.mem_cons.1 hz with rfl | hz
        · exact hk
        · exact h4 z hz
      · simp only [posE, if_neg hk, h5, List.length_cons]
        congr 2; omega
theorem pos_none {k : Int} : ∀ {E : List E3} {i : Nat}, lkE E k = none → posE E k i = none
  | [], _, _ => rfl
  | x :: xs, i, h => by
    simp only [lkE] at h
    by_cases hk : x.k = k
    · rw [if_pos hk] at h; cases h
    · rw [if_neg hk] at h; simp only [posE, if_neg hk]; exact pos_none h
theorem lkE_upd {E : List E3} {k v : Int} {c : Nat} (j : Int) : lkE (updE E k v c) j = if j = k then some v else lkE E j := by
  unfold updE
  cases hl : lkE E k with
  | none =>
    simp only [Option.isSome_none, Bool.false_eq_true, if_false]
    have hn := look_none.1 hl
    clear hl
    induction E with
    | nil =>
      simp only [List.nil_append, lkE]
      by_cases h : j = k
      · subst h; simp
      · rw [if_neg h, if_neg fun e => h e.symm]
    | cons x xs ih =>
      simp only [List.cons_append, lkE]
      rw [ih fun y hy => hn y (by simp [hy])]
      by_cases h : x.k = j
      · have := hn x (by simp)
        rw [if_pos h, if_pos h, if_neg (by rw [← h]; exact this)]
      · rw [if_neg h, if_neg h]
  | some u =>
    simp only [Option.isSome_some, if_true]
    induction E with
    | nil => simp [lkE] at hl
    | cons x xs ih =>
      simp only [List.map_cons, lkE]
      by_cases hx : x.k = k
      · rw [if_pos hx]
        simp only
        by_cases h : x.k = j
        · rw [if_pos h, if_pos (by rw [← h, hx])]
        · rw [if_neg h, if_neg h, if_neg (by rw [← hx]; exact fun e => h e.symm)]
          clear ih hl
          induction xs with
          | nil => rfl
          | cons y ys ih =>
            simp only [List.map_cons, lkE]
            by_cases hy : y.k = k
            · have : ¬ y.k = j := fun e => h (by rw [hx, ← hy, e])
              rw [if_pos hy]; simp only; rw [if_neg this, if_neg this]; exact ih
            · rw [if_neg hy]
              by_cases h2 : y.k = j
              · rw [if_pos h2, if_pos h2]
              · rw [if_neg h2, if_neg h2]; exact ih
      · simp only [lkE, if_neg hx] at hl
        rw [if_neg hx]
        by_cases h : x.k = j
        · rw [if_pos h, if_pos h, if_neg (by rw [← h]; exact hx)]
        · rw [if_neg h, if_neg h]; exact ih hl
theorem lkE_del {E : List E3} {k : Int} (j : Int) : lkE (delE E k) j = if j = k then none else lkE E j := by
  unfold delE
  induction E with
  | nil => simp [lkE]
  | cons x xs ih =>
    by_cases hx : x.k = k
    · rw [List.filter_cons_of_neg (by simp [hx]), ih]
      by_cases h : j = k
      · rw [if_pos h, if_pos h]
      · rw [if_neg h, if_neg h]; simp only [lkE]; rw [if_neg (by rw [hx]; exact fun e => h e.symm)]
    · rw [List.filter_cons_of_pos (by simp [hx])]
      simp only [lkE]
      by_cases h : x.k = j
      · rw [if_pos h, if_pos h, if_neg (by rw [← h]; exact hx)]
      · rw [if_neg h, if_neg h, ih]
theorem len_upd (E : List E3) (k v : Int) (c : Nat) : (updE E k v c).length ≤ E.length + 1 := by
  unfold updE; split <;> simp
theorem len_del (E : List E3) (k : Int) : (delE E k).length ≤ E.length := by unfold delE; exact List.length_filter_le _ _
theorem upd_some {k v u : Int} {E : List E3} {c : Nat} {A B : List E3} {x : E3} (hn : (E.map (·.k)).Nodup) (hE : E = A ++ x :: B) (hx : x.k = k) (hA : ∀ y ∈ A, y.k ≠ k) : updE E k v c = A ++ ⟨x.k, v, x.b⟩ :: B := by
  subst hE
  have hs : (lkE (A ++ x :: B) k).isSome = true := by
    cases hl : lkE (A ++ x :: B) k with
    | some _ => rfl
    | none => exact absurd hx (look_none.1 hl x (by simp))
  unfold updE
  rw [if_pos hs, List.map_append, List.map_cons, if_pos hx]
  have hB : ∀ y ∈ B, y.k ≠ k := by
    intro y hy e
    rw [List.map_append, List.map_cons, List.nodup_append] at hn
    have := (List.nodup_cons.1 hn.2.1).1
    exact this (by rw [hx, ← e]; exact List.mem_map_of_mem hy)
  have hid : ∀ l : List E3, (∀ y ∈ l, y.k ≠ k) → l.map (fun x => if x.k = k then (⟨x.k, v, x.b⟩ : E3) else x) = l := by
    intro l hl
    induction l with
    | nil => rfl
    | cons y ys ih => rw [List.map_cons, if_neg (hl y (by simp)), ih fun z hz => hl z (by simp [hz])]
  rw [hid A hA, hid B hB]
theorem del_some {k : Int} {E : List E3} {A B : List E3} {x : E3} (hn : (E.map (·.k)).Nodup) (hE : E = A ++ x :: B) (hx : x.k = k) (hA : ∀ y ∈ A, y.k ≠ k) : delE E k = A ++ B := by
  subst hE
  have hB : ∀ y ∈ B, y.k ≠ k := by
    intro y hy e
    rw [List.map_append, List.map_cons, List.nodup_append] at hn
    have := (List.nodup_cons.1 hn.2.1).1
    exact this (by rw [hx, ← e]; exact List.mem_map_of_mem hy)
  unfold delE
  rw [List.filter_append, List.filter_cons_of_neg (by simp [hx])]
  rw [List.filter_eq_self.2 fun y hy => by simpa using hA y hy, List.filter_eq_self.2 fun y hy => by simpa using hB y hy]
theorem del_none {k : Int} {E : List E3} (h : lkE E k = none) : delE E k = E := by
  unfold delE
  exact List.filter_eq_self.2 fun y hy => by simpa using look_none.1 h y hy

def setB (w : World) (b : Nat) (o : Obj) : World := { w with heap := w.heap.setIfInBounds b o }
theorem setB_ext {w : World} {b : Nat} {o o' : Obj} (h : w.heap[b]? = some o) : (setB w b o').heap[b]? = some o' ∧ Ext (· = b) w (setB w b o') :=
  ⟨(heap_set h).1, rfl, rfl, rfl, by simp [setB], fun k hk hb => (heap_set h).2 k hb⟩
/-- A new value for a key. -/
theorem setI {k v : Int} {F : World → Prop} (h : IMap w mb E c) (ht : P.underlying t = some (.map kt et)) (hk : P.underlying kt = some (.int .i64))
    (kk : ∀ w' c', IMap w' mb (updE E k v c) c' → Ext (· = mb) w w' → F w') : semU P (Instr.mapUpdate t (.map (some mb)) (.int .i64 k) (.int .i64 v)) w F := by
  have hf := MapKept.run_findKey (P := P) (w := w) hk (findNow_eq k E 0)
  cases hl : lkE E k with
  | none =>
    have hp := pos_none (i := 0) hl
    have hn := look_none.1 hl
    obtain ⟨g1, g2⟩ := setB_ext (o' := .map ((updE E k v c).map E3.ent).toArray (c + 1)) h.heap
    refine semU_of (w' := setB w mb (.map ((updE E k v c).map E3.ent).toArray (c + 1))) ?_ (kk _ (c + 1) ⟨g1, ?_, ?_, ?_⟩ g2)
    · simp only [Instr.mapUpdate, Sem.run_bind, run_underlying ht, Result.andThen_ok, MapKept.run_getObj_map h.heap, MapKept.run_checkKey hk (show IsKey (.int .i64) (.int .i64 k) from rfl)]
      rw [hf, hp]
      simp only [Result.andThen_ok]
      rw [MapKept.run_setObj_map _ h.heap]
      simp [setB, updE, hl, E3.ent]
    · rw [show updE E k v c = E ++ [⟨k, v, c⟩] by unfold updE; rw [hl]; rfl, List.map_append, List.nodup_append]
      refine ⟨h.keys, by simp, ?_⟩
      intro a ha b hb e
      obtain ⟨x, hx, rfl⟩ := List.mem_map.1 ha
      simp at hb
      exact hn x hx (e.trans hb)
    · rw [show updE E k v c = E ++ [⟨k, v, c⟩] by unfold updE; rw [hl]; rfl, List.map_append, List.nodup_append]
      refine ⟨h.borns, by simp, ?_⟩
      intro a ha b hb e
      obtain ⟨x, hx, rfl⟩ := List.mem_map.1 ha
      simp at hb
      have := h.lt x hx
      have : x.b = c := e.trans hb
      omega
    · intro x hx
      rw [show updE E k v c = E ++ [⟨k, v, c⟩] by unfold updE; rw [hl]; rfl] at hx
      rcases List.mem_append.1 hx with hx | hx
      · have := h.lt x hx; omega
      · simp at hx; subst hx; simp
  | some u =>
    obtain ⟨A, x, B, hE, hx, hv, hA, hp⟩ := pos_some (i := 0) hl
    have hu := upd_some (v := v) (u := u) (c := c) h.keys hE hx hA
    obtain ⟨g1, g2⟩ := setB_ext (o' := .map ((updE E k v c).map E3.ent).toArray c) h.heap
    refine semU_of (w' := setB w mb (.map ((updE E k v c).map E3.ent).toArray c)) ?_ (kk _ c ⟨g1, ?_, ?_, ?_⟩ g2)
    · simp only [Instr.mapUpdate, Sem.run_bind, run_underlying ht, Result.andThen_ok, MapKept.run_getObj_map h.heap, MapKept.run_checkKey hk (show IsKey (.int .i64) (.int .i64 k) from rfl)]
      rw [hf, hp]
      have hk2 : (((((E.map E3.ent).toArray)[0 + A.length]?).map (·.key)).getD (.int .i64 k)) = .int .i64 k := by
        rw [hE]; simp [E3.ent, hx]
      have hkt : (Instr.keyThatStays (.int .i64 k) (.int .i64 k)).run P w = .ok (.int .i64 k) w := by
        have : Instr.sameBits 10000 (.int .i64 k) (.int .i64 k) = true := by simp [Instr.sameBits]
        simp [Instr.keyThatStays, this]
      simp only [Result.andThen_ok, hk2, Sem.run_bind, hkt]
      rw [MapKept.run_setObj_map _ h.heap]
      have hm : ((E.map E3.ent).toArray.modify (0 + A.length) fun e => { key := .int .i64 k, val := .int .i64 v, born := e.born }) = ((updE E k v c).map E3.ent).toArray := by
        rw [hu, hE]
        apply Array.ext'
        simp only [Array.toList_modify, List.map_append, List.map_cons, Nat.zero_add]
        rw [show A.length = (A.map E3.ent).length by simp, modify_at]
        simp [E3.ent, hx]
      rw [hm]; rfl
    · rw [hu]; have := h.keys; rw [hE] at this; simpa using this
    · rw [hu]; have := h.borns; rw [hE] at this; simpa using this
    · intro y hy
      rw [hu] at hy
      have hlt := h.lt
      rw [hE] at hlt
      rcases List.mem_append.1 hy with hy | hy
      · exact hlt y (by simp [hy])
      · rcases List.mem_cons.1 hy with rfl | hy
        · exact hlt x (by simp)
        · exact hlt y (by simp [hy])
/-- A key taken away. -/
theorem delI {k : Int} {ty t2 : TypeId} {F : Value → World → Prop} (h : IMap w mb E c) (ht : P.underlying t = some (.map kt et)) (hk : P.underlying kt = some (.int .i64))
    (kk : ∀ w', IMap w' mb (delE E k) c → Ext (· = mb) w w' → F (.tuple #[]) w') : semK P (Builtin.delete_ #[t, t2] ty #[.map (some mb), .int .i64 k]) w F := by
  have hf := MapKept.run_findKey (P := P) (w := w) hk (findNow_eq k E 0)
  obtain ⟨g1, g2⟩ := setB_ext (o' := .map ((delE E k).map E3.ent).toArray c) h.heap
  have hsub : ∀ x ∈ delE E k, x ∈ E := fun x hx => (List.mem_filter.1 hx).1
  refine semK_of (w' := setB w mb (.map ((delE E k).map E3.ent).toArray c)) ?_ (kk _ ⟨g1, ?_, ?_, fun x hx => h.lt x (hsub x hx)⟩ g2)
  · simp only [Builtin.delete_, List.getElem?_toArray, List.getElem?_cons_zero, List.getElem?_cons_succ, Sem.run_bind, run_underlying ht, Result.andThen_ok, MapKept.run_getObj_map h.heap, MapKept.run_checkKey hk (show IsKey (.int .i64) (.int .i64 k) from rfl)]
    rw [hf]
    simp only [Result.andThen_ok]
    cases hl : lkE E k with
    | none =>
      rw [pos_none hl]
      simp only [Sem.run_bind]
      rw [MapKept.run_setObj_map _ h.heap, del_none hl]
      rfl
    | some u =>
      obtain ⟨A, x, B, hE, hx, hv, hA, hp⟩ := pos_some (i := 0) hl
      rw [hp]
      simp only [Sem.run_bind]
      rw [MapKept.run_setObj_map _ h.heap]
      have hm : (E.map E3.ent).toArray.eraseIdxIfInBounds (0 + A.length) = ((delE E k).map E3.ent).toArray := by
        rw [del_some h.keys hE hx hA, hE]
        apply Array.ext'
        simp only [Array.toList_eraseIdxIfInBounds, List.map_append, List.map_cons, Nat.zero_add]
        rw [show A.length = (A.map E3.ent).length by simp, erase_at]
      rw [hm]; rfl
  · exact List.Nodup.sublist ((List.filter_sublist).map _) h.keys
  · exact List.Nodup.sublist ((List.filter_sublist).map _) h.borns
/-- How many keys. -/
theorem lenI {ty : TypeId} {F : Value → World → Prop} (h : IMap w mb E c) (ht : P.underlying t = some (.map kt et)) (kk : F (.int .i64 (E.length : Int)) w) : semK P (Builtin.len_ #[t] ty #[.map (some mb)]) w F := by
  refine semK_of (w' := w) (v := .int .i64 (E.length : Int)) ?_ kk
  simp [Builtin.len_, run_underlying ht, MapKept.run_getObj_map h.heap, Result.andThen, goInt]
end
end Go.Proofs.Ytalhnoelkglgiaa.Sh
