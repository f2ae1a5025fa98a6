/- UndoForgets, walked: it returns true. No condition. -/
import Derived.Test.YtalhnoelkglgiaaV6
import Derived.Test.YtalhnoelkglgiaaV8
namespace Go.Proofs.Ytalhnoelkglgiaa.W
open Go Go.Proofs.Ytalhnoelkglgiaa.Sh Go.RowKit
set_option linter.unusedVariables false
set_option linter.unusedSimpArgs false
set_option maxRecDepth 100000
variable {w w' w0 : World} {K : Value → World → Prop} {Z Z1 Z2 F G : Nat → Prop} {tb N : Nat} {s : Hist}
/-- No mark: no changes kept; the first mark kept none. -/
def Zero (s : Hist) : Prop := (s.ms = [] → s.B = []) ∧ ∀ n, s.ms[0]? = some n → n = 0
theorem Zero.put {s : Hist} (h : Zero s) (M' : Int → Option Int) (k : Int) : Zero ⟨M', s.noted k, s.ms⟩ := by
  refine ⟨fun hm => ?_, h.2⟩
  have hm : s.ms = [] := hm
  show s.noted k = []
  unfold Hist.noted; rw [if_pos hm]; exact h.1 hm
theorem Zero.mark {s : Hist} (h : Zero s) : Zero s.mark := by
  refine ⟨fun hm => ?_, fun n hn => ?_⟩
  · have hm : s.ms ++ [s.B.length] = [] := hm
    simp at hm
  · have hn : (s.ms ++ [s.B.length])[0]? = some n := hn
    by_cases hm : s.ms = []
    · rw [hm, h.1 hm] at hn; simp at hn; omega
    · rw [List.getElem?_append_left (List.length_pos_iff.2 hm)] at hn; exact h.2 n hn
theorem Zero.back {s : Hist} (h : Zero s) (a : Nat) : Zero (s.back a) := by
  unfold Hist.back
  cases hn : s.ms[a]? with
  | none => exact h
  | some n =>
    refine ⟨fun hm => ?_, fun n' hn' => ?_⟩
    · have hm : s.ms.take a = [] := hm
      show s.B.take n = []
      rcases List.take_eq_nil_iff.1 hm with h0 | h0
      · subst h0; rw [h.2 n hn]; rfl
      · rw [h0] at hn; simp at hn
    · have hn' : (s.ms.take a)[0]? = some n' := hn'
      rw [List.getElem?_take] at hn'
      split at hn'
      · exact h.2 n' hn'
      · cases hn'
theorem Zero.forget {s : Hist} (h : Zero s) (a : Nat) : Zero (s.forget a) := by
  unfold Hist.forget
  split
  · rename_i ha
    refine ⟨fun hm => ?_, fun n' hn' => ?_⟩
    · have hm : s.ms.take a = [] := hm
      show (if a = 0 then [] else s.B) = []
      by_cases h0 : a = 0
      · rw [if_pos h0]
      · exfalso
        rcases List.take_eq_nil_iff.1 hm with h1 | h1
        · exact h0 h1
        · rw [h1] at ha; simp at ha
    · have hn' : (s.ms.take a)[0]? = some n' := hn'
      rw [List.getElem?_take] at hn'
      split at hn'
      · exact h.2 n' hn'
      · cases hn'
  · exact h
theorem Zero.op {s : Hist} (h : Zero s) (o : OpV) : Zero (s.op o) := by
  unfold Hist.op Hist.step
  split
  · exact h.put _ _
  split
  · unfold Hist.del; split
    · exact h
    · exact h.put _ _
  split
  · exact h.mark
  split
  · split
    · exact h
    · exact h.back _
  split
  · split
    · exact h
    · exact h.forget _
  · exact h
/-- t came from s by a mark and sets and deletes and marks, u from s by the same sets and deletes. -/
structure Side2 (s t u : Hist) : Prop where
  k : Keep s t
  M : t.M = u.M
  ms : u.ms = s.ms
  B : s.ms ≠ [] → t.B = u.B
  B0 : s.ms = [] → u.B = s.B
theorem side_start (s : Hist) : Side2 s s.mark s := ⟨keep_mark s, rfl, rfl, fun _ => rfl, fun _ => rfl⟩
theorem noted_ne {s : Hist} (h : s.ms ≠ []) (k : Int) : s.noted k = s.B ++ [invM s.M k] := by unfold Hist.noted; rw [if_neg h]
theorem noted_no {s : Hist} (h : s.ms = []) (k : Int) : s.noted k = s.B := by unfold Hist.noted; rw [if_pos h]
theorem Side2.put {s t u : Hist} (h : Side2 s t u) (k v : Int) : Side2 s (t.set k v) (u.set k v) := by
  refine ⟨h.k.set k v, ?_, h.ms, fun hm => ?_, fun hm => ?_⟩
  · show (fun j => if j = k then some v else t.M j) = (fun j => if j = k then some v else u.M j)
    rw [h.M]
  · show t.noted k = u.noted k
    rw [noted_ne h.k.ne, noted_ne (by rw [h.ms]; exact hm), h.B hm, h.M]
  · show u.noted k = s.B
    rw [noted_no (by rw [h.ms]; exact hm)]; exact h.B0 hm
theorem Side2.del {s t u : Hist} (h : Side2 s t u) (k : Int) : Side2 s (t.del k) (u.del k) := by
  have hk := h.k.del k
  by_cases hn : u.M k = none
  · have e1 : t.del k = t := by unfold Hist.del; rw [if_pos (by rw [h.M]; exact hn)]
    have e2 : u.del k = u := by unfold Hist.del; rw [if_pos hn]
    rw [e1, e2]; exact h
  · have e1 : t.del k = ⟨fun j => if j = k then none else t.M j, t.noted k, t.ms⟩ := by unfold Hist.del; rw [if_neg (by rw [h.M]; exact hn)]
    have e2 : u.del k = ⟨fun j => if j = k then none else u.M j, u.noted k, u.ms⟩ := by unfold Hist.del; rw [if_neg hn]
    rw [e1] at hk
    rw [e1, e2]
    refine ⟨hk, ?_, h.ms, fun hm => ?_, fun hm => ?_⟩
    · show (fun j => if j = k then none else t.M j) = (fun j => if j = k then none else u.M j)
      rw [h.M]
    · show t.noted k = u.noted k
      rw [noted_ne h.k.ne, noted_ne (by rw [h.ms]; exact hm), h.B hm, h.M]
    · show u.noted k = s.B
      rw [noted_no (by rw [h.ms]; exact hm)]; exact h.B0 hm
theorem Side2.mark {s t u : Hist} (h : Side2 s t u) : Side2 s t.mark u := ⟨h.k.mark, h.M, h.ms, h.B, h.B0⟩
/-- The mark forgotten: no difference is left. -/
theorem Side2.gone {s t u : Hist} (h : Side2 s t u) (hz : Zero s) : t.forget s.ms.length = u := by
  have hlt : s.ms.length < t.ms.length := (List.getElem?_eq_some_iff.1 h.k.at_).1
  unfold Hist.forget
  rw [if_pos hlt, h.k.ms, h.M, ← h.ms]
  have : (if u.ms.length = 0 then [] else t.B) = u.B := by
    by_cases hm : s.ms = []
    · rw [if_pos (by rw [h.ms, hm]; rfl), h.B0 hm, hz.1 hm]
    · rw [if_neg (by rw [h.ms]; exact fun h => hm (List.length_eq_zero_iff.1 h)), h.B hm]
  rw [this]
theorem Tb.keys (h : Tb w Z tb s N) : ∃ ks, Once s.M ks := by
  obtain ⟨F, h⟩ := h
  have ht := h.t
  obtain ⟨E, h1, h2, _⟩ := h.t
  exact ⟨_, tPerm ht h1 h2 (List.Perm.refl _)⟩

theorem undoForgets {p1 p2 p3 : Option Addr} {c1 c2 c3 : Nat} {o1 o2 o3 : List OpV} (hs1 : Script w p1 c1 o1) (hs2 : Script w p2 c2 o2) (hs3 : Script w p3 c3 o3) (kk : ∀ w', Bl w w' → K (.bool true) w') :
    CallV Try.prog 4 #[.slice p1 o1.length c1, .slice p2 o2.length c2, .slice p3 o3.length c3] w K := by
  refine call4 _ _ _ _ _ _ _ _ _ w K ?_
  unfold F4
  refine ifD (fun _ => kk w (Bl.refl w)) fun hm1 => ifD (fun _ => kk w (Bl.refl w)) fun hm2 => ifD (fun _ => kk w (Bl.refl w)) fun hm3 => ?_
  unfold J4_0
  refine tNew fun w1 tb ht b1 => asP_of (twoNew ht fun w2 ub h2 b2 => asP_of (ifB_f rfl (ifB_f rfl ?_)))
  have h2 := h2.swap
  have b02 := b1.trans b2
  have zb : ∀ x, x < w.heap.size → x < w.heap.size := fun x hx => hx
  -- at the end
  have fin : ∀ (w' : World) (s : Hist) (N : Nat), N < 100000000 → Bl w w' → Two w' (fun x => x < w.heap.size) tb ub s s N N → J4_11 K (some ⟨tb, 0, none⟩) (some ⟨ub, 0, none⟩) w' := by
    intro w' s N hN b h
    unfold J4_11
    refine tSeen h.swap.one (by omega) fun w3 q1 d1 q2 d2 ks hv hkl b3 => g2l (tTells (h.one.bl b3) (by omega) rfl hv (by omega) fun w4 b4 => asB_of (ifB_t rfl ?_))
    have h4 := h.bl (b3.trans b4)
    refine tSeen h4.one (by omega) fun w5 q3 d3 q4 d4 ls hv5 hl5 b5 => g2l (tTells (h4.swap.one.bl b5) (by omega) rfl hv5 (by omega) fun w6 b6 => asB_of (ifB_t rfl (awake fun w7 b7 => asB_of (kk w7 ?_))))
    exact ((b.trans (b3.trans b4)).trans (b5.trans b6)).trans b7
  -- behind
  have behind : ∀ (m i : Nat) (w' : World) (s : Hist) (N : Nat), i + m = o3.length → N + m < 100000000 → Bl w w' → Two w' (fun x => x < w.heap.size) tb ub s s N N → L4_12 K (m + 1) p3 o3.length c3 (some ⟨tb, 0, none⟩) (some ⟨ub, 0, none⟩) (i : Int) w' := by
    intro m
    induction m with
    | zero =>
      intro i w' s N hi hN b h
      simp only [L4_12]
      exact ifD (fun h => by omega) fun _ => fin w' s N hN b h
    | succ m ih =>
      intro i w' s N hi hN b h
      rw [L4_12]
      simp only []
      have hlt : i < o3.length := by omega
      refine ifD (fun _ => ?_) fun h => by omega
      rw [i1w i (by omega)]
      obtain ⟨ZZ, ht, hon⟩ := h.on
      refine doAt (hs3.bl b) hlt ht (by omega) fun w3 ht3 e3 => ?_
      obtain ⟨h3, e3'⟩ := hon w3 _ _ ht3 e3
      have b3 := blNZ b e3' zb
      obtain ⟨ZY, hu, hon2⟩ := h3.swap.on
      refine doAt (hs3.bl b3) hlt hu (by omega) fun w4 hu4 e4 => ?_
      obtain ⟨h4, e4'⟩ := hon2 w4 _ _ hu4 e4
      have b4 := blNZ b3 e4' zb
      have h4 := h4.swap
      obtain ⟨ks, hks⟩ := h4.one.keys
      refine tMarks h4.one (asI_of (tMarks h4.swap.one (asI_of (ifB_f (by simp) (tLenN h4.one hks.1 hks.2 (asI_of (tLenN h4.swap.one hks.1 hks.2 (asI_of (ifB_f (by simp) ?_)))))))))
      exact ih (i + 1) w4 _ _ (by omega) (by omega) b4 h4
  -- between
  have between : ∀ (s : Hist), Zero s → ∀ (m i : Nat) (w' : World) (t u : Hist) (N : Nat), i + m = o2.length → N + m < 10000 → Bl w w' → Two w' (fun x => x < w.heap.size) tb ub t u N N → Side2 s t u → L4_5 K (m + 1) p2 o2.length c2 p3 o3.length c3 (some ⟨tb, 0, none⟩) (some ⟨ub, 0, none⟩) (s.ms.length : Int) (i : Int) w' := by
    intro s hz m
    induction m with
    | zero =>
      intro i w' t u N hi hN b h hsd
      simp only [L4_5]
      refine ifD (fun h => by omega) fun _ => ?_
      unfold J4_4
      have hlt : s.ms.length < t.ms.length := (List.getElem?_eq_some_iff.1 hsd.k.at_).1
      obtain ⟨ZZ, ht, hon⟩ := h.on
      refine tForget ht hlt fun w3 ht3 e3 => asI_of (ifB_f rfl ?_)
      rw [hsd.gone hz] at ht3
      obtain ⟨h3, e3'⟩ := hon w3 _ _ ht3 e3
      have b3 := blNZ b e3' zb
      refine tMarks h3.one (asI_of (ifB_f (by rw [hsd.ms]; simp) (tMarks h3.swap.one (asI_of (ifB_f (by rw [hsd.ms]; simp) (tForgetNot h3.one (by rw [hsd.ms]; exact Nat.le_refl _) (asI_of ?_)))))))
      unfold J4_10
      refine ifB_f rfl ?_
      unfold J4_9
      exact ⟨o3.length + 1, behind o3.length 0 w3 u N (by omega) (by omega) b3 h3⟩
    | succ m ih =>
      intro i w' t u N hi hN b h hsd
      rw [L4_5]
      simp only []
      have hlt : i < o2.length := by omega
      refine ifD (fun _ => ?_) fun h => by omega
      refine opAt (Q := fun ad1 w1 => ldK Try.prog w1 ad1 fun v2 => _) (hs2.bl b) hlt fun a g0 g1 g2 g3 => ?_
      refine ldI g0 (ld g1 (asB_of (ldI g2 (ldI g3 ?_))))
      refine alO fun wa oa ba sa => stAll (b := w'.heap.size) (vs := #[.int .i64 o2[i].kind, .bool o2[i].two, .int .i64 o2[i].k, .int .i64 o2[i].v]) oa (by kernel_rfl) rfl (by kernel_rfl) fun wb ob eb => ?_
      have bab : Bl w' wb := ((Ext.of_bl (S := fun x => x = w'.heap.size) ba).trans eb fun _ _ h => h).bl fun x hx e => by omega
      have b2 := b.trans bab
      have hb := h.bl bab
      have hq : w.heap.size ≤ w'.heap.size := b.size
      have hqlt : w'.heap.size < wb.heap.size := ob.lt
      -- the copy's block is among those that stay
      have hb' : Two wb (fun x => x < w.heap.size ∨ x = w'.heap.size) tb ub t u N N := by
        obtain ⟨F, G, g1, g2⟩ := h
        obtain ⟨F', G', k1, k2⟩ := hb
        have e1 : ∀ F G : Nat → Prop, True := fun _ _ => trivial
        refine ⟨F, G, ?_, ?_⟩
        · have := g1.ext (S := None') (Ext.of_bl bab) fun _ _ h => h
          refine ⟨this.t, fun x hx => ⟨fun hh => ?_, (this.lF x hx).2⟩, fun x hx => ?_⟩
          · rcases hh with (hh | hh) | hh
            · exact (g1.lF x hx).1 (.inl hh)
            · have := (g1.lF x hx).2; omega
            · exact (g1.lF x hx).1 (.inr hh)
          · rcases hx with (hx | hx) | hx
            · exact this.lZ x (.inl hx)
            · omega
            · exact this.lZ x (.inr hx)
        · have := g2.ext (S := None') (Ext.of_bl bab) fun _ _ h => h
          refine ⟨this.t, fun x hx => ⟨fun hh => ?_, (this.lF x hx).2⟩, fun x hx => ?_⟩
          · rcases hh with (hh | hh) | hh
            · exact (g2.lF x hx).1 (.inl hh)
            · have := (g2.lF x hx).2; omega
            · exact (g2.lF x hx).1 (.inr hh)
          · rcases hx with (hx | hx) | hx
            · exact this.lZ x (.inl hx)
            · omega
            · exact this.lZ x (.inr hx)
      have less : ∀ (w : World) (w0 : World) (q : Nat) (t u : Hist) (N : Nat), Two w (fun x => x < w0.heap.size ∨ x = q) tb ub t u N N → Two w (fun x => x < w0.heap.size) tb ub t u N N := by
        intro w w0 q t u N ⟨F, G, g1, g2⟩
        refine ⟨F, G, ⟨g1.t, fun x hx => ⟨fun hh => (g1.lF x hx).1 (hh.imp .inl id), (g1.lF x hx).2⟩, fun x hx => g1.lZ x (hx.imp .inl id)⟩, ⟨g2.t, fun x hx => ⟨fun hh => (g2.lF x hx).1 (hh.imp .inl id), (g2.lF x hx).2⟩, fun x hx => g2.lZ x (hx.imp .inl id)⟩⟩
      have next : ∀ (w3 : World) (t u : Hist), Bl w w3 → Two w3 (fun x => x < w.heap.size ∨ x = w'.heap.size) tb ub t u (N + 1) (N + 1) → Side2 s t u → J4_6 K (L4_5 K (m + 1)) p2 o2.length c2 p3 o3.length c3 (some ⟨tb, 0, none⟩) (some ⟨ub, 0, none⟩) (s.ms.length : Int) (i : Int) w3 := by
        intro w3 t u b3 h3 hsd3
        unfold J4_6
        rw [i1w i (by omega)]
        exact ih (i + 1) w3 t u (N + 1) (by omega) (by omega) b3 (less _ _ _ _ _ _ h3) hsd3
      have zq : ∀ x, x < w.heap.size → x < w.heap.size ∨ x = w'.heap.size := fun x hx => .inl hx
      generalize w'.heap.size = qa at ob hb' next zq
      -- the mark
      have mk : ∀ (w3 : World) (t u : Hist), (o2[i].kind = 1 ∨ o2[i].kind = 2 → Two w3 (fun x => x < w.heap.size ∨ x = qa) tb ub t u (N + 1) (N + 1)) → (¬ (o2[i].kind = 1 ∨ o2[i].kind = 2) → Two w3 (fun x => x < w.heap.size ∨ x = qa) tb ub t u N N) → Own w3 qa #[.int .i64 o2[i].kind, .bool o2[i].two, .int .i64 o2[i].k, .int .i64 o2[i].v] 27 → Bl w w3 → Side2 s t u →
          J4_7 K (L4_5 K (m + 1)) p2 o2.length c2 p3 o3.length c3 (some ⟨tb, 0, none⟩) (some ⟨ub, 0, none⟩) (s.ms.length : Int) (i : Int) ⟨qa, 0, none⟩ w3 := by
        intro w3 t u h3 h3' o3 b3 hsd3
        unfold J4_7
        refine ldO (i := 0) o3 rfl (asI_of (ifE (fun hk3 => ?_) fun hk3 => ?_))
        · obtain ⟨ZZ, ht, hon⟩ := (h3' (by omega)).on
          refine tMark ht (by omega) fun w4 ht4 e4 => asI_of ?_
          obtain ⟨h4, e4'⟩ := hon w4 _ _ ht4 e4
          exact next w4 t.mark u (blNZ b3 e4' zq) (h4.mono (Nat.le_refl _) (by omega)) hsd3.mark
        · by_cases hk : o2[i].kind = 1 ∨ o2[i].kind = 2
          · exact next w3 t u b3 (h3 hk) hsd3
          · exact next w3 t u b3 ((h3' hk).mono (by omega) (by omega)) hsd3
      have both : o2[i].kind = 1 ∨ o2[i].kind = 2 → J4_8 K (L4_5 K (m + 1)) p2 o2.length c2 p3 o3.length c3 (some ⟨tb, 0, none⟩) (some ⟨ub, 0, none⟩) (s.ms.length : Int) (i : Int) ⟨qa, 0, none⟩ true wb := by
        intro hk
        unfold J4_8
        refine ifB_t rfl ?_
        obtain ⟨ZZ, ht, hon⟩ := hb'.on
        refine ldO (i := 0) ob rfl (asI_of (ldO (i := 1) ob rfl (asB_of (ldO (i := 2) ob rfl (asI_of (ldO (i := 3) ob rfl (asI_of (tOp (o := o2[i]) ht (by omega) fun w3 ht3 e3 => t0 ?_))))))))
        obtain ⟨h3, e3'⟩ := hon w3 _ _ ht3 e3
        have o3 := ob.ext e3' fun h => h (.inr rfl)
        have b3 := blNZ b2 e3' zq
        obtain ⟨ZY, hu, hon2⟩ := h3.swap.on
        refine ldO (i := 0) o3 rfl (asI_of (ldO (i := 1) o3 rfl (asB_of (ldO (i := 2) o3 rfl (asI_of (ldO (i := 3) o3 rfl (asI_of (tOp (o := o2[i]) hu (by omega) fun w4 hu4 e4 => t0 ?_))))))))
        obtain ⟨h4, e4'⟩ := hon2 w4 _ _ hu4 e4
        have h4 := h4.swap
        refine mk w4 _ _ (fun _ => h4) (fun hn => absurd hk hn) (o3.ext e4' fun h => h (.inr rfl)) (blNZ b3 e4' zq) ?_
        rcases hk with hk | hk
        · have e : ∀ q : Hist, q.op o2[i] = q.set o2[i].k o2[i].v := fun q => by unfold Hist.op Hist.step; rw [if_pos hk]
          rw [e, e]; exact hsd.put _ _
        · have e : ∀ q : Hist, q.op o2[i] = q.del o2[i].k := fun q => by unfold Hist.op Hist.step; rw [if_neg (by omega), if_pos hk]
          rw [e, e]; exact hsd.del _
      have none_ : ¬ (o2[i].kind = 1 ∨ o2[i].kind = 2) → J4_8 K (L4_5 K (m + 1)) p2 o2.length c2 p3 o3.length c3 (some ⟨tb, 0, none⟩) (some ⟨ub, 0, none⟩) (s.ms.length : Int) (i : Int) ⟨qa, 0, none⟩ false wb := by
        intro hk
        unfold J4_8
        exact ifB_f rfl (mk wb t u (fun h => absurd h hk) (fun _ => hb') ob b2 hsd)
      refine ldO (i := 0) ob rfl (asI_of (ifE (fun h1 => both (.inl h1)) fun h1 => ldO (i := 0) ob rfl (asI_of ?_)))
      by_cases h2 : o2[i].kind = 2
      · rw [show (o2[i].kind == 2) = true by simp [h2]]; exact both (.inr h2)
      · rw [show (o2[i].kind == 2) = false by simp [h2]]; exact none_ (by omega)
  -- ahead
  unfold J4_1
  have ahead : ∀ (m i : Nat) (w' : World), i + m = o1.length → Bl w w' → Two w' (fun x => x < w.heap.size) tb ub (h0.ops (o1.take i)) (h0.ops (o1.take i)) i i → Zero (h0.ops (o1.take i)) →
      L4_3 K (m + 1) p1 o1.length c1 p2 o2.length c2 p3 o3.length c3 (some ⟨tb, 0, none⟩) (some ⟨ub, 0, none⟩) (i : Int) w' := by
    intro m
    induction m with
    | zero =>
      intro i w' hi b h hz
      simp only [L4_3]
      refine ifD (fun h => by omega) fun _ => ?_
      unfold J4_2
      obtain ⟨ZZ, ht, hon⟩ := h.on
      refine tMark ht (by omega) fun w3 ht3 e3 => asI_of ?_
      obtain ⟨h3, e3'⟩ := hon w3 _ _ ht3 e3
      exact ⟨o2.length + 1, between _ hz o2.length 0 w3 _ _ (i + 1) (by omega) (by omega) (blNZ b e3' zb) (h3.mono (Nat.le_refl _) (by omega)) (side_start _)⟩
    | succ m ih =>
      intro i w' hi b h hz
      rw [L4_3]
      simp only []
      have hlt : i < o1.length := by omega
      refine ifD (fun _ => ?_) fun h => by omega
      rw [i1w i (by omega)]
      obtain ⟨ZZ, ht, hon⟩ := h.on
      refine doAt (hs1.bl b) hlt ht (by omega) fun w3 ht3 e3 => ?_
      obtain ⟨h3, e3'⟩ := hon w3 _ _ ht3 e3
      have b3 := blNZ b e3' zb
      obtain ⟨ZY, hu, hon2⟩ := h3.swap.on
      refine doAt (hs1.bl b3) hlt hu (by omega) fun w4 hu4 e4 => ?_
      obtain ⟨h4, e4'⟩ := hon2 w4 _ _ hu4 e4
      refine ih (i + 1) w4 (by omega) (blNZ b3 e4' zb) ?_ ?_
      · rw [ops_take _ _ hlt]; exact h4.swap
      · rw [ops_take _ _ hlt]; exact hz.op _
  exact ⟨o1.length + 1, ahead o1.length 0 w2 (by omega) b02 h2 ⟨fun _ => rfl, fun n hn => by cases hn⟩⟩
theorem undoForgets_walk (p1 : Option Addr) (o1 : List OpV) (c1 : Nat) (p2 : Option Addr) (o2 : List OpV) (c2 : Nat) (p3 : Option Addr) (o3 : List OpV) (c3 : Nat) (W : World) (h1 : Script W p1 c1 o1) (h2 : Script W p2 c2 o2) (h3 : Script W p3 c3 o3) : Walk 4 #[.slice p1 o1.length c1, .slice p2 o2.length c2, .slice p3 o3.length c3] W :=
  walk_of (undoForgets h1 h2 h3 fun _ hb => ⟨rfl, hb⟩)
end Go.Proofs.Ytalhnoelkglgiaa.W
