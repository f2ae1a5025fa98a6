/- UndoWithin: the loops over All, one within the other. No condition. -/
import Derived.Test.YtalhnoelkglgiaaVB
namespace Go.Proofs.Ytalhnoelkglgiaa.W
open Go Go.Proofs.Ytalhnoelkglgiaa.Sh Go.RowKit
set_option linter.unusedVariables false
set_option linter.unusedSimpArgs false
set_option maxRecDepth 100000
variable {w w' w0 : World} {K : Value → World → Prop} {Z F G : Nat → Prop} {N : Nat} {s : Hist}
def At (w : World) (b : Nat) (o : Obj) : Prop := w.heap[b]? = some o
theorem At.lt {b : Nat} {o : Obj} (h : At w b o) : b < w.heap.size := by
  by_cases hb : b < w.heap.size
  · exact hb
  · unfold At at h; rw [Array.getElem?_eq_none (Nat.le_of_not_lt hb)] at h; cases h
theorem At.ext {S : Nat → Prop} {b : Nat} {o : Obj} (h : At w b o) (e : Ext S w w') (hs : ¬ S b) : At w' b o := (e.block b h.lt hs).trans h
theorem At.bl {b : Nat} {o : Obj} (h : At w b o) (e : Bl w w') : At w' b o := h.ext (S := None') (Ext.of_bl e) fun h => h
theorem At.put {b : Nat} {o o' : Obj} (h : At w b o) : At (w.putObj b o') b o' ∧ Ext (· = b) w (w.putObj b o') :=
  ⟨World.putObj_heap_same h.lt, rfl, rfl, rfl, by simp [World.putObj], fun k hk hb => World.putObj_heap_other hb⟩
theorem all1 {Y : Value} {ks vs : List Int} {x5 x6 g1 g2 c1 c2 : Nat} {S : Nat → Prop} (Inv : Nat → World → Prop) (Stop : World → Prop) (hvl : vs.length = ks.length) (hn : ks.length < 4000000) (hm : ∀ i w, Inv i w → AllAt w S x5 x6 g1 g2 c1 c2 ks vs)
    (hy : ∀ i (hi : i < ks.length) w, Inv i w → callVal Try.prog Y #[.int .i64 ks[i], .int .i64 (vs[i]'(by omega))] w fun v w' => (v = .bool true ∧ Inv (i + 1) w') ∨ (v = .bool false ∧ Stop w'))
    (h0 : Inv 0 w) (kk : ∀ v w', (Inv ks.length w' ∨ Stop w') → K v w') : CallV Try.prog 34 #[Y, .pointer (some ⟨x5, 0, none⟩), .pointer (some ⟨x6, 0, none⟩)] w K := by
  refine call34 _ _ _ w K ?_
  unfold F34
  refine ldO (i := 0) (hm 0 w h0).o5 rfl (asL_of ⟨ks.length + 1, ?_⟩)
  have loop : ∀ (m i : Nat) (w : World), i + m = ks.length → Inv i w → L34_0 K (m + 1) Y ⟨x6, 0, none⟩ (some ⟨g1, 0, none⟩) ks.length c1 (ks.length : Int) (i : Int) w := by
    intro m
    induction m with
    | zero =>
      intro i w hi h
      simp only [L34_0]
      have : i = ks.length := by omega
      subst this
      exact ifD (fun h => by omega) fun _ => kk _ w (.inl h)
    | succ m ih =>
      intro i w hi h
      rw [L34_0]
      simp only []
      have hlt : i < ks.length := by omega
      have ha := hm i w h
      have hv : (ints vs)[i]? = some (.int .i64 (vs[i]'(by omega))) := ints_at (by omega)
      refine ifD (fun _ => rowAtF ha.r1 (ints_at hlt) (ldO (i := 0) ha.o6 rfl (asL_of (rowAtF ha.r2 hv (callVal_mono (fun v w' hq => ?_) (hy i hlt w h)))))) fun h => by omega
      rcases hq with ⟨rfl, hq⟩ | ⟨rfl, hq⟩
      · refine asB_of (ifB_f rfl ?_)
        rw [i1w i (by omega)]
        exact ih (i + 1) w' (by omega) hq
      · exact asB_of (ifB_t rfl (kk _ w' (.inr hq)))
  exact loop ks.length 0 w (by omega) h0
theorem enter34 {Y p5 p6 : Value} (h : CallV Try.prog 34 #[Y, p5, p6] w K) : enterV Try.prog (.func (.func 34) #[] #[p5, p6]) #[Y] w K := by
  refine ⟨34, #[Y, p5, p6], w, ?_, h⟩
  simp [invoke, go_sem, eg34]

/-- What does not change in the loops, and where it lies (V). -/
structure Cfg where
  (tb b4 b5 b6 b7 b9 b10 x5 x6 g1 g2 k1 k2 : Nat)
  p2 : Option Addr
  c2 : Nat
  o2 : List OpV
  stop : Int
  (q1 q2 : Option Addr)
  (d1 d2 : Nat)
  ks : List Int
  M : Int → Option Int
  V : Nat → Prop
structure Stat (C : Cfg) (w : World) : Prop where
  o4 : Own w C.b4 #[.slice C.p2 C.o2.length C.c2] 22
  o5 : Own w C.b5 #[.int .i64 C.stop] 3
  o6 : ∃ b, Own w C.b6 #[.bool b] 4
  o7 : Own w C.b7 #[.pointer (some ⟨C.tb, 0, none⟩)] 23
  o9 : Own w C.b9 #[.slice C.q1 C.ks.length C.d1, .slice C.q2 C.ks.length C.d2] 31
  view : View w C.V C.M C.ks C.q1 C.q2 C.d1 C.d2
  o10 : Own w C.b10 #[.func (.func 34) #[] #[.pointer (some ⟨C.x5, 0, none⟩), .pointer (some ⟨C.x6, 0, none⟩)]] 52
  all : AllAt w C.V C.x5 C.x6 C.g1 C.g2 C.k1 C.k2 C.ks (valsOf C.M C.ks)
  sc : Script w C.p2 C.c2 C.o2
  vb : C.V C.b4 ∧ C.V C.b5 ∧ C.V C.b6 ∧ C.V C.b7 ∧ C.V C.b9 ∧ C.V C.b10
  vs : 0 < C.o2.length → ∀ a, C.p2 = some a → C.V a.block
  kl : C.ks.length < 1000000
  ol : C.o2.length ≤ 2048
theorem Stat.ext {C : Cfg} {T : Nat → Prop} (h : Stat C w) (e : Ext T w w') (hs : ∀ x, C.V x → ¬ T x) : Stat C w' := by
  obtain ⟨v1, v2, v3, v4, v5, v6⟩ := h.vb
  obtain ⟨b, h6⟩ := h.o6
  refine ⟨h.o4.ext e (hs _ v1), h.o5.ext e (hs _ v2), ⟨b, h6.ext e (hs _ v3)⟩, h.o7.ext e (hs _ v4), h.o9.ext e (hs _ v5), h.view.ext e hs, h.o10.ext e (hs _ v6), h.all.ext e hs, ?_, h.vb, h.vs, h.kl, h.ol⟩
  by_cases ho : 0 < C.o2.length
  · exact Sees.ext h.sc e fun a ha => hs _ (h.vs ho a ha)
  · have : C.o2 = [] := List.length_eq_zero_iff.1 (by omega)
    have hsc := h.sc
    unfold Script at hsc ⊢
    rw [this] at hsc ⊢
    exact ⟨hsc.len, hsc.le, fun j u hj => by simp [opCells] at hj⟩
structure Wst (C : Cfg) (w0 w : World) (Z : Nat → Prop) (s : Hist) (N : Nat) : Prop where
  st : Stat C w
  tb : Tb w Z C.tb s N
  vz : ∀ x, C.V x → Z x
  zb : ∀ x, x < w0.heap.size → C.V x
  bl : Bl w0 w
section
variable {C : Cfg}
theorem Wst.ext {T : Nat → Prop} (h : Wst C w0 w Z s N) (e : Ext T w w') (hT : ∀ x, x < w.heap.size → T x → Z x ∧ ¬ C.V x) : Wst C w0 w' Z s N := by
  have e' : Ext (fun x => Z x ∧ ¬ C.V x) w w' := e.mono hT
  exact ⟨h.st.ext e' fun x hv hT => hT.2 hv, h.tb.ext e' fun x hx => .inl hx.1, h.vz, h.zb, ((Ext.of_bl (S := fun x => ¬ C.V x) h.bl).trans e' fun x _ hx => hx.2).bl fun x hx hv => hv (h.zb x hx)⟩
theorem Wst.b (h : Wst C w0 w Z s N) (b : Bl w w') : Wst C w0 w' Z s N := h.ext (T := None') (Ext.of_bl b) fun _ _ h => h.elim
theorem Wst.grow (h : Wst C w0 w Z s N) (b : Bl w w') : Wst C w0 w' (fun x => Z x ∨ (w.heap.size ≤ x ∧ x < w'.heap.size)) s N :=
  ⟨(h.b b).st, h.tb.wide b fun x hx => hx, fun x hx => .inl (h.vz x hx), h.zb, (h.b b).bl⟩
theorem Wst.op {s' : Hist} {N' : Nat} (h : Wst C w0 w Z s N) (ht : Tb w' Z C.tb s' N') (e : Ext (fun x => ¬ Z x) w w') : Wst C w0 w' Z s' N' :=
  ⟨h.st.ext e fun x hv hn => hn (h.vz x hv), ht, h.vz, h.zb, blNZ h.bl e fun x hx => h.vz x (h.zb x hx)⟩
/-- A block of the loops' own. -/
def Dy (C : Cfg) (Z : Nat → Prop) (b : Nat) : Prop := Z b ∧ ¬ C.V b
theorem vals_get {M : Int → Option Int} {ks : List Int} {i : Nat} (h : i < ks.length) : (valsOf M ks)[i]'(by simpa [valsOf] using h) = (M ks[i]).getD 0 := by simp [valsOf]
/-- The inner loop. -/
theorem inner {wi : World} {l2 x12 x15 n : Nat} {r2 : Loop} (h : Wst C w0 wi Z s N) (dl : Dy C Z l2) (dx : Dy C Z x15) (ne1 : x12 ≠ l2) (ne2 : x12 ≠ x15) (ne3 : x15 ≠ l2) (a12 : Own wi x12 #[.int .i64 (n : Int)] 3) (a15 : Own wi x15 #[.int .i64 0] 3) (al : At wi l2 (loopObj r2 .ready none)) (hn : n < 1000000)
    (hy : ∀ (args : List Value) (wy : World) (F : Value → World → Prop), B9_12 F l2 r2 ⟨C.b9, 0, none⟩ ⟨x12, 0, none⟩ ⟨x15, 0, none⟩ args wy → callVal Try.prog (.func (.yield l2) #[] #[]) args.toArray wy F)
    (kk : ∀ v w', Ext (fun x => x = l2 ∨ x = x15) wi w' → ((At w' l2 (loopObj r2 .ready none) ∧ Own w' x15 #[.int .i64 (C.ks.length : Int)] 3) ∨ (2 < n ∧ At w' l2 (loopObj r2 .done (some (.exit 6))) ∧ ∃ m : Int, Own w' x15 #[.int .i64 m] 3)) → K v w') :
    enterV Try.prog (.func (.func 34) #[] #[.pointer (some ⟨C.x5, 0, none⟩), .pointer (some ⟨C.x6, 0, none⟩)]) #[.func (.yield l2) #[] #[]] wi K := by
  have hkl := h.st.kl
  have hvl : (valsOf C.M C.ks).length = C.ks.length := by simp [valsOf]
  have hT : ∀ x, x = l2 ∨ x = x15 → ¬ C.V x := by rintro x (rfl | rfl); exact dl.2; exact dx.2
  refine enter34 (all1 (ks := C.ks) (vs := valsOf C.M C.ks) (fun i w' => Ext (fun x => x = l2 ∨ x = x15) wi w' ∧ Own w' x15 #[.int .i64 (i : Int)] 3 ∧ At w' l2 (loopObj r2 .ready none)) (fun w' => Ext (fun x => x = l2 ∨ x = x15) wi w' ∧ 2 < n ∧ At w' l2 (loopObj r2 .done (some (.exit 6))) ∧ ∃ m : Int, Own w' x15 #[.int .i64 m] 3)
    hvl (by omega) (fun i w' hI => h.st.all.ext hI.1 fun x hv hx => hT x hx hv) (fun i hi w' hI => ?_) ⟨Ext.refl _, a15, al⟩ fun v w' hq => ?_)
  · obtain ⟨e, o15, hl⟩ := hI
    refine hy [.int .i64 C.ks[i], .int .i64 ((valsOf C.M C.ks)[i]'(by omega))] w' _ ?_
    unfold B9_12
    refine ⟨hl, show readyA _ _ _ _ from ⟨hl, ?_⟩⟩
    unfold putK
    obtain ⟨hl1, e1⟩ := hl.put (o' := loopObj r2 .busy none)
    have e01 := e.trans e1 fun x _ hx => .inl hx
    have st1 : Stat C (w'.putObj l2 (loopObj r2 .busy none)) := h.st.ext e01 fun x hv hx => hT x hx hv
    have o15' := o15.ext e1 ne3
    have o12' : Own (w'.putObj l2 (loopObj r2 .busy none)) x12 _ 3 := a12.ext e01 fun hx => hx.elim ne1 ne2
    generalize w'.putObj l2 (loopObj r2 .busy none) = w1 at hl1 e1 e01 st1 o15' o12'
    refine ldO (i := 0) o12' rfl (asI_of (ifD (fun h2 => ?_) fun h2 => ?_))
    · unfold J9_14
      obtain ⟨hl2, e2⟩ := hl1.put (o' := loopObj r2 .done (some (.exit 6)))
      exact ifB_t rfl ⟨hl1, .inr ⟨rfl, e01.trans e2 fun x _ hx => .inl hx, by omega, hl2, _, o15'.ext e2 ne3⟩⟩
    · refine ldO (i := 0) o15' rfl (asI_of (ldO (i := 0) st1.o9 rfl (asL_of (ifD (fun h3 => by omega) fun _ => ldO (i := 0) st1.o9 rfl (asL_of (ldO (i := 0) o15' rfl (asI_of (rowAtF st1.view.r1 (ints_at hi) (ifB_f (by simp) (ldO (i := 1) st1.o9 rfl (asL_of (ldO (i := 0) o15' rfl (asI_of (rowAtF st1.view.r2 (vals_at hi) ?_))))))))))))))
      have hv : ((valsOf C.M C.ks)[i]'(by omega) != (C.M C.ks[i]).getD 0) = false := by rw [vals_get hi]; simp
      rw [hv]
      unfold J9_14
      refine ifB_f rfl ?_
      unfold J9_13
      refine ldO (i := 0) o15' rfl (asI_of (stO (i := 0) o15' (by simp) (by kernel_rfl) rfl rfl fun w2 o2 e2 => ?_))
      rw [i1w i (by omega)] at o2
      have hl2 := hl1.ext e2 fun hx => ne3 hx.symm
      obtain ⟨hl3, e3⟩ := hl2.put (o' := loopObj r2 .ready none)
      exact ⟨hl2, .inl ⟨rfl, (e01.trans e2 fun x _ hx => .inr hx).trans e3 fun x _ hx => .inl hx, o2.ext e3 ne3, hl3⟩⟩
  · rcases hq with hq | hq
    · exact kk v w' hq.1 (.inl ⟨hq.2.2, hq.2.1⟩)
    · exact kk v w' hq.1 (.inr ⟨hq.2.1, hq.2.2.1, hq.2.2.2⟩)
end
end Go.Proofs.Ytalhnoelkglgiaa.W
