/- UndoWithin, walked: it returns true. No condition. -/
import Derived.Test.YtalhnoelkglgiaaVC
namespace Go.Proofs.Ytalhnoelkglgiaa.W
open Go Go.Proofs.Ytalhnoelkglgiaa.Sh Go.RowKit
set_option linter.unusedVariables false
set_option linter.unusedSimpArgs false
set_option maxRecDepth 100000
variable {w w' w0 : World} {K : Value → World → Prop} {Z F G : Nat → Prop} {N : Nat} {s : Hist} {C : Cfg}
def Same' (Q : Nat → Prop) (w w' : World) : Prop := ∀ b, Q b → w'.heap[b]? = w.heap[b]?
theorem Same'.ext {Q T : Nat → Prop} {wa : World} (h : Same' Q wa w) (e : Ext T w w') (hq : ∀ b, Q b → b < w.heap.size ∧ ¬ T b) : Same' Q wa w' := fun b hb => (e.block b (hq b hb).1 (hq b hb).2).trans (h b hb)
/-- A round of the outer loop. -/
theorem outer {wa : World} {l x11 x12 B rd : Nat} {r : Loop} {Q : Nat → Prop} (q11 : Q x11) (hrd : rd < 3) (a11 : Own wa x11 #[.int .i64 (rd : Int)] 3) (hB : B < 20000)
    (hl12 : l ≠ x12) (hQ : ∀ b, Q b → b ≠ l ∧ b ≠ x12)
    (h : ∃ Z s N, Wst C w0 wa Z s N ∧ N ≤ B ∧ Dy C Z l ∧ Dy C Z x12 ∧ ∀ b, Q b → Dy C Z b) (a12 : Own wa x12 #[.int .i64 0] 3) (al : At wa l (loopObj r .ready none))
    (hy : ∀ (args : List Value) (wy : World) (F : Value → World → Prop), B9_7 F l r ⟨C.b4, 0, none⟩ ⟨C.b5, 0, none⟩ ⟨C.b6, 0, none⟩ ⟨C.b7, 0, none⟩ ⟨C.b9, 0, none⟩ ⟨C.b10, 0, none⟩ ⟨x11, 0, none⟩ ⟨x12, 0, none⟩ args wy → callVal Try.prog (.func (.yield l) #[] #[]) args.toArray wy F)
    (kk : ∀ v w' Z s N, Wst C w0 w' Z s N → N ≤ B + 2048 → Dy C Z l → Dy C Z x12 → (∀ b, Q b → Dy C Z b) → Same' Q wa w' → ∀ i : Nat, i ≤ C.ks.length → Own w' x12 #[.int .i64 (i : Int)] 3 →
      ((At w' l (loopObj r .ready none) ∧ i = C.ks.length) ∨ (At w' l (loopObj r .done (some (.exit 4))) ∧ (i : Int) = C.stop ∧ rd = 0)) → K v w') :
    enterV Try.prog (.func (.func 34) #[] #[.pointer (some ⟨C.x5, 0, none⟩), .pointer (some ⟨C.x6, 0, none⟩)]) #[.func (.yield l) #[] #[]] wa K := by
  obtain ⟨Z0, s0, N0, h0, hN0, dl0, dx0, dq0⟩ := h
  have hkl := h0.st.kl
  have hol := h0.st.ol
  have hvl : (valsOf C.M C.ks).length = C.ks.length := by simp [valsOf]
  refine enter34 (all1 (S := C.V) (x5 := C.x5) (x6 := C.x6) (g1 := C.g1) (g2 := C.g2) (c1 := C.k1) (c2 := C.k2) (ks := C.ks) (vs := valsOf C.M C.ks)
    (fun i w' => ∃ Z s N, Wst C w0 w' Z s N ∧ N ≤ B + min i C.o2.length ∧ Dy C Z l ∧ Dy C Z x12 ∧ (∀ b, Q b → Dy C Z b) ∧ Same' Q wa w' ∧ Own w' x12 #[.int .i64 (i : Int)] 3 ∧ At w' l (loopObj r .ready none))
    (fun w' => ∃ Z s N, ∃ i : Nat, Wst C w0 w' Z s N ∧ N ≤ B + 2048 ∧ Dy C Z l ∧ Dy C Z x12 ∧ (∀ b, Q b → Dy C Z b) ∧ Same' Q wa w' ∧ i ≤ C.ks.length ∧ Own w' x12 #[.int .i64 (i : Int)] 3 ∧ At w' l (loopObj r .done (some (.exit 4))) ∧ (i : Int) = C.stop ∧ rd = 0)
    hvl (by omega) (fun i w' ⟨Z, s, N, hw, _⟩ => hw.st.all) (fun i hi w' hI => ?_) ⟨Z0, s0, N0, h0, by omega, dl0, dx0, dq0, fun _ _ => rfl, a12, al⟩ fun v w' hq => ?_)
  · obtain ⟨Z, s, N, hw, hN, dl, dx, dq, hs, o12, hl⟩ := hI
    refine hy [.int .i64 C.ks[i], .int .i64 ((valsOf C.M C.ks)[i]'(by omega))] w' _ ?_
    unfold B9_7
    refine ⟨hl, show readyA _ _ _ _ from ⟨hl, ?_⟩⟩
    unfold putK
    obtain ⟨hl1, e1⟩ := hl.put (o' := loopObj r .busy none)
    have lq : ∀ {w : World} {Z : Nat → Prop} {s N}, Wst C w0 w Z s N → (∀ b, Q b → Dy C Z b) → ∀ b, Q b → b < w.heap.size := fun hw dq b hb => hw.tb.lt b (dq b hb).1
    have hs1 := hs.ext e1 fun b hb => ⟨lq hw dq b hb, (hQ b hb).1⟩
    have hw1 := hw.ext e1 fun x _ hx => by subst hx; exact dl
    have o12 := o12.ext e1 fun e => hl12 e.symm
    clear hs hw hl e1
    generalize w'.putObj l (loopObj r .busy none) = w1 at hl1 hs1 hw1 o12 ⊢
    have st1 := hw1.st
    refine ldO (i := 0) o12 rfl (asI_of (ldO (i := 0) st1.o9 rfl (asL_of (ifD (fun h3 => by omega) fun _ => ldO (i := 0) st1.o9 rfl (asL_of (ldO (i := 0) o12 rfl (asI_of (rowAtF st1.view.r1 (ints_at hi) (ifB_f (by simp) (ldO (i := 1) st1.o9 rfl (asL_of (ldO (i := 0) o12 rfl (asI_of (rowAtF st1.view.r2 (vals_at hi) ?_))))))))))))))
    have hv : ((valsOf C.M C.ks)[i]'(by omega) != (C.M C.ks[i]).getD 0) = false := by rw [vals_get hi]; simp
    rw [hv]
    unfold J9_9
    refine ifB_f rfl ?_
    -- behind the step
    have next : ∀ (w3 : World) (s : Hist) (N : Nat), Wst C w0 w3 Z s N → N ≤ B + min (i + 1) C.o2.length → Same' Q wa w3 → Own w3 x12 #[.int .i64 (i : Int)] 3 → At w3 l (loopObj r .busy none) →
        J9_10 (fun v w' => (v = .bool true ∧ ∃ Z s N, Wst C w0 w' Z s N ∧ N ≤ B + min (i + 1) C.o2.length ∧ Dy C Z l ∧ Dy C Z x12 ∧ (∀ b, Q b → Dy C Z b) ∧ Same' Q wa w' ∧ Own w' x12 #[.int .i64 ((i + 1 : Nat) : Int)] 3 ∧ At w' l (loopObj r .ready none)) ∨
          (v = .bool false ∧ ∃ Z s N, ∃ i : Nat, Wst C w0 w' Z s N ∧ N ≤ B + 2048 ∧ Dy C Z l ∧ Dy C Z x12 ∧ (∀ b, Q b → Dy C Z b) ∧ Same' Q wa w' ∧ i ≤ C.ks.length ∧ Own w' x12 #[.int .i64 (i : Int)] 3 ∧ At w' l (loopObj r .done (some (.exit 4))) ∧ (i : Int) = C.stop ∧ rd = 0))
          l r ⟨C.b5, 0, none⟩ ⟨C.b6, 0, none⟩ ⟨C.b9, 0, none⟩ ⟨C.b10, 0, none⟩ ⟨x11, 0, none⟩ ⟨x12, 0, none⟩ w3 := by
      intro w3 s N hw3 hN3 hs3 o12 hl3
      unfold J9_10
      refine alO fun w4 o4 b4 s4 => stO (i := 0) o4 (by simp) (by kernel_rfl) rfl rfl fun w5 o5 e5 => ?_
      have z5 := e5.size
      have b35 : Bl w3 w5 := ((Ext.of_bl (S := fun x => x = w3.heap.size) b4).trans e5 fun _ _ h => h).bl fun x hx e => by omega
      have hw5 := hw3.b b35
      refine ldO (i := 0) hw5.st.o10 rfl ?_
      have hl5 := hl3.bl b35
      refine ⟨⟨_, hl5⟩, fun r2 => ?_⟩
      show yieldA _ _ _ _
      intro hy2
      have b56 : Bl w5 (w5.alloc (loopObj r2 .ready none)) := (Bl.refl _).alloc _
      have s56 := size_alloc w5 (loopObj r2 .ready none)
      have b36 := b35.trans b56
      have hw6 := hw3.grow b36
      have al2 : At (w5.alloc (loopObj r2 .ready none)) w5.heap.size (loopObj r2 .ready none) := by
        show (w5.heap.push _)[w5.heap.size]? = _
        simp
      have o15 : Own (w5.alloc (loopObj r2 .ready none)) w3.heap.size #[.int .i64 0] 3 := o5.bl b56
      have o12' := o12.bl b36
      have hl6 := hl5.bl b56
      have zlt := hw3.tb.lt
      have hVlt : ∀ x, C.V x → x < w3.heap.size := fun x hx => zlt x (hw3.vz x hx)
      have dl2 : Dy C (fun x => Z x ∨ (w3.heap.size ≤ x ∧ x < (w5.alloc (loopObj r2 .ready none)).heap.size)) w5.heap.size := ⟨.inr ⟨by omega, by omega⟩, fun hv => by have := hVlt _ hv; omega⟩
      have dx2 : Dy C (fun x => Z x ∨ (w3.heap.size ≤ x ∧ x < (w5.alloc (loopObj r2 .ready none)).heap.size)) w3.heap.size := ⟨.inr ⟨by omega, by omega⟩, fun hv => by have := hVlt _ hv; omega⟩
      have lx := zlt x12 dx.1
      have ll := zlt l dl.1
      have lQ : ∀ b, Q b → b < w3.heap.size := fun b hb => zlt b (dq b hb).1
      refine inner hw6 dl2 dx2 (by omega) (by omega) (by omega) o12' o15 al2 (by omega) (fun args wy F hb => hy2 args wy F hb) fun v w7 e7 hq => ?_
      have hs6 : Same' Q wa (w5.alloc (loopObj r2 .ready none)) := hs3.ext (T := None') (Ext.of_bl b36) fun b hb => ⟨lQ b hb, fun h => h⟩
      generalize w5.alloc (loopObj r2 .ready none) = w6 at *
      have z6 := b36.size
      have hs7 := hs6.ext e7 fun b hb => ⟨by have := lQ b hb; omega, fun h => by have := lQ b hb; omega⟩
      have hw7 := hw6.ext e7 fun x _ hx => by rcases hx with rfl | rfl; exact dl2; exact dx2
      have o12' := o12'.ext e7 fun h => by omega
      have hl7 := hl6.ext e7 fun h => by omega
      have hd : ∀ b, Dy C Z b → Dy C (fun x => Z x ∨ (w3.heap.size ≤ x ∧ x < w6.heap.size)) b := fun b hb => ⟨.inl hb.1, hb.2⟩
      have dq' : ∀ b, Q b → Dy C (fun x => Z x ∨ (w3.heap.size ≤ x ∧ x < w6.heap.size)) b := fun b hb => hd b (dq b hb)
      -- what comes last
      have last : ∀ (w8 : World), Ext (· = w5.heap.size) w7 w8 → (i ≤ 2 → Own w7 w3.heap.size #[.int .i64 (C.ks.length : Int)] 3) → (∃ m : Int, Own w7 w3.heap.size #[.int .i64 m] 3) →
          J9_11 (fun v w' => (v = .bool true ∧ ∃ Z s N, Wst C w0 w' Z s N ∧ N ≤ B + min (i + 1) C.o2.length ∧ Dy C Z l ∧ Dy C Z x12 ∧ (∀ b, Q b → Dy C Z b) ∧ Same' Q wa w' ∧ Own w' x12 #[.int .i64 ((i + 1 : Nat) : Int)] 3 ∧ At w' l (loopObj r .ready none)) ∨
          (v = .bool false ∧ ∃ Z s N, ∃ i : Nat, Wst C w0 w' Z s N ∧ N ≤ B + 2048 ∧ Dy C Z l ∧ Dy C Z x12 ∧ (∀ b, Q b → Dy C Z b) ∧ Same' Q wa w' ∧ i ≤ C.ks.length ∧ Own w' x12 #[.int .i64 (i : Int)] 3 ∧ At w' l (loopObj r .done (some (.exit 4))) ∧ (i : Int) = C.stop ∧ rd = 0))
          l r ⟨C.b5, 0, none⟩ ⟨C.b6, 0, none⟩ ⟨C.b9, 0, none⟩ ⟨x11, 0, none⟩ ⟨x12, 0, none⟩ ⟨w3.heap.size, 0, none⟩ w8 := by
        intro w8 e8 hlen hm
        have z8 := e8.size
        have z7 := e7.size
        have hw8 := hw7.ext e8 fun x _ hx => by subst hx; exact dl2
        have hs8 := hs7.ext e8 fun b hb => ⟨by have := lQ b hb; omega, fun h => by have := lQ b hb; omega⟩
        have o128 := o12'.ext e8 fun h => by omega
        have hl8 := hl7.ext e8 fun h => by omega
        unfold J9_11
        have j15 : J9_15 (fun v w' => (v = .bool true ∧ ∃ Z s N, Wst C w0 w' Z s N ∧ N ≤ B + min (i + 1) C.o2.length ∧ Dy C Z l ∧ Dy C Z x12 ∧ (∀ b, Q b → Dy C Z b) ∧ Same' Q wa w' ∧ Own w' x12 #[.int .i64 ((i + 1 : Nat) : Int)] 3 ∧ At w' l (loopObj r .ready none)) ∨
          (v = .bool false ∧ ∃ Z s N, ∃ i : Nat, Wst C w0 w' Z s N ∧ N ≤ B + 2048 ∧ Dy C Z l ∧ Dy C Z x12 ∧ (∀ b, Q b → Dy C Z b) ∧ Same' Q wa w' ∧ i ≤ C.ks.length ∧ Own w' x12 #[.int .i64 (i : Int)] 3 ∧ At w' l (loopObj r .done (some (.exit 4))) ∧ (i : Int) = C.stop ∧ rd = 0))
            l r ⟨C.b5, 0, none⟩ ⟨x11, 0, none⟩ ⟨x12, 0, none⟩ w8 := by
          unfold J9_15
          refine ldO (i := 0) o128 rfl (asI_of (stO (i := 0) o128 (by simp) (by kernel_rfl) rfl rfl fun w9 o9 e9 => ?_))
          rw [i1w i (by omega)] at o9
          have hw9 := hw8.ext e9 fun x _ hx => by subst hx; exact hd _ dx
          have hs9 := hs8.ext e9 fun b hb => ⟨by have := lQ b hb; omega, (hQ b hb).2⟩
          have hl9 := hl8.ext e9 hl12
          have z9 := e9.size
          have fine : stopA l r none (fun v w' => (v = .bool true ∧ ∃ Z s N, Wst C w0 w' Z s N ∧ N ≤ B + min (i + 1) C.o2.length ∧ Dy C Z l ∧ Dy C Z x12 ∧ (∀ b, Q b → Dy C Z b) ∧ Same' Q wa w' ∧ Own w' x12 #[.int .i64 ((i + 1 : Nat) : Int)] 3 ∧ At w' l (loopObj r .ready none)) ∨
              (v = .bool false ∧ ∃ Z s N, ∃ i : Nat, Wst C w0 w' Z s N ∧ N ≤ B + 2048 ∧ Dy C Z l ∧ Dy C Z x12 ∧ (∀ b, Q b → Dy C Z b) ∧ Same' Q wa w' ∧ i ≤ C.ks.length ∧ Own w' x12 #[.int .i64 (i : Int)] 3 ∧ At w' l (loopObj r .done (some (.exit 4))) ∧ (i : Int) = C.stop ∧ rd = 0)) w9 := by
            obtain ⟨g1, g2⟩ := hl9.put (o' := loopObj r .ready none)
            exact ⟨hl9, .inl ⟨rfl, _, s, N, hw9.ext g2 (fun x _ hx => by subst hx; exact hd _ dl), hN3, hd _ dl, hd _ dx, dq', hs9.ext g2 (fun b hb => ⟨by have := lQ b hb; omega, (hQ b hb).1⟩), o9.ext g2 (fun e => hl12 e.symm), g1⟩⟩
          have o11 : Own w9 x11 #[.int .i64 (rd : Int)] 3 := (hs9 x11 q11).trans a11
          refine ldO (i := 0) o9 rfl (asI_of (ldO (i := 0) hw9.st.o5 rfl (asI_of (ifE (fun hst => ldO (i := 0) o11 rfl (asI_of (ifE (fun hr0 => ?_) fun _ => fine))) fun _ => fine))))
          obtain ⟨g1, g2⟩ := hl9.put (o' := loopObj r .done (some (.exit 4)))
          exact ⟨hl9, .inr ⟨rfl, _, s, N, i + 1, hw9.ext g2 (fun x _ hx => by subst hx; exact hd _ dl), by omega, hd _ dl, hd _ dx, dq', hs9.ext g2 (fun b hb => ⟨by have := lQ b hb; omega, (hQ b hb).1⟩), by omega, o9.ext g2 (fun e => hl12 e.symm), g1, hst, by omega⟩⟩
        refine ldO (i := 0) o128 rfl (asI_of (ifD (fun h2 => ?_) fun _ => j15))
        have o158 := (hlen (by omega)).ext e8 (by omega)
        exact ldO (i := 0) o158 rfl (asI_of (ldO (i := 0) hw8.st.o9 rfl (asL_of (ifB_f (by simp) j15))))
      rcases hq with ⟨hal, ho⟩ | ⟨hn2, hal, m, ho⟩
      · obtain ⟨g1, g2⟩ := hal.put (o' := loopObj r2 .exhausted none)
        exact ⟨_, _, hal, by simp, last _ g2 (fun _ => ho) ⟨_, ho⟩⟩
      · obtain ⟨g1, g2⟩ := hal.put (o' := loopObj r2 .exhausted (some (.exit 6)))
        exact ⟨_, _, hal, by simp, last _ g2 (fun h => by omega) ⟨m, ho⟩⟩
    unfold J9_8
    refine ldO (i := 0) o12 rfl (asI_of (ldO (i := 0) st1.o4 rfl (asL_of (ifD (fun hlt => ?_) fun hge => ?_))))
    · unfold drewK
      have bd : Bl w1 w1.drew := (Bl.refl w1).drew
      have hwd := hw1.b bd
      have hlt' : i < C.o2.length := by omega
      refine ldO (i := 0) hwd.st.o7 rfl (asP_of (ldO (i := 0) hwd.st.o4 rfl (asL_of (ldO (i := 0) (o12.bl bd) rfl (asI_of ?_)))))
      refine opAt (Q := fun ad _ => ldK Try.prog w1.drew ad fun v2 => _) hwd.st.sc hlt' fun a g0 g1 g2 g3 => ld4o g0 g1 g2 g3 (tOp hwd.tb (by omega) fun w3 ht3 e3 => t0 ?_)
      refine next w3 _ _ (hwd.op ht3 e3) (by omega) ((hs1.ext (T := None') (Ext.of_bl bd) fun b hb => ⟨lq hw1 dq b hb, fun h => h⟩).ext e3 fun b hb => ⟨Nat.lt_of_lt_of_le (lq hw1 dq b hb) bd.size, fun hn => hn (dq b hb).1⟩) ((o12.bl bd).ext e3 fun hn => hn dx.1) ((hl1.bl bd).ext e3 fun hn => hn dl.1)
    · exact next w1 s N hw1 (by omega) hs1 o12 hl1
  · rcases hq with ⟨Z, s, N, h1, h2, h3, h4, h5, h6, h7, h8⟩ | ⟨Z, s, N, i, h1, h2, h3, h4, h5, h6, h7, h8, h9, h10, h11⟩
    · exact kk v w' Z s N h1 (by omega) h3 h4 h5 h6 C.ks.length (Nat.le_refl _) h7 (.inl ⟨h8, rfl⟩)
    · exact kk v w' Z s N h1 h2 h3 h4 h5 h6 i h7 h8 (.inr ⟨h9, h10, h11⟩)
end Go.Proofs.Ytalhnoelkglgiaa.W
