/- UndoMany, walked: it returns true. No condition. -/
import Derived.Test.YtalhnoelkglgiaaV3
namespace Go.Proofs.Ytalhnoelkglgiaa.W
open Go Go.Proofs.Ytalhnoelkglgiaa.Sh Go.RowKit
set_option linter.unusedVariables false
set_option linter.unusedSimpArgs false
set_option maxRecDepth 100000
variable {w w' w0 : World} {K : Value → World → Prop} {Z Z1 Z2 F G : Nat → Prop} {tb N : Nat} {s : Hist}
/-- Two tables apart. -/
def Two (w : World) (Z : Nat → Prop) (ta tb : Nat) (sa sb : Hist) (N M : Nat) : Prop := ∃ F G, TbD w (fun x => Z x ∨ G x) F ta sa N ∧ TbD w (fun x => Z x ∨ F x) G tb sb M
theorem Two.swap {ta M : Nat} {sa : Hist} (h : Two w Z ta tb sa s N M) : Two w Z tb ta s sa M N := by obtain ⟨F, G, h1, h2⟩ := h; exact ⟨G, F, h2, h1⟩
theorem Two.ext {S : Nat → Prop} {ta M : Nat} {sa : Hist} (h : Two w Z ta tb sa s N M) (e : Ext S w w') (hs : ∀ x, S x → Z x ∨ w.heap.size ≤ x) : Two w' Z ta tb sa s N M := by
  obtain ⟨F, G, h1, h2⟩ := h
  refine ⟨F, G, h1.ext e fun x hx hS => ?_, h2.ext e fun x hx hS => ?_⟩
  · rcases hs x hS with h | h
    · exact (h1.lF x hx).1 (.inl h)
    · have := (h1.lF x hx).2; omega
  · rcases hs x hS with h | h
    · exact (h2.lF x hx).1 (.inl h)
    · have := (h2.lF x hx).2; omega
theorem Two.bl {ta M : Nat} {sa : Hist} (h : Two w Z ta tb sa s N M) (b : Bl w w') : Two w' Z ta tb sa s N M := h.ext (S := None') (Ext.of_bl b) fun _ h => h.elim
theorem Two.mono {N' M' ta M : Nat} {sa : Hist} (h : Two w Z ta tb sa s N M) (hN : N ≤ N') (hM : M ≤ M') : Two w Z ta tb sa s N' M' := by
  obtain ⟨F, G, h1, h2⟩ := h; exact ⟨F, G, ⟨h1.t.mono hN, h1.lF, h1.lZ⟩, ⟨h2.t.mono hM, h2.lF, h2.lZ⟩⟩
/-- What is done with the first one. -/
theorem Two.on {ta M : Nat} {sa : Hist} (h : Two w Z ta tb sa s N M) : ∃ ZZ : Nat → Prop, Tb w ZZ ta sa N ∧ ∀ w' s' N', Tb w' ZZ ta s' N' → Ext (fun x => ¬ ZZ x) w w' → Two w' Z ta tb s' s N' M ∧ Ext (fun x => ¬ Z x) w w' := by
  obtain ⟨F, G, h1, h2⟩ := h
  refine ⟨fun x => Z x ∨ G x, ⟨F, h1⟩, fun w' s' N' ht e => ⟨?_, e.mono fun x _ hx hz => hx (.inl hz)⟩⟩
  obtain ⟨F', h1'⟩ := ht
  have h2' := h2.ext e fun x hx hS => hS (.inr hx)
  refine ⟨F', G, h1', h2'.t, fun x hx => ⟨fun hh => ?_, (h2'.lF x hx).2⟩, fun x hx => ?_⟩
  · rcases hh with hh | hh
    · exact (h2.lF x hx).1 (.inl hh)
    · exact (h1'.lF x hh).1 (.inr hx)
  · rcases hx with hx | hx
    · exact h1'.lZ x (.inl hx)
    · exact (h1'.lF x hx).2
theorem Two.one {ta M : Nat} {sa : Hist} (h : Two w Z ta tb sa s N M) : Tb w Z ta sa N := by
  obtain ⟨F, G, h1, h2⟩ := h
  exact ⟨F, h1.t, fun x hx => ⟨fun hz => (h1.lF x hx).1 (.inl hz), (h1.lF x hx).2⟩, fun x hx => h1.lZ x (.inl hx)⟩
/-- A table, and a new one beside it. -/
theorem twoNew (h : Tb w Z tb s N) (kk : ∀ w' ta, Two w' Z ta tb h0 s 0 N → Bl w w' → K (.pointer (some ⟨ta, 0, none⟩)) w') : CallV Try.prog 10 #[] w K := by
  obtain ⟨G, h⟩ := h
  refine newH fun w' F ta ht hf b => kk w' ta ⟨F, G, ⟨ht, fun x hx => ⟨fun hh => ?_, (hf x hx).2⟩, fun x hx => ?_⟩, ?_⟩ b
  · rcases hh with hh | hh
    · have := h.lZ x hh; have := hf x hx; omega
    · have := (h.lF x hh).2; have := hf x hx; omega
  · rcases hx with hx | hx
    · exact Nat.lt_of_lt_of_le (h.lZ x hx) b.size
    · exact Nat.lt_of_lt_of_le (h.lF x hx).2 b.size
  · have h' := h.ext (S := None') (Ext.of_bl b) fun _ _ h => h
    refine ⟨h'.t, fun x hx => ⟨fun hh => ?_, (h'.lF x hx).2⟩, fun x hx => ?_⟩
    · rcases hh with hh | hh
      · exact (h.lF x hx).1 hh
      · have := (h.lF x hx).2; have := hf x hh; omega
    · rcases hx with hx | hx
      · exact h'.lZ x hx
      · exact (hf x hx).2

/-! ### The plain law -/
def manyS (n : Nat) : Nat → Hist
  | 0 => h0
  | i + 1 => ((manyS n i).set ((i * 7 % n : Nat) : Int) (i : Int)).mark
def manyU (n : Nat) : Nat → Hist
  | 0 => h0
  | i + 1 => (manyU n i).set ((i * 7 % n : Nat) : Int) (i : Int)
theorem many_ms (n : Nat) : ∀ i, (manyS n i).ms.length = i
  | 0 => rfl
  | i + 1 => by
    have := many_ms n i
    show ((manyS n i).ms ++ _).length = _
    simp [this]
theorem many_M (n : Nat) : ∀ i, (manyS n i).M = (manyU n i).M
  | 0 => rfl
  | i + 1 => by
    have := many_M n i
    show (fun j => if j = _ then _ else (manyS n i).M j) = (fun j => if j = _ then _ else (manyU n i).M j)
    rw [this]
theorem many_back (n b : Nat) : ∀ i, b < i → (manyS n i).back b = (manyS n b).set ((b * 7 % n : Nat) : Int) (b : Int) := by
  intro i hi
  have hk : ∀ j, Keep ((manyS n b).set ((b * 7 % n : Nat) : Int) (b : Int)) (manyS n (b + 1 + j)) := by
    intro j
    induction j with
    | zero => exact keep_mark _
    | succ j ih => exact (ih.set _ _).mark
  have h := (hk (i - b - 1)).gone
  rw [show b + 1 + (i - b - 1) = i by omega] at h
  have hl : ((manyS n b).set ((b * 7 % n : Nat) : Int) (b : Int)).ms.length = b := many_ms n b
  rw [hl] at h; exact h
theorem manyU_len (n : Nat) : True := trivial
theorem tmodN (i n : Nat) : Int.tmod (i : Int) (n : Int) = ((i % n : Nat) : Int) := rfl

theorem undoMany {a b : Int} (kk : ∀ w', Bl w w' → K (.bool true) w') : CallV Try.prog 8 #[.int .i64 a, .int .i64 b] w K := by
  refine call8 a b w K ?_
  unfold F8
  refine tNew fun w1 tb ht b1 => asP_of (ifB_f rfl ?_)
  obtain ⟨n1, hn1, e1⟩ := andB a 1023 (by decide)
  have hn : IntKind.wrap .i64 (1 + bitI .and .i64 a 1023) = ((n1 + 1 : Nat) : Int) := by
    rw [show (1023 : Int) = ((1023 : Nat) : Int) from rfl, e1, i64w (by omega) (by omega)]; omega
  rw [hn]
  obtain ⟨n, hnn, hn0, hn2⟩ : ∃ n, n = n1 + 1 ∧ 0 < n ∧ n ≤ 1024 := ⟨_, rfl, by omega, by omega⟩
  rw [← hnn]
  have hmul : ∀ i : Nat, i < 4000000 → Int.tmod (IntKind.wrap .i64 ((i : Int) * 7)) (n : Int) = ((i * 7 % n : Nat) : Int) := fun i hi => by
    rw [i64w (by omega) (by omega), show (i : Int) * 7 = ((i * 7 : Nat) : Int) by omega]; rfl
  have main : ∀ w1, Bl w w1 → Tb w1 (fun x => x < w.heap.size) tb (manyS n n) (2 * n) → J8_0 K (n : Int) b (some ⟨tb, 0, none⟩) w1 := by
    intro w1 b1 ht
    unfold J8_0
    obtain ⟨Z', ht', zl, hz⟩ := ht.most
    refine tSeen ht' (by omega) fun w2 p1 c1 p2 c2 ks hv hkl b2 => g2l (alO fun w3 o3 b3 s3 => stAll (b := w2.heap.size) (vs := #[.slice p1 ks.length c1, .slice p2 ks.length c2]) o3 (by kernel_rfl) rfl (by kernel_rfl) fun w4 o4 e4 => ?_)
    have z2 := b2.size
    have z3 := b3.size
    have z4 := e4.size
    have b14 : Bl w1 w4 := ((Ext.of_bl (S := fun x => x = w2.heap.size) (b2.trans b3)).trans e4 fun _ _ h => h).bl fun x hx e => by omega
    have ht4 := hz w4 b14
    have hv4 := (hv.bl b3).ext e4 fun b hb e => by omega
    generalize hZ : (fun x => Z' x ∨ (w1.heap.size ≤ x ∧ x < w4.heap.size)) = Z at ht4
    have zx : Z w2.heap.size := by rw [← hZ]; exact .inr ⟨by omega, by omega⟩
    have zv : ∀ b, (w1.heap.size ≤ b ∧ b < w2.heap.size) → Z b := fun b hb => by rw [← hZ]; exact .inr ⟨by omega, by omega⟩
    have zb : ∀ x, x < w.heap.size → Z x := fun x hx => by rw [← hZ]; exact .inl (zl x hx)
    have b04 := b1.trans b14
    generalize w2.heap.size = x at o4 zx ⊢
    refine twoNew ht4 fun w5 ub htu b5 => asP_of (ifB_f rfl (ifD (fun h => by omega) fun _ => ?_))
    obtain ⟨b0, hb0, eb⟩ := andB b 1023 (by decide)
    rw [show (1023 : Int) = ((1023 : Nat) : Int) from rfl, eb, tmodN]
    obtain ⟨bb, hbb⟩ : ∃ bb, bb = b0 % n := ⟨_, rfl⟩
    have hbn : bb < n := by rw [hbb]; exact Nat.mod_lt _ hn0
    rw [← hbb]
    have o5 := o4.bl b5
    have hv5 := hv4.bl b5
    have b05 := b04.trans b5
    have loop : ∀ (m i : Nat) (w' : World), i + m = bb + 1 → Bl w w' → Ext (fun x => ¬ Z x) w5 w' → Two w' Z ub tb (manyU n i) (manyS n n) i (2 * n) → L8_3 K (m + 1) (n : Int) (some ⟨tb, 0, none⟩) ⟨x, 0, none⟩ (some ⟨ub, 0, none⟩) (bb : Int) (i : Int) w' := by
      intro m
      induction m with
      | zero =>
        intro i w' hi bw e h2
        simp only [L8_3]
        refine ifD (fun h => by omega) fun _ => ?_
        unfold J8_2
        have hib : i = bb + 1 := by omega
        subst hib
        have ht6 := h2.swap.one
        have ox := o5.ext e fun h => h zx
        have hvx := hv5.ext e fun b hb h => h (zv b hb)
        refine tBackNot (a := n) ht6 (by rw [many_ms]; exact Nat.le_refl _) (asI_of (ifB_f rfl (ldO (i := 0) ox rfl (asL_of (ldO (i := 1) ox rfl (asL_of (tTells ht6 (by omega) rfl hvx (by omega) fun w7 b7 => asB_of (ifB_f rfl ?_))))))))
        have h7 := h2.bl b7
        obtain ⟨ZZ, ht7, hon⟩ := h7.swap.on
        refine tBack (a := bb) ht7 (by omega) (by rw [many_ms]; exact hbn) fun w8 ht8 e8 => asI_of (ifB_f rfl ?_)
        rw [many_back n bb n hbn] at ht8
        obtain ⟨h8, e8'⟩ := hon w8 _ _ ht8 e8
        refine tMarks h8.one (asI_of ?_)
        have hms : ((manyS n bb).set ((bb * 7 % n : Nat) : Int) (bb : Int)).ms.length = bb := many_ms n bb
        rw [hms]
        unfold J8_5
        refine ifB_f (by simp) ?_
        unfold J8_4
        have b8 := blNZ (bw.trans b7) e8' zb
        refine tSeen h8.swap.one (by omega) fun w9 q1 d1 q2 d2 ls hv9 hl9 b9 => g2l (tTells (h8.one.bl b9) (by omega) ?_ hv9 (by omega) fun wa ba => asB_of (ifB_t rfl (awake fun wb bb' => asB_of (kk wb ((b8.trans b9).trans (ba.trans bb'))))))
        show (fun j => if j = _ then _ else (manyS n bb).M j) = (fun j => if j = _ then _ else (manyU n bb).M j)
        rw [many_M]
      | succ m ih =>
        intro i w' hi bw e h2
        rw [L8_3]
        simp only []
        refine ifD (fun _ => ifD (fun h => by omega) fun _ => ?_) fun h => by omega
        rw [hmul i (by omega), i1w i (by omega)]
        obtain ⟨ZZ, hu, hon⟩ := h2.on
        refine tSet hu (by omega) fun w6 hu6 e6 => t0 ?_
        obtain ⟨h6, e6'⟩ := hon w6 _ _ hu6 e6
        exact ih (i + 1) w6 (by omega) (blNZ bw e6' zb) (extNZ e e6') h6
    exact ⟨bb + 2, loop (bb + 1) 0 w5 (by omega) b05 (Ext.refl _) htu⟩
  have loop : ∀ (m i : Nat) (w1 : World), i + m = n → Bl w w1 → Tb w1 (fun x => x < w.heap.size) tb (manyS n i) (2 * i) → L8_1 K (m + 1) (n : Int) b (some ⟨tb, 0, none⟩) (i : Int) w1 := by
    intro m
    induction m with
    | zero =>
      intro i w1 hi b1 ht
      simp only [L8_1]
      have : i = n := by omega
      subst this
      exact ifD (fun h => by omega) fun _ => main w1 b1 ht
    | succ m ih =>
      intro i w1 hi b1 ht
      rw [L8_1]
      simp only []
      refine ifD (fun _ => ifD (fun h => by omega) fun _ => ?_) fun h => by omega
      rw [hmul i (by omega), i1w i (by omega)]
      refine tSet ht (by omega) fun w2 ht2 e2 => t0 (tMark ht2 (by omega) fun w3 ht3 e3 => asI_of (ifB_f ?_ ?_))
      · have : ((manyS n i).set ((i * 7 % n : Nat) : Int) (i : Int)).ms.length = i := many_ms n i
        rw [this]; simp
      · exact ih (i + 1) w3 (by omega) (blNZ (blNZ b1 e2 fun x hx => hx) e3 fun x hx => hx) ht3
  exact ⟨n + 1, loop n 0 w1 (by omega) b1 ht⟩
theorem undoMany_walk (a b : Int) (W : World) (_ : (Lit.int .i64 a).wf = true) (_ : (Lit.int .i64 b).wf = true) : Walk 8 #[.int .i64 a, .int .i64 b] W :=
  walk_of (undoMany fun _ hb => ⟨rfl, hb⟩)
end Go.Proofs.Ytalhnoelkglgiaa.W
