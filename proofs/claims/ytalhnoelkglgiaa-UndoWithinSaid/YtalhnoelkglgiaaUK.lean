/- A table and the document's beside it: the steps moved and asked. No condition. -/
import Derived.Test.YtalhnoelkglgiaaUJ
namespace Go.Proofs.Ytalhnoelkglgiaa.W
open Go Go.Proofs.Ytalhnoelkglgiaa.Sh Go.RowKit
set_option linter.unusedVariables false
set_option linter.unusedSimpArgs false
set_option maxRecDepth 100000
variable {w w' : World} {K : Value → World → Prop} {Z F G : Nat → Prop} {tb rb N : Nat} {s : Hist} {L : Pairs} {O : List Pairs}

theorem TabH.cut (h : TabH w F tb s N) : TabH w (fun x => F x ∧ x < w.heap.size) tb s N := by
  obtain ⟨E, ⟨G, mb, c, bp, kp, bc, kc, cells, hd, hf⟩, r⟩ := h
  exact ⟨E, ⟨G, mb, c, bp, kp, bc, kc, cells, hd, fun k hk => ⟨hf k hk, hd.lt k hk⟩⟩, r⟩
theorem RefT.cut (h : RefT w F rb L O) : RefT w (fun x => F x ∧ x < w.heap.size) rb L O := by
  obtain ⟨G, p, op, c, oc, vals, hd, hf⟩ := h
  exact ⟨G, p, op, c, oc, vals, hd, fun k hk => ⟨hf k hk, hd.lt k hk⟩⟩
/-- A table (blocks F) and the document's (blocks G) apart; the blocks Z belong to neither. -/
structure SdD (w : World) (Z F G : Nat → Prop) (tb rb : Nat) (s : Hist) (N : Nat) (L : Pairs) (O : List Pairs) : Prop where
  t : TabH w F tb s N
  r : RefT w G rb L O
  d : ∀ x, F x → ¬ G x
  lF : ∀ x, F x → ¬ Z x ∧ x < w.heap.size
  lG : ∀ x, G x → ¬ Z x ∧ x < w.heap.size
  lZ : ∀ x, Z x → x < w.heap.size
def Sd (w : World) (Z : Nat → Prop) (tb rb : Nat) (s : Hist) (N : Nat) (L : Pairs) (O : List Pairs) : Prop := ∃ F G, SdD w Z F G tb rb s N L O
theorem SdD.ext {S : Nat → Prop} (h : SdD w Z F G tb rb s N L O) (e : Ext S w w') (hs : ∀ x, F x ∨ G x → ¬ S x) : SdD w' Z F G tb rb s N L O :=
  ⟨h.t.ext e fun b hb => hs b (.inl hb), h.r.ext e fun b hb => hs b (.inr hb), h.d, fun x hx => ⟨(h.lF x hx).1, Nat.lt_of_lt_of_le (h.lF x hx).2 e.size⟩, fun x hx => ⟨(h.lG x hx).1, Nat.lt_of_lt_of_le (h.lG x hx).2 e.size⟩, fun x hx => Nat.lt_of_lt_of_le (h.lZ x hx) e.size⟩
theorem SdD.bl (h : SdD w Z F G tb rb s N L O) (b : Bl w w') : SdD w' Z F G tb rb s N L O := h.ext (S := None') (Ext.of_bl b) fun _ _ h => h
theorem SdD.afterT {F' : Nat → Prop} {s' : Hist} {N' : Nat} (h : SdD w Z F G tb rb s N L O) (ht : TabH w' F' tb s' N') (hf : ∀ x, F' x → F x ∨ w.heap.size ≤ x) (e : Ext F w w') : SdD w' Z (fun x => F' x ∧ x < w'.heap.size) G tb rb s' N' L O := by
  have z := e.size
  refine ⟨ht.cut, h.r.ext e fun b hb hF => h.d b hF hb, fun x hx hg => ?_, fun x hx => ⟨fun hz => ?_, hx.2⟩, fun x hx => ⟨(h.lG x hx).1, Nat.lt_of_lt_of_le (h.lG x hx).2 z⟩, fun x hx => Nat.lt_of_lt_of_le (h.lZ x hx) z⟩
  · rcases hf x hx.1 with h1 | h1
    · exact h.d x h1 hg
    · have := (h.lG x hg).2; omega
  · rcases hf x hx.1 with h1 | h1
    · exact (h.lF x h1).1 hz
    · have := h.lZ x hz; omega
theorem SdD.afterR {G' : Nat → Prop} {L' : Pairs} {O' : List Pairs} (h : SdD w Z F G tb rb s N L O) (ht : RefT w' G' rb L' O') (hf : ∀ x, G' x → G x ∨ (w.heap.size ≤ x ∧ x < w'.heap.size)) (e : Ext G w w') : SdD w' Z F (fun x => G' x ∧ x < w'.heap.size) tb rb s N L' O' := by
  have z := e.size
  refine ⟨h.t.ext e fun b hb hF => h.d b hb hF, ht.cut, fun x hx hg => ?_, fun x hx => ⟨(h.lF x hx).1, Nat.lt_of_lt_of_le (h.lF x hx).2 z⟩, fun x hx => ⟨fun hz => ?_, hx.2⟩, fun x hx => Nat.lt_of_lt_of_le (h.lZ x hx) z⟩
  · rcases hf x hg.1 with h1 | h1
    · exact h.d x hx h1
    · have := (h.lF x hx).2; omega
  · rcases hf x hx.1 with h1 | h1
    · exact (h.lG x h1).1 hz
    · have := h.lZ x hz; omega
theorem SdD.extT (h : SdD w Z F G tb rb s N L O) (e : Ext F w w') : Ext (fun x => ¬ Z x) w w' := e.mono fun x _ hx => (h.lF x hx).1
theorem SdD.extR (h : SdD w Z F G tb rb s N L O) (e : Ext G w w') : Ext (fun x => ¬ Z x) w w' := e.mono fun x _ hx => (h.lG x hx).1
theorem extNZ {a b c : World} (h : Ext (fun x => ¬ Z x) a b) (k : Ext (fun x => ¬ Z x) b c) : Ext (fun x => ¬ Z x) a c := h.trans k fun _ _ h => h
theorem marksH (h : TabH w F tb s N) (k : K (.int .i64 (s.ms.length : Int)) w) : CallV Try.prog 14 #[.pointer (some ⟨tb, 0, none⟩)] w K := by
  obtain ⟨E, h1, _⟩ := h
  exact marks h1 k
/-- The view is the document's pairs. -/
def Same (s : Hist) (L : Pairs) : Prop := IsKeys s.M (L.map (·.1)) ∧ ∀ p ∈ L, s.M p.1 = some p.2

section
variable {k v : Int} {two : Bool}
theorem movedSet (h : Sd w Z tb rb s N L O) (hN : N < 500000000) (hL : L.length < 500000000) (kk : ∀ w', Sd w' Z tb rb (s.set k v) (N + 1) (setL L k v) O → Ext (fun x => ¬ Z x) w w' → K (.bool true) w') :
    CallV Try.prog 38 #[.agg #[.pointer (some ⟨tb, 0, none⟩), .pointer (some ⟨rb, 0, none⟩)], .agg #[.int .i64 1, .bool two, .int .i64 k, .int .i64 v]] w K := by
  obtain ⟨F, G, h⟩ := h
  refine call38 _ _ _ _ _ _ w K ?_
  unfold F38
  refine alO fun w1 o1 b1 s1 => alO fun w2 o2 b2 s2 => ldO (i := 0) o2 rfl (asI_of (ifB_t rfl ?_))
  have o1 := o1.bl b2
  have b := b1.trans b2
  have h2 := h.bl b
  refine ldO (i := 0) o1 rfl (asP_of (ldO (i := 2) o2 rfl (asI_of (ldO (i := 3) o2 rfl (asI_of (setH h2.t hN fun w3 F' ht hf he => t0 ?_))))))
  have nF : ∀ x, F x → x < w.heap.size := fun x hx => (h.lF x hx).2
  have nG : ∀ x, G x → x < w.heap.size := fun x hx => (h.lG x hx).2
  have o13 : Own w3 w.heap.size _ 62 := o1.ext he fun hh => by have := nF _ hh; omega
  have o23 : Own w3 w1.heap.size _ 27 := o2.ext he fun hh => by have := nF _ hh; omega
  have h3 := h2.afterT ht hf he
  refine ldO (i := 1) o13 rfl (asP_of (ldO (i := 2) o23 rfl (asI_of (ldO (i := 3) o23 rfl (asI_of (rset h3.r hL fun w4 G' hr hg he' => t0 ?_))))))
  exact kk w4 ⟨_, _, h3.afterR hr hg he'⟩ (extNZ (extNZ (Ext.of_bl b) (h2.extT he)) (h3.extR he'))
theorem movedMark (h : Sd w Z tb rb s N L O) (hN : N < 500000000) (hL : L.length < 500000000) (hO : O.length < 1073741000) (hm : s.ms.length = O.length) (kk : ∀ w', Sd w' Z tb rb s.mark (N + 1) L (O ++ [L]) → Ext (fun x => ¬ Z x) w w' → K (.bool true) w') :
    CallV Try.prog 38 #[.agg #[.pointer (some ⟨tb, 0, none⟩), .pointer (some ⟨rb, 0, none⟩)], .agg #[.int .i64 3, .bool two, .int .i64 k, .int .i64 v]] w K := by
  obtain ⟨F, G, h⟩ := h
  refine call38 _ _ _ _ _ _ w K ?_
  unfold F38
  refine alO fun w1 o1 b1 s1 => alO fun w2 o2 b2 s2 => ldO (i := 0) o2 rfl (asI_of (ifB_f rfl (ifB_f rfl (ifB_t rfl ?_))))
  unfold drewK
  have bd : Bl w2 w2.drew := (Bl.refl w2).drew
  have b := (b1.trans b2).trans bd
  have o1 := (o1.bl b2).bl bd
  have o2 := o2.bl bd
  have h2 := h.bl b
  have nF : ∀ x, F x → x < w.heap.size := fun x hx => (h.lF x hx).2
  generalize w2.drew = w0 at bd b o1 o2 h2 ⊢
  refine ldO (i := 0) o1 rfl (asP_of (ldO (i := 1) o1 rfl (asP_of (markH h2.t hN fun w3 F' ht hf he => asI_of ?_))))
  have o13 : Own w3 w.heap.size _ 62 := o1.ext he fun hh => by have := nF _ hh; omega
  have h3 := h2.afterT ht hf he
  refine ⟨ldO (i := 1) o13 rfl (asP_of rfl), rmark h3.r hL hO fun w4 G' hr hg he' => asI_of ?_⟩
  have e : ((s.ms.length : Int) == (O.length : Int)) = true := by rw [hm]; simp
  rw [e]
  exact kk w4 ⟨_, _, h3.afterR hr hg he'⟩ (extNZ (extNZ (Ext.of_bl b) (h2.extT he)) (h3.extR he'))
theorem movedBack {a : Nat} {M : Pairs} (h : Sd w Z tb rb s N L O) (hN : N < 500000000) (ha : a < s.ms.length) (hM : O[a]? = some M) (hO : O.length < 1073741000) (kk : ∀ w', Sd w' Z tb rb (s.back a) N M (O.take a) → Ext (fun x => ¬ Z x) w w' → K (.bool true) w') :
    CallV Try.prog 38 #[.agg #[.pointer (some ⟨tb, 0, none⟩), .pointer (some ⟨rb, 0, none⟩)], .agg #[.int .i64 4, .bool two, .int .i64 (a : Int), .int .i64 v]] w K := by
  obtain ⟨F, G, h⟩ := h
  refine call38 _ _ _ _ _ _ w K ?_
  unfold F38
  refine alO fun w1 o1 b1 s1 => alO fun w2 o2 b2 s2 => ldO (i := 0) o2 rfl (asI_of (ifB_f rfl (ifB_f rfl (ifB_f rfl (ifB_t rfl ?_)))))
  unfold drewK
  have bd : Bl w2 w2.drew := (Bl.refl w2).drew
  have b := (b1.trans b2).trans bd
  have o1 := (o1.bl b2).bl bd
  have o2 := o2.bl bd
  have h2 := h.bl b
  have nF : ∀ x, F x → x < w.heap.size := fun x hx => (h.lF x hx).2
  generalize w2.drew = w0 at bd b o1 o2 h2 ⊢
  refine ldO (i := 0) o1 rfl (asP_of (ldO (i := 2) o2 rfl (asI_of (ldO (i := 1) o1 rfl (asP_of (ldO (i := 2) o2 rfl (asI_of (backH h2.t hN ha fun w3 ht he => asI_of ?_))))))))
  have o13 : Own w3 w.heap.size _ 62 := o1.ext he fun hh => by have := nF _ hh; omega
  have o23 : Own w3 w1.heap.size _ 27 := o2.ext he fun hh => by have := nF _ hh; omega
  have h3 := h2.afterT ht (fun x hx => .inl hx) he
  refine ⟨ldO (i := 1) o13 rfl (asP_of rfl), ldO (i := 2) o23 rfl (asI_of rfl), rback h3.r hM hO fun w4 hr he' => asI_of ?_⟩
  exact kk w4 ⟨_, _, h3.afterR hr (fun x hx => .inl hx) he'⟩ (extNZ (extNZ (Ext.of_bl b) (h2.extT he)) (h3.extR he'))
theorem askedGet (h : Sd w Z tb rb s N L O) (hL : L.length < 500000000) (hg : ((s.M k).getD 0, (s.M k).isSome) = getN L k) (kk : ∀ w', Sd w' Z tb rb s N L O → Ext (fun x => ¬ Z x) w w' → K (.bool true) w') :
    CallV Try.prog 39 #[.agg #[.pointer (some ⟨tb, 0, none⟩), .pointer (some ⟨rb, 0, none⟩)], .agg #[.int .i64 6, .bool two, .int .i64 k, .int .i64 v]] w K := by
  obtain ⟨F, G, h⟩ := h
  refine call39 _ _ _ _ _ _ w K ?_
  unfold F39
  refine alO fun w1 o1 b1 s1 => alO fun w2 o2 b2 s2 => ?_
  have o1 := o1.bl b2
  have b := b1.trans b2
  have h2 := h.bl b
  refine ldO (i := 1) o1 rfl (asP_of (pairs h2.r (by omega) fun w3 q d hq hqb b3 => asL_of (ldO (i := 0) (o2.bl b3) rfl (asI_of (ifB_t rfl ?_)))))
  have h3 := h2.bl b3
  have o13 := o1.bl b3
  have o23 := o2.bl b3
  refine ldO (i := 0) o13 rfl (asP_of (ldO (i := 2) o23 rfl (asI_of (getH h3.t (t2 (ldO (i := 1) o13 rfl (asP_of (ldO (i := 2) o23 rfl (asI_of (rget h3.r (by omega) (t2 ?_)))))))))))
  have g1 := congrArg Prod.fst hg
  have g2 := congrArg Prod.snd hg
  simp only at g1 g2
  rw [← g1, ← g2]
  refine ifB_t (by simp) ?_
  have e : ((s.M k).isSome == (s.M k).isSome) = true := by simp
  rw [e]
  exact kk w3 ⟨_, _, h3⟩ (Ext.of_bl (b.trans b3))
theorem askedLen (h : Sd w Z tb rb s N L O) (hL : L.length < 500000000) (hk : Same s L) (hm : s.ms.length = O.length) (kk : ∀ w', Sd w' Z tb rb s N L O → Ext (fun x => ¬ Z x) w w' → K (.bool true) w') :
    CallV Try.prog 39 #[.agg #[.pointer (some ⟨tb, 0, none⟩), .pointer (some ⟨rb, 0, none⟩)], .agg #[.int .i64 8, .bool two, .int .i64 k, .int .i64 v]] w K := by
  obtain ⟨F, G, h⟩ := h
  refine call39 _ _ _ _ _ _ w K ?_
  unfold F39
  refine alO fun w1 o1 b1 s1 => alO fun w2 o2 b2 s2 => ?_
  have o1 := o1.bl b2
  have b := b1.trans b2
  have h2 := h.bl b
  refine ldO (i := 1) o1 rfl (asP_of (pairs h2.r (by omega) fun w3 q d hq hqb b3 => asL_of (ldO (i := 0) (o2.bl b3) rfl (asI_of (ifB_f rfl (ifB_t rfl ?_))))))
  unfold drewK
  have bd : Bl w3 w3.drew := (Bl.refl w3).drew
  have bb := (b.trans b3).trans bd
  have h3 := h.bl bb
  have o13 := (o1.bl b3).bl bd
  refine ldO (i := 0) o13 rfl (asP_of (lenH h3.t hk.1 (asI_of ⟨rfl, ifB_t (by simp) (ldO (i := 0) o13 rfl (asP_of (ldO (i := 1) o13 rfl (asP_of (marksH h3.t (asI_of ⟨ldO (i := 1) o13 rfl (asP_of rfl), rmarks h3.r (asI_of ?_)⟩))))))⟩)))
  have e : ((s.ms.length : Int) == (O.length : Int)) = true := by rw [hm]; simp
  rw [e]
  exact kk _ ⟨_, _, h3⟩ (Ext.of_bl bb)
theorem askedKeys (h : Sd w Z tb rb s N L O) (hN : N < 500000000) (hL : L.length < 500000000) (hk : Same s L) (kk : ∀ w', Sd w' Z tb rb s N L O → Ext (fun x => ¬ Z x) w w' → K (.bool true) w') :
    CallV Try.prog 39 #[.agg #[.pointer (some ⟨tb, 0, none⟩), .pointer (some ⟨rb, 0, none⟩)], .agg #[.int .i64 7, .bool two, .int .i64 k, .int .i64 v]] w K := by
  obtain ⟨F, G, h⟩ := h
  refine call39 _ _ _ _ _ _ w K ?_
  unfold F39
  refine alO fun w1 o1 b1 s1 => alO fun w2 o2 b2 s2 => ?_
  have o1 := o1.bl b2
  have b := b1.trans b2
  have h2 := h.bl b
  refine ldO (i := 1) o1 rfl (asP_of (pairs h2.r (by omega) fun w3 q d hq hqb b3 => asL_of (ldO (i := 0) (o2.bl b3) rfl (asI_of (ifB_f rfl (ifB_f rfl (ifB_t rfl ?_)))))))
  have h3 := h2.bl b3
  have o13 := o1.bl b3
  refine ldO (i := 0) o13 rfl (asP_of (keysH h3.t hN fun w4 g cap ks hks hkl hr hg b4 => asL_of ?_))
  have ek : ks = L.map (·.1) := keys_len hks hk.1
  have el : ks.length = L.length := by rw [ek]; simp
  refine ifB_f (by simp [el]) ?_
  have bb := (b.trans b3).trans b4
  have z1 := (b1.trans b2).size
  have z3 := b3.size
  have z4 := b4.size
  have o14 := o13.bl b4
  have h4 := h.bl bb
  have hq4 := Sees.bl hq b4
  have hlt : w.heap.size < w2.heap.size := by omega
  have loop : ∀ (m i : Nat) (w' : World) (ys : List Value), i + m = ks.length → Row w' (.slice (some ⟨g, 0, none⟩) ks.length cap) 3 ks.length ys → (∀ j, i ≤ j → ys[j]? = (ints ks)[j]?) → Ext (· = g) w4 w' → L39_0 K (m + 1) ⟨w.heap.size, 0, none⟩ q L.length d (some ⟨g, 0, none⟩) ks.length cap (i : Int) w' := by
    intro m
    induction m with
    | zero =>
      intro i w' ys hi hy hys e
      simp only [L39_0]
      refine ifD (fun h => by omega) fun _ => kk w' ⟨F, G, h4.ext e fun x hx e2 => ?_⟩ ?_
      · subst e2
        rcases hx with hx | hx
        · have := (h.lF _ hx).2; omega
        · have := (h.lG _ hx).2; omega
      · exact extNZ (Ext.of_bl bb) (e.mono fun x _ hx hz => by subst hx; have := h.lZ _ hz; omega)
    | succ m ih =>
      intro i w' ys hi hy hys e
      rw [L39_0]
      simp only []
      have hit : i < L.length := by omega
      refine ifD (fun _ => ?_) fun h => by omega
      unfold drewK
      have e' : Ext (· = g) w4 w'.drew := e.drew
      have nFG : ∀ x, F x ∨ G x → ¬ x = g := by
        rintro x (hx | hx) rfl
        · have := (h.lF _ hx).2; omega
        · have := (h.lG _ hx).2; omega
      have h5 := h4.ext e' nFG
      have hy5 := hy.drew
      have o5 : Own w'.drew w.heap.size _ 62 := o14.ext e' (by omega)
      have q5 : PS w'.drew q d L := Sees.ext hq4 e' fun a ha => by have := (hqb a ha).2; omega
      have c5 : (ys[i]?) = some (.int .i64 L[i].1) := by rw [hys i (Nat.le_refl i), ek]; simp [ints, hit]
      refine ldO (i := 0) o5 rfl (asP_of (ixS (z := 1) u29 s3 (by omega) (by omega) (show asA (.pointer (some _)) _ from ?_)))
      rw [addAt]
      refine ldI (hy5.cell c5) (getH h5.t (t2 ?_))
      have hM : s.M L[i].1 = some L[i].2 := hk.2 _ (List.getElem_mem hit)
      rw [hM]
      have d6 : Bl w'.drew w'.drew.drew := (Bl.refl _).drew
      have hy6 := hy5.drew
      obtain ⟨a, ha, c1, c2⟩ := PS.at1 (Sees.bl q5 d6) hit
      subst ha
      refine ixS (z := 1) u29 s3 (by omega) (by omega) (show asA (.pointer (some _)) _ from ?_)
      rw [addAt]
      refine ldI (hy6.cell c5) (ixS (z := 2) u66 s77 (by omega) (by omega) (show asA (.pointer (some _)) _ from ?_))
      rw [Int.toNat_natCast]
      refine ldI c1 (ifB_f (by simp) (ifB_f rfl (ixS (z := 2) u66 s77 (by omega) (by omega) (show asA (.pointer (some _)) _ from ?_))))
      rw [Int.toNat_natCast]
      refine ldI c2 (ifB_f (by simp) ?_)
      unfold J39_1
      refine ixS (z := 1) u29 s3 (by omega) (by omega) (show asA (.pointer (some _)) _ from ?_)
      rw [addAt]
      refine stR hy6 (by omega) (by kernel_rfl) rfl rfl fun w7 hy7 e7 => ?_
      rw [show IntKind.wrap .i64 ((i : Int) + 1) = ((i + 1 : Nat) : Int) by rw [i64w (by omega) (by omega)]; rfl]
      refine ih (i + 1) w7 _ (by omega) hy7 (fun j hj => ?_) ((e'.drew).trans e7 fun _ _ h => h)
      rw [List.getElem?_set_ne (by omega)]
      exact hys j (by omega)
  exact ⟨ks.length + 1, loop ks.length 0 w4 (ints ks) (by omega) hr (fun _ _ => rfl) (Ext.refl _)⟩
/-- A step. -/
theorem stepM {a0 a1 : Option Addr} {kd : Int} (hk : kd ≤ 5) (h : ∀ w', Bl w w' → CallV Try.prog 38 #[.agg #[.pointer a0, .pointer a1], .agg #[.int .i64 kd, .bool two, .int .i64 k, .int .i64 v]] w' fun v w => asB v fun b => K (.bool b) w) :
    CallV Try.prog 32 #[.agg #[.pointer a0, .pointer a1], .agg #[.int .i64 kd, .bool two, .int .i64 k, .int .i64 v]] w K := by
  refine call32 _ _ _ _ _ _ w K ?_
  unfold F32
  refine alO fun w1 o1 b1 s1 => alO fun w2 o2 b2 s2 => ?_
  have o1 := o1.bl b2
  exact ldO (i := 0) o2 rfl (asI_of (ifD (fun _ => ldO (i := 0) o1 rfl (asP_of (ldO (i := 1) o1 rfl (asP_of (ldO (i := 0) o2 rfl (asI_of (ldO (i := 1) o2 rfl (asB_of (ldO (i := 2) o2 rfl (asI_of (ldO (i := 3) o2 rfl (asI_of (h w2 (b1.trans b2)))))))))))))) fun h => absurd hk h))
theorem stepA {a0 a1 : Option Addr} {kd : Int} (hk : ¬ kd ≤ 5) (h : ∀ w', Bl w w' → CallV Try.prog 39 #[.agg #[.pointer a0, .pointer a1], .agg #[.int .i64 kd, .bool two, .int .i64 k, .int .i64 v]] w' fun v w => asB v fun b => K (.bool b) w) :
    CallV Try.prog 32 #[.agg #[.pointer a0, .pointer a1], .agg #[.int .i64 kd, .bool two, .int .i64 k, .int .i64 v]] w K := by
  refine call32 _ _ _ _ _ _ w K ?_
  unfold F32
  refine alO fun w1 o1 b1 s1 => alO fun w2 o2 b2 s2 => ?_
  have o1 := o1.bl b2
  exact ldO (i := 0) o2 rfl (asI_of (ifD (fun h => absurd h hk) fun _ => ldO (i := 0) o1 rfl (asP_of (ldO (i := 1) o1 rfl (asP_of (ldO (i := 0) o2 rfl (asI_of (ldO (i := 1) o2 rfl (asB_of (ldO (i := 2) o2 rfl (asI_of (ldO (i := 3) o2 rfl (asI_of (h w2 (b1.trans b2)))))))))))))))
end
end Go.Proofs.Ytalhnoelkglgiaa.W
