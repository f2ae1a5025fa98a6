/- Something is set, marked, changed and gone back from (awake): it is as the document says. No condition. -/
import Derived.Test.YtalhnoelkglgiaaUK
namespace Go.Proofs.Ytalhnoelkglgiaa.W
open Go Go.Proofs.Ytalhnoelkglgiaa.Sh Go.RowKit
set_option linter.unusedVariables false
set_option linter.unusedSimpArgs false
set_option maxRecDepth 100000
variable {w w' : World} {K : Value → World → Prop} {Z F G : Nat → Prop} {tb rb N : Nat} {s : Hist} {L : Pairs} {O : List Pairs}
def h0 : Hist := ⟨fun _ => none, [], []⟩
theorem newH (k : ∀ w' F tb, TabH w' F tb h0 0 → (∀ x, F x → w.heap.size ≤ x ∧ x < w'.heap.size) → Bl w w' → K (.pointer (some ⟨tb, 0, none⟩)) w') : CallV Try.prog 10 #[] w K :=
  new fun w' F tb ht hf hb => k w' (fun x => F x ∧ x < w'.heap.size) tb (TabH.cut ⟨[], ht, fun _ => rfl, Nat.le_refl _, Nat.le_refl _, (fun n hn => by cases hn), List.Pairwise.nil⟩) (fun x hx => ⟨hf x hx.1, hx.2⟩) hb
theorem g2p {p q : Option Addr} {F : Option Addr → Option Addr → Prop} (h : F p q) : asG (.agg #[.pointer p, .pointer q]) fun q0 => asHd q0 fun x0 q1 => asP x0 fun p => asHd q1 fun x1 q2 => asP x1 fun q => asEnd q2 (F p q) := h
theorem made (k : ∀ w' tb rb, Sd w' (fun x => x < w.heap.size) tb rb h0 0 [] [] → Bl w w' → K (.agg #[.pointer (some ⟨tb, 0, none⟩), .pointer (some ⟨rb, 0, none⟩)]) w') : CallV Try.prog 31 #[] w K := by
  refine call31 w K ?_
  unfold F31
  refine alO fun w1 o1 b1 s1 => newH fun w2 F tb ht hf b2 => asP_of (rnew fun w3 G rb hr hg b3 => asP_of ?_)
  have o13 := (o1.bl b2).bl b3
  have b := (b1.trans b2).trans b3
  have z2 := b2.size
  have z3 := b3.size
  refine stAll (b := w.heap.size) (vs := #[.pointer (some ⟨tb, 0, none⟩), .pointer (some ⟨rb, 0, none⟩)]) o13 (by kernel_rfl) rfl (by kernel_rfl) fun w4 o4 e4 => ?_
  have z4 := e4.size
  refine ldO (i := 0) o4 rfl (asP_of (ldO (i := 1) o4 rfl (asP_of (k w4 tb rb ⟨F, G, (ht.bl b3).ext e4 fun x hx e => ?_, hr.ext e4 fun x hx e => ?_, fun x hx hg' => ?_, fun x hx => ?_, fun x hx => ?_, fun x hx => ?_⟩ (((Ext.of_bl b).trans e4 fun _ _ h => h).bl fun x hx e => by omega)))))
  · have := hf x hx; omega
  · have := hg x hx; omega
  · have := hf x hx; have := hg x hg'; omega
  · have := hf x hx; exact ⟨by omega, by omega⟩
  · have := hg x hx; exact ⟨by omega, by omega⟩
  · omega
theorem SdD.wide {Z' : Nat → Prop} (h : SdD w Z F G tb rb s N L O) (b : Bl w w') (hz : ∀ x, Z' x → Z x ∨ (w.heap.size ≤ x ∧ x < w'.heap.size)) : SdD w' Z' F G tb rb s N L O := by
  have h' := h.bl b
  refine ⟨h'.t, h'.r, h'.d, fun x hx => ⟨fun hh => ?_, (h'.lF x hx).2⟩, fun x hx => ⟨fun hh => ?_, (h'.lG x hx).2⟩, fun x hx => ?_⟩
  · have := (h.lF x hx)
    rcases hz x hh with h1 | h1
    · exact this.1 h1
    · omega
  · have := (h.lG x hx)
    rcases hz x hh with h1 | h1
    · exact this.1 h1
    · omega
  · rcases hz x hx with h1 | h1
    · exact h'.lZ x h1
    · omega
theorem addOff (g j n : Nat) : (⟨g, j, none⟩ : Addr).add n = ⟨g, j + n, none⟩ := by
  unfold Addr.add; split
  · subst_vars; rfl
  · rfl
theorem ldOa {P : Program} {b i j : Nat} {cs : Array Value} {t : TypeId} {v : Value} {F : Value → Prop} (h : Own w b cs t) (hv : cs[i + j]? = some v) (k : F v) : ldK P w ((⟨b, i, none⟩ : Addr).add j) F := by
  rw [addOff]; exact ldO h hv k
theorem awStep {x y : Nat} {cs : Array Value} {kd k v : Int} {i m : Nat} (hx : Own w x #[.pointer (some ⟨tb, 0, none⟩), .pointer (some ⟨rb, 0, none⟩)] 62) (hy : Own w y cs 64) (hi : i < 9)
    (c0 : cs[i * 4]? = some (.int .i64 kd)) (c1 : cs[i * 4 + 1]? = some (.bool false)) (c2 : cs[i * 4 + 2]? = some (.int .i64 k)) (c3 : cs[i * 4 + 3]? = some (.int .i64 v))
    (h : CallV Try.prog 32 #[.agg #[.pointer (some ⟨tb, 0, none⟩), .pointer (some ⟨rb, 0, none⟩)], .agg #[.int .i64 kd, .bool false, .int .i64 k, .int .i64 v]] w.drew fun u w' => asB u fun b => ifB (!b) (K (.bool false) w') (L20_1 K m ⟨x, 0, none⟩ ⟨y, 0, none⟩ ((i + 1 : Nat) : Int) w')) :
    L20_1 K (m + 1) ⟨x, 0, none⟩ ⟨y, 0, none⟩ (i : Int) w := by
  rw [L20_1]
  simp only []
  refine ifD (fun _ => ?_) fun h => by omega
  unfold drewK
  rw [show IntKind.wrap .i64 ((i : Int) + 1) = ((i + 1 : Nat) : Int) by rw [i64w (by omega) (by omega)]; rfl]
  have bd : Bl w w.drew := (Bl.refl w).drew
  have hx := hx.bl bd
  have hy := hy.bl bd
  refine ldO (i := 0) hx rfl (asP_of (ldO (i := 1) hx rfl (asP_of (ixA (z := 4) (e := 27) (n := 9) (by kernel_rfl) (by kernel_rfl) (by omega) (by omega) (show asA (.pointer (some _)) _ from ?_)))))
  rw [Int.toNat_natCast, addG]
  exact ldO hy c0 (asI_of (ldOa hy c1 (asB_of (ldOa hy c2 (asI_of (ldOa hy c3 (asI_of h)))))))

theorem sameB : Same (((h0.set 1 10).mark.set 1 11).set 0 5) [(0, 5), (1, 11)] := by
  refine ⟨⟨by decide, fun k => ?_⟩, fun p hp => ?_⟩
  · by_cases h0 : k = 0 <;> by_cases h1 : k = 1 <;> simp [Hist.set, Hist.mark, W.h0, h0, h1]
  · simp at hp; rcases hp with rfl | rfl <;> simp [Hist.set, Hist.mark]
theorem sameE : Same (h0.set 1 10) [(1, 10)] := by
  refine ⟨⟨by decide, fun k => ?_⟩, fun p hp => ?_⟩
  · by_cases h1 : k = 1 <;> simp [Hist.set, Hist.mark, W.h0, h1]
  · simp at hp; subst hp; simp [Hist.set, Hist.mark]
theorem tt {p q : Prop} (h : q) : asB (.bool true) fun b => asB (.bool b) fun b => ifB (!b) p q := h
theorem awake (kk : ∀ w', Bl w w' → K (.bool true) w') : CallV Try.prog 20 #[] w K := by
  refine call20 w K ?_
  unfold F20
  refine made fun w1 tb rb hs b1 => g2p (alO fun w2 o2 b2 s2 => stAll (b := w1.heap.size) (vs := #[.pointer (some ⟨tb, 0, none⟩), .pointer (some ⟨rb, 0, none⟩)]) o2 (by kernel_rfl) rfl (by kernel_rfl) fun w3 o3 e3 => ldO (i := 0) o3 rfl (asP_of (ifB_f rfl (alO fun w4 o4 b4 s4 => ?_))))
  refine stAll (b := w3.heap.size) o4 (by kernel_rfl) rfl (by kernel_rfl) fun w5 o5 e5 => ?_
  obtain ⟨F, G, hs⟩ := hs
  have z1 := b1.size
  have z2 := b2.size
  have z3 := e3.size
  have z4 := b4.size
  have z5 := e5.size
  have b13 : Bl w1 w3 := ((Ext.of_bl b2).trans e3 fun _ _ h => h).bl fun x hx e => by omega
  have b15 : Bl w1 w5 := ((Ext.of_bl (S := fun x => x = w3.heap.size) (b13.trans b4)).trans e5 fun _ _ h => h).bl fun x hx e => by omega
  have hx5 : Own w5 w1.heap.size _ 62 := (o3.bl b4).ext e5 (by omega)
  have q : Sd w5 (fun x => x < w.heap.size ∨ x = w1.heap.size ∨ x = w3.heap.size) tb rb h0 0 [] [] := ⟨F, G, hs.wide b15 fun x hx => by
    rcases hx with hx | rfl | rfl
    · exact .inl hx
    · exact .inr ⟨by omega, by omega⟩
    · exact .inr ⟨by omega, by omega⟩⟩
  clear hs o2 o3 o4
  have b05 := b1.trans b15
  generalize hZ : (fun x => x < w.heap.size ∨ x = w1.heap.size ∨ x = w3.heap.size) = Z at q
  have zx : Z w1.heap.size := by rw [← hZ]; exact .inr (.inl rfl)
  have zy : Z w3.heap.size := by rw [← hZ]; exact .inr (.inr rfl)
  have zb : ∀ x, x < w.heap.size → Z x := fun x hx => by rw [← hZ]; exact .inl hx
  generalize w1.heap.size = x at hx5 zx ⊢
  generalize w3.heap.size = y at o5 zy ⊢
  generalize hcs : (#[_, _, _, _, _, _, _, _, _, _, _, _, _, _, _, _, _, _, _, _, _, _, _, _, _, _, _, _, _, _, _, _, _, _, _, _] : Array Value) = cs at o5
  have go : ∀ {wa wb : World} {tb rb} , Ext (fun x => ¬ Z x) wa wb → Own wa x #[.pointer (some ⟨tb, 0, none⟩), .pointer (some ⟨rb, 0, none⟩)] 62 → Own wa y cs 64 → Own wb x #[.pointer (some ⟨tb, 0, none⟩), .pointer (some ⟨rb, 0, none⟩)] 62 ∧ Own wb y cs 64 := fun e h1 h2 => ⟨h1.ext e fun h => h zx, h2.ext e fun h => h zy⟩
  have sbl : ∀ {wa wb s N L O}, Sd wa Z tb rb s N L O → Bl wa wb → Sd wb Z tb rb s N L O := fun ⟨F, G, h⟩ b => ⟨F, G, h.bl b⟩
  have dr : ∀ w : World, Bl w w.drew := fun w => (Bl.refl w).drew
  -- the nine steps
  refine ⟨10, ?_⟩
  subst hcs
  refine awStep (i := 0) hx5 o5 (by decide) rfl rfl rfl rfl (stepM (by decide) fun wa ba => movedSet (sbl q ((dr _).trans ba)) (by decide) (by decide) fun v1 q1 e1 => tt ?_)
  have f1 := extNZ (Ext.of_bl ((dr w5).trans ba)) e1
  obtain ⟨x1, y1⟩ := go f1 hx5 o5
  clear e1 ba
  have d1 : setL [] 1 10 = [(1, 10)] := by decide
  rw [d1] at q1
  refine awStep (i := 1) x1 y1 (by decide) rfl rfl rfl rfl (stepM (by decide) fun wa ba => movedMark (sbl q1 ((dr _).trans ba)) (by decide) (by decide) (by decide) rfl fun v2 q2 e2 => tt ?_)
  have f2 := extNZ (Ext.of_bl ((dr v1).trans ba)) e2
  obtain ⟨x2, y2⟩ := go f2 x1 y1
  clear e2 ba
  refine awStep (i := 2) x2 y2 (by decide) rfl rfl rfl rfl (stepM (by decide) fun wa ba => movedSet (sbl q2 ((dr _).trans ba)) (by decide) (by decide) fun v3 q3 e3 => tt ?_)
  have f3 := extNZ (Ext.of_bl ((dr v2).trans ba)) e3
  obtain ⟨x3, y3⟩ := go f3 x2 y2
  clear e3 ba
  have d3 : setL [(1, 10)] 1 11 = [(1, 11)] := by decide
  rw [d3] at q3
  refine awStep (i := 3) x3 y3 (by decide) rfl rfl rfl rfl (stepM (by decide) fun wa ba => movedSet (sbl q3 ((dr _).trans ba)) (by decide) (by decide) fun v4 q4 e4 => tt ?_)
  have f4 := extNZ (Ext.of_bl ((dr v3).trans ba)) e4
  obtain ⟨x4, y4⟩ := go f4 x3 y3
  clear e4 ba
  have d4 : setL [(1, 11)] 0 5 = [(0, 5), (1, 11)] := by decide
  rw [d4] at q4
  refine awStep (i := 4) x4 y4 (by decide) rfl rfl rfl rfl (stepA (by decide) fun wa ba => askedKeys (sbl q4 ((dr _).trans ba)) (by decide) (by decide) sameB fun v5 q5 e5 => tt ?_)
  have f5 := extNZ (Ext.of_bl ((dr v4).trans ba)) e5
  obtain ⟨x5, y5⟩ := go f5 x4 y4
  clear e5 ba
  refine awStep (i := 5) x5 y5 (by decide) rfl rfl rfl rfl (stepM (by decide) fun wa ba => movedBack (a := 0) (M := [(1, 10)]) (sbl q5 ((dr _).trans ba)) (by decide) (by decide) rfl (by decide) fun v6 q6 e6 => tt ?_)
  have f6 := extNZ (Ext.of_bl ((dr v5).trans ba)) e6
  obtain ⟨x6, y6⟩ := go f6 x5 y5
  clear e6 ba
  have d6 : (((h0.set 1 10).mark.set 1 11).set 0 5).back 0 = h0.set 1 10 := (((keep_mark (h0.set 1 10)).set 1 11).set 0 5).gone
  rw [d6] at q6
  refine awStep (i := 6) x6 y6 (by decide) rfl rfl rfl rfl (stepA (by decide) fun wa ba => askedGet (sbl q6 ((dr _).trans ba)) (by decide) (by decide) fun v7 q7 e7 => tt ?_)
  have f7 := extNZ (Ext.of_bl ((dr v6).trans ba)) e7
  obtain ⟨x7, y7⟩ := go f7 x6 y6
  clear e7 ba
  refine awStep (i := 7) x7 y7 (by decide) rfl rfl rfl rfl (stepA (by decide) fun wa ba => askedKeys (sbl q7 ((dr _).trans ba)) (by decide) (by decide) sameE fun v8 q8 e8 => tt ?_)
  have f8 := extNZ (Ext.of_bl ((dr v7).trans ba)) e8
  obtain ⟨x8, y8⟩ := go f8 x7 y7
  clear e8 ba
  refine awStep (i := 8) x8 y8 (by decide) rfl rfl rfl rfl (stepA (by decide) fun wa ba => askedLen (sbl q8 ((dr _).trans ba)) (by decide) sameE rfl fun v9 q9 e9 => tt ?_)
  have f9 := extNZ (Ext.of_bl ((dr v8).trans ba)) e9
  obtain ⟨x9, y9⟩ := go f9 x8 y8
  clear e9 ba
  simp only [L20_1]
  refine ifB_f rfl ?_
  unfold J20_0
  obtain ⟨F, G, _, ⟨G', p, op, c, oc, vals, hd, _⟩, _⟩ := q9
  refine ldO (i := 1) x9 rfl (asP_of (optP_of (ldO (i := 0) hd.own rfl (asL_of (kk v9 ?_)))))
  have f := extNZ (extNZ (extNZ (extNZ (extNZ (extNZ (extNZ (extNZ (extNZ (Ext.of_bl (S := fun x => ¬ Z x) b05) f1) f2) f3) f4) f5) f6) f7) f8) f9
  exact f.bl fun x hx hz => hz (zb x hx)
end Go.Proofs.Ytalhnoelkglgiaa.W
