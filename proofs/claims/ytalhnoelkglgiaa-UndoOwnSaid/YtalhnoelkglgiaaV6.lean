/- UndoOrders, walked: it returns true. No condition. -/
import Derived.Test.YtalhnoelkglgiaaV5
namespace Go.Proofs.Ytalhnoelkglgiaa.W
open Go Go.Proofs.Ytalhnoelkglgiaa.Sh Go.RowKit
set_option linter.unusedVariables false
set_option linter.unusedSimpArgs false
set_option maxRecDepth 100000
variable {w w' w0 : World} {K : Value → World → Prop} {Z F G : Nat → Prop} {tb N : Nat} {s : Hist}
/-- Each key once. -/
def Once (M : Int → Option Int) (ls : List Int) : Prop := ls.Nodup ∧ ∀ k, k ∈ ls ↔ (M k).isSome = true
theorem tPerm (h : TabH w F tb s N) {E : List E3} {ls : List Int} (h1 : Tab w F tb E s.B s.ms) (h2 : ∀ j, lkE E j = s.M j) (hp : ls.Perm (E.map (·.k))) : Once s.M ls := by
  have hnE : (E.map (·.k)).Nodup := by
    obtain ⟨G, mb, c, bp, kp, bc, kc, cells, hd, _⟩ := h1
    exact hd.map.keys
  exact ⟨hp.nodup_iff.2 hnE, fun k => by rw [hp.mem_iff, mem_look, h2]⟩
theorem Once.len {M : Int → Option Int} {ls ks : List Int} (h : Once M ls) (hk : Once M ks) : ls.length = ks.length :=
  ((List.perm_ext_iff_of_nodup h.1 hk.1).2 fun a => by rw [h.2, hk.2]).length_eq
theorem IsKeys.once {M : Int → Option Int} {ks : List Int} (h : IsKeys M ks) : Once M ks := ⟨h.nodup, h.2⟩
theorem tKeysBy {f : Nat} {cf : Int → Int → Int} (h : Tb w Z tb s N) (hN : N < 500000000) (hO : Sort.SWO (Go.Proofs.ltOf cf)) (eg : ∀ args w, (callFunc f args).run Try.prog w = .ok (.enter f args) w) (hcmp : ∀ x y W, CallV Try.prog f #[.int .i64 x, .int .i64 y] W fun v W' => v = .int .i64 (cf x y) ∧ W' = W)
    (kk : ∀ w' g cap ks, Once s.M ks → ks.Pairwise (fun a b => ¬ cf b a < 0) → Row w' (.slice (some ⟨g, 0, none⟩) ks.length cap) 3 ks.length (ints ks) → w.heap.size ≤ g → Bl w w' → K (.slice (some ⟨g, 0, none⟩) ks.length cap) w') :
    CallV Try.prog 23 #[.pointer (some ⟨tb, 0, none⟩), .func (.func f) #[] #[]] w K := by
  obtain ⟨F, h⟩ := h
  have ht := h.t
  obtain ⟨E, h1, h2, h3, h4⟩ := h.t
  exact keysBy h1 (by omega) hO eg hcmp fun w' g cap ks hp hs hr hg hb => kk w' g cap ks (tPerm ht h1 h2 hp) hs hr hg hb
theorem tKeysNo (h : Tb w Z tb s N) (hN : N < 500000000)
    (kk : ∀ w' g cap ks, Once s.M ks → Row w' (.slice (some ⟨g, 0, none⟩) ks.length cap) 3 ks.length (ints ks) → w.heap.size ≤ g → Bl w w' → K (.slice (some ⟨g, 0, none⟩) ks.length cap) w') :
    CallV Try.prog 23 #[.pointer (some ⟨tb, 0, none⟩), .nilFunc] w K := by
  obtain ⟨F, h⟩ := h
  have ht := h.t
  obtain ⟨E, h1, h2, h3, h4⟩ := h.t
  exact keysNo h1 (by omega) fun w' g cap ks hp hr hg hb => kk w' g cap ks (tPerm ht h1 h2 hp) hr hg hb
theorem fall_rev {M : Int → Option Int} {ls ks : List Int} (h : Once M ls) (hs : ls.Pairwise (fun a b => ¬ fallN b a < 0)) (hk : IsKeys M ks) : ls = ks.reverse := by
  have : IsKeys M ls.reverse := by
    refine ⟨?_, fun k => by rw [List.mem_reverse]; exact h.2 k⟩
    rw [List.pairwise_reverse]
    refine (hs.and h.1).imp fun {a b} hab => ?_
    obtain ⟨h1, h2⟩ := hab
    have : ¬ a < b := fun h => h1 (by unfold fallN riseN; rw [if_pos h]; decide)
    omega
  rw [← keys_len this hk, List.reverse_reverse]
theorem undoOrders {p : Option Addr} {c : Nat} {ops : List OpV} (hs : Script w p c ops) (kk : ∀ w', Bl w w' → K (.bool true) w') : CallV Try.prog 6 #[.slice p ops.length c] w K := by
  refine call6 p ops.length c w K ?_
  unfold F6
  refine ifD (fun _ => kk w (Bl.refl w)) fun hmost => tNew fun w1 tb ht b1 => asP_of (ifB_f rfl (tSet ht (by decide) fun w2 ht2 e2 => t0 ?_))
  have b2 := blNZ b1 e2 fun x hx => hx
  have main : ∀ w1 s, Bl w w1 → Tb w1 (fun x => x < w.heap.size) tb s (ops.length + 1) → J6_0 K (some ⟨tb, 0, none⟩) w1 := by
    intro w1 s b1 ht
    unfold J6_0
    refine tSeen ht (by omega) fun w2 p1 c1 p2 c2 ks hv hkl b2 => g2l (alO fun w3 o3 b3 s3 => stAll (b := w2.heap.size) (vs := #[.slice p1 ks.length c1, .slice p2 ks.length c2]) o3 (by kernel_rfl) rfl (by kernel_rfl) fun w4 o4 e4 => ?_)
    have z2 := b2.size
    have z3 := b3.size
    have b14 : Bl w1 w4 := ((Ext.of_bl (S := fun x => x = w2.heap.size) (b2.trans b3)).trans e4 fun _ _ h => h).bl fun x hx e => by omega
    have hv4 := (hv.bl b3).ext e4 fun b hb e => by omega
    have ht4 := ht.bl b14
    have b04 := b1.trans b14
    generalize w2.heap.size = x at o4 ⊢
    refine tKeysBy ht4 (by omega) fallO eg24 falling fun w5 g5 cap5 l5 hl5 hs5 hr5 hg5 b5 => asL_of ?_
    refine tKeysBy (ht4.bl b5) (by omega) flatO eg25 flat fun w6 g6 cap6 l6 hl6 hs6 hr6 hg6 b6 => asL_of ?_
    refine tKeysNo (ht4.bl (b5.trans b6)) (by omega) fun w7 g7 cap7 l7 hl7 hr7 hg7 b7 => asL_of ?_
    have b47 := (b5.trans b6).trans b7
    have o7 := o4.bl b47
    have hko := hv.keys.once
    have n5 := hl5.len hko
    have n6 := hl6.len hko
    have n7 := hl7.len hko
    have e5 := fall_rev hl5 hs5 hv.keys
    refine ldO (i := 0) o7 rfl (asL_of (ifB_f (by rw [n5]; simp) (ifB_f (by rw [n6]; simp) (ifB_f (by rw [n7]; simp) ?_))))
    unfold J6_2
    have loop : ∀ (m i : Nat) (w' : World), i + m = ks.length → Bl w7 w' → L6_4 K (m + 1) (some ⟨tb, 0, none⟩) ⟨x, 0, none⟩ (some ⟨g5, 0, none⟩) l5.length cap5 (some ⟨g6, 0, none⟩) l6.length cap6 (some ⟨g7, 0, none⟩) l7.length cap7 (ks.length : Int) (i : Int) w' := by
      intro m
      induction m with
      | zero =>
        intro i w' hi b
        simp only [L6_4]
        refine ifD (fun h => by omega) fun _ => ?_
        unfold J6_3
        have o := o7.bl b
        refine ldO (i := 0) o rfl (asL_of (ldO (i := 1) o rfl (asL_of (tTells (ht4.bl (b47.trans b)) (by omega) rfl (hv4.bl (b47.trans b)) (by omega) fun w8 b8 => asB_of (ifB_t rfl (awake fun w9 b9 => asB_of (kk w9 ?_)))))))
        exact (((b04.trans b47).trans b).trans b8).trans b9
      | succ m ih =>
        intro i w' hi b
        rw [L6_4]
        simp only []
        have hlt : i < ks.length := by omega
        refine ifD (fun _ => ?_) fun h => by omega
        unfold drewK
        have b := b.drew
        have o := o7.bl b
        have hw := b47.trans b
        have hd : (ints l5)[i]? = some (.int .i64 ks[ks.length - 1 - i]) := by
          rw [ints_at (by omega)]
          congr 2
          simp only [e5]
          rw [List.getElem_reverse]
        have hix : IntKind.wrap .i64 (IntKind.wrap .i64 ((ks.length : Int) - 1) - (i : Int)) = ((ks.length - 1 - i : Nat) : Int) := by
          rw [i64w (n := (ks.length : Int) - 1) (by omega) (by omega), i64w (by omega) (by omega)]; omega
        rw [hix, i1w i (by omega)]
        have hmem : ks[i] ∈ ks := List.getElem_mem hlt
        have c6 : l6.count ks[i] = 1 := by rw [hl6.1.count, if_pos ((hl6.2 _).2 ((hko.2 _).1 hmem))]
        have c7 : l7.count ks[i] = 1 := by rw [hl7.1.count, if_pos ((hl7.2 _).2 ((hko.2 _).1 hmem))]
        have hv' := hv4.bl hw
        refine rowAt (hr5.bl ((b6.trans b7).trans b)) hd (ldO (i := 0) o rfl (asL_of (rowAt hv'.r1 (ints_at (show ks.length - 1 - i < ks.length by omega)) (ifB_f (by simp) ?_))))
        refine ldO (i := 0) o rfl (asL_of (rowAt hv'.r1 (ints_at hlt) (once (hr6.bl (b7.trans b)) (by omega) (asB_of (ifB_f (by simp [c6]) ?_)))))
        exact ldO (i := 0) o rfl (asL_of (rowAt hv'.r1 (ints_at hlt) (once (hr7.bl b) (by omega) (asB_of (ifB_f (by simp [c7]) (ih (i + 1) _ (by omega) b))))))
    exact ⟨ks.length + 1, loop ks.length 0 w7 (by omega) (Bl.refl w7)⟩
  have loop : ∀ (m i : Nat) (w1 : World), i + m = ops.length → Bl w w1 → Tb w1 (fun x => x < w.heap.size) tb ((h0.set 3 3).ops (ops.take i)) (i + 1) → L6_1 K (m + 1) p ops.length c (some ⟨tb, 0, none⟩) (i : Int) w1 := by
    intro m
    induction m with
    | zero =>
      intro i w1 hi b1 ht
      simp only [L6_1]
      exact ifD (fun h => by omega) fun _ => main w1 _ b1 (ht.mono (by omega))
    | succ m ih =>
      intro i w1 hi b1 ht
      rw [L6_1]
      simp only []
      have hlt : i < ops.length := by omega
      refine ifD (fun _ => ?_) fun h => by omega
      rw [i1w i (by omega)]
      refine doAt (hs.bl b1) hlt ht (by omega) fun w2 ht2 e2 => ih (i + 1) w2 (by omega) (blNZ b1 e2 fun x hx => hx) ?_
      rw [ops_take _ _ hlt]; exact ht2
  exact ⟨ops.length + 1, loop ops.length 0 w2 (by omega) b2 ht2⟩
theorem undoOrders_walk (p : Option Addr) (ops : List OpV) (c : Nat) (W : World) (h : Script W p c ops) : Walk 6 #[.slice p ops.length c] W :=
  walk_of (undoOrders h fun _ hb => ⟨rfl, hb⟩)
end Go.Proofs.Ytalhnoelkglgiaa.W
