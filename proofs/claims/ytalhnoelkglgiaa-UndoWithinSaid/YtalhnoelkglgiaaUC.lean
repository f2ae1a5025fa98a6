/- A table tells just that view (tells). No condition. -/
import Derived.Test.YtalhnoelkglgiaaUB
namespace Go.Proofs.Ytalhnoelkglgiaa.W
open Go Go.Proofs.Ytalhnoelkglgiaa.Sh Go.RowKit
set_option linter.unusedVariables false
set_option linter.unusedSimpArgs false
set_option maxRecDepth 100000
variable {w : World} {K : Value → World → Prop} {F : Nat → Prop} {tb N : Nat} {s : Hist}

theorem lenH {ks : List Int} (h : TabH w F tb s N) (hk : IsKeys s.M ks) (kk : K (.int .i64 (ks.length : Int)) w) : CallV Try.prog 22 #[.pointer (some ⟨tb, 0, none⟩)] w K := by
  obtain ⟨E, h1, h2, _⟩ := h
  have hn : (E.map (·.k)).Nodup := by
    obtain ⟨G, mb, c, bp, kp, bc, kc, cells, hd, _⟩ := h1
    exact hd.map.keys
  have hnd : ks.Nodup := hk.1.imp fun h => by omega
  have hp : (E.map (·.k)).Perm ks := (List.perm_ext_iff_of_nodup hn hnd).2 fun a => by rw [mem_look, h2, hk.2]
  have hl : E.length = ks.length := by have := hp.length_eq; simpa using this
  refine len h1 ?_
  rw [hl]; exact kk
theorem row_some {p : Option Addr} {n c i : Nat} {xs : List Value} (h : Row w (.slice p n c) 3 n xs) (hi : i < n) : ∃ g, p = some ⟨g, 0, none⟩ := by
  rcases h.form with ⟨_, h0⟩ | ⟨g, cap, hv, _⟩
  · omega
  · simp only [Value.slice.injEq] at hv; exact ⟨g, hv.1⟩

theorem tells {ks : List Int} {p1 p2 : Option Addr} {c1 c2 : Nat} (h : TabH w F tb s N) (hN : N < 500000000) (hk : IsKeys s.M ks) (hl : ks.length < 1073741823) (h1 : Row w (.slice p1 ks.length c1) 3 ks.length (ints ks)) (h2 : Row w (.slice p2 ks.length c2) 3 ks.length (ints (valsOf s.M ks)))
    (k : ∀ w', Bl w w' → K (.bool true) w') : CallV Try.prog 19 #[.pointer (some ⟨tb, 0, none⟩), .agg #[.slice p1 ks.length c1, .slice p2 ks.length c2]] w K := by
  refine call19 _ p1 ks.length c1 p2 ks.length c2 w K ?_
  unfold F19
  refine alO fun w1 o1 b1 s1 => ?_
  unfold drewK
  have bd : Bl w1 w1.drew := (Bl.refl w1).drew
  have b0 := b1.trans bd
  refine ldO (i := 0) (o1.bl bd) rfl (asL_of (lenH (h.bl b0) hk (asI_of ⟨ldO (i := 0) (o1.bl bd) rfl (asL_of rfl), rfl, ifNe (fun hne => absurd rfl hne) fun _ => ldO (i := 0) (o1.bl bd) rfl (asL_of (keysH (h.bl b0) hN fun w3 g cap ls hls hll hr hg b3 => asL_of ⟨ldO (i := 0) ((o1.bl bd).bl b3) rfl (asL_of rfl), ?_⟩))⟩)))
  have e := keys_len hls hk
  subst e
  refine sameInts hr ((h1.bl b0).bl b3) (by omega) fun w5 b5 => asB_of (ifB_f (by simp) ?_)
  unfold J19_0
  have b05 := (b0.trans b3).trans b5
  have o5 : Own w5 w.heap.size _ _ := ((o1.bl bd).bl b3).bl b5
  have hvl : (valsOf s.M ls).length = ls.length := by simp [valsOf]
  have loop : ∀ (m i : Nat) (w' : World), i + m = ls.length → Bl w w' → Own w' w.heap.size #[.slice p1 ls.length c1, .slice p2 ls.length c2] 31 → L19_1 K (m + 1) (some ⟨tb, 0, none⟩) ⟨w.heap.size, 0, none⟩ (i : Int) w' := by
    intro m
    induction m with
    | zero =>
      intro i w' hi hb o
      simp only [L19_1]
      exact ldO (i := 0) o rfl (asL_of (ifD (fun h => by omega) fun _ => k w' hb))
    | succ m ih =>
      intro i w' hi hb o
      rw [L19_1]
      simp only []
      have hlt : i < ls.length := by omega
      obtain ⟨g1, rfl⟩ := row_some h1 hlt
      obtain ⟨g2, rfl⟩ := row_some h2 hlt
      have q : ∀ j (hj : j < ls.length), (ints ls)[j]? = some (.int .i64 ls[j]) := fun j hj => by simp [ints, hj]
      have q2 : (ints (valsOf s.M ls))[i]? = some (.int .i64 ((s.M ls[i]).getD 0)) := by simp [ints, valsOf, hlt]
      refine ldO (i := 0) o rfl (asL_of (ifD (fun _ => ?_) fun h => by omega))
      refine ldO (i := 0) o rfl (asL_of (ixS (z := 1) u29 s3 (by omega) (by omega) (show asA (.pointer (some _)) _ from ?_)))
      rw [addAt]
      refine ldI ((h1.bl hb).cell (q i hlt)) (getH (h.bl hb) (t2 ?_))
      have hsome : (s.M ls[i]).isSome = true := (hk.2 _).1 (List.getElem_mem hlt)
      rw [hsome]
      unfold drewK
      have bd' : Bl w' w'.drew := (Bl.refl w').drew
      have hb' := hb.trans bd'
      have od := o.bl bd'
      refine ifB_f rfl (ldO (i := 1) od rfl (asL_of (ixS (z := 1) u29 s3 (by omega) (by omega) (show asA (.pointer (some _)) _ from ?_))))
      rw [addAt]
      refine ldI ((h2.bl hb').cell q2) (ifNe (fun hne => absurd rfl hne) fun _ => ?_)
      have next : J19_3 K (L19_1 K (m + 1)) (some ⟨tb, 0, none⟩) ⟨w.heap.size, 0, none⟩ (i : Int) false w'.drew := by
        unfold J19_3 J19_2
        refine ifB_f rfl ?_
        rw [show IntKind.wrap .i64 ((i : Int) + 1) = ((i + 1 : Nat) : Int) by rw [i64w (by omega) (by omega)]; rfl]
        exact ih (i + 1) _ (by omega) hb' od
      refine ifD (fun hpos => ?_) fun _ => next
      have hi1 : IntKind.wrap .i64 ((i : Int) - 1) = ((i - 1 : Nat) : Int) := by rw [i64w (by omega) (by omega)]; omega
      rw [hi1]
      refine ldO (i := 0) od rfl (asL_of (ixS (z := 1) u29 s3 (by omega) (by omega) (show asA (.pointer (some _)) _ from ?_)))
      rw [addAt]
      refine ldI ((h1.bl hb').cell (q (i - 1) (by omega))) (ldO (i := 0) od rfl (asL_of (ixS (z := 1) u29 s3 (by omega) (by omega) (show asA (.pointer (some _)) _ from ?_))))
      rw [addAt]
      refine ldI ((h1.bl hb').cell (q i hlt)) ?_
      have hless : ls[i - 1]'(by omega) < ls[i] := List.pairwise_iff_getElem.1 hk.1 (i - 1) i (by omega) hlt (by omega)
      rw [decide_eq_false (show ¬ (ls[i - 1]'(by omega) ≥ ls[i]) by omega)]
      exact next
  exact ⟨ls.length + 1, loop ls.length 0 w5 (by omega) b05 o5⟩
end Go.Proofs.Ytalhnoelkglgiaa.W
