/- The table: Forget; two rows of numbers compared. No condition. -/
import Derived.Test.YtalhnoelkglgiaaU6
import Derived.Test.YtalhnoelkglgiaaW1
namespace Go.Proofs.Ytalhnoelkglgiaa.W
open Go Go.Proofs.Ytalhnoelkglgiaa.Sh Go.RowKit
set_option linter.unusedVariables false
set_option linter.unusedSimpArgs false
set_option maxRecDepth 100000
variable {w : World} {K : Value → World → Prop}
variable {F G : Nat → Prop} {tb mb c bc kc : Nat} {bp kp : Option Addr} {cells : List Value} {E : List E3} {B : List Un} {ms : List Nat}

/-- A whole row, wiped. -/
theorem wipeAll {P : Program} {t e n : Nat} {xs : List Value} {p : Option Addr} {c ty : Nat} {z : Value} {F : Value → World → Prop} (h : Row w (.slice p n c) e n xs) (ht : P.underlying t = some (.slice e)) (hz : ∀ w, (zeroValue e).run P w = .ok z w) (hz1 : z.cells = #[z]) (h1 : z.oneCell' = true)
    (kk : ∀ w', Row w' (.slice p n c) e n (List.replicate n z) → Ext (Blk (.slice p n c)) w w' → F (.tuple #[]) w') : semK P (Builtin.clear_ #[t] ty #[.slice p n c]) w F := by
  have hl := h.len
  by_cases hn : n = 0
  · subst hn
    have hx : xs = [] := List.length_eq_zero_iff.1 hl
    subst hx
    refine semK_of (v := .tuple #[]) (w' := w) ?_ (kk w h (Ext.refl w))
    cases p <;> simp [Builtin.clear_, run_underlying ht, Result.andThen]
  rcases h.2 with ⟨h0, h2⟩ | ⟨g, cap, cur, hv, hb, hg, hc, hm, hs, htk⟩
  · omega
  · simp only [Value.slice.injEq, true_and] at hv
    obtain ⟨rfl, rfl⟩ := hv
    have hst := run_storeCells_at P g 0 e (List.replicate n z) 0 cur w hg (by simp [hs]; omega) (fun v hv => by rw [List.eq_of_mem_replicate hv]; exact h1)
    have hzc : (Builtin.zeroCells z.cells n).toList = List.replicate n z := by
      rw [hz1]
      simp only [Builtin.zeroCells, Array.toList_map, List.size_toArray, List.length_cons, List.length_nil, Nat.zero_add, Nat.mul_one, Nat.mod_one, Array.toList_range]
      show List.map (fun _ => z) (List.range n) = _
      rw [List.map_const']; simp
    simp only [Nat.add_zero, List.length_replicate, Nat.zero_add, List.take_zero, List.nil_append] at hst
    refine semK_of (v := .tuple #[]) (w' := w.setRow g (List.replicate n z ++ cur.toList.drop n).toArray) ?_ (kk _ ⟨?_, .inr ⟨g, c, (List.replicate n z ++ cur.toList.drop n).toArray, rfl, Nat.zero_le _, ?_, hc, hm, ?_, ?_⟩⟩ ?_)
    · unfold Builtin.clear_
      simp only [List.getElem?_toArray, List.getElem?_cons_zero, Sem.run_bind, run_underlying ht, Result.andThen_ok]
      rw [hz]
      simp only [Result.andThen_ok]
      rw [hzc, hst]
      rfl
    · simp
    · unfold World.setRow
      simp only [Array.getElem?_modify, if_true, hg]
      rfl
    · simp [hs]; omega
    · rw [Nat.mul_one, List.take_left' (by simp)]
    · refine ⟨rfl, rfl, rfl, by simp [World.setRow], fun k hk hb => ?_⟩
      simp only [World.setRow, Array.getElem?_modify]
      rw [if_neg fun e => hb (by rw [← e]; rfl)]

/-- Two rows of numbers. -/
theorem sameInts {p1 p2 : Option Addr} {n1 n2 c1 c2 : Nat} {xs ys : List Int} (h1 : Row w (.slice p1 n1 c1) 3 n1 (ints xs)) (h2 : Row w (.slice p2 n2 c2) 3 n2 (ints ys)) (hn : n1 < 1073741824) (k : ∀ w', Bl w w' → K (.bool (decide (xs = ys))) w') :
    CallV Try.prog 28 #[.slice p1 n1 c1, .slice p2 n2 c2] w K := by
  refine call28 _ _ _ _ _ _ w K ?_
  unfold F28
  have l1 : xs.length = n1 := by have := h1.len; simpa [ints] using this
  have l2 : ys.length = n2 := by have := h2.len; simpa [ints] using this
  refine ifNe (fun hne => ?_) fun he => ?_
  · have : ¬ xs = ys := fun e => hne (by rw [← l1, ← l2, e])
    have kk := k w (Bl.refl w); rw [decide_eq_false this] at kk; exact kk
  · have he : n1 = n2 := by omega
    subst he
    refine ⟨n1 + 1, ?_⟩
    have loop : ∀ (m j : Nat) (w' : World), j + m = n1 → Bl w w' → xs.take j = ys.take j → L28_0 K (m + 1) p1 n1 c1 p2 n1 c2 (j : Int) w' := by
      intro m
      induction m with
      | zero =>
        intro j w' hj hb heq
        simp only [L28_0]
        refine ifD (fun h => by omega) fun _ => ?_
        have : xs = ys := by rw [List.take_of_length_le (by omega), List.take_of_length_le (by omega)] at heq; exact heq
        have kk := k w' hb; rw [decide_eq_true this] at kk; exact kk
      | succ m ih =>
        intro j w' hj hb heq
        rw [L28_0]
        simp only []
        refine ifD (fun _ => ?_) fun h => by omega
        unfold drewK
        have hd : Bl w' w'.drew := (Bl.refl w').drew
        have g1 := h1.bl (hb.trans hd)
        have g2 := h2.bl (hb.trans hd)
        obtain ⟨a1, cap1, e1⟩ : ∃ g cap, (Value.slice p1 n1 c1) = .slice (some ⟨g, 0, none⟩) n1 cap := by
          rcases g1.form with ⟨_, h0⟩ | ⟨g, cap, h, _⟩
          · omega
          · exact ⟨g, cap, h⟩
        obtain ⟨a2, cap2, e2⟩ : ∃ g cap, (Value.slice p2 n1 c2) = .slice (some ⟨g, 0, none⟩) n1 cap := by
          rcases g2.form with ⟨_, h0⟩ | ⟨g, cap, h, _⟩
          · omega
          · exact ⟨g, cap, h⟩
        simp only [Value.slice.injEq, true_and] at e1 e2
        obtain ⟨rfl, rfl⟩ := e1
        obtain ⟨rfl, rfl⟩ := e2
        have had : ∀ a : Nat, (⟨a, 0, none⟩ : Addr).add ((j : Int).toNat * 1) = ⟨a, j, none⟩ := by
          intro a
          simp only [Addr.add, Int.toNat_natCast, Nat.mul_one, Nat.zero_add]
          try (simp; try omega)
        have q1 : (ints xs)[j]? = some (.int .i64 (xs[j]'(by omega))) := by
          have : j < xs.length := by omega
          simp [ints, this]
        have q2 : (ints ys)[j]? = some (.int .i64 (ys[j]'(by omega))) := by
          have : j < ys.length := by omega
          simp [ints, this]
        refine ixS (z := 1) u29 s3 (by omega) (by omega) (show asA (.pointer (some _)) _ from ?_)
        rw [had]
        refine ldI (g1.cell q1) (ixS (z := 1) u29 s3 (by omega) (by omega) (show asA (.pointer (some _)) _ from ?_))
        rw [had]
        refine ldI (g2.cell q2) (ifNe (fun hne => ?_) fun heq2 => ?_)
        · have : ¬ xs = ys := fun e => hne (by subst e; rfl)
          have kk := k _ (hb.trans hd); rw [decide_eq_false this] at kk; exact kk
        · rw [show IntKind.wrap .i64 ((j : Int) + 1) = ((j + 1 : Nat) : Int) by rw [i64w (by omega) (by omega)]; rfl]
          refine ih (j + 1) _ (by omega) (hb.trans hd) ?_
          have hx : j < xs.length := by omega
          have hy : j < ys.length := by omega
          rw [List.take_succ_eq_append_getElem hx, List.take_succ_eq_append_getElem hy, heq, heq2]
    exact loop n1 0 w (by omega) (Bl.refl w) rfl
end Go.Proofs.Ytalhnoelkglgiaa.W
