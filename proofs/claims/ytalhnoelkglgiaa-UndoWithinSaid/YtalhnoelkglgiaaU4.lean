/- The table: Back, Forget. No condition. -/
import Derived.Test.YtalhnoelkglgiaaU3
namespace Go.Proofs.Ytalhnoelkglgiaa.W
open Go Go.Proofs.Ytalhnoelkglgiaa.Sh Go.RowKit
set_option linter.unusedVariables false
set_option maxRecDepth 100000
variable {w : World} {K : Value → World → Prop}
variable {F G : Nat → Prop} {tb mb c bc kc : Nat} {bp kp : Option Addr} {cells : List Value} {E : List E3} {B : List Un} {ms : List Nat}

theorem back_loop {a n L0 : Nat} {w0 : World} {M0 : Int → Option Int} (hl : B.length < 1073741824)
    (kend : ∀ w' c' E', TabD w' G tb mb c' bp kp bc kc cells E' B ms → Ext (Foot G tb mb bp kp) w0 w' → (∀ j, lkE E' j = undone (B.drop n) M0 j) → E'.length ≤ L0 + (B.length - n) → J18_1 K (some ⟨tb, 0, none⟩) a n w') :
    ∀ (m : Nat) (w : World) (c : Nat) (E1 : List E3), n + m ≤ B.length → TabD w G tb mb c bp kp bc kc cells E1 B ms → Ext (Foot G tb mb bp kp) w0 w → (∀ j, lkE E1 j = undone (B.drop (n + m)) M0 j) → E1.length ≤ L0 + (B.length - (n + m)) →
      L18_2 K (m + 1) (some ⟨tb, 0, none⟩) a n ((n : Int) + (m : Int) - 1) w := by
  intro m
  induction m with
  | zero =>
    intro w c E1 hm h e hE hL
    simp only [L18_2]
    exact ifD (fun h => by omega) fun _ => kend w c E1 h e hE hL
  | succ m ih =>
    intro w c E1 hm h e hE hL
    rw [L18_2]
    simp only []
    refine ifD (fun hi => ?_) fun hi => absurd (by omega) hi
    obtain ⟨g, cap, hv, hc⟩ : ∃ g cap, (Value.slice bp B.length bc) = .slice (some ⟨g, 0, none⟩) B.length cap ∧ B.length ≤ cap := by
      rcases h.back.form with ⟨e, h0⟩ | h
      · omega
      · exact h
    simp only [Value.slice.injEq, true_and] at hv
    obtain ⟨rfl, rfl⟩ := hv
    have hlt : n + m < B.length := by omega
    obtain ⟨f, hf, hu⟩ := h.uns (n + m) B[n + m] (List.getElem?_eq_getElem hlt)
    have hi2 : ((n : Int) + ((m + 1 : Nat) : Int) - 1) = ((n + m : Nat) : Int) := by omega
    rw [hi2]
    refine optP_of (ldO (i := 1) h.own rfl (asL_of (ixS (z := 1) u56 s1 (by omega) (by omega) (show asA (.pointer (some _)) _ from ?_))))
    have had : (⟨g, 0, none⟩ : Addr).add (((n + m : Nat) : Int).toNat * 1) = ⟨g, n + m, none⟩ := by
      simp only [Addr.add, Int.toNat_natCast, Nat.mul_one, Nat.zero_add]
      try (simp; try omega)
    rw [had]
    refine ld (h.back.cell hf) (redo h hu fun w' E' c' h' hE' hL' e' => t0 ?_)
    rw [show IntKind.wrap .i64 (((n + m : Nat) : Int) - 1) = (n : Int) + (m : Int) - 1 by rw [i64w (by omega) (by omega)]; omega]
    refine ih w' c' E' (by omega) h' (e.trans e' fun k _ hk => .inr (.inl hk)) (fun j => ?_) (by omega)
    rw [hE' j]
    have hd : B.drop (n + m) = B[n + m] :: B.drop (n + (m + 1)) := List.drop_eq_getElem_cons hlt
    rw [hd]
    have : lkE E1 = undone (B.drop (n + (m + 1))) M0 := funext hE
    rw [this]; rfl

theorem backOk {a : Nat} {n : Nat} (h : Tab w F tb E B ms) (hl : B.length < 1073741824) (ha : a < ms.length) (hn : ms[a]? = some n) (hnB : n ≤ B.length)
    (k : ∀ w' E', Tab w' F tb E' (B.take n) (ms.take a) → (∀ j, lkE E' j = undone (B.drop n) (lkE E) j) → E'.length ≤ E.length + (B.length - n) → Ext F w w' → K (.int .i64 0) w') : CallV Try.prog 18 #[.pointer (some ⟨tb, 0, none⟩), .int .i64 (a : Int)] w K := by
  obtain ⟨G, mb, c, bp, kp, bc, kc, cells, h, hf⟩ := h
  refine call18 _ _ w K ?_
  unfold F18
  refine ifD (fun hx => by omega) fun _ => optP_of (ldO (i := 2) h.own rfl (asL_of (ifD (fun hx => by omega) fun _ => ?_)))
  unfold J18_0
  obtain ⟨g, cap, hv, hc⟩ : ∃ g cap, (Value.slice kp ms.length kc) = .slice (some ⟨g, 0, none⟩) ms.length cap ∧ ms.length ≤ cap := by
    rcases h.marks.form with ⟨e, h0⟩ | h
    · omega
    · exact h
  simp only [Value.slice.injEq, true_and] at hv
  obtain ⟨rfl, rfl⟩ := hv
  refine optP_of (ldO (i := 2) h.own rfl (asL_of (ixS (z := 1) u29 s3 (by omega) (by omega) (show asA (.pointer (some _)) _ from ?_))))
  have had : (⟨g, 0, none⟩ : Addr).add ((a : Int).toNat * 1) = ⟨g, a, none⟩ := by
    simp only [Addr.add, Int.toNat_natCast, Nat.mul_one, Nat.zero_add]
    try (simp; try omega)
  rw [had]
  have hcell : (nums ms)[a]? = some (.int .i64 (n : Int)) := by simp [nums, hn]
  refine ld (h.marks.cell hcell) (asI_of (optP_of (ldO (i := 1) h.own rfl (asL_of ⟨B.length - n + 1, ?_⟩))))
  have := back_loop (K := K) (a := a) (n := n) (L0 := E.length) (w0 := w) (M0 := lkE E) (G := G) (tb := tb) (mb := mb) (bp := bp) (kp := some ⟨g, 0, none⟩) (bc := bc) (kc := kc) (cells := cells) (B := B) (ms := ms) hl ?_ (B.length - n) w c E (by omega) h (Ext.refl w) (fun j => by rw [show n + (B.length - n) = B.length by omega, List.drop_length]; rfl) (by omega)
  · rw [show IntKind.wrap .i64 ((B.length : Int) - 1) = (n : Int) + ((B.length - n : Nat) : Int) - 1 by rw [i64w (by omega) (by omega)]; omega]
    exact this
  · intro w' c' E' h' e' hE' hL'
    refine back_end h' hnB (by omega) fun w2 h2 e2 => k w2 E' ⟨G, mb, c', bp, _, bc, kc, _, h2, hf⟩ hE' hL' ((e'.trans e2 fun _ _ h => h).mono fun x _ hx => hf x hx)
theorem backNot {x : Int} (h : Tab w F tb E B ms) (hx : x < 0 ∨ (ms.length : Int) ≤ x) (k : K (.int .i64 30) w) : CallV Try.prog 18 #[.pointer (some ⟨tb, 0, none⟩), .int .i64 x] w K := by
  obtain ⟨G, mb, c, bp, kp, bc, kc, cells, h, hf⟩ := h
  refine call18 _ _ w K ?_
  unfold F18
  exact ifD (fun _ => k) fun _ => optP_of (ldO (i := 2) h.own rfl (asL_of (ifD (fun _ => k) fun _ => by omega)))
end Go.Proofs.Ytalhnoelkglgiaa.W
