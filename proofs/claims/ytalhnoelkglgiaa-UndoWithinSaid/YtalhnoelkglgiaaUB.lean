/- What a table tells (seen): the view. No condition. -/
import Derived.Test.YtalhnoelkglgiaaUA
namespace Go.Proofs.Ytalhnoelkglgiaa.W
open Go Go.Proofs.Ytalhnoelkglgiaa.Sh Go.RowKit
set_option linter.unusedVariables false
set_option linter.unusedSimpArgs false
set_option maxRecDepth 100000
variable {w : World} {K : Value → World → Prop} {F : Nat → Prop} {tb N : Nat} {s : Hist}
def valsOf (M : Int → Option Int) (ks : List Int) : List Int := ks.map fun k => (M k).getD 0
theorem addAt {g : Nat} (j : Nat) : (⟨g, 0, none⟩ : Addr).add ((j : Int).toNat * 1) = ⟨g, j, none⟩ := by
  simp only [Addr.add, Int.toNat_natCast, Nat.mul_one, Nat.zero_add]
  try (simp; try omega)

/-- A row as a slice value says it: of what length, and where it lies if it lies. -/
theorem seen_loop {w0 : World} {ks : List Int} {g cap x2 x3 : Nat} (hk : ks.length < 1073741823) (hg : w0.heap.size ≤ g) (h2 : w0.heap.size ≤ x2) (h3 : w0.heap.size ≤ x3) (h23 : x2 ≠ x3) (hg2 : g ≠ x2) (hg3 : g ≠ x3) (ht0 : TabH w0 F tb s N)
    (kend : ∀ w' p1 c1 p2 c2, Row w' (.slice p1 ks.length c1) 3 ks.length (ints ks) → Row w' (.slice p2 ks.length c2) 3 ks.length (ints (valsOf s.M ks)) → Own w' x3 #[.slice p1 ks.length c1, .slice p2 ks.length c2] 31 →
      (∀ b, Blk (.slice p1 ks.length c1) b → w0.heap.size ≤ b ∧ b ≠ x2) → (∀ b, Blk (.slice p2 ks.length c2) b → w0.heap.size ≤ b ∧ b ≠ x2) → (∃ cs, Own w' x2 cs 31 ∧ cs.size = 2) → Bl w0 w' → J13_0 K ⟨x2, 0, none⟩ ⟨x3, 0, none⟩ w') :
    ∀ (m i : Nat) (w : World) (p1 p2 : Option Addr) (c1 c2 : Nat), i + m = ks.length → Row w (.slice (some ⟨g, 0, none⟩) ks.length cap) 3 ks.length (ints ks) → Row w (.slice p1 i c1) 3 i (ints (ks.take i)) → Row w (.slice p2 i c2) 3 i (ints ((valsOf s.M ks).take i)) →
      Own w x3 #[.slice p1 i c1, .slice p2 i c2] 31 → (∃ cs, Own w x2 cs 31 ∧ cs.size = 2) → Bl w0 w →
      (∀ b, Blk (.slice p1 i c1) b → w0.heap.size ≤ b ∧ b ≠ g ∧ b ≠ x2 ∧ b ≠ x3 ∧ ¬ Blk (.slice p2 i c2) b) → (∀ b, Blk (.slice p2 i c2) b → w0.heap.size ≤ b ∧ b ≠ g ∧ b ≠ x2 ∧ b ≠ x3) →
      L13_1 K (m + 1) (some ⟨tb, 0, none⟩) ⟨x2, 0, none⟩ ⟨x3, 0, none⟩ (some ⟨g, 0, none⟩) ks.length cap (i : Int) w := by
  intro m
  have hvl : (valsOf s.M ks).length = ks.length := by simp [valsOf]
  induction m with
  | zero =>
    intro i w p1 p2 c1 c2 hi hr h1 hv o3 o2 hb d1 d2
    simp only [L13_1]
    refine ifD (fun h => by omega) fun _ => ?_
    have : i = ks.length := by omega
    subst this
    rw [List.take_length] at h1
    rw [List.take_of_length_le (by omega)] at hv
    exact kend w p1 c1 p2 c2 h1 hv o3 (fun b h => ⟨(d1 b h).1, (d1 b h).2.2.1⟩) (fun b h => ⟨(d2 b h).1, (d2 b h).2.2.1⟩) o2 hb
  | succ m ih =>
    intro i w p1 p2 c1 c2 hi hr h1 hv o3 o2 hb d1 d2
    rw [L13_1]
    simp only []
    refine ifD (fun _ => ?_) fun h => by omega
    have hlt : i < ks.length := by omega
    have q : (ints ks)[i]? = some (.int .i64 ks[i]) := by simp [ints, hlt]
    refine ixS (z := 1) u29 s3 (by omega) (by omega) (show asA (.pointer (some _)) _ from ?_)
    rw [addAt]
    refine ldI (hr.cell q) (getH (ht0.bl hb) (t2 ?_))
    unfold drewK
    have bd : Bl w w.drew := (Bl.refl w).drew
    have zd : w.drew.heap.size = w.heap.size := rfl
    refine ldO (i := 0) (o3.bl bd) rfl (asL_of (ixS (z := 1) u29 s3 (by omega) (by omega) (show asA (.pointer (some _)) _ from ?_)))
    rw [addAt]
    refine ldI ((hr.bl bd).cell q) (alO fun w5 o5 b5 s5 => ⟨ldO (i := 0) ((o3.bl bd).bl b5) rfl (asL_of rfl), ?_⟩)
    have b05 := bd.trans b5
    have sz0 := hb.size
    have l3 := o3.lt
    have l2 : x2 < w.heap.size := by obtain ⟨cs, o, _⟩ := o2; exact o.lt
    have lg : g < w.heap.size := hr.lt (blk_some.2 rfl)
    refine app1 (h1.bl b05) o5 u29 i3 rfl rfl (by omega) (by decide) fun g1 cap1 w6 hr6 e6 hg6 hgl6 => asL_of ?_
    have n6 : w0.heap.size ≤ g1 ∧ g1 ≠ g ∧ g1 ≠ x2 ∧ g1 ≠ x3 ∧ ¬ Blk (.slice p2 i c2) g1 := by
      rcases hg6 with h | h
      · exact d1 g1 h
      · refine ⟨by omega, by omega, by omega, by omega, fun hh => ?_⟩
        have := hv.lt hh; omega
    have o36 : Own w6 x3 _ _ := (o3.bl b05).ext e6 fun h => (d1 x3 h).2.2.2.1 rfl
    refine stO (i := 0) (b := x3) o36 (by simp) (by kernel_rfl) rfl rfl fun w7 o37 e7 => ldO (i := 1) o37 rfl (asL_of (alO fun w8 o8 b8 s8 => ?_))
    have hv7 : Row w7 (.slice p2 i c2) 3 i (ints ((valsOf s.M ks).take i)) := ((hv.bl b05).ext e6 fun b hb2 hb1 => (d1 b hb1).2.2.2.2 hb2).ext e7 fun b hb2 e => (d2 b hb2).2.2.2 e
    have hr67 : Row w7 (.slice (some ⟨g1, 0, none⟩) (i + 1) cap1) 3 (i + 1) (ints (ks.take i) ++ [.int .i64 ks[i]]) := hr6.ext e7 fun b hb2 e => n6.2.2.2.1 (by rw [blk_some] at hb2; omega)
    have hrg7 : Row w7 (.slice (some ⟨g, 0, none⟩) ks.length cap) 3 ks.length (ints ks) := ((hr.bl b05).ext e6 fun b hb2 hb1 => (d1 b hb1).2.1 (by rw [blk_some] at hb2; exact hb2.symm)).ext e7 fun b hb2 e => hg3 (by rw [blk_some] at hb2; omega)
    have o27 : ∃ cs, Own w7 x2 cs 31 ∧ cs.size = 2 := by
      obtain ⟨cs, o, hz⟩ := o2
      exact ⟨cs, ((o.bl b05).ext e6 fun h => (d1 x2 h).2.2.1 rfl).ext e7 h23, hz⟩
    have hb7 : Bl w0 w7 := (((Ext.of_bl (S := fun b => w0.heap.size ≤ b) (hb.trans b05)).trans e6 fun b _ h => (d1 b h).1).trans e7 fun b _ e => by omega).bl fun b hb h => by omega
    have z6 := e6.size
    have z7 := e7.size
    have z5 := b5.size
    refine app1 (hv7.bl b8) o8 u29 i3 rfl rfl (by omega) (by decide) fun g2 cap2 w9 hr9 e9 hg9 hgl9 => asL_of ?_
    have n9 : w0.heap.size ≤ g2 ∧ g2 ≠ g ∧ g2 ≠ x2 ∧ g2 ≠ x3 ∧ g2 ≠ g1 := by
      rcases hg9 with h | h
      · exact ⟨(d2 g2 h).1, (d2 g2 h).2.1, (d2 g2 h).2.2.1, (d2 g2 h).2.2.2, fun e => n6.2.2.2.2 (e ▸ h)⟩
      · have := b8.size
        exact ⟨by omega, by omega, by omega, by omega, by omega⟩
    have o39 : Own w9 x3 _ _ := (o37.bl b8).ext e9 fun h => (d2 x3 h).2.2.2 rfl
    refine stO (i := 1) (b := x3) o39 (by simp) (by kernel_rfl) rfl rfl fun w10 o310 e10 => ?_
    rw [show IntKind.wrap .i64 ((i : Int) + 1) = ((i + 1 : Nat) : Int) by rw [i64w (by omega) (by omega)]; rfl]
    have q2 : (valsOf s.M ks)[i]'(by omega) = (s.M ks[i]).getD 0 := by simp [valsOf]
    refine ih (i + 1) w10 (some ⟨g1, 0, none⟩) (some ⟨g2, 0, none⟩) cap1 cap2 (by omega) ?_ ?_ ?_ (by simpa using o310) ?_ ?_ ?_ ?_
    · exact ((hrg7.bl b8).ext e9 fun b hb2 hb1 => (d2 b hb1).2.1 (by rw [blk_some] at hb2; exact hb2.symm)).ext e10 fun b hb2 e => hg3 (by rw [blk_some] at hb2; omega)
    · have : ints (ks.take (i + 1)) = ints (ks.take i) ++ [.int .i64 ks[i]] := by rw [List.take_succ_eq_append_getElem hlt]; unfold ints; rw [List.map_append]; rfl
      rw [this]
      exact ((hr67.bl b8).ext e9 fun b hb2 hb1 => n6.2.2.2.2 (by rw [blk_some] at hb2; rw [hb2]; exact hb1)).ext e10 fun b hb2 e => n6.2.2.2.1 (by rw [blk_some] at hb2; omega)
    · have : ints ((valsOf s.M ks).take (i + 1)) = ints ((valsOf s.M ks).take i) ++ [.int .i64 ((s.M ks[i]).getD 0)] := by rw [List.take_succ_eq_append_getElem (by omega), q2]; unfold ints; rw [List.map_append]; rfl
      rw [this]
      exact hr9.ext e10 fun b hb2 e => n9.2.2.2.1 (by rw [blk_some] at hb2; omega)
    · obtain ⟨cs, o, hz⟩ := o27
      exact ⟨cs, ((o.bl b8).ext e9 fun h => (d2 x2 h).2.2.1 rfl).ext e10 h23, hz⟩
    · exact (((Ext.of_bl (S := fun b => w0.heap.size ≤ b) (hb7.trans b8)).trans e9 fun b _ h => (d2 b h).1).trans e10 fun b _ e => by omega).bl fun b hb h => by omega
    · intro b hb2
      rw [blk_some] at hb2; subst hb2
      exact ⟨n6.1, n6.2.1, n6.2.2.1, n6.2.2.2.1, fun h => n9.2.2.2.2 (blk_some.1 h)⟩
    · intro b hb2
      rw [blk_some] at hb2; subst hb2
      exact ⟨n9.1, n9.2.1, n9.2.2.1, n9.2.2.2.1⟩

/-- The view of a table. -/
theorem seen (h : TabH w F tb s N) (hN : N < 500000000) (k : ∀ w' p1 c1 p2 c2 ks, IsKeys s.M ks → ks.length ≤ 2 * N → Row w' (.slice p1 ks.length c1) 3 ks.length (ints ks) → Row w' (.slice p2 ks.length c2) 3 ks.length (ints (valsOf s.M ks)) → (∀ b, Blk (.slice p1 ks.length c1) b ∨ Blk (.slice p2 ks.length c2) b → w.heap.size ≤ b) → Bl w w' →
      K (.agg #[.slice p1 ks.length c1, .slice p2 ks.length c2]) w') : CallV Try.prog 13 #[.pointer (some ⟨tb, 0, none⟩)] w K := by
  refine call13 _ w K ?_
  unfold F13
  refine alO fun w1 o1 b1 s1 => alO fun w2 o2 b2 s2 => ?_
  have hb := b1.trans b2
  refine keysH (h.bl hb) hN fun w3 g cap ks hks hkl hr hg b3 => asL_of ⟨ks.length + 1, ?_⟩
  refine seen_loop (w0 := w) (N := N) (F := F) (s := s) (by omega) (by omega) (by omega) (by omega) (by omega) (by omega) (by omega) h ?_ ks.length 0 w3 none none 0 0 (by omega) hr (Row.nil _ _) (Row.nil _ _) (o2.bl b3) ⟨_, (o1.bl b2).bl b3, rfl⟩ (hb.trans b3) (fun b hb => by cases hb) (fun b hb => by cases hb)
  intro w' p1 c1 p2 c2 h1 h2 o3 d1 d2 ⟨cs, oc, hcs⟩ hbw
  unfold J13_0
  refine ldO (i := 0) o3 rfl (asL_of (ldO (i := 1) o3 rfl (asL_of ?_)))
  refine stAll (b := w.heap.size) (vs := #[.slice p1 ks.length c1, .slice p2 ks.length c2]) oc (by kernel_rfl) (by simpa using hcs) (by kernel_rfl) fun w5 o5 e5 => ?_
  refine ldO (i := 0) o5 rfl (asL_of (ldO (i := 1) o5 rfl (asL_of ?_)))
  exact k w5 p1 c1 p2 c2 ks hks hkl (h1.ext e5 fun b hb e => (d1 b hb).2 e) (h2.ext e5 fun b hb e => (d2 b hb).2 e) (fun b hb => by rcases hb with hb | hb; exact (d1 b hb).1; exact (d2 b hb).1) (((Ext.of_bl (S := fun b => b = w.heap.size) hbw).trans e5 fun _ _ h => h).bl fun b hb h => by omega)
end Go.Proofs.Ytalhnoelkglgiaa.W
