/- The law GasWhole: a meter. No condition beyond the kinds of the numbers. -/
import Derived.Test.YtamllimonjfmiaaW0
import Derived.Test.YtamllimonjfmiaaSh8
namespace Go.Proofs.Ytamllimonjfmiaa.W
open Go Go.Proofs.Ytamllimonjfmiaa.Sh Go.RowKit
set_option linter.unusedVariables false
variable {w W : World} {K : Value → World → Prop} {b : Nat} {h n : Int}

/-- A meter in a block. -/
def MQ (w : World) (b : Nat) (h : Int) : Prop := Own w b #[.int .u64 h] 48
theorem optP_of {α : Type} {a : α} {F : α → Prop} (k : F a) : optP (some a) F := k
theorem asP_of {p : Option Addr} {F : Option Addr → Prop} (k : F p) : asP (.pointer p) F := k
theorem meter (k : ∀ w', MQ w' w.heap.size h → Bl w w' → K (.pointer (some ⟨w.heap.size, 0, none⟩)) w') : CallV Try.prog 29 #[.int .u64 h] w K := by
  refine call29 h w K ?_
  unfold F29
  exact k _ (Own.new _ _ _) ((Bl.refl w).alloc _)
theorem left (hm : MQ w b h) (k : K (.int .u64 h) w) : CallV Try.prog 32 #[.pointer (some ⟨b, 0, none⟩)] w K := by
  refine call32 _ w K ?_
  unfold F32
  exact optP_of (ldI (hm.cell.trans rfl) k)
theorem pay (hm : MQ w b h) (h0 : 0 ≤ h) (h1 : h ≤ 18446744073709551615) (n0 : 0 ≤ n) (k1 : n ≤ h → ∀ w', MQ w' b (h - n) → Ext (· = b) w w' → K (.bool true) w') (k2 : ¬ n ≤ h → K (.bool false) w) : CallV Try.prog 30 #[.pointer (some ⟨b, 0, none⟩), .int .u64 n] w K := by
  refine call30 _ n w K ?_
  unfold F30
  refine optP_of (ldI (hm.cell.trans rfl) (ifD (fun e => k2 (by omega)) fun e => optP_of (ldI (hm.cell.trans rfl) (optP_of ?_))))
  rw [show IntKind.wrap .u64 (h - n) = h - n by rw [u64w]; omega]
  exact stO hm (by simp) (by kernel_rfl) rfl rfl fun w' g e' => k1 (by omega) w' g e'
theorem gain (hm : MQ w b h) (h0 : 0 ≤ h) (h1 : h ≤ 18446744073709551615) (n0 : 0 ≤ n) (k1 : h + n ≤ 18446744073709551615 → ∀ w', MQ w' b (h + n) → Ext (· = b) w w' → K (.bool true) w') (k2 : ¬ h + n ≤ 18446744073709551615 → K (.bool false) w) :
    CallV Try.prog 31 #[.pointer (some ⟨b, 0, none⟩), .int .u64 n] w K := by
  refine call31 _ n w K ?_
  unfold F31
  refine optP_of (ldI (hm.cell.trans rfl) ?_)
  rw [show IntKind.wrap .u64 (18446744073709551615 - h) = 18446744073709551615 - h by rw [u64w]; omega]
  refine ifD (fun e => k2 (by omega)) fun e => optP_of (ldI (hm.cell.trans rfl) (optP_of ?_))
  rw [show IntKind.wrap .u64 (h + n) = h + n by rw [u64w]; omega]
  exact stO hm (by simp) (by kernel_rfl) rfl rfl fun w' g e' => k1 (by omega) w' g e'

theorem bl_ext {B : Nat} {w' : World} (hW : Bl W w) (hb : W.heap.size ≤ b) (e : Ext (· = b) w w') : Bl W w' :=
  ((Ext.of_bl hW).trans e (S := fun k => k = b) fun k _ h => h).bl fun k hk h => by omega

theorem whole_end (hm : MQ w b h) (h0 : 0 ≤ h) (h1 : h ≤ 18446744073709551615) (hW : Bl W w) (hb : W.heap.size ≤ b) (k : ∀ w', Bl W w' → K (.bool true) w') : J6_1 K (some ⟨b, 0, none⟩) h w := by
  unfold J6_1
  refine left hm (asI_of (pay hm h0 h1 h0 (fun _ w1 m1 e1 => asB_of (left m1 (asI_of (pay m1 (by omega) (by omega) (by decide) (fun h => by omega) fun _ => asB_of ?_)))) fun h => absurd (by omega) h))
  refine ifB_t (by simp) (ifB_t rfl (ifB_t (by simp) ?_))
  exact k w1 (bl_ext (B := 0) hW hb e1)

theorem whole_loop {p : Option Addr} {l c : Nat} (hl : l ≤ 1048576) (hp : 0 < l → ∃ a, p = some a ∧ ∀ j, j < l → ∃ n, (Lit.int .u64 n).wf = true ∧ W.cell? (a.add j) = some (.int .u64 n)) (hb : W.heap.size ≤ b) (k : ∀ w', Bl W w' → K (.bool true) w') :
    ∀ (m j : Nat) (h : Int) (w : World), j + m = l → MQ w b h → 0 ≤ h → h ≤ 18446744073709551615 → Bl W w → L6_2 K (m + 1) p l c (some ⟨b, 0, none⟩) h j w := by
  intro m
  induction m with
  | zero =>
    intro j h w hj hm h0 h1 hW
    simp only [L6_2]
    exact ifD (fun hlt => by omega) fun _ => whole_end hm h0 h1 hW hb k
  | succ m ih =>
    intro j h w hj hm h0 h1 hW
    rw [L6_2]
    refine ifD (fun hlt => ?_) fun hlt => by omega
    obtain ⟨a, rfl, ha⟩ := hp (by omega)
    obtain ⟨n, wn, hn⟩ := ha j (by omega)
    have wn := bounds_u64 wn
    have hn' := (Below.cell hW (cell_lt hn)).trans hn
    have go : ∀ (h' : Int) (w' : World), MQ w' b h' → 0 ≤ h' → h' ≤ 18446744073709551615 → Bl W w' → J6_3 K (L6_2 K (m + 1)) (some a) l c (some ⟨b, 0, none⟩) h' j w' := by
      intro h' w' hm' h0' h1' hW'
      unfold J6_3
      refine left hm' (asI_of (ifNe (fun h => absurd rfl h) fun _ => ?_))
      rw [show IntKind.wrap .i64 ((j : Int) + 1) = ((j + 1 : Nat) : Int) by rw [i64w (by omega) (by omega)]; rfl]
      exact ih (j + 1) h' w' (by omega) hm' h0' h1' hW'
    refine ixS (e := 22) (z := 1) (by kernel_rfl) (by kernel_rfl) (by omega) (by omega) (show asA (.pointer (some _)) _ from ?_)
    rw [show (j : Int).toNat * 1 = j by simp]
    refine ldI hn' (ifE (fun _ => pay hm h0 h1 wn.1 (fun e w1 m1 e1 => asB_of ?_) fun e => asB_of ?_) fun _ => gain hm h0 h1 wn.1 (fun e w1 m1 e1 => asB_of ?_) fun e => asB_of ?_)
    · rw [decide_eq_true e, show IntKind.wrap .u64 (h - n) = h - n by rw [u64w]; omega]
      exact ifB_f rfl (ifB_t rfl (go _ w1 m1 (by omega) (by omega) (bl_ext (B := 0) hW hb e1)))
    · rw [decide_eq_false e]
      exact ifB_f rfl (ifB_f rfl (go _ w hm h0 h1 hW))
    · rw [show IntKind.wrap .u64 (h + n) = h + n by rw [u64w]; omega, decide_eq_true (show h + n ≥ h by omega)]
      exact ifB_f rfl (ifB_t rfl (go _ w1 m1 (by omega) (by omega) (bl_ext (B := 0) hW hb e1)))
    · rw [show IntKind.wrap .u64 (h + n) = h + n - 18446744073709551616 by rw [u64w]; omega, decide_eq_false (show ¬ h + n - 18446744073709551616 ≥ h by omega)]
      exact ifB_f rfl (ifB_f rfl (go _ w hm h0 h1 hW))

theorem gasWhole {p : Option Addr} {l c : Nat} (h0 : 0 ≤ h) (h1 : h ≤ 18446744073709551615) (hp : 0 < l → ∃ a, p = some a ∧ ∀ j, j < l → ∃ n, (Lit.int .u64 n).wf = true ∧ W.cell? (a.add j) = some (.int .u64 n)) (k : ∀ w', Bl W w' → K (.bool true) w') :
    CallV Try.prog 6 #[.int .u64 h, .slice p l c] W K := by
  refine call6 h p l c W K ?_
  unfold F6
  refine meter fun w1 m1 b1 => asP_of (ifB_f rfl (ifD (fun _ => k w1 b1) fun hl => ?_))
  unfold J6_0
  exact ⟨l + 1, whole_loop (b := W.heap.size) (by omega) hp (Nat.le_refl _) k l 0 h w1 (by omega) m1 h0 h1 b1⟩
theorem gasWhole_walk (a : Int) (p : Option Addr) (n cc : Nat) (W : World) {p0 : Prop} (w0 : (Lit.int .u64 a).wf = true) (_ : p0) (hp : 0 < n → ∃ a, p = some a ∧ ∀ j, j < n → ∃ m, (Lit.int .u64 m).wf = true ∧ W.cell? (a.add j) = some (.int .u64 m)) :
    Calls Try.prog 6 #[.int .u64 a, .slice p n cc] W fun e W' => e = .returned (.bool true) ∧ Below W.heap.size W W' :=
  Calls.mono (gasWhole (K := fun v w' => v = .bool true ∧ Below W.heap.size W w') (bounds_u64 w0).1 (bounds_u64 w0).2 hp fun w' b => ⟨rfl, b⟩) fun e w' ⟨v, he, hv, hb⟩ => ⟨by rw [he, hv], hb⟩
end Go.Proofs.Ytamllimonjfmiaa.W
