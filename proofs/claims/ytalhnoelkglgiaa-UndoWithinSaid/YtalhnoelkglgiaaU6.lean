/- The table: Keys. No condition. -/
import Derived.Test.YtalhnoelkglgiaaU5
namespace Go.Proofs.Ytalhnoelkglgiaa.W
open Go Go.Proofs.Ytalhnoelkglgiaa.Sh Go.RowKit
set_option linter.unusedVariables false
set_option maxRecDepth 100000
variable {w : World} {K : Value → World → Prop}
variable {F G : Nat → Prop} {tb mb c bc kc : Nat} {bp kp : Option Addr} {cells : List Value} {E : List E3} {B : List Un} {ms : List Nat}

theorem neqF (f : Nat) (w : World) : (do eqGuard .neq 45 (.tmp 26) (.const .nilFunc) (.func (.func f) #[] #[]) .nilFunc; binOp .neq 45 (.func (.func f) #[] #[]) .nilFunc : Sem Value).run Try.prog w = .ok (.bool true) w := by kernel_rfl
theorem neqN (w : World) : (do eqGuard .neq 45 (.tmp 26) (.const .nilFunc) .nilFunc .nilFunc; binOp .neq 45 .nilFunc .nilFunc : Sem Value).run Try.prog w = .ok (.bool false) w := by kernel_rfl

theorem keys_loop {v : Value} {w0 : World} {r since : Nat} (hE : E.length < 1073741823) (hr0 : w0.heap.size ≤ r)
    (kend : ∀ w' g cap ks, ks.Perm (E.map (·.k)) → Row w' (.slice (some ⟨g, 0, none⟩) ks.length cap) 3 ks.length (ints ks) → w0.heap.size ≤ g → Bl w0 w' → J23_0 K v (some ⟨g, 0, none⟩) ks.length cap w') (hm0 : mb < w0.heap.size) (hlt : ∀ x ∈ E, x.b < since) :
    ∀ (T S : List E3) (w : World) (g cap c0 : Nat), (S ++ T).Perm E → IMap w mb E c → Iter w r mb since c0 S → since ≤ c0 → since ≤ c → Row w (.slice (some ⟨g, 0, none⟩) S.length cap) 3 S.length (ints (S.map (·.k))) → w0.heap.size ≤ g → g ≠ r → r < w.heap.size → Bl w0 w →
      ∀ m, m = T.length → L23_1 K (m + 1) v (some ⟨g, 0, none⟩) S.length cap ⟨r, 0, none⟩ w := by
  intro T S w g cap c0 hp hm hit hsc hsc2 hrow hg hgr hrl hb m hmT
  induction m generalizing T S w g cap c0 with
  | zero =>
    have hT : T = [] := List.length_eq_zero_iff.1 hmT.symm
    subst hT
    rw [List.append_nil] at hp
    simp only [L23_1]
    refine nextI hm hit hlt hsc (fun _ => ext0 (asB_of ?_)) fun x hx hn => absurd ?_ hn
    · refine ifB_f rfl ?_
      have := kend w g cap (S.map (·.k)) (hp.map _) (by rw [List.length_map]; exact hrow) hg hb
      rw [List.length_map] at this; exact this
    · exact List.mem_map_of_mem (hp.mem_iff.2 hx)
  | succ m ih =>
    rw [L23_1]
    simp only []
    refine nextI hm hit hlt hsc (fun hall => ?_) fun x hx hn w' hit' e' => ext0 (asB_of (ifB_t rfl ?_))
    · exfalso
      obtain ⟨y, hy⟩ : ∃ y, y ∈ T := by cases T with | nil => simp at hmT | cons y _ => exact ⟨y, by simp⟩
      have h1 := hall y (hp.mem_iff.1 (by simp [hy]))
      have hnd : ((S ++ T).map (·.b)).Nodup := (hp.map (·.b)).nodup_iff.2 hm.borns
      rw [List.map_append, List.nodup_append] at hnd
      exact hnd.2.2 y.b h1 y.b (List.mem_map_of_mem hy) rfl
    · have hxT : x ∈ T := by
        rcases List.mem_append.1 (hp.mem_iff.2 hx) with h | h
        · exact absurd (List.mem_map_of_mem h) hn
        · exact h
      obtain ⟨A, B', rfl⟩ := List.append_of_mem hxT
      have hmr : mb ≠ r := by omega
      have hm' : IMap w' mb E c := hm.ext e' hmr
      have hb' : Bl w0 w' := ((Ext.of_bl (S := fun k => k = r) hb).trans e' fun _ _ h => h).bl fun k hk h => by omega
      refine entryI hm' hit' hx (ext0 (asI_of (alO fun w5 o5 b5 s5 => ?_)))
      have hrow' := (hrow.ext e' fun y hy e => hgr (by rw [blk_some] at hy; omega)).bl b5
      have hlenS : S.length ≤ E.length := by have := hp.length_eq; simp at this; omega
      refine app1 hrow' o5 u29 i3 rfl rfl (by omega) (by decide) fun g2 cap2 w6 hr6 e6 hg2 hgl => asL_of ?_
      have hrs : r < w5.heap.size := by have := e'.size; have := b5.size; omega
      have hg2' : w0.heap.size ≤ g2 ∧ g2 ≠ r := by
        rcases hg2 with h | h
        · rw [blk_some] at h; subst h; exact ⟨hg, hgr⟩
        · have := hb'.size; have := b5.size; omega
      have hbb := hb'.trans b5
      have hb6 : Bl w0 w6 := ((Ext.of_bl (S := Blk (.slice (some ⟨g, 0, none⟩) S.length cap)) hbb).trans e6 fun _ _ h => h).bl fun k hk h => by rw [blk_some] at h; omega
      have hlen1 : (S ++ [x]).length = S.length + 1 := by simp
      have := ih (A ++ B') (S ++ [x]) w6 g2 cap2 c ?_ ((hm'.bl b5).ext e6 fun h => by rw [blk_some] at h; omega) (((hit'.ext (Z := None') (Ext.of_bl b5) fun h => h)).ext e6 fun h => hgr (blk_some.1 h)) hsc2 ?_ hg2'.1 hg2'.2 (by have := e6.size; omega) hb6 (by simp at hmT ⊢; omega)
      · rw [hlen1] at this; exact this
      · refine List.Perm.trans ?_ hp
        rw [List.append_assoc]
        exact List.Perm.append_left S (by simpa using (List.perm_middle (a := x) (l₁ := A) (l₂ := B')).symm)
      · rw [hlen1]
        have hi : ints ((S ++ [x]).map (·.k)) = ints (S.map (·.k)) ++ [.int .i64 x.k] := by simp [ints]
        rw [hi]; exact hr6

/-- The keys, in no order yet. -/
theorem keys_any {v : Value} (h : Tab w F tb E B ms) (hE : E.length < 1073741823)
    (kend : ∀ w' g cap ks, ks.Perm (E.map (·.k)) → Row w' (.slice (some ⟨g, 0, none⟩) ks.length cap) 3 ks.length (ints ks) → w.heap.size ≤ g → Bl w w' → J23_0 K v (some ⟨g, 0, none⟩) ks.length cap w') : F23 (some ⟨tb, 0, none⟩) v w K := by
  obtain ⟨G, mb, c, bp, kp, bc, kc, cells, h, hf⟩ := h
  unfold F23
  refine optP_of (ldO (i := 0) h.own rfl (asM_of (lenI h.map u55 (asI_of (makeR u29 i3 rfl (by omega) (by decide) fun w2 hr2 b2 s2 => asL_of ?_)))))
  have h2 := h.ext (S := None') (Ext.of_bl b2) fun _ _ h => h
  refine optP_of (ldO (i := 0) h2.own rfl (asM_of (rangeI h2.map u55 fun w3 hit b3 s3 => show asA (.pointer (some _)) _ from ?_)))
  have hml := h.map.block
  refine ⟨E.length + 1, keys_loop (w0 := w) (r := w2.heap.size) (since := c) (c := c) (mb := mb) hE (by omega) kend hml h.map.lt E [] w3 w.heap.size E.length c ?_ (h2.map.bl b3) hit (Nat.le_refl _) (Nat.le_refl _) (hr2.bl b3) (Nat.le_refl _) (by omega) (by omega) (b2.trans b3) E.length rfl⟩
  exact List.Perm.refl _
theorem keysBy {f : Nat} {cf : Int → Int → Int} (h : Tab w F tb E B ms) (hE : E.length < 1073741823) (hO : Sort.SWO (Go.Proofs.ltOf cf)) (eg : ∀ args w, (callFunc f args).run Try.prog w = .ok (.enter f args) w) (hcmp : ∀ x y W, CallV Try.prog f #[.int .i64 x, .int .i64 y] W fun v W' => v = .int .i64 (cf x y) ∧ W' = W)
    (k : ∀ w' g cap ks, ks.Perm (E.map (·.k)) → ks.Pairwise (fun a b => ¬ cf b a < 0) → Row w' (.slice (some ⟨g, 0, none⟩) ks.length cap) 3 ks.length (ints ks) → w.heap.size ≤ g → Bl w w' → K (.slice (some ⟨g, 0, none⟩) ks.length cap) w') :
    CallV Try.prog 23 #[.pointer (some ⟨tb, 0, none⟩), .func (.func f) #[] #[]] w K := by
  refine call23 _ _ w K (keys_any h hE fun w1 g cap ks hp hr hg hb => ?_)
  unfold J23_0
  refine semK_of (neqF f w1) (asB_of (ifB_t rfl ?_))
  have hl : ks.length < 1073741823 := by have := hp.length_eq; simp at this; omega
  refine sortFn hr (by omega) hO eg hcmp fun ys w2 hys hsorted hr2 e2 => t0 ?_
  have hly : ys.length = ks.length := hys.length_eq
  have := k w2 g cap ys (hys.trans hp) hsorted (by rw [hly]; exact hr2) hg (((Ext.of_bl hb).trans e2 fun _ _ h => h).bl fun x hx h => by rw [blk_some] at h; omega)
  rw [hly] at this; exact this
theorem keysNo (h : Tab w F tb E B ms) (hE : E.length < 1073741823)
    (k : ∀ w' g cap ks, ks.Perm (E.map (·.k)) → Row w' (.slice (some ⟨g, 0, none⟩) ks.length cap) 3 ks.length (ints ks) → w.heap.size ≤ g → Bl w w' → K (.slice (some ⟨g, 0, none⟩) ks.length cap) w') :
    CallV Try.prog 23 #[.pointer (some ⟨tb, 0, none⟩), .nilFunc] w K := by
  refine call23 _ _ w K (keys_any h hE fun w1 g cap ks hp hr hg hb => ?_)
  unfold J23_0
  exact semK_of (neqN w1) (asB_of (ifB_f rfl (k w1 g cap ks hp hr hg hb)))
end Go.Proofs.Ytalhnoelkglgiaa.W
