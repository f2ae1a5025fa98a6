/- The table: Set, Delete; a change put back; Mark. No condition. -/
import Derived.Test.YtalhnoelkglgiaaU1
namespace Go.Proofs.Ytalhnoelkglgiaa.W
open Go Go.Proofs.Ytalhnoelkglgiaa.Sh Go.RowKit
set_option linter.unusedVariables false
set_option maxRecDepth 100000
variable {w : World} {K : Value → World → Prop}
variable {F G : Nat → Prop} {tb mb c bc kc : Nat} {bp kp : Option Addr} {cells : List Value} {E : List E3} {B : List Un} {ms : List Nat}

/-- The map is another one. -/
theorem TabD.remap {w' : World} {E' : List E3} {c' : Nat} (h : TabD w G tb mb c bp kp bc kc cells E B ms) (e : Ext (· = mb) w w') (hm : IMap w' mb E' c') : TabD w' G tb mb c' bp kp bc kc cells E' B ms :=
  ⟨h.own.ext e fun x => h.n1 x, hm, h.back.ext e fun g hg x => h.n2.2 (x ▸ hg), h.marks.ext e fun g hg x => h.n3.2 (x ▸ hg),
    fun j u hu => let ⟨f, hf, hu⟩ := h.uns j u hu; ⟨f, hf, hu.ext e fun b hb => (h.n5 b hb).2.1⟩, h.n1, h.n2, h.n3, h.n4, h.n5, fun b hb => Nat.lt_of_lt_of_le (h.n6 b hb) e.size⟩

theorem set {key v : Int} (h : Tab w F tb E B ms) (hB : B.length < 1073741823) (k : ∀ w' F' E', (∀ j, lkE E' j = if j = key then some v else lkE E j) → E'.length ≤ E.length + 1 → Tab w' F' tb E' (noted E B ms key) ms → (∀ x, F' x → F x ∨ w.heap.size ≤ x) → Ext F w w' → K (.tuple #[]) w') :
    CallV Try.prog 12 #[.pointer (some ⟨tb, 0, none⟩), .int .i64 key, .int .i64 v] w K := by
  refine call12 _ key v w K ?_
  unfold F12
  refine note h hB fun w1 F1 h1 hf1 e1 => t0 ?_
  obtain ⟨G, mb, c, bp, kp, bc, kc, cells, h1, hf⟩ := h1
  refine optP_of (ldO (i := 0) h1.own rfl (asM_of (setI h1.map u55 u3 fun w2 c' hm e2 => ?_)))
  refine k w2 F1 _ (fun j => lkE_upd j) (len_upd _ _ _ _) ⟨G, mb, c', bp, kp, bc, kc, cells, h1.remap e2 hm, hf⟩ hf1 (e1.trans e2 fun x hx e => ?_)
  have := hf x (.inr (.inl e))
  rcases hf1 x this with h | h
  · exact h
  · omega

theorem delete {key : Int} (h : Tab w F tb E B ms) (hB : B.length < 1073741823) (k0 : lkE E key = none → K (.bool false) w)
    (k1 : lkE E key ≠ none → ∀ w' F' E', (∀ j, lkE E' j = if j = key then none else lkE E j) → E'.length ≤ E.length → Tab w' F' tb E' (noted E B ms key) ms → (∀ x, F' x → F x ∨ w.heap.size ≤ x) → Ext F w w' → K (.bool true) w') :
    CallV Try.prog 16 #[.pointer (some ⟨tb, 0, none⟩), .int .i64 key] w K := by
  refine call16 _ key w K ?_
  unfold F16
  have h0 := h
  obtain ⟨G, mb, c, bp, kp, bc, kc, cells, h, hf⟩ := h
  refine optP_of (ldO (i := 0) h.own rfl (asM_of (lookupI h.map u55 u3 (t2 ?_) z3)))
  cases hl : lkE E key with
  | none => exact ifB_t rfl (k0 hl)
  | some v =>
    refine ifB_f rfl (note h0 hB fun w1 F1 h1 hf1 e1 => t0 ?_)
    clear hf h
    obtain ⟨G, mb, c, bp, kp, bc, kc, cells, h1, hf⟩ := h1
    refine optP_of (ldO (i := 0) h1.own rfl (asM_of (delI h1.map u55 u3 fun w2 hm e2 => t0 ?_)))
    refine k1 (by rw [hl]; simp) w2 F1 _ (fun j => lkE_del j) (len_del _ _) ⟨G, mb, c, bp, kp, bc, kc, cells, h1.remap e2 hm, hf⟩ hf1 (e1.trans e2 fun x hx e => ?_)
    have := hf x (.inr (.inl e))
    rcases hf1 x this with h | h
    · exact h
    · omega

/-! ### A change put back -/
def Un.app : Un → (Int → Option Int) → Int → Option Int
  | .set k v, M, j => if j = k then some v else M j
  | .del k, M, j => if j = k then none else M j
theorem redo {u : Un} {f : Value} {G' : Nat → Prop} (h : TabD w G tb mb c bp kp bc kc cells E B ms) (hu : UnAt w G' tb u f)
    (k : ∀ w' E' c', TabD w' G tb mb c' bp kp bc kc cells E' B ms → (∀ j, lkE E' j = u.app (lkE E) j) → E'.length ≤ E.length + 1 → Ext (· = mb) w w' → K (.tuple #[]) w') : callVal Try.prog f #[] w K := by
  have hd : Bl w w.drew := (Bl.refl w).drew
  have h1 := h.ext (S := None') (Ext.of_bl hd) fun _ _ h => h
  cases u with
  | set a b =>
    obtain ⟨bv, bt, bk, rfl, _, _, _, o1, o2, o3⟩ := hu
    show callVal Try.prog (.func (.func 35) #[] #[.pointer (some ⟨bv, 0, none⟩), .pointer (some ⟨bt, 0, none⟩), .pointer (some ⟨bk, 0, none⟩)]) #[] w K
    have hc : callVal Try.prog (.func (.func 35) #[] #[.pointer (some ⟨bv, 0, none⟩), .pointer (some ⟨bt, 0, none⟩), .pointer (some ⟨bk, 0, none⟩)]) #[] w K = CallV Try.prog 35 #[.pointer (some ⟨bv, 0, none⟩), .pointer (some ⟨bt, 0, none⟩), .pointer (some ⟨bk, 0, none⟩)] w K := by kernel_rfl
    rw [hc]
    refine call35 _ _ _ w K ?_
    unfold F35 drewK
    refine ldO (o2.bl hd) rfl (asP_of (optP_of (ldO (i := 0) h1.own rfl (asM_of (ldO (o3.bl hd) rfl (asI_of (ldO (o1.bl hd) rfl (asI_of (setI h1.map u55 u3 fun w2 c' hm e2 => ?_)))))))))
    exact k w2 _ c' (h1.remap e2 hm) (fun j => lkE_upd j) (len_upd _ _ _ _) ((Ext.of_bl hd).trans e2 fun x _ e => e)
  | del a =>
    obtain ⟨bt, bk, rfl, _, _, o2, o3⟩ := hu
    have hc : callVal Try.prog (.func (.func 36) #[] #[.pointer (some ⟨bt, 0, none⟩), .pointer (some ⟨bk, 0, none⟩)]) #[] w K = CallV Try.prog 36 #[.pointer (some ⟨bt, 0, none⟩), .pointer (some ⟨bk, 0, none⟩)] w K := by kernel_rfl
    rw [hc]
    refine call36 _ _ w K ?_
    unfold F36 drewK
    refine ldO (o2.bl hd) rfl (asP_of (optP_of (ldO (i := 0) h1.own rfl (asM_of (ldO (o3.bl hd) rfl (asI_of (delI h1.map u55 u3 fun w2 hm e2 => t0 ?_)))))))
    exact k w2 _ c (h1.remap e2 hm) (fun j => lkE_del j) (Nat.le_succ_of_le (len_del _ _)) ((Ext.of_bl hd).trans e2 fun x _ e => e)
end Go.Proofs.Ytalhnoelkglgiaa.W
