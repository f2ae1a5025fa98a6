/- The table: how a key is put back is kept (note); Set, Delete. No condition. -/
import Derived.Test.YtalhnoelkglgiaaU0
namespace Go.Proofs.Ytalhnoelkglgiaa.W
open Go Go.Proofs.Ytalhnoelkglgiaa.Sh Go.RowKit
set_option linter.unusedVariables false
set_option maxRecDepth 100000
variable {w : World} {K : Value → World → Prop}
variable {F G : Nat → Prop} {tb mb c bc kc : Nat} {bp kp : Option Addr} {cells : List Value} {E : List E3} {B : List Un} {ms : List Nat}
theorem asP_of {p : Option Addr} {F : Option Addr → Prop} (k : F p) : asP (.pointer p) F := k
theorem u56 : Try.prog.underlying 56 = some (.slice 1) := by kernel_rfl
theorem i1 : (Try.prog.info? 1).map (fun i => (i.zero, i.size, i.bytes)) = some (some .nilFunc, 1, 8) := by kernel_rfl
theorem blk_some {g n c k : Nat} : Blk (.slice (some ⟨g, 0, none⟩) n c) k ↔ g = k := by simp [Blk, Value.ownBlock]

/-- One way more, at the end of the changes. -/
theorem pushT {tmp bt : Nat} {u : Un} {f : Value} {G' : Nat → Prop} (h : TabD w G tb mb c bp kp bc kc cells E B ms) (ho : Own w tmp #[f] 1) (hf1 : f.oneCell' = true) (hu : UnAt w G' tb u f) (hG : ∀ b, G b → G' b) (hG' : ∀ b, G' b → G b ∨ ¬ Foot G tb mb bp kp b)
    (hlt : ∀ b, G' b → b < w.heap.size) (hB : B.length < 1073741823) (hbt : Own w bt #[.pointer (some ⟨tb, 0, none⟩)] 23) (hbtf : ¬ Foot G tb mb bp kp bt)
    (k : ∀ w' bp' bc' cells', TabD w' G' tb mb c bp' kp bc' kc cells' E (B ++ [u]) ms → (∀ x, Foot G' tb mb bp' kp x → Foot G' tb mb bp kp x ∨ w.heap.size ≤ x) → Ext (Foot G tb mb bp kp) w w' → K (.tuple #[]) w') :
    semK Try.prog (Builtin.append_ #[56, 56] 56 #[.slice bp B.length bc, .slice (some ⟨tmp, 0, none⟩) 1 1]) w fun v w1 => asL v fun lp ll lc =>
      (ldK Try.prog w1 ⟨bt, 0, none⟩ fun v2 => asP v2 fun p => ((.pointer p : Value) = .pointer (some ⟨tb, 0, none⟩))) ∧ (optP (some (⟨tb, 0, none⟩ : Addr)) fun ad => semU Try.prog (Instr.storeAt 56 (.pointer (some (Addr.add ad 1))) (.slice lp ll lc)) w1 fun w2 => K (.tuple #[]) w2) := by
  refine app1 h.back ho u56 i1 rfl hf1 (by omega) (by decide) fun g cap w1 hr1 e1 hg hglt => asL_of ⟨?_, optP_of ?_⟩
  · have : Own w1 bt #[.pointer (some ⟨tb, 0, none⟩)] 23 := hbt.ext e1 fun hb => hbtf (.inr (.inr (.inl (blk_slice.1 hb))))
    exact ldO this rfl (asP_of rfl)
  have own1 : Own w1 tb _ 58 := h.own.ext e1 h.n2.1
  have hgn : g ≠ tb ∧ g ≠ mb ∧ ¬ Blk (.slice kp ms.length kc) g := by
    rcases hg with hg | hg
    · exact ⟨fun e => h.n2.1 (e ▸ hg), fun e => h.n2.2 (e ▸ hg), h.n4 g hg⟩
    · have l1 := h.own.lt
      have l2 := h.map.block
      exact ⟨by omega, by omega, fun hb => by have := h.marks.lt hb; omega⟩
  refine stO (i := 1) (b := tb) own1 (by simp) (by kernel_rfl) rfl rfl fun w2 own2 e2 => ?_
  have e12 : Ext (Foot G tb mb bp kp) w w2 := (e1.mono (S' := Foot G tb mb bp kp) fun k _ hk => .inr (.inr (.inl (blk_slice.1 hk)))).trans e2 fun k _ hk => .inl hk
  have hbox : ∀ b, G' b → b ≠ tb ∧ b ≠ mb ∧ ¬ Blk (.slice bp B.length bc) b ∧ ¬ Blk (.slice kp ms.length kc) b := by
    intro b hb
    rcases hG' b hb with hb | hb
    · exact h.n5 b hb
    · exact ⟨fun e => hb (.inl e), fun e => hb (.inr (.inl e)), fun e => hb (.inr (.inr (.inl (blk_slice.1 e)))), fun e => hb (.inr (.inr (.inr (.inl (blk_slice.1 e)))))⟩
  have hlenc := h.back.len
  have hlen : (B ++ [u]).length = B.length + 1 := by simp
  refine k w2 (some ⟨g, 0, none⟩) cap (cells ++ [f]) ⟨?_, ?_, ?_, ?_, ?_, h.n1, ?_, h.n3, ?_, ?_, ?_⟩ ?_ e12
  · rw [hlen]; exact own2
  · exact (h.map.ext e1 h.n2.2).ext e2 fun e => h.n1 e.symm
  · rw [hlen]; exact hr1.ext e2 fun x hx e => hgn.1 (by rw [blk_some] at hx; omega)
  · exact (h.marks.ext e1 fun x hx hx2 => h.n4 x hx2 hx).ext e2 fun x hx e => h.n3.1 (e ▸ hx)
  · intro j v hv
    have hun : ∀ v f, UnAt w G' tb v f → UnAt w2 G' tb v f := fun v f hv => (hv.ext e1 fun b hb => (hbox b hb).2.2.1).ext e2 fun b hb => (hbox b hb).1
    by_cases hj : j < B.length
    · rw [List.getElem?_append_left hj] at hv
      obtain ⟨f', h1, h2⟩ := h.uns j v hv
      exact ⟨f', by rw [List.getElem?_append_left (by omega)]; exact h1, hun _ _ (h2.mono hG)⟩
    · rw [List.getElem?_append_right (by omega)] at hv
      have hj2 : j - B.length = 0 := by
        by_cases hz : j - B.length = 0
        · exact hz
        · rw [List.getElem?_eq_none (by simp; omega)] at hv; cases hv
      rw [hj2] at hv
      simp only [List.getElem?_cons_zero, Option.some.injEq] at hv
      subst hv
      refine ⟨f, ?_, hun _ _ hu⟩
      rw [List.getElem?_append_right (by omega), show j - cells.length = 0 by omega]; rfl
  · exact ⟨fun hb => hgn.1 (blk_some.1 hb), fun hb => hgn.2.1 (blk_some.1 hb)⟩
  · intro x hx; rw [blk_some] at hx; subst hx; exact hgn.2.2
  · intro b hb
    refine ⟨(hbox b hb).1, (hbox b hb).2.1, fun e => ?_, (hbox b hb).2.2.2⟩
    rw [blk_some] at e
    subst e
    rcases hg with hg | hg
    · exact (hbox g hb).2.2.1 hg
    · have := hlt g hb; omega
  · intro b hb; exact Nat.lt_of_lt_of_le (hlt b hb) e12.size
  · rintro x (hx | hx | hx | hx | hx)
    · exact .inl (.inl hx)
    · exact .inl (.inr (.inl hx))
    · simp only [Option.map_some, Option.some.injEq] at hx
      subst hx
      rcases hg with hg | hg
      · exact .inl (.inr (.inr (.inl (blk_slice.1 hg))))
      · exact .inr (by omega)
    · exact .inl (.inr (.inr (.inr (.inl hx))))
    · exact .inl (.inr (.inr (.inr (.inr hx))))

def inv (E : List E3) (k : Int) : Un := match lkE E k with | some v => .set k v | none => .del k
def noted (E : List E3) (B : List Un) (ms : List Nat) (k : Int) : List Un := if ms = [] then B else B ++ [inv E k]
theorem alO {w : World} {cs : Array Value} {t : TypeId} {F : World → Prop} (h : ∀ w', Own w' w.heap.size cs t → Bl w w' → w'.heap.size = w.heap.size + 1 → F w') : allocK w (.cells cs t) F :=
  h _ (Own.new _ _ _) ((Bl.refl w).alloc _) (size_alloc _ _)
theorem asL_eq {v : Value} {p : Option Addr} {l c : Nat} {F : Option Addr → Nat → Nat → Prop} (hv : v = .slice p l c) (k : F p l c) : asL v F := by subst hv; exact k
theorem foot_new {x : Nat} (h : TabD w G tb mb c bp kp bc kc cells E B ms) (hx : w.heap.size ≤ x) : ¬ Foot G tb mb bp kp x := fun hf => by have := h.lt x hf; omega
theorem note {key : Int} (h : Tab w F tb E B ms) (hB : B.length < 1073741823) (k : ∀ w' F', Tab w' F' tb E (noted E B ms key) ms → (∀ x, F' x → F x ∨ w.heap.size ≤ x) → Ext F w w' → K (.tuple #[]) w') :
    CallV Try.prog 30 #[.pointer (some ⟨tb, 0, none⟩), .int .i64 key] w K := by
  obtain ⟨G, mb, c, bp, kp, bc, kc, cells, h, hf⟩ := h
  refine call30 _ key w K ?_
  unfold F30
  refine alO fun w1 o1 b1 s1 => alO fun w2 o2 b2 s2 => ?_
  have o1 := o1.bl b2
  have h2 := h.ext (S := None') (Ext.of_bl (b1.trans b2)) fun _ _ h => h
  have bb := b1.trans b2
  refine ldO o1 rfl (asP_of (optP_of (ldO (i := 2) h2.own rfl (asL_of (ifE (fun e => ?_) fun e => ?_)))))
  · have hm : ms = [] := List.length_eq_zero_iff.1 (by omega)
    refine k w2 F ⟨G, mb, c, bp, kp, bc, kc, cells, ?_, hf⟩ (fun x hx => .inl hx) (Ext.of_bl bb)
    unfold noted; rw [if_pos hm]; exact h2
  have hm : ms ≠ [] := fun e2 => e (by rw [e2]; rfl)
  -- a mark stands
  have d2 : Bl w2 w2.drew := (Bl.refl w2).drew
  have h3 := h2.ext (S := None') (Ext.of_bl d2) fun _ _ h => h
  have o1d := o1.bl d2
  have o2d := o2.bl d2
  have sd : w2.drew.heap.size = w2.heap.size := rfl
  unfold drewK
  generalize w2.drew = w3 at d2 h3 o1d o2d sd ⊢
  refine ldO o1d rfl (asP_of (optP_of (ldO (i := 0) h3.own rfl (asM_of (ldO o2d rfl (asI_of (lookupI h3.map u55 u3 (t2 ?_) z3)))))))
  refine alO fun w5 o5 b5 s5 => ?_
  have h5 := h3.ext (S := None') (Ext.of_bl b5) fun _ _ h => h
  have o15 := o1d.bl b5
  have o25 := o2d.bl b5
  refine ⟨ldO o15 rfl (asP_of rfl), ldO (i := 0) h5.own rfl (asM_of rfl), ldO o25 rfl (asI_of rfl), lookupI h5.map u55 u3 (t2 rfl) z3, ?_⟩
  refine stO (i := 0) o5 (by simp) (by kernel_rfl) rfl rfl fun w7 o7 e7 => ?_
  have n5 : ∀ x, Foot G tb mb bp kp x → x ≠ w3.heap.size := fun x hx => by have := h3.lt x hx; omega
  have h7 := h5.ext e7 fun x hx => n5 x hx
  have o17 : Own w7 w.heap.size _ _ := o15.ext e7 (by omega)
  have o27 : Own w7 w1.heap.size _ _ := o25.ext e7 (by omega)
  have x7 : Ext F w w7 := (Ext.of_bl (((bb.trans d2).trans b5))).trans (S := F) e7 fun x hx e => by omega
  have hN : ∀ x, w.heap.size ≤ x → ¬ Foot G tb mb bp kp x := fun x hx => foot_new h hx
  -- what comes last
  have last : ∀ (w8 : World) (u : Un) (f : Value) (G' : Nat → Prop), Bl w7 w8 → inv E key = u → UnAt w8 G' tb u f → f.oneCell' = true → (∀ b, G b → G' b) → (∀ b, G' b → G b ∨ (w.heap.size ≤ b ∧ b < w8.heap.size)) →
      semK Try.prog (Builtin.append_ #[56, 56] 56 #[.slice bp B.length bc, .slice (some ⟨w8.heap.size, 0, none⟩) 1 1]) (w8.alloc (.cells #[f] 1)) fun v w1 => asL v fun lp ll lc =>
      (ldK Try.prog w1 ⟨w.heap.size, 0, none⟩ fun v2 => asP v2 fun p => ((.pointer p : Value) = .pointer (some ⟨tb, 0, none⟩))) ∧ (optP (some (⟨tb, 0, none⟩ : Addr)) fun ad => semU Try.prog (Instr.storeAt 56 (.pointer (some (Addr.add ad 1))) (.slice lp ll lc)) w1 fun w2 => K (.tuple #[]) w2) := by
    intro w8 u f G' b8 hu hun hf1 hg1 hg2
    have b9 : Bl w8 (w8.alloc (.cells #[f] 1)) := (Bl.refl w8).alloc _
    have h9 := h7.ext (S := None') (Ext.of_bl (b8.trans b9)) fun _ _ h => h
    have s9 := size_alloc w8 (.cells #[f] 1)
    refine pushT h9 (Own.new _ _ _) hf1 (hun.ext (S := None') (Ext.of_bl b9) fun _ _ h => h) hg1 (fun b hb => (hg2 b hb).imp id fun hb => hN b hb.1) (fun b hb => ?_) hB (o17.bl (b8.trans b9)) (hN _ (Nat.le_refl _)) fun w' bp' bc' cells' h' hfo hex => ?_
    · rcases hg2 b hb with hb | hb
      · exact h9.n6 b hb
      · omega
    · refine k w' (fun x => F x ∨ w.heap.size ≤ x) ⟨G', mb, c, bp', kp, bc', kc, cells', ?_, ?_⟩ (fun x hx => hx) ?_
      · unfold noted; rw [if_neg hm, hu]; exact h'
      · intro x hx
        rcases hfo x hx with hx | hx
        · rcases hx with hx | hx | hx | hx | hx
          · exact .inl (hf x (.inl hx))
          · exact .inl (hf x (.inr (.inl hx)))
          · exact .inl (hf x (.inr (.inr (.inl hx))))
          · exact .inl (hf x (.inr (.inr (.inr (.inl hx)))))
          · rcases hg2 x hx with hx | hx
            · exact .inl (hf x (.inr (.inr (.inr (.inr hx)))))
            · exact .inr hx.1
        · refine .inr ?_
          have := x7.size
          have := b8.size
          omega
      · exact (x7.trans (S := F) (Ext.of_bl (S := F) (b8.trans b9)) fun _ _ h => h).trans hex fun x _ hx => hf x hx
  have d8 : Bl w7 w7.drew := (Bl.refl w7).drew
  have h8 := h7.ext (S := None') (Ext.of_bl d8) fun _ _ h => h
  have o18 := o17.bl d8
  have o28 := o27.bl d8
  have o78 := o7.bl d8
  have s8 : w7.drew.heap.size = w7.heap.size := rfl
  have z7 := e7.size
  cases hl : lkE E key with
  | some v =>
    rw [hl] at o78
    refine ifB_t rfl ?_
    refine ldO o18 rfl (asP_of (ldO o18 rfl (asP_of (optP_of (ldO (i := 1) h8.own rfl (asL_of ?_))))))
    have b9 : Bl w7.drew (w7.drew.alloc (.cells #[.func (.func 35) #[] #[.pointer (some ⟨w3.heap.size, 0, none⟩), .pointer (some ⟨w.heap.size, 0, none⟩), .pointer (some ⟨w1.heap.size, 0, none⟩)]] 1)) := (Bl.refl _).alloc _
    refine ⟨ldO (o18.bl b9) rfl (asP_of rfl), ldO (o18.bl b9) rfl (asP_of rfl), ldO (i := 1) (h8.own.bl b9) rfl (asL_of rfl), ?_⟩
    refine last w7.drew (.set key v) _ (fun b => G b ∨ b = w3.heap.size ∨ b = w.heap.size ∨ b = w1.heap.size) d8 (by unfold inv; rw [hl]) ⟨_, _, _, rfl, .inr (.inl rfl), .inr (.inr (.inl rfl)), .inr (.inr (.inr rfl)), o78, o18, o28⟩ rfl (fun b hb => .inl hb) ?_
    rintro b (hb | rfl | rfl | rfl)
    · exact .inl hb
    all_goals exact .inr ⟨by omega, by omega⟩
  | none =>
    refine ifB_f rfl ?_
    refine ldO o18 rfl (asP_of (ldO o18 rfl (asP_of (optP_of (ldO (i := 1) h8.own rfl (asL_of ?_))))))
    have b9 : Bl w7.drew (w7.drew.alloc (.cells #[.func (.func 36) #[] #[.pointer (some ⟨w.heap.size, 0, none⟩), .pointer (some ⟨w1.heap.size, 0, none⟩)]] 1)) := (Bl.refl _).alloc _
    refine ⟨ldO (o18.bl b9) rfl (asP_of rfl), ldO (o18.bl b9) rfl (asP_of rfl), ldO (i := 1) (h8.own.bl b9) rfl (asL_of rfl), ?_⟩
    refine last w7.drew (.del key) _ (fun b => G b ∨ b = w.heap.size ∨ b = w1.heap.size) d8 (by unfold inv; rw [hl]) ⟨_, _, rfl, .inr (.inl rfl), .inr (.inr rfl), o18, o28⟩ rfl (fun b hb => .inl hb) ?_
    rintro b (hb | rfl | rfl)
    · exact .inl hb
    all_goals exact .inr ⟨by omega, by omega⟩
end Go.Proofs.Ytalhnoelkglgiaa.W
