/- The layer's functions: what fnA asks suffices for a call. And small words for reading what it asks. No condition: it holds of every program. -/
import Derived.Test.YtalhnoelkglgiaaShH
namespace Go.Proofs.Ytalhnoelkglgiaa.Sh
open Go
set_option linter.unusedSimpArgs false
set_option linter.unusedVariables false
section
variable {P : Program}

theorem envOf_get : ∀ (l : List Value) (k i : Nat), envOf l k i = if k ≤ i then (l[i - k]?).getD undef else undef
  | [], k, i => by simp [envOf]
  | v :: vs, k, i => by
    simp only [envOf, put]
    by_cases h : i = k
    · subst h; simp [Nat.beq_refl]
    · have hb : Nat.beq i k = false := by
        cases hb : Nat.beq i k with
        | false => rfl
        | true => exact absurd (Nat.eq_of_beq_eq_true hb) h
      rw [hb, cond_false, envOf_get vs (k + 1) i]
      by_cases hk : k ≤ i
      · rw [if_pos (by omega), if_pos hk]
        obtain ⟨m, hm⟩ : ∃ m, i - k = m + 1 := ⟨i - k - 1, by omega⟩
        rw [hm, show i - (k + 1) = m by omega]; simp
      · rw [if_neg (by omega), if_neg hk]

theorem rel_start {N : Nat} {l : List Value} (h : l.length ≤ N) : Rel N (envOf l 0) [] { tmps := l.toArray ++ Array.replicate (N - l.toArray.size) undef, defers := [] } := by
  refine ⟨rfl, by simp; omega, fun i hi => ?_⟩
  rw [envOf_get, if_pos (Nat.zero_le _), Nat.sub_zero]
  simp only [Array.getD_eq_getD_getElem?, Array.getElem?_append]
  by_cases hl : i < l.length
  · simp [hl]
  · simp [hl, Array.getElem?_replicate]
    split <;> rfl

theorem run_of_ldT {x : Addr} {t : TypeId} {w : World} {F : Value → Prop} (h : ldT P w x t F) : ∃ v, (loadVar t x).run P w = .ok v w ∧ F v := by
  have h1 : ldT P w x t fun v => (fun v w' => w' = w ∧ F v) v w := by
    unfold ldT at h ⊢
    cases hu : P.underlying t with
    | none => simp [hu] at h
    | some d => simpa [hu] using h
  have h2 := wp_sat (ldT_wp (R := fun v w' => w' = w ∧ F v) h1)
  cases hr : (loadVar t x).run P w with
  | ok v w' => rw [hr] at h2; obtain ⟨rfl, hF⟩ := h2; exact ⟨v, rfl, hF⟩
  | halt x w' => rw [hr] at h2; exact h2.elim

def rvSem (a : Act) (x : ResultVar) : Sem Value :=
  match x with
  | .tmp t => pure (a.tmps.getD t undef)
  | .cell b t => do loadVar t (← asAddr (a.tmps.getD b undef))
theorem results_eq (fn : Func) (a : Act) : results fn a.tmps = (do let vs ← fn.results.mapM (rvSem a); pure (if h : vs.size = 1 then vs[0] else .tuple vs)) := by
  unfold results
  congr 2
theorem resL_run {N : Nat} {e : Env} {ds : List Deferred} {a : Act} {w : World} (hr : Rel N e ds a) : ∀ (l : List ResultVar) (acc : List Value) (F : List Value → Prop), resL P N e w l acc F →
    ∃ vs, (l.mapM (rvSem a)).run P w = Result.ok vs w ∧ F (acc.reverse ++ vs)
  | [], acc, F, h => ⟨[], by simp, by simpa [resL] using h⟩
  | .tmp t :: l, acc, F, h => by
    simp only [resL] at h
    obtain ⟨vs, h1, h2⟩ := resL_run hr l _ F h
    have ev := congrFun (eval_eq hr) (.tmp t)
    refine ⟨rdv N e (.tmp t) :: vs, ?_, by simpa using h2⟩
    rw [List.mapM_cons, ← ev]
    simp only [Act.eval, rvSem]
    simp [Sem.run_bind, h1]
  | .cell b t :: l, acc, F, h => by
    simp only [resL] at h
    have ev := congrFun (eval_eq hr) (.tmp b)
    split at h
    · rename_i x hx
      obtain ⟨v, hv, h'⟩ := run_of_ldT h
      obtain ⟨vs, h1, h2⟩ := resL_run hr l _ F h'
      refine ⟨v :: vs, ?_, by simpa using h2⟩
      rw [hx] at ev
      simp only [Act.eval] at ev
      rw [List.mapM_cons]
      simp only [rvSem, ev, asAddr]
      simp [Sem.run_bind, hv, h1]
    · exact h.elim

theorem leaves_marks {f : FuncId} {fn : Func} {tm : Array Value} {R : Value → World → Prop} : ∀ (ds : List Deferred) (w : World) (F : World → Prop), (∀ w', F w' → ∃ v, (results fn tm).run P w' = .ok v w' ∧ R v w') → marksA ds w F →
    LeavesInM (FW none) 0 P fn tm (fun e w' => ∃ v, e = .returned v ∧ R v w') ds .returning w
  | [], w, F, hF, h => by
    obtain ⟨v, h1, h2⟩ := hF w h
    exact ⟨v, h1, v, rfl, h2⟩
  | d :: ds, w, F, hF, h => by
    refine ⟨by simp, .inl ?_⟩
    have h : (match d.target with | .collected D => w.heap[D]? = some (.deferred (some [])) ∧ marksA ds (w.putObj D (.deferred none)) F | _ => False) := h
    split at h
    · rename_i D hD
      exact ⟨D, _, hD, run_takeDeferred h.1, leaves_marks (f := f) ds _ F hF h.2⟩
    · exact h.elim
theorem callV_of {f : FuncId} {fn : Func} {an : Ann} {args : List Value} {w : World} {R : Value → World → Prop} (hf : P.funcs[f]? = some fn) (hz : Nat.ble args.length fn.ntmps = true)
    (hs : fnSides P fn an R) (h : fnA P fn an args w R) : CallV P f args.toArray w R := by
  unfold fnA at h
  unfold fnSides at hs
  cases hb : fn.body with
  | none => simp [hb] at h
  | some c =>
    simp only [hb] at h hs
    have hw := codeA_sound c none 0 an _ _ [] w _ hs h (rel_start (by rw [← Nat.ble_eq]; exact hz))
    refine (callsIn_wide (n := 0)).1 (callsIn_of_wp_marks (F := FW none) (n := 0) hf hb trivial (wpIn_mono hw ?_))
    rintro ex a' w' ⟨e', ds', hr, hq⟩
    have fin : marksA ds' w' (fun w => resL P fn.ntmps e' w fn.results.toList [] fun vs => R (oneOrTuple vs) w) → LeavesInM (FW none) 0 P fn a'.tmps (fun e w' => ∃ v, e = .returned v ∧ R v w') a'.defers .returning w' := by
      intro hq
      rw [hr.defers]
      refine leaves_marks (f := f) ds' w' _ (fun w2 h2 => ?_) hq
      obtain ⟨vs, h1, h3⟩ := resL_run hr _ _ _ h2
      refine ⟨oneOrTuple vs, ?_, by simpa using h3⟩
      rw [results_eq, Array.mapM_eq_mapM_toList]
      cases vs with
      | nil => simp [Sem.run_bind, h1, oneOrTuple]
      | cons v vs => cases vs <;> simp [Sem.run_bind, h1, oneOrTuple]
    cases ex with
    | normal => exact fin hq
    | ret => exact fin hq
    | _ => exact hq.elim

/-! ### Words for reading -/
theorem ldK_of {w : World} {a : Addr} {v : Value} {F : Value → Prop} (h : w.cell? a = some v) (hF : F v) : ldK P w a F := by simp only [ldK, h]; exact hF
theorem stK_of {w : World} {a : Addr} {v u : Value} {F : World → Prop} (h : w.cell? a = some u) (hv : v.oneCell = true) (hz : w.frozen? a = false) (hF : F (w.setCell a v)) : stK P w a v F := by
  simp only [stK, h, hv, hz, if_true, Bool.false_eq_true, if_false]; exact hF
theorem asI_of {k : IntKind} {n : Int} {F : Int → Prop} (hF : F n) : asI k (.int k n) F := by simp only [asI, if_true]; exact hF
theorem ifB_of {b : Bool} {T F : Prop} (h1 : b = true → T) (h0 : b = false → F) : ifB b T F := by cases b; exact h0 rfl; exact h1 rfl
theorem ifB_dec {p : Prop} [Decidable p] {T F : Prop} (h1 : p → T) (h0 : ¬ p → F) : ifB (decide p) T F := ifB_of (fun h => h1 (of_decide_eq_true h)) (fun h => h0 (of_decide_eq_false h))
end
end Go.Proofs.Ytalhnoelkglgiaa.Sh
