/- The layer's statements: codeA suffices for the code (wpIn). No condition: it holds of every program. -/
import Derived.Test.YtalhnoelkglgiaaShG
namespace Go.Proofs.Ytalhnoelkglgiaa.Sh
open Go
set_option linter.unusedSimpArgs false
set_option linter.unusedVariables false
section
variable {P : Program} {N : Nat}
/-! ### Statements -/
def lift (N : Nat) (Q : Post) : Exit → Act → World → Prop := fun x a w => ∃ e ds, Rel N e ds a ∧ Q x e ds w

theorem enterLoop_inner {w : World} {l₀ : Nat} {r₀ : Loop} (h : w.heap[l₀]? = some (.loop r₀)) (fn : FuncId) (tmps : Array Value) (ps : Array Tmp) (assign body : Code) :
    (Instr.enterLoop fn tmps ps assign body (some l₀)).run P w =
      .ok (w.heap.size, []) (w.alloc (.loop { state := .ready, pending := none, fn, tmps, params := ps, assign, body, defers := r₀.defers })) := by
  unfold Instr.enterLoop
  simp only [Sem.run_bind, run_getLoop h, run_newObj_alloc, Result.andThen, Sem.run_pure]
/-- yield's temporaries. -/
theorem rel_defers {e : Env} {ds ds' : List Deferred} {tm : Array Value} (h : Rel N e ds { tmps := tm, defers := ds }) : Rel N e ds' { tmps := tm, defers := ds' } := ⟨rfl, h.size, h.get⟩
theorem bindA_rel : ∀ (ks : List V1) (ps : List Tmp) (xs : List Value) (e : Env) (tm : Array Value) (F : Env → Prop), Rel N e [] { tmps := tm, defers := [] } → bindA ks ps xs e F →
    xs.length = ps.length ∧ ∃ e', F e' ∧ Rel N e' [] { tmps := (ps.zip xs).foldl (fun t (p, v) => t.setIfInBounds p v) tm, defers := [] }
  | [], ps, xs, e, tm, F, hr, h => by
    cases ps with
    | nil =>
      cases xs with
      | nil => exact ⟨rfl, e, h, hr⟩
      | cons x xs => exact h.elim
    | cons p ps => exact h.elim
  | k :: ks, ps, xs, e, tm, F, hr, h => by
    cases ps with
    | nil => exact h.elim
    | cons p ps =>
      cases xs with
      | nil => exact h.elim
      | cons x xs =>
        have h : bindA ks ps xs (put e (some p) x) F := asV1_imp (F := fun x => bindA ks ps xs (put e (some p) x) F) h
        have hr' : Rel N (put e (some p) x) [] { tmps := tm.setIfInBounds p x, defers := [] } := hr.put' (some p) x
        obtain ⟨h1, e', h2, h3⟩ := bindA_rel ks ps xs _ _ F hr' h
        exact ⟨by simp [h1], e', h2, h3⟩
theorem foldl_zip_toArray (ps : Array Tmp) (xs : List Value) (tm : Array Value) : (ps.zip xs.toArray).foldl (fun t (p, v) => t.setIfInBounds p v) tm = (ps.toList.zip xs).foldl (fun t (p, v) => t.setIfInBounds p v) tm := by
  rw [← Array.foldl_toList, Array.toList_zip]
theorem inRound_fw {rd : Option Nat} {l : Nat} : (FW rd).inRound l = FW (some l) := rfl
theorem codeA_sound : ∀ (c : Code) (rd : Option Nat) (n : Nat) (an : Ann) (Q : Post) (e : Env) (ds : List Deferred) (w : World) (a : Act), sidesA P N rd an c Q → codeA P N rd an c Q e ds w → Rel N e ds a → c.wpIn (FW rd) n P (lift N Q) a w := by
  intro c
  induction c with
  | skip => intro rd n an Q e ds w a _ h hr; exact wpIn_skip ⟨e, ds, hr, by cases an <;> exact h⟩
  | region id ops draw =>
    intro rd n an Q e ds w a hsd h hr
    clear hsd
    cases draw with
    | true =>
      cases an
      case draw ord =>
        have h : cond (chkB P ops.toList ord && P.follows .mixedOrders) (drewK w fun w => drawA P N ops.toList (ancsGo [] ops.toList) ds (fun e w => Q .normal e ds w) ord [] e w) False := h
        cases hc : chkB P ops.toList ord && P.follows .mixedOrders with
        | false => rw [hc] at h; exact h.elim
        | true =>
          rw [hc] at h
          simp only [cond_true] at h
          simp only [Bool.and_eq_true] at hc
          exact wpIn_region_any hc.2 (draw_sound hc.1 (fun e a w hr hk => ⟨e, ds, hr, hk⟩) hr h)
      all_goals exact h.elim
    | false =>
      have h' : opsA P N ops.toList (Q .normal) ops.toList e ds w := by cases an <;> exact h
      refine wpIn_region ?_
      rw [List.range_eq_range', ← Array.length_toList]
      exact opsA_sound (Q := lift N Q) (fun a w hx => hx) ops.toList 0 e ds w a (fun j _ => by simp) h' hr
  | seq x y ihx ihy =>
    intro rd n an Q e ds w a hs h hr
    refine wpIn_seq ?_
    have go : ∀ (a1 a2 : Ann) (K : Env → List Deferred → World → Prop), (∀ e ds w, K e ds w → codeA P N rd a2 y Q e ds w) → sidesA P N rd a1 x (thenA K Q) → sidesA P N rd a2 y Q → codeA P N rd a1 x (thenA K Q) e ds w →
        x.wpIn (FW rd) n P (Exit.then (y.wpIn (FW rd) n P (lift N Q)) (lift N Q)) a w := by
      intro a1 a2 K hK s1 s2 hx
      refine wpIn_mono (ihx rd n a1 _ e ds w a s1 hx hr) ?_
      rintro ex a' w' ⟨e', ds', hr', hq⟩
      cases ex with
      | normal => exact ihy rd n a2 Q e' ds' w' a' s2 (hK _ _ _ hq) hr'
      | _ => exact ⟨e', ds', hr', hq⟩
    cases an
    case join K a1 a2 => exact go a1 a2 K hs.1 hs.2.1 hs.2.2 h
    case no => exact go .no .no _ (fun _ _ _ hk => hk) (by simp [sidesA]) (by simp [sidesA]) h
    all_goals exact go _ _ _ (fun _ _ _ hk => hk) hs.1 hs.2 h
  | cond c x y ihx ihy =>
    intro rd n an Q e ds w a hs h hr
    have hs' : sidesA P N rd an.l x Q ∧ sidesA P N rd an.r y Q := by cases an <;> first | exact hs | exact ⟨by simp [sidesA, Ann.l], by simp [sidesA, Ann.r]⟩
    have h' : (match rdv N e c with | .bool t => ifB t (codeA P N rd an.l x Q e ds w) (codeA P N rd an.r y Q e ds w) | _ => False) := by cases an <;> exact h
    split at h'
    · rename_i t ht
      refine wpIn_cond (t := t) (by rw [eval_eq hr]; exact ht) ?_
      cases t
      · exact ihy rd n _ Q e ds w a hs'.2 h' hr
      · exact ihx rd n _ Q e ds w a hs'.1 h' hr
    · exact h'.elim
  | block id c ih =>
    intro rd n an Q e ds w a hs h hr
    have hs' : sidesA P N rd an.l c (blockA id Q) := by cases an <;> first | exact hs | simp [sidesA, Ann.l]
    have h' : codeA P N rd an.l c (blockA id Q) e ds w := by cases an <;> exact h
    refine wpIn_block (wpIn_mono (ih rd n _ _ e ds w a hs' h' hr) ?_)
    rintro ex a' w' ⟨e', ds', hr', hq⟩
    cases ex with
    | exit id' =>
      simp only [blockA] at hq
      simp only [Exit.inBlock]
      by_cases hid : id' = id
      · subst hid
        rw [if_pos rfl]
        rw [Nat.beq_refl] at hq
        exact ⟨e', ds', hr', hq⟩
      · rw [if_neg hid]
        have hb : Nat.beq id' id = false := by
          cases hb : Nat.beq id' id with
          | false => rfl
          | true => exact absurd (Nat.eq_of_beq_eq_true hb) hid
        rw [hb] at hq
        exact ⟨e', ds', hr', hq⟩
    | _ => exact ⟨e', ds', hr', hq⟩
  | loop c ih =>
    intro rd n an Q e ds w a hs h hr
    cases an
    case loop I an =>
      obtain ⟨h0, h1, h2⟩ := hs
      obtain ⟨m, hm⟩ := h
      refine wpIn_loop_rounds m ?_
      have key : ∀ m e ds w a, I m e ds w → Rel N e ds a → Code.roundsIn (FW rd) n P c (lift N Q) m a w := by
        intro m
        induction m with
        | zero => intro e ds w a hi _; exact absurd hi (h0 e ds w)
        | succ m ihm =>
          intro e ds w a hi hr
          rw [roundsIn_succ]
          refine wpIn_mono (ih rd n (an m) _ e ds w a (h2 m) (h1 m e ds w hi) hr) ?_
          rintro ex a' w' ⟨e', ds', hr', hq⟩
          cases ex with
          | normal => exact ihm e' ds' w' a' hq hr'
          | _ => exact ⟨e', ds', hr', hq⟩
      exact key m e ds w a hm hr
    all_goals exact h.elim
  | rangeFunc g ps as_ body ih1 ih2 =>
    intro rd n an Q e ds w a hs h hr
    cases an
    case rng ks aa bb =>
      obtain ⟨tm, df⟩ := a
      have hdf : df = ds := hr.defers
      subst hdf
      have hr0 : Rel N e [] { tmps := tm, defers := [] } := rel_defers hr
      -- what is asked behind the record, for whatever record
      have core : ∀ (l : Nat) (fn : FuncId) (D : Nat) (mk : List Deferred) (W1 : Loop → World),
          (∀ r : Loop, r = { state := .ready, pending := none, fn := fn, tmps := tm, params := ps, assign := as_, body := body, defers := D } →
            yieldA P l (fun args wa F => readyA wa l r (bindA ks ps.toList args e fun e1 =>
              codeA P N (some l) (aa l r F) as_ (thenA (fun e2 ds2 w2 => readyA w2 l r (putK w2 l (loopObj r .busy none) fun w3 => codeA P N (some l) (bb l r F) body (roundPostA l r F) e2 ds2 w3)) (fun _ _ _ _ => False)) e1 [] wa))
            (enterV P (rdv N e g) #[.func (.yield l) #[] #[]] (W1 r) fun _ w2 => endA l r w2 fun pe w3 =>
              jumpP pe w3 (fun w => Q .normal e (mk ++ df) w) (fun w => Q .ret e (mk ++ df) w) (fun id w => Q (.exit id) e (mk ++ df) w) (fun t w => Q (.goto t) e (mk ++ df) w))) →
          ∃ (d : Deferred) (w₁' : World) (f : FuncId) (args : Array Value) (w₂ : World),
            (resolve (Act.eval { tmps := tm, defers := df }) (rangeCall g l) 0).run P (W1 { state := .ready, pending := none, fn := fn, tmps := tm, params := ps, assign := as_, body := body, defers := D }) = .ok d w₁' ∧ (invoke d.target d.args).run P w₁' = .ok (.enter f args) w₂ ∧
            CallsIn (FW rd) (n - 1) P f args w₂ (rangePost (FW rd) n P l (lift N Q) { tmps := tm, defers := mk ++ df }) := by
        intro l fn D mk W1 hcore
        obtain ⟨r, hrd⟩ : ∃ r : Loop, r = { state := .ready, pending := none, fn := fn, tmps := tm, params := ps, assign := as_, body := body, defers := D } := ⟨_, rfl⟩
        rw [← hrd]
        have hent := hcore r hrd ?_
        · -- the call
          have hev : (Act.eval { tmps := tm, defers := df }) g = rdv N e g := congrFun (eval_eq hr) g
          unfold enterV at hent
          split at hent
          · rename_i fnv first cap hgv
            obtain ⟨f', args', w2, hinv, hcall⟩ := hent
            refine ⟨{ target := .fn fnv cap, args := first ++ #[.func (.yield l) #[] #[]] }, W1 r, f', args', w2, ?_, hinv, fw_calls (Calls.mono hcall ?_)⟩
            · simp only [resolve, hev, hgv]
              simp [go_sem, Act.eval]
            · rintro en w3 ⟨v, rfl, st, pe, hl, hst, hj⟩
              refine ⟨pe, _, (run_endLoop hl hst).trans rfl, ?_⟩
              have hrel : Rel N e (mk ++ df) { tmps := tm, defers := mk ++ df } := rel_defers hr
              cases pe with
              | none => exact ⟨e, _, hrel, hj⟩
              | some c =>
                cases c with
                | ret => exact wpIn_ret ⟨e, _, hrel, hj⟩
                | exit id => exact wpIn_exit ⟨e, _, hrel, hj⟩
                | goto t => exact wpIn_goto ⟨e, _, hrel, hj⟩
                | _ => exact hj.elim
          · exact hent.elim
        · -- a round
          rintro args wa F ⟨hl, hb⟩
          obtain ⟨hlen, e1, hc, hrel1⟩ := bindA_rel ks ps.toList args e tm _ hr0 hb
          have hlr : wa.heap[l]? = some (.loop r) := by rw [hl, hrd]; rfl
          unfold callVal
          simp only [Array.empty_append]
          have hinv : (invoke (.fn (.yield l) #[]) args.toArray).run P wa = .ok (.round l fn ((ps.zip args.toArray).foldl (fun t (p, v) => t.setIfInBounds p v) tm) as_ body) wa := by
            simp only [invoke, Instr.yield, Sem.run_bind, run_getLoop hlr, Result.andThen_ok]
            have hsz : args.toArray.size = r.params.size := by rw [hrd]; simpa using hlen
            simp [hsz, hrd]
          rw [Sem.wp_iff_run, hinv]
          show RoundV P l fn _ as_ body wa F
          unfold RoundV
          refine roundIn_of_wpIn trivial ?_
          rw [inRound_fw, foldl_zip_toArray]
          obtain ⟨hs1, hs2⟩ := hs l r F
          refine wpIn_mono (ih1 (some l) 0 (aa l r F) _ e1 [] wa _ hs1 hc hrel1) ?_
          rintro ex a2 w2 ⟨e2, ds2, hrel2, hq⟩
          cases ex with
          | normal =>
            obtain ⟨hl2, hq⟩ := hq
            have hlr2 : w2.heap[l]? = some (.loop r) := by rw [hl2, hrd]; rfl
            refine ⟨_, run_beginRound hlr2 (by rw [hrd]), ?_⟩
            have hq : codeA P N (some l) (bb l r F) body (roundPostA l r F) e2 ds2 (w2.putObj l (.loop { r with state := .busy })) := by
              have e : loopObj r .busy none = .loop { r with state := .busy } := by unfold loopObj; rw [hrd]
              rw [← e]; exact hq
            refine wpIn_mono (ih2 (some l) 0 (bb l r F) _ e2 ds2 _ a2 hs2 hq hrel2) ?_
            have stop : ∀ (jump : Option Code) (w3 : World), stopA l r jump F w3 → ∃ v w', (Instr.endRound l jump).run P w3 = .ok v w' ∧ ∃ u, Ending.returned v = .returned u ∧ F u w' := by
              rintro jump w3 ⟨h1, h2⟩
              exact ⟨_, _, run_endRound jump h1, _, rfl, h2⟩
            rintro ex a3 w3 ⟨e3, ds3, hrel3, hq3⟩
            cases ex with
            | normal => exact stop none w3 hq3
            | ret => exact stop (some .ret) w3 hq3
            | exit id => exact stop (some (.exit id)) w3 hq3
            | goto t => exact stop (some (.goto t)) w3 hq3
            | _ => exact hq3.elim
          | _ => exact hq.elim
      refine wpIn_rangeFunc fun fn _ => ?_
      have h : entA rd w fun l r mk w1 =>
          yieldA P l (fun args wa F => readyA wa l r (bindA ks ps.toList args e fun e1 =>
            codeA P N (some l) (aa l r F) as_ (thenA (fun e2 ds2 w2 => readyA w2 l r (putK w2 l (loopObj r .busy none) fun w3 => codeA P N (some l) (bb l r F) body (roundPostA l r F) e2 ds2 w3)) (fun _ _ _ _ => False)) e1 [] wa))
          (enterV P (rdv N e g) #[.func (.yield l) #[] #[]] w1 fun _ w2 => endA l r w2 fun pe w3 =>
            jumpP pe w3 (fun w => Q .normal e (mk ++ df) w) (fun w => Q .ret e (mk ++ df) w) (fun id w => Q (.exit id) e (mk ++ df) w) (fun t w => Q (.goto t) e (mk ++ df) w)) := h
      cases rd with
      | none =>
        obtain ⟨d, w1', f, args, w2, g1, g2, g3⟩ := core (w.heap.size + 1) fn w.heap.size [{ target := .collected w.heap.size, args := #[] }] (fun r => (w.alloc (.deferred (some []))).alloc (loopObj r .ready none)) fun r hrd => h r
        refine ⟨_, _, _, d, w1', f, args, w2, ?_, g1, fun _ _ => trivial, g2, fun hd => by simp [Fence.wide] at hd, g3⟩
        exact run_enterLoop_outer _ _ _ _ _
      | some l0 =>
        obtain ⟨⟨r0, hl0⟩, h⟩ := h
        obtain ⟨d, w1', f, args, w2, g1, g2, g3⟩ := core w.heap.size fn r0.defers [] (fun r => w.alloc (loopObj r .ready none)) fun r hrd => h r
        refine ⟨_, _, _, d, w1', f, args, w2, ?_, g1, fun _ _ => trivial, g2, fun hd => by simp [Fence.wide] at hd, g3⟩
        exact enterLoop_inner hl0 _ _ _ _ _
    all_goals exact h.elim
  | exit id => intro rd n an Q e ds w a _ h hr; exact wpIn_exit ⟨e, ds, hr, by cases an <;> exact h⟩
  | scope c ih => intro rd n an Q e ds w a _ h hr; cases an <;> exact h.elim
  | label l => intro rd n an Q e ds w a _ h hr; exact wpIn_label ⟨e, ds, hr, by cases an <;> exact h⟩
  | goto l => intro rd n an Q e ds w a _ h hr; exact wpIn_goto ⟨e, ds, hr, by cases an <;> exact h⟩
  | ret => intro rd n an Q e ds w a _ h hr; exact wpIn_ret ⟨e, ds, hr, by cases an <;> exact h⟩
  | refuse why => intro rd n an Q e ds w a _ h hr; cases an <;> exact h.elim
end
end Go.Proofs.Ytalhnoelkglgiaa.Sh
