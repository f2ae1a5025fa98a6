/- The layer's operations, regions and statements are sound: codeA suffices for the machine's walk (wpIn), fnA for a call. No condition: it holds of every program. -/
import Derived.Test.YtalhnoelkglgiaaSh2
import Derived.LoopNIn
namespace Go.Proofs.Ytalhnoelkglgiaa.Sh
open Go
set_option linter.unusedSimpArgs false
set_option linter.unusedVariables false
section
variable {P : Program}

theorem sat_wp {α : Type} {s : Sem α} {R : α → World → Prop} {w : World} (h : (s.run P w).sat R (fun _ _ => False)) : s.wp P R (fun _ _ => False) w := (Sem.wp_iff_run P s R _ w).2 h

theorem eqK_run {t : TypeId} {xs ys : Array Value} {F : Bool → Prop} (h : eqK P t xs ys F) : P.eqGuardType P.depth t = false ∧ ∃ b, F b ∧ ∀ w, (Op.equalIn 10000 t (.agg xs) (.agg ys)).run P w = .ok b w := by
  unfold eqK at h
  cases hb : isAggB P t && !(P.eqGuardType P.depth t) with
  | false => rw [hb] at h; exact h.elim
  | true =>
    rw [hb] at h
    simp only [Bool.and_eq_true, Bool.not_eq_true'] at hb
    simp only [cond_true] at h
    cases hq : eqT P 20 t xs.toList ys.toList with
    | none => simp [hq] at h
    | some b =>
      simp only [hq] at h
      exact ⟨hb.2, b, h, fun w => eqT_run 9980 20 t (.agg xs) (.agg ys) b (by simp [Fm, hb.1]) (by simp [Fm, hb.1]) hq w⟩

theorem setL_get : ∀ (cs : List Value) (off : Nat) (vs : List Value), off + vs.length ≤ cs.length → setL cs off vs = (vs.zipIdx).foldl (fun cs p => cs.set (off + p.2) p.1) cs := by
  have gen : ∀ (vs cs : List Value) (off k : Nat), off + k + vs.length ≤ cs.length → setL cs (off + k) vs = (vs.zipIdx k).foldl (fun cs p => cs.set (off + p.2) p.1) cs := by
    have one : ∀ (cs : List Value) (n : Nat) (v : Value) (vs : List Value), n < cs.length → setL cs n (v :: vs) = setL (cs.set n v) (n + 1) vs := by
      intro cs
      induction cs with
      | nil => intro n v vs h; simp at h
      | cons c cs ih =>
        intro n v vs h
        cases n with
        | zero => cases vs <;> cases cs <;> simp [setL]
        | succ n => simp only [setL, List.set_cons_succ]; rw [ih n v vs (by simpa using h)]; cases vs <;> simp [setL]
    intro vs
    induction vs with
    | nil => intro cs off k _; cases cs <;> simp [setL]
    | cons v vs ih =>
      intro cs off k h
      simp only [List.length_cons] at h
      rw [one cs (off + k) v vs (by omega)]
      simp only [List.zipIdx_cons, List.foldl_cons]
      rw [← ih (cs.set (off + k) v) off (k + 1) (by simp; omega)]
      rfl
  intro cs off vs h
  exact gen vs cs off 0 h

theorem fillL_eq (place : Nat → Option (Nat × Nat)) : ∀ (parts : List (Nat × Value)) (cells out : List Value), fillL place cells parts = some out → Instr.fill place cells.toArray parts = some out.toArray
  | [], cells, out, h => by simp only [fillL, Option.some.injEq] at h; subst h; rfl
  | (i, v) :: rest, cells, out, h => by
    simp only [fillL] at h
    simp only [Instr.fill]
    cases hp : place i with
    | none => simp [hp] at h
    | some os =>
      obtain ⟨off, size⟩ := os
      simp only [hp] at h ⊢
      split at h
      · cases h
      · rename_i hc
        simp only [Bool.not_eq_true, Bool.or_eq_false_iff, bne_eq_false_iff_eq, Array.length_toList] at hc
        obtain ⟨h1, h2⟩ := hc
        have h2' : off + v.cells.size ≤ cells.length := by
          rcases Nat.lt_or_ge cells.length (off + v.cells.size) with hlt | hge
          · have : Nat.blt cells.length (off + v.cells.size) = true := by simp only [Nat.blt, Nat.ble_eq]; exact hlt
            rw [this] at h2; cases h2
          · exact hge
        rw [if_neg (by simp [h1]; omega)]
        have hset : (v.cells.zipIdx.foldl (fun cs p => cs.setIfInBounds (off + p.2) p.1) cells.toArray) = (setL cells off v.cells.toList).toArray := by
          rw [setL_get cells off v.cells.toList (by simpa using h2'), ← Array.foldl_toList, Array.toList_zipIdx]
          generalize v.cells.toList.zipIdx 0 = l
          clear h h2 h2' h1
          induction l generalizing cells with
          | nil => rfl
          | cons p l ih =>
            simp only [List.foldl_cons]
            have := ih (cells.set (off + p.2) p.1)
            simpa using this
        have := fillL_eq place rest _ _ h
        rw [← this]
        exact congrArg (fun c => Instr.fill place c rest) hset

theorem buildL_built {t : TypeId} {parts : List (Nat × Value)} {cs : List Value} (h : buildL P t parts = some cs) : P.built t parts = some cs.toArray := by
  unfold buildL at h
  unfold Program.built
  cases hi : P.info? t with
  | none => simp [hi] at h
  | some it =>
    cases hu : P.underlying t with
    | none => simp [hi, hu] at h
    | some d =>
      cases d <;> simp only [hi, hu] at h ⊢
      case array n e =>
        cases hz : it.zero with
        | none => simp [hz] at h
        | some z =>
          cases hie : P.info? e with
          | none => simp [hz, hie] at h
          | some ie =>
            simp only [hz, hie] at h ⊢
            have := fillL_eq _ _ _ _ h
            simpa using this
      case struct fs =>
        cases hz : it.zero with
        | none => simp [hz] at h
        | some z =>
          simp only [hz] at h ⊢
          cases hp : fs.toList.mapM (fun f => (P.info? f.type).map fun i => (f.offset, i.size)) with
          | none => simp only [hp] at h; cases h
          | some places =>
            simp only [hp] at h ⊢
            have := fillL_eq _ _ _ _ h
            simpa using this
      all_goals (cases h)

variable {N : Nat} {rd : Option Nat} {n : Nat} {Q : Exit → Act → World → Prop} {a : Act} {w : World} {e : Env} {ds : List Deferred} {o : Oper}

theorem about_ok (P : Program) (w : World) (o : Oper) (a : Act) : ∀ f, o.about P w a.eval = some f → (FW rd).fn f := fun _ _ => trivial

theorem wp_mono' {α : Type} {s : Sem α} {R R' : α → World → Prop} {w : World} (h : s.wp P R (fun _ _ => False) w) (hr : ∀ a w, R a w → R' a w) : s.wp P R' (fun _ _ => False) w := by
  have := wp_sat h
  refine sat_wp ?_
  cases hs : s.run P w with
  | ok a w' => rw [hs] at this; exact hr _ _ this
  | halt x w' => rw [hs] at this; exact this.elim

theorem setLen : ∀ (cs : List Value) (n : Nat) (vs : List Value), (setL cs n vs).length = cs.length
  | [], _, vs => by cases vs <;> simp [setL]
  | c :: cs, 0, [] => by simp [setL]
  | c :: cs, n + 1, [] => by simp [setL]
  | c :: cs, 0, v :: vs => by simp [setL, setLen cs 0 vs]
  | c :: cs, n + 1, v :: vs => by simp [setL, setLen cs n (v :: vs)]

theorem zerosN_eq (z : List Value) (hz : 1 ≤ z.length) : ∀ n : Nat, zerosN z n = ((Array.range (n * z.length)).map fun i => z.toArray[i % z.toArray.size]!).toList := by
  intro n
  have key : ∀ n, zerosN z n = (List.range (n * z.length)).map fun i => z.toArray[i % z.toArray.size]! := by
    intro n
    induction n with
    | zero => simp [zerosN]
    | succ n ih =>
      have hs : zerosN z (n + 1) = zerosN z n ++ z := by
        clear ih
        induction n with
        | zero => simp [zerosN]
        | succ n ih => simp only [zerosN] at ih ⊢; rw [ih, ← List.append_assoc, ih, List.append_assoc]
      rw [hs, ih, Nat.add_mul, Nat.one_mul, List.range_add, List.map_append]
      congr 1
      apply List.ext_getElem
      · simp
      · intro i h1 h2
        simp at h2
        simp only [List.getElem_map, List.getElem_range, List.size_toArray]
        have : (n * z.length + i) % z.length = i := by rw [Nat.mul_comm, Nat.mul_add_mod, Nat.mod_eq_of_lt h2]
        rw [this]
        simp [h2]
  rw [key n]; simp

theorem rowL_run {t : TypeId} {len : Nat} {parts : List (Nat × Value)} {r : TypeId × List Value} (h : rowL P t len parts = some r) (w : World) :
    (Instr.buildSlice t len parts.toArray).run P w = .ok (.slice (some ⟨w.heap.size, 0, none⟩) len len) (w.alloc (.cells r.2.toArray r.1)) := by
  unfold rowL at h
  cases hu : P.underlying t with
  | none => simp [hu] at h
  | some d =>
    cases d <;> simp only [hu] at h <;> try (cases h; done)
    case slice e =>
      cases hi : P.info? e with
      | none => simp [hi] at h
      | some ie =>
        cases hz : ie.zero with
        | none => simp [hi, hz] at h
        | some z =>
          simp only [hi, hz] at h
          cases hb : (Nat.ble 1 (len * ie.size) && Nat.ble (len * ie.size) 65536 && Nat.beq z.cells.toList.length ie.size) with
          | false => rw [hb] at h; cases h
          | true =>
            rw [hb] at h
            simp only [Bool.and_eq_true, Nat.ble_eq] at hb
            obtain ⟨⟨b1, b2⟩, b3⟩ := hb
            have b3 := Nat.eq_of_beq_eq_true b3
            simp only [cond_true, Option.map_eq_some_iff] at h
            obtain ⟨cs, hcs, rfl⟩ := h
            have hf := fillL_eq _ _ _ _ hcs
            have hz1 : 1 ≤ z.cells.toList.length := by
              rw [b3]
              rcases Nat.eq_zero_or_pos ie.size with h0 | h0
              · rw [h0] at b1; omega
              · exact h0
            have hzz : (zerosN z.cells.toList len).toArray = (Array.range (len * ie.size)).map fun i => z.cells[i % z.cells.size]! := by
              rw [zerosN_eq _ hz1, ← b3]
            rw [hzz] at hf
            have h24 : ¬ len * ie.size > 2 ^ 24 := by
              have : (65536 : Nat) ≤ 2 ^ 24 := by decide
              omega
            have h0 : ¬ len * ie.size = 0 := by omega
            simp [Instr.buildSlice, run_underlying hu, run_sizeOf w hi, cellsOf_size hi, h24, h0, zeroValue, typeInfo, hi, hz, hf, newRow, newObj, Sem.run]

theorem isKind_ptr {t : TypeId} {p : Prop} (h : cond (isKindB P t 0) p False) : (∃ e, P.underlying t = some (.pointer e)) ∧ p := by
  unfold isKindB at h
  split at h
  · rename_i e he; exact ⟨⟨e, he⟩, h⟩
  all_goals exact h.elim
theorem isKind_sl {t : TypeId} {p : Prop} (h : cond (isKindB P t 1) p False) : (∃ e, P.underlying t = some (.slice e)) ∧ p := by
  unfold isKindB at h
  split at h
  · exact h.elim
  · rename_i e he; exact ⟨⟨e, he⟩, h⟩
  all_goals exact h.elim
theorem isKind_map {t : TypeId} {p : Prop} (h : cond (isKindB P t 2) p False) : (∃ k e, P.underlying t = some (.map k e)) ∧ p := by
  unfold isKindB at h
  split at h
  · exact h.elim
  · exact h.elim
  · rename_i k e he; exact ⟨⟨k, e, he⟩, h⟩
  · exact h.elim
theorem nil_ptr_d (d : Nat) {t : TypeId} (hu : (∃ e, P.underlying t = some (.pointer e))) {p : Option Addr} {w : World} : (Op.equalIn (d + 1) t (.pointer p) (.pointer none)).run P w = .ok p.isNone w := by
  obtain ⟨e, hu⟩ := hu
  cases p <;> simp [Op.equalIn, run_underlying hu]
theorem nil_ptr {t : TypeId} (hu : (∃ e, P.underlying t = some (.pointer e))) {p : Option Addr} {w : World} : (Op.equal t (.pointer p) (.pointer none)).run P w = .ok p.isNone w := nil_ptr_d 9999 hu
theorem nil_sl_d (d : Nat) {t : TypeId} (hu : (∃ e, P.underlying t = some (.slice e))) {p : Option Addr} {l c l' c' : Nat} {w : World} : (Op.equalIn (d + 1) t (.slice p l c) (.slice none l' c')).run P w = .ok p.isNone w := by
  obtain ⟨e, hu⟩ := hu
  cases p <;> simp [Op.equalIn, run_underlying hu]
theorem nil_sl {t : TypeId} (hu : (∃ e, P.underlying t = some (.slice e))) {p : Option Addr} {l c l' c' : Nat} {w : World} : (Op.equal t (.slice p l c) (.slice none l' c')).run P w = .ok p.isNone w := nil_sl_d 9999 hu
theorem nil_map_d (d : Nat) {t : TypeId} (hu : (∃ k e, P.underlying t = some (.map k e))) {p : Option Nat} {w : World} : (Op.equalIn (d + 1) t (.map p) (.map none)).run P w = .ok p.isNone w := by
  obtain ⟨k, e, hu⟩ := hu
  cases p <;> simp [Op.equalIn, run_underlying hu]
theorem nil_map {t : TypeId} (hu : (∃ k e, P.underlying t = some (.map k e))) {p : Option Nat} {w : World} : (Op.equal t (.map p) (.map none)).run P w = .ok p.isNone w := nil_map_d 9999 hu
theorem div_case {k k' : IntKind} {b : Int} {p : Prop} (h : cond (kindB k k') (ifB (decide (b = 0)) False p) False) : k = k' ∧ b ≠ 0 ∧ p := by
  unfold kindB at h
  by_cases hk : k = k'
  · simp only [hk, if_true, cond_true] at h
    by_cases hb : b = 0
    · simp [hb, ifB] at h
    · simp only [hb, decide_false, ifB] at h; exact ⟨hk, hb, h⟩
  · simp [hk] at h
theorem sh_case {b : Int} {p : Prop} (h : ifB (decide (b < 0)) False p) : ¬ b < 0 ∧ p := by
  by_cases hb : b < 0
  · simp [hb, ifB] at h
  · simp only [hb, decide_false, ifB] at h; exact ⟨hb, h⟩
theorem opA_sound {K : Env → List Deferred → World → Prop} (hr : Rel N e ds a) (h : opA P N o e ds w fun v ds' w' => K (put e o.dst v) ds' w') : o.wpIn (FW rd) n P a w (Nx N K) Q := by
  obtain ⟨dst, op, type, pos, after, guard⟩ := o
  unfold opA at h
  have val : ∀ (op' : Op) (v : Value) (w' : World), (∀ c, op' ≠ .defer c) → (execOp (rdv N e) ⟨dst, op', type, pos, after, guard⟩).run P w = .ok (.value v) w' → K (put e dst v) ds w' → Oper.wpIn (FW rd) n P ⟨dst, op', type, pos, after, guard⟩ a w (Nx N K) Q := by
    intro op' v w' hd hrun hk
    refine ⟨about_ok P w _ a, ?_⟩
    rw [Oper.semAt_eq _ _ _ hd, eval_eq hr, hrun]
    exact ⟨_, _, hr.put' dst v, hk⟩
  have sem : ∀ (op' : Op) (s : Sem Value), (∀ c, op' ≠ .defer c) → execOp (rdv N e) ⟨dst, op', type, pos, after, guard⟩ = (do pure (.value (← s))) → semK P s w (fun v w' => K (put e dst v) ds w') → Oper.wpIn (FW rd) n P ⟨dst, op', type, pos, after, guard⟩ a w (Nx N K) Q := by
    intro op' s hd hrun hk
    have h2 := wp_sat hk
    cases hs : s.run P w with
    | ok v w' => rw [hs] at h2; exact val op' v w' hd (by rw [hrun]; simp [Sem.run_bind, hs]) h2
    | halt x w' => rw [hs] at h2; exact h2.elim
  have semu : ∀ (op' : Op) (s : Sem Unit), (∀ c, op' ≠ .defer c) → execOp (rdv N e) ⟨dst, op', type, pos, after, guard⟩ = (do s; pure .skip) → semU P s w (fun w' => K (put e dst undef) ds w') → Oper.wpIn (FW rd) n P ⟨dst, op', type, pos, after, guard⟩ a w (Nx N K) Q := by
    intro op' s hd hrun hk
    have h2 := wp_sat hk
    refine ⟨about_ok P w _ a, ?_⟩
    rw [Oper.semAt_eq _ _ _ hd, eval_eq hr, hrun]
    cases hs : s.run P w with
    | ok v w' => rw [hs] at h2; simp only [Sem.run_bind, hs, Result.andThen_ok, Sem.run_pure]; exact ⟨_, _, hr.put' dst undef, h2⟩
    | halt x w' => rw [hs] at h2; exact h2.elim
  have asa : ∀ (v : Value) (w' : World), (asA v fun b => K (put e dst (.pointer (some b))) ds w') → K (put e dst v) ds w' := by
    intro v w' hv
    unfold asA at hv
    split at hv
    · rename_i p; cases p with
      | none => exact hv.elim
      | some b => exact hv
    · exact hv.elim
  cases op
  case move x => exact val _ _ _ (by simp) (by simp [execOp, Sem.run, pure]) h
  case assign x => exact val _ _ _ (by simp) (by simp [execOp, Sem.run, pure]) h
  case pick c x y =>
    simp only at h
    split at h
    · rename_i t ht
      refine val _ (if t then rdv N e x else rdv N e y) w (by simp) (by simp [execOp, ht, asBool, Sem.run, pure, bind, Sem.bind]) ?_
      cases t <;> exact h
    · exact h.elim
  case nilCheck x =>
    simp only at h
    unfold nilA at h
    split at h
    · split at h
      · rename_i b; exact val _ _ _ (by simp) (by simp [execOp, b, Sem.run, pure]) h
      · exact h.elim
    · exact h.elim
    · exact h.elim
    · exact h.elim
    · rename_i h1 h2 h3 h4
      refine val _ _ _ (by simp) ?_ h
      simp only [execOp]
      cases hv : rdv N e x <;> first | (simp [Sem.run, pure]; done) | skip
      case pointer p => exact absurd hv (h1 p)
      case func fn fs cs => cases fn <;> first | (simp [Sem.run, pure]; done) | exact absurd hv (h2 _ _ _)
      case nilIface => exact absurd hv h3
      case nilFunc => exact absurd hv h4
  case load t x =>
    simp only at h
    split at h
    · rename_i b hv
      refine sem _ (Instr.loadAt t (rdv N e x)) (by simp) rfl ?_
      simp only [hv, Instr.loadAt, Instr.sureAddr, pure_bind', semK]
      exact ldT_wp (R := fun v w' => K (put e dst v) ds w') h
    · exact h.elim
  case store t x v => exact semu _ _ (by simp) rfl h
  case mapUpdate t m k v => exact semu _ _ (by simp) rfl h
  case entryStore t m s v => exact semu _ _ (by simp) rfl h
  case call c =>
    obtain ⟨callee, args, argTypes⟩ := c
    cases callee
    case value f =>
      simp only at h
      unfold callVal at h
      split at h
      · rename_i fn first cap hf
        refine ⟨about_ok P w _ a, ?_⟩
        rw [Oper.semAt_eq _ _ _ (by simp), eval_eq hr]
        have hh := wp_sat (wp_mono' h (R' := nxA P (fun v w' => K (put e dst v) ds w')) (by
          intro nx w' hnx
          cases nx <;> simp only [nxA] at hnx ⊢ <;> first | exact asVS_imp (F := fun v => K (put e dst v) ds _) hnx | exact hnx.elim | skip
          · exact hnx.mono fun v w'' hv => asVS_imp (F := fun v => K (put e dst v) ds _) hv
          · exact RoundIn.mono hnx fun e' w'' ⟨v, h1, hv⟩ => ⟨v, h1, asVS_imp (F := fun v => K (put e dst v) ds _) hv⟩))
        have heq : execOp (rdv N e) ⟨dst, .call ⟨.value f, args, argTypes⟩, type, pos, after, guard⟩ = invoke (.fn fn cap) (first ++ (args.toList.map (rdv N e)).toArray) := by
          simp only [execOp, resolve, hf, Deferred.ofValue, pure_bind', map_list]
        rw [heq]
        exact upon_nxA hr hh
      · exact h.elim
    case builtin b =>
      simp only at h
      unfold optP at h
      split at h
      · rename_i s hs
        refine sem _ s (by simp) ?_ (wp_mono' h fun v w' hv => asVS_imp (F := fun v => K (put e dst v) ds w') hv)
        cases b <;> simp only [bltS, Option.some.injEq, reduceCtorEq] at hs <;> subst hs <;> simp only [execOp, resolve, pure_bind', invoke, builtin, map_list]
      · exact h.elim
    case invoke => exact h.elim
  case makeFunc fn first captured =>
    refine val _ _ _ (by simp) ?_ h
    simp [execOp, Instr.makeFunc, Sem.run, pure, bind, Sem.bind, map_list]
  case build t parts =>
    simp only at h
    unfold optP at h
    split at h
    · rename_i cs hcs
      refine val _ (.agg cs.toArray) w (by simp) ?_ h
      have hb := buildL_built hcs
      simp only [execOp]
      rw [map_list, Sem.run_bind, run_build w t _ cs.toArray (by simpa using hb)]
      simp [Sem.run, pure]
    · exact h.elim
  case buildSlice t len parts =>
    simp only at h
    unfold optP at h
    split at h
    · rename_i r hrow
      refine val _ _ _ (by simp) ?_ h
      have hb := rowL_run hrow w
      simp only [execOp]
      rw [map_list, Sem.run_bind]
      rw [show (fun (x : Nat × Operand) => match x with | (i, x) => (i, rdv N e x)) = fun p => (p.1, rdv N e p.2) from rfl, hb]
      simp [Sem.run, pure]
    · exact h.elim
  case binOp op t x y yt =>
    simp only at h
    cases hc : anyTy P t
    case true =>
      rw [hc] at h
      simp only [cond_true] at h
      exact sem _ _ (by simp) rfl (wp_mono' h fun v w' hv => asVS_imp (F := fun v => K (put e dst v) ds w') hv)
    rw [hc] at h
    simp only [cond_false] at h
    split at h
    · rename_i xs ys hx hy
      obtain ⟨hg, b, hF, hrun⟩ := eqK_run h
      refine val _ (.bool b) w (by simp) ?_ hF
      simp [execOp, hx, hy, run_eqGuard_agg w _ t _ _ _ _ hg, run_eql_struct, hrun]
    · rename_i xs ys hx hy
      obtain ⟨hg, b, hF, hrun⟩ := eqK_run h
      refine val _ (.bool (!b)) w (by simp) ?_ hF
      simp [execOp, hx, hy, run_eqGuard_agg w _ t _ _ _ _ hg, run_neq_struct, hrun]
    · rename_i p hx hy
      obtain ⟨hu, hK⟩ := isKind_ptr h
      refine val _ (.bool p.isNone) w (by simp) ?_ hK
      simp [execOp, hx, hy, eqGuard, binOp, nil_ptr hu]
    · rename_i p hx hy
      obtain ⟨hu, hK⟩ := isKind_ptr h
      refine val _ (.bool (!p.isNone)) w (by simp) ?_ hK
      simp [execOp, hx, hy, eqGuard, binOp, nil_ptr hu]
    · rename_i p l c l' c' hx hy
      obtain ⟨hu, hK⟩ := isKind_sl h
      refine val _ (.bool p.isNone) w (by simp) ?_ hK
      simp [execOp, hx, hy, eqGuard, binOp, nil_sl hu]
    · rename_i p l c l' c' hx hy
      obtain ⟨hu, hK⟩ := isKind_sl h
      refine val _ (.bool (!p.isNone)) w (by simp) ?_ hK
      simp [execOp, hx, hy, eqGuard, binOp, nil_sl hu]
    · rename_i p hx hy
      obtain ⟨hu, hK⟩ := isKind_map h
      refine val _ (.bool p.isNone) w (by simp) ?_ hK
      simp [execOp, hx, hy, eqGuard, binOp, nil_map hu]
    · rename_i p hx hy
      obtain ⟨hu, hK⟩ := isKind_map h
      refine val _ (.bool (!p.isNone)) w (by simp) ?_ hK
      simp [execOp, hx, hy, eqGuard, binOp, nil_map hu]
    · rename_i k x' k' y' hx hy
      obtain ⟨rfl, hb, hK⟩ := div_case h
      refine val _ _ w (by simp) ?_ hK
      simp [execOp, hx, hy, eqGuard, binOp, Op.intDiv, hb]
    · rename_i k x' k' y' hx hy
      obtain ⟨rfl, hb, hK⟩ := div_case h
      refine val _ _ w (by simp) ?_ hK
      simp [execOp, hx, hy, eqGuard, binOp, Op.intDiv, hb]
    · rename_i k x' k' y' hx hy
      obtain ⟨hb, hK⟩ := sh_case h
      refine val _ _ w (by simp) ?_ hK
      simp [execOp, hx, hy, eqGuard, binOp, Op.shift, hb]
    · rename_i k x' k' y' hx hy
      obtain ⟨hb, hK⟩ := sh_case h
      refine val _ _ w (by simp) ?_ hK
      simp [execOp, hx, hy, eqGuard, binOp, Op.shift, hb]
    · exact sem _ _ (by simp) rfl (wp_mono' h fun v w' hv => asVS_imp (F := fun v => K (put e dst v) ds w') hv)
  case unOp op t x => exact sem _ _ (by simp) rfl h
  case alloc t => exact sem _ _ (by simp) rfl h
  case box t x => exact sem _ _ (by simp) rfl h
  case makeInterface t x => exact sem _ _ (by simp) rfl h
  case makeMap t r => exact sem _ _ (by simp) rfl h
  case field t x f => exact sem _ _ (by simp) rfl h
  case extract t i => exact sem _ _ (by simp) rfl (wp_mono' h fun v w' hv => asVS_imp (F := fun v => K (put e dst v) ds w') hv)
  case convert s d x => exact sem _ _ (by simp) rfl (wp_mono' h fun v w' hv => asVS_imp (F := fun v => K (put e dst v) ds w') hv)
  case slice t x l hh m => exact sem _ _ (by simp) rfl (wp_mono' h fun v w' hv => asVS_imp (F := fun v => K (put e dst v) ds w') hv)
  case index t x i => exact sem _ _ (by simp) rfl (wp_mono' h fun v w' hv => asVS_imp (F := fun v => K (put e dst v) ds w') hv)
  case lookup t x i ok => exact sem _ _ (by simp) rfl (wp_mono' h fun v w' hv => asVS_imp (F := fun v => K (put e dst v) ds w') hv)
  case mapEntry t m k => exact sem _ _ (by simp) rfl (wp_mono' h fun v w' hv => asVS_imp (F := fun v => K (put e dst v) ds w') hv)
  case next it s => exact sem _ _ (by simp) rfl h
  case entry it => exact sem _ _ (by simp) rfl h
  case makeSlice t l c =>
    refine sem _ _ (by simp) rfl (wp_mono' h fun v w' hv => ?_)
    cases v <;> simp only [asL] at hv
    exact hv
  case fieldAddr t x f => exact sem _ _ (by simp) rfl (wp_mono' h fun v w' hv => asa v w' hv)
  case indexAddr t x i => exact sem _ _ (by simp) rfl (wp_mono' h fun v w' hv => asa v w' hv)
  case range t x => exact sem _ _ (by simp) rfl (wp_mono' h fun v w' hv => asa v w' hv)
  all_goals exact h.elim

/-! ### Regions -/
theorem Rel.same {d : Tmp} {v : Value} (hr : Rel N e ds a) (h : rdv N e (.tmp d) = v) (hv : v ≠ undef) : Rel N (Sh.put e (some d) v) ds a := by
  refine ⟨hr.defers, hr.size, fun i hi => ?_⟩
  by_cases hid : i = d
  · subst hid
    have hb : Nat.beq i i = true := Nat.beq_refl i
    have hle : Nat.ble (i + 1) N = true := by rw [Nat.ble_eq]; exact hi
    simp only [Sh.put, hb, cond_true]
    simp only [rdv, hle, cond_true] at h
    rw [hr.get i hi, h]
  · have hb : Nat.beq i d = false := by
      cases hb : Nat.beq i d with
      | false => rfl
      | true => exact absurd (Nat.eq_of_beq_eq_true hb) hid
    simp only [Sh.put, hb, cond_false]
    exact hr.get i hi

theorem yielded_of {ops : Array Oper} {j : Nat} {d : Tmp} {b : Bool} (hr : Rel N e ds a) (hd : dstOf ops.toList j = some d) (hb : rdv N e (.tmp d) = .bool b) : yielded ops a.tmps j = some b := by
  have hd' : (ops[j]?).bind (·.dst) = some d := by simpa [dstOf] using hd
  have hlt : d < N := by
    rcases Nat.lt_or_ge d N with h | h
    · exact h
    · have hle : Nat.ble (d + 1) N = false := by
        cases hc : Nat.ble (d + 1) N with
        | false => rfl
        | true => rw [Nat.ble_eq] at hc; omega
      simp [rdv, hle, undef] at hb
  have hle : Nat.ble (d + 1) N = true := by rw [Nat.ble_eq]; exact hlt
  simp only [rdv, hle, cond_true] at hb
  have hg := hr.get d hlt
  rw [hb] at hg
  have hs := hr.size
  have ht : a.tmps[d]? = some (.bool b) := by
    have hlt' : d < a.tmps.size := by rw [hs]; exact hlt
    rw [Array.getElem?_eq_getElem hlt']
    simp only [Array.getD, hlt', dite_true] at hg
    exact congrArg some hg
  simp [yielded, hd', ht]

def wantE (L : List Oper) (N : Nat) (o : Oper) (e : Env) : Bool :=
  match o.guard with
  | none => true
  | some (j, want) => (match dstOf L j with | some d => (match rdv N e (.tmp d) with | .bool b => some b | _ => none) | none => none) == some want
theorem want_eq {ops : Array Oper} {o : Oper} {e : Env} {ds : List Deferred} {a : Act} (hr : Rel N e ds a) : Region.wanted o (yielded ops a.tmps) = wantE ops.toList N o e := by
  unfold Region.wanted wantE
  cases hg : o.guard with
  | none => rfl
  | some jw =>
    obtain ⟨j, want⟩ := jw
    simp only
    congr 1
    unfold yielded dstOf
    simp only [Array.getElem?_toList]
    cases hd : (ops[j]?).bind (·.dst) with
    | none => rfl
    | some d =>
      simp only [Option.bind_some]
      by_cases hlt : d < N
      · have hle : Nat.ble (d + 1) N = true := by rw [Nat.ble_eq]; exact hlt
        have hs := hr.size
        have hlt' : d < a.tmps.size := by rw [hs]; exact hlt
        have hg := hr.get d hlt
        simp only [Array.getD, hlt', dite_true] at hg
        rw [Array.getElem?_eq_getElem hlt']
        simp only [rdv, hle, cond_true]
        have hg' : a.tmps[d] = e d := hg
        rw [hg']
        cases e d <;> rfl
      · have hle : Nat.ble (d + 1) N = false := by
          cases hb : Nat.ble (d + 1) N with
          | false => rfl
          | true => rw [Nat.ble_eq] at hb; exact absurd hb hlt
        have hs := hr.size
        rw [Array.getElem?_eq_none (by rw [hs]; exact Nat.le_of_not_lt hlt)]
        simp [rdv, hle, undef]

theorem want_not {L : List Oper} {N : Nat} {o : Oper} {e : Env} {j d : Nat} {want : Bool} (hg : o.guard = some (j, want)) (hd : dstOf L j = some d) (hn : ∀ b, rdv N e (.tmp d) = .bool b → False) : wantE L N o e = false := by
  simp only [wantE, hg, hd]
  first
    | rfl
    | (split
       · rename_i b hb; exact (hn b hb).elim
       · rfl)
theorem opsA_sound {ops : Array Oper} {K : Env → List Deferred → World → Prop} (hQ : ∀ a w, Nx N K a w → Q .normal a w) : ∀ (rest : List Oper) (k : Nat) (e : Env) (ds : List Deferred) (w : World) (a : Act),
    (∀ j, j < rest.length → rest[j]? = ops[k + j]?) → opsA P N ops.toList K rest e ds w → Rel N e ds a → wpOpsIn (FW rd) n P ops Q (List.range' k rest.length) a w
  | [], k, e, ds, w, a, _, h, hr => by
    simp only [List.length_nil, List.range'_zero, wpOpsIn]
    exact hQ _ _ ⟨e, ds, hr, h⟩
  | o :: rest, k, e, ds, w, a, hix, h, hr => by
    have ho : ops[k]? = some o := by have := hix 0 (by simp); simpa using this.symm
    have hix' : ∀ j, j < rest.length → rest[j]? = ops[k + 1 + j]? := fun j hj => by
      have := hix (j + 1) (by simpa using hj)
      simpa [Nat.add_assoc, Nat.add_comm 1 j] using this
    have ih := fun e ds w a h hr => opsA_sound hQ rest (k + 1) e ds w a hix' h hr
    simp only [List.length_cons, List.range'_succ, wpOpsIn, ho]
    have run : ∀ e' , Rel N e' ds a → Region.wanted o (yielded ops a.tmps) = true → (opA P N o e' ds w fun v ds' w' => opsA P N ops.toList K rest (put e' o.dst v) ds' w') →
        (if Region.wanted o (yielded ops a.tmps) = true then o.wpIn (FW rd) n P a w (wpOpsIn (FW rd) n P ops Q (List.range' (k + 1) rest.length)) Q
          else (∀ f, o.about P w a.eval = some f → (FW rd).fn f) ∧ wpOpsIn (FW rd) n P ops Q (List.range' (k + 1) rest.length) (a.put o.dst undef) w) := by
      intro e' hr' hw hh
      rw [if_pos hw]
      refine Oper.wpIn_mono ?_ (opA_sound (K := fun e ds w => opsA P N ops.toList K rest e ds w) hr' hh)
      rintro a' w' ⟨e2, ds2, hr2, h2⟩
      exact ih e2 ds2 w' a' h2 hr2
    have skip : ∀ e', Rel N e' ds a → Region.wanted o (yielded ops a.tmps) = false → opsA P N ops.toList K rest (put e' o.dst undef) ds w →
        (if Region.wanted o (yielded ops a.tmps) = true then o.wpIn (FW rd) n P a w (wpOpsIn (FW rd) n P ops Q (List.range' (k + 1) rest.length)) Q
          else (∀ f, o.about P w a.eval = some f → (FW rd).fn f) ∧ wpOpsIn (FW rd) n P ops Q (List.range' (k + 1) rest.length) (a.put o.dst undef) w) := by
      intro e' hr' hw hh
      rw [if_neg (by rw [hw]; decide)]
      exact ⟨fun _ _ => trivial, ih _ _ _ _ hh (hr'.put' o.dst undef)⟩
    simp only [opsA] at h
    cases hg : o.guard with
    | none =>
      simp only [hg] at h
      exact run e hr (by simp [Region.wanted, hg]) h
    | some jw =>
      obtain ⟨j, want⟩ := jw
      simp only [hg] at h
      split at h
      · exact h.elim
      · rename_i d hd
        split at h
        · rename_i b hb
          have hy := yielded_of (ops := ops) hr hd hb
          have hw : Region.wanted o (yielded ops a.tmps) = (some b == some want) := by simp [Region.wanted, hg, hy]
          cases b <;> cases want <;> simp only [ifB, cond_true, cond_false] at h
          · exact run _ (hr.same hb (by simp [undef])) (by rw [hw]; rfl) h
          · exact skip _ (hr.same hb (by simp [undef])) (by rw [hw]; rfl) h
          · exact skip _ (hr.same hb (by simp [undef])) (by rw [hw]; rfl) h
          · exact run _ (hr.same hb (by simp [undef])) (by rw [hw]; rfl) h
        · rename_i hn
          exact skip e hr (by rw [want_eq hr]; exact want_not hg hd hn) h

end
end Go.Proofs.Ytalhnoelkglgiaa.Sh
