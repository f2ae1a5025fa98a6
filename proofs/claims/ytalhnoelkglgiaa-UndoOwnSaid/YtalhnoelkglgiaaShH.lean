/- The layer's statements: codeA suffices for the code (wpIn). No condition: it holds of every program. -/
import Derived.Test.YtalhnoelkglgiaaShG
namespace Go.Proofs.Ytalhnoelkglgiaa.Sh
open Go
set_option linter.unusedSimpArgs false
set_option linter.unusedVariables false
section
variable {P : Program} {N : Nat} {rd : Option Nat} {n : Nat}
/-! ### Statements -/
def lift (N : Nat) (Q : Post) : Exit → Act → World → Prop := fun x a w => ∃ e ds, Rel N e ds a ∧ Q x e ds w

theorem codeA_sound : ∀ (c : Code) (an : Ann) (Q : Post) (e : Env) (ds : List Deferred) (w : World) (a : Act), sidesA P N an c Q → codeA P N an c Q e ds w → Rel N e ds a → c.wpIn (FW rd) n P (lift N Q) a w := by
  intro c
  induction c with
  | skip => intro an Q e ds w a _ h hr; exact wpIn_skip ⟨e, ds, hr, by cases an <;> exact h⟩
  | region id ops draw =>
    intro an Q e ds w a hsd h hr
    clear hsd
    cases draw with
    | true =>
      cases an
      case draw ord =>
        have h : cond (chkB P ops.toList ord && P.follows .mixedOrders) (drewK w fun w => drawA P N ops.toList (ancsGo [] ops.toList) ds (fun e w => Q .normal e ds w) ord [] e w) False := h
        cases hc : chkB P ops.toList ord && P.follows .mixedOrders with
        | false => rw [hc] at h; exact h.elim
        | true =>
          rw [hc] at h
          simp only [cond_true] at h
          simp only [Bool.and_eq_true] at hc
          exact wpIn_region_any hc.2 (draw_sound hc.1 (fun e a w hr hk => ⟨e, ds, hr, hk⟩) hr h)
      all_goals exact h.elim
    | false =>
      have h' : opsA P N ops.toList (Q .normal) ops.toList e ds w := by cases an <;> exact h
      refine wpIn_region ?_
      rw [List.range_eq_range', ← Array.length_toList]
      exact opsA_sound (Q := lift N Q) (fun a w hx => hx) ops.toList 0 e ds w a (fun j _ => by simp) h' hr
  | seq x y ihx ihy =>
    intro an Q e ds w a hs h hr
    refine wpIn_seq ?_
    have go : ∀ (a1 a2 : Ann) (K : Env → List Deferred → World → Prop), (∀ e ds w, K e ds w → codeA P N a2 y Q e ds w) → sidesA P N a1 x (thenA K Q) → sidesA P N a2 y Q → codeA P N a1 x (thenA K Q) e ds w →
        x.wpIn (FW rd) n P (Exit.then (y.wpIn (FW rd) n P (lift N Q)) (lift N Q)) a w := by
      intro a1 a2 K hK s1 s2 hx
      refine wpIn_mono (ihx a1 _ e ds w a s1 hx hr) ?_
      rintro ex a' w' ⟨e', ds', hr', hq⟩
      cases ex with
      | normal => exact ihy a2 Q e' ds' w' a' s2 (hK _ _ _ hq) hr'
      | _ => exact ⟨e', ds', hr', hq⟩
    cases an
    case join K a1 a2 => exact go a1 a2 K hs.1 hs.2.1 hs.2.2 h
    case no => exact go .no .no _ (fun _ _ _ hk => hk) (by simp [sidesA]) (by simp [sidesA]) h
    all_goals exact go _ _ _ (fun _ _ _ hk => hk) hs.1 hs.2 h
  | cond c x y ihx ihy =>
    intro an Q e ds w a hs h hr
    have hs' : sidesA P N an.l x Q ∧ sidesA P N an.r y Q := by cases an <;> first | exact hs | exact ⟨by simp [sidesA, Ann.l], by simp [sidesA, Ann.r]⟩
    have h' : (match rdv N e c with | .bool t => ifB t (codeA P N an.l x Q e ds w) (codeA P N an.r y Q e ds w) | _ => False) := by cases an <;> exact h
    split at h'
    · rename_i t ht
      refine wpIn_cond (t := t) (by rw [eval_eq hr]; exact ht) ?_
      cases t
      · exact ihy _ Q e ds w a hs'.2 h' hr
      · exact ihx _ Q e ds w a hs'.1 h' hr
    · exact h'.elim
  | block id c ih =>
    intro an Q e ds w a hs h hr
    have hs' : sidesA P N an.l c (blockA id Q) := by cases an <;> first | exact hs | simp [sidesA, Ann.l]
    have h' : codeA P N an.l c (blockA id Q) e ds w := by cases an <;> exact h
    refine wpIn_block (wpIn_mono (ih _ _ e ds w a hs' h' hr) ?_)
    rintro ex a' w' ⟨e', ds', hr', hq⟩
    cases ex with
    | exit id' =>
      simp only [blockA] at hq
      simp only [Exit.inBlock]
      by_cases hid : id' = id
      · subst hid
        rw [if_pos rfl]
        rw [Nat.beq_refl] at hq
        exact ⟨e', ds', hr', hq⟩
      · rw [if_neg hid]
        have hb : Nat.beq id' id = false := by
          cases hb : Nat.beq id' id with
          | false => rfl
          | true => exact absurd (Nat.eq_of_beq_eq_true hb) hid
        rw [hb] at hq
        exact ⟨e', ds', hr', hq⟩
    | _ => exact ⟨e', ds', hr', hq⟩
  | loop c ih =>
    intro an Q e ds w a hs h hr
    cases an
    case loop I an =>
      obtain ⟨h0, h1, h2⟩ := hs
      obtain ⟨m, hm⟩ := h
      refine wpIn_loop_rounds m ?_
      have key : ∀ m e ds w a, I m e ds w → Rel N e ds a → Code.roundsIn (FW rd) n P c (lift N Q) m a w := by
        intro m
        induction m with
        | zero => intro e ds w a hi _; exact absurd hi (h0 e ds w)
        | succ m ihm =>
          intro e ds w a hi hr
          rw [roundsIn_succ]
          refine wpIn_mono (ih (an m) _ e ds w a (h2 m) (h1 m e ds w hi) hr) ?_
          rintro ex a' w' ⟨e', ds', hr', hq⟩
          cases ex with
          | normal => exact ihm e' ds' w' a' hq hr'
          | _ => exact ⟨e', ds', hr', hq⟩
      exact key m e ds w a hm hr
    all_goals exact h.elim
  | rangeFunc f ps as_ b ih1 ih2 => intro an Q e ds w a _ h hr; cases an <;> exact h.elim
  | exit id => intro an Q e ds w a _ h hr; exact wpIn_exit ⟨e, ds, hr, by cases an <;> exact h⟩
  | scope c ih => intro an Q e ds w a _ h hr; cases an <;> exact h.elim
  | label l => intro an Q e ds w a _ h hr; exact wpIn_label ⟨e, ds, hr, by cases an <;> exact h⟩
  | goto l => intro an Q e ds w a _ h hr; exact wpIn_goto ⟨e, ds, hr, by cases an <;> exact h⟩
  | ret => intro an Q e ds w a _ h hr; exact wpIn_ret ⟨e, ds, hr, by cases an <;> exact h⟩
  | refuse why => intro an Q e ds w a _ h hr; cases an <;> exact h.elim
end
end Go.Proofs.Ytalhnoelkglgiaa.Sh
