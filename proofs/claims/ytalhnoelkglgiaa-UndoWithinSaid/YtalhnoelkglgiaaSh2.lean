/- The layer's equality and built values (eqT, buildL) are the machine's. No condition: it holds of every program. -/
import Derived.Test.YtalhnoelkglgiaaSh1
import Derived.ChangeKeysEq
import Derived.Laws.Tables
namespace Go.Proofs.Ytalhnoelkglgiaa.Sh
open Go
section
variable {P : Program}

theorem eqAll_cons {x : Option Bool} {xs : List (Option Bool)} {b : Bool} (h : eqAll (x :: xs) = some b) : ∃ a c, x = some a ∧ eqAll xs = some c ∧ b = (a && c) := by
  cases xs with
  | nil => simp only [eqAll] at h; exact ⟨b, true, h, rfl, by simp⟩
  | cons y ys =>
    simp only [eqAll] at h
    cases x with
    | none => simp [andO] at h
    | some a =>
      cases hy : eqAll (y :: ys) with
      | none => rw [hy] at h; simp [andO] at h
      | some c => rw [hy] at h; simp only [andO, Option.some.injEq] at h; exact ⟨a, c, rfl, rfl, h.symm⟩

/-- A value's form is its type's. -/
def Fm (P : Program) (t : TypeId) (x : Value) : Prop := if isAggB P t then ∃ cs, x = .agg cs else ∀ cs, x ≠ .agg cs

theorem cells_one {x v : Value} (hx : ∀ cs, x ≠ .agg cs) (h : x.cells.toList = [v]) : x = v := by
  cases x <;> simp_all [Value.cells]

theorem part_run {e : TypeId} {i : TypeInfo} (hi : P.info? e = some i) {d : TypeDesc} (hu : P.underlying e = some d) (w : World) {xs : Array Value} {off d' : Nat} {ys : List Value} {b : Bool} (hq : eqT P d' e (chunk off (P.cellsOf e) xs.toList) ys = some b) :
    ∃ a, (part e xs off).run P w = .ok a w ∧ Fm P e a ∧ a.cells.toList = chunk off (P.cellsOf e) xs.toList := by
  have agg : isAggB P e = true → ∃ a, (part e xs off).run P w = .ok a w ∧ Fm P e a ∧ a.cells.toList = chunk off (P.cellsOf e) xs.toList := by
    intro hb
    refine ⟨.agg (xs.extract off (off + P.cellsOf e)), ?_, by simp [Fm, hb], ?_⟩
    · unfold isAggB at hb
      cases d <;> simp [hu] at hb <;> simp [part, isAgg, run_underlying hu, run_sizeOf w hi]
    · simp [Value.cells, chunk, List.extract]
  have one : isAggB P e = false → (∃ v, chunk off (P.cellsOf e) xs.toList = [v] ∧ ∀ cs, v ≠ .agg cs) → ∃ a, (part e xs off).run P w = .ok a w ∧ Fm P e a ∧ a.cells.toList = chunk off (P.cellsOf e) xs.toList := by
    rintro hb ⟨v, hv, hn⟩
    have hx : xs[off]? = some v := by
      have : (chunk off (P.cellsOf e) xs.toList)[0]? = some v := by rw [hv]; rfl
      simp only [chunk, List.getElem?_take, List.getElem?_drop] at this
      split at this
      · simpa using this
      · cases this
    refine ⟨v, ?_, by simpa [Fm, hb] using hn, ?_⟩
    · unfold isAggB at hb
      cases d <;> simp [hu] at hb <;> simp [part, isAgg, run_underlying hu, hx]
    · rw [hv]; cases v <;> simp_all [Value.cells]
  cases d' with
  | zero => simp [eqT] at hq
  | succ d' =>
    unfold eqT at hq
    simp only [hu] at hq
    cases d
    case bool =>
      refine one (by simp [isAggB, hu]) ?_
      simp only at hq
      split at hq
      · rename_i h1; exact ⟨_, h1, by simp⟩
      · cases hq
    case int k =>
      refine one (by simp [isAggB, hu]) ?_
      simp only at hq
      split at hq
      · rename_i h1; exact ⟨_, h1, by simp⟩
      · cases hq
    case string =>
      refine one (by simp [isAggB, hu]) ?_
      simp only at hq
      split at hq
      · rename_i h1; exact ⟨_, h1, by simp⟩
      · cases hq
    case array n e' => exact agg (by simp [isAggB, hu])
    case struct fs => exact agg (by simp [isAggB, hu])
    all_goals (simp at hq; done)

theorem under_of_eqT {d : Nat} {t : TypeId} {xs ys : List Value} {b : Bool} (h : eqT P d t xs ys = some b) : ∃ u, P.underlying t = some u := by
  cases d with
  | zero => simp [eqT] at h
  | succ d =>
    unfold eqT at h
    cases hu : P.underlying t with
    | none => simp [hu] at h
    | some u => exact ⟨u, rfl⟩
theorem eqT_swap : ∀ (d : Nat) (t : TypeId) (xs ys : List Value) (b : Bool), eqT P d t xs ys = some b → ∃ c, eqT P d t ys xs = some c
  | 0, _, _, _, _, h => by simp [eqT] at h
  | d + 1, t, xs, ys, b, h => by
    have all : ∀ {α : Type} (l : List α) (f g : α → Option Bool) (b : Bool), (∀ x b, f x = some b → ∃ c, g x = some c) → eqAll (l.map f) = some b → ∃ c, eqAll (l.map g) = some c := by
      intro α l f g
      induction l with
      | nil => exact fun b _ _ => ⟨true, rfl⟩
      | cons x l ih =>
        intro b hfg hb
        obtain ⟨a, c, ha, hc, _⟩ := eqAll_cons hb
        obtain ⟨a', ha'⟩ := hfg x a ha
        obtain ⟨c', hc'⟩ := ih c hfg hc
        cases l with
        | nil => exact ⟨a', by simpa [eqAll] using ha'⟩
        | cons y l => exact ⟨a' && c', by simp only [List.map_cons, eqAll] at hc' ⊢; rw [ha', hc']; rfl⟩
    unfold eqT at h ⊢
    cases hu : P.underlying t with
    | none => simp [hu] at h
    | some u =>
      cases u <;> simp only [hu] at h ⊢
      case bool => split at h; · exact ⟨_, rfl⟩
                   · cases h
      case int k =>
        split at h
        · rename_i k1 a k2 b'
          by_cases hk : k1 = k2
          · subst hk; exact ⟨_, by simp; rfl⟩
          · simp [hk] at h
        · cases h
      case string => split at h; · exact ⟨_, rfl⟩
                     · cases h
      case array n e =>
        cases hb : (Nat.ble 1 n && (Nat.beq xs.length (n * P.cellsOf e) && Nat.beq ys.length (n * P.cellsOf e))) with
        | false => rw [hb] at h; simp at h
        | true =>
          rw [hb] at h; rw [Bool.and_comm (Nat.beq ys.length _), hb]
          exact all _ _ _ b (fun x b hx => eqT_swap d _ _ _ b hx) h
      case struct fs =>
        cases hb : (P.stoodInHeld t || fs.toList.any fun f => f.name == "_") with
        | true => rw [hb] at h; simp at h
        | false =>
          rw [hb] at h
          exact all _ _ _ b (fun x b hx => eqT_swap d _ _ _ b hx) h
      all_goals (simp at h; done)

theorem natsTo_range : ∀ (n k : Nat), natsTo n k = List.range' k n
  | 0, _ => rfl
  | n + 1, k => by simp [natsTo, natsTo_range n (k + 1), List.range'_succ]

theorem eqT_run (D : Nat) : ∀ (d : Nat) (t : TypeId) (x y : Value) (b : Bool), Fm P t x → Fm P t y → eqT P d t x.cells.toList y.cells.toList = some b → ∀ w, (Op.equalIn (D + d) t x y).run P w = .ok b w
  | 0, _, _, _, _, _, _, h, _ => by simp [eqT] at h
  | d + 1, t, x, y, b, fx, fy, h, w => by
    have step : ∀ (e : TypeId) (xs ys : Array Value) (off : Nat) (r : Bool), eqT P d e (chunk off (P.cellsOf e) xs.toList) (chunk off (P.cellsOf e) ys.toList) = some r →
        ∃ u v, (part e xs off).run P w = .ok u w ∧ (part e ys off).run P w = .ok v w ∧ (Op.equalIn (D + d) e u v).run P w = .ok r w := by
      intro e xs ys off r hr
      obtain ⟨u0, hu⟩ := under_of_eqT hr
      obtain ⟨i, hi⟩ := Go.info_of_underlying hu
      obtain ⟨r', hr'⟩ := eqT_swap _ _ _ _ _ hr
      obtain ⟨u, p1, f1, c1⟩ := part_run hi hu w hr
      obtain ⟨v, p2, f2, c2⟩ := part_run hi hu w hr'
      exact ⟨u, v, p1, p2, eqT_run D d e u v r f1 f2 (by rw [c1, c2]; exact hr) w⟩
    cases hu : P.underlying t with
    | none => unfold eqT at h; simp [hu] at h
    | some u =>
      unfold eqT at h
      simp only [hu] at h
      rw [show D + (d + 1) = (D + d) + 1 from rfl]
      cases u
      case bool =>
        have nx : ∀ cs, x ≠ .agg cs := by simpa [Fm, isAggB, hu] using fx
        have ny : ∀ cs, y ≠ .agg cs := by simpa [Fm, isAggB, hu] using fy
        simp only at h
        split at h
        · rename_i h1 h2
          have := cells_one nx h1; subst this
          have := cells_one ny h2; subst this
          rw [run_equalIn_bool w _ t _ _ hu]; simpa using h
        · cases h
      case int k =>
        have nx : ∀ cs, x ≠ .agg cs := by simpa [Fm, isAggB, hu] using fx
        have ny : ∀ cs, y ≠ .agg cs := by simpa [Fm, isAggB, hu] using fy
        simp only at h
        split at h
        · rename_i h1 h2
          have := cells_one nx h1; subst this
          have := cells_one ny h2; subst this
          split at h
          · rename_i hk; subst hk
            rw [run_equalIn_int w _ t _ k _ _ hu]; simpa using h
          · cases h
        · cases h
      case string =>
        have nx : ∀ cs, x ≠ .agg cs := by simpa [Fm, isAggB, hu] using fx
        have ny : ∀ cs, y ≠ .agg cs := by simpa [Fm, isAggB, hu] using fy
        simp only at h
        split at h
        · rename_i h1 h2
          have := cells_one nx h1; subst this
          have := cells_one ny h2; subst this
          rw [run_equalIn_string w _ t _ _ hu, ← beq_toListBytes]; simpa using h
        · cases h
      case array n e =>
        obtain ⟨xs, rfl⟩ : ∃ cs, x = .agg cs := by simpa [Fm, isAggB, hu] using fx
        obtain ⟨ys, rfl⟩ : ∃ cs, y = .agg cs := by simpa [Fm, isAggB, hu] using fy
        simp only at h
        have h' : eqAll ((natsTo n 0).map fun i => eqT P d e (chunk (i * P.cellsOf e) (P.cellsOf e) xs.toList) (chunk (i * P.cellsOf e) (P.cellsOf e) ys.toList)) = some b := by
          revert h
          generalize (Nat.ble 1 n && (Nat.beq (Value.agg xs).cells.toList.length (n * P.cellsOf e) && Nat.beq (Value.agg ys).cells.toList.length (n * P.cellsOf e))) = c
          cases c with
          | false => simp
          | true => exact fun h => h
        cases n with
        | zero => simp [Nat.ble] at h
        | succ n =>
          obtain ⟨u0, hue⟩ : ∃ u, P.underlying e = some u := by
            simp only [natsTo, List.map_cons] at h'
            obtain ⟨a, c, ha, _⟩ := eqAll_cons h'
            exact under_of_eqT ha
          obtain ⟨i, hi⟩ := Go.info_of_underlying hue
          rw [run_equalIn_array w (D + d) xs ys hu hi, List.range_eq_range', ← natsTo_range]
          generalize natsTo (n + 1) 0 = is at h'
          clear h
          induction is generalizing b with
          | nil => simp only [List.map_nil, eqAll, Option.some.injEq] at h'; subst h'; simp [Op.eqItems]
          | cons j is ih =>
            obtain ⟨a, c, ha, hc, rfl⟩ := eqAll_cons h'
            obtain ⟨u, v, p1, p2, p3⟩ := step e xs ys _ a ha
            simp only [Op.eqItems, Sem.run_bind, p1, p2, p3, Result.andThen_ok]
            cases a
            · simp
            · simpa using ih c hc
      case struct fs =>
        obtain ⟨xs, rfl⟩ : ∃ cs, x = .agg cs := by simpa [Fm, isAggB, hu] using fx
        obtain ⟨ys, rfl⟩ : ∃ cs, y = .agg cs := by simpa [Fm, isAggB, hu] using fy
        simp only at h
        cases hb : (P.stoodInHeld t || fs.toList.any fun f => f.name == "_") with
        | true => rw [hb] at h; simp at h
        | false =>
          rw [hb] at h
          simp only [cond_false, Bool.or_eq_false_iff] at h hb
          have hfs : P.fieldsOf t = fs := by simp [Program.fieldsOf, hu]
          rw [run_equalIn_struct w (D + d) t xs ys (by rw [hfs]; exact hu) hb.1, hfs]
          have hn := hb.2
          generalize fs.toList = l at h hn
          clear hfs
          induction l generalizing b with
          | nil => simp only [List.map_nil, eqAll, Option.some.injEq] at h; subst h; simp [Op.eqFields]
          | cons f l ih =>
            simp only [List.any_cons, Bool.or_eq_false_iff, beq_eq_false_iff_ne] at hn
            obtain ⟨a, c, ha, hc, rfl⟩ := eqAll_cons h
            obtain ⟨u, v, p1, p2, p3⟩ := step f.type xs ys _ a ha
            simp only [Op.eqFields, hn.1, ne_eq, not_false_eq_true, if_true, Sem.run_bind, p1, p2, p3, Result.andThen_ok]
            cases a
            · simp
            · simpa using ih c hc hn.2
      all_goals (simp at h; done)
end
end Go.Proofs.Ytalhnoelkglgiaa.Sh
