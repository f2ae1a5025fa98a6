/- The soundness of the layer (Sh0): what codeA asks suffices for the machine. No condition: it holds of every program. -/
import Derived.Test.YtalhnoelkglgiaaSh0
namespace Go.Proofs.Ytalhnoelkglgiaa.Sh
open Go

structure Rel (N : Nat) (e : Env) (ds : List Deferred) (a : Act) : Prop where
  defers : a.defers = ds
  size : a.tmps.size = N
  get : ∀ i, i < N → a.tmps.getD i undef = e i

theorem eval_eq {N : Nat} {e : Env} {ds : List Deferred} {a : Act} (h : Rel N e ds a) : a.eval = rdv N e := by
  funext x
  cases x with
  | tmp t =>
    simp only [Act.eval, rdv]
    by_cases ht : t < N
    · have : Nat.ble (t + 1) N = true := by rw [Nat.ble_eq]; exact ht
      rw [this]; exact h.get t ht
    · have : Nat.ble (t + 1) N = false := by
        cases hb : Nat.ble (t + 1) N with
        | false => rfl
        | true => rw [Nat.ble_eq] at hb; exact absurd hb ht
      rw [this]
      have hs := h.size
      simp only [Array.getD, show ¬ t < a.tmps.size from by rw [hs]; exact ht, dite_false, cond_false]
  | _ => rfl

theorem Rel.put {N : Nat} {e : Env} {ds ds' : List Deferred} {a : Act} (h : Rel N e ds a) (d : Option Tmp) (v : Value) : Rel N (put e d v) ds' (({ a with defers := ds' } : Act).put d v) := by
  cases d with
  | none => exact ⟨rfl, h.size, h.get⟩
  | some d =>
    refine ⟨rfl, by simp [Act.put, h.size], fun i hi => ?_⟩
    have hs := h.size
    have hg := h.get i hi
    by_cases hid : i = d
    · subst hid
      have : Nat.beq i i = true := Nat.beq_refl i
      simp only [Sh.put, this, cond_true, Act.put]
      simp [Array.getD, hs, hi]
    · have : Nat.beq i d = false := by
        cases hb : Nat.beq i d with
        | false => rfl
        | true => exact absurd (Nat.eq_of_beq_eq_true hb) hid
      simp only [Sh.put, this, cond_false, Act.put]
      rw [← hg]
      simp only [Array.getD_eq_getD_getElem?]
      rw [Array.getElem?_setIfInBounds_ne (fun e => hid e.symm)]

theorem Rel.put' {N : Nat} {e : Env} {ds : List Deferred} {a : Act} (h : Rel N e ds a) (d : Option Tmp) (v : Value) : Rel N (Sh.put e d v) ds (a.put d v) := by
  have := h.put (ds' := ds) d v
  have ha : ({ a with defers := ds } : Act) = a := by cases a; have := h.defers; simp at this; simp [this]
  rwa [ha] at this

theorem fw_calls {rd : Option Nat} {n : Nat} {P : Program} {f : FuncId} {args : Array Value} {w : World} {R : Ending → World → Prop} (h : Calls P f args w R) : CallsIn (FW rd) n P f args w R := by
  have := (callsIn_wide (n := n)).2 h
  exact this
theorem fw_round {rd : Option Nat} {n m : Nat} {P : Program} {l : Nat} {f : FuncId} {tmps : Array Value} {as_ body : Code} {w : World} {R : Ending → World → Prop} (h : RoundIn (FW none) m P l f tmps as_ body w R) : RoundIn (FW rd) n P l f tmps as_ body w R :=
  ⟨trivial, fun c cs _ => h.2 c cs (fun d hd => by simp [Fence.wide] at hd)⟩

/-- What opA asks behind an operation. -/
def Nx (N : Nat) (K : Env → List Deferred → World → Prop) (a' : Act) (w' : World) : Prop := ∃ e ds, Rel N e ds a' ∧ K e ds w'

section
variable {P : Program} {N : Nat} {rd : Option Nat} {n : Nat} {Q : Exit → Act → World → Prop} {a : Act} {w : World} {e : Env} {ds : List Deferred} {o : Oper}

theorem upon_nxA {K : Env → List Deferred → World → Prop} (hr : Rel N e ds a) {r : Result Next}
    (h : r.sat (nxA P (fun v w' => K (put e o.dst v) ds w')) (fun _ _ => False)) : o.uponIn (FW rd) n P a (Nx N K) Q r := by
  cases r with
  | halt x w' => exact h.elim
  | ok nx w' =>
    cases nx <;> simp only [Result.sat, nxA] at h <;> simp only [Oper.uponIn]
    case value v => exact ⟨_, _, hr.put' o.dst v, h⟩
    case enter f args =>
      refine ⟨fun hd => by simp [Fence.wide] at hd, fw_calls (Calls.mono h ?_)⟩
      rintro e' w'' ⟨v, rfl, hv⟩
      exact ⟨_, _, hr.put' o.dst v, hv⟩
    case round l f t as_ b =>
      refine ⟨fun hd => by simp [Fence.wide] at hd, fw_round (RoundIn.mono h ?_)⟩
      rintro e' w'' ⟨v, rfl, hv⟩
      exact ⟨_, _, hr.put' o.dst v, hv⟩

theorem wp_sat {α : Type} {s : Sem α} {R : α → World → Prop} (h : s.wp P R (fun _ _ => False) w) : (s.run P w).sat R (fun _ _ => False) := (Sem.wp_iff_run P s R _ w).1 h

theorem map_list {α β : Type} (f : α → β) (xs : Array α) : xs.map f = (xs.toList.map f).toArray := by
  apply Array.ext'; simp

/-! loads and stores -/
theorem ldK_run {α : Type} {x : Addr} {k : Value → Sem α} {R : α → World → Prop} (h : ldK P w x fun v => (k v).wp P R (fun _ _ => False) w) : (Sem.load .plain x k).wp P R (fun _ _ => False) w := by
  unfold ldK at h
  simp only [Sem.wp]
  cases hc : w.cell? x with
  | some v => simpa [hc] using h
  | none =>
    simp only [hc] at h ⊢
    rw [show (Mode.plain == Mode.atomic) = false from rfl]
    cases hf : w.farLoad P x false with
    | ok r => rw [hf] at h; exact h
    | error e => rw [hf] at h; exact h
theorem ldK_mono {x : Addr} {F G : Value → Prop} (h : ldK P w x F) (hg : ∀ v, F v → G v) : ldK P w x G := by
  unfold ldK at *
  cases hc : w.cell? x with
  | some v => simp only [hc] at h ⊢; exact hg _ h
  | none =>
    simp only [hc] at h ⊢
    cases hf : w.farLoad P x false with
    | ok r => rw [hf] at h; exact hg _ h
    | error e => rw [hf] at h; exact h

theorem wp_bind {α β : Type} (s : Sem α) (f : α → Sem β) (R : β → World → Prop) (E : Halt → World → Prop) (w : World) :
    (s >>= f).wp P R E w ↔ s.wp P (fun a w' => (f a).wp P R E w') E w := by
  show (s.bind f).wp P R E w ↔ _
  rw [Sem.wp_iff_run, Sem.wp_iff_run, Sem.run_bind']
  generalize s.run P w = r
  cases r with
  | ok x w' => simp only [Result.andThen_ok, Result.sat]; exact (Sem.wp_iff_run P (f x) R E w').symm
  | halt x w' => simp [Result.sat]

theorem bind_assoc' {α β γ : Type} (s : Sem α) (f : α → Sem β) (g : β → Sem γ) : (s >>= f) >>= g = s >>= fun x => f x >>= g := by
  show (s.bind f).bind g = s.bind fun x => (f x).bind g
  induction s with
  | pure a => rfl
  | load m a k ih => simp only [Sem.bind, ih]
  | store m a v k ih => simp only [Sem.bind, ih]
  | new o k ih => simp only [Sem.bind, ih]
  | shape r k ih => simp only [Sem.bind, ih]
  | freeze a n k ih => simp only [Sem.bind, ih]
  | frozen a k ih => simp only [Sem.bind, ih]
  | getObj r k ih => simp only [Sem.bind, ih]
  | setObj r o k ih => simp only [Sem.bind, ih]
  | choose q k ih => simp only [Sem.bind, ih]
  | sys c k ih => simp only [Sem.bind, ih]
  | program k ih => simp only [Sem.bind, ih]
  | mark m k ih => simp only [Sem.bind, ih]
  | halt h => rfl
theorem pure_bind' {α β : Type} (x : α) (f : α → Sem β) : (pure x >>= f : Sem β) = f x := rfl

theorem ldCells_wp {x : Addr} {R : Array Value → World → Prop} : ∀ (l : List CK) (i : Nat) (acc : List Value), ldCells P w x i l acc (fun r => R r.toArray w) →
    (loadCellsFrom x i l.length acc.reverse.toArray).wp P R (fun _ _ => False) w
  | [], i, acc, h => by simpa [ldCells, loadCellsFrom, Sem.wp, pure] using h
  | c :: l, i, acc, h => by
    simp only [ldCells] at h
    simp only [List.length_cons, loadCellsFrom]
    rw [wp_bind]
    refine ldK_run (ldK_mono h fun v hv => ?_)
    have := ldCells_wp l (i + 1) (v :: acc) (asCK_imp hv)
    simpa [Sem.wp, List.reverse_cons] using this


theorem cellsOf_size {t : TypeId} {i : TypeInfo} (h : P.info? t = some i) : P.cellsOf t = i.size := by simp [Program.cellsOf, h]
theorem info_of_under {t : TypeId} {d : TypeDesc} (h : P.underlying t = some d) : ∃ i, P.info? t = some i := by
  unfold Program.underlying at h
  cases hi : P.info? t with
  | none => simp [hi] at h
  | some i => exact ⟨i, rfl⟩
theorem wp_underlying {α : Type} {t : TypeId} {d : TypeDesc} (hu : P.underlying t = some d) (f : TypeDesc → Sem α) (R : α → World → Prop) (E : Halt → World → Prop) (w : World) :
    (underlying t >>= f).wp P R E w ↔ (f d).wp P R E w := by
  rw [wp_bind]; simp [underlying, program, Sem.wp, bind, Sem.bind, hu, pure]
theorem wp_sizeOf {α : Type} {t : TypeId} {i : TypeInfo} (hi : P.info? t = some i) (f : Nat → Sem α) (R : α → World → Prop) (E : Halt → World → Prop) (w : World) :
    (sizeOf t >>= f).wp P R E w ↔ (f i.size).wp P R E w := by
  rw [wp_bind]; simp [sizeOf, typeInfo, program, Sem.wp, bind, Sem.bind, hi, pure]
theorem ldT_wp {x : Addr} {t : TypeId} {R : Value → World → Prop} (h : ldT P w x t fun v => R v w) : (loadVar t x).wp P R (fun _ _ => False) w := by
  unfold ldT at h
  unfold loadVar isAgg
  cases hu : P.underlying t with
  | none => simp [hu] at h
  | some d =>
    obtain ⟨i, hi⟩ := info_of_under hu
    have hbig : ∀ (hh : cond (Nat.beq (cksOf P 20 t).length (P.cellsOf t)) (ldCells P w x 0 (cksOf P 20 t) [] fun r => R (.agg r.toArray) w) False),
        (do let n ← sizeOf t; let cs ← loadCells x n; pure (Value.agg cs) : Sem Value).wp P R (fun _ _ => False) w := by
      intro hh
      cases hb : Nat.beq (cksOf P 20 t).length (P.cellsOf t) with
      | false => simp [hb] at hh
      | true =>
        simp only [hb, cond_true] at hh
        rw [wp_sizeOf hi, ← cellsOf_size hi, ← Nat.eq_of_beq_eq_true hb, wp_bind]
        have := ldCells_wp (P := P) (w := w) (x := x) (R := fun cs w => R (.agg cs) w) _ 0 [] hh
        simpa [loadCells, Sem.wp, pure] using this
    rw [bind_assoc', wp_underlying hu]
    cases d <;> simp only [hu] at h <;> simp only [pure_bind', if_true, Bool.false_eq_true, if_false]
    case struct fs => simpa [bind, Sem.bind] using hbig h
    case array m e => simpa [bind, Sem.bind] using hbig h
    all_goals exact ldK_run (ldK_mono h fun v hv => asCK_imp (F := fun v => R v w) hv)
end
end Go.Proofs.Ytalhnoelkglgiaa.Sh
