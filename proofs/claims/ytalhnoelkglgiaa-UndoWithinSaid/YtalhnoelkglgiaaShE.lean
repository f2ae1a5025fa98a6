/- The layer's regions that draw their order, second part: drawA suffices for every order (wpAnyIn). No condition: it holds of every program. -/
import Derived.Test.YtalhnoelkglgiaaShD
namespace Go.Proofs.Ytalhnoelkglgiaa.Sh
open Go
set_option linter.unusedSimpArgs false
set_option linter.unusedVariables false
section
variable {P : Program} {N : Nat} {rd : Option Nat} {n : Nat} {Q : Exit → Act → World → Prop}

/-! ### What must come ahead of what -/
theorem binds_any (e : Edge) : Region.binds .any e = bindsAny e := by
  cases e with
  | mk on g => cases g <;> rfl
theorem fold_tb (g : Nat → Nat) (h : Nat) : ∀ (l : List Edge) (s : Nat), (l.foldl (fun s e => cond (bindsAny e) ((s ||| 2 ^ e.on) ||| g e.on) s) s).testBit h = true →
    s.testBit h = true ∨ ∃ e ∈ l, bindsAny e = true ∧ (e.on = h ∨ (g e.on).testBit h = true)
  | [], s, hh => .inl hh
  | e :: l, s, hh => by
    simp only [List.foldl_cons] at hh
    rcases fold_tb g h l _ hh with h1 | ⟨e', he', hb⟩
    · cases hb : bindsAny e with
      | false => rw [hb] at h1; exact .inl h1
      | true =>
        rw [hb] at h1
        simp only [cond_true, Nat.testBit_or, Bool.or_eq_true, Nat.testBit_two_pow, decide_eq_true_eq] at h1
        rcases h1 with (h1 | h1) | h1
        · exact .inl h1
        · exact .inr ⟨e, by simp, hb, .inl h1⟩
        · exact .inr ⟨e, by simp, hb, .inr h1⟩
    · exact .inr ⟨e', by simp [he'], hb⟩
theorem ancs_prefix : ∀ (os : List Oper) (acc : List Nat), ∃ t, ancsGo acc os = acc ++ t
  | [], acc => ⟨[], by simp [ancsGo]⟩
  | o :: os, acc => by
    obtain ⟨t, ht⟩ := ancs_prefix os (acc ++ [o.after.toList.foldl (fun s e => cond (bindsAny e) ((s ||| 2 ^ e.on) ||| acc.getD e.on 0) s) 0])
    exact ⟨_, by simp only [ancsGo]; rw [ht, List.append_assoc]⟩
theorem ancs_at : ∀ (os : List Oper) (acc : List Nat) (j : Nat) (o : Oper), os[j]? = some o →
    (ancsGo acc os).getD (acc.length + j) 0 = o.after.toList.foldl (fun s e => cond (bindsAny e) ((s ||| 2 ^ e.on) ||| ((ancsGo acc os).take (acc.length + j)).getD e.on 0) s) 0
  | [], acc, j, o, h => by simp at h
  | o' :: os, acc, j, o, h => by
    cases j with
    | zero =>
      simp at h; subst h
      simp only [ancsGo]
      obtain ⟨t, ht⟩ := ancs_prefix os (acc ++ [o'.after.toList.foldl (fun s e => cond (bindsAny e) ((s ||| 2 ^ e.on) ||| acc.getD e.on 0) s) 0])
      rw [ht]
      simp
    | succ j =>
      have := ancs_at os (acc ++ [o'.after.toList.foldl (fun s e => cond (bindsAny e) ((s ||| 2 ^ e.on) ||| acc.getD e.on 0) s) 0]) j o (by simpa using h)
      simp only [List.length_append, List.length_cons, List.length_nil] at this
      simp only [ancsGo]
      rw [show acc.length + (j + 1) = acc.length + (0 + 1) + j by omega]
      exact this
theorem anc_step {L : List Oper} {i h : Nat} {o : Oper} (ho : L[i]? = some o) (ht : ((ancsGo [] L).getD i 0).testBit h = true) :
    ∃ e ∈ o.after.toList, bindsAny e = true ∧ (e.on = h ∨ (e.on < i ∧ ((ancsGo [] L).getD e.on 0).testBit h = true)) := by
  have := ancs_at L [] i o ho
  simp only [List.length_nil, Nat.zero_add] at this
  rw [this] at ht
  rcases fold_tb (fun k => ((ancsGo [] L).take i).getD k 0) h _ 0 ht with h0 | ⟨e, he, hb, h1⟩
  · simp at h0
  · refine ⟨e, he, hb, h1.imp id fun h1 => ?_⟩
    by_cases hlt : e.on < i
    · refine ⟨hlt, ?_⟩
      simpa [List.getD_eq_getElem?_getD, List.getElem?_take, hlt] using h1
    · simp [List.getD_eq_getElem?_getD, List.getElem?_take, hlt] at h1
theorem anc_closed {L : List Oper} {S : Nat → Bool} (hc : ∀ i o, S i = true → L[i]? = some o → ∀ e ∈ o.after.toList, bindsAny e = true → S e.on = true) (hL : ∀ i, S i = true → i < L.length) :
    ∀ (i : Nat) (o : Oper) (h : Nat), L[i]? = some o → (∀ e ∈ o.after.toList, bindsAny e = true → S e.on = true) → ((ancsGo [] L).getD i 0).testBit h = true → S h = true := by
  intro i
  induction i using Nat.strongRecOn with
  | _ i ih =>
    intro o h ho hd ht
    obtain ⟨e, he, hb, h1⟩ := anc_step ho ht
    rcases h1 with rfl | ⟨hlt, h1⟩
    · exact hd e he hb
    · have hS := hd e he hb
      obtain ⟨o', ho'⟩ : ∃ o', L[e.on]? = some o' := ⟨_, List.getElem?_eq_getElem (hL _ hS)⟩
      exact ih e.on hlt o' h ho' (hc _ _ hS ho') h1

/-! ### Who is left -/
def cnt (S : Nat → Bool) : Nat → Nat
  | 0 => 0
  | m + 1 => cnt S m + (if S m then 0 else 1)
def add (S : Nat → Bool) (i : Nat) : Nat → Bool := fun j => S j || Nat.beq j i
theorem add_self (S : Nat → Bool) (i : Nat) : add S i i = true := by simp [add, Nat.beq_refl]
theorem add_other {S : Nat → Bool} {i j : Nat} (h : j ≠ i) : add S i j = S j := by
  have : Nat.beq j i = false := by
    cases hb : Nat.beq j i with
    | false => rfl
    | true => exact absurd (Nat.eq_of_beq_eq_true hb) h
  simp [add, this]
theorem cnt_same {S S' : Nat → Bool} : ∀ m, (∀ j, j < m → S' j = S j) → cnt S' m = cnt S m
  | 0, _ => rfl
  | m + 1, h => by simp only [cnt]; rw [cnt_same m fun j hj => h j (by omega), h m (by omega)]
theorem cnt_add {S : Nat → Bool} {i : Nat} : ∀ m, i < m → S i = false → cnt (add S i) m + 1 = cnt S m
  | 0, h, _ => by omega
  | m + 1, h, hs => by
    simp only [cnt]
    by_cases hi : i = m
    · subst hi
      rw [cnt_same i fun j hj => add_other (by omega), add_self, hs]; simp
    · rw [add_other (fun e => hi e.symm)]
      have := cnt_add m (by omega) hs
      omega
theorem cnt_zero {S : Nat → Bool} : ∀ m, cnt S m = 0 → ∀ i, i < m → S i = true
  | 0, _, i, hi => by omega
  | m + 1, h, i, hi => by
    simp only [cnt] at h
    by_cases him : i = m
    · subst him
      cases hs : S i with
      | true => rfl
      | false => simp [hs] at h
    · exact cnt_zero m (by omega) i (by omega)
theorem cnt_least {S : Nat → Bool} : ∀ m, 0 < cnt S m → ∃ i, i < m ∧ S i = false ∧ ∀ j, j < i → S j = true
  | 0, h => by simp [cnt] at h
  | m + 1, h => by
    by_cases hm : 0 < cnt S m
    · obtain ⟨i, hi, h1, h2⟩ := cnt_least m hm
      exact ⟨i, by omega, h1, h2⟩
    · have h0 : ∀ i, i < m → S i = true := cnt_zero m (by omega)
      refine ⟨m, by omega, ?_, h0⟩
      cases hs : S m with
      | false => rfl
      | true => simp only [cnt, hs] at h; simp at h; omega

/-! ### One operation at operands that agree -/
theorem opA_congr {e e' : Env} {ds : List Deferred} {w : World} {o : Oper} {K : Value → List Deferred → World → Prop} (h : ∀ x ∈ o.op.operands, rdv N e x = rdv N e' x) : opA P N o e ds w K = opA P N o e' ds w K := by
  obtain ⟨dst, op, type, pos, after, guard⟩ := o
  have lst : ∀ xs : Array Operand, (∀ x ∈ xs, rdv N e x = rdv N e' x) → xs.toList.map (rdv N e) = xs.toList.map (rdv N e') := fun xs hx => List.map_congr_left fun x hm => hx x (by simpa using hm)
  have prs : ∀ ps : Array (Nat × Operand), (∀ p ∈ ps, rdv N e p.2 = rdv N e' p.2) → (ps.toList.map fun p => (p.1, rdv N e p.2)) = ps.toList.map fun p => (p.1, rdv N e' p.2) := fun ps hp =>
    List.map_congr_left fun p hm => by rw [hp p (by simpa using hm)]
  unfold opA
  cases op <;> simp only [Op.operands] at h <;> simp only
  case call c =>
    obtain ⟨callee, args, argTypes⟩ := c
    have ha := lst args fun x hx => h x (by simp [Call.operands, hx])
    rw [ha]
    cases callee with
    | value f => simp only; rw [h f (by simp [Call.operands])]
    | invoke r m => rfl
    | builtin b => rfl
  case build t ps => rw [prs ps fun p hp => h p.2 (by simp; exact ⟨p.1, hp⟩)]
  case buildSlice t k ps => rw [prs ps fun p hp => h p.2 (by simp; exact ⟨p.1, hp⟩)]
  case makeFunc fn first captured => rw [lst first fun x hx => h x (by simp [hx]), lst captured fun x hx => h x (by simp [hx])]
  case makeMap t r => cases r <;> simp_all
  case slice t x lo hi mx => cases lo <;> cases hi <;> cases mx <;> simp_all
  all_goals (first | rfl | (simp_all; done))

/-! ### The invariant -/
structure HRec where
  i : Nat
  o : Oper
  v : Value
def foldE (S : Nat → Bool) : Env → List HRec → Env
  | e, [] => e
  | e, x :: xs => foldE S (cond (S x.i) (put e x.o.dst x.v) e) xs
theorem foldE_append (S : Nat → Bool) : ∀ (xs ys : List HRec) (e : Env), foldE S e (xs ++ ys) = foldE S (foldE S e xs) ys
  | [], _, _ => rfl
  | x :: xs, ys, e => foldE_append S xs ys _
theorem foldE_same {S S' : Nat → Bool} : ∀ (xs : List HRec) (e : Env), (∀ x ∈ xs, S' x.i = S x.i) → foldE S' e xs = foldE S e xs
  | [], _, _ => rfl
  | x :: xs, e, h => by simp only [foldE]; rw [h x (by simp), foldE_same xs _ fun y hy => h y (by simp [hy])]
/-- A slot that none of those writes that one of two takes in. -/
theorem foldE_slot (t : Nat) {S S' : Nat → Bool} : ∀ (xs : List HRec) (e e' : Env), e t = e' t → (∀ x ∈ xs, (S x.i = S' x.i) ∨ x.o.dst ≠ some t) → foldE S e xs t = foldE S' e' xs t
  | [], _, _, h, _ => h
  | x :: xs, e, e', h, hx => by
    simp only [foldE]
    refine foldE_slot t xs _ _ ?_ fun y hy => hx y (by simp [hy])
    have put_t : ∀ e : Env, x.o.dst ≠ some t → put e x.o.dst x.v t = e t := by
      intro e hd
      cases hdst : x.o.dst with
      | none => rfl
      | some d =>
        have : t ≠ d := fun hh => hd (by rw [hdst, hh])
        simp only [put]
        cases hb : Nat.beq t d with
        | false => rfl
        | true => exact absurd (Nat.eq_of_beq_eq_true hb) this
    rcases hx x (by simp) with h1 | h1
    · rw [h1]
      cases S' x.i
      · exact h
      · cases hdst : x.o.dst with
        | none => exact h
        | some d =>
          simp only [cond_true, put]
          cases Nat.beq t d
          · exact h
          · rfl
    · have a1 : cond (S x.i) (put e x.o.dst x.v) e t = e t := by cases S x.i; rfl; exact put_t e h1
      have a2 : cond (S' x.i) (put e' x.o.dst x.v) e' t = e' t := by cases S' x.i; rfl; exact put_t e' h1
      rw [a1, a2, h]
theorem put_comm (e : Env) {x y : Option Tmp} (v u : Value) (h : ∀ d, x = some d → y ≠ some d) : put (put e x v) y u = put (put e y u) x v := by
  cases x with
  | none => rfl
  | some d =>
    cases y with
    | none => rfl
    | some d' =>
      have hne : d ≠ d' := fun e => h d rfl (by rw [e])
      funext i
      simp only [put]
      cases h1 : Nat.beq i d <;> cases h2 : Nat.beq i d' <;> simp only [cond_true, cond_false]
      exact absurd ((Nat.eq_of_beq_eq_true h1).symm.trans (Nat.eq_of_beq_eq_true h2)) hne
theorem foldE_put {S : Nat → Bool} {d : Option Tmp} {v : Value} : ∀ (xs : List HRec) (e : Env), (∀ x ∈ xs, S x.i = true → ∀ t, d = some t → x.o.dst ≠ some t) → foldE S (put e d v) xs = put (foldE S e xs) d v
  | [], _, _ => rfl
  | x :: xs, e, h => by
    simp only [foldE]
    cases hs : S x.i with
    | false => exact foldE_put xs e fun y hy => h y (by simp [hy])
    | true =>
      simp only [cond_true]
      rw [put_comm e v x.v (h x (by simp) hs)]
      exact foldE_put xs _ fun y hy => h y (by simp [hy])

/-- What an operation that was walked, and has perhaps not come up yet, does when it comes up. -/
def Yld (P : Program) (N : Nat) (L : List Oper) (x : HRec) (eb : Env) (w : World) : Prop :=
  (wantE L N x.o eb = true ∧ lightB P x.o = true ∧ lightE N x.o eb = true ∧ (execOp (rdv N eb) x.o).run P w = .ok (.value x.v) w ∧ (loadB x.o = false → ∀ u, (execOp (rdv N eb) x.o).run P u = .ok (.value x.v) u)) ∨ (wantE L N x.o eb = false ∧ x.v = undef)

def Rr (P : Program) (L : List Oper) (i j : Nat) : Prop := i ≠ j ∧ ((ancsGo [] L).getD i 0).testBit j = false ∧ (((ancsGo [] L).getD j 0).testBit i = true ∨ ∃ x y, L[i]? = some x ∧ L[j]? = some y ∧ lightB P x = true ∧ apartL L x y = true)

structure Inv (P : Program) (N : Nat) (L : List Oper) (ord : List Nat) (e0 : Env) (ds : List Deferred) (H : List HRec) (rest : List Nat) (rs : List Rec) (e : Env) (w : World) (S : Nat → Bool) (a : Act) : Prop where
  ord : ord = H.map (·.i) ++ rest
  ops : ∀ x ∈ H, L[x.i]? = some x.o
  full : e = foldE (fun _ => true) e0 H
  act : Rel N (foldE S e0 H) ds a
  inH : ∀ i, S i = true → ∃ x ∈ H, x.i = i
  closed : ∀ i o, S i = true → L[i]? = some o → ∀ ed ∈ o.after.toList, bindsAny ed = true → S ed.on = true
  pend : ∀ H1 x H2, H = H1 ++ x :: H2 → S x.i = false → Yld P N L x (foldE (fun _ => true) e0 H1) w ∧ (wantE L N x.o (foldE (fun _ => true) e0 H1) = true → loadB x.o = true → ∃ r ∈ rs, r.i = x.i ∧ r.o = x.o ∧ r.e = foldE (fun _ => true) e0 H1 ∧ r.v = x.v)

variable {L : List Oper} {ord : List Nat} {e0 e : Env} {ds : List Deferred} {H : List HRec} {rest : List Nat} {rs : List Rec} {w : World} {S : Nat → Bool} {a : Act}

theorem Inv.fresh (hI : Inv P N L ord e0 ds H rest rs e w S a) (hp : ord.Pairwise (Rr P L)) {i : Nat} (hi : i ∈ rest) : S i = false ∧ ∀ x ∈ H, x.i ≠ i := by
  have hn : ∀ x ∈ H, x.i ≠ i := by
    intro x hx
    rw [hI.ord, List.pairwise_append] at hp
    exact (hp.2.2 x.i (List.mem_map_of_mem hx) i hi).1
  refine ⟨?_, hn⟩
  cases hs : S i with
  | false => rfl
  | true => obtain ⟨x, hx, he⟩ := hI.inH i hs; exact absurd he (hn x hx)

/-- One more is walked, and waits. -/
theorem Inv.walk {i : Nat} (hI : Inv P N L ord e0 ds H (i :: rest) rs e w S a) (hp : ord.Pairwise (Rr P L)) {o : Oper} (ho : L[i]? = some o) {v : Value} (hy : Yld P N L ⟨i, o, v⟩ e w) (rs' : List Rec) (hrs : ∀ r ∈ rs, r ∈ rs')
    (hr : wantE L N o e = true → loadB o = true → ∃ r ∈ rs', r.i = i ∧ r.o = o ∧ r.e = e ∧ r.v = v) : Inv P N L ord e0 ds (H ++ [⟨i, o, v⟩]) rest rs' (put e o.dst v) w S a := by
  obtain ⟨hs, hn⟩ := hI.fresh hp (i := i) (by simp)
  refine ⟨by rw [hI.ord]; simp, ?_, ?_, ?_, ?_, hI.closed, ?_⟩
  · intro x hx
    rcases List.mem_append.1 hx with h | h
    · exact hI.ops x h
    · simp only [List.mem_singleton] at h; subst h; exact ho
  · rw [foldE_append, ← hI.full]; rfl
  · rw [foldE_append]; simp only [foldE, hs, cond_false]; exact hI.act
  · intro j hj
    obtain ⟨x, hx, he⟩ := hI.inH j hj
    exact ⟨x, by simp [hx], he⟩
  · intro H1 x H2 hH hx
    rcases List.eq_nil_or_concat H2 with rfl | ⟨H3, z, rfl⟩
    · obtain ⟨h1, h2⟩ := List.append_inj' hH rfl
      simp only [List.cons.injEq, and_true] at h2
      subst h1; subst h2
      rw [← hI.full]
      exact ⟨hy, fun h1 h2 => hr h1 h2⟩
    · rw [show H1 ++ x :: (H3.concat z) = (H1 ++ x :: H3) ++ [z] by simp] at hH
      obtain ⟨h1, h2⟩ := List.append_inj' hH rfl
      obtain ⟨p1, p2⟩ := hI.pend H1 x H3 h1 hx
      exact ⟨p1, fun h3 h4 => by obtain ⟨r, hr, hh⟩ := p2 h3 h4; exact ⟨r, hrs r hr, hh⟩⟩

theorem apart_spec {x y : Oper} (h : apartL L x y = true) : (∀ d, x.dst = some d → d ∉ looksL L y) ∧ (∀ d, x.dst = some d → y.dst ≠ some d) ∧ (∀ d, y.dst = some d → d ∉ looksL L x) := by
  unfold apartL at h
  refine ⟨fun d hd => ?_, fun d hd => ?_, fun d hd => ?_⟩
  · simp only [hd, Bool.and_eq_true, Bool.not_eq_true'] at h
    have := h.1.1
    intro hm
    have : (looksL L y).elem d = true := List.elem_eq_true_of_mem hm
    simp_all
  · simp only [hd, Bool.and_eq_true, Bool.not_eq_true'] at h
    have h2 := h.1.2
    intro hy
    simp only [hy, Bool.not_eq_true'] at h2
    rw [Nat.beq_refl] at h2; cases h2
  · simp only [hd, Bool.and_eq_true, Bool.not_eq_true'] at h
    have h2 := h.2
    intro hm
    have : (looksL L x).elem d = true := List.elem_eq_true_of_mem hm
    simp_all

theorem rdv_of_slot {e e' : Env} {x : Operand} (h : ∀ t, x = .tmp t → e t = e' t) : rdv N e x = rdv N e' x := by
  cases x with
  | tmp t => simp only [rdv]; rw [h t rfl]
  | _ => rfl
theorem want_of_slots {o : Oper} {e e' : Env} (h : ∀ t ∈ looksL L o, e t = e' t) : wantE L N o e = wantE L N o e' := by
  unfold wantE
  cases hg : o.guard with
  | none => rfl
  | some jw =>
    obtain ⟨j, want⟩ := jw
    simp only
    cases hd : dstOf L j with
    | none => rfl
    | some d =>
      have hd' : (L[j]?).bind (·.dst) = some d := hd
      have : e d = e' d := h d (by simp [looksL, hg, hd'])
      simp only [rdv, this]
theorem look_operand {o : Oper} {x : Operand} (hx : x ∈ o.op.operands) {t : Nat} (ht : x = .tmp t) : t ∈ looksL L o := by
  subst ht
  simp only [looksL, List.mem_append, List.mem_filterMap]
  exact .inl ⟨.tmp t, by simpa using hx, rfl⟩

/-- The slots that an operation that may come up takes in hold what they held when it was walked. -/
theorem slots_ready (hI : Inv P N L ord e0 ds H rest rs e w S a) (hp : ord.Pairwise (Rr P L)) (hL : ∀ i, S i = true → i < L.length) {H1 H2 : List HRec} {x : HRec} (hH : H = H1 ++ x :: H2) (hx : S x.i = false)
    (hready : ∀ ed ∈ x.o.after.toList, bindsAny ed = true → S ed.on = true) : ∀ t ∈ looksL L x.o, foldE S e0 H t = foldE (fun _ => true) e0 H1 t := by
  intro t ht
  have hanc : ∀ h, ((ancsGo [] L).getD x.i 0).testBit h = true → S h = true := fun h => anc_closed hI.closed hL x.i x.o h (hI.ops x (by rw [hH]; simp)) hready
  have hop := hI.ord
  rw [hH] at hop
  rw [hop] at hp
  simp only [List.map_append, List.map_cons] at hp
  have hp1 := (List.pairwise_append.1 hp).1
  obtain ⟨_, hq, hc⟩ := List.pairwise_append.1 hp1
  have hq' := (List.pairwise_cons.1 hq).1
  have ops' := hI.ops
  rw [hH] at ops' ⊢
  rw [foldE_append]
  simp only [foldE, hx, cond_false]
  have c2 : foldE S (foldE S e0 H1) H2 t = foldE (fun _ => false) (foldE S e0 H1) H2 t := by
    refine foldE_slot t H2 _ _ rfl fun y hy => ?_
    cases hs : S y.i with
    | false => exact .inl rfl
    | true =>
      refine .inr fun hd => ?_
      obtain ⟨hne, htb, hor⟩ := hq' y.i (List.mem_map_of_mem hy)
      rcases hor with h1 | ⟨x', y', hx', hy', _, hap⟩
      · have hSx : S x.i = true := anc_closed hI.closed hL y.i y.o x.i (ops' y (by simp [hy])) (fun ed he hb => hI.closed y.i y.o hs (ops' y (by simp [hy])) ed he hb) h1
        rw [hx] at hSx; cases hSx
      · rw [ops' x (by simp)] at hx'
        rw [ops' y (by simp [hy])] at hy'
        simp only [Option.some.injEq] at hx' hy'
        subst hx' hy'
        exact (apart_spec hap).2.2 t hd ht
  have c1 : foldE S e0 H1 t = foldE (fun _ => true) e0 H1 t := by
    refine foldE_slot t H1 _ _ rfl fun y hy => ?_
    cases hs : S y.i with
    | true => exact .inl rfl
    | false =>
      refine .inr fun hd => ?_
      obtain ⟨hne, htb, hor⟩ := hc y.i (List.mem_map_of_mem hy) x.i (by simp)
      rcases hor with h1 | ⟨y', x', hy', hx', _, hap⟩
      · have := hanc y.i h1; rw [hs] at this; cases this
      · rw [ops' x (by simp)] at hx'
        rw [ops' y (by simp [hy])] at hy'
        simp only [Option.some.injEq] at hx' hy'
        subst hx' hy'
        exact (apart_spec hap).1 t hd ht
  have c0 : ∀ (l : List HRec) (e : Env), foldE (fun _ => false) e l = e := by
    intro l
    induction l with
    | nil => intro e; rfl
    | cons y l ih => intro e; exact ih e
  rw [c2, c0, c1]

/-- One that waited comes up. -/
theorem Inv.up (hI : Inv P N L ord e0 ds H rest rs e w S a) (hp : ord.Pairwise (Rr P L)) (hL : ∀ i, S i = true → i < L.length) {H1 H2 : List HRec} {x : HRec} (hH : H = H1 ++ x :: H2) (hx : S x.i = false)
    (hready : ∀ ed ∈ x.o.after.toList, bindsAny ed = true → S ed.on = true) : Inv P N L ord e0 ds H rest rs e w (add S x.i) (a.put x.o.dst x.v) := by
  have hop := hI.ord
  have hp0 := hp
  rw [hH] at hop
  rw [hop] at hp
  simp only [List.map_append, List.map_cons] at hp
  have hp1 := (List.pairwise_append.1 hp).1
  obtain ⟨_, hq, hc⟩ := List.pairwise_append.1 hp1
  have hq' := (List.pairwise_cons.1 hq).1
  have ops' := hI.ops
  rw [hH] at ops'
  have n1 : ∀ y ∈ H1, y.i ≠ x.i := fun y hy => (hc y.i (List.mem_map_of_mem hy) x.i (by simp)).1
  have n2 : ∀ y ∈ H2, y.i ≠ x.i := fun y hy e => (hq' y.i (List.mem_map_of_mem hy)).1 e.symm
  refine ⟨hI.ord, hI.ops, hI.full, ?_, ?_, ?_, ?_⟩
  · have := hI.act.put' x.o.dst x.v
    have heq : foldE (add S x.i) e0 H = Sh.put (foldE S e0 H) x.o.dst x.v := by
      rw [hH, foldE_append, foldE_append]
      simp only [foldE, add_self, cond_true, hx, cond_false]
      rw [foldE_same H1 e0 fun y hy => add_other (n1 y hy), foldE_same H2 _ fun y hy => add_other (n2 y hy)]
      refine foldE_put H2 _ fun y hy hs t hd hd' => ?_
      obtain ⟨hne, htb, hor⟩ := hq' y.i (List.mem_map_of_mem hy)
      rcases hor with h1 | ⟨x', y', hx', hy', _, hap⟩
      · have hSx : S x.i = true := anc_closed hI.closed hL y.i y.o x.i (ops' y (by simp [hy])) (fun ed he hb => hI.closed y.i y.o hs (ops' y (by simp [hy])) ed he hb) h1
        rw [hx] at hSx; cases hSx
      · rw [ops' x (by simp)] at hx'
        rw [ops' y (by simp [hy])] at hy'
        simp only [Option.some.injEq] at hx' hy'
        subst hx' hy'
        exact (apart_spec hap).2.1 t hd hd'
    rw [heq]; exact this
  · intro j hj
    by_cases hji : j = x.i
    · exact ⟨x, by rw [hH]; simp, hji.symm⟩
    · rw [add_other hji] at hj; exact hI.inH j hj
  · intro j o hj ho ed he hb
    by_cases hji : j = x.i
    · subst hji
      rw [ops' x (by simp)] at ho
      simp only [Option.some.injEq] at ho
      subst ho
      have := hready ed he hb
      simp [add, this]
    · rw [add_other hji] at hj
      have := hI.closed j o hj ho ed he hb
      simp [add, this]
  · intro G1 y G2 hG hy
    refine hI.pend G1 y G2 hG ?_
    cases hs : S y.i with
    | false => rfl
    | true => simp [add, hs] at hy

end
end Go.Proofs.Ytalhnoelkglgiaa.Sh
