/- Joined out of own texts. No condition: it holds of every program, or of this one by what is shown here. -/
import Derived.Test.YtgcicoebkjgfoaaGreatDoorYd2
import Derived.Test.YtgcicoebkjgfoaaGreatDoorProg
import Derived.Laws.Externs
import Derived.Test.YtgcicoebkjgfoaaGreatDoorYd0
import Derived.Test.YtgcicoebkjgfoaaGreatDoorYd1
set_option linter.unusedSectionVars false
set_option linter.constructorNameAsVariable false
set_option linter.unusedVariables false
set_option linter.unusedSimpArgs false
namespace Go.Proofs.YtgcicoebkjgfoaaGreatDoor.Rn
open Go Go.RowKit Go.Proofs.YtgcicoebkjgfoaaGreatDoor.Sh
set_option linter.unusedVariables false
set_option linter.unusedSimpArgs false
/-- A block that was laid early: by which operation, into which slot, where. -/
structure XR where
  i : Nat
  d : Nat
  b : Nat
  v : Value
  t : TypeId
  l : List V
  mkv : Nat → V
  arr : Array Value
def putX : List XR → Env → Env
  | [], e => e
  | x :: xs, e => put (putX xs e) (some x.d) x.v
theorem putX_get {e : Env} {t : Nat} : ∀ {xs : List XR}, (∀ x ∈ xs, x.d ≠ t) → putX xs e t = e t
  | [], _ => rfl
  | x :: xs, h => by
    have h1 := h x List.mem_cons_self
    show cond (Nat.beq t x.d) x.v (putX xs e t) = e t
    rw [show Nat.beq t x.d = false from Bool.eq_false_iff.2 fun q => h1 (Nat.eq_of_beq_eq_true q).symm]
    exact putX_get fun y hy => h y (List.mem_cons_of_mem _ hy)
theorem put_comm {e : Env} {a b : Nat} {u v : Value} (h : a ≠ b) : put (put e (some a) u) (some b) v = put (put e (some b) v) (some a) u := by
  funext i
  show cond (Nat.beq i b) v (cond (Nat.beq i a) u (e i)) = cond (Nat.beq i a) u (cond (Nat.beq i b) v (e i))
  cases hb : Nat.beq i b with
  | false => rfl
  | true =>
    have := Nat.eq_of_beq_eq_true hb
    subst this
    rw [show Nat.beq i a = false from Bool.eq_false_iff.2 fun q => h (Nat.eq_of_beq_eq_true q).symm]
    rfl
theorem putX_put {e : Env} {dst : Option Nat} {v : Value} : ∀ {xs : List XR}, (∀ x ∈ xs, dst ≠ some x.d) → put (putX xs e) dst v = putX xs (put e dst v)
  | [], _ => rfl
  | x :: xs, h => by
    cases dst with
    | none => rfl
    | some d =>
      have h1 : x.d ≠ d := fun q => h x List.mem_cons_self (by rw [q])
      show put (put (putX xs e) (some x.d) x.v) (some d) v = put (putX xs (put e (some d) v)) (some x.d) x.v
      rw [put_comm h1, putX_put fun y hy => h y (List.mem_cons_of_mem _ hy)]
/-- One of them is told now. -/
theorem putX_out {e : Env} : ∀ {xs : List XR} {x : XR}, x ∈ xs → xs.Pairwise (fun a b => a.d ≠ b.d) → ∃ A B, xs = A ++ x :: B ∧ putX xs e = putX (A ++ B) (put e (some x.d) x.v)
  | y :: xs, x, h, hp => by
    rw [List.pairwise_cons] at hp
    rcases List.mem_cons.1 h with rfl | h
    · refine ⟨[], xs, rfl, ?_⟩
      show put (putX xs e) (some x.d) x.v = putX xs (put e (some x.d) x.v)
      exact putX_put fun y hy q => hp.1 y hy (by simpa using q)
    · obtain ⟨A, B, h1, h2⟩ := putX_out (e := e) h hp.2
      refine ⟨y :: A, B, by rw [h1]; rfl, ?_⟩
      show put (putX xs e) (some y.d) y.v = put (putX (A ++ B) _) (some y.d) y.v
      rw [h2]
section
variable {P : Program} {N : Nat} (hP : PV P) (hN : N ≤ 1000000000)
structure XOK (P : Program) (L : List Oper) (an : List Nat) (c : Cx) (w0 : Bs) (w : World) (H : Hs) (x : XR) : Prop where
  fl : ∃ o, FlOK P L an x.i o x.t x.l x.mkv x.d
  val : ∀ (c : Cx) (n : Nat), c.ρ n = x.b → c.ω n = 0 → (x.mkv n).den c = x.v
  mklt : ∀ n m, n < m → (x.mkv n).lt m
  cells : w.heap[x.b]? = some (.cells x.arr x.t (0, 0))
  arr : ∀ c, x.arr.toList = V.denL c x.l
  lt : (∀ n, V.ltL n x.l) ∧ x.l.length < 1000000000
  ge : w0.w.heap.size ≤ x.b
  free : ¬ footS c H x.b
structure RecOK (P : Program) (N : Nat) (fl : Bool) (c : Cx) (n : Nat) (w : World) (rs : List Rec) (rsV : List RcV) : Prop where
  stable : fl = true → ∀ r ∈ rs, loadB r.o = true → ∀ w', Bl w w' → ∀ (ds : List Deferred) (K : Value → List Deferred → World → Prop), K r.v ds w' → opA P N r.o r.e ds w' K
  tie : ∀ r ∈ rs, loadB r.o = true → ∃ y ∈ rsV, y.i = r.i ∧ OpL P N r.o y.f ∧ r.v = y.v.den c ∧ y.v.lt n ∧ ∃ e0, EnvOK c n y.E e0 ∧ ∀ x ∈ r.o.op.operands, rdv N r.e x = rdv N e0 x
theorem obls_of {anc : Nat} {p : Prop} {ds : List Deferred} {w : World} : ∀ (rs : List Rec), p → (∀ r ∈ rs, loadB r.o = true → anc.testBit r.i = false → opA P N r.o r.e ds w (fun u _ _ => u = r.v)) → oblsA P N ds anc w p rs
  | [], hp, _ => hp
  | r :: rs, hp, h => by
    simp only [oblsA]
    have ih := obls_of rs hp fun r hr => h r (List.mem_cons_of_mem _ hr)
    cases hb : (loadB r.o && !(anc.testBit r.i)) with
    | false => exact ih
    | true =>
      simp only [Bool.and_eq_true, Bool.not_eq_true'] at hb
      exact ⟨h r List.mem_cons_self hb.1 hb.2, ih⟩
theorem oblV_ok {call : CallF} {anc : Nat} {H : Hs} : ∀ {rsV : List RcV}, oblV call anc H rsV = true → ∀ y ∈ rsV, anc.testBit y.i = false → ∃ H', y.f call y.E H = .ok y.v H'
  | r :: l, h, y, hy, ha => by
    simp only [oblV] at h
    split at h
    · rename_i ht
      rcases List.mem_cons.1 hy with rfl | hy
      · rw [ha] at ht; cases ht
      · exact oblV_ok h y hy ha
    · split at h <;> first | (cases h; done) | skip
      rename_i u H' hf
      simp only [Bool.and_eq_true] at h
      rcases List.mem_cons.1 hy with rfl | hy
      · have := V.beq_eq h.1
        rw [this] at hf
        exact ⟨H', hf⟩
      · exact oblV_ok h.2 y hy ha
theorem opR_of {rd : Option Nat} {o : Oper} {e : Env} {ds : List Deferred} {w : World} {K : Value → List Deferred → World → Prop} {X : List PanicEntry → World → Prop} (hd : ∀ k, o.op ≠ .defer k) (h : opX P N o e ds w K (match rd with | none => X | some _ => fun _ _ => False)) : opR P N rd o e ds w K X := by
  cases rd with
  | some l => exact opA_of hd h
  | none =>
    have h : opX P N o e ds w K X := h
    show opH P N o e ds w K X
    unfold opH
    split
    · exact h
    · exact h
    · rename_i h1 h2
      unfold opX at h
      split at h
      · rename_i k hk; exact absurd hk (h1 k)
      · rename_i x hx; exact absurd hx (h2 x)
      · rename_i k hk; exact absurd hk (hd k)
      · exact h
theorem opR_A {rd : Option Nat} {o : Oper} {e : Env} {ds : List Deferred} {w : World} {K : Value → List Deferred → World → Prop} {X : List PanicEntry → World → Prop} (ht : tameB o = true) (h : opA P N o e ds w K) : opR P N rd o e ds w K X := by
  refine opR_of (fun k hk => ?_) (opX_tame ht h)
  unfold tameB at ht
  rw [hk] at ht
  cases ht
theorem opX_congr {e e' : Env} {ds : List Deferred} {w : World} {o : Oper} {K : Value → List Deferred → World → Prop} {X : List PanicEntry → World → Prop} (hd : ∀ k, o.op ≠ .defer k) (h : ∀ x ∈ o.op.operands, rdv N e x = rdv N e' x) : opX P N o e ds w K X = opX P N o e' ds w K X := by
  have old := opA_congr (P := P) (N := N) (ds := ds) (w := w) (o := o) (K := K) h
  unfold opX
  split
  · rename_i c hc
    rw [hc] at h
    obtain ⟨callee, args, argTypes⟩ := c
    have ha : args.toList.map (rdv N e) = args.toList.map (rdv N e') := List.map_congr_left fun x hm => h x (by simp only [Op.operands, Call.operands]; exact Array.mem_append.2 (.inr (by simpa using hm)))
    cases callee with
    | value f => simp only; rw [ha, h f (by simp [Op.operands, Call.operands])]
    | invoke r m => simpa only using old
    | builtin b => simpa only using old
  · rename_i x hx
    rw [hx] at h
    rw [h x (by simp [Op.operands])]
  · rename_i k hk; exact absurd hk (hd k)
  · exact old
theorem lightE_congr {o : Oper} {e e' : Env} (h : ∀ x ∈ o.op.operands, rdv N e x = rdv N e' x) : lightE N o e = lightE N o e' := by
  obtain ⟨dst, op, type, pos, after, guard⟩ := o
  unfold lightE
  cases op <;> simp only [Op.operands] at h ⊢ <;> first | rfl | (simp_all; done) | skip
  case call k =>
    obtain ⟨callee, args, argTypes⟩ := k
    have ha : args.toList.map (rdv N e) = args.toList.map (rdv N e') := List.map_congr_left fun x hm => h x (by simp only [Call.operands]; exact Array.mem_append.2 (.inr (by simpa using hm)))
    cases callee <;> first | rfl | simp only [ha]
end
end Go.Proofs.YtgcicoebkjgfoaaGreatDoor.Rn

namespace Go.Proofs.YtgcicoebkjgfoaaGreatDoor.Rn
open Go Go.RowKit Go.Proofs.YtgcicoebkjgfoaaGreatDoor.Sh
set_option linter.unusedVariables false
set_option linter.unusedSimpArgs false
section
variable {P : Program} {N : Nat} (hP : PV P) (hN : N ≤ 1000000000)
/-- What is still to come. -/
def rem (rest wl : List Nat) : List Nat := rest.filter fun k => !(wl.elem k)
theorem mem_elem {wl : List Nat} {k : Nat} : wl.elem k = true ↔ k ∈ wl := ⟨List.mem_of_elem_eq_true, List.elem_eq_true_of_mem⟩
theorem rem_out {rest wl : List Nat} {k : Nat} (hk : k ∈ rest) (hw : k ∉ wl) : (rem rest (wl ++ [k])).length + 1 ≤ (rem rest wl).length := by
  have h1 : rem rest (wl ++ [k]) = (rem rest wl).filter fun j => !(Nat.beq j k) := by
    unfold rem
    rw [List.filter_filter]
    refine List.filter_congr fun j hj => ?_
    rw [Bool.eq_iff_iff]
    simp only [Bool.not_eq_true', Bool.and_eq_true]
    constructor
    · intro h
      refine ⟨?_, ?_⟩
      · cases hb : Nat.beq j k with
        | false => rfl
        | true =>
          have := Nat.eq_of_beq_eq_true hb
          subst this
          rw [mem_elem.2 (by simp)] at h
          cases h
      · cases hb : wl.elem j with
        | false => rfl
        | true =>
          have := mem_elem.1 hb
          rw [mem_elem.2 (by simp [this])] at h
          cases h
    · rintro ⟨h1, h2⟩
      cases hb : (wl ++ [k]).elem j with
      | false => rfl
      | true =>
        have := mem_elem.1 hb
        rcases List.mem_append.1 this with h | h
        · rw [mem_elem.2 h] at h2; cases h2
        · simp only [List.mem_singleton] at h
          subst h
          rw [Nat.beq_refl] at h1
          cases h1
  rw [h1]
  have h2 : k ∈ rem rest wl := by
    unfold rem
    rw [List.mem_filter]
    refine ⟨hk, ?_⟩
    cases hb : wl.elem k with
    | false => rfl
    | true => exact absurd (mem_elem.1 hb) hw
  exact Nat.succ_le_of_lt (List.length_filter_lt_length_iff_exists.2 ⟨k, h2, by rw [Nat.beq_refl]; simp⟩)
theorem rem_cons {i : Nat} {rest wl : List Nat} : (rem rest wl).length ≤ (rem (i :: rest) wl).length := by
  unfold rem
  rw [List.filter_cons]
  split
  · simp
  · exact Nat.le_refl _
/-- What has been walked, and what of that has its ancestors. -/
def Closed (L : List Oper) (wl : List Nat) : Prop := ∀ i o, i ∈ wl → L[i]? = some o → ∀ ed ∈ o.after.toList, bindsAny ed = true → ed.on ∈ wl
theorem closed_anc {L : List Oper} {wl : List Nat} (hc : Closed L wl) (hl : ∀ i ∈ wl, i < L.length) {k : Nat} {o : Oper} (ho : L[k]? = some o) (hd : ∀ ed ∈ o.after.toList, bindsAny ed = true → ed.on ∈ wl) {h : Nat} (ht : ((ancsGo [] L).getD k 0).testBit h = true) : h ∈ wl := by
  have := anc_closed (L := L) (S := fun j => wl.elem j) (fun i o hi ho ed he hb => mem_elem.2 (hc i o (mem_elem.1 hi) ho ed he hb)) (fun i hi => hl i (mem_elem.1 hi)) k o h ho (fun ed he hb => mem_elem.2 (hd ed he hb)) ht
  exact mem_elem.1 this
theorem ready_of {L : List Oper} {wl : List Nat} {k : Nat} (h : readyB L wl k = true) : k ∉ wl ∧ ∃ o, L[k]? = some o ∧ ∀ ed ∈ o.after.toList, bindsAny ed = true → ed.on ∈ wl := by
  refine ⟨readyN h, ?_⟩
  unfold readyB at h
  simp only [Bool.and_eq_true] at h
  cases ho : L[k]? with
  | none => rw [ho] at h; simp at h
  | some o =>
    rw [ho] at h
    refine ⟨o, rfl, fun ed he hb => ?_⟩
    have := List.all_eq_true.1 h.2 ed he
    rw [hb] at this
    exact mem_elem.1 (by simpa using this)
theorem ready_mk {L : List Oper} {wl : List Nat} {k : Nat} {o : Oper} (hk : k ∉ wl) (ho : L[k]? = some o) (hd : ∀ ed ∈ o.after.toList, bindsAny ed = true → ed.on ∈ wl) : readyB L wl k = true := by
  unfold readyB
  rw [ho]
  simp only [Bool.and_eq_true, Bool.not_eq_true']
  refine ⟨?_, ?_⟩
  · cases hb : wl.elem k with
    | false => rfl
    | true => exact absurd (mem_elem.1 hb) hk
  · rw [List.all_eq_true]
    intro ed he
    cases hb : bindsAny ed with
    | false => rfl
    | true => simp only [Bool.not_true, Bool.false_or]; exact mem_elem.2 (hd ed he hb)
theorem allIn_no {L : List Oper} {wl : List Nat} {k : Nat} (hk : k ∉ wl) (hl : k < L.length) : allIn L wl = false := by
  cases h : allIn L wl with
  | false => rfl
  | true => exact absurd (allIn_mem h hl) hk
theorem rrB_mk {L : List Oper} {an : List Nat} {j i : Nat} (h1 : j ≠ i) (h2 : (an.getD j 0).testBit i = false) (h3 : (an.getD i 0).testBit j = true ∨ ∃ x y, L[j]? = some x ∧ L[i]? = some y ∧ ((lightB P x = false ∧ x.guard = none) ∨ apartL L x y = true)) : rrB P L an j i = true := by
  unfold rrB
  simp only [Bool.and_eq_true, Bool.not_eq_true', Bool.or_eq_true]
  refine ⟨⟨?_, h2⟩, h3.imp id fun ⟨x, y, hx, hy, h⟩ => ?_⟩
  · exact Bool.eq_false_iff.2 fun e => h1 (Nat.eq_of_beq_eq_true e)
  · rw [hx, hy]
    simp only [Bool.or_eq_true, Bool.and_eq_true, Bool.not_eq_true', Option.isNone_iff_eq_none]
    exact h
/-- The block of one that was laid early is laid aside by what is spoken of. -/
theorem XOK.step {L : List Oper} {an : List Nat} {c c' : Cx} {w0 : Bs} {w w' : World} {H H' : Hs} {x : XR} (h : XOK P L an c w0 w H x) (hr : Rep c w0 w H) (k : Rep c' (Bs.at_ c H w) w' H') : XOK P L an c' w0 w' H' x := by
  have hlt : x.b < w.heap.size := by
    by_cases hb : x.b < w.heap.size
    · exact hb
    · have := h.cells
      rw [Array.getElem?_eq_none (Nat.le_of_not_lt hb)] at this
      cases this
  have hown : ¬ ownS c H x.b := fun ⟨b, o, h1, h2, h3, h4⟩ => h.free ⟨b, o, h1, h2, (O.own_foot h3).2 h4⟩
  refine ⟨h.fl, h.val, h.mklt, (k.bl.block x.b hlt hown).trans h.cells, h.arr, h.lt, h.ge, fun ⟨b, o, h1, h2, h3⟩ => ?_⟩
  rcases k.inn b o h1 h2 _ h3 with g | g | g
  · have g : w.heap.size ≤ x.b := g
    omega
  · exact hown g
  · exact h.free g.2
/-- The same, where only the world grew. -/
theorem XOK.world {L : List Oper} {an : List Nat} {c : Cx} {w0 : Bs} {w w' : World} {H : Hs} {x : XR} (h : XOK P L an c w0 w H x) (hb : Bl w w') : XOK P L an c w0 w' H x := by
  have hlt : x.b < w.heap.size := by
    by_cases hb : x.b < w.heap.size
    · exact hb
    · have := h.cells
      rw [Array.getElem?_eq_none (Nat.le_of_not_lt hb)] at this
      cases this
  exact ⟨h.fl, h.val, h.mklt, (hb.block _ hlt).trans h.cells, h.arr, h.lt, h.ge, h.free⟩
theorem XOK.ask {L : List Oper} {an : List Nat} {c : Cx} {w0 : Bs} {w : World} {H H' : Hs} {x : XR} (h : XOK P L an c w0 w H x) (hf : ∀ k, footS c H' k → footS c H k) : XOK P L an c w0 w H' x :=
  ⟨h.fl, h.val, h.mklt, h.cells, h.arr, h.lt, h.ge, fun q => h.free (hf _ q)⟩
theorem RecOK.agr {fl : Bool} {c c' : Cx} {n m : Nat} {w : World} {rs : List Rec} {rsV : List RcV} (h : RecOK P N fl c n w rs rsV) (ha : Agr n c c') (hm : n ≤ m) : RecOK P N fl c' m w rs rsV :=
  ⟨h.stable, fun r hr hl => by
    obtain ⟨y, h1, h2, h3, h4, h5, e0, h6, h7⟩ := h.tie r hr hl
    exact ⟨y, h1, h2, h3, h4.trans (V.agr ha _ h5).symm, V.lt_mono hm _ h5, e0, h6.agr ha hm, h7⟩⟩
end
end Go.Proofs.YtgcicoebkjgfoaaGreatDoor.Rn

namespace Go.Proofs.YtgcicoebkjgfoaaGreatDoor.Rn
open Go Go.RowKit Go.Proofs.YtgcicoebkjgfoaaGreatDoor.Sh
set_option linter.unusedVariables false
set_option linter.unusedSimpArgs false
section
variable {P : Program} {N : Nat} (hP : PV P) (hN : N ≤ 1000000000)
theorem pw_or {α : Type} {R : α → α → Prop} : ∀ {l : List α}, l.Pairwise R → ∀ {a b : α}, a ∈ l → b ∈ l → a ≠ b → R a b ∨ R b a
  | x :: l, h, a, b, ha, hb, hne => by
    rw [List.pairwise_cons] at h
    rcases List.mem_cons.1 ha with e | ha
    · rcases List.mem_cons.1 hb with e' | hb
      · exact absurd (e.trans e'.symm) hne
      · exact .inl (e ▸ h.1 b hb)
    · rcases List.mem_cons.1 hb with e' | hb
      · exact .inr (e' ▸ h.1 a ha)
      · exact pw_or h.2 ha hb hne
/-- A block that lies there is spoken of. -/
theorem Rep.adopt {c : Cx} {w0 : Bs} {w : World} {H : Hs} {b : Nat} {t : TypeId} {l : List V} {arr : Array Value} (h : Rep c w0 w H) (hz : H.next + 1 < 1000000000) (hl : V.ltL H.next l) (hn : l.length < 1000000000) (ha : arr.toList = V.denL c l) (hb : w.heap[b]? = some (.cells arr t (0, 0))) (hge : w0.w.heap.size ≤ b) (hf : ¬ footS c H b) :
    Rep (c.add H.next b 0) w0 w (H.new (packO t l)) := by
  obtain ⟨d, tr, hp, hg⟩ := packO_get (t := t) hn
  have hagr := c.add_agr H.next b 0
  rw [ltL_iff] at hl
  rw [hp]
  have hcell : ∀ j, j < l.length → (cellOf d tr j).lt H.next ∧ (V.denL c l)[j]? = some ((cellOf d tr j).den c) := fun j hj => by
    have := hg j hj
    exact ⟨hl _ (List.mem_of_getElem? this), by rw [denL_get, this]; rfl⟩
  have hsz : arr.size = l.length := by
    have := congrArg List.length ha
    rw [denL_len] at this
    simpa using this
  refine h.growG (o := .cells l.length t d tr) hagr (Bl.refl w) rfl hz rfl rfl (fun b o _ _ => ?_) (fun i hi => V.lt_mono (by omega) _ (hcell i hi).1) ⟨hn, arr, ?_, ⟨hsz, Cx.add_ω _ _ _ _⟩, fun i hi => ?_⟩ (fun k hk => ?_) fun k hk => ?_
  · cases o <;> exact Nat.le_refl _
  · rw [Cx.add_ρ]
    exact hb
  · have : arr[i]? = arr.toList[i]? := by simp
    rw [this, ha, (hcell i hi).2, V.agr hagr _ (hcell i hi).1]
  · have hk : k = (c.add H.next b 0).ρ H.next := hk
    rw [Cx.add_ρ] at hk
    subst hk
    exact .inr fun u ou hu hou hfo => absurd ⟨u, ou, hu, hou, hfo⟩ hf
  · have hk : k = (c.add H.next b 0).ρ H.next := hk
    rw [Cx.add_ρ] at hk
    subst hk
    exact .inl hge
theorem footS_new {c c' : Cx} {H : Hs} {o : O} {k : Nat} (hsz : H.next < 1000000000) (ha : Agr H.next c c') (h : footS c' (H.new o) k) : o.foot c' H.next k ∨ footS c H k := by
  obtain ⟨b, o', h1, h2, h3⟩ := h
  have h1 : b < H.next + 1 := h1
  have h2 : (H.tr.put H.next o).get b = some o' := h2
  rw [Tr.get_put _ _ hsz (by omega)] at h2
  split at h2
  · rename_i hb
    simp only [Option.some.injEq] at h2
    subst h2
    subst hb
    exact .inl h3
  · have hb : b < H.next := by omega
    exact .inr ⟨b, o', hb, h2, (O.foot_agr ha hb).1 h3⟩
def ancF (fl : Bool) (a : Nat) : Nat := match fl with
  | true => 0
  | false => a
theorem ancF_true {a : Nat} : ancF true a = 0 := rfl
theorem ancF_bit {fl : Bool} {a k : Nat} (h : a.testBit k = false) : (ancF fl a).testBit k = false := by
  cases fl
  · exact h
  · exact Nat.zero_testBit k
theorem opG_eq {fl : Bool} {L : List Oper} {an : List Nat} {k i : Nat} {o : Oper} : ∀ q : OpW, opG P N fl L an k i o q = (match Nat.beq k 0 with
    | true => .light i (loadB o) (gdOf L o) (ltV N o) q.f o.dst
    | false => match Nat.beq k 1 with
      | true => .heavy (ancF fl (an.getD i 0)) (gdOf L o) q.f o.dst
      | false => match layV P o with
        | some (t, l, mk) => .float t l mk o.dst
        | none => .bad)
  | .mk f => rfl
theorem tame_lay {o : Oper} (h : layV P o ≠ none) : tameB o = true := by
  unfold layV at h
  unfold tameB
  split at h
  · rename_i t ho; rw [ho]
  · rename_i t len parts ho; rw [ho]
  · exact absurd rfl h
theorem zero_bit (k : Nat) : (0 : Nat).testBit k = false := Nat.zero_testBit k
theorem ask_cases {c : Cx} {w0 : Bs} {w : World} {H : Hs} {E : Tr V} {e : Env} {ds : List Df} {L : List Oper} {o : Oper} {yes no : KV} {R : Cr} (hN : N ≤ 1000000000) (hr : Rep c w0 w H) (he : EnvOK c H.next E e) (hR : R ≠ .no) (h : askG N (gdOf L o) yes no E ds H = R) {A B : Prop}
    (hyes : ∀ E' H', Rep c w0 w H' → H'.next = H.next → EnvOK c H.next E' e → yes E' ds H' = R → A) (hno : ∀ E' H', Rep c w0 w H' → H'.next = H.next → EnvOK c H.next E' e → no E' ds H' = R → B) : (wantE L N o e = true ∧ A) ∨ (wantE L N o e = false ∧ B) :=
  guard_cases (A := fun _ => A) (B := fun _ => B) (askG_ok hN hr he hR h (A := fun _ => A) (B := fun _ => B) hyes hno)
theorem natsTo_lt : ∀ (m k i : Nat), i ∈ natsTo m k → i < k + m := by
  intro m
  induction m with
  | zero => intro k i h; cases h
  | succ m ih =>
    intro k i h
    rcases List.mem_cons.1 h with rfl | h
    · omega
    · have := ih _ _ h; omega
include hP hN
theorem drawG_walk {call : CallF} (hc : CallOK P call) {L : List Oper} {cl ord : List Nat} {fl rd : Bool} {rdn : Option Nat} {c0 : Cx} {n0 : Nat} {w0 : Bs} {ds' : List Deferred} {x : Ex} {E1 : Tr V} {ds1 : List Df} {H1 : Hs}
    (hcl : cl = clsL P fl L (ancsGo [] L) L 0) (hK : ChkOK L (ancsGo [] L) cl ord) (hrd : rdn.isSome = rd) :
    ∀ (n : Nat) (rest pre wl : List Nat) (xs : List XR) (c : Cx) (w : World) (H : Hs) (E : Tr V) (e0 : Env) (ds : List Df) (rs : List Rec) (rsV : List RcV),
      ord = pre ++ rest → (∀ j, j ∈ wl ↔ j ∈ pre ∨ j ∈ xs.map (·.i)) → (∀ y ∈ xs, y.i ∈ rest ∧ cl.getD y.i 1 = 2) → Closed L wl → (rem rest wl).length ≤ n → xs.Pairwise (fun a b => a.d ≠ b.d) → xs.Pairwise (fun a b => a.i ≠ b.i ∧ a.b ≠ b.b) →
      Agr n0 c0 c → n0 ≤ H.next → Rep c w0 w H → EnvOK c H.next E e0 → DsOK c H.next ds ds' → (∀ y ∈ xs, XOK P L (ancsGo [] L) c w0 w H y) → RecOK P N fl c H.next w rs rsV →
      drawG call N rd (pickG P N fl L (ancsGo [] L) cl rest) rsV E ds H = .mk x E1 ds1 H1 →
      walkD P N rdn L (ancsGo [] L) ds' (fun e w => PostE c0 n0 w0 x E1 ds1 H1 .normal e ds' w) (fun ch w => ∀ e, PostE c0 n0 w0 x E1 ds1 H1 (.panic ch) e ds' w) n wl rs (putX xs e0) w := by
  intro n
  induction n using Nat.strongRecOn with
  | _ n ihn =>
  intro rest
  induction rest with
  | nil =>
    intro pre wl xs c w H E e0 ds rs rsV hord hwl hxs hclo hrem hpd hpi hagr hn0 hr he hds hX hrec h
    have hxs0 : xs = [] := by
      cases xs with
      | nil => rfl
      | cons y ys => exact absurd (hxs y List.mem_cons_self).1 (by simp)
    subst hxs0
    have hall : allIn L wl = true := by
      unfold allIn
      rw [List.all_eq_true]
      intro j hj
      have hjl : j < L.length := by
        have := natsTo_lt _ _ _ hj
        simpa using this
      have := hK.cover j hjl
      rw [hord, List.append_nil] at this
      exact mem_elem.2 ((hwl j).2 (.inl this))
    have h : Cr.mk .normal E ds H = .mk x E1 ds1 H1 := h
    have hk : PostE c0 n0 w0 .normal E ds H .normal e0 ds' w := ⟨c, hagr, hn0, hr, he, hds, trivial⟩
    simp only [Cr.mk.injEq] at h
    obtain ⟨rfl, rfl, rfl, rfl⟩ := h
    cases n with
    | zero => exact ⟨hall, hk⟩
    | succ n => exact .inl ⟨hall, hk⟩
  | cons i r' ihr =>
    intro pre wl xs c w H E e0 ds rs rsV hord hwl hxs hclo hrem hpd hpi hagr hn0 hr he hds hX hrec h
    have hP' := hK.pairs
    rw [hord] at hP'
    rw [List.pairwise_append, List.pairwise_cons] at hP'
    obtain ⟨hp1, ⟨hp2, hp3⟩, hp4⟩ := hP'
    have hin : ∀ j ∈ i :: r', j < L.length := fun j hj => hK.lt j (by rw [hord]; exact List.mem_append.2 (.inr hj))
    obtain ⟨o, ho⟩ : ∃ o, L[i]? = some o := ⟨L[i]'(hin i List.mem_cons_self), List.getElem?_eq_getElem _⟩
    have h0 := h
    have h : drawG call N rd ((match L[i]? with
      | some o => (match dOK o.dst && !(isDefer o.op) with | true => opG P N fl L (ancsGo [] L) (cl.getD i 1) i o (decO P N o) | false => .bad)
      | none => .bad) :: pickG P N fl L (ancsGo [] L) cl r') rsV E ds H = .mk x E1 ds1 H1 := h
    rw [ho] at h
    simp only at h
    cases hdd : (dOK o.dst && !(isDefer o.op)) with
    | false => rw [hdd] at h; cases h
    | true =>
    rw [hdd] at h
    simp only at h
    rw [Bool.and_eq_true, Bool.not_eq_true'] at hdd
    obtain ⟨hdst, hdef⟩ := hdd
    have hdst := dOK_ok hdst
    have hnd : ∀ k, o.op ≠ .defer k := fun k hk => by rw [hk] at hdef; cases hdef
    rw [opG_eq] at h
    have hmemw : ∀ {m j : Nat}, j ∈ wl ++ [m] ↔ j ∈ wl ∨ j = m := fun {m j} => by simp
    by_cases hiw : i ∈ wl
    · -- laid early
      obtain ⟨y, hy, hyi⟩ : ∃ y ∈ xs, y.i = i := by
        rcases (hwl i).1 hiw with g | g
        · exact absurd rfl (pairW_ok (hp4 i g i List.mem_cons_self)).1
        · obtain ⟨y, hy, rfl⟩ := List.mem_map.1 g
          exact ⟨y, hy, rfl⟩
      have hcl2 : cl.getD i 1 = 2 := hyi ▸ (hxs y hy).2
      obtain ⟨A, B, hAB, hput⟩ := putX_out (e := e0) hy hpd
      have hXy := hX y hy
      obtain ⟨oy, hfl⟩ := hXy.fl
      rw [hyi] at hfl
      have : oy = o := by have := hfl.op; rw [ho] at this; exact (Option.some.inj this).symm
      subst this
      rw [hcl2] at h
      simp only [hfl.lay, show Nat.beq 2 0 = false from rfl, show Nat.beq 2 1 = false from rfl] at h
      have h : floatG y.t y.l y.mkv oy.dst (drawG call N rd (pickG P N fl L (ancsGo [] L) cl r')) rsV E ds H = .mk x E1 ds1 H1 := h
      unfold floatG at h
      split at h <;> first | (cases h; done) | skip
      rename_i hroom
      have hz : H.next + 1 < 1000000000 := by
        unfold roomB at hroom
        rw [Nat.ble_eq] at hroom
        omega
      have hc' := c.add_agr H.next y.b 0
      have hr' := hr.adopt (b := y.b) (t := y.t) (l := y.l) (arr := y.arr) hz (hXy.lt.1 _) hXy.lt.2 (hXy.arr c) hXy.cells hXy.ge hXy.free
      have hval := hXy.val (c.add H.next y.b 0) H.next (c.add_ρ _ _ _) (c.add_ω _ _ _)
      have hdy : y.d < 1000000000 := hdst _ hfl.dst
      rw [hput]
      have hsub : ∀ z, z ∈ A ++ B → z ∈ xs := fun z hz => by
        rw [hAB]
        rcases List.mem_append.1 hz with g | g
        · exact List.mem_append.2 (.inl g)
        · exact List.mem_append.2 (.inr (List.mem_cons_of_mem _ g))
      have hsl : (A ++ B).Sublist xs := by
        rw [hAB]
        exact List.Sublist.append (List.Sublist.refl _) (List.sublist_cons_self _ _)
      have hney : ∀ z, z ∈ A ++ B → z.i ≠ y.i ∧ z.b ≠ y.b := fun z hz => by
        have hpi' := hpi
        rw [hAB, List.pairwise_append, List.pairwise_cons] at hpi'
        obtain ⟨q1, ⟨q2, q3⟩, q4⟩ := hpi'
        rcases List.mem_append.1 hz with g | g
        · exact q4 z g y List.mem_cons_self
        · have := q2 z g
          exact ⟨fun e => this.1 e.symm, fun e => this.2 e.symm⟩
      rw [hfl.dst] at h
      refine ihr (pre ++ [i]) wl (A ++ B) _ w _ _ _ ds rs rsV (by rw [hord]; simp) (fun j => ?_) (fun z hz => ?_) hclo (Nat.le_trans rem_cons hrem) (hpd.sublist hsl) (hpi.sublist hsl) (hagr.trans hc' hn0) (Nat.le_succ_of_le hn0) hr' ?_ (hds.agr hc' (Nat.le_succ _)) (fun z hz => ?_) (hrec.agr hc' (Nat.le_succ _)) h
      · rw [hwl j, hAB]
        simp only [List.map_append, List.map_cons, List.mem_append, List.mem_cons, List.not_mem_nil, or_false, hyi]
        constructor
        · rintro (g | g | g | g)
          · exact .inl (.inl g)
          · exact .inr (.inl g)
          · exact .inl (.inr g)
          · exact .inr (.inr g)
        · rintro ((g | g) | g | g)
          · exact .inl g
          · exact .inr (.inr (.inl g))
          · exact .inr (.inl g)
          · exact .inr (.inr (.inr g))
      · obtain ⟨g1, g2⟩ := hxs z (hsub z hz)
        refine ⟨?_, g2⟩
        rcases List.mem_cons.1 g1 with g | g
        · exact absurd (g.trans hyi.symm) (hney z hz).1
        · exact g
      · have := (he.agr hc' (Nat.le_succ H.next)).put (d := y.d) (v := y.mkv H.next) hdy (hXy.mklt _ _ (Nat.lt_succ_self _))
        rw [hval] at this
        exact this
      · have hz' := hX z (hsub z hz)
        refine ⟨hz'.fl, hz'.val, hz'.mklt, hz'.cells, hz'.arr, hz'.lt, hz'.ge, fun hf => ?_⟩
        rcases footS_new (by omega) hc' hf with g | g
        · obtain ⟨d, tr, hp, _⟩ := packO_get (t := y.t) hXy.lt.2
          rw [hp] at g
          have g : z.b = (c.add H.next y.b 0).ρ H.next := g
          rw [c.add_ρ] at g
          exact (hney z hz).2 g
        · exact hz'.free g
    · -- now
      have hn1 : 0 < n := by
        have := rem_out (rest := i :: r') List.mem_cons_self hiw
        omega
      obtain ⟨m, rfl⟩ : ∃ m, n = m + 1 := ⟨n - 1, by omega⟩
      have hprew : ∀ j, j ∈ pre → j ∈ wl := fun j hj => (hwl j).2 (.inl hj)
      have hpi_ : ∀ y ∈ xs, y.i ∈ r' := fun y hy => by
        rcases List.mem_cons.1 (hxs y hy).1 with g | g
        · exact absurd ((hwl i).2 (.inr (List.mem_map.2 ⟨y, hy, g⟩))) hiw
        · exact g
      have hap : ∀ y ∈ xs, y.d ∉ looksL L o ∧ o.dst ≠ some y.d := fun y hy => by
        obtain ⟨oy, hfl⟩ := (hX y hy).fl
        obtain ⟨_, _, g⟩ := pairW_ok (hp2 _ (hpi_ y hy))
        rw [hfl.anc] at g
        rcases g with g | ⟨_, x1, y1, hx1, hy1, g⟩
        · rw [zero_bit] at g; cases g
        · rw [ho] at hx1
          cases hx1
          rw [hfl.op] at hy1
          cases hy1
          obtain ⟨a1, a2, a3⟩ := apart_spec g
          exact ⟨a3 _ hfl.dst, fun e => a2 _ e hfl.dst⟩
      have hlook : ∀ t ∈ looksL L o, putX xs e0 t = e0 t := fun t ht => putX_get fun y hy e => (hap y hy).1 (e ▸ ht)
      have hops : ∀ q ∈ o.op.operands, rdv N (putX xs e0) q = rdv N e0 q := fun q hq => rdv_of_slot fun t ht => hlook t (look_operand hq ht)
      have hwant : wantE L N o (putX xs e0) = wantE L N o e0 := want_of_slots hlook
      have hputd : ∀ v, put (putX xs e0) o.dst v = putX xs (put e0 o.dst v) := fun v => putX_put fun y hy => (hap y hy).2
      have hfloat : ∀ k, k ∈ i :: r' → cl.getD k 1 = 2 → fl = true ∧ ∃ ok t l mk d, FlOK P L (ancsGo [] L) k ok t l mk d := fun k hk h2 => by
        have hk' : L[k]? = some (L[k]'(hin k hk)) := List.getElem?_eq_getElem _
        rw [hcl] at h2
        obtain ⟨g1, t, l, mk, d, g2⟩ := float_of hk' h2
        exact ⟨g1, _, t, l, mk, d, g2⟩
      have hrr : ∀ k, k ∈ i :: r' → k ∉ wl → (wl.all fun j => rrB P L (ancsGo [] L) j k) = true := fun k hk hkw => by
        rw [List.all_eq_true]
        intro j hj
        rcases (hwl j).1 hj with g | g
        · obtain ⟨g1, g2, g3⟩ := pairW_ok (hp4 j g k hk)
          exact rrB_mk g1 g2 (g3.imp id fun ⟨_, x1, y1, hx1, hy1, q⟩ => ⟨x1, y1, hx1, hy1, .inr q⟩)
        · obtain ⟨y, hy, rfl⟩ := List.mem_map.1 g
          obtain ⟨oy, hfl⟩ := (hX y hy).fl
          refine rrB_mk (fun e => hkw (e ▸ hj)) (by rw [hfl.anc]; exact zero_bit _) (.inr ⟨oy, L[k]'(hin k hk), hfl.op, List.getElem?_eq_getElem _, .inl ⟨hfl.heavy, hfl.guard⟩⟩)
      have hwli : ∀ j, j ∈ wl ++ [i] ↔ j ∈ pre ++ [i] ∨ j ∈ xs.map (·.i) := fun j => by
        rw [hmemw, hwl j]
        simp only [List.mem_append, List.mem_singleton]
        constructor
        · rintro ((g | g) | g)
          · exact .inl (.inl g)
          · exact .inr g
          · exact .inl (.inr g)
        · rintro ((g | g) | g)
          · exact .inl (.inl g)
          · exact .inr g
          · exact .inl (.inr g)
      have hremi : (rem r' (wl ++ [i])).length ≤ m := by
        have h1 := rem_out (rest := i :: r') List.mem_cons_self hiw
        have h2 := rem_cons (i := i) (rest := r') (wl := wl ++ [i])
        omega
      have hordi : ord = (pre ++ [i]) ++ r' := by rw [hord]; simp
      have hclok : ∀ k ok, L[k]? = some ok → (∀ ed ∈ ok.after.toList, bindsAny ed = true → ed.on ∈ wl) → Closed L (wl ++ [k]) := fun k ok hok hed j oj hj hoj ed hed' hb => by
        rcases hmemw.1 hj with g | g
        · exact hmemw.2 (.inl (hclo j oj g hoj ed hed' hb))
        · subst g
          rw [hok] at hoj
          cases hoj
          exact hmemw.2 (.inl (hed ed hed' hb))
      have hxs' : ∀ y ∈ xs, y.i ∈ r' ∧ cl.getD y.i 1 = 2 := fun y hy => ⟨hpi_ y hy, (hxs y hy).2⟩
      have hskip : ∀ (E' : Tr V) (H' : Hs), (∀ ed ∈ o.after.toList, bindsAny ed = true → ed.on ∈ wl) → Rep c (Bs.at_ c H w) w H' → H'.next = H.next → EnvOK c H.next E' e0 → skV o.dst (drawG call N rd (pickG P N fl L (ancsGo [] L) cl r') rsV) E' ds H' = .mk x E1 ds1 H1 →
          walkD P N rdn L (ancsGo [] L) ds' (fun e w => PostE c0 n0 w0 x E1 ds1 H1 .normal e ds' w) (fun ch w => ∀ e, PostE c0 n0 w0 x E1 ds1 H1 (.panic ch) e ds' w) m (wl ++ [i]) rs (put (putX xs e0) o.dst undef) w := fun E' H' hed r1 r2 r3 hs => by
        rw [hputd]
        unfold skV at hs
        refine ihn m (Nat.lt_succ_self _) r' (pre ++ [i]) (wl ++ [i]) xs c w H' _ _ ds rs rsV hordi hwli hxs' (hclok i o ho hed) hremi hpd hpi hagr (by rw [r2]; exact hn0) (hr.back r1) ?_ (by rw [r2]; exact hds) (fun y hy => (hX y hy).step hr r1) (by rw [r2]; exact hrec) hs
        rw [r2, ← und_den c]
        exact r3.setD hdst trivial
      cases hlt : lightB P o with
      | true =>
        have hcl0 : cl.getD i 1 = 0 := by rw [hcl]; exact (light_of ho).2 hlt
        have hed : ∀ ed ∈ o.after.toList, bindsAny ed = true → ed.on ∈ wl := fun ed hed hb => by
          have hlt' := edges_of _ hK.edges i (hin i List.mem_cons_self) o ho ed hed hb
          have hbit := anc_edge ho hed hb
          have := hK.cover ed.on (Nat.lt_trans hlt' (hin i List.mem_cons_self))
          rw [hord] at this
          rcases List.mem_append.1 this with g | g
          · exact hprew _ g
          · rcases List.mem_cons.1 g with g | g
            · omega
            · have := (pairW_ok (hp2 _ g)).2.1
              rw [hbit] at this
              cases this
        have hrdy : readyB L wl i = true := ready_mk hiw ho hed
        refine .inr (.inl ⟨i, o, ho, hrdy, hlt, hrr i List.mem_cons_self hiw, ?_⟩)
        rw [hcl0] at h
        simp only [show Nat.beq 0 0 = true from rfl] at h
        have h : askG N (gdOf L o) (lightG call i (loadB o) (ltV N o) (decO P N o).f o.dst (drawG call N rd (pickG P N fl L (ancsGo [] L) cl r')) rsV) (skV o.dst (drawG call N rd (pickG P N fl L (ancsGo [] L) cl r') rsV)) E ds H = .mk x E1 ds1 H1 := h
        rw [hwant]
        refine ask_cases hN hr.rebase he (by simp) h (fun E' H' r1 r2 r3 hd => ?_) (fun E' H' r1 r2 r3 hs => hskip E' H' hed r1 r2 r3 hs)
        · unfold lightG at hd
          split at hd <;> first | (cases hd; done) | skip
          rename_i hlt1
          split at hd <;> first | (cases hd; done) | skip
          rename_i v H2 hf
          have hOL := decO_light hP hN o hlt
          have r3' : EnvOK c H'.next E' e0 := by rw [r2]; exact r3
          have hL1 := hOL call c _ w H' E' e0 r1 r3'
          rw [hf] at hL1
          obtain ⟨k1, k2, k3, k4⟩ := hL1
          refine ⟨by rw [lightE_congr hops]; exact ltV_ok hN r3 hlt1, ?_⟩
          rw [opA_congr hops]
          refine k4 ds' _ ?_
          rw [hputd]
          have hn2 : H2.next = H.next := k2.trans r2
          have hrec2 : ∀ rsV', (∀ y ∈ rsV, y ∈ rsV') → (loadB o = true → (⟨i, (decO P N o).f, E', v⟩ : RcV) ∈ rsV') → RecOK P N fl c H2.next w (rs ++ [⟨i, o, putX xs e0, v.den c⟩]) rsV' := fun rsV' hsub hnew => by
            rw [hn2]
            refine ⟨fun hfl r hr' hl w' hb ds'' K hKr => ?_, fun r hr' hl => ?_⟩
            · rcases List.mem_append.1 hr' with g | g
              · exact hrec.stable hfl r g hl w' hb ds'' K hKr
              · simp only [List.mem_singleton] at g
                subst g
                have hL2 := hOL call c _ w' H' E' e0 (r1.world hb) r3'
                rw [hf] at hL2
                simp only
                rw [opA_congr hops]
                exact hL2.2.2.2 ds'' K hKr
            · rcases List.mem_append.1 hr' with g | g
              · obtain ⟨y, q1, q2⟩ := hrec.tie r g hl
                exact ⟨y, hsub y q1, q2⟩
              · simp only [List.mem_singleton] at g
                subst g
                exact ⟨_, hnew hl, rfl, hOL, rfl, by rw [r2] at k3; exact k3, e0, r3, hops⟩
          have hgo : ∀ rsV', (∀ y ∈ rsV, y ∈ rsV') → (loadB o = true → (⟨i, (decO P N o).f, E', v⟩ : RcV) ∈ rsV') → drawG call N rd (pickG P N fl L (ancsGo [] L) cl r') rsV' (setD E' o.dst v) ds H2 = .mk x E1 ds1 H1 →
              walkD P N rdn L (ancsGo [] L) ds' (fun e w => PostE c0 n0 w0 x E1 ds1 H1 .normal e ds' w) (fun ch w => ∀ e, PostE c0 n0 w0 x E1 ds1 H1 (.panic ch) e ds' w) m (wl ++ [i]) (rs ++ [⟨i, o, putX xs e0, v.den c⟩]) (putX xs (put e0 o.dst (v.den c))) w := fun rsV' q1 q2 q3 =>
            ihn m (Nat.lt_succ_self _) r' (pre ++ [i]) (wl ++ [i]) xs c w H2 _ _ ds _ rsV' hordi hwli hxs' (hclok i o ho hed) hremi hpd hpi hagr (by rw [hn2]; exact hn0) (hr.back k1) (by rw [hn2]; exact r3.setD hdst (by rw [r2] at k3; exact k3)) (by rw [hn2]; exact hds) (fun y hy => (hX y hy).step hr k1) (hrec2 rsV' q1 q2) q3
          cases hlo : loadB o with
          | true =>
            rw [hlo] at hd
            exact hgo (⟨i, (decO P N o).f, E', v⟩ :: rsV) (fun y hy => List.mem_cons_of_mem _ hy) (fun _ => List.mem_cons_self) hd
          | false =>
            rw [hlo] at hd
            exact hgo rsV (fun y hy => hy) (fun q => by rw [hlo] at q; cases q) hd
      | false =>
        refine .inr (.inr ⟨allIn_no hiw (hin i List.mem_cons_self), fun k hk => ?_⟩)
        obtain ⟨hkw, ok, hok, hked⟩ := ready_of hk
        have hkl : k < L.length := (List.getElem?_eq_some_iff.1 hok).1
        have hkm : k ∈ i :: r' := by
          have := hK.cover k hkl
          rw [hord] at this
          rcases List.mem_append.1 this with g | g
          · exact absurd (hprew _ g) hkw
          · exact g
        refine ⟨ok, hok, hrr k hkm hkw, ?_⟩
        by_cases h2 : cl.getD k 1 = 2
        · -- it floats
          obtain ⟨hflt, ok', t, l, mk, d, hfl⟩ := hfloat k hkm h2
          have : ok' = ok := by have := hfl.op; rw [hok] at this; exact (Option.some.inj this).symm
          subst this
          refine .inl ⟨by simp [wantE, hfl.guard], ?_⟩
          obtain ⟨arr, a1, a2, a3, a4, val, a5, a6⟩ := lay_ok (N := N) hP hfl
          refine opR_A (tame_lay (by rw [hfl.lay]; simp)) (a6 _ _ _ _ ?_)
          have hb : Bl w (w.alloc (.cells arr t)) := (Bl.refl w).alloc _
          refine obls_of rs ?_ fun r hr' hl _ => hrec.stable hflt r hr' hl _ hb ds' (fun u _ _ => u = r.v) rfl
          rw [hfl.dst]
          have hbl : ∀ y ∈ xs, y.b < w.heap.size := fun y hy => by
            by_cases hb : y.b < w.heap.size
            · exact hb
            · have := (hX y hy).cells
              rw [Array.getElem?_eq_none (Nat.le_of_not_lt hb)] at this
              cases this
          refine ihn m (Nat.lt_succ_self _) (i :: r') pre (wl ++ [k]) (⟨k, d, w.heap.size, val w.heap.size, t, l, mk, arr⟩ :: xs) c (w.alloc (.cells arr t)) H E e0 ds rs rsV hord (fun j => ?_) (fun y hy => ?_) (hclok k ok' hok hked) ?_ (List.pairwise_cons.2 ⟨fun y hy => ?_, hpd⟩) (List.pairwise_cons.2 ⟨fun y hy => ⟨fun e => hkw ((hwl k).2 (.inr (List.mem_map.2 ⟨y, hy, Eq.symm e⟩))), fun e => ?_⟩, hpi⟩) hagr hn0 (hr.world hb) he hds (fun y hy => ?_) ⟨fun hf r hr' hl w' hb' => hrec.stable hf r hr' hl w' (hb.trans hb'), hrec.tie⟩ h0
          · rw [hmemw, hwl j]
            simp only [List.map_cons, List.mem_cons]
            constructor
            · rintro ((g | g) | g)
              · exact .inl g
              · exact .inr (.inr g)
              · exact .inr (.inl g)
            · rintro (g | g | g)
              · exact .inl (.inl g)
              · exact .inr g
              · exact .inl (.inr g)
          · rcases List.mem_cons.1 hy with g | g
            · subst g
              exact ⟨hkm, h2⟩
            · exact hxs y g
          · have := rem_out hkm hkw
            omega
          · obtain ⟨oy, hfy⟩ := (hX y hy).fl
            have hne : k ≠ y.i := fun e => hkw ((hwl k).2 (.inr (List.mem_map.2 ⟨y, hy, e.symm⟩)))
            have hap' : apartL L ok' oy = true ∨ apartL L oy ok' = true := by
              rcases pw_or (List.pairwise_cons.2 ⟨hp2, hp3⟩) hkm (hxs y hy).1 hne with g | g
              · obtain ⟨_, _, g3⟩ := pairW_ok g
                rw [hfy.anc, zero_bit] at g3
                rcases g3 with g3 | ⟨_, x1, y1, hx1, hy1, g3⟩
                · cases g3
                · rw [hok] at hx1; cases hx1
                  rw [hfy.op] at hy1; cases hy1
                  exact .inl g3
              · obtain ⟨_, _, g3⟩ := pairW_ok g
                rw [hfl.anc, zero_bit] at g3
                rcases g3 with g3 | ⟨_, x1, y1, hx1, hy1, g3⟩
                · cases g3
                · rw [hfy.op] at hx1; cases hx1
                  rw [hok] at hy1; cases hy1
                  exact .inr g3
            intro e
            rcases hap' with g | g
            · exact (apart_spec g).2.1 d hfl.dst (by rw [hfy.dst]; exact congrArg some (Eq.symm e))
            · exact (apart_spec g).2.1 d (by rw [hfy.dst]; exact congrArg some (Eq.symm e)) hfl.dst
          · have := hbl y hy
            have e : w.heap.size = y.b := e
            omega
          · rcases List.mem_cons.1 hy with g | g
            · subst g
              refine ⟨⟨ok', hfl⟩, fun c n h1 h2 => a5 c n _ h1 h2, a4, ?_, a1, ⟨a2, a3⟩, hr.bl.size, ?_⟩
              · exact Array.getElem?_push_size ..
              · rintro ⟨b, o', q1, q2, q3⟩
                have := (hr.at_ b o' q1 q2).foot_lt q3
                exact absurd this (Nat.lt_irrefl _)
            · exact (hX y g).world hb
        · have hki : k = i := by
            rcases List.mem_cons.1 hkm with g | g
            · exact g
            · exfalso
              obtain ⟨_, _, g3⟩ := pairW_ok (hp2 _ g)
              rcases g3 with g3 | ⟨g3, _⟩
              · refine hiw (closed_anc hclo (fun j hj => ?_) hok hked g3)
                rcases (hwl j).1 hj with q | q
                · exact hK.lt j (by rw [hord]; exact List.mem_append.2 (.inl q))
                · obtain ⟨y, hy, rfl⟩ := List.mem_map.1 q
                  exact hin _ (hxs y hy).1
              · rcases g3 with g3 | g3
                · rw [hcl] at g3
                  have := (light_of ho).1 g3
                  rw [hlt] at this
                  cases this
                · exact h2 g3
          subst hki
          have : ok = o := by rw [ho] at hok; exact (Option.some.inj hok).symm
          subst this
          have hcl1 : cl.getD k 1 = 1 := by
            have h2' := h2
            rw [hcl, cls_get L 0 k ok hok] at h2' ⊢
            rw [hlt] at h2' ⊢
            simp only at h2' ⊢
            split
            · rename_i hf; rw [hf] at h2'; exact absurd rfl h2'
            · rfl
          rw [hcl1] at h
          simp only [show Nat.beq 1 0 = false from rfl, show Nat.beq 1 1 = true from rfl] at h
          have h : askG N (gdOf L ok) (heavyG call rd (ancF fl ((ancsGo [] L).getD k 0)) (decO P N ok).f ok.dst (drawG call N rd (pickG P N fl L (ancsGo [] L) cl r')) rsV) (skV ok.dst (drawG call N rd (pickG P N fl L (ancsGo [] L) cl r') rsV)) E ds H = .mk x E1 ds1 H1 := h
          rw [hwant]
          refine ask_cases hN hr.rebase he (by simp) h (fun E' H' r1 r2 r3 hd => ?_) (fun E' H' r1 r2 r3 hs => hskip E' H' hked r1 r2 r3 hs)
          rw [opR_congr hops]
          refine opR_of hnd ?_
          have hop := decO_ok hP hN ok
          have r3' : EnvOK c H'.next E' e0 := by rw [r2]; exact r3
          unfold heavyG at hd
          split at hd
          · rename_i v H2 hf
            split at hd <;> first | (cases hd; done) | skip
            rename_i hob
            refine hop.ok call hc c _ w H' E' e0 r1 r3' v H2 hf ds' _ _ fun c' w' b1 b2 b3 b4 => ?_
            rw [r2] at b1 b2
            have hre : ∀ r ∈ rs, loadB r.o = true → (ancF fl ((ancsGo [] L).getD k 0)).testBit r.i = false → ∀ w'', Bl w' w'' → ∀ (ds : List Deferred) (K : Value → List Deferred → World → Prop), K r.v ds w'' → opA P N r.o r.e ds w'' K := fun r hr' hl hbit w'' hb ds K hKr => by
              obtain ⟨y, q1, q2, q3, q4, q5, e0', q6, q7⟩ := hrec.tie r hr' hl
              obtain ⟨H3, hf3⟩ := oblV_ok hob y q1 (by rw [q2]; exact hbit)
              have hL := q3 call c' _ w'' H2 y.E e0' (b3.world hb) (q6.agr b1 b2)
              rw [hf3] at hL
              rw [opA_congr q7]
              refine hL.2.2.2 ds K ?_
              rw [V.agr b1 _ q5, ← q4]
              exact hKr
            refine obls_of rs ?_ fun r hr' hl hbit => hre r hr' hl (ancF_bit hbit) w' (Bl.refl _) _ _ rfl
            rw [hputd]
            refine ihn m (Nat.lt_succ_self _) r' (pre ++ [k]) (wl ++ [k]) xs c' w' H2 _ _ ds rs rsV hordi hwli hxs' (hclok k ok hok hked) hremi hpd hpi (hagr.trans b1 hn0) (Nat.le_trans hn0 b2) (hr.back b3) ?_ (hds.agr b1 b2) (fun y hy => (hX y hy).step hr b3) ⟨fun hflt r hr' hl w'' hb ds K hKr => hre r hr' hl (by rw [hflt, ancF_true]; exact zero_bit _) w'' hb ds K hKr, (hrec.agr b1 b2).tie⟩ hd
            exact (r3.agr b1 b2).setD hdst b4
          · rename_i v H2 hf
            cases rd with
            | true => cases hd
            | false =>
              have hd : Cr.mk (.panu v) E' ds H2 = .mk x E1 ds1 H1 := hd
              simp only [Cr.mk.injEq] at hd
              obtain ⟨rfl, rfl, rfl, rfl⟩ := hd
              cases rdn with
              | some l => cases hrd
              | none =>
                refine hop.pan call hc c _ w H' E' e0 r1 r3' v H2 hf ds' _ _ fun c' w' b1 b2 b3 b4 => ?_
                rw [r2] at b1 b2
                exact fun e => ⟨c', hagr.trans b1 hn0, Nat.le_trans hn0 b2, hr.back b3, trivial, hds.agr b1 b2, b4, rfl⟩
          · cases hd
end
end Go.Proofs.YtgcicoebkjgfoaaGreatDoor.Rn

namespace Go.Proofs.YtgcicoebkjgfoaaGreatDoor.Rn
open Go Go.RowKit Go.Proofs.YtgcicoebkjgfoaaGreatDoor.Sh
set_option linter.unusedVariables false
set_option linter.unusedSimpArgs false
/-- Where a frame stands. -/
def StE (N : Nat) (c0 : Cx) (n0 : Nat) (w0 : Bs) (E : Tr V) (ds : List Df) (H : Hs) (a : Act) (w : World) : Prop :=
  ∃ c e ds', Agr n0 c0 c ∧ n0 ≤ H.next ∧ Rep c w0 w H ∧ EnvOK c H.next E e ∧ DsOK c H.next ds ds' ∧ Rel N e ds' a
theorem StE.post {N : Nat} {c0 : Cx} {n0 : Nat} {w0 : Bs} {E : Tr V} {ds : List Df} {H : Hs} {a : Act} {w : World} (h : StE N c0 n0 w0 E ds H a w) {x : Ex} {ex : Exit} (hx : ∀ v, x ≠ .panu v) (ho : ∀ c n, ExOK c n x ex) : lift N (PostE c0 n0 w0 x E ds H) ex a w := by
  obtain ⟨c, e, ds', h1, h2, h3, h4, h5, h6⟩ := h
  refine ⟨e, ds', h6, c, h1, h2, h3, ?_, h5, ho _ _⟩
  cases x <;> first | exact h4 | exact absurd rfl (hx _)
/-- Where a statement leads, that ends so: what is so of the exit; the frame. -/
theorem post_st {N : Nat} {c0 : Cx} {n0 : Nat} {w0 : Bs} {x : Ex} {E : Tr V} {ds : List Df} {H : Hs} {ex : Exit} {a : Act} {w : World} (h : lift N (PostE c0 n0 w0 x E ds H) ex a w) (hx : ∀ v, x ≠ .panu v) : (∃ c, ExOK c H.next x ex) ∧ StE N c0 n0 w0 E ds H a w := by
  obtain ⟨e, ds', h6, c, h1, h2, h3, h4, h5, h7⟩ := h
  refine ⟨⟨c, h7⟩, c, e, ds', h1, h2, h3, ?_, h5, h6⟩
  cases x <;> first | exact h4 | exact absurd rfl (hx _)
theorem exok_normal {c : Cx} {n : Nat} {ex : Exit} (h : ExOK c n .normal ex) : ex = .normal := by cases ex <;> first | rfl | exact h.elim
theorem exok_not {c : Cx} {n : Nat} {x : Ex} (h : ExOK c n x .normal) : x = .normal := by cases x <;> first | rfl | exact h.elim
theorem exok_exit {c : Cx} {n i : Nat} {ex : Exit} (h : ExOK c n (.exit i) ex) : ex = .exit i := by
  cases ex <;> first | exact h.elim | (rename_i j; have h : i = j := h; rw [h])
theorem exok_goto {c : Cx} {n i : Nat} {ex : Exit} (h : ExOK c n (.goto i) ex) : ex = .goto i := by
  cases ex <;> first | exact h.elim | (rename_i j; have h : i = j := h; rw [h])
theorem exok_ret {c : Cx} {n : Nat} {ex : Exit} (h : ExOK c n .ret ex) : ex = .ret := by cases ex <;> first | rfl | exact h.elim
/-- A record of a range over a function. -/
def Cx.addL (c : Cx) (n r : Nat) (L : Loop) : Cx := { c.add n r 0 with lp := fun b => if b = n then L else c.lp b }
theorem Cx.addL_agr (c : Cx) (n r : Nat) (L : Loop) : Agr n c (c.addL n r L) :=
  ⟨(c.add_agr n r 0).ρ, (c.add_agr n r 0).ω, (c.add_agr n r 0).κ, rfl, rfl, rfl, fun _ _ => rfl, fun _ _ => rfl, fun b hb => by simp only [Cx.addL]; rw [if_neg (by omega)]⟩
theorem Cx.addL_ρ (c : Cx) (n r : Nat) (L : Loop) : (c.addL n r L).ρ n = r := c.add_ρ n r 0
theorem Cx.addL_lp (c : Cx) (n r : Nat) (L : Loop) : (c.addL n r L).lp n = L := by simp [Cx.addL]
theorem ext_put {w : World} {b : Nat} {o : Obj} : Ext (· = b) w (w.putObj b o) :=
  ⟨rfl, rfl, rfl, by simp [World.putObj], fun k hk hb => World.putObj_heap_other hb⟩
theorem heap_lt {w : World} {b : Nat} {o : Obj} (h : w.heap[b]? = some o) : b < w.heap.size := by
  by_cases hb : b < w.heap.size
  · exact hb
  · rw [Array.getElem?_eq_none (Nat.le_of_not_lt hb)] at h
    cases h
theorem Rep.newO {c c' : Cx} {w0 : Bs} {w : World} {H : Hs} {o : O} {ob : Obj} (h : Rep c w0 w H) (ha : Agr H.next c c') (hz : H.next + 1 < 1000000000) (hl : o.lt (H.next + 1)) (hf : o.fam = none) (hρ : c'.ρ H.next = w.heap.size) (hat : o.at_ c' (w.alloc ob) 0 H.next) (hft : ∀ k, o.foot c' H.next k → k = c'.ρ H.next) : Rep c' w0 (w.alloc ob) (H.new o) := by
  refine h.grow1 (o := o) ha ((Bl.refl w).alloc _) rfl hz rfl rfl (fun b o _ _ => by cases o <;> exact Nat.le_refl _) hl ?_ (fun k hk => by rw [hft k hk, hρ]; exact Nat.le_refl _) fun _ => by rw [hρ]; exact Nat.le_refl _
  have : (H.new o).valO H.next o = 0 := by cases o <;> first | rfl | cases hf
  rw [this]
  exact hat
theorem Rep.drop {c : Cx} {w0 : Bs} {w : World} {H : Hs} {b : Nat} {o : O} {ob : Obj} (h : Rep c w0 w H) (hb : b < H.next) (ho : H.get b = some o) (hw : o.own) (hf : o.fam = none) : Rep c w0 (w.putObj (c.ρ b) ob) (H.put b .gone) :=
  h.chg1 (o' := .gone) hb ho hw hf ext_put (.inr rfl) trivial trivial
section
variable {P : Program} {N : Nat} (hP : PV P) (hN : N ≤ 1000000000)
include hP hN
/-- A region that draws its order. -/
theorem drawn_ok {call : CallF} (hc : CallOK P call) {lf : Nat} {id : Nat} {ops : Array Oper} {rd : Option Nat} {n : Nat} {c0 : Cx} {n0 : Nat} {w0 : Bs} {x : Ex} {E1 : Tr V} {ds1 : List Df} {H1 : Hs} {E : Tr V} {ds : List Df} {H : Hs} {a : Act} {w : World}
    (hs : StE N c0 n0 w0 E ds H a w) (h : exC call N lf rd.isSome (decR P N ops.toList true) E ds H = .mk x E1 ds1 H1) : (Code.region id ops true).wpIn (FW rd) n P (lift N (PostE c0 n0 w0 x E1 ds1 H1)) a w := by
  unfold decR at h
  simp only at h
  cases hm : P.follows .mixedOrders with
  | false => rw [hm] at h; cases h
  | true =>
    rw [hm] at h
    simp only at h
    refine wpIn_region_any hm ?_
    obtain ⟨c, e, ds', h1, h2, h3, h4, h5, h6⟩ := hs
    have go : ∀ (fl : Bool) (ord : List Nat), chkW ops.toList (ancsGo [] ops.toList) (clsL P fl ops.toList (ancsGo [] ops.toList) ops.toList 0) ord = true →
        drawG call N rd.isSome (pickG P N fl ops.toList (ancsGo [] ops.toList) (clsL P fl ops.toList (ancsGo [] ops.toList) ops.toList 0) ord) [] E ds H = .mk x E1 ds1 H1 →
        wpAnyIn (FW rd) n P .any ops (lift N (PostE c0 n0 w0 x E1 ds1 H1)) ops.size (Array.replicate ops.size false) a { w with drawn := w.drawn + 1 } := fun fl ord hchk hd => by
      have hK := chkW_ok hchk
      have hw : Bl w { w with drawn := w.drawn + 1 } := (Bl.refl w).drew
      have hwalk := drawG_walk hP hN hc (rdn := rd) (c0 := c0) (n0 := n0) (w0 := w0) (ds' := ds') rfl hK rfl ord.length ord [] [] [] c { w with drawn := w.drawn + 1 } H E e ds [] [] (by simp) (by simp) (by simp) (fun i o hi => by simp at hi) (List.length_filter_le _ _) List.Pairwise.nil List.Pairwise.nil h1 h2 (h3.world hw) h4 h5 (by simp) ⟨by simp, by simp⟩ hd
      exact walk_sound hK.edges (fun e a w hr hk => ⟨e, ds', hr, hk⟩) (fun ch e a w hr hx => ⟨e, ds', hr, hx e⟩) h6 hwalk
    unfold flG tryG at h
    split at h
    · rename_i hc1
      exact go false _ hc1 h
    · split at h
      · rename_i hc1
        exact go true _ hc1 h
      · cases h
/-- A region in the text's order. -/
theorem plain_ok {call : CallF} (hc : CallOK P call) {id : Nat} {ops : Array Oper} {rd : Option Nat} {n : Nat} {c0 : Cx} {n0 : Nat} {w0 : Bs} {x : Ex} {E1 : Tr V} {ds1 : List Df} {H1 : Hs} {E : Tr V} {ds : List Df} {H : Hs} {a : Act} {w : World}
    (hs : StE N c0 n0 w0 E ds H a w) (h : opsV call N rd.isSome (decL P N ops.toList ops.toList) E ds H = .mk x E1 ds1 H1) : (Code.region id ops false).wpIn (FW rd) n P (lift N (PostE c0 n0 w0 x E1 ds1 H1)) a w := by
  obtain ⟨c, e, ds', h1, h2, h3, h4, h5, h6⟩ := hs
  have hg := opsV_ok hP hN hc ops.toList c w H E e ds ds' h1 h2 h3 h4 h5 h
  refine wpIn_region ?_
  rw [List.range_eq_range', ← Array.length_toList]
  cases rd with
  | none => exact opsX_sound (Q := lift N (PostE c0 n0 w0 x E1 ds1 H1)) (fun x e ds a w hr hx => ⟨e, ds, hr, hx⟩) ops.toList 0 e ds' w a (fun j _ => by simp) hg h6
  | some l => exact opsA_sound (Q := lift N (PostE c0 n0 w0 x E1 ds1 H1)) (fun a w hx => hx) ops.toList 0 e ds' w a (fun j _ => by simp) hg h6
theorem rng_ok {call : CallF} (hc : CallOK P call) {g : Operand} {ps : Array Tmp} {as_ body : Code} {rd : Option Nat} {n : Nat} {c0 : Cx} {n0 : Nat} {w0 : Bs} {x : Ex} {E1 : Tr V} {ds1 : List Df} {H1 : Hs} {E : Tr V} {ds : List Df} {H : Hs} {a : Act} {w : World}
    (hs : StE N c0 n0 w0 E ds H a w) (h : rngV call N rd.isSome (fun E => rdV N E g) ps.toList as_ body E ds H = .mk x E1 ds1 H1) : (Code.rangeFunc g ps as_ body).wpIn (FW rd) n P (lift N (PostE c0 n0 w0 x E1 ds1 H1)) a w := by
  unfold rngV at h
  split at h <;> first | (cases h; done) | skip
  rename_i gv hg
  split at h <;> first | (cases h; done) | skip
  rename_i v H3 hcall
  split at h <;> first | (cases h; done) | skip
  rename_i N' E' ps' as' body' pend hget
  split at h <;> first | (cases h; done) | skip
  rename_i xx hjump
  split at hg <;> first | (cases hg; done) | skip
  rename_i hrr
  rw [Bool.or_eq_false_iff, Bool.not_eq_false'] at hrr
  obtain ⟨hrd, hroom⟩ := hrr
  have hrd : rd = none := by cases rd <;> first | rfl | cases hrd
  subst hrd
  unfold roomB at hroom
  rw [Nat.ble_eq] at hroom
  unfold fnO at hg
  split at hg <;> first | (cases hg; done) | skip
  rename_i f first cap hgv
  cases hg
  obtain ⟨c, e, ds', h1, h2, h3, h4, h5, h6⟩ := hs
  obtain ⟨tm, df⟩ := a
  have hdf : df = ds' := h6.defers
  subst hdf
  obtain ⟨g1, g2⟩ := rdV_ok hN h4 hgv
  refine wpIn_rangeFunc fun fn _ => ?_
  -- the mark and the record
  have hr1 : Rep (c.add H.next w.heap.size 0) w0 (w.alloc (.deferred (some []))) (H.new .mark) :=
    h3.newO (c.add_agr _ _ _) (by omega) trivial rfl (c.add_ρ _ _ _) (by show (w.alloc _).heap[_]? = _; rw [c.add_ρ]; exact World.alloc_heap_new _ _) fun k hk => hk
  obtain ⟨L, hL⟩ : ∃ L : Loop, L = { state := .ready, pending := none, fn := fn, tmps := tm, params := ps, assign := as_, body := body, defers := w.heap.size } := ⟨_, rfl⟩
  obtain ⟨c1, hc1⟩ : ∃ c1, c1 = c.add H.next w.heap.size 0 := ⟨_, rfl⟩
  rw [← hc1] at hr1
  have ha1 : Agr H.next c c1 := hc1 ▸ c.add_agr _ _ _
  obtain ⟨c2, hc2⟩ : ∃ c2, c2 = c1.addL (H.next + 1) (w.heap.size + 1) L := ⟨_, rfl⟩
  have ha2 : Agr (H.next + 1) c1 c2 := hc2 ▸ c1.addL_agr _ _ _
  have ha12 : Agr H.next c c2 := ha1.trans ha2 (Nat.le_succ _)
  have hρ2 : c2.ρ (H.next + 1) = w.heap.size + 1 := hc2 ▸ c1.addL_ρ _ _ _
  have hlp2 : c2.lp (H.next + 1) = L := hc2 ▸ c1.addL_lp _ _ _
  have hρ1 : c2.ρ H.next = w.heap.size := by rw [ha2.ρ _ (Nat.lt_succ_self _), hc1, c.add_ρ]
  have hsz1 : (w.alloc (.deferred (some []))).heap.size = w.heap.size + 1 := World.size_alloc _ _
  have hr2 : Rep c2 w0 ((w.alloc (.deferred (some []))).alloc (loopObj L .ready none)) ((H.new .mark).new (.loop N E ps.toList as_ body (some none))) := by
    refine hr1.newO ha2 (by show H.next + 1 + 1 < _; omega) trivial rfl (by rw [hsz1]; exact hρ2) ⟨?_, hN, ?_, ?_, ?_, e, ?_, ?_⟩ fun k hk => hk
    · show ((w.alloc (.deferred (some []))).alloc (loopObj L .ready none)).heap[c2.ρ (H.next + 1)]? = some (loopObj (c2.lp (H.next + 1)) .ready none)
      rw [hρ2, hlp2, ← hsz1]
      exact World.alloc_heap_new _ _
    · show (c2.lp (H.next + 1)).params = _
      rw [hlp2, hL]
    · show (c2.lp (H.next + 1)).assign = _
      rw [hlp2, hL]
    · show (c2.lp (H.next + 1)).body = _
      rw [hlp2, hL]
    · exact h4.agr ha12 (Nat.le_succ _)
    · show Rel N e [] { tmps := (c2.lp (H.next + 1)).tmps, defers := [] }
      rw [hlp2, hL]
      exact rel_defers h6
  have hent := hc.fn c2 w0 _ _ f first cap (H.next + 1) hr2 (V.lt_mono (Nat.le_add_right _ 2) _ g2) (Nat.lt_succ_self _) v H3 hcall
    (fun u w3 => ∃ c3, Agr H.next c c3 ∧ c3.ρ H.next = w.heap.size ∧ c3.ρ (H.next + 1) = w.heap.size + 1 ∧ c3.lp (H.next + 1) = L ∧ H.next + 2 ≤ H3.next ∧ Rep c3 w0 w3 H3)
    (fun c3 w3 b1 b2 b3 b4 => ⟨c3, ha12.trans b1 (Nat.le_add_right _ 2), (b1.ρ H.next (by show H.next < H.next + 1 + 1; omega)).trans hρ1, (b1.ρ (H.next + 1) (Nat.lt_succ_self _)).trans hρ2, (b1.lp (H.next + 1) (Nat.lt_succ_self _)).trans hlp2, b2, b3⟩)
  simp only [V.den, V.denL, enterV, hρ2] at hent
  obtain ⟨f', args', w2, hinv, hcl⟩ := hent
  have hev : (Act.eval { tmps := tm, defers := df }) g = rdv N e g := congrFun (eval_eq h6) g
  have hLo : loopObj L .ready none = .loop { state := .ready, pending := none, fn := fn, tmps := tm, params := ps, assign := as_, body := body, defers := w.heap.size } := by rw [hL]; rfl
  rw [hLo] at hinv
  refine ⟨w.heap.size + 1, [{ target := .collected w.heap.size, args := #[] }], _, { target := .fn (.func f) (V.denL c2 cap).toArray, args := (V.denL c2 first).toArray ++ #[.func (.yield (w.heap.size + 1)) #[] #[]] }, _, f', args', w2, run_enterLoop_outer _ _ _ _ _, ?_, fun _ _ => trivial, hinv, fun hd => by simp [Fence.wide] at hd, fw_calls (Calls.mono hcl ?_)⟩
  · have : rdv N e g = .func (.func f) (V.denL c2 first).toArray (V.denL c2 cap).toArray := by
      rw [g1]
      simp only [V.den]
      rw [V.agrL ha12 first g2.1, V.agrL ha12 cap g2.2]
    simp only [resolve, hev, this]
    simp [go_sem, Act.eval]
  · rintro en w3 ⟨u, rfl, c3, k1, k2, k3, k4, k5, k6⟩
    have hlt : H.next + 1 < H3.next := by omega
    have hat := (k6.at_ _ _ hlt hget).1
    have hpost : ∀ w4 ex, w4 = w3.putObj (w.heap.size + 1) (loopObj L .exhausted pend) → (∀ c n, ExOK c n xx ex) → (∀ v, xx ≠ .panu v) → lift N (PostE c0 n0 w0 x E1 ds1 H1) ex { tmps := tm, defers := { target := .collected w.heap.size, args := #[] } :: df } w4 := fun w4 ex hw ho hnp => by
      subst hw
      have hst : StE N c0 n0 w0 E (.mark H.next :: ds) (H3.put (H.next + 1) .gone) { tmps := tm, defers := { target := .collected w.heap.size, args := #[] } :: df } (w3.putObj (w.heap.size + 1) (loopObj L .exhausted pend)) := by
        refine ⟨c3, e, { target := .collected w.heap.size, args := #[] } :: df, h1.trans k1 h2, by show n0 ≤ H3.next; omega, ?_, h4.agr k1 (by show H.next ≤ H3.next; omega), ⟨⟨by show H.next < H3.next; omega, by rw [k2]⟩, h5.agr k1 (by show H.next ≤ H3.next; omega)⟩, rel_defers h6⟩
        have := k6.drop (ob := loopObj L .exhausted pend) hlt hget trivial rfl
        rwa [k3] at this
      have := hst.post hnp ho
      simp only [Cr.mk.injEq] at h
      obtain ⟨rfl, rfl, rfl, rfl⟩ := h
      exact this
    have hrun : ∀ st, st ≠ .busy → w3.heap[w.heap.size + 1]? = some (loopObj L st pend) → (Instr.endLoop (w.heap.size + 1)).run P w3 = .ok pend (w3.putObj (w.heap.size + 1) (loopObj L .exhausted pend)) := fun st hst hl => run_endLoop hl hst
    have hend : (Instr.endLoop (w.heap.size + 1)).run P w3 = .ok pend (w3.putObj (w.heap.size + 1) (loopObj L .exhausted pend)) := by
      cases pend with
      | none =>
        have hat : w3.heap[c3.ρ (H.next + 1)]? = some (loopObj (c3.lp (H.next + 1)) .ready none) := hat
        rw [k3, k4] at hat
        exact hrun _ (by simp) hat
      | some j =>
        have hat : w3.heap[c3.ρ (H.next + 1)]? = some (loopObj (c3.lp (H.next + 1)) .done (some j)) := hat
        rw [k3, k4] at hat
        exact hrun _ (by simp) hat
    refine ⟨pend, _, hend, ?_⟩
    unfold jumpX at hjump
    split at hjump <;> first | (cases hjump; done) | skip
    · cases hjump
      exact hpost _ _ rfl (fun _ _ => trivial) (by simp)
    · cases hjump
      exact wpIn_ret (hpost _ _ rfl (fun _ _ => trivial) (by simp))
    · cases hjump
      exact wpIn_exit (hpost _ _ rfl (fun _ _ => rfl) (by simp))
    · cases hjump
      exact wpIn_goto (hpost _ _ rfl (fun _ _ => rfl) (by simp))
theorem code_ok {call : CallF} (hc : CallOK P call) {lf : Nat} {c0 : Cx} {n0 : Nat} {w0 : Bs} : ∀ (c : Code) (rd : Option Nat) (n : Nat) (x : Ex) (E1 : Tr V) (ds1 : List Df) (H1 : Hs) (E : Tr V) (ds : List Df) (H : Hs) (a : Act) (w : World),
    StE N c0 n0 w0 E ds H a w → codeV P call N lf rd.isSome c E ds H = .mk x E1 ds1 H1 → c.wpIn (FW rd) n P (lift N (PostE c0 n0 w0 x E1 ds1 H1)) a w := by
  intro c
  have simple : ∀ {x y : Ex} {E E1 : Tr V} {ds ds1 : List Df} {H H1 : Hs} {a : Act} {w : World} {ex : Exit}, StE N c0 n0 w0 E ds H a w → Cr.mk y E ds H = .mk x E1 ds1 H1 → (∀ v, y ≠ .panu v) → (∀ c n, ExOK c n y ex) → lift N (PostE c0 n0 w0 x E1 ds1 H1) ex a w := fun {x y E E1 ds ds1 H H1 a w ex} hs h hx ho => by
    have := hs.post hx ho
    simp only [Cr.mk.injEq] at h
    obtain ⟨rfl, rfl, rfl, rfl⟩ := h
    exact this
  -- where the first part ends
  have after : ∀ {x1 x : Ex} {E1 E2 : Tr V} {ds1 ds2 : List Df} {H1 H2 : Hs} {k : KV} {ex : Exit} {a : Act} {w : World} {R : Act → World → Prop}, lift N (PostE c0 n0 w0 x1 E1 ds1 H1) ex a w →
      (match x1 with | .normal => k E1 ds1 H1 | x => .mk x E1 ds1 H1) = .mk x E2 ds2 H2 → (StE N c0 n0 w0 E1 ds1 H1 a w → k E1 ds1 H1 = .mk x E2 ds2 H2 → R a w) → Exit.then R (lift N (PostE c0 n0 w0 x E2 ds2 H2)) ex a w := fun {x1 x E1 E2 ds1 ds2 H1 H2 k ex a w R} hp h hk => by
    by_cases hx : x1 = .normal
    · subst hx
      obtain ⟨⟨c, ho⟩, hs⟩ := post_st hp (by simp)
      have := exok_normal ho
      subst this
      exact hk hs h
    · have h : Cr.mk x1 E1 ds1 H1 = .mk x E2 ds2 H2 := by cases x1 <;> first | exact h | exact absurd rfl hx
      simp only [Cr.mk.injEq] at h
      obtain ⟨rfl, rfl, rfl, rfl⟩ := h
      cases ex with
      | normal =>
        obtain ⟨e, ds', _, c, _, _, _, _, _, h7⟩ := hp
        exact absurd (exok_not h7) hx
      | _ => exact hp
  induction c with
  | skip => intro rd n x E1 ds1 H1 E ds H a w hs h; exact wpIn_skip (simple hs h (by simp) fun _ _ => trivial)
  | label l => intro rd n x E1 ds1 H1 E ds H a w hs h; exact wpIn_label (simple hs h (by simp) fun _ _ => trivial)
  | exit id => intro rd n x E1 ds1 H1 E ds H a w hs h; exact wpIn_exit (simple hs h (by simp) fun _ _ => rfl)
  | goto l => intro rd n x E1 ds1 H1 E ds H a w hs h; exact wpIn_goto (simple hs h (by simp) fun _ _ => rfl)
  | ret => intro rd n x E1 ds1 H1 E ds H a w hs h; exact wpIn_ret (simple hs h (by simp) fun _ _ => trivial)
  | refuse why => intro rd n x E1 ds1 H1 E ds H a w hs h; cases h
  | region id ops draw =>
    intro rd n x E1 ds1 H1 E ds H a w hs h
    cases draw with
    | false => exact plain_ok hP hN hc hs h
    | true => exact drawn_ok hP hN hc hs h
  | rangeFunc g ps as_ body ih1 ih2 =>
    intro rd n x E1 ds1 H1 E ds H a w hs h
    exact rng_ok hP hN hc hs h
  | seq c1 c2 ih1 ih2 =>
    intro rd n x E1 ds1 H1 E ds H a w hs h
    have h : seqV (codeV P call N lf rd.isSome c1) (codeV P call N lf rd.isSome c2) E ds H = .mk x E1 ds1 H1 := h
    unfold seqV at h
    split at h <;> first | (cases h; done) | skip
    rename_i x1 E2 ds2 H2 hf
    exact wpIn_seq (wpIn_mono (ih1 rd n _ _ _ _ E ds H a w hs hf) fun ex a' w' hp => after hp h fun hs' hk => ih2 rd n _ _ _ _ _ _ _ a' w' hs' hk)
  | cond cnd c1 c2 ih1 ih2 =>
    intro rd n x E1 ds1 H1 E ds H a w hs h
    have h : condV (fun E => rdV N E cnd) (codeV P call N lf rd.isSome c1) (codeV P call N lf rd.isSome c2) E ds H = .mk x E1 ds1 H1 := h
    unfold condV at h
    obtain ⟨c, e, ds', h1, h2, h3, h4, h5, h6⟩ := hs
    split at h <;> first | (cases h; done) | skip
    rename_i v hv
    obtain ⟨g1, g2⟩ := rdV_ok hN h4 hv
    split at h
    · rename_i b
      refine wpIn_cond (t := b) (by rw [eval_eq h6]; exact g1) ?_
      cases b
      · exact ih2 rd n _ _ _ _ _ _ _ a w ⟨c, e, ds', h1, h2, h3, h4, h5, h6⟩ h
      · exact ih1 rd n _ _ _ _ _ _ _ a w ⟨c, e, ds', h1, h2, h3, h4, h5, h6⟩ h
    · rename_i b
      have hb : ∀ t H', askB H b = some (t, H') → rdv N e cnd = .bool t ∧ StE N c0 n0 w0 E ds H' a w := fun t H' hq => by
        obtain ⟨k1, k2, k3⟩ := askB_ok h3 hq
        refine ⟨by rw [g1]; simp only [V.den, k1], c, e, ds', h1, by rw [k3]; exact h2, k2, by rw [k3]; exact h4, by rw [k3]; exact h5, h6⟩
      split at h
      · rename_i H' hq
        obtain ⟨q1, q2⟩ := hb _ _ hq
        exact wpIn_cond (t := true) (by rw [eval_eq h6]; exact q1) (ih1 rd n _ _ _ _ _ _ _ a w q2 h)
      · rename_i H' hq
        obtain ⟨q1, q2⟩ := hb _ _ hq
        exact wpIn_cond (t := false) (by rw [eval_eq h6]; exact q1) (ih2 rd n _ _ _ _ _ _ _ a w q2 h)
      · cases h
    · cases h
  | block id c ih =>
    intro rd n x E1 ds1 H1 E ds H a w hs h
    have h : blockV id (codeV P call N lf rd.isSome c) E ds H = .mk x E1 ds1 H1 := h
    unfold blockV at h
    split at h <;> first | (cases h; done) | skip
    rename_i x1 E2 ds2 H2 hf
    refine wpIn_block (wpIn_mono (ih rd n _ _ _ _ E ds H a w hs hf) fun ex a' w' hp => ?_)
    split at h
    · rename_i i
      obtain ⟨⟨c, ho⟩, hs'⟩ := post_st hp (by simp)
      have := exok_exit ho
      subst this
      simp only [Exit.inBlock]
      split at h
      · rename_i hid
        rw [if_pos (Nat.eq_of_beq_eq_true hid)]
        exact simple hs' h (by simp) fun _ _ => trivial
      · rename_i hid
        rw [if_neg fun e => by rw [e, Nat.beq_refl] at hid; cases hid]
        exact simple hs' h (by simp) fun _ _ => rfl
    · rename_i hne
      simp only [Cr.mk.injEq] at h
      obtain ⟨rfl, rfl, rfl, rfl⟩ := h
      cases ex with
      | exit j =>
        obtain ⟨e, ds', _, c, _, _, _, _, _, h7⟩ := hp
        cases x1 <;> first | exact h7.elim | exact absurd rfl (hne _)
      | _ => exact hp
  | loop c ih =>
    intro rd n x E1 ds1 H1 E ds H a w hs h
    have h : iterV (codeV P call N lf rd.isSome c) lf E ds H = .mk x E1 ds1 H1 := h
    refine wpIn_loop_rounds lf ?_
    have key : ∀ m E ds H a w, StE N c0 n0 w0 E ds H a w → iterV (codeV P call N lf rd.isSome c) m E ds H = .mk x E1 ds1 H1 → Code.roundsIn (FW rd) n P c (lift N (PostE c0 n0 w0 x E1 ds1 H1)) m a w := by
      intro m
      induction m with
      | zero => intro E ds H a w hs h; cases h
      | succ m ihm =>
        intro E ds H a w hs h
        rw [roundsIn_succ]
        unfold iterV at h
        cases hf : codeV P call N lf rd.isSome c E ds H with
        | no => rw [hf] at h; cases h
        | mk x1 E2 ds2 H2 =>
          rw [hf] at h
          refine wpIn_mono (ih rd n _ _ _ _ E ds H a w hs hf) fun ex a' w' hp => after (k := iterV (codeV P call N lf rd.isSome c) m) hp (by cases x1 <;> exact h) fun hs' hk => ihm _ _ _ a' w' hs' hk
    exact key lf E ds H a w hs h
  | scope c ih =>
    intro rd n x E1 ds1 H1 E ds H a w hs h
    have h : scopeV (codeV P call N lf rd.isSome c) E ds H = .mk x E1 ds1 H1 := h
    unfold scopeV at h
    split at h <;> first | (cases h; done) | skip
    rename_i x1 E2 ds2 H2 hf
    refine wpIn_scope_straight (wpIn_mono (ih rd n _ _ _ _ E ds H a w hs hf) fun ex a' w' hp => ?_)
    split at h <;> first | (cases h; done) | skip
    rename_i hne
    simp only [Cr.mk.injEq] at h
    obtain ⟨rfl, rfl, rfl, rfl⟩ := h
    cases ex with
    | goto j =>
      obtain ⟨e, ds', _, c, _, _, _, _, _, h7⟩ := hp
      cases x1 <;> first | exact h7.elim | exact absurd rfl (hne _)
    | _ => exact hp
end
end Go.Proofs.YtgcicoebkjgfoaaGreatDoor.Rn

namespace Go.Proofs.YtgcicoebkjgfoaaGreatDoor.Rn
open Go Go.RowKit Go.Proofs.YtgcicoebkjgfoaaGreatDoor.Sh
set_option linter.unusedVariables false
set_option linter.unusedSimpArgs false
/-- A scope to whose labels the run jumps back. -/
def jmpQ (J : Nat → Act → World → Prop) (Q : Exit → Act → World → Prop) : Exit → Act → World → Prop
  | .goto l, a, w => J l a w
  | ex, a, w => Q ex a w
theorem wpIn_scope_goto {P : Program} {F : Fence} {n : Nat} {Q : Exit → Act → World → Prop} {a : Act} {w : World} {c : Code} (J : Nat → Nat → Act → World → Prop) (h0 : ∀ l a w, ¬ J 0 l a w)
    (first : c.wpIn F n P (jmpQ (fun l a w => ∃ m, J m l a w) Q) a w)
    (pass : ∀ m l a w, J (m + 1) l a w → ∃ rest, findLabel c l = some rest ∧ rest.wpIn F n P (jmpQ (J m) Q) a w) : (Code.scope c).wpIn F n P Q a w := by
  intro b k cs hro hF hroom
  have hs : (lone (b.atR a (.code (.scope c) :: k)) cs w).fenced P F := fenced_calm hF hroom rfl
  have hg : ∀ {l rest}, findLabel c l = some rest → gotoIn l (.inScope c :: k) = some (.code rest :: .inScope c :: k) := fun {l rest} hf => by simp [gotoIn, hf]
  have xx : ∀ {id : Nat}, exitTo id (.inScope c :: k) = exitTo id k := fun {id} => by simp [exitTo]
  have out : ∀ {e : Exit} {a1 : Act} {w1 : World} {s : Machine}, (∀ l, e ≠ .goto l) → e ≠ .normal → ArrivesIn (Machine.fenced P F) P s b (.inScope c :: k) cs e a1 w1 → ArrivesIn (Machine.fenced P F) P s b k cs e a1 w1 := by
    intro e a1 w1 s hgo hno harr
    cases e with
    | normal => exact absurd rfl hno
    | goto l => exact absurd rfl (hgo l)
    | exit id =>
      exact ⟨fun k' hk => harr.1 k' (by rw [xx]; exact hk), fun hr' hk => harr.2 hr' (by rw [xx]; exact hk)⟩
    | ret => exact harr
    | panic ch => exact harr
    | outgrown => exact harr
  have key : ∀ m l rest a w, J m l a w → findLabel c l = some rest → ∃ e a' w', Q e a' w' ∧ ArrivesIn (Machine.fenced P F) P (lone (b.atR a (.code rest :: .inScope c :: k)) cs w) b k cs e a' w' := by
    intro m
    induction m with
    | zero => intro l rest a w hJ; exact absurd hJ (h0 l a w)
    | succ m ih =>
      intro l rest a w hJ hf
      obtain ⟨rest', hf', hp⟩ := pass m l a w hJ
      rw [hf] at hf'
      cases hf'
      obtain ⟨e, a1, w1, hq, harr⟩ := hp b (.inScope c :: k) cs hro hF hroom
      cases e with
      | normal => exact ⟨.normal, a1, w1, hq, StepsIn.trans harr (.one (fenced_calm hF hroom rfl) stepR_inScope)⟩
      | goto l' =>
        have hJ' : J m l' a1 w1 := hq
        have : ∃ rest', findLabel c l' = some rest' := by
          cases m with
          | zero => exact absurd hJ' (h0 _ _ _)
          | succ m => obtain ⟨r, h1, _⟩ := pass m l' a1 w1 hJ'; exact ⟨r, h1⟩
        obtain ⟨rest', hf'⟩ := this
        obtain ⟨e2, a2, w2, hq2, harr2⟩ := ih l' rest' a1 w1 hJ' hf'
        exact ⟨e2, a2, w2, hq2, .of_steps (harr.1 _ (hg hf')) harr2⟩
      | exit id => exact ⟨_, a1, w1, hq, out (by simp) (by simp) harr⟩
      | ret => exact ⟨_, a1, w1, hq, out (by simp) (by simp) harr⟩
      | panic ch => exact ⟨_, a1, w1, hq, out (by simp) (by simp) harr⟩
      | outgrown => exact ⟨_, a1, w1, hq, out (by simp) (by simp) harr⟩
  obtain ⟨e, a1, w1, hq, harr⟩ := first b (.inScope c :: k) cs hro hF hroom
  cases e with
  | normal => exact ⟨.normal, a1, w1, hq, .head hs stepR_scope (StepsIn.trans harr (.one (fenced_calm hF hroom rfl) stepR_inScope))⟩
  | goto l' =>
    obtain ⟨m, hJ'⟩ := hq
    have : ∃ rest', findLabel c l' = some rest' := by
      cases m with
      | zero => exact absurd hJ' (h0 _ _ _)
      | succ m => obtain ⟨r, h1, _⟩ := pass m l' a1 w1 hJ'; exact ⟨r, h1⟩
    obtain ⟨rest', hf'⟩ := this
    obtain ⟨e2, a2, w2, hq2, harr2⟩ := key m l' rest' a1 w1 hJ' hf'
    exact ⟨e2, a2, w2, hq2, .of_steps (.head hs stepR_scope (harr.1 _ (hg hf'))) harr2⟩
  | exit id => exact ⟨_, a1, w1, hq, .of_steps (.one hs stepR_scope) (out (by simp) (by simp) harr)⟩
  | ret => exact ⟨_, a1, w1, hq, .of_steps (.one hs stepR_scope) (out (by simp) (by simp) harr)⟩
  | panic ch => exact ⟨_, a1, w1, hq, .of_steps (.one hs stepR_scope) (out (by simp) (by simp) harr)⟩
  | outgrown => exact ⟨_, a1, w1, hq, .of_steps (.one hs stepR_scope) (out (by simp) (by simp) harr)⟩
/-! ### The arguments -/
def over (e : Env) : List Value → Nat → Env
  | [], _ => e
  | v :: vs, k => over (put e (some k) v) vs (k + 1)
theorem over_get : ∀ (l : List Value) (e : Env) (k i : Nat), over e l k i = if k ≤ i then (l[i - k]?).getD (e i) else e i
  | [], e, k, i => by simp [over]
  | v :: vs, e, k, i => by
    simp only [over]
    rw [over_get vs _ (k + 1) i]
    have hp : put e (some k) v i = cond (Nat.beq i k) v (e i) := rfl
    by_cases h : i = k
    · subst h
      rw [if_neg (by omega), if_pos (Nat.le_refl _), hp, Nat.beq_refl]
      simp
    · rw [hp, show Nat.beq i k = false from Bool.eq_false_iff.2 fun e => h (Nat.eq_of_beq_eq_true e), cond_false]
      by_cases hk : k ≤ i
      · rw [if_pos (by omega), if_pos hk]
        obtain ⟨m, hm⟩ : ∃ m, i - k = m + 1 := ⟨i - k - 1, by omega⟩
        rw [hm, show i - (k + 1) = m by omega]
        simp
      · rw [if_neg (by omega), if_neg hk]
theorem over_env (l : List Value) : over (fun _ => undef) l 0 = envOf l 0 := by
  funext i
  rw [over_get, envOf_get, if_pos (Nat.zero_le _)]
theorem envV_ok {c : Cx} {n : Nat} : ∀ (l : List V) (k : Nat) (E : Tr V) (e : Env), EnvOK c n E e → V.ltL n l → k + l.length ≤ 1000000000 → EnvOK c n (envV l k E) (over e (V.denL c l) k)
  | [], k, E, e, he, hl, hk => he
  | v :: l, k, E, e, he, hl, hk => by
    simp only [List.length_cons] at hk
    have h2 := he.put (d := k) (v := v) (by omega) hl.1
    exact envV_ok l (k + 1) (E.put k v) _ h2 hl.2 (by omega)
theorem start_ok {c : Cx} {n : Nat} {l : List V} (hl : V.ltL n l) (hk : l.length ≤ 1000000000) : EnvOK c n (envV l 0 .nil) (envOf (V.denL c l) 0) := by
  rw [← over_env]
  exact envV_ok l 0 .nil _ (envNil c n) hl (by omega)
theorem StE.start {c : Cx} {w0 : Bs} {w : World} {H : Hs} {l : List V} {N : Nat} (h : Rep c w0 w H) (hl : V.ltL H.next l) (hk : l.length ≤ N) (hN : N ≤ 1000000000) :
    StE N c H.next w0 (envV l 0 .nil) [] H { tmps := (V.denL c l).toArray ++ Array.replicate (N - (V.denL c l).toArray.size) undef, defers := [] } w :=
  ⟨c, _, [], Agr.refl _ _, Nat.le_refl _, h, start_ok hl (by omega), trivial, rel_start (by rw [denL_len]; exact hk)⟩
section
variable {P : Program} {N : Nat} (hP : PV P) (hN : N ≤ 1000000000)
include hP hN
theorem body_ok {call : CallF} (hc : CallOK P call) {lf n : Nat} {c0 : Cx} {n0 : Nat} {w0 : Bs} {c : Code} {x : Ex} {E1 : Tr V} {ds1 : List Df} {H1 : Hs} {E : Tr V} {H : Hs} {a : Act} {w : World}
    (hs : StE N c0 n0 w0 E [] H a w) (h : bodyV P call N lf c E H = .mk x E1 ds1 H1) : c.wpIn (FW none) n P (lift N (PostE c0 n0 w0 x E1 ds1 H1)) a w := by
  unfold bodyV at h
  split at h
  · rename_i c
    have hj : ∀ m r E2 ds2 H2 x2 ex a w, r = Cr.mk x2 E2 ds2 H2 → gotoV P call N lf c m r = .mk x E1 ds1 H1 → lift N (PostE c0 n0 w0 x2 E2 ds2 H2) ex a w →
        jmpQ (fun l a w => match m with | 0 => False | m + 1 => ∃ E ds H rest, StE N c0 n0 w0 E ds H a w ∧ findLabel c l = some rest ∧ gotoV P call N lf c m (codeV P call N lf false rest E ds H) = .mk x E1 ds1 H1) (lift N (PostE c0 n0 w0 x E1 ds1 H1)) ex a w := fun m r E2 ds2 H2 x2 ex a w hr hg hp => by
      subst hr
      cases m with
      | zero => cases hg
      | succ m =>
        by_cases hx : ∃ l, x2 = .goto l
        · obtain ⟨l, rfl⟩ := hx
          obtain ⟨⟨c1, ho⟩, hst⟩ := post_st hp (by simp)
          have := exok_goto ho
          subst this
          unfold gotoV at hg
          simp only at hg
          split at hg <;> first | (cases hg; done) | skip
          rename_i rest hf
          exact ⟨E2, ds2, H2, rest, hst, hf, hg⟩
        · have hg : Cr.mk x2 E2 ds2 H2 = .mk x E1 ds1 H1 := by
            cases x2 <;> first | exact hg | exact absurd ⟨_, rfl⟩ hx
          simp only [Cr.mk.injEq] at hg
          obtain ⟨rfl, rfl, rfl, rfl⟩ := hg
          cases ex with
          | goto l =>
            obtain ⟨e, ds', _, c1, _, _, _, _, _, h7⟩ := hp
            cases x2 <;> first | exact h7.elim | exact absurd ⟨_, rfl⟩ hx
          | _ => exact hp
    refine wpIn_scope_goto (fun m l a w => match m with | 0 => False | m + 1 => ∃ E ds H rest, StE N c0 n0 w0 E ds H a w ∧ findLabel c l = some rest ∧ gotoV P call N lf c m (codeV P call N lf false rest E ds H) = .mk x E1 ds1 H1) (fun _ _ _ h => h) ?_ ?_
    · cases hcv : codeV P call N lf false c E [] H with
      | no => rw [hcv] at h; cases lf <;> cases h
      | mk x2 E2 ds2 H2 =>
        rw [hcv] at h
        refine wpIn_mono (code_ok hP hN hc c none n x2 E2 ds2 H2 E [] H a w hs hcv) fun ex a w hp => ?_
        have := hj lf _ E2 ds2 H2 x2 ex a w rfl h hp
        cases ex with
        | goto l => exact ⟨lf, this⟩
        | _ => exact this
    · rintro m l a w ⟨E, ds, H, rest, hst, hf, hg⟩
      refine ⟨rest, hf, ?_⟩
      cases hcv : codeV P call N lf false rest E ds H with
      | no => rw [hcv] at hg; cases m <;> cases hg
      | mk x2 E2 ds2 H2 =>
        rw [hcv] at hg
        exact wpIn_mono (code_ok hP hN hc rest none n x2 E2 ds2 H2 E ds H a w hst hcv) fun ex a w hp => hj m _ E2 ds2 H2 x2 ex a w rfl hg hp
  · exact code_ok hP hN hc _ none n _ _ _ _ _ _ _ a w hs h
end
section
variable {P : Program} (hP : PV P)
/-! ### What is left of a frame -/
include hP in
theorem res_ok {N : Nat} (hN : N ≤ 1000000000) {c : Cx} {w0 : Bs} {w : World} {H : Hs} {E : Tr V} {e : Env} (hr : Rep c w0 w H) (he : EnvOK c H.next E e) {F : List Value → Prop} : ∀ (rs : List ResultVar) (acc : List Value) (l : List V), resV P N E H rs = some l → V.ltL H.next l ∧ (F (acc.reverse ++ V.denL c l) → resL P N e w rs acc F)
  | [], acc, l, h => by
    simp only [resV, Option.some.injEq] at h
    subst h
    exact ⟨trivial, fun hF => by simpa [resL, V.denL] using hF⟩
  | r :: rs, acc, l, h => by
    unfold resV at h
    split at h <;> first | (cases h; done) | skip
    rename_i v hv
    split at h <;> first | (cases h; done) | skip
    rename_i l' hl'
    simp only [Option.some.injEq] at h
    subst h
    cases r with
    | tmp t =>
      obtain ⟨g1, g2⟩ := rdV_ok hN he hv
      obtain ⟨k1, k2⟩ := res_ok hN hr he rs (v.den c :: acc) l' hl'
      exact ⟨⟨g2, k1⟩, fun hF => by
        simp only [resL]
        rw [g1]
        exact k2 (by simpa [V.denL] using hF)⟩
    | cell b t =>
      simp only at hv
      split at hv <;> first | (cases hv; done) | skip
      rename_i b' off hb
      obtain ⟨g1, g2⟩ := rdV_ok hN he hb
      obtain ⟨q1, q2⟩ := ldV_ok hP hr g2 hv
      obtain ⟨k1, k2⟩ := res_ok hN hr he rs (v.den c :: acc) l' hl'
      exact ⟨⟨q1, k1⟩, fun hF => by
        simp only [resL]
        rw [g1]
        simp only [V.den]
        exact q2 _ (k2 (by simpa [V.denL] using hF))⟩
theorem tup_den {c : Cx} {l : List V} : (tupV l).den c = oneOrTuple (V.denL c l) := by
  cases l with
  | nil => rfl
  | cons a l => cases l <;> rfl
theorem tup_lt {n : Nat} {l : List V} (h : V.ltL n l) : (tupV l).lt n := by
  cases l with
  | nil => trivial
  | cons a l => cases l <;> first | exact h.1 | exact h
end
end Go.Proofs.YtgcicoebkjgfoaaGreatDoor.Rn

namespace Go.Proofs.YtgcicoebkjgfoaaGreatDoor.Rn
open Go Go.RowKit Go.Proofs.YtgcicoebkjgfoaaGreatDoor.Sh
set_option linter.unusedVariables false
set_option linter.unusedSimpArgs false
/-- The panic that a frame is in. -/
def modeV (c : Cx) : Option V → FrameMode
  | none => .returning
  | some v => .panicking [{ v := v.den c, recovered := false }]
def ltO (n : Nat) : Option V → Prop
  | none => True
  | some v => v.lt n
theorem modeV_agr {c c' : Cx} {n : Nat} {m : Option V} (ha : Agr n c c') (h : ltO n m) : modeV c' m = modeV c m := by
  cases m with
  | none => rfl
  | some v => simp only [modeV]; rw [V.agr ha v h]
theorem ltO_mono {n k : Nat} (hk : n ≤ k) {m : Option V} (h : ltO n m) : ltO k m := by
  cases m with
  | none => trivial
  | some v => exact V.lt_mono hk v h
def recV : Option V → V
  | some v => v
  | none => .nili
section
variable {P : Program} (hP : PV P)
include hP
theorem left_ok {call : CallF} (hc : CallOK P call) {lf : Nat} {fn : Func} (hN : fn.ntmps ≤ 1000000000) (hres : fn.results.toList = []) {c : Code} {c0 : Cx} {n0 : Nat} {w0 : Bs} {E : Tr V} {H H2 : Hs} {a : Act} {w : World} {K : World → Prop}
    (hs : StE fn.ntmps c0 n0 w0 E [] H a w) (h : leftV (codeV P call fn.ntmps lf false c E [] H) = some H2) (hK : ∀ c2 w2, Agr n0 c0 c2 → n0 ≤ H2.next → Rep c2 w0 w2 H2 → K w2) : c.wpIn (FW none) 0 P (lift fn.ntmps (retN P fn.ntmps fn fun _ w => K w)) a w := by
  cases hcv : codeV P call fn.ntmps lf false c E [] H with
  | no => rw [hcv] at h; cases h
  | mk x E2 ds2 H3 =>
    rw [hcv] at h
    refine wpIn_mono (code_ok hP hN hc c none 0 x E2 ds2 H3 E [] H a w hs hcv) fun ex a w hp => ?_
    have fin : ∀ e ds' c2, Agr n0 c0 c2 → n0 ≤ H3.next → Rep c2 w0 w H3 → DsOK c2 H3.next [] ds' → H3 = H2 → nilD ds' (resL P fn.ntmps e w fn.results.toList [] fun vs => K w) := fun e ds' c2 h1 h2 h3 h4 h5 => by
      subst h5
      cases ds' with
      | cons d ds' => exact h4.elim
      | nil =>
        show resL P fn.ntmps e w fn.results.toList [] fun vs => K w
        rw [hres]
        exact hK c2 w h1 h2 h3
    obtain ⟨e, ds', hr, c2, h1, h2, h3, h4, h5, h6⟩ := hp
    unfold leftV at h
    split at h <;> first | (cases h; done) | skip
    · rename_i hcr
      simp only [Cr.mk.injEq] at hcr
      obtain ⟨rfl, rfl, rfl, rfl⟩ := hcr
      have := exok_normal h6
      subst this
      exact ⟨e, ds', hr, fin e ds' c2 h1 h2 h3 h5 (Option.some.inj h)⟩
    · rename_i hcr
      simp only [Cr.mk.injEq] at hcr
      obtain ⟨rfl, rfl, rfl, rfl⟩ := hcr
      have := exok_ret h6
      subst this
      exact ⟨e, ds', hr, fin e ds' c2 h1 h2 h3 h5 (Option.some.inj h)⟩
theorem plainD_ok {call : CallF} (hc : CallOK P call) {lf : Nat} {f : FuncId} {fn : Func} {bc : Code} (hf : P.funcs[f]? = some fn) (hb : fn.body = some bc) (hN : fn.ntmps ≤ 1000000000) (hres : fn.results.toList = []) {c : Cx} {w0 : Bs} {H H2 : Hs} {w : World} {args : List V} {m m2 : Option V} (hz : args.length ≤ fn.ntmps)
    (hr : Rep c w0 w H) (hl : V.ltL H.next args) (hm : ltO H.next m) (h : plainD P call lf fn bc args m H = some (m2, H2)) {K : FrameMode → World → Prop} (hK : ∀ c2 w2 u, Agr H.next c c2 → H.next ≤ H2.next → Rep c2 w0 w2 H2 → ltO H2.next m2 → settle u = modeV c2 m2 → K u w2) : DefV P f (V.denL c args).toArray (modeV c m) w K := by
  unfold plainD at h
  split at h <;> first | (cases h; done) | skip
  rename_i H3 hlv
  simp only [Option.some.injEq, Prod.mk.injEq] at h
  obtain ⟨rfl, rfl⟩ := h
  have hw := left_ok hP hc hN hres (K := fun w => K (modeV c m) w) (StE.start hr hl hz hN) hlv fun c2 w2 h1 h2 h3 => hK c2 w2 _ h1 h2 h3 (ltO_mono h2 hm) (by rw [modeV_agr h1 hm]; cases m <;> rfl)
  refine CallsDIn.mono (callsDIn_of_wp (R := fun e w' => ∃ v, e = .returned v ∧ K (modeV c m) w') hf hb trivial (wpIn_mono hw fun ex a w h => retN_post rfl h)) ?_
  rintro e u' w' ⟨rfl, v, rfl, hk⟩
  exact ⟨v, rfl, hk⟩
theorem runD_ok {call : CallF} (hc : CallOK P call) {lf : Nat} {f : FuncId} {c : Cx} {w0 : Bs} {H H2 : Hs} {w : World} {args : List V} {m m2 : Option V}
    (hr : Rep c w0 w H) (hl : V.ltL H.next args) (hm : ltO H.next m) (h : runD P call lf f args m H = some (m2, H2)) : hasBodyB P f = true ∧ ∀ {K : FrameMode → World → Prop}, (∀ c2 w2 u, Agr H.next c c2 → H.next ≤ H2.next → Rep c2 w0 w2 H2 → ltO H2.next m2 → settle u = modeV c2 m2 → K u w2) → DefV P f (V.denL c args).toArray (modeV c m) w K := by
  unfold runD at h
  split at h <;> first | (cases h; done) | skip
  rename_i fn hfn
  have hf := funcV_ok hP hfn
  split at h <;> first | (cases h; done) | skip
  rename_i hres hand
  simp only [Bool.and_eq_true, Nat.ble_eq] at hand
  obtain ⟨hbody, hz, hN⟩ := hand
  refine ⟨hbody, fun {K} hK => ?_⟩
  split at h <;> first | (cases h; done) | skip
  rename_i bc hb
  split at h
  · rename_i id ops c1
    split at h
    · rename_i d call0 at1 ty1 p1 af1 d2 d' ty2 p2 af2 ho
      split at h <;> first | (cases h; done) | skip
      rename_i hdd
      simp only [Bool.and_eq_true, Nat.ble_eq] at hdd
      obtain ⟨hdd, hd1, hd2⟩ := hdd
      have hdd := Nat.eq_of_beq_eq_true hdd
      subst hdd
      simp only at h
      split at h <;> first | (cases h; done) | skip
      rename_i H3 hlv
      simp only [Option.some.injEq, Prod.mk.injEq] at h
      obtain ⟨rfl, rfl⟩ := h
      have hops : ops = #[⟨some d, .call ⟨.builtin .recover, call0, at1⟩, ty1, p1, af1, none⟩, ⟨some d2, .assign (.tmp d), ty2, p2, af2, none⟩] := by rw [← Array.toArray_toList (xs := ops), ho]
      subst hops
      have hlv : leftV (codeV P call fn.ntmps lf false c1 (((envV args 0 .nil).put d (recV m)).put d2 (recV m)) [] H) = some H3 := by cases m <;> exact hlv
      refine callsDIn_of_wpSIn hf hb trivial fun c0 cs hc0 => ?_
      refine wpSIn_seq (wpSIn_region ?_)
      have hst := StE.start hr hl hz hN
      have hrs := rel_start (N := fn.ntmps) (l := V.denL c args) (by rw [denL_len]; exact hz)
      have hdl : d + 1 ≤ fn.ntmps := hd1
      have rest : ∀ (v : V) (u' : FrameMode), v.lt H.next → recV m = v → settle u' = .returning →
          c1.wpSIn (FW none) 0 P (bodyPostS P fn c0 cs fun e u' w' => ∃ v, e = .returned v ∧ K u' w')
            ((Act.put { tmps := (V.denL c args).toArray ++ Array.replicate (fn.ntmps - (V.denL c args).toArray.size) undef, defers := [] } (some d) (v.den c)).put (some d2) ((Act.put { tmps := (V.denL c args).toArray ++ Array.replicate (fn.ntmps - (V.denL c args).toArray.size) undef, defers := [] } (some d) (v.den c)).eval (.tmp d))) ({ c0 with mode := u' } :: cs) w := by
        intro v u' hvl hv hu
        have hr1 := hrs.put' (some d) (v.den c)
        have hr2 := hr1.put' (some d2) (rdv fn.ntmps (put (envOf (V.denL c args) 0) (some d) (v.den c)) (.tmp d))
        have hread : rdv fn.ntmps (put (envOf (V.denL c args) 0) (some d) (v.den c)) (.tmp d) = v.den c := by
          simp only [rdv, put]
          rw [show Nat.ble (d + 1) fn.ntmps = true from Nat.ble_eq.symm ▸ hdl, cond_true, Nat.beq_refl, cond_true]
        rw [eval_eq hr1]
        rw [hread] at hr2 ⊢
        rw [hv] at hlv
        have hw := left_ok hP hc hN hres (K := fun w => K u' w) (c0 := c) (n0 := H.next) (w0 := w0) (w := w) ⟨c, _, [], Agr.refl _ _, Nat.le_refl _, hr, ((start_ok hl (by omega)).put (by omega) hvl).put (d := d2) (by omega) hvl, trivial, hr2⟩ hlv fun c2 w2 h1 h2 h3 => hK c2 w2 _ h1 h2 h3 trivial hu
        refine wpSIn_of_wpIn rfl (wpIn_mono hw fun ex a w hx => ?_)
        have hp := retN_post rfl hx
        cases ex with
        | normal => obtain ⟨h1, v, h2, h3⟩ := hp; exact ⟨h1, u', rfl, v, h2, h3⟩
        | ret => obtain ⟨h1, v, h2, h3⟩ := hp; exact ⟨h1, u', rfl, v, h2, h3⟩
        | panic ch => obtain ⟨h1, v, h2, h3⟩ := hp; cases h2
        | outgrown => obtain ⟨v, h2, h3⟩ := hp; cases h2
        | _ => exact hp.elim
      have hlr : List.range (#[(⟨some d, .call ⟨.builtin .recover, call0, at1⟩, ty1, p1, af1, none⟩ : Oper), ⟨some d2, .assign (.tmp d), ty2, p2, af2, none⟩]).size = [0, 1] := rfl
      rw [hlr]
      simp only [wpOpsSIn, Region.wanted]
      cases m with
      | none =>
        have hc0 : c0.mode = .returning := hc0
        have hrec : recoverD (c0 :: cs) = none := by simp [recoverD, hc0]
        have hcc : ({ c0 with mode := .returning } : Frame) = c0 := by rw [← hc0]
        refine ⟨fun _ _ => trivial, ?_⟩
        have := rest .nili .returning trivial rfl rfl
        rw [hcc] at this
        simp [execOp, resolve, invoke, builtin, Sem.run_bind, hrec, wpOpsSIn, Region.wanted, FW, V.den] at this ⊢
        exact ⟨fun _ _ => trivial, this⟩
      | some v =>
        have hc0 : c0.mode = .panicking [{ v := v.den c, recovered := false }] := hc0
        have hrec : recoverD (c0 :: cs) = some (v.den c, { c0 with mode := .panicking ({ v := v.den c, recovered := true } :: []) } :: cs) := by simp [recoverD, hc0]
        refine ⟨fun _ _ => trivial, ?_⟩
        have := rest v (.panicking ({ v := v.den c, recovered := true } :: [])) hm rfl rfl
        simp [execOp, resolve, invoke, builtin, Sem.run_bind, hrec, wpOpsSIn, Region.wanted, FW] at this ⊢
        exact ⟨fun _ _ => trivial, this⟩
    · exact plainD_ok hP hc hf hb hN hres hz hr hl hm h hK
  · exact plainD_ok hP hc hf hb hN hres hz hr hl hm h hK
end
end Go.Proofs.YtgcicoebkjgfoaaGreatDoor.Rn

namespace Go.Proofs.YtgcicoebkjgfoaaGreatDoor.Rn
open Go Go.RowKit Go.Proofs.YtgcicoebkjgfoaaGreatDoor.Sh
set_option linter.unusedVariables false
set_option linter.unusedSimpArgs false
/-- Where a call may lead. -/
def RsOK (c : Cx) (w0 : Bs) (H : Hs) (K : Value → World → Prop) (X : List PanicEntry → World → Prop) : Rs → Prop
  | .ok v H' => After c w0 H H' v K
  | .pan v H' => After c w0 H H' v fun u w' => X [{ v := u, recovered := false }] w'
  | .no => False
theorem RsOK.agr {c c' : Cx} {w0 : Bs} {H H2 : Hs} {K : Value → World → Prop} {X : List PanicEntry → World → Prop} {r : Rs} (h : RsOK c w0 H K X r) (ha : Agr H.next c c') (hn : H.next ≤ H2.next) : RsOK c' w0 H2 K X r := by
  cases r with
  | ok v H' => exact fun c2 w2 h1 h2 h3 h4 => h c2 w2 (ha.trans h1 hn) (Nat.le_trans hn h2) h3 h4
  | pan v H' => exact fun c2 w2 h1 h2 h3 h4 => h c2 w2 (ha.trans h1 hn) (Nat.le_trans hn h2) h3 h4
  | no => exact h
section
variable {P : Program} (hP : PV P)
include hP
theorem leave_ok {call : CallF} (hc : CallOK P call) {lf : Nat} {fn : Func} (hN : fn.ntmps ≤ 1000000000) {w0 : Bs} {K : Value → World → Prop} {X : List PanicEntry → World → Prop} {E : Option (Tr V)} {e : Env} :
    ∀ (ds : List Df) (ds' : List Deferred) (m : Option V) (c : Cx) (H : Hs) (w : World), Rep c w0 w H → (∀ E0, E = some E0 → EnvOK c H.next E0 e) → DsOK c H.next ds ds' → ltO H.next m →
      RsOK c w0 H K X (leaveV P call lf fn E ds m H) → leaveA P (finA (fun w => resL P fn.ntmps e w fn.results.toList [] fun vs => K (oneOrTuple vs) w) X) ds' (modeV c m) w
  | [], ds', m, c, H, w, hr, he, hds, hm, h => by
    cases ds' with
    | cons d ds' => exact hds.elim
    | nil =>
      cases m with
      | some v =>
        have h : RsOK c w0 H K X (.pan v H) := h
        exact h c w (Agr.refl _ _) (Nat.le_refl _) hr hm
      | none =>
        show resL P fn.ntmps e w fn.results.toList [] fun vs => K (oneOrTuple vs) w
        unfold leaveV at h
        split at h
        · rename_i E0
          split at h <;> first | exact h.elim | skip
          rename_i l hl
          obtain ⟨g1, g2⟩ := res_ok hP hN hr (he _ rfl) (F := fun vs => K (oneOrTuple vs) w) fn.results.toList [] l hl
          refine g2 ?_
          have := h c w (Agr.refl _ _) (Nat.le_refl _) hr (tup_lt g1)
          rw [tup_den] at this
          exact this
        · split at h <;> first | exact h.elim | skip
          rename_i hres
          rw [hres]
          exact h c w (Agr.refl _ _) (Nat.le_refl _) hr trivial
  | .mark b :: ds, ds', m, c, H, w, hr, he, hds, hm, h => by
    cases ds' with
    | nil => exact hds.elim
    | cons d ds' =>
      obtain ⟨⟨h1, h2⟩, h3⟩ := hds
      unfold leaveV at h
      split at h <;> first | exact h.elim | skip
      rename_i hget
      have hat : w.heap[c.ρ b]? = some (.deferred (some [])) := hr.at_ b .mark h1 hget
      have hr2 := hr.drop (ob := .deferred none) h1 hget trivial rfl
      have := leave_ok hc hN ds ds' m c (H.put b .gone) _ hr2 he h3 hm (h.agr (H := H) (H2 := H.put b .gone) (Agr.refl _ _) (Nat.le_refl _))
      cases m with
      | none =>
        show (match d.target with
          | .collected D => w.heap[D]? = some (.deferred (some [])) ∧ leaveA P _ ds' .returning (w.putObj D (.deferred none))
          | .fn (.func g) cap => cond (hasBodyB P g) (DefV P g (d.args ++ cap) .returning w fun u' w' => leaveA P _ ds' (settle u') w') False
          | _ => False)
        rw [h2]
        exact ⟨hat, this⟩
      | some v =>
        show (match d.target with
          | .collected D => w.heap[D]? = some (.deferred (some [])) ∧ leaveA P _ ds' (.panicking _) (w.putObj D (.deferred none))
          | .fn (.func g) cap => cond (hasBodyB P g) (DefV P g (d.args ++ cap) (.panicking _) w fun u' w' => leaveA P _ ds' (settle u') w') False
          | _ => False)
        rw [h2]
        exact ⟨hat, this⟩
  | .call f args :: ds, ds', m, c, H, w, hr, he, hds, hm, h => by
    cases ds' with
    | nil => exact hds.elim
    | cons d ds' =>
      obtain ⟨⟨h1, cap, h2, h2'⟩, h3⟩ := hds
      unfold leaveV at h
      split at h <;> first | exact h.elim | skip
      rename_i m2 H2 hrun
      obtain ⟨hb, hd⟩ := runD_ok hP hc hr h1 hm hrun
      have := hd (K := fun u' w' => leaveA P (finA (fun w => resL P fn.ntmps e w fn.results.toList [] fun vs => K (oneOrTuple vs) w) X) ds' (settle u') w') fun c2 w2 u k1 k2 k3 k4 k5 => by
        rw [k5]
        exact leave_ok hc hN ds ds' m2 c2 H2 w2 k3 (fun E0 hE => (he E0 hE).agr k1 k2) (h3.agr k1 k2) k4 (h.agr k1 k2)
      rw [← h2'] at this
      cases m with
      | none =>
        simp only [modeV, leaveA]
        rw [h2]
        simp only
        rw [hb, cond_true]
        exact this
      | some v =>
        simp only [modeV, leaveA]
        rw [h2]
        simp only
        rw [hb, cond_true]
        exact this
theorem fn_ok {call : CallF} (hc : CallOK P call) {lf : Nat} {f : FuncId} {fn : Func} (hf : P.funcs[f]? = some fn) {c : Cx} {w0 : Bs} {w : World} {H : Hs} {args : List V} (hr : Rep c w0 w H) (hl : V.ltL H.next args) {K : Value → World → Prop} {X : List PanicEntry → World → Prop}
    (h : RsOK c w0 H K X (fnV P call lf fn args H)) : CallX P f (V.denL c args).toArray w K X := by
  unfold fnV at h
  split at h <;> first | exact h.elim | skip
  rename_i bc hb hz
  simp only [Bool.and_eq_true, Nat.ble_eq] at hz
  obtain ⟨hz, hN⟩ := hz
  split at h <;> first | exact h.elim | skip
  rename_i x E1 ds1 H1 hbody
  have hw := body_ok hP hN hc (n := 0) (StE.start hr hl hz hN) hbody
  refine (callsIn_wide (n := 0)).1 (callsIn_of_wp_marks (F := FW none) (n := 0) hf hb trivial (wpIn_mono hw ?_))
  rintro ex a' w' ⟨e', ds', hrl, c2, h1, h2, h3, h4, h5, h6⟩
  have fin : ∀ (E : Option (Tr V)) (m : Option V), ltO H1.next m → (∀ E0, E = some E0 → EnvOK c2 H1.next E0 e') → RsOK c w0 H K X (leaveV P call lf fn E ds1 m H1) →
      LeavesInM (FW none) 0 P fn a'.tmps (fun e w' => match e with | .returned v => K v w' | .panicked ch => X ch w' | .outgrown => False) a'.defers (modeV c2 m) w' := fun E m hm hE hl => by
    have hq := leave_ok hP hc hN ds1 ds' m c2 H1 w' h3 hE h5 hm (hl.agr h1 h2)
    rw [hrl.defers]
    refine leaves_leaveA (fun u w h => ?_) ds' _ w' hq
    cases u with
    | run => exact h.elim
    | returning => exact run_results hrl h
    | panicking ch => exact h
  split at h <;> first | exact h.elim | skip
  · have := exok_normal h6
    subst this
    exact fin (some E1) none trivial (fun E0 hE => by cases hE; exact h4) h
  · have := exok_ret h6
    subst this
    exact fin (some E1) none trivial (fun E0 hE => by cases hE; exact h4) h
  · rename_i v
    cases ex <;> first | exact h6.elim | skip
    obtain ⟨k1, rfl⟩ := h6
    exact fin (some E1) (some v) k1 (fun E0 hE => by cases hE; exact h4) h
  · rename_i v
    cases ex <;> first | exact h6.elim | skip
    obtain ⟨k1, rfl⟩ := h6
    exact fin none (some v) k1 (fun E0 hE => by cases hE) h
end
end Go.Proofs.YtgcicoebkjgfoaaGreatDoor.Rn

namespace Go.Proofs.YtgcicoebkjgfoaaGreatDoor.Rn
open Go Go.RowKit Go.Proofs.YtgcicoebkjgfoaaGreatDoor.Sh
set_option linter.unusedVariables false
set_option linter.unusedSimpArgs false
/-! ### Records -/
def stObj (L : Loop) : Option (Option Code) → Obj
  | none => loopObj L .busy none
  | some none => loopObj L .ready none
  | some (some j) => loopObj L .done (some j)
theorem loopAt_iff {c : Cx} {w : World} {b : Nat} {st : Option (Option Code)} : loopAt c w b st ↔ w.heap[c.ρ b]? = some (stObj (c.lp b) st) := by
  cases st with
  | none => exact Iff.rfl
  | some j => cases j <;> exact Iff.rfl
theorem Rep.setL {c : Cx} {w0 : Bs} {w : World} {H : Hs} {l N N' : Nat} {E E' : Tr V} {ps ps' : List Tmp} {as_ as' body body' : Code} {st st' : Option (Option Code)} (h : Rep c w0 w H) (hl : l < H.next) (hg : H.get l = some (.loop N' E' ps' as' body' st')) (ht : LoopTie c l N E ps as_ body) :
    Rep c w0 (w.putObj (c.ρ l) (stObj (c.lp l) st)) (H.put l (.loop N E ps as_ body st)) := by
  have hat := h.at_ _ _ hl hg
  refine h.chg1 (o' := .loop N E ps as_ body st) hl hg trivial rfl ext_put (.inl ⟨trivial, rfl⟩) trivial ⟨loopAt_iff.2 ?_, ht⟩
  exact World.putObj_heap_same (heap_lt (loopAt_iff.1 hat.1))
theorem rdyL_ok {H : Hs} {l : Nat} (h : rdyL H l = true) : ∃ N E ps as_ body, H.get l = some (.loop N E ps as_ body (some none)) := by
  unfold rdyL at h
  split at h
  · rename_i hg; exact ⟨_, _, _, _, _, hg⟩
  · cases h
theorem bsyL_ok {H : Hs} {l : Nat} (h : bsyL H l = true) : ∃ N E ps as_ body, H.get l = some (.loop N E ps as_ body none) := by
  unfold bsyL at h
  split at h
  · rename_i hg; exact ⟨_, _, _, _, _, hg⟩
  · cases h
theorem bindV_ok {N : Nat} {c : Cx} {n : Nat} : ∀ (ps : List Tmp) (vs : List V) (E E1 : Tr V) (e : Env) (tm : Array Value), bindV ps vs E = some E1 → EnvOK c n E e → V.ltL n vs → Rel N e [] { tmps := tm, defers := [] } →
    vs.length = ps.length ∧ ∃ e1, EnvOK c n E1 e1 ∧ Rel N e1 [] { tmps := (ps.zip (V.denL c vs)).foldl (fun t (p, v) => t.setIfInBounds p v) tm, defers := [] }
  | [], [], E, E1, e, tm, h, he, hl, hr => by
    simp only [bindV, Option.some.injEq] at h
    subst h
    exact ⟨rfl, e, he, hr⟩
  | p :: ps, v :: vs, E, E1, e, tm, h, he, hl, hr => by
    simp only [bindV] at h
    split at h <;> first | (cases h; done) | skip
    rename_i hp
    rw [Nat.ble_eq] at hp
    have hr' : Rel N (put e (some p) (v.den c)) [] { tmps := tm.setIfInBounds p (v.den c), defers := [] } := hr.put' (some p) (v.den c)
    obtain ⟨h1, e1, h2, h3⟩ := bindV_ok ps vs _ E1 _ _ h (he.put (by omega) hl.1) hl.2 hr'
    exact ⟨by simp [h1], e1, h2, h3⟩
  | [], _ :: _, E, E1, e, tm, h, he, hl, hr => by simp [bindV] at h
  | _ :: _, [], E, E1, e, tm, h, he, hl, hr => by simp [bindV] at h
section
variable {P : Program} (hP : PV P)
include hP
theorem round_ok {call : CallF} (hc : CallOK P call) {lf l N : Nat} {E : Tr V} {ps : List Tmp} {as_ body : Code} {c : Cx} {w0 : Bs} {w : World} {H : Hs} {args : List V} (hr : Rep c w0 w H) (hl : l < H.next) (hget : H.get l = some (.loop N E ps as_ body (some none))) (hargs : V.ltL H.next args)
    {K : Value → World → Prop} {X : List PanicEntry → World → Prop} (h : RsOK c w0 H K X (roundV P call lf l N E ps as_ body args H)) : callX P (.func (.yield (c.ρ l)) #[] #[]) (V.denL c args).toArray w K X := by
  obtain ⟨hat, htie⟩ := hr.at_ _ _ hl hget
  have htie0 := htie
  obtain ⟨hN, t1, t2, t3, e, t4, t5⟩ := htie
  have hat : w.heap[c.ρ l]? = some (.loop { c.lp l with state := .ready, pending := none }) := hat
  unfold roundV at h
  split at h <;> first | exact h.elim | skip
  rename_i E1 hbind
  split at h <;> first | exact h.elim | skip
  rename_i E2 H2 hcv
  split at h <;> first | exact h.elim | skip
  rename_i hrdy
  obtain ⟨hlen, e1, b1, b2⟩ := bindV_ok ps args E E1 e _ hbind (t4.agr (Agr.refl _ _) (Nat.le_of_lt hl)) hargs t5
  unfold callX
  simp only [Array.empty_append]
  have hinv : (invoke (.fn (.yield (c.ρ l)) #[]) (V.denL c args).toArray).run P w = .ok (.round (c.ρ l) (c.lp l).fn (((c.lp l).params.zip (V.denL c args).toArray).foldl (fun t (p, v) => t.setIfInBounds p v) (c.lp l).tmps) as_ body) w := by
    simp only [invoke, Instr.yield, Sem.run_bind, run_getLoop hat, Result.andThen_ok]
    have hsz : (V.denL c args).toArray.size = (c.lp l).params.size := by rw [t1]; simp [denL_len, hlen]
    simp [hsz, t2, t3]
  rw [Sem.wp_iff_run, hinv]
  show RoundV P (c.ρ l) (c.lp l).fn _ as_ body w K
  unfold RoundV
  refine roundIn_of_wpIn trivial ?_
  rw [inRound_fw, foldl_zip_toArray, t1]
  simp only []
  refine wpIn_mono (code_ok hP hN hc as_ (some (c.ρ l)) 0 .normal E2 [] H2 E1 [] H _ w (c0 := c) (n0 := H.next) (w0 := w0) ⟨c, e1, [], Agr.refl _ _, Nat.le_refl _, hr, b1, trivial, b2⟩ hcv) ?_
  intro ex a2 w2 hp
  obtain ⟨⟨cx, ho⟩, c2, e2, ds2, g1, g2, g3, g4, g5, g6⟩ := post_st hp (by simp)
  have := exok_normal ho
  subst this
  have hl2 : l < H2.next := Nat.lt_of_lt_of_le hl g2
  obtain ⟨N', E', ps', as', body', hget2⟩ := rdyL_ok hrdy
  have hat2 : w2.heap[c2.ρ l]? = some (.loop { c2.lp l with state := .ready, pending := none }) := (g3.at_ _ _ hl2 hget2).1
  have hρ2 := g1.ρ l hl
  have hlp2 := g1.lp l hl
  have htie2 := htie0.agr g1 hl
  refine ⟨_, by rw [hρ2] at hat2; exact run_beginRound hat2 rfl, ?_⟩
  have hr3 := g3.setL (st := none) hl2 hget2 htie2
  rw [hρ2] at hr3
  unfold stopV at h
  split at h <;> first | exact h.elim | skip
  rename_i x E3 H3 hcv3
  split at h <;> first | exact h.elim | skip
  rename_i hbsy
  obtain ⟨N3, E3', ps3, as3, body3, hget3⟩ := bsyL_ok hbsy
  refine wpIn_mono (code_ok hP hN hc body (some (c.ρ l)) 0 x E3 [] H3 E2 [] (H2.put l (.loop N E ps as_ body none)) a2 _ (c0 := c) (n0 := H.next) (w0 := w0) ⟨c2, e2, ds2, g1, g2, hr3, g4, g5, g6⟩ hcv3) ?_
  intro ex a3 w3 hp3
  have fin : ∀ (jump : Option Code) (st : Option Code) c3, Agr H.next c c3 → H.next ≤ H3.next → Rep c3 w0 w3 H3 → jump = st → RsOK c w0 H K X (.ok (.bool jump.isNone) (H3.put l (.loop N E ps as_ body (some st)))) → ∃ v w', (Instr.endRound (c.ρ l) jump).run P w3 = .ok v w' ∧ ∃ u, Ending.returned v = .returned u ∧ K u w' := fun jump st c3 k1 k2 k3 hj hK => by
    subst hj
    have hl3 : l < H3.next := Nat.lt_of_lt_of_le hl k2
    have hat3 : w3.heap[c3.ρ l]? = some (.loop { c3.lp l with state := .busy, pending := none }) := (k3.at_ _ _ hl3 hget3).1
    have hρ3 := k1.ρ l hl
    have hr4 := k3.setL (st := some jump) hl3 hget3 (htie0.agr k1 hl)
    refine ⟨_, _, by rw [hρ3] at hat3; exact run_endRound jump hat3, _, rfl, ?_⟩
    have := hK c3 _ k1 k2 hr4 trivial
    rw [hρ3] at this
    cases jump <;> exact this
  split at h <;> first | exact h.elim | skip
  · obtain ⟨⟨cx, ho⟩, c3, e3, ds3, k1, k2, k3, k4, k5, k6⟩ := post_st hp3 (by simp)
    have := exok_normal ho
    subst this
    exact fin none none c3 k1 k2 k3 rfl h
  · obtain ⟨⟨cx, ho⟩, c3, e3, ds3, k1, k2, k3, k4, k5, k6⟩ := post_st hp3 (by simp)
    have := exok_ret ho
    subst this
    exact fin (some .ret) (some .ret) c3 k1 k2 k3 rfl h
  · rename_i id
    obtain ⟨⟨cx, ho⟩, c3, e3, ds3, k1, k2, k3, k4, k5, k6⟩ := post_st hp3 (by simp)
    have := exok_exit ho
    subst this
    exact fin (some (.exit id)) (some (.exit id)) c3 k1 k2 k3 rfl h
end
end Go.Proofs.YtgcicoebkjgfoaaGreatDoor.Rn

namespace Go.Proofs.YtgcicoebkjgfoaaGreatDoor.Rn
open Go Go.RowKit Go.Proofs.YtgcicoebkjgfoaaGreatDoor.Sh
set_option linter.unusedVariables false
set_option linter.unusedSimpArgs false
/-! ### Values without blocks -/
mutual
theorem flat_lt {n : Nat} : ∀ (v : V), v.flat = true → v.lt n
  | .fn f a b, h => by
    simp only [V.flat, Bool.and_eq_true] at h
    exact ⟨flatL_lt a h.1, flatL_lt b h.2⟩
  | .iface d v, h => flat_lt v h
  | .agg cs, h => flatL_lt cs h
  | .tup cs, h => flatL_lt cs h
  | .bool _, _ => trivial
  | .sbool _, _ => trivial
  | .int _ _, _ => trivial
  | .sint _ _, _ => trivial
  | .str _, _ => trivial
  | .ystr _, _ => trivial
  | .nilp, _ => trivial
  | .nils, _ => trivial
  | .nilm, _ => trivial
  | .nilf, _ => trivial
  | .nili, _ => trivial
  | .ptr _ _, h => by cases h
  | .gptr _ _, h => by cases h
  | .sl _ _ _ _, h => by cases h
  | .slr _ _ _ _, h => by cases h
  | .slo _, h => by cases h
  | .sle _ _ _ _ _, h => by cases h
  | .map _, h => by cases h
  | .yld _, h => by cases h
theorem flatL_lt {n : Nat} : ∀ (l : List V), V.flatL l = true → V.ltL n l
  | [], _ => trivial
  | v :: l, h => by
    simp only [V.flatL, Bool.and_eq_true] at h
    exact ⟨flat_lt v h.1, flatL_lt l h.2⟩
end
theorem normN_eq {n : Nat} {K : Nat → Rs} : normN n K = K n := by cases n <;> rfl
mutual
theorem normV_ok : ∀ (v : V) (K : V → Rs), normV v K ≠ .no → normV v K = K v ∧ v.flat = true
  | .int k (.ofNat n), K, h => by
    refine ⟨?_, rfl⟩
    simp only [normV, normN_eq]
    cases k <;> rfl
  | .int k (.negSucc n), K, h => by
    refine ⟨?_, rfl⟩
    simp only [normV, normN_eq]
  | .bool b, K, h => by
    refine ⟨?_, rfl⟩
    cases b <;> rfl
  | .agg cs, K, h => by
    simp only [normV] at h ⊢
    exact normL_ok cs _ h
  | .fn f [] [], K, h => ⟨rfl, rfl⟩
  | .fn f (_ :: _) _, K, h => absurd rfl h
  | .fn f [] (_ :: _), K, h => absurd rfl h
  | .iface _ _, K, h => absurd rfl h
  | .tup _, K, h => absurd rfl h
  | .sbool _, K, h => absurd rfl h
  | .sint _ _, K, h => absurd rfl h
  | .str _, K, h => absurd rfl h
  | .ystr _, K, h => absurd rfl h
  | .nilp, K, h => absurd rfl h
  | .nils, K, h => absurd rfl h
  | .nilm, K, h => absurd rfl h
  | .nilf, K, h => absurd rfl h
  | .nili, K, h => absurd rfl h
  | .ptr _ _, K, h => absurd rfl h
  | .gptr _ _, K, h => absurd rfl h
  | .sl _ _ _ _, K, h => absurd rfl h
  | .slr _ _ _ _, K, h => absurd rfl h
  | .slo _, K, h => absurd rfl h
  | .sle _ _ _ _ _, K, h => absurd rfl h
  | .map _, K, h => absurd rfl h
  | .yld _, K, h => absurd rfl h
theorem normL_ok : ∀ (l : List V) (K : List V → Rs), normL l K ≠ .no → normL l K = K l ∧ V.flatL l = true
  | [], K, h => ⟨rfl, rfl⟩
  | v :: l, K, h => by
    simp only [normL] at h ⊢
    obtain ⟨h1, h2⟩ := normV_ok v _ h
    rw [h1] at h ⊢
    obtain ⟨h3, h4⟩ := normL_ok l _ h
    exact ⟨h3, by simp only [V.flatL, h2, h4, Bool.and_self]⟩
end
end Go.Proofs.YtgcicoebkjgfoaaGreatDoor.Rn

namespace Go.Proofs.YtgcicoebkjgfoaaGreatDoor.Rn
open Go Go.RowKit Go.Proofs.YtgcicoebkjgfoaaGreatDoor.Sh
set_option linter.unusedVariables false
set_option linter.unusedSimpArgs false
/-- What is asked of a program: its tables; functions without a body; the copy of a row of bytes. -/
structure PX (P : Program) (X : Xs) : Prop where
  pv : PV P
  body : ∀ f fn c, P.funcs[f]? = some fn → fn.body = some c → hasBodyB P f = true
  add : ∀ (k1 k2 k3 : IntKind) (a b c : Nat) (w : World), c ≤ 1 → ∃ w', (callFunc X.add64 #[.int k1 (.ofNat a), .int k2 (.ofNat b), .int k3 (.ofNat c)]).run P w = .ok (.value (.tuple #[.int .u64 (.ofNat ((a + b + c) % 18446744073709551616)), .int .u64 (.ofNat ((a + b + c) / 18446744073709551616))])) w' ∧ Bl w w'
  sub : ∀ (k1 k2 k3 : IntKind) (a b c : Nat) (w : World), c ≤ 1 → ∃ w', (callFunc X.sub64 #[.int k1 (.ofNat a), .int k2 (.ofNat b), .int k3 (.ofNat c)]).run P w = .ok (.value (.tuple #[.int .u64 (.ofNat ((a + 18446744073709551616 - b - c) % 18446744073709551616)), .int .u64 (.ofNat (if a < b + c then 1 else 0))])) w' ∧ Bl w w'
  clone : ∀ f, memN X.clones f = true → hasBodyB P f = true ∧ ∀ (w : World) (p : Option Addr) (n k : Nat) (l : List UInt8), Sees w 1 p n k (u8s l) → l.length ≤ 1073741824 → ∀ (K : Value → World → Prop),
    (∀ p' n' k' w', Bl w w' → Sees w' 1 p' n' k' (u8s l) → (l ≠ [] → ∀ a, p' = some a → w.heap.size ≤ a.block) → K (.slice p' n' k') w') → CallV P f #[.slice p n k] w K
section
variable {P : Program} {X : Xs}
/-- A function is called: entered, or (without a body, on numbers) answered at once. -/
def Goes (P : Program) (f : FuncId) (args : List V) (c : Cx) (w : World) (K : Value → World → Prop) (Q : List PanicEntry → World → Prop) : Prop :=
  (hasBodyB P f = true ∧ CallX P f (V.denL c args).toArray w K Q) ∨ ((∃ v w', (callFunc f (V.denL c args).toArray).run P w = .ok (.value v) w' ∧ K v w') ∧ ∀ a ∈ args, ∃ k n, a = .int k n)
theorem ext_ok (hX : PX P X) {f : Nat} {args : List V} {c : Cx} {w0 : Bs} {w : World} {H : Hs} {K : Value → World → Prop} {Q : List PanicEntry → World → Prop} (hr : Rep c w0 w H) (h : RsOK c w0 H K Q (extV X f args H)) : Goes P f args c w K Q := by
  unfold extV at h
  split at h <;> first | exact h.elim | skip
  rename_i k1 a k2 b k3 cc
  split at h <;> first | exact h.elim | skip
  rename_i hc
  rw [Nat.ble_eq] at hc
  refine .inr ⟨?_, fun x hx => ?_⟩
  · split at h
    · rename_i hf
      have hf := Nat.eq_of_beq_eq_true hf
      subst hf
      obtain ⟨w', h1, h2⟩ := hX.add k1 k2 k3 a b cc w hc
      exact ⟨_, w', h1, h c w' (Agr.refl _ _) (Nat.le_refl _) (hr.world h2) ⟨trivial, trivial, trivial⟩⟩
    · split at h <;> first | exact h.elim | skip
      rename_i hf
      have hf := Nat.eq_of_beq_eq_true hf
      subst hf
      obtain ⟨w', h1, h2⟩ := hX.sub k1 k2 k3 a b cc w hc
      refine ⟨_, w', h1, ?_⟩
      have := h c w' (Agr.refl _ _) (Nat.le_refl _) (hr.world h2) ⟨trivial, trivial, trivial⟩
      have e : (if a < b + cc then 1 else 0 : Nat) = (match Nat.ble (Nat.add b cc) a with | true => 0 | false => 1) := by
        cases hb : Nat.ble (Nat.add b cc) a with
        | true =>
          rw [Nat.ble_eq] at hb
          rw [if_neg (by have : b + cc ≤ a := hb; omega)]
        | false =>
          have : ¬ (b + cc ≤ a) := fun h => by
            have : Nat.ble (Nat.add b cc) a = true := Nat.ble_eq.symm ▸ h
            rw [this] at hb; cases hb
          rw [if_pos (by omega)]
      rw [e]
      exact this
  · simp only [List.mem_cons, List.not_mem_nil, or_false] at hx
    rcases hx with rfl | rfl | rfl <;> exact ⟨_, _, rfl⟩
theorem enterF_ok (hX : PX P X) {call : CallF} (hc : CallOK P call) {lf : Nat} {f : Nat} {args : List V} {c : Cx} {w0 : Bs} {w : World} {H : Hs} {K : Value → World → Prop} {Q : List PanicEntry → World → Prop} (hr : Rep c w0 w H) (hl : V.ltL H.next args) (h : RsOK c w0 H K Q (enterF P X call lf f args H)) : Goes P f args c w K Q := by
  unfold enterF at h
  split at h <;> first | exact h.elim | skip
  rename_i fn hfn
  have hf := funcV_ok hX.pv hfn
  split at h
  · rename_i bc hb
    exact .inl ⟨hX.body _ _ _ hf hb, fn_ok hX.pv hc hf hr hl h⟩
  · exact ext_ok hX hr h
theorem Goes.callX {f : FuncId} {first args cap : List V} {c : Cx} {w : World} {K : Value → World → Prop} {Q : List PanicEntry → World → Prop} (h : Goes P f (first ++ (args ++ cap)) c w K Q) : Sh.callX P ((V.fn f first cap).den c) (V.denL c args).toArray w K Q := by
  have harg : (V.denL c first).toArray ++ (V.denL c args).toArray ++ (V.denL c cap).toArray = (V.denL c (first ++ (args ++ cap))).toArray := by
    rw [denL_app, denL_app]
    simp
  simp only [V.den]
  unfold Sh.callX
  simp only
  rw [Sem.wp_iff_run]
  rcases h with ⟨hb, h⟩ | ⟨⟨v, w', h1, h2⟩, _⟩
  · have : (invoke (.fn (.func f) (V.denL c cap).toArray) ((V.denL c first).toArray ++ (V.denL c args).toArray)).run P w = .ok (.enter f (V.denL c (first ++ (args ++ cap))).toArray) w := by
      rw [← harg]
      simp only [invoke]
      exact run_callFunc hb
    rw [this]
    exact h
  · have : (invoke (.fn (.func f) (V.denL c cap).toArray) ((V.denL c first).toArray ++ (V.denL c args).toArray)).run P w = .ok (.value v) w' := by
      rw [← h1, ← harg]
      simp only [invoke]
    rw [this]
    exact h2
theorem Goes.enterV {f : FuncId} {first cap : List V} {b : Nat} {c : Cx} {w : World} {K : Value → World → Prop} (h : Goes P f (first ++ ([.yld b] ++ cap)) c w K fun _ _ => False) : Sh.enterV P ((V.fn f first cap).den c) (V.denL c [.yld b]).toArray w K := by
  have harg : (V.denL c first).toArray ++ (V.denL c [.yld b]).toArray ++ (V.denL c cap).toArray = (V.denL c (first ++ ([.yld b] ++ cap))).toArray := by
    rw [denL_app, denL_app]
    simp
  simp only [V.den]
  unfold Sh.enterV
  simp only
  rcases h with ⟨hb, h⟩ | ⟨_, h⟩
  · refine ⟨f, _, w, ?_, CallX.to_V h⟩
    rw [← harg]
    simp only [invoke]
    exact run_callFunc hb
  · obtain ⟨k, n, hh⟩ := h (.yld b) (by simp)
    cases hh
/-- A function that asks for no memory and leaves none. -/
theorem back_ok (hX : PX P X) {call : CallF} (hc : CallOK P call) {lf : Nat} {f : Nat} {args : List V} {c : Cx} {w0 : Bs} {w : World} {H : Hs} {K : Value → World → Prop} {Q : List PanicEntry → World → Prop} (hr : Rep c w0 w H) (hl : V.flatL args = true) (h : RsOK c w0 H K Q (backV H (enterF P X call lf f args H0))) : Goes P f args c w K Q := by
  cases hE : enterF P X call lf f args H0 with
  | no => rw [hE] at h; exact h.elim
  | pan v H' => rw [hE] at h; exact h.elim
  | ok v H' =>
    rw [hE] at h
    unfold backV at h
    simp only at h
    split at h <;> first | exact h.elim | skip
    rename_i hfl
    have hr0 : Rep c ⟨w, fun _ => False, fun _ => False⟩ w H0 := ⟨Ext.refl w, fun b o _ hg => (by rw [show H0.get b = none from Tr.get_nil b] at hg; cases hg), fun b o hb => absurd hb (Nat.not_lt_zero b), fun b o hb => absurd hb (Nat.not_lt_zero b), fun b b' o o' hb => absurd hb (Nat.not_lt_zero b), fun p hp => (by cases hp), by show (0 : Nat) < _; omega⟩
    refine enterF_ok (lf := lf) hX hc hr0 (flatL_lt args hl) ?_
    rw [hE]
    intro c' w' h1 h2 h3 h4
    have hb : Bl w w' := h3.bl.bl fun _ _ h => h
    rw [V.agr h1 v (flat_lt v hfl)]
    exact h c w' (Agr.refl _ _) (Nat.le_refl _) (hr.world hb) (flat_lt v hfl)
theorem clone_ok (hX : PX P X) {f : Nat} {b : Nat} {c : Cx} {w0 : Bs} {w : World} {H : Hs} {li : Nat} (hr : Rep c w0 w H) (hm : memN X.clones f = true) (hb : b < H.next) (hg : H.get b = some (.opq true li)) (hroom : roomB H = true) {K : Value → World → Prop} {Q : List PanicEntry → World → Prop} (h : RsOK c w0 H K Q (.ok (.slo H.next) (H.new (.opq true li)))) : Goes P f [.slo b] c w K Q := by
  obtain ⟨g1, g2⟩ := hX.clone f hm
  unfold roomB at hroom
  rw [Nat.ble_eq] at hroom
  obtain ⟨h1, h2⟩ := hr.at_ _ _ hb hg
  have h2 := h2 rfl
  refine .inl ⟨g1, CallX.of_V (g2 w _ _ _ _ h1 h2 K fun p' n' k' w' k1 k2 k3 => ?_)⟩
  have hrep := hr.seen (by omega) k1 k2 h2 k3
  have := h _ w' (c.addS_agr _ _) (Nat.le_succ _) hrep (Nat.lt_succ_self _)
  simpa [V.den, Cx.addS_sv] using this
theorem callFn_ok (hX : PX P X) {lf n : Nat} (hc : CallOK P (callV P X lf n)) {f : Nat} {first cap args : List V} {c : Cx} {w0 : Bs} {w : World} {H : Hs} (hr : Rep c w0 w H) (hl : (V.fn f first cap).lt H.next) (hargs : V.ltL H.next args) {K : Value → World → Prop} {Q : List PanicEntry → World → Prop} (h : RsOK c w0 H K Q (callV P X lf (n + 1) (.fn f first cap) args H)) : Goes P f (first ++ (args ++ cap)) c w K Q := by
  have hall : V.ltL H.next (first ++ (args ++ cap)) := ltL_app hl.1 (ltL_app hargs hl.2)
  simp only [callV] at h
  split at h
  · have hno : normL (first ++ (args ++ cap)) (fun args => backV H (enterF P X (callV P X lf n) lf f args H0)) ≠ .no := fun e => by rw [e] at h; exact h
    obtain ⟨h1, h2⟩ := normL_ok _ _ hno
    rw [h1] at h
    exact back_ok hX hc hr h2 h
  · split at h
    · rename_i b hm hb
      split at h <;> first | exact h.elim | skip
      rename_i li hg hroom
      rw [hb] at hall ⊢
      exact clone_ok hX hr hm hall.1 hg hroom h
    · exact enterF_ok hX hc hr hall h
theorem callV_ok (hX : PX P X) {lf : Nat} : ∀ n, CallOK P (callV P X lf n)
  | 0 => ⟨fun c w0 w H g args hr hg ha v H' h => (by cases h), fun c w0 w H g args hr hg ha v H' h => (by cases h), fun c w0 w H f first cap b hr hg hb v H' h => (by cases h)⟩
  | n + 1 => by
    have ih := callV_ok hX (lf := lf) n
    have all : ∀ (c : Cx) (w0 : Bs) (w : World) (H : Hs) (g : V) (args : List V), Rep c w0 w H → g.lt H.next → V.ltL H.next args → ∀ (K : Value → World → Prop) (Q : List PanicEntry → World → Prop), RsOK c w0 H K Q (callV P X lf (n + 1) g args H) → callX P (g.den c) (V.denL c args).toArray w K Q := fun c w0 w H g args hr hg ha K Q h => by
      by_cases h1 : ∃ f first cap, g = .fn f first cap
      · obtain ⟨f, first, cap, rfl⟩ := h1
        exact (callFn_ok hX ih hr hg ha h).callX
      · by_cases h2 : ∃ l, g = .yld l
        · obtain ⟨l, rfl⟩ := h2
          simp only [callV] at h
          split at h <;> first | exact h.elim | skip
          rename_i hget
          exact round_ok hX.pv ih hr hg hget ha h
        · exfalso
          cases g <;> first | exact h.elim | exact h1 ⟨_, _, _, rfl⟩ | exact h2 ⟨_, rfl⟩
    refine ⟨fun c w0 w H g args hr hg ha v H' h K Q hK => all c w0 w H g args hr hg ha K Q (by rw [h]; exact hK), fun c w0 w H g args hr hg ha v H' h K Q hK => all c w0 w H g args hr hg ha K Q (by rw [h]; exact hK), fun c w0 w H f first cap b hr hg hb v H' h K hK => ?_⟩
    exact (callFn_ok hX ih hr hg (args := [.yld b]) ⟨hb, trivial⟩ (K := K) (Q := fun _ _ => False) (by rw [h]; exact hK)).enterV
end
end Go.Proofs.YtgcicoebkjgfoaaGreatDoor.Rn

namespace Go.Proofs.YtgcicoebkjgfoaaGreatDoor.Rn
open Go Go.RowKit Go.Proofs.YtgcicoebkjgfoaaGreatDoor.Sh
set_option linter.unusedVariables false
set_option linter.unusedSimpArgs false
set_option maxRecDepth 100000
def bodiesB (P : Program) : Bool := (natsTo P.funcs.size 0).all fun f => match P.funcs[f]? with
  | some fn => !(fn.body.isSome) || hasBodyB P f
  | none => true
theorem bodies_ok {P : Program} (h : bodiesB P = true) : ∀ f fn c, P.funcs[f]? = some fn → fn.body = some c → hasBodyB P f = true := fun f fn c hf hb => by
  have hlt : f < P.funcs.size := (Array.getElem?_eq_some_iff.1 hf).1
  have hlt' : (f : Nat) < 0 + P.funcs.size := by rw [Nat.zero_add]; exact hlt
  have := List.all_eq_true.1 h f (natsTo_mem _ 0 f (Nat.zero_le _) hlt')
  rw [hf] at this
  simp only [hb, Option.isSome_some, Bool.not_true, Bool.false_or] at this
  exact this
theorem bodies : bodiesB Tryz.prog = true := by kernel_rfl
theorem three_run {P : Program} {name : String} {k1 k2 k3 : IntKind} {a b c : Nat} {w : World} (hc : c ≤ 1) : (Extern.MathBitsCarry.three name #[.int k1 (.ofNat a), .int k2 (.ofNat b), .int k3 (.ofNat c)]).run P w = .ok (a, b, c) w := by
  obtain rfl | rfl : c = 0 ∨ c = 1 := by omega
  · rfl
  · rfl
theorem add_run (k1 k2 k3 : IntKind) (a b c : Nat) (w : World) (hc : c ≤ 1) : (callFunc 184 #[.int k1 (.ofNat a), .int k2 (.ofNat b), .int k3 (.ofNat c)]).run Tryz.prog w = .ok (.value (.tuple #[.int .u64 (.ofNat ((a + b + c) % 18446744073709551616)), .int .u64 (.ofNat ((a + b + c) / 18446744073709551616))])) w := by
  rw [run_callFunc_extern (P := Tryz.prog) (f := 184) Tryz.func184 (by kernel_rfl) (by kernel_rfl) (by kernel_rfl) (e := add64Entry) (by kernel_rfl)]
  unfold add64Entry
  rw [Sem.run_bind, three_run hc]
  rfl
theorem sub_run (k1 k2 k3 : IntKind) (a b c : Nat) (w : World) (hc : c ≤ 1) : (callFunc 232 #[.int k1 (.ofNat a), .int k2 (.ofNat b), .int k3 (.ofNat c)]).run Tryz.prog w = .ok (.value (.tuple #[.int .u64 (.ofNat ((a + 18446744073709551616 - b - c) % 18446744073709551616)), .int .u64 (.ofNat (if a < b + c then 1 else 0))])) w := by
  rw [run_callFunc_extern (P := Tryz.prog) (f := 232) Tryz.func232 (by kernel_rfl) (by kernel_rfl) (by kernel_rfl) (e := fun args => do
    let (x, y, b) ← Extern.MathBitsCarry.three "Sub64" args
    pure (Extern.MathBitsCarry.pair ((x + Extern.MathBitsCarry.m64 - y - b) % Extern.MathBitsCarry.m64) (if x < y + b then 1 else 0))) (by kernel_rfl)]
  rw [Sem.run_bind, three_run hc]
  rfl
theorem pv : PV Tryz.prog := ⟨of_decide_eq_true (by kernel_rfl), of_decide_eq_true (by kernel_rfl)⟩
end Go.Proofs.YtgcicoebkjgfoaaGreatDoor.Rn

namespace Go.Proofs.YtgcicoebkjgfoaaGreatDoor.W
open Go Go.Proofs.YtgcicoebkjgfoaaGreatDoor.Sh
set_option linter.unusedVariables false
set_option maxRecDepth 100000

/-! 28 slices.Clone[[]byte,byte] -/
def F28 (a0p : Option Addr) (a0l : Nat) (a0c : Nat) (w : World) (R : Value → World → Prop) : Prop :=
  ifB (Option.isNone a0p) (R (.slice none 0 0) w) (allocK w (.cells #[] 5) fun w1 => semK Tryz.prog (Builtin.append_ #[24, 24] 24 #[(.slice (some ⟨w.heap.size, 0, none⟩) 0 0), (.slice a0p a0l a0c)]) w1 fun v1 w2 => asL v1 fun l1p l1l l1c => R (.slice l1p l1l l1c) w2)
def A28 (R : Value → World → Prop) : Ann := .no
theorem sides28 (R : Value → World → Prop) : fnSides Tryz.prog Tryz.f28 (A28 R) R := by
  trivial
theorem call28 (a0p : Option Addr) (a0l : Nat) (a0c : Nat) (w : World) (R : Value → World → Prop) (h : F28 a0p a0l a0c w R) : CallV Tryz.prog 28 #[(.slice a0p a0l a0c)] w R :=
  callV_of (fn := Tryz.f28) (an := A28 R) (args := [(.slice a0p a0l a0c)]) Tryz.func28 rfl (sides28 R) (Eq.mp (by kernel_rfl) h)
end Go.Proofs.YtgcicoebkjgfoaaGreatDoor.W

namespace Go.Proofs.YtgcicoebkjgfoaaGreatDoor.Rn
open Go Go.RowKit Go.Proofs.YtgcicoebkjgfoaaGreatDoor.Sh Go.Proofs.YtgcicoebkjgfoaaGreatDoor.W
set_option linter.unusedVariables false
set_option linter.unusedSimpArgs false
set_option maxRecDepth 100000
theorem u8s_one (l : List UInt8) : ∀ v ∈ u8s l, v.oneCell' = true := fun v hv => by
  obtain ⟨b, _, rfl⟩ := List.mem_map.1 hv
  rfl
theorem ifBt {T F : Prop} (h : T) : ifB true T F := h
theorem ifBf {T F : Prop} (h : F) : ifB false T F := h
theorem clone28 (w : World) (p : Option Addr) (n k : Nat) (l : List UInt8) (hs : Sees w 1 p n k (u8s l)) (hl : l.length ≤ 1073741824) (K : Value → World → Prop)
    (hK : ∀ p' n' k' w', Bl w w' → Sees w' 1 p' n' k' (u8s l) → (l ≠ [] → ∀ a, p' = some a → w.heap.size ≤ a.block) → K (.slice p' n' k') w') : CallV Tryz.prog 28 #[.slice p n k] w K := by
  refine call28 _ _ _ _ _ ?_
  unfold F28
  have hb := hs.bytes
  cases p with
  | none =>
    have h0 : n = 0 := by
      rcases Nat.eq_zero_or_pos n with h | h
      · exact h
      · obtain ⟨a, ha, _⟩ := hs.addr (by decide) h; cases ha
    subst h0
    have hl : l = [] := List.length_eq_zero_iff.1 hb.symm
    subst hl
    refine ifBt ?_
    exact hK none 0 0 w (Bl.refl w) (Sees.nil w 1) fun h => absurd rfl h
  | some a =>
    refine ifBf ?_
    have hh := Hp.start w
    with_reducible refine allocH hh fun w1 hh1 hb1 => ?_
    have hg := size_alloc w (.cells #[] 5)
    have hrow : RowZ w1 1 (.slice (some ⟨w.heap.size, 0, none⟩) 0 0) 5 0 [] := ⟨rfl, .inr ⟨w.heap.size, 0, #[], rfl, Nat.zero_le _, hh1.own List.mem_cons_self, Nat.zero_le _, by decide, rfl, rfl⟩⟩
    have hh2 : Hp None' w w1 (.row 1 (some ⟨w.heap.size, 0, none⟩) 0 0 5 [] :: []) := hh.add hb1 hrow fun i hi => by
      have hi : Blk (.slice (some ⟨w.heap.size, 0, none⟩) 0 0) i := hi
      unfold Blk at hi; simp [Value.ownBlock] at hi; omega
    refine appS (P := Tryz.prog) (t := 24) (e := 5) (zv := .int .u8 0) (by' := 1) hrow (hs.bl hb1) (by decide) (by kernel_rfl) (by kernel_rfl) (by kernel_rfl) (u8s_one l) (by omega) (by decide) fun q cap w2 hr he hq => ?_
    simp only [Nat.zero_add, List.nil_append] at hr hq
    refine kL ?_
    rw [Nat.zero_add]
    have hh3 : Hp None' w w2 (.row 1 q n cap 5 (u8s l) :: []) := hh2.turn .here he hr fun i hi => (hq i hi).imp id fun h => Nat.le_of_eq h.symm
    refine hK q n cap w2 (hh3.ext.bl fun _ _ h => h) hr.sees fun hne a ha => ?_
    subst ha
    rcases hh3.may _ List.mem_cons_self a.block (by
      show Blk (.slice (some a) n cap) a.block
      unfold Blk
      rcases hr.form with ⟨h1, h2⟩ | ⟨g, cap', h1, h2⟩
      · cases h1
      · cases h1
        rfl) with h | h
    · exact h.elim
    · exact h
theorem px : PX Tryz.prog ⟨[57, 50, 128, 58], 184, 232, [28]⟩ where
  pv := pv
  body := bodies_ok bodies
  add := fun k1 k2 k3 a b c w hc => ⟨w, add_run k1 k2 k3 a b c w hc, Bl.refl w⟩
  sub := fun k1 k2 k3 a b c w hc => ⟨w, sub_run k1 k2 k3 a b c w hc, Bl.refl w⟩
  clone := fun f hf => by
    have : f = 28 := by
      unfold memN at hf
      split at hf
      · rename_i h; exact (Nat.eq_of_beq_eq_true h).symm
      · cases hf
    subst this
    exact ⟨by kernel_rfl, clone28⟩
end Go.Proofs.YtgcicoebkjgfoaaGreatDoor.Rn

namespace Go.Proofs.YtgcicoebkjgfoaaGreatDoor.Rn
open Go Go.RowKit Go.Proofs.YtgcicoebkjgfoaaGreatDoor.Sh
set_option linter.unusedVariables false
set_option linter.unusedSimpArgs false
def X0 : Xs := ⟨[57, 50, 128, 58], 184, 232, [28]⟩
noncomputable def endB : Rs → V → Bool
  | .ok v _, r => V.beq v r
  | _, _ => false
theorem endB_ok {r : Rs} {v : V} (h : endB r v = true) : ∃ H', r = .ok v H' := by
  unfold endB at h
  split at h
  · rename_i v' H'; exact ⟨H', by rw [V.beq_eq h]⟩
  · cases h
def cx0 (ints : Nat → Int) (bools : Nat → Bool) (lists : Nat → List UInt8) (sv : Nat → Option Addr × Nat × Nat) : Cx := ⟨fun _ => 0, fun _ => 0, fun _ => 0, ints, bools, lists, sv, fun _ _ => undef, fun _ => default⟩
/-- At first nothing may be turned. -/
def bs0 (W : World) : Bs := ⟨W, fun _ => False, fun k => k < W.heap.size⟩
theorem rep0 {c : Cx} {W : World} {E : List (Bx × Bool)} (h : ∀ p ∈ E, p.1.den c = p.2) : Rep c (bs0 W) W ⟨0, .nil, .nil, E⟩ :=
  ⟨Ext.refl W, fun b o _ hg => (by rw [show Hs.get ⟨0, .nil, .nil, E⟩ b = none from Tr.get_nil b] at hg; cases hg), fun b o hb => absurd hb (Nat.not_lt_zero b), fun b o hb => absurd hb (Nat.not_lt_zero b), fun b b' o o' hb => absurd hb (Nat.not_lt_zero b), h, by show (0 : Nat) < _; omega⟩
theorem path_run {f : Nat} {args : List V} {H : Hs} {r : V} {c : Cx} {W : World} (hr : Rep c (bs0 W) W H) (ha : V.ltL H.next args) (hne : ∃ a ∈ args, ∀ k n, a ≠ .int k n) (h : endB (callV Tryz.prog X0 100000 100 (.fn f [] []) args H) r = true) :
    Calls Tryz.prog f (V.denL c args).toArray W fun e W' => (∃ c', Agr H.next c c' ∧ e = .returned (r.den c')) ∧ Below W.heap.size W W' := by
  obtain ⟨H', hrun⟩ := endB_ok h
  have hg := callFn_ok px (n := 99) (callV_ok px 99) hr ⟨trivial, trivial⟩ ha (K := fun v w' => (∃ c', Agr H.next c c' ∧ v = r.den c') ∧ Below W.heap.size W w') (Q := fun _ _ => False) (f := f) (first := []) (cap := []) (args := args) (lf := 100000) (by
    have hrun' : callV Tryz.prog ⟨[57, 50, 128, 58], 184, 232, [28]⟩ 100000 (99 + 1) (.fn f [] []) args H = .ok r H' := hrun
    rw [hrun']
    exact fun c' w' h1 h2 h3 h4 => ⟨⟨c', h1, rfl⟩, h3.bl.bl fun _ _ h => h⟩)
  simp only [List.nil_append, List.append_nil] at hg
  rcases hg with ⟨_, hg⟩ | ⟨_, hg⟩
  · refine Calls.mono (CallX.to_V hg) ?_
    rintro e W' ⟨v, rfl, ⟨c', h1, h2⟩, h3⟩
    exact ⟨⟨c', h1, by rw [h2]⟩, h3⟩
  · obtain ⟨a, h1, h2⟩ := hne
    obtain ⟨k, n, h3⟩ := hg a h1
    exact absurd h3 (h2 k n)
end Go.Proofs.YtgcicoebkjgfoaaGreatDoor.Rn

namespace Go.Proofs.YtgcicoebkjgfoaaGreatDoor.Rn
open Go Go.RowKit Go.Proofs.YtgcicoebkjgfoaaGreatDoor.Sh
set_option linter.unusedVariables false
set_option linter.unusedSimpArgs false
noncomputable def ho1 (sm : Bool) (E : List (Bx × Bool)) : Hs := ⟨1, Tr.nil.put 0 (.opq sm 0), .nil, E⟩
theorem ho1_get {sm : Bool} {E : List (Bx × Bool)} {b : Nat} (hb : b < 1000000000) : (ho1 sm E).get b = if b = 0 then some (.opq sm 0) else none := by
  show (Tr.nil.put 0 (O.opq sm 0)).get b = _
  rw [Tr.get_put _ _ (by omega) hb]
  split
  · rfl
  · exact Tr.get_nil b
theorem rep1 {c : Cx} {W : World} {E : List (Bx × Bool)} {sm : Bool} (hs : Sees W 1 (c.sv 0).1 (c.sv 0).2.1 (c.sv 0).2.2 (u8s (c.lists 0))) (hsm : sm = true → (c.lists 0).length ≤ 1073741824) (h : ∀ p ∈ E, p.1.den c = p.2) : Rep c (bs0 W) W (ho1 sm E) := by
  refine ⟨Ext.refl W, fun b o hb hg => ?_, fun b o hb hg => ?_, fun b o hb hg k hk => ?_, fun b b' o o' hb hb' hg hg' hne => ?_, h, by show (1 : Nat) < _; omega⟩
  · rw [ho1_get hb] at hg
    split at hg
    · rename_i e; cases hg; exact ⟨by rw [e]; exact Nat.one_pos, trivial⟩
    · cases hg
  · have hb : b < 1 := hb
    obtain rfl : b = 0 := by omega
    rw [ho1_get (by omega), if_pos rfl] at hg
    cases hg
    exact ⟨hs, hsm⟩
  · have hb : b < 1 := hb
    obtain rfl : b = 0 := by omega
    rw [ho1_get (by omega), if_pos rfl] at hg
    cases hg
    obtain ⟨h1, a, h2, rfl⟩ := hk
    refine .inr (.inr ⟨fun h => h, ?_⟩)
    have hl : 0 < (c.lists 0).length := List.length_pos_iff.2 h1
    have hx : ∃ u, (u8s (c.lists 0))[0]? = some u := ⟨_, List.getElem?_eq_getElem (by rw [u8s_len]; exact hl)⟩
    obtain ⟨u, hu⟩ := hx
    obtain ⟨a', ha', hc⟩ := hs.at_ 0 u hu
    rw [h2] at ha'
    cases ha'
    have hn : 0 < (c.sv 0).2.1 := by have := hs.bytes; omega
    obtain ⟨a', ha', hlt⟩ := hs.addr (by decide) hn
    rw [h2] at ha'
    cases ha'
    exact hlt
  · have hb : b < 1 := hb
    have hb' : b' < 1 := hb'
    omega
end Go.Proofs.YtgcicoebkjgfoaaGreatDoor.Rn

namespace Go.Proofs.YtgcicoebkjgfoaaGreatDoor.Rn
open Go Go.RowKit Go.Proofs.YtgcicoebkjgfoaaGreatDoor.Sh
set_option linter.unusedVariables false
set_option linter.unusedSimpArgs false
def allE (c : Cx) : List (Bx × Bool) → Prop
  | [] => True
  | (b, o) :: l => b.den c = o ∧ allE c l
theorem allE_ok {c : Cx} : ∀ {E : List (Bx × Bool)}, allE c E → ∀ q ∈ E, q.1.den c = q.2
  | (b, o) :: l, h, q, hq => by
    rcases List.mem_cons.1 hq with rfl | hq
    · exact h.1
    · exact allE_ok h.2 q hq
theorem eq_t {c : Cx} {a b : Sx} (h : a.den c = b.den c) : (Bx.cmp .eql a b).den c = true := beq_iff_eq.2 h
theorem eq_f {c : Cx} {a b : Sx} (h : a.den c ≠ b.den c) : (Bx.cmp .eql a b).den c = false := beq_eq_false_iff_ne.2 h
theorem not_t {c : Cx} {a : Bx} (h : a.den c = false) : (Bx.not a).den c = true := by simp only [Bx.den, h]; rfl
theorem not_f {c : Cx} {a : Bx} (h : a.den c = true) : (Bx.not a).den c = false := by simp only [Bx.den, h]; rfl
theorem gt_t {c : Cx} {a b : Sx} (h : a.den c > b.den c) : (Bx.cmp .gtr a b).den c = true := decide_eq_true h
theorem gt_f {c : Cx} {a b : Sx} (h : ¬ a.den c > b.den c) : (Bx.cmp .gtr a b).den c = false := decide_eq_false h
theorem lt_t {c : Cx} {a b : Sx} (h : a.den c < b.den c) : (Bx.cmp .lss a b).den c = true := decide_eq_true h
theorem lt_f {c : Cx} {a b : Sx} (h : ¬ a.den c < b.den c) : (Bx.cmp .lss a b).den c = false := decide_eq_false h
end Go.Proofs.YtgcicoebkjgfoaaGreatDoor.Rn

namespace Go.Proofs.YtgcicoebkjgfoaaGreatDoor.Sh
open Go Go.RowKit Go.ChangeShapes
set_option linter.unusedVariables false
set_option linter.unusedSimpArgs false
inductive Leaf where
  | int (k : IntKind)
  | bool
  | bytes (z : Nat)
def isU8 : Leaf → Bool
  | .int .u8 => true
  | _ => false
def fldL (P : Program) (r : TypeId → Option (List Leaf)) : Nat → List Field → Option (List Leaf)
  | _, [] => some []
  | o, f :: fs => match r f.type with
    | some l => match fldL P r (o + l.length) fs with
      | some l' => match Nat.beq f.offset o && Nat.beq (P.cellsOf f.type) l.length with
        | true => some (l ++ l')
        | false => none
      | none => none
    | none => none
def repL (l : List Leaf) : Nat → List Leaf
  | 0 => []
  | n + 1 => l ++ repL l n
def leaves (P : Program) : Nat → TypeId → Option (List Leaf)
  | 0, _ => none
  | d + 1, t => match P.underlying t with
    | some (.int k) => some [.int k]
    | some .bool => some [.bool]
    | some (.slice e) => match leaves P d e with
      | some l => match l.all isU8 && (Nat.beq (P.cellsOf e) l.length && Nat.ble 1 l.length) with
        | true => some [.bytes l.length]
        | false => none
      | none => none
    | some (.struct fs) => match fldL P (leaves P d) 0 fs.toList with
      | some l => match Nat.beq (P.cellsOf t) l.length with | true => some l | false => none
      | none => none
    | some (.array n e) => match leaves P d e with
      | some l => match Nat.beq (P.cellsOf e) l.length && Nat.beq (P.cellsOf t) (n * l.length) with
        | true => some (repL l n)
        | false => none
      | none => none
    | _ => none
def LeafOK (w : World) : Leaf → Value → Prop
  | .int k, v => ∃ n, v = .int k n ∧ (Lit.int k n).wf = true
  | .bool, v => ∃ b, v = .bool b
  | .bytes z, v => ∃ p n c l, v = .slice p n c ∧ 0 < z ∧ n ≤ maxLen ∧ Sees w z p n c (u8s l)
/-- Leaf by leaf. -/
def LvsOK (w : World) : List Leaf → List Value → Prop
  | [], [] => True
  | l :: ls, v :: vs => LeafOK w l v ∧ LvsOK w ls vs
  | _, _ => False
theorem LvsOK.len {w : World} : ∀ {ls : List Leaf} {vs : List Value}, LvsOK w ls vs → vs.length = ls.length
  | [], [], _ => rfl
  | l :: ls, v :: vs, h => by rw [List.length_cons, List.length_cons, LvsOK.len h.2]
  | [], _ :: _, h => h.elim
  | _ :: _, [], h => h.elim
theorem LvsOK.app {w : World} : ∀ {ls ls' : List Leaf} {vs vs' : List Value}, LvsOK w ls vs → LvsOK w ls' vs' → LvsOK w (ls ++ ls') (vs ++ vs')
  | [], ls', [], vs', _, h => h
  | l :: ls, ls', v :: vs, vs', h, h' => ⟨h.1, LvsOK.app h.2 h'⟩
  | [], _, _ :: _, _, h, _ => h.elim
  | _ :: _, _, [], _, h, _ => h.elim
theorem lvs_u8 {w : World} : ∀ {ls : List Leaf} {vs : List Value}, ls.all isU8 = true → LvsOK w ls vs → ∃ bs : List UInt8, vs = u8s bs
  | [], [], _, _ => ⟨[], rfl⟩
  | l :: ls, v :: vs, ha, h => by
    simp only [List.all_cons, Bool.and_eq_true] at ha
    obtain ⟨bs, rfl⟩ := lvs_u8 ha.2 h.2
    have h1 := h.1
    have hl : l = .int .u8 := by
      have := ha.1
      unfold isU8 at this
      split at this
      · rfl
      · cases this
    subst hl
    obtain ⟨n, rfl, hw⟩ := h1
    refine ⟨UInt8.ofNat n.toNat :: bs, ?_⟩
    have := u8_of (xs := [n]) (fun m hm => by simp only [List.mem_cons, List.not_mem_nil, or_false] at hm; rw [hm]; exact hw)
    simp only [List.map_cons, List.map_nil] at this
    simp only [u8s, List.map_cons]
    rw [show u8s [UInt8.ofNat n.toNat] = [Value.int .u8 ((UInt8.ofNat n.toNat).toNat : Int)] from rfl] at this
    injection this with h1 _
    rw [h1]
  | [], _ :: _, _, h => h.elim
  | _ :: _, [], _, h => h.elim
section
variable {H : Type} {enc : TypeId × Value → H} {P : Program} {w : World} {base b0 : Nat} {sp : Nat → Bool} {held : Bool}
theorem fld_ok {r : TypeId → List Value → Option (DataW H × List MemPlace)} {g : TypeId → Option (List Leaf)} (hr : ∀ t cs y l, g t = some l → r t cs = some y → LvsOK w l cs) {cs : List Value} : ∀ {fs : List Field} {o : Nat} {ls : List Leaf} {ys : List (DataW H × List MemPlace)}, fldL P g o fs = some ls → o + ls.length ≤ cs.length → fs.mapM (fun f => r f.type ((cs.drop f.offset).take (P.cellsOf f.type))) = some ys → LvsOK w ls ((cs.drop o).take ls.length)
  | [], o, ls, ys, h, hl, hy => by
    simp only [fldL, Option.some.injEq] at h
    subst h
    simp [LvsOK]
  | f :: fs, o, ls, ys, h, hl, hy => by
    rw [fldL] at h
    cases hg : g f.type with
    | none => rw [hg] at h; cases h
    | some l =>
      rw [hg] at h
      simp only at h
      cases hf : fldL P g (o + l.length) fs with
      | none => rw [hf] at h; cases h
      | some l' =>
        rw [hf] at h
        simp only at h
        cases hb : Nat.beq f.offset o && Nat.beq (P.cellsOf f.type) l.length with
        | false => rw [hb] at h; cases h
        | true =>
          rw [hb] at h
          simp only [Option.some.injEq] at h
          subst h
          rw [Bool.and_eq_true] at hb
          rw [List.length_append] at hl
          simp only [List.mapM_cons, Option.bind_eq_bind, Option.bind_eq_some_iff] at hy
          obtain ⟨y, hy1, ys', hy2, _⟩ := hy
          rw [Nat.eq_of_beq_eq_true hb.1, Nat.eq_of_beq_eq_true hb.2] at hy1
          have k1 := hr _ _ _ _ hg hy1
          have k2 := fld_ok hr hf (by omega) hy2
          rw [List.length_append, List.take_add, List.drop_drop]
          exact k1.app k2
theorem arr_ok {r : TypeId → List Value → Option (DataW H × List MemPlace)} {e : TypeId} {l : List Leaf} (hr : ∀ cs y, r e cs = some y → LvsOK w l cs) {cs : List Value} : ∀ {n o : Nat}, cs.length = (o + n) * l.length → (∀ i, o ≤ i → i < o + n → ∃ y, r e ((cs.drop (i * l.length)).take l.length) = some y) → LvsOK w (repL l n) (cs.drop (o * l.length))
  | 0, o, hl, h => by
    rw [List.drop_eq_nil_of_le (by rw [hl]; exact Nat.le_refl _)]
    trivial
  | n + 1, o, hl, h => by
    obtain ⟨y, hy⟩ := h o (Nat.le_refl _) (by omega)
    have k1 := hr _ _ hy
    have k2 := arr_ok hr (n := n) (o := o + 1) (by rw [hl]; congr 1; omega) (fun i h1 h2 => h i (by omega) (by omega))
    have : cs.drop (o * l.length) = (cs.drop (o * l.length)).take l.length ++ cs.drop ((o + 1) * l.length) := by
      conv => lhs; rw [← List.take_append_drop l.length (cs.drop (o * l.length))]
      rw [List.drop_drop, Nat.add_mul, Nat.one_mul]
    rw [this]
    exact k1.app k2
theorem trod_leaves : ∀ (d : Nat) {t : TypeId} {fuel : Nat} {cs : List Value} {y : DataW H × List MemPlace} {ls : List Leaf}, leaves P d t = some ls → DataW.trod enc P w base sp held fuel t cs = some y → LvsOK w ls cs
  | 0, t, fuel, cs, y, ls, h, hy => by cases h
  | d + 1, t, 0, cs, y, ls, h, hy => by simp [DataW.trod] at hy
  | d + 1, t, m + 1, cs, y, ls, h, hy => by
    rw [leaves] at h
    have hy0 := hy
    rw [DataW.trod_step] at hy
    unfold DataW.trodStep at hy
    cases hu : P.underlying t with
    | none => rw [hu] at h; cases h
    | some u =>
      rw [hu] at h
      simp only [hu] at hy
      cases u <;> first | (cases h; done) | skip
      case bool =>
        simp only [Option.some.injEq] at h
        subst h
        split at hy <;> simp_all [LvsOK, LeafOK]
      case int k =>
        simp only [Option.some.injEq] at h
        subst h
        obtain ⟨n, rfl, _, hw⟩ := DataW.trod_int hu hy0
        exact ⟨⟨n, rfl, hw⟩, trivial⟩
      case slice e =>
        simp only at h
        cases hg : leaves P d e with
        | none => rw [hg] at h; cases h
        | some l =>
          rw [hg] at h
          simp only at h
          cases hq : l.all isU8 && (Nat.beq (P.cellsOf e) l.length && Nat.ble 1 l.length) with
          | false => rw [hq] at h; cases h
          | true =>
            rw [hq] at h
            simp only [Option.some.injEq] at h
            subst h
            simp only [Bool.and_eq_true, Nat.ble_eq] at hq
            obtain ⟨q1, q2, q3⟩ := hq
            have hc := Nat.eq_of_beq_eq_true q2
            rcases DataW.trod_slice hu hy0 with ⟨rfl, _⟩ | ⟨a, len, cap, elems, rest, n, hn, rfl, _, _, hle, hm, hlen, hel, _⟩
            · exact ⟨⟨none, 0, 0, [], rfl, q3, Nat.zero_le _, Sees.nil w _⟩, trivial⟩
            · refine ⟨?_, trivial⟩
              have each : ∀ i, i < len → ∃ bs : List UInt8, bs.length = l.length ∧ ∀ j v, (u8s bs)[j]? = some v → w.cell? ((a.add (i * l.length)).add j) = some v := fun i hi => by
                have h1 := hel i hi
                rw [hc] at h1
                obtain ⟨z, hz⟩ : ∃ z, elems[i]? = some z := ⟨_, List.getElem?_eq_getElem (by omega)⟩
                rw [hz, Option.bind_eq_some_iff] at h1
                obtain ⟨xs, hxs, h2⟩ := h1
                obtain ⟨bs, hbs⟩ := lvs_u8 q1 (trod_leaves d hg h2)
                have hl2 := (trod_leaves d hg h2).len
                subst hbs
                rw [u8s_len] at hl2
                refine ⟨bs, hl2, fun j v hv => ?_⟩
                have hg3 := (World.cells?_some hxs).2.2 j (by have := (List.getElem?_eq_some_iff.1 hv).1; rw [u8s_len] at this; omega)
                rw [hg3]
                exact hv
              obtain ⟨bs, b1, b2⟩ : ∃ bs : List UInt8, bs.length = len * l.length ∧ ∀ j v, (u8s bs)[j]? = some v → w.cell? (a.add j) = some v := by
                have : ∀ k, k ≤ len → ∃ bs : List UInt8, bs.length = k * l.length ∧ ∀ j v, (u8s bs)[j]? = some v → w.cell? (a.add j) = some v := fun k => by
                  induction k with
                  | zero => intro _; exact ⟨[], by simp, fun j v hv => by simp [u8s] at hv⟩
                  | succ k ih =>
                    intro hk
                    obtain ⟨bs, e1, e2⟩ := ih (by omega)
                    obtain ⟨cs, f1, f2⟩ := each k (by omega)
                    refine ⟨bs ++ cs, by rw [List.length_append, e1, f1, Nat.add_mul, Nat.one_mul], fun j v hv => ?_⟩
                    have hap : u8s (bs ++ cs) = u8s bs ++ u8s cs := by simp [u8s]
                    rw [hap] at hv
                    by_cases hj : j < k * l.length
                    · rw [List.getElem?_append_left (by rw [u8s_len, e1]; exact hj)] at hv
                      exact e2 j v hv
                    · rw [List.getElem?_append_right (by rw [u8s_len, e1]; omega), u8s_len, e1] at hv
                      have := f2 _ _ hv
                      rw [addAdd, show k * l.length + (j - k * l.length) = j by omega] at this
                      exact this
                exact this len (Nat.le_refl _)
              exact ⟨some a, len, cap, bs, rfl, q3, by omega, ⟨by rw [u8s_len, b1], hle, fun j v hv => ⟨a, rfl, b2 j v hv⟩⟩⟩
      case struct fs =>
        simp only at h
        cases hf : fldL P (leaves P d) 0 fs.toList with
        | none => rw [hf] at h; cases h
        | some l =>
          rw [hf] at h
          simp only at h
          cases hb : Nat.beq (P.cellsOf t) l.length with
          | false => rw [hb] at h; cases h
          | true =>
            rw [hb] at h
            simp only [Option.some.injEq] at h
            subst h
            have hb := Nat.eq_of_beq_eq_true hb
            simp only at hy
            by_cases hl : cs.length = P.cellsOf t
            · rw [if_pos hl, Option.map_eq_some_iff] at hy
              obtain ⟨ys, hy1, _⟩ := hy
              have := fld_ok (P := P) (g := leaves P d) (fun t cs y l h1 h2 => trod_leaves d h1 h2) hf (by omega) hy1
              rw [List.drop_zero, List.take_of_length_le (by omega)] at this
              exact this
            · rw [if_neg hl] at hy; cases hy
      case array n e =>
        simp only at h
        cases hg : leaves P d e with
        | none => rw [hg] at h; cases h
        | some l =>
          rw [hg] at h
          simp only at h
          cases hb : Nat.beq (P.cellsOf e) l.length && Nat.beq (P.cellsOf t) (n * l.length) with
          | false => rw [hb] at h; cases h
          | true =>
            rw [hb] at h
            simp only [Option.some.injEq] at h
            subst h
            rw [Bool.and_eq_true] at hb
            have hb1 := Nat.eq_of_beq_eq_true hb.1
            have hb2 := Nat.eq_of_beq_eq_true hb.2
            simp only at hy
            by_cases hl : cs.length = P.cellsOf t
            · rw [if_pos hl, Option.map_eq_some_iff] at hy
              obtain ⟨ys, hy1, _⟩ := hy
              have hal : ∀ i, i < n → ∃ y, DataW.trod enc P w base sp held m e ((cs.drop (i * l.length)).take l.length) = some y := fun i hi => by
                have : ∀ {xs : List Nat} {ys : List (DataW H × List MemPlace)}, xs.mapM (fun i => DataW.trod enc P w base sp held m e ((cs.drop (i * P.cellsOf e)).take (P.cellsOf e))) = some ys → ∀ i ∈ xs, ∃ y, DataW.trod enc P w base sp held m e ((cs.drop (i * P.cellsOf e)).take (P.cellsOf e)) = some y := fun {xs} => by
                  induction xs with
                  | nil => intro ys _ i hi; cases hi
                  | cons x xs ih =>
                    intro ys hys i hi
                    simp only [List.mapM_cons, Option.bind_eq_bind, Option.bind_eq_some_iff] at hys
                    obtain ⟨y, hy1, ys', hy2, _⟩ := hys
                    rcases List.mem_cons.1 hi with rfl | hi
                    · exact ⟨y, hy1⟩
                    · exact ih hy2 i hi
                have := this hy1 i (List.mem_range.2 hi)
                rw [hb1] at this
                exact this
              have := arr_ok (n := n) (o := 0) (fun cs y h2 => trod_leaves d hg h2) (by rw [hl, hb2, Nat.zero_add]) (fun i _ hi => hal i (by omega))
              rw [Nat.zero_mul, List.drop_zero] at this
              exact this
            · rw [if_neg hl] at hy; cases hy
def aggB (P : Program) (t : TypeId) : Bool := match P.underlying t with
  | some (.struct _) => true
  | some (.array _ _) => true
  | _ => false
theorem aggB_ok {t : TypeId} (h : aggB P t = true) : (∃ fs, P.underlying t = some (.struct fs)) ∨ ∃ n e, P.underlying t = some (.array n e) := by
  unfold aggB at h
  split at h
  · rename_i fs hu; exact .inl ⟨fs, hu⟩
  · rename_i n e hu; exact .inr ⟨n, e, hu⟩
  · cases h
/-- A struct or an array, opened. -/
theorem open_agg {t : TypeId} {r : Reach} {v : Value} {dd : DataW H} {ps : List MemPlace} {d : Nat} {ls : List Leaf} (ha : aggB P t = true) (hl : leaves P d t = some ls)
    (hval : Value.okWide P w r b0 t v) (h : DataW.Trod enc P w base sp held t v dd ps) : ∃ cs : List Value, v = .agg cs.toArray ∧ LvsOK w ls cs := by
  obtain ⟨fuel, hf⟩ := h
  have hcs : ∃ cs, v = .agg cs := by
    unfold Value.okWide at hval
    rcases aggB_ok ha with ⟨fs, hu⟩ | ⟨n, e, hu⟩
    · simp only [hu] at hval
      obtain ⟨cs, rfl, _⟩ := hval
      exact ⟨cs, rfl⟩
    · simp only [hu] at hval
      obtain ⟨cs, rfl, _⟩ := hval
      exact ⟨cs, rfl⟩
  obtain ⟨cs, rfl⟩ := hcs
  exact ⟨cs.toList, by simp, trod_leaves d hl hf⟩
/-- A row of elements of bytes, opened. -/
theorem open_rows {s e : TypeId} {r : Reach} {v : Value} {dd : DataW H} {ps : List MemPlace} {d z : Nat} (hs : P.underlying s = some (.slice e)) (hl : leaves P d s = some [.bytes z])
    (hval : Value.okWide P w r b0 s v) (h : DataW.Trod enc P w base sp held s v dd ps) : ∃ p n c l, v = .slice p n c ∧ 0 < z ∧ n ≤ maxLen ∧ Sees w z p n c (u8s l) := by
  obtain ⟨p, n, c, rfl⟩ := WideShapes.okWide_slice hs hval
  obtain ⟨fuel, hf⟩ := h
  have := trod_leaves d hl hf
  simp only [Value.cells, LvsOK, LeafOK] at this
  obtain ⟨⟨p', n', c', l, h1, h2⟩, _⟩ := this
  cases h1
  exact ⟨_, _, _, l, rfl, h2⟩
end
end Go.Proofs.YtgcicoebkjgfoaaGreatDoor.Sh

namespace Go.Proofs.YtgcicoebkjgfoaaGreatDoor.Rn
open Go Go.RowKit Go.Proofs.YtgcicoebkjgfoaaGreatDoor.Sh
set_option linter.unusedVariables false
set_option linter.unusedSimpArgs false
/-- Marks: numbers and truth values from i on, rows from b on. -/
def symL : List Leaf → Nat → Nat → List V
  | [], _, _ => []
  | .int k :: l, i, b => .sint k (.var i) :: symL l (i + 1) b
  | .bool :: l, i, b => .sbool (.var i) :: symL l (i + 1) b
  | .bytes _ :: l, i, b => .slo b :: symL l i (b + 1)
structure Ms where
  ints : Nat → Int
  bools : Nat → Bool
  lists : Nat → List UInt8
  sv : Nat → Option Addr × Nat × Nat
def Ms.cx (m : Ms) : Cx := cx0 m.ints m.bools m.lists m.sv
def symOK (W : World) (m : Ms) : List Leaf → Nat → Nat → Prop
  | [], _, _ => True
  | .int k :: l, i, b => (Lit.int k (m.ints i)).wf = true ∧ symOK W m l (i + 1) b
  | .bool :: l, i, b => symOK W m l (i + 1) b
  | .bytes z :: l, i, b => (0 < z ∧ (m.sv b).2.1 ≤ maxLen ∧ Sees W z (m.sv b).1 (m.sv b).2.1 (m.sv b).2.2 (u8s (m.lists b))) ∧ symOK W m l i (b + 1)
/-- The same below. -/
structure Ms.Sm (i b : Nat) (m m' : Ms) : Prop where
  ints : ∀ j, j < i → m'.ints j = m.ints j
  bools : ∀ j, j < i → m'.bools j = m.bools j
  lists : ∀ j, j < b → m'.lists j = m.lists j
  sv : ∀ j, j < b → m'.sv j = m.sv j
theorem sym_of {W : World} : ∀ {ls : List Leaf} {cs : List Value} {i b : Nat} (m : Ms), LvsOK W ls cs → ∃ m', Ms.Sm i b m m' ∧ cs = V.denL m'.cx (symL ls i b) ∧ symOK W m' ls i b
  | [], [], i, b, m, _ => ⟨m, ⟨fun _ _ => rfl, fun _ _ => rfl, fun _ _ => rfl, fun _ _ => rfl⟩, rfl, trivial⟩
  | .int k :: ls, v :: cs, i, b, m, h => by
    obtain ⟨⟨n, rfl, hw⟩, h2⟩ := h
    obtain ⟨m', s, e, o⟩ := sym_of (i := i + 1) (b := b) { m with ints := fun j => if j = i then n else m.ints j } h2
    have hi : m'.ints i = n := by rw [s.ints i (by omega)]; simp
    refine ⟨m', ⟨fun j hj => by rw [s.ints j (by omega)]; simp only; rw [if_neg (by omega)], fun j hj => s.bools j (by omega), s.lists, s.sv⟩, ?_, by show (Lit.int k (m'.ints i)).wf = true; rw [hi]; exact hw, o⟩
    rw [symL, V.denL, ← e]
    show Value.int k n :: cs = Value.int k (m'.ints i) :: cs
    rw [hi]
  | .bool :: ls, v :: cs, i, b, m, h => by
    obtain ⟨⟨n, rfl⟩, h2⟩ := h
    obtain ⟨m', s, e, o⟩ := sym_of (i := i + 1) (b := b) { m with bools := fun j => if j = i then n else m.bools j } h2
    have hi : m'.bools i = n := by rw [s.bools i (by omega)]; simp
    refine ⟨m', ⟨fun j hj => s.ints j (by omega), fun j hj => by rw [s.bools j (by omega)]; simp only; rw [if_neg (by omega)], s.lists, s.sv⟩, ?_, o⟩
    rw [symL, V.denL, ← e]
    show Value.bool n :: cs = Value.bool (m'.bools i) :: cs
    rw [hi]
  | .bytes z :: ls, v :: cs, i, b, m, h => by
    obtain ⟨⟨p, n, c, l, rfl, hz, hm, hs⟩, h2⟩ := h
    obtain ⟨m', s, e, o⟩ := sym_of (i := i) (b := b + 1) { m with lists := fun j => if j = b then l else m.lists j, sv := fun j => if j = b then (p, n, c) else m.sv j } h2
    have hi : m'.lists b = l := by rw [s.lists b (by omega)]; simp
    have hj : m'.sv b = (p, n, c) := by rw [s.sv b (by omega)]; simp
    refine ⟨m', ⟨s.ints, s.bools, fun j hj => by rw [s.lists j (by omega)]; simp only; rw [if_neg (by omega)], fun j hj => by rw [s.sv j (by omega)]; simp only; rw [if_neg (by omega)]⟩, ?_, ⟨hz, by rw [hj]; exact hm, by rw [hj, hi]; exact hs⟩, o⟩
    rw [symL, V.denL, ← e]
    show Value.slice p n c :: cs = Value.slice (m'.sv b).1 (m'.sv b).2.1 (m'.sv b).2.2 :: cs
    rw [hj]
  | [], _ :: _, _, _, _, h => h.elim
  | _ :: _, [], _, _, _, h => h.elim
def ms0 : Ms := ⟨fun _ => 0, fun _ => true, fun _ => [], fun _ => (none, 0, 0)⟩
end Go.Proofs.YtgcicoebkjgfoaaGreatDoor.Rn

namespace Go.Proofs.YtgcicoebkjgfoaaGreatDoor.Rn
open Go Go.RowKit Go.Proofs.YtgcicoebkjgfoaaGreatDoor.Sh
set_option linter.unusedVariables false
set_option linter.unusedSimpArgs false
section
variable {c : Cx}
theorem w64 {x : Int} (h0 : 0 ≤ x) (h1 : x < 18446744073709551616) : IntKind.u64.wrap x = x := by rw [u64w]; omega
theorem add_den {a b : Sx} {x y : Int} (ha : a.den c = x) (hb : b.den c = y) (h0 : 0 ≤ x + y) (h1 : x + y < 18446744073709551616) : (Sx.bin .add .u64 a b).den c = x + y := by
  show IntKind.u64.wrap (a.den c + b.den c) = _
  rw [ha, hb, w64 h0 h1]
theorem sub_den {a b : Sx} {x y : Int} (ha : a.den c = x) (hb : b.den c = y) (h0 : 0 ≤ x - y) (h1 : x - y < 18446744073709551616) : (Sx.bin .sub .u64 a b).den c = x - y := by
  show IntKind.u64.wrap (a.den c - b.den c) = _
  rw [ha, hb, w64 h0 h1]
/-- Gas paid step by step. -/
def payS (s : Sx) : List Nat → Sx
  | [] => s
  | n :: l => payS (.bin .sub .u64 s (.lit (.ofNat n))) l
def sumN : List Nat → Nat
  | [] => 0
  | n :: l => n + sumN l
theorem pay_den : ∀ {l : List Nat} {s : Sx} {x : Int}, s.den c = x → (sumN l : Int) ≤ x → x < 18446744073709551616 → (payS s l).den c = x - sumN l
  | [], s, x, h, _, _ => by simp [payS, sumN, h]
  | n :: l, s, x, h, h1, h2 => by
    simp only [sumN] at h1 ⊢
    have : (Sx.bin .sub .u64 s (.lit (.ofNat n))).den c = x - (n : Int) := sub_den h rfl (by omega) (by omega)
    rw [payS, pay_den this (by omega) (by omega)]
    omega
theorem pay_f {s : Sx} {x : Int} {n : Nat} (l : List Nat) (h : s.den c = x) (h1 : (n + sumN l : Int) ≤ x) (h2 : x < 18446744073709551616) : (Bx.cmp .gtr (.lit (.ofNat n)) (payS s l)).den c = false := by
  refine gt_f ?_
  rw [pay_den h (by omega) h2]
  show ¬ ((n : Int) > _)
  omega
/-! ### Words out of bytes -/
theorem or64 {x y n : Nat} (hy : y < 2 ^ n) (hx : 2 ^ n * x + y < 2 ^ 64) : arithI .or .u64 ((2 ^ n * x : Nat) : Int) (y : Int) = ((2 ^ n * x + y : Nat) : Int) := by
  show IntKind.u64.wrap (((BitVec.ofInt 64 ((2 ^ n * x : Nat) : Int)) ||| (BitVec.ofInt 64 (y : Int))).toNat : Int) = _
  rw [BitVec.ofInt_natCast, BitVec.ofInt_natCast, BitVec.toNat_or, BitVec.toNat_ofNat, BitVec.toNat_ofNat, Nat.mod_eq_of_lt (by omega), Nat.mod_eq_of_lt (by omega), ← Nat.two_pow_add_eq_or_of_lt hy]
  have : (2 : Nat) ^ 64 = 18446744073709551616 := by decide
  exact w64 (Int.natCast_nonneg _) (by omega)
def chain (acc : Sx) : List Sx → Sx
  | [] => acc
  | b :: l => chain (.bin .or .u64 acc (.bin .shl .u64 (.cvt .u64 b) (.lit (.ofNat (8 * l.length))))) l
def valN : List Nat → Nat
  | [] => 0
  | b :: l => 256 ^ l.length * b + valN l
theorem valN_lt : ∀ {l : List Nat}, (∀ b ∈ l, b < 256) → valN l < 256 ^ l.length
  | [], _ => by simp [valN]
  | b :: l, h => by
    have h1 := valN_lt (l := l) fun x hx => h x (List.mem_cons_of_mem _ hx)
    have h2 := h b List.mem_cons_self
    simp only [valN, List.length_cons, Nat.pow_succ]
    calc 256 ^ l.length * b + valN l < 256 ^ l.length * b + 256 ^ l.length := by omega
      _ = 256 ^ l.length * (b + 1) := by rw [Nat.mul_add, Nat.mul_one]
      _ ≤ 256 ^ l.length * 256 := Nat.mul_le_mul_left _ h2
def bytesAre (c : Cx) : List Sx → List Nat → Prop
  | [], [] => True
  | s :: l, b :: r => (s.den c = (b : Int) ∧ b < 256) ∧ bytesAre c l r
  | _, _ => False
theorem bytesAre.len : ∀ {l : List Sx} {r : List Nat}, bytesAre c l r → l.length = r.length
  | [], [], _ => rfl
  | s :: l, b :: r, h => by rw [List.length_cons, List.length_cons, bytesAre.len h.2]
  | [], _ :: _, h => h.elim
  | _ :: _, [], h => h.elim
theorem bytesAre.lt : ∀ {l : List Sx} {r : List Nat}, bytesAre c l r → ∀ b ∈ r, b < 256
  | [], [], _, b, hb => by cases hb
  | s :: l, b :: r, h, x, hx => by
    rcases List.mem_cons.1 hx with rfl | hx
    · exact h.1.2
    · exact bytesAre.lt h.2 x hx
  | [], _ :: _, h, _, _ => h.elim
  | _ :: _, [], h, _, _ => h.elim
theorem chain_den : ∀ {l : List Sx} {r : List Nat} {acc : Sx} {a : Nat}, bytesAre c l r → acc.den c = ((256 ^ l.length * a : Nat) : Int) → 256 ^ l.length * (a + 1) ≤ 2 ^ 64 → (chain acc l).den c = ((256 ^ l.length * a + valN r : Nat) : Int)
  | [], [], acc, a, _, ha, _ => by simpa [chain, valN] using ha
  | s :: l, b :: r, acc, a, h, ha, hl => by
    obtain ⟨⟨h1, h2⟩, h3⟩ := h
    have e64 : (2 : Nat) ^ 64 = 18446744073709551616 := by decide
    have e8 : (256 : Nat) ^ l.length = 2 ^ (8 * l.length) := by rw [show (256 : Nat) = 2 ^ 8 from rfl, ← Nat.pow_mul]
    have e9 : (256 : Nat) ^ (l.length + 1) = 2 ^ (8 * l.length + 8) := by rw [Nat.pow_succ, e8, Nat.pow_add]
    have hpos : 0 < 256 ^ l.length := Nat.pow_pos (by decide)
    rw [List.length_cons] at ha hl
    have hl8 : 8 * l.length < 64 := by
      rcases Nat.lt_or_ge (8 * l.length) 64 with g | g
      · exact g
      · exfalso
        have : 2 ^ 64 ≤ 2 ^ (8 * l.length) := Nat.pow_le_pow_right (by decide) g
        rw [Nat.pow_succ, e8] at hl
        have h3 : 2 ^ (8 * l.length) * 256 * (a + 1) ≥ 2 ^ (8 * l.length) * 256 := Nat.le_mul_of_pos_right _ (Nat.succ_pos _)
        omega
    have hbl : 256 ^ l.length * b < 256 ^ (l.length + 1) := by
      rw [Nat.pow_succ]
      exact Nat.mul_lt_mul_of_pos_left h2 hpos
    have hsum : 256 ^ (l.length + 1) * a + 256 ^ l.length * b < 2 ^ 64 := by
      calc 256 ^ (l.length + 1) * a + 256 ^ l.length * b < 256 ^ (l.length + 1) * a + 256 ^ (l.length + 1) := by omega
        _ = 256 ^ (l.length + 1) * (a + 1) := by rw [Nat.mul_add, Nat.mul_one]
        _ ≤ 2 ^ 64 := hl
    have hshl : (Sx.bin .shl .u64 (.cvt .u64 s) (.lit (.ofNat (8 * l.length)))).den c = ((256 ^ l.length * b : Nat) : Int) := by
      show IntKind.u64.wrap (IntKind.u64.wrap (s.den c) * 2 ^ min (Int.toNat (8 * l.length : Nat)) 64) = _
      rw [h1, w64 (Int.natCast_nonneg _) (by omega), Int.toNat_natCast, Nat.min_eq_left (by omega)]
      have : ((b : Int) * 2 ^ (8 * l.length)) = ((256 ^ l.length * b : Nat) : Int) := by rw [e8]; push_cast; exact Int.mul_comm _ _
      rw [this, w64 (Int.natCast_nonneg _) (by omega)]
    have hor : (Sx.bin .or .u64 acc (.bin .shl .u64 (.cvt .u64 s) (.lit (.ofNat (8 * l.length))))).den c = ((256 ^ l.length * (256 * a + b) : Nat) : Int) := by
      show arithI .or .u64 (acc.den c) ((Sx.bin .shl .u64 (.cvt .u64 s) (.lit (.ofNat (8 * l.length)))).den c) = _
      rw [ha, hshl, e9, or64 (by rw [← e9]; exact hbl) (by rw [← e9]; exact hsum), ← e9, Nat.pow_succ, Nat.mul_add, Nat.mul_assoc]
    rw [chain, chain_den h3 hor (by rw [Nat.pow_succ, Nat.mul_assoc] at hl; exact Nat.le_trans (Nat.mul_le_mul_left _ (by omega)) hl)]
    congr 1
    simp only [valN, List.length_cons, ← bytesAre.len h3, Nat.pow_succ, Nat.mul_add, Nat.mul_assoc, Nat.add_assoc]
  | [], _ :: _, _, _, h, _, _ => h.elim
  | _ :: _, [], _, _, h, _, _ => h.elim
/-- A word's limb, its byte. -/
theorem limb_den {l : List Sx} {r : List Nat} (h : bytesAre c l r) (hl : l.length ≤ 8) : (chain (.lit (.ofNat 0)) l).den c = (valN r : Int) := by
  have := chain_den (a := 0) (acc := .lit (.ofNat 0)) h (by simp [Sx.den]) (by
    rw [Nat.zero_add, Nat.mul_one]
    calc 256 ^ l.length ≤ 256 ^ 8 := Nat.pow_le_pow_right (by decide) hl
      _ = 2 ^ 64 := by decide)
  rw [Nat.mul_zero, Nat.zero_add] at this
  exact this
theorem sh8_den {s : Sx} {x k : Nat} (h : s.den c = (x : Int)) (hk : k ≤ 64) : (Sx.cvt .u8 (.bin .shr .u64 s (.lit (.ofNat k)))).den c = ((x / 2 ^ k % 256 : Nat) : Int) := by
  show IntKind.u8.wrap ((s.den c).fdiv (2 ^ min (Int.toNat (k : Nat)) 64)) = _
  rw [h, Int.toNat_natCast, Nat.min_eq_left hk, u8w]
  have : ((x : Int).fdiv (2 ^ k)) = ((x / 2 ^ k : Nat) : Int) := by
    rw [show ((2 : Int) ^ k) = ((2 ^ k : Nat) : Int) by push_cast; rfl]
    exact (Int.ofNat_fdiv x (2 ^ k)).symm
  rw [this]
  generalize x / 2 ^ k = y
  omega
theorem and_t {a b : Bx} (ha : a.den c = true) (hb : b.den c = true) : (Bx.and a b).den c = true := by simp only [Bx.den, ha, hb]; rfl
theorem b8_t {a b : Sx} (h : a.den c = b.den c) : (Bx.b8 a b).den c = true := by simp only [Bx.den, h]; exact beq_self_eq_true _
end
end Go.Proofs.YtgcicoebkjgfoaaGreatDoor.Rn

namespace Go.Proofs.YtgcicoebkjgfoaaGreatDoor.Rn
open Go Go.RowKit Go.Proofs.YtgcicoebkjgfoaaGreatDoor.Sh
set_option linter.unusedVariables false
set_option linter.unusedSimpArgs false
def replyL : List Leaf := .int .i64 :: .bytes 1 :: .int .u64 :: repL [.int .u8] 20
def rep6 : List V := [.sint .i64 (.var 1), .slo 0, .sint .u64 (.var 2), .sint .u8 (.var 3), .sint .u8 (.var 4), .sint .u8 (.var 5), .sint .u8 (.var 6), .sint .u8 (.var 7), .sint .u8 (.var 8), .sint .u8 (.var 9), .sint .u8 (.var 10), .sint .u8 (.var 11), .sint .u8 (.var 12), .sint .u8 (.var 13), .sint .u8 (.var 14), .sint .u8 (.var 15), .sint .u8 (.var 16), .sint .u8 (.var 17), .sint .u8 (.var 18), .sint .u8 (.var 19), .sint .u8 (.var 20), .sint .u8 (.var 21), .sint .u8 (.var 22)]
theorem rep6_sym : rep6 = symL replyL 1 0 := rfl
end Go.Proofs.YtgcicoebkjgfoaaGreatDoor.Rn
