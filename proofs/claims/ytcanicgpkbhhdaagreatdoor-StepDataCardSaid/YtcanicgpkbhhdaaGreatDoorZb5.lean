/- Joined out of own texts. No condition: it holds of every program, or of this one by what is shown here. -/
import Derived.Test.YtcanicgpkbhhdaaGreatDoorZb3
import Derived.Test.YtcanicgpkbhhdaaGreatDoorZb4
import Derived.Test.YtcanicgpkbhhdaaGreatDoorZb1
set_option linter.unusedSectionVars false
set_option linter.constructorNameAsVariable false
set_option linter.unusedVariables false
set_option linter.unusedSimpArgs false
namespace Go.Proofs.YtcanicgpkbhhdaaGreatDoor.Rn
open Go Go.RowKit Go.Proofs.YtcanicgpkbhhdaaGreatDoor.Sh
set_option linter.unusedVariables false
set_option linter.unusedSimpArgs false
inductive Fk where
  | leaf
  | done (b : Bx)
  | fork (b : Bx) (s1 : List (Bx × Bool)) (t1 : Fk) (s2 : List (Bx × Bool)) (t2 : Fk)
abbrev KT := Ex → Tr V → List Df → Hs → Fk → Bool
abbrev RT := KT → Tr V → List Df → Hs → Fk → Bool
noncomputable def askN (b : Bx) (yes no : Hs → Fk → Bool) (H : Hs) (T : Fk) : Bool :=
  match H.exp with
  | (x, o) :: r => (match x.beq b with
    | true => Bool.rec (no ⟨H.next, H.tr, H.fam, r⟩ T) (yes ⟨H.next, H.tr, H.fam, r⟩ T) o
    | false => false)
  | [] => match T with
    | .fork x s1 t1 s2 t2 => (match x.beq b with
      | true => yes ⟨H.next, H.tr, H.fam, s1⟩ t1 && no ⟨H.next, H.tr, H.fam, s2⟩ t2
      | false => false)
    | _ => false
noncomputable def askF (b : Bx) (yes no : Hs → Fk → Bool) (H : Hs) (T : Fk) : Bool :=
  match b with
  | .lit b => Bool.rec (no H T) (yes H T) b
  | b => askN b yes no H T
noncomputable def goT (r : Cr) (k : KT) (T : Fk) : Bool := match r with
  | .mk x E ds H => k x E ds H T
  | .no => false
noncomputable def condT (c : Tr V → Option V) (f g : RT) : RT := fun k E ds H T => match c E with
  | some v => match v with
    | .bool b => Bool.rec (g k E ds H T) (f k E ds H T) b
    | .sbool b => askF b (fun H T => f k E ds H T) (fun H T => g k E ds H T) H T
    | _ => false
  | none => false
noncomputable def thenT (k k2 : KT) : KT := fun x E ds H T => match x with
  | .normal => k .normal E ds H T
  | x => k2 x E ds H T
noncomputable def blockT (id : Nat) (k : KT) : KT := fun x E ds H T => match x with
  | .exit i => (match Nat.beq i id with
    | true => k .normal E ds H T
    | false => k (.exit i) E ds H T)
  | x => k x E ds H T
noncomputable def scopeT (k : KT) : KT := fun x E ds H T => match x with
  | .goto _ => false
  | x => k x E ds H T
noncomputable def iterT (f : RT) (k : KT) : Nat → Tr V → List Df → Hs → Fk → Bool
  | 0 => fun _ _ _ _ => false
  | n + 1 => f (thenT (fun _ => iterT f k n) k)
noncomputable def exT (call : CallF) (N lf : Nat) (c : CW) : RT :=
  CW.rec (motive := fun _ => RT) (fun k E ds H T => k .normal E ds H T) (fun l k E ds H T => goT (opsV call N false l E ds H) k T) (fun l k E ds H T => goT (drawG call N false l [] E ds H) k T) (fun _ _ f g k => f (thenT (fun _ => g k) k)) (fun c _ _ f g => condT c f g) (fun id _ f k => f (blockT id k)) (fun _ f k => iterT f k lf)
    (fun id k E ds H T => k (.exit id) E ds H T) (fun l k E ds H T => k (.goto l) E ds H T) (fun k E ds H T => k .ret E ds H T) (fun _ f k => f (scopeT k)) (fun g ps as_ body k E ds H T => goT (rngV call N false g ps as_ body E ds H) k T) (fun _ _ _ _ _ => false) c
noncomputable def codeT (P : Program) (call : CallF) (N lf : Nat) (c : Code) : RT := exT call N lf (decC P N c)
noncomputable def fnT (P : Program) (call : CallF) (lf : Nat) (fn : Func) (args : List V) (H : Hs) (T : Fk) (fin : Rs → Fk → Bool) : Bool :=
  match fn.body, Nat.ble args.length fn.ntmps && Nat.ble fn.ntmps 1000000000 with
  | some c, true => codeT P call fn.ntmps lf c (fun x E ds H T => match x with
    | .normal => fin (leaveV P call lf fn (some E) ds none H) T
    | .ret => fin (leaveV P call lf fn (some E) ds none H) T
    | _ => false) (envV args 0 .nil) [] H T
  | _, _ => false
/-- The way that a context goes is told. -/
def fkOK (c : Cx) : Fk → Prop
  | .leaf => True
  | .done b => b.den c = true
  | .fork b s1 t1 s2 t2 => (b.den c = true → (∀ p ∈ s1, p.1.den c = p.2) ∧ fkOK c t1) ∧ (b.den c = false → (∀ p ∈ s2, p.1.den c = p.2) ∧ fkOK c t2)
section
variable {P : Program} {N : Nat} (hP : PV P) (hN : N ≤ 1000000000)
theorem Rep.exps {c : Cx} {w0 : Bs} {w : World} {H : Hs} {r : List (Bx × Bool)} (h : Rep c w0 w H) (hr : ∀ p ∈ r, p.1.den c = p.2) : Rep c w0 w ⟨H.next, H.tr, H.fam, r⟩ :=
  ⟨h.bl, h.lt, fun b o hb ho => by
    have := h.at_ b o hb ho
    cases o <;> exact this, h.inn, fun b b' o o' hb hb' ho ho' hne hw k hk hf => by
    have := h.ap b b' o o' hb hb' ho ho' hne hw k hk hf
    cases o <;> cases o' <;> exact this, hr, h.sz⟩
theorem askF_ok {c0 c : Cx} {n0 : Nat} {w0 : Bs} {w : World} {H : Hs} {b : Bx} {yes no : Hs → Fk → Bool} {T : Fk} (hr : Rep c w0 w H) (ha : Agr n0 c0 c) (hT : fkOK c0 T) (h0 : askF b yes no H T = true) :
    ∃ H' T', H'.next = H.next ∧ Rep c w0 w H' ∧ fkOK c0 T' ∧ (cond (b.den c) (yes H' T') (no H' T')) = true := by
  have key : askN b yes no H T = true → ∃ H' T', H'.next = H.next ∧ Rep c w0 w H' ∧ fkOK c0 T' ∧ (cond (b.den c) (yes H' T') (no H' T')) = true := fun h => by
    clear h0
    unfold askN at h
    cases he : H.exp with
    | cons p r =>
      obtain ⟨x, o⟩ := p
      rw [he] at h
      simp only at h
      split at h <;> first | (cases h; done) | skip
      rename_i hx
      have hx := Bx.beq_eq hx
      have hd := hr.exp (x, o) (by rw [he]; exact List.mem_cons_self)
      rw [hx] at hd
      refine ⟨⟨H.next, H.tr, H.fam, r⟩, T, rfl, hr.ask fun p hp => by rw [he]; exact List.mem_cons_of_mem _ hp, hT, ?_⟩
      simp only at hd
      rw [hd]
      cases o <;> exact h
    | nil =>
      rw [he] at h
      simp only at h
      cases T with
      | leaf => cases h
      | done b => cases h
      | fork x s1 t1 s2 t2 =>
        simp only at h
        split at h <;> first | (cases h; done) | skip
        rename_i hx
        have hx := Bx.beq_eq hx
        subst hx
        rw [Bool.and_eq_true] at h
        have hden := Bx.agr ha x
        cases hb : x.den c with
        | true =>
          obtain ⟨g1, g2⟩ := hT.1 (by rw [← hden]; exact hb)
          exact ⟨⟨H.next, H.tr, H.fam, s1⟩, t1, rfl, hr.exps (fun p hp => by rw [Bx.agr ha]; exact g1 p hp), g2, h.1⟩
        | false =>
          obtain ⟨g1, g2⟩ := hT.2 (by rw [← hden]; exact hb)
          exact ⟨⟨H.next, H.tr, H.fam, s2⟩, t2, rfl, hr.exps (fun p hp => by rw [Bx.agr ha]; exact g1 p hp), g2, h.2⟩
  unfold askF at h0
  cases b with
  | lit v =>
    refine ⟨H, T, rfl, hr, hT, ?_⟩
    cases v <;> exact h0
  | _ => exact key h0
include hP hN in
theorem codeT_ok {call : CallF} (hc : CallOK P call) {lf : Nat} {c0 : Cx} {n0 : Nat} {w0 : Bs} : ∀ (c : Code) (n : Nat) (k : KT) (E : Tr V) (ds : List Df) (H : Hs) (T : Fk) (a : Act) (w : World) (Q : Exit → Act → World → Prop),
    StE N c0 n0 w0 E ds H a w → fkOK c0 T → codeT P call N lf c k E ds H T = true →
    (∀ x E1 ds1 H1 T1 ex a' w', k x E1 ds1 H1 T1 = true → fkOK c0 T1 → lift N (PostE c0 n0 w0 x E1 ds1 H1) ex a' w' → Q ex a' w') → c.wpIn (FW none) n P Q a w := by
  intro c
  have leafC : ∀ (c : Code) (n : Nat) (k : KT) (E : Tr V) (ds : List Df) (H : Hs) (T : Fk) (a : Act) (w : World) (Q : Exit → Act → World → Prop), StE N c0 n0 w0 E ds H a w → fkOK c0 T → goT (codeV P call N lf false c E ds H) k T = true →
      (∀ x E1 ds1 H1 T1 ex a' w', k x E1 ds1 H1 T1 = true → fkOK c0 T1 → lift N (PostE c0 n0 w0 x E1 ds1 H1) ex a' w' → Q ex a' w') → c.wpIn (FW none) n P Q a w := fun c n k E ds H T a w Q hs hT h hk => by
    cases hcv : codeV P call N lf false c E ds H with
    | no => rw [hcv] at h; cases h
    | mk x E1 ds1 H1 =>
      rw [hcv] at h
      exact wpIn_mono (code_ok hP hN hc c none n x E1 ds1 H1 E ds H a w hs hcv) fun ex a' w' hp => hk x E1 ds1 H1 T ex a' w' h hT hp
  have simple : ∀ {y : Ex} {k : KT} {E : Tr V} {ds : List Df} {H : Hs} {T : Fk} {a : Act} {w : World} {ex : Exit} {Q : Exit → Act → World → Prop}, StE N c0 n0 w0 E ds H a w → fkOK c0 T → k y E ds H T = true → (∀ v, y ≠ .panu v) → (∀ c n, ExOK c n y ex) →
      (∀ x E1 ds1 H1 T1 ex a' w', k x E1 ds1 H1 T1 = true → fkOK c0 T1 → lift N (PostE c0 n0 w0 x E1 ds1 H1) ex a' w' → Q ex a' w') → Q ex a w := fun {y k E ds H T a w ex Q} hs hT h hx ho hk => hk y E ds H T ex a w h hT (hs.post hx ho)
  have after : ∀ {k k2 : KT} {Q : Exit → Act → World → Prop} {R : Act → World → Prop}, (∀ E1 ds1 H1 T1 a' w', k .normal E1 ds1 H1 T1 = true → fkOK c0 T1 → StE N c0 n0 w0 E1 ds1 H1 a' w' → R a' w') → (∀ x E1 ds1 H1 T1 ex a' w', k2 x E1 ds1 H1 T1 = true → fkOK c0 T1 → lift N (PostE c0 n0 w0 x E1 ds1 H1) ex a' w' → Q ex a' w') →
      ∀ x E1 ds1 H1 T1 ex a' w', thenT k k2 x E1 ds1 H1 T1 = true → fkOK c0 T1 → lift N (PostE c0 n0 w0 x E1 ds1 H1) ex a' w' → Exit.then R Q ex a' w' := fun {k k2 Q R} h1 h2 x E1 ds1 H1 T1 ex a' w' hkx hT hp => by
    by_cases hx : x = .normal
    · subst hx
      obtain ⟨⟨c, ho⟩, hs⟩ := post_st hp (by simp)
      have := exok_normal ho
      subst this
      exact h1 E1 ds1 H1 T1 a' w' hkx hT hs
    · have hkx : k2 x E1 ds1 H1 T1 = true := by cases x <;> first | exact hkx | exact absurd rfl hx
      have hq := h2 x E1 ds1 H1 T1 ex a' w' hkx hT hp
      cases ex with
      | normal =>
        obtain ⟨e, ds', _, c, _, _, _, _, _, h7⟩ := hp
        exact absurd (exok_not h7) hx
      | _ => exact hq
  induction c with
  | skip => intro n k E ds H T a w Q hs hT h hk; exact wpIn_skip (simple hs hT h (by simp) (fun _ _ => trivial) hk)
  | label l => intro n k E ds H T a w Q hs hT h hk; exact wpIn_label (simple hs hT h (by simp) (fun _ _ => trivial) hk)
  | exit id => intro n k E ds H T a w Q hs hT h hk; exact wpIn_exit (simple hs hT h (by simp) (fun _ _ => rfl) hk)
  | goto l => intro n k E ds H T a w Q hs hT h hk; exact wpIn_goto (simple hs hT h (by simp) (fun _ _ => rfl) hk)
  | ret => intro n k E ds H T a w Q hs hT h hk; exact wpIn_ret (simple hs hT h (by simp) (fun _ _ => trivial) hk)
  | refuse why => intro n k E ds H T a w Q hs hT h hk; cases h
  | region id ops draw =>
    intro n k E ds H T a w Q hs hT h hk
    refine leafC _ n k E ds H T a w Q hs hT ?_ hk
    rw [← h]
    unfold codeT codeV
    show _ = exT call N lf (decR P N ops.toList draw) k E ds H T
    show goT (exC call N lf false (decR P N ops.toList draw) E ds H) k T = _
    cases hd : decR P N ops.toList draw <;> first | rfl | skip
    all_goals
      exfalso
      unfold decR flG tryG at hd
      repeat' (first | (cases hd; done) | split at hd)
  | rangeFunc g ps as_ body ih1 ih2 =>
    intro n k E ds H T a w Q hs hT h hk
    exact leafC _ n k E ds H T a w Q hs hT h hk
  | seq c1 c2 ih1 ih2 =>
    intro n k E ds H T a w Q hs hT h hk
    have h : codeT P call N lf c1 (thenT (fun _ => codeT P call N lf c2 k) k) E ds H T = true := h
    exact wpIn_seq (ih1 n _ E ds H T a w _ hs hT h (after (fun E1 ds1 H1 T1 a' w' h1 h2 h3 => ih2 n k E1 ds1 H1 T1 a' w' Q h3 h2 h1 hk) hk))
  | cond cnd c1 c2 ih1 ih2 =>
    intro n k E ds H T a w Q hs hT h hk
    have h : condT (fun E => rdV N E cnd) (codeT P call N lf c1) (codeT P call N lf c2) k E ds H T = true := h
    unfold condT at h
    obtain ⟨c, e, ds', h1, h2, h3, h4, h5, h6⟩ := hs
    split at h <;> first | (cases h; done) | skip
    rename_i v hv
    obtain ⟨g1, g2⟩ := rdV_ok hN h4 hv
    split at h
    · rename_i b
      refine wpIn_cond (t := b) (by rw [eval_eq h6]; exact g1) ?_
      cases b
      · exact ih2 n k E ds H T a w Q ⟨c, e, ds', h1, h2, h3, h4, h5, h6⟩ hT h hk
      · exact ih1 n k E ds H T a w Q ⟨c, e, ds', h1, h2, h3, h4, h5, h6⟩ hT h hk
    · rename_i b
      obtain ⟨H', T', k1, k2, k3, k4⟩ := askF_ok h3 h1 hT h
      have hst : StE N c0 n0 w0 E ds H' a w := ⟨c, e, ds', h1, by rw [k1]; exact h2, k2, by rw [k1]; exact h4, by rw [k1]; exact h5, h6⟩
      refine wpIn_cond (t := b.den c) (by rw [eval_eq h6]; exact g1) ?_
      cases hb : b.den c with
      | true => rw [hb] at k4; exact ih1 n k E ds H' T' a w Q hst k3 k4 hk
      | false => rw [hb] at k4; exact ih2 n k E ds H' T' a w Q hst k3 k4 hk
    · cases h
  | block id c ih =>
    intro n k E ds H T a w Q hs hT h hk
    have h : codeT P call N lf c (blockT id k) E ds H T = true := h
    refine wpIn_block (ih n _ E ds H T a w _ hs hT h fun x E1 ds1 H1 T1 ex a' w' hkx hT1 hp => ?_)
    unfold blockT at hkx
    split at hkx
    · rename_i i
      obtain ⟨⟨c, ho⟩, hs'⟩ := post_st hp (by simp)
      have := exok_exit ho
      subst this
      simp only [Exit.inBlock]
      split at hkx
      · rename_i hid
        rw [if_pos (Nat.eq_of_beq_eq_true hid)]
        exact simple hs' hT1 hkx (by simp) (fun _ _ => trivial) hk
      · rename_i hid
        rw [if_neg fun e => by rw [e, Nat.beq_refl] at hid; cases hid]
        exact simple hs' hT1 hkx (by simp) (fun _ _ => rfl) hk
    · rename_i hne
      have hq := hk x E1 ds1 H1 T1 ex a' w' hkx hT1 hp
      cases ex with
      | exit j =>
        obtain ⟨e, ds', _, c, _, _, _, _, _, h7⟩ := hp
        cases x <;> first | exact h7.elim | exact absurd rfl (hne _)
      | _ => exact hq
  | loop c ih =>
    intro n k E ds H T a w Q hs hT h hk
    have h : iterT (codeT P call N lf c) k lf E ds H T = true := h
    refine wpIn_loop_rounds lf ?_
    have key : ∀ m E ds H T a w, StE N c0 n0 w0 E ds H a w → fkOK c0 T → iterT (codeT P call N lf c) k m E ds H T = true → Code.roundsIn (FW none) n P c Q m a w := by
      intro m
      induction m with
      | zero => intro E ds H T a w hs hT h; cases h
      | succ m ihm =>
        intro E ds H T a w hs hT h
        rw [roundsIn_succ]
        exact ih n _ E ds H T a w _ hs hT h (after (fun E1 ds1 H1 T1 a' w' h1 h2 h3 => ihm E1 ds1 H1 T1 a' w' h3 h2 h1) hk)
    exact key lf E ds H T a w hs hT h
  | scope c ih =>
    intro n k E ds H T a w Q hs hT h hk
    have h : codeT P call N lf c (scopeT k) E ds H T = true := h
    refine wpIn_scope_straight (ih n _ E ds H T a w _ hs hT h fun x E1 ds1 H1 T1 ex a' w' hkx hT1 hp => ?_)
    unfold scopeT at hkx
    split at hkx <;> first | (cases hkx; done) | skip
    rename_i hne
    have hq := hk x E1 ds1 H1 T1 ex a' w' hkx hT1 hp
    cases ex with
    | goto j =>
      obtain ⟨e, ds', _, c, _, _, _, _, _, h7⟩ := hp
      cases x <;> first | exact h7.elim | exact absurd rfl (hne _)
    | _ => exact hq
include hP in
theorem fnT_ok {call : CallF} (hc : CallOK P call) {lf : Nat} {f : FuncId} {fn : Func} (hf : P.funcs[f]? = some fn) {c : Cx} {w0 : Bs} {w : World} {H : Hs} {T : Fk} {args : List V} {fin : Rs → Fk → Bool} (hr : Rep c w0 w H) (hl : V.ltL H.next args) (hT : fkOK c T) {K : Value → World → Prop} {X : List PanicEntry → World → Prop}
    (h : fnT P call lf fn args H T fin = true) (hfin : ∀ r T, fin r T = true → fkOK c T → RsOK c w0 H K X r) : CallX P f (V.denL c args).toArray w K X := by
  unfold fnT at h
  split at h <;> first | (cases h; done) | skip
  rename_i bc hb hz
  simp only [Bool.and_eq_true, Nat.ble_eq] at hz
  obtain ⟨hz, hN⟩ := hz
  refine (callsIn_wide (n := 0)).1 (callsIn_of_wp_marks (F := FW none) (n := 0) hf hb trivial (codeT_ok hP hN hc bc 0 _ _ _ _ _ _ _ _ (StE.start hr hl hz hN) hT h ?_))
  rintro x E1 ds1 H1 T1 ex a' w' hk hT1 ⟨e', ds', hrl, c2, h1, h2, h3, h4, h5, h6⟩
  have fin' : ∀ (E : Option (Tr V)) (m : Option V), ltO H1.next m → (∀ E0, E = some E0 → EnvOK c2 H1.next E0 e') → RsOK c w0 H K X (leaveV P call lf fn E ds1 m H1) →
      LeavesInM (FW none) 0 P fn a'.tmps (fun e w' => match e with | .returned v => K v w' | .panicked ch => X ch w' | .outgrown => False) a'.defers (modeV c2 m) w' := fun E m hm hE hl => by
    have hq := leave_ok hP hc hN ds1 ds' m c2 H1 w' h3 hE h5 hm (hl.agr h1 h2)
    rw [hrl.defers]
    refine leaves_leaveA (fun u w h => ?_) ds' _ w' hq
    cases u with
    | run => exact h.elim
    | returning => exact run_results hrl h
    | panicking ch => exact h
  split at hk <;> first | (cases hk; done) | skip
  · have := exok_normal h6
    subst this
    exact fin' (some E1) none trivial (fun E0 hE => by cases hE; exact h4) (hfin _ _ hk hT1)
  · have := exok_ret h6
    subst this
    exact fin' (some E1) none trivial (fun E0 hE => by cases hE; exact h4) (hfin _ _ hk hT1)
end
end Go.Proofs.YtcanicgpkbhhdaaGreatDoor.Rn

namespace Go.Proofs.YtcanicgpkbhhdaaGreatDoor.Rn
open Go Go.RowKit Go.Proofs.YtcanicgpkbhhdaaGreatDoor.Sh
set_option linter.unusedVariables false
set_option linter.unusedSimpArgs false

def cx0 (ints : Nat → Int) (bools : Nat → Bool) (lists : Nat → List UInt8) (sv : Nat → Option Addr × Nat × Nat) : Cx := ⟨fun _ => 0, fun _ => 0, fun _ => 0, ints, bools, lists, sv, fun _ _ => undef, fun _ => default⟩
/-- At first nothing may be turned. -/
def bs0 (W : World) : Bs := ⟨W, fun _ => False, fun k => k < W.heap.size⟩
theorem rep0 {c : Cx} {W : World} {E : List (Bx × Bool)} (h : ∀ p ∈ E, p.1.den c = p.2) : Rep c (bs0 W) W ⟨0, .nil, .nil, E⟩ :=
  ⟨Ext.refl W, fun b o _ hg => (by rw [show Hs.get ⟨0, .nil, .nil, E⟩ b = none from Tr.get_nil b] at hg; cases hg), fun b o hb => absurd hb (Nat.not_lt_zero b), fun b o hb => absurd hb (Nat.not_lt_zero b), fun b b' o o' hb => absurd hb (Nat.not_lt_zero b), h, by show (0 : Nat) < _; omega⟩
theorem path_run {f : Nat} {args : List V} {H : Hs} {r : V} {c : Cx} {W : World} (hr : Rep c (bs0 W) W H) (ha : V.ltL H.next args) (hne : ∃ a ∈ args, ∀ k n, a ≠ .int k n) (h : endB (callV Tryz.prog X0 100000 100 (.fn f [] []) args H) r = true) :
    Calls Tryz.prog f (V.denL c args).toArray W fun e W' => (∃ c', Agr H.next c c' ∧ e = .returned (r.den c')) ∧ Below W.heap.size W W' := by
  obtain ⟨H', hrun⟩ := endB_ok h
  have hg := callFn_ok px (n := 99) (callV_ok px 99) hr ⟨trivial, trivial⟩ ha (K := fun v w' => (∃ c', Agr H.next c c' ∧ v = r.den c') ∧ Below W.heap.size W w') (Q := fun _ _ => False) (f := f) (first := []) (cap := []) (args := args) (lf := 100000) (by
    have hrun' : callV Tryz.prog X0 100000 (99 + 1) (.fn f [] []) args H = .ok r H' := hrun
    rw [hrun']
    exact fun c' w' h1 h2 h3 h4 => ⟨⟨c', h1, rfl⟩, h3.bl.bl fun _ _ h => h⟩)
  simp only [List.nil_append, List.append_nil] at hg
  rcases hg with ⟨_, hg⟩ | ⟨_, hg⟩
  · refine Calls.mono (CallX.to_V hg) ?_
    rintro e W' ⟨v, rfl, ⟨c', h1, h2⟩, h3⟩
    exact ⟨⟨c', h1, by rw [h2]⟩, h3⟩
  · obtain ⟨a, h1, h2⟩ := hne
    obtain ⟨k, n, h3⟩ := hg a h1
    exact absurd h3 (h2 k n)
noncomputable def endT (r : Rs) (T : Fk) : Bool := match r with
  | .ok (.bool b) _ => b
  | .ok (.sbool b) _ => (match T with | .done x => x.beq b | _ => false)
  | _ => false
/-- A run that forks. -/
theorem fork_run {f : Nat} {fn : Func} {args : List V} {H : Hs} {T : Fk} {c : Cx} {W : World} (hf : Tryz.prog.funcs[f]? = some fn) (hr : Rep c (bs0 W) W H) (ha : V.ltL H.next args) (hT : fkOK c T) (h : fnT Tryz.prog (callV Tryz.prog X0 100000 99) 100000 fn args H T endT = true) :
    Calls Tryz.prog f (V.denL c args).toArray W fun e W' => e = .returned (.bool true) ∧ Below W.heap.size W W' := by
  have hg := fnT_ok px.pv (callV_ok px 99) hf hr ha hT (K := fun v w' => v = .bool true ∧ Below W.heap.size W w') (X := fun _ _ => False) h fun r T hr2 hT2 => by
    unfold endT at hr2
    split at hr2
    · rename_i b H'
      subst hr2
      exact fun c' w' h1 h2 h3 h4 => ⟨rfl, h3.bl.bl fun _ _ h => h⟩
    · rename_i b H'
      split at hr2 <;> first | (cases hr2; done) | skip
      rename_i x
      have hx := Bx.beq_eq hr2
      subst hx
      have hd : x.den c = true := hT2
      exact fun c' w' h1 h2 h3 h4 => ⟨by show Value.bool (x.den c') = _; rw [Bx.agr h1, hd], h3.bl.bl fun _ _ h => h⟩
    · cases hr2
  refine Calls.mono (CallX.to_V hg) ?_
  rintro e W' ⟨v, rfl, rfl, h3⟩
  exact ⟨rfl, h3⟩
end Go.Proofs.YtcanicgpkbhhdaaGreatDoor.Rn

namespace Go.Proofs.YtcanicgpkbhhdaaGreatDoor.Rn
open Go Go.RowKit Go.Proofs.YtcanicgpkbhhdaaGreatDoor.Sh
set_option linter.unusedVariables false
set_option linter.unusedSimpArgs false
noncomputable def hoL (l : List O) (E : List (Bx × Bool)) : Hs := ⟨l.length, listT l 0 .nil, .nil, E⟩
theorem hoL_get {l : List O} {E : List (Bx × Bool)} {b : Nat} (hl : l.length < 1000000000) (hb : b < 1000000000) : (hoL l E).get b = l[b]? := by
  show (listT l 0 .nil).get b = _
  rw [listT_get _ _ _ _ (by omega) hb]
  split
  · rfl
  · rw [Tr.get_nil, List.getElem?_eq_none (by omega)]
theorem repLs {c : Cx} {W : World} {l : List O} {E : List (Bx × Bool)} (hl : l.length < 1000000000) (hat : ∀ b o, l[b]? = some o → ∃ sm z lc li, o = .opq sm z lc li [] ∧ 0 < z ∧ Sees W z (c.sv b).1 (c.sv b).2.1 (c.sv b).2.2 (u8s (c.lists li)) ∧ (c.sv b).2.1 = (c.lists lc).length ∧ (sm = true → (c.lists lc).length ≤ 1073741824)) (h : ∀ p ∈ E, p.1.den c = p.2) : Rep c (bs0 W) W (hoL l E) := by
  have hget : ∀ b o, b < l.length → (hoL l E).get b = some o → ∃ sm z lc li, o = .opq sm z lc li [] ∧ 0 < z ∧ Sees W z (c.sv b).1 (c.sv b).2.1 (c.sv b).2.2 (u8s (c.lists li)) ∧ (c.sv b).2.1 = (c.lists lc).length ∧ (sm = true → (c.lists lc).length ≤ 1073741824) := fun b o hb hg => by
    rw [hoL_get hl (by omega)] at hg
    exact hat b o hg
  refine ⟨Ext.refl W, fun b o hb hg => ?_, fun b o hb hg => ?_, fun b o hb hg k hk => ?_, fun b b' o o' hb hb' hg hg' hne hw => ?_, h, hl⟩
  · rw [hoL_get hl hb] at hg
    have hbl := (List.getElem?_eq_some_iff.1 hg).1
    obtain ⟨sm, z, lc, li, rfl, _⟩ := hat b o hg
    exact ⟨hbl, trivial⟩
  · obtain ⟨sm, z, lc, li, rfl, h1, h2, h3, h4⟩ := hget b o hb hg
    exact ⟨h1, h2, h3, h4, fun p hp => by cases hp⟩
  · obtain ⟨sm, z, lc, li, rfl, h1, h2, h3, h4⟩ := hget b o hb hg
    obtain ⟨g1, a, g2, rfl⟩ := hk
    refine .inr (.inr ⟨fun h => h, ?_⟩)
    have hl : 0 < (c.lists li).length := List.length_pos_iff.2 g1
    have hlen := h2.len
    rw [u8s_len] at hlen
    have hn : 0 < (c.sv b).2.1 := by
      rcases Nat.eq_zero_or_pos (c.sv b).2.1 with e | e
      · rw [e, Nat.zero_mul] at hlen; omega
      · exact e
    obtain ⟨a', ha', hlt⟩ := h2.addr h1 hn
    rw [g2] at ha'
    cases ha'
    exact hlt
  · obtain ⟨sm, z, lc, li, rfl, _⟩ := hget b o hb hg
    exact hw.elim
end Go.Proofs.YtcanicgpkbhhdaaGreatDoor.Rn

namespace Go.Proofs.YtcanicgpkbhhdaaGreatDoor.Rn
open Go Go.RowKit Go.Proofs.YtcanicgpkbhhdaaGreatDoor.Sh
set_option linter.unusedVariables false
set_option linter.unusedSimpArgs false
def allE (c : Cx) : List (Bx × Bool) → Prop
  | [] => True
  | (b, o) :: l => b.den c = o ∧ allE c l
theorem allE_ok {c : Cx} : ∀ {E : List (Bx × Bool)}, allE c E → ∀ q ∈ E, q.1.den c = q.2
  | (b, o) :: l, h, q, hq => by
    rcases List.mem_cons.1 hq with rfl | hq
    · exact h.1
    · exact allE_ok h.2 q hq
theorem eq_t {c : Cx} {a b : Sx} (h : a.den c = b.den c) : (Bx.cmp .eql a b).den c = true := beq_iff_eq.2 h
theorem eq_f {c : Cx} {a b : Sx} (h : a.den c ≠ b.den c) : (Bx.cmp .eql a b).den c = false := beq_eq_false_iff_ne.2 h
theorem not_t {c : Cx} {a : Bx} (h : a.den c = false) : (Bx.not a).den c = true := by simp only [Bx.den, h]; rfl
theorem not_f {c : Cx} {a : Bx} (h : a.den c = true) : (Bx.not a).den c = false := by simp only [Bx.den, h]; rfl
theorem gt_t {c : Cx} {a b : Sx} (h : a.den c > b.den c) : (Bx.cmp .gtr a b).den c = true := decide_eq_true h
theorem gt_f {c : Cx} {a b : Sx} (h : ¬ a.den c > b.den c) : (Bx.cmp .gtr a b).den c = false := decide_eq_false h
theorem lt_t {c : Cx} {a b : Sx} (h : a.den c < b.den c) : (Bx.cmp .lss a b).den c = true := decide_eq_true h
theorem lt_f {c : Cx} {a b : Sx} (h : ¬ a.den c < b.den c) : (Bx.cmp .lss a b).den c = false := decide_eq_false h
theorem ge_t {c : Cx} {a b : Sx} (h : a.den c ≥ b.den c) : (Bx.cmp .geq a b).den c = true := decide_eq_true h
theorem ge_f {c : Cx} {a b : Sx} (h : ¬ a.den c ≥ b.den c) : (Bx.cmp .geq a b).den c = false := decide_eq_false h
theorem and_fl {c : Cx} {a b : Bx} (h : a.den c = false) : (Bx.and a b).den c = false := by simp only [Bx.den, h]; rfl
theorem and_fr {c : Cx} {a b : Bx} (h : b.den c = false) : (Bx.and a b).den c = false := by simp only [Bx.den, h, Bool.and_false]
end Go.Proofs.YtcanicgpkbhhdaaGreatDoor.Rn

namespace Go.Proofs.YtcanicgpkbhhdaaGreatDoor.Sh
open Go Go.RowKit Go.ChangeShapes
set_option linter.unusedVariables false
set_option linter.unusedSimpArgs false
inductive Leaf where
  | int (k : IntKind)
  | bool
  | bytes (z : Nat)
def isU8 : Leaf → Bool
  | .int .u8 => true
  | _ => false
def fldL (P : Program) (r : TypeId → Option (List Leaf)) : Nat → List Field → Option (List Leaf)
  | _, [] => some []
  | o, f :: fs => match r f.type with
    | some l => match fldL P r (o + l.length) fs with
      | some l' => match Nat.beq f.offset o && Nat.beq (P.cellsOf f.type) l.length with
        | true => some (l ++ l')
        | false => none
      | none => none
    | none => none
def repL (l : List Leaf) : Nat → List Leaf
  | 0 => []
  | n + 1 => l ++ repL l n
def leaves (P : Program) : Nat → TypeId → Option (List Leaf)
  | 0, _ => none
  | d + 1, t => match P.underlying t with
    | some (.int k) => some [.int k]
    | some .bool => some [.bool]
    | some (.slice e) => match leaves P d e with
      | some l => match l.all isU8 && (Nat.beq (P.cellsOf e) l.length && Nat.ble 1 l.length) with
        | true => some [.bytes l.length]
        | false => none
      | none => none
    | some (.struct fs) => match fldL P (leaves P d) 0 fs.toList with
      | some l => match Nat.beq (P.cellsOf t) l.length with | true => some l | false => none
      | none => none
    | some (.array n e) => match leaves P d e with
      | some l => match Nat.beq (P.cellsOf e) l.length && Nat.beq (P.cellsOf t) (n * l.length) with
        | true => some (repL l n)
        | false => none
      | none => none
    | _ => none
def LeafOK (w : World) : Leaf → Value → Prop
  | .int k, v => ∃ n, v = .int k n ∧ (Lit.int k n).wf = true
  | .bool, v => ∃ b, v = .bool b
  | .bytes z, v => ∃ p n c l, v = .slice p n c ∧ 0 < z ∧ n ≤ maxLen ∧ Sees w z p n c (u8s l)
/-- Leaf by leaf. -/
def LvsOK (w : World) : List Leaf → List Value → Prop
  | [], [] => True
  | l :: ls, v :: vs => LeafOK w l v ∧ LvsOK w ls vs
  | _, _ => False
theorem LvsOK.len {w : World} : ∀ {ls : List Leaf} {vs : List Value}, LvsOK w ls vs → vs.length = ls.length
  | [], [], _ => rfl
  | l :: ls, v :: vs, h => by rw [List.length_cons, List.length_cons, LvsOK.len h.2]
  | [], _ :: _, h => h.elim
  | _ :: _, [], h => h.elim
theorem LvsOK.app {w : World} : ∀ {ls ls' : List Leaf} {vs vs' : List Value}, LvsOK w ls vs → LvsOK w ls' vs' → LvsOK w (ls ++ ls') (vs ++ vs')
  | [], ls', [], vs', _, h => h
  | l :: ls, ls', v :: vs, vs', h, h' => ⟨h.1, LvsOK.app h.2 h'⟩
  | [], _, _ :: _, _, h, _ => h.elim
  | _ :: _, _, [], _, h, _ => h.elim
theorem lvs_u8 {w : World} : ∀ {ls : List Leaf} {vs : List Value}, ls.all isU8 = true → LvsOK w ls vs → ∃ bs : List UInt8, vs = u8s bs
  | [], [], _, _ => ⟨[], rfl⟩
  | l :: ls, v :: vs, ha, h => by
    simp only [List.all_cons, Bool.and_eq_true] at ha
    obtain ⟨bs, rfl⟩ := lvs_u8 ha.2 h.2
    have h1 := h.1
    have hl : l = .int .u8 := by
      have := ha.1
      unfold isU8 at this
      split at this
      · rfl
      · cases this
    subst hl
    obtain ⟨n, rfl, hw⟩ := h1
    refine ⟨UInt8.ofNat n.toNat :: bs, ?_⟩
    have := u8_of (xs := [n]) (fun m hm => by simp only [List.mem_cons, List.not_mem_nil, or_false] at hm; rw [hm]; exact hw)
    simp only [List.map_cons, List.map_nil] at this
    simp only [u8s, List.map_cons]
    rw [show u8s [UInt8.ofNat n.toNat] = [Value.int .u8 ((UInt8.ofNat n.toNat).toNat : Int)] from rfl] at this
    injection this with h1 _
    rw [h1]
  | [], _ :: _, _, h => h.elim
  | _ :: _, [], _, h => h.elim
section
variable {H : Type} {enc : TypeId × Value → H} {P : Program} {w : World} {base b0 : Nat} {sp : Nat → Bool} {held : Bool}
theorem fld_ok {r : TypeId → List Value → Option (DataW H × List MemPlace)} {g : TypeId → Option (List Leaf)} (hr : ∀ t cs y l, g t = some l → r t cs = some y → LvsOK w l cs) {cs : List Value} : ∀ {fs : List Field} {o : Nat} {ls : List Leaf} {ys : List (DataW H × List MemPlace)}, fldL P g o fs = some ls → o + ls.length ≤ cs.length → fs.mapM (fun f => r f.type ((cs.drop f.offset).take (P.cellsOf f.type))) = some ys → LvsOK w ls ((cs.drop o).take ls.length)
  | [], o, ls, ys, h, hl, hy => by
    simp only [fldL, Option.some.injEq] at h
    subst h
    simp [LvsOK]
  | f :: fs, o, ls, ys, h, hl, hy => by
    rw [fldL] at h
    cases hg : g f.type with
    | none => rw [hg] at h; cases h
    | some l =>
      rw [hg] at h
      simp only at h
      cases hf : fldL P g (o + l.length) fs with
      | none => rw [hf] at h; cases h
      | some l' =>
        rw [hf] at h
        simp only at h
        cases hb : Nat.beq f.offset o && Nat.beq (P.cellsOf f.type) l.length with
        | false => rw [hb] at h; cases h
        | true =>
          rw [hb] at h
          simp only [Option.some.injEq] at h
          subst h
          rw [Bool.and_eq_true] at hb
          rw [List.length_append] at hl
          simp only [List.mapM_cons, Option.bind_eq_bind, Option.bind_eq_some_iff] at hy
          obtain ⟨y, hy1, ys', hy2, _⟩ := hy
          rw [Nat.eq_of_beq_eq_true hb.1, Nat.eq_of_beq_eq_true hb.2] at hy1
          have k1 := hr _ _ _ _ hg hy1
          have k2 := fld_ok hr hf (by omega) hy2
          rw [List.length_append, List.take_add, List.drop_drop]
          exact k1.app k2
theorem arr_ok {r : TypeId → List Value → Option (DataW H × List MemPlace)} {e : TypeId} {l : List Leaf} (hr : ∀ cs y, r e cs = some y → LvsOK w l cs) {cs : List Value} : ∀ {n o : Nat}, cs.length = (o + n) * l.length → (∀ i, o ≤ i → i < o + n → ∃ y, r e ((cs.drop (i * l.length)).take l.length) = some y) → LvsOK w (repL l n) (cs.drop (o * l.length))
  | 0, o, hl, h => by
    rw [List.drop_eq_nil_of_le (by rw [hl]; exact Nat.le_refl _)]
    trivial
  | n + 1, o, hl, h => by
    obtain ⟨y, hy⟩ := h o (Nat.le_refl _) (by omega)
    have k1 := hr _ _ hy
    have k2 := arr_ok hr (n := n) (o := o + 1) (by rw [hl]; congr 1; omega) (fun i h1 h2 => h i (by omega) (by omega))
    have : cs.drop (o * l.length) = (cs.drop (o * l.length)).take l.length ++ cs.drop ((o + 1) * l.length) := by
      conv => lhs; rw [← List.take_append_drop l.length (cs.drop (o * l.length))]
      rw [List.drop_drop, Nat.add_mul, Nat.one_mul]
    rw [this]
    exact k1.app k2
theorem trod_leaves : ∀ (d : Nat) {t : TypeId} {fuel : Nat} {cs : List Value} {y : DataW H × List MemPlace} {ls : List Leaf}, leaves P d t = some ls → DataW.trod enc P w base sp held fuel t cs = some y → LvsOK w ls cs
  | 0, t, fuel, cs, y, ls, h, hy => by cases h
  | d + 1, t, 0, cs, y, ls, h, hy => by simp [DataW.trod] at hy
  | d + 1, t, m + 1, cs, y, ls, h, hy => by
    rw [leaves] at h
    have hy0 := hy
    rw [DataW.trod_step] at hy
    unfold DataW.trodStep at hy
    cases hu : P.underlying t with
    | none => rw [hu] at h; cases h
    | some u =>
      rw [hu] at h
      simp only [hu] at hy
      cases u <;> first | (cases h; done) | skip
      case bool =>
        simp only [Option.some.injEq] at h
        subst h
        split at hy <;> simp_all [LvsOK, LeafOK]
      case int k =>
        simp only [Option.some.injEq] at h
        subst h
        obtain ⟨n, rfl, _, hw⟩ := DataW.trod_int hu hy0
        exact ⟨⟨n, rfl, hw⟩, trivial⟩
      case slice e =>
        simp only at h
        cases hg : leaves P d e with
        | none => rw [hg] at h; cases h
        | some l =>
          rw [hg] at h
          simp only at h
          cases hq : l.all isU8 && (Nat.beq (P.cellsOf e) l.length && Nat.ble 1 l.length) with
          | false => rw [hq] at h; cases h
          | true =>
            rw [hq] at h
            simp only [Option.some.injEq] at h
            subst h
            simp only [Bool.and_eq_true, Nat.ble_eq] at hq
            obtain ⟨q1, q2, q3⟩ := hq
            have hc := Nat.eq_of_beq_eq_true q2
            rcases DataW.trod_slice hu hy0 with ⟨rfl, _⟩ | ⟨a, len, cap, elems, rest, n, hn, rfl, _, _, hle, hm, hlen, hel, _⟩
            · exact ⟨⟨none, 0, 0, [], rfl, q3, Nat.zero_le _, Sees.nil w _⟩, trivial⟩
            · refine ⟨?_, trivial⟩
              have each : ∀ i, i < len → ∃ bs : List UInt8, bs.length = l.length ∧ ∀ j v, (u8s bs)[j]? = some v → w.cell? ((a.add (i * l.length)).add j) = some v := fun i hi => by
                have h1 := hel i hi
                rw [hc] at h1
                obtain ⟨z, hz⟩ : ∃ z, elems[i]? = some z := ⟨_, List.getElem?_eq_getElem (by omega)⟩
                rw [hz, Option.bind_eq_some_iff] at h1
                obtain ⟨xs, hxs, h2⟩ := h1
                obtain ⟨bs, hbs⟩ := lvs_u8 q1 (trod_leaves d hg h2)
                have hl2 := (trod_leaves d hg h2).len
                subst hbs
                rw [u8s_len] at hl2
                refine ⟨bs, hl2, fun j v hv => ?_⟩
                have hg3 := (World.cells?_some hxs).2.2 j (by have := (List.getElem?_eq_some_iff.1 hv).1; rw [u8s_len] at this; omega)
                rw [hg3]
                exact hv
              obtain ⟨bs, b1, b2⟩ : ∃ bs : List UInt8, bs.length = len * l.length ∧ ∀ j v, (u8s bs)[j]? = some v → w.cell? (a.add j) = some v := by
                have : ∀ k, k ≤ len → ∃ bs : List UInt8, bs.length = k * l.length ∧ ∀ j v, (u8s bs)[j]? = some v → w.cell? (a.add j) = some v := fun k => by
                  induction k with
                  | zero => intro _; exact ⟨[], by simp, fun j v hv => by simp [u8s] at hv⟩
                  | succ k ih =>
                    intro hk
                    obtain ⟨bs, e1, e2⟩ := ih (by omega)
                    obtain ⟨cs, f1, f2⟩ := each k (by omega)
                    refine ⟨bs ++ cs, by rw [List.length_append, e1, f1, Nat.add_mul, Nat.one_mul], fun j v hv => ?_⟩
                    have hap : u8s (bs ++ cs) = u8s bs ++ u8s cs := by simp [u8s]
                    rw [hap] at hv
                    by_cases hj : j < k * l.length
                    · rw [List.getElem?_append_left (by rw [u8s_len, e1]; exact hj)] at hv
                      exact e2 j v hv
                    · rw [List.getElem?_append_right (by rw [u8s_len, e1]; omega), u8s_len, e1] at hv
                      have := f2 _ _ hv
                      rw [addAdd, show k * l.length + (j - k * l.length) = j by omega] at this
                      exact this
                exact this len (Nat.le_refl _)
              exact ⟨some a, len, cap, bs, rfl, q3, by omega, ⟨by rw [u8s_len, b1], hle, fun j v hv => ⟨a, rfl, b2 j v hv⟩⟩⟩
      case struct fs =>
        simp only at h
        cases hf : fldL P (leaves P d) 0 fs.toList with
        | none => rw [hf] at h; cases h
        | some l =>
          rw [hf] at h
          simp only at h
          cases hb : Nat.beq (P.cellsOf t) l.length with
          | false => rw [hb] at h; cases h
          | true =>
            rw [hb] at h
            simp only [Option.some.injEq] at h
            subst h
            have hb := Nat.eq_of_beq_eq_true hb
            simp only at hy
            by_cases hl : cs.length = P.cellsOf t
            · rw [if_pos hl, Option.map_eq_some_iff] at hy
              obtain ⟨ys, hy1, _⟩ := hy
              have := fld_ok (P := P) (g := leaves P d) (fun t cs y l h1 h2 => trod_leaves d h1 h2) hf (by omega) hy1
              rw [List.drop_zero, List.take_of_length_le (by omega)] at this
              exact this
            · rw [if_neg hl] at hy; cases hy
      case array n e =>
        simp only at h
        cases hg : leaves P d e with
        | none => rw [hg] at h; cases h
        | some l =>
          rw [hg] at h
          simp only at h
          cases hb : Nat.beq (P.cellsOf e) l.length && Nat.beq (P.cellsOf t) (n * l.length) with
          | false => rw [hb] at h; cases h
          | true =>
            rw [hb] at h
            simp only [Option.some.injEq] at h
            subst h
            rw [Bool.and_eq_true] at hb
            have hb1 := Nat.eq_of_beq_eq_true hb.1
            have hb2 := Nat.eq_of_beq_eq_true hb.2
            simp only at hy
            by_cases hl : cs.length = P.cellsOf t
            · rw [if_pos hl, Option.map_eq_some_iff] at hy
              obtain ⟨ys, hy1, _⟩ := hy
              have hal : ∀ i, i < n → ∃ y, DataW.trod enc P w base sp held m e ((cs.drop (i * l.length)).take l.length) = some y := fun i hi => by
                have : ∀ {xs : List Nat} {ys : List (DataW H × List MemPlace)}, xs.mapM (fun i => DataW.trod enc P w base sp held m e ((cs.drop (i * P.cellsOf e)).take (P.cellsOf e))) = some ys → ∀ i ∈ xs, ∃ y, DataW.trod enc P w base sp held m e ((cs.drop (i * P.cellsOf e)).take (P.cellsOf e)) = some y := fun {xs} => by
                  induction xs with
                  | nil => intro ys _ i hi; cases hi
                  | cons x xs ih =>
                    intro ys hys i hi
                    simp only [List.mapM_cons, Option.bind_eq_bind, Option.bind_eq_some_iff] at hys
                    obtain ⟨y, hy1, ys', hy2, _⟩ := hys
                    rcases List.mem_cons.1 hi with rfl | hi
                    · exact ⟨y, hy1⟩
                    · exact ih hy2 i hi
                have := this hy1 i (List.mem_range.2 hi)
                rw [hb1] at this
                exact this
              have := arr_ok (n := n) (o := 0) (fun cs y h2 => trod_leaves d hg h2) (by rw [hl, hb2, Nat.zero_add]) (fun i _ hi => hal i (by omega))
              rw [Nat.zero_mul, List.drop_zero] at this
              exact this
            · rw [if_neg hl] at hy; cases hy
def aggB (P : Program) (t : TypeId) : Bool := match P.underlying t with
  | some (.struct _) => true
  | some (.array _ _) => true
  | _ => false
theorem aggB_ok {t : TypeId} (h : aggB P t = true) : (∃ fs, P.underlying t = some (.struct fs)) ∨ ∃ n e, P.underlying t = some (.array n e) := by
  unfold aggB at h
  split at h
  · rename_i fs hu; exact .inl ⟨fs, hu⟩
  · rename_i n e hu; exact .inr ⟨n, e, hu⟩
  · cases h
/-- A struct or an array, opened. -/
theorem open_agg {t : TypeId} {r : Reach} {v : Value} {dd : DataW H} {ps : List MemPlace} {d : Nat} {ls : List Leaf} (ha : aggB P t = true) (hl : leaves P d t = some ls)
    (hval : Value.okWide P w r b0 t v) (h : DataW.Trod enc P w base sp held t v dd ps) : ∃ cs : List Value, v = .agg cs.toArray ∧ LvsOK w ls cs := by
  obtain ⟨fuel, hf⟩ := h
  have hcs : ∃ cs, v = .agg cs := by
    unfold Value.okWide at hval
    rcases aggB_ok ha with ⟨fs, hu⟩ | ⟨n, e, hu⟩
    · simp only [hu] at hval
      obtain ⟨cs, rfl, _⟩ := hval
      exact ⟨cs, rfl⟩
    · simp only [hu] at hval
      obtain ⟨cs, rfl, _⟩ := hval
      exact ⟨cs, rfl⟩
  obtain ⟨cs, rfl⟩ := hcs
  exact ⟨cs.toList, by simp, trod_leaves d hl hf⟩
/-- A row of elements of bytes, opened. -/
theorem open_rows {s e : TypeId} {r : Reach} {v : Value} {dd : DataW H} {ps : List MemPlace} {d z : Nat} (hs : P.underlying s = some (.slice e)) (hl : leaves P d s = some [.bytes z])
    (hval : Value.okWide P w r b0 s v) (h : DataW.Trod enc P w base sp held s v dd ps) : ∃ p n c l, v = .slice p n c ∧ 0 < z ∧ n ≤ maxLen ∧ Sees w z p n c (u8s l) := by
  obtain ⟨p, n, c, rfl⟩ := WideShapes.okWide_slice hs hval
  obtain ⟨fuel, hf⟩ := h
  have := trod_leaves d hl hf
  simp only [Value.cells, LvsOK, LeafOK] at this
  obtain ⟨⟨p', n', c', l, h1, h2⟩, _⟩ := this
  cases h1
  exact ⟨_, _, _, l, rfl, h2⟩
end
end Go.Proofs.YtcanicgpkbhhdaaGreatDoor.Sh

namespace Go.Proofs.YtcanicgpkbhhdaaGreatDoor.Rn
open Go Go.RowKit Go.Proofs.YtcanicgpkbhhdaaGreatDoor.Sh
set_option linter.unusedVariables false
set_option linter.unusedSimpArgs false
/-- Marks: numbers and truth values from i on, rows from b on. -/
def symL : List Leaf → Nat → Nat → List V
  | [], _, _ => []
  | .int k :: l, i, b => .sint k (.cvt k (.var i)) :: symL l (i + 1) b
  | .bool :: l, i, b => .sbool (.var i) :: symL l (i + 1) b
  | .bytes _ :: l, i, b => .slo b :: symL l i (b + 1)
structure Ms where
  ints : Nat → Int
  bools : Nat → Bool
  lists : Nat → List UInt8
  sv : Nat → Option Addr × Nat × Nat
/-- Rows' lengths are told by lists of their own, from 1000 on. -/
def Ms.cx (m : Ms) : Cx := cx0 m.ints m.bools (fun j => if j < 1000 then m.lists j else List.replicate (m.sv (j - 1000)).2.1 0) m.sv
def symOK (W : World) (m : Ms) : List Leaf → Nat → Nat → Prop
  | [], _, _ => True
  | .int k :: l, i, b => (Lit.int k (m.ints i)).wf = true ∧ symOK W m l (i + 1) b
  | .bool :: l, i, b => symOK W m l (i + 1) b
  | .bytes z :: l, i, b => (0 < z ∧ (m.sv b).2.1 ≤ maxLen ∧ Sees W z (m.sv b).1 (m.sv b).2.1 (m.sv b).2.2 (u8s (m.lists b))) ∧ symOK W m l i (b + 1)
/-- The same below. -/
structure Ms.Sm (i b : Nat) (m m' : Ms) : Prop where
  ints : ∀ j, j < i → m'.ints j = m.ints j
  bools : ∀ j, j < i → m'.bools j = m.bools j
  lists : ∀ j, j < b → m'.lists j = m.lists j
  sv : ∀ j, j < b → m'.sv j = m.sv j
theorem wrap_wf {k : IntKind} {n : Int} (h : (Lit.int k n).wf = true) : k.wrap n = n := by
  have h : k.min ≤ n ∧ n ≤ k.max := by simpa [Lit.wf] using h
  cases k <;> simp [IntKind.min, IntKind.max, IntKind.wrap, IntKind.bits, IntKind.signed] at h ⊢ <;> (try split) <;> omega
theorem sym_of {W : World} : ∀ {ls : List Leaf} {cs : List Value} {i b : Nat} (m : Ms), LvsOK W ls cs → ∃ m', Ms.Sm i b m m' ∧ cs = V.denL m'.cx (symL ls i b) ∧ symOK W m' ls i b
  | [], [], i, b, m, _ => ⟨m, ⟨fun _ _ => rfl, fun _ _ => rfl, fun _ _ => rfl, fun _ _ => rfl⟩, rfl, trivial⟩
  | .int k :: ls, v :: cs, i, b, m, h => by
    obtain ⟨⟨n, rfl, hw⟩, h2⟩ := h
    obtain ⟨m', s, e, o⟩ := sym_of (i := i + 1) (b := b) { m with ints := fun j => if j = i then n else m.ints j } h2
    have hi : m'.ints i = n := by rw [s.ints i (by omega)]; simp
    refine ⟨m', ⟨fun j hj => by rw [s.ints j (by omega)]; simp only; rw [if_neg (by omega)], fun j hj => s.bools j (by omega), s.lists, s.sv⟩, ?_, by show (Lit.int k (m'.ints i)).wf = true; rw [hi]; exact hw, o⟩
    rw [symL, V.denL, ← e]
    show Value.int k n :: cs = Value.int k (k.wrap (m'.ints i)) :: cs
    rw [hi, wrap_wf hw]
  | .bool :: ls, v :: cs, i, b, m, h => by
    obtain ⟨⟨n, rfl⟩, h2⟩ := h
    obtain ⟨m', s, e, o⟩ := sym_of (i := i + 1) (b := b) { m with bools := fun j => if j = i then n else m.bools j } h2
    have hi : m'.bools i = n := by rw [s.bools i (by omega)]; simp
    refine ⟨m', ⟨fun j hj => s.ints j (by omega), fun j hj => by rw [s.bools j (by omega)]; simp only; rw [if_neg (by omega)], s.lists, s.sv⟩, ?_, o⟩
    rw [symL, V.denL, ← e]
    show Value.bool n :: cs = Value.bool (m'.bools i) :: cs
    rw [hi]
  | .bytes z :: ls, v :: cs, i, b, m, h => by
    obtain ⟨⟨p, n, c, l, rfl, hz, hm, hs⟩, h2⟩ := h
    obtain ⟨m', s, e, o⟩ := sym_of (i := i) (b := b + 1) { m with lists := fun j => if j = b then l else m.lists j, sv := fun j => if j = b then (p, n, c) else m.sv j } h2
    have hi : m'.lists b = l := by rw [s.lists b (by omega)]; simp
    have hj : m'.sv b = (p, n, c) := by rw [s.sv b (by omega)]; simp
    refine ⟨m', ⟨s.ints, s.bools, fun j hj => by rw [s.lists j (by omega)]; simp only; rw [if_neg (by omega)], fun j hj => by rw [s.sv j (by omega)]; simp only; rw [if_neg (by omega)]⟩, ?_, ⟨hz, by rw [hj]; exact hm, by rw [hj, hi]; exact hs⟩, o⟩
    rw [symL, V.denL, ← e]
    show Value.slice p n c :: cs = Value.slice (m'.sv b).1 (m'.sv b).2.1 (m'.sv b).2.2 :: cs
    rw [hj]
  | [], _ :: _, _, _, _, h => h.elim
  | _ :: _, [], _, _, _, h => h.elim
def rowsO (sm : Bool) : List Leaf → Nat → List O
  | [], _ => []
  | .int _ :: l, b => rowsO sm l b
  | .bool :: l, b => rowsO sm l b
  | .bytes z :: l, b => .opq sm z (1000 + b) b [] :: rowsO sm l (b + 1)
theorem rowsO_len : ∀ {ls : List Leaf} {b : Nat} {sm : Bool}, (rowsO sm ls b).length ≤ ls.length
  | [], _, _ => Nat.le_refl _
  | .int _ :: l, b, sm => Nat.le_trans (rowsO_len (ls := l) (b := b) (sm := sm)) (Nat.le_succ _)
  | .bool :: l, b, sm => Nat.le_trans (rowsO_len (ls := l) (b := b) (sm := sm)) (Nat.le_succ _)
  | .bytes z :: l, b, sm => Nat.succ_le_succ rowsO_len
theorem rowsO_at {W : World} {m : Ms} {sm : Bool} : ∀ {ls : List Leaf} {i b : Nat}, symOK W m ls i b → b + (rowsO sm ls b).length ≤ 1000 → ∀ j o, (rowsO sm ls b)[j]? = some o → (sm = true → ∀ j, j < b + (rowsO sm ls b).length → (m.sv j).2.1 ≤ 1073741824) →
    ∃ z, o = .opq sm z (1000 + (b + j)) (b + j) [] ∧ 0 < z ∧ Sees W z (m.cx.sv (b + j)).1 (m.cx.sv (b + j)).2.1 (m.cx.sv (b + j)).2.2 (u8s (m.cx.lists (b + j))) ∧ (m.cx.sv (b + j)).2.1 = (m.cx.lists (1000 + (b + j))).length ∧ (sm = true → (m.cx.lists (1000 + (b + j))).length ≤ 1073741824)
  | [], i, b, h, hb, j, o, ho, hs => by cases ho
  | .int _ :: l, i, b, h, hb, j, o, ho, hs => rowsO_at h.2 hb j o ho hs
  | .bool :: l, i, b, h, hb, j, o, ho, hs => rowsO_at (ls := l) (i := i + 1) h hb j o ho hs
  | .bytes z :: l, i, b, h, hb, 0, o, ho, hs => by
    simp only [rowsO, List.getElem?_cons_zero, Option.some.injEq] at ho
    simp only [rowsO, List.length_cons] at hb
    obtain ⟨⟨h1, h2, h3⟩, _⟩ := h
    have e1 : m.cx.lists b = m.lists b := by show (if b < 1000 then m.lists b else _) = _; rw [if_pos (by omega)]
    have e2 : (m.cx.lists (1000 + b)).length = (m.sv b).2.1 := by
      show (if 1000 + b < 1000 then m.lists (1000 + b) else List.replicate (m.sv (1000 + b - 1000)).2.1 0).length = _
      rw [if_neg (by omega), List.length_replicate, Nat.add_sub_cancel_left]
    refine ⟨z, ho.symm, h1, by rw [Nat.add_zero, e1]; exact h3, by rw [Nat.add_zero, e2]; rfl, fun e => by rw [Nat.add_zero, e2]; exact hs e b (by simp only [rowsO, List.length_cons]; omega)⟩
  | .bytes z :: l, i, b, h, hb, j + 1, o, ho, hs => by
    simp only [rowsO, List.getElem?_cons_succ] at ho
    simp only [rowsO, List.length_cons] at hb
    have := rowsO_at h.2 (by omega) j o ho fun e j hj => hs e j (by simp only [rowsO, List.length_cons]; omega)
    rw [show b + (j + 1) = b + 1 + j by omega]
    exact this
/-- The run's memory at first. -/
theorem rep_sym {W : World} {m : Ms} {sm : Bool} {ls : List Leaf} {i : Nat} {E : List (Bx × Bool)} (h : symOK W m ls i 0) (hl : (rowsO sm ls 0).length ≤ 1000) (hs : sm = true → ∀ j, j < (rowsO sm ls 0).length → (m.sv j).2.1 ≤ 1073741824) (hE : allE m.cx E) : Rep m.cx (bs0 W) W (hoL (rowsO sm ls 0) E) := by
  refine repLs (by omega) (fun b o ho => ?_) (allE_ok hE)
  obtain ⟨z, h1, h2, h3, h4, h5⟩ := rowsO_at h (by omega) b o ho fun e j hj => hs e j (by omega)
  rw [Nat.zero_add] at h1 h3 h4 h5
  exact ⟨sm, z, _, _, h1, h2, h3, h4, h5⟩
def ms0 : Ms := ⟨fun _ => 0, fun _ => true, fun _ => [], fun _ => (none, 0, 0)⟩
end Go.Proofs.YtcanicgpkbhhdaaGreatDoor.Rn

namespace Go.Proofs.YtcanicgpkbhhdaaGreatDoor.Rn
open Go Go.RowKit Go.Proofs.YtcanicgpkbhhdaaGreatDoor.Sh
set_option linter.unusedVariables false
set_option linter.unusedSimpArgs false
section
variable {c : Cx}
theorem add_den {a b : Sx} {x y : Int} (ha : a.den c = x) (hb : b.den c = y) (h0 : 0 ≤ x + y) (h1 : x + y < 18446744073709551616) : (Sx.bin .add .u64 a b).den c = x + y := by
  show IntKind.u64.wrap (a.den c + b.den c) = _
  rw [ha, hb, w64 h0 h1]
theorem sub_den {a b : Sx} {x y : Int} (ha : a.den c = x) (hb : b.den c = y) (h0 : 0 ≤ x - y) (h1 : x - y < 18446744073709551616) : (Sx.bin .sub .u64 a b).den c = x - y := by
  show IntKind.u64.wrap (a.den c - b.den c) = _
  rw [ha, hb, w64 h0 h1]
/-- Gas paid step by step. -/
def payS (s : Sx) : List Nat → Sx
  | [] => s
  | n :: l => payS (.bin .sub .u64 s (.lit (.ofNat n))) l
def sumN : List Nat → Nat
  | [] => 0
  | n :: l => n + sumN l
theorem pay_den : ∀ {l : List Nat} {s : Sx} {x : Int}, s.den c = x → (sumN l : Int) ≤ x → x < 18446744073709551616 → (payS s l).den c = x - sumN l
  | [], s, x, h, _, _ => by simp [payS, sumN, h]
  | n :: l, s, x, h, h1, h2 => by
    simp only [sumN] at h1 ⊢
    have : (Sx.bin .sub .u64 s (.lit (.ofNat n))).den c = x - (n : Int) := sub_den h rfl (by omega) (by omega)
    rw [payS, pay_den this (by omega) (by omega)]
    omega
theorem pay_f {s : Sx} {x : Int} {n : Nat} (l : List Nat) (h : s.den c = x) (h1 : (n + sumN l : Int) ≤ x) (h2 : x < 18446744073709551616) : (Bx.cmp .gtr (.lit (.ofNat n)) (payS s l)).den c = false := by
  refine gt_f ?_
  rw [pay_den h (by omega) h2]
  show ¬ ((n : Int) > _)
  omega
theorem and_t {a b : Bx} (ha : a.den c = true) (hb : b.den c = true) : (Bx.and a b).den c = true := by simp only [Bx.den, ha, hb]; rfl
theorem b8_t {a b : Sx} (h : a.den c = b.den c) : (Bx.b8 a b).den c = true := by simp only [Bx.den, h]; exact beq_self_eq_true _
end
end Go.Proofs.YtcanicgpkbhhdaaGreatDoor.Rn

namespace Go.Proofs.YtcanicgpkbhhdaaGreatDoor.Rn
open Go Go.RowKit Go.Proofs.YtcanicgpkbhhdaaGreatDoor.Sh
set_option linter.unusedVariables false
set_option linter.unusedSimpArgs false
def leavesD : List Leaf := [.bytes 1, .int .i64, .int .u64]
def argsD : List V := [.slo 0, .sint .i64 (.cvt .i64 (.var 0)), .sint .u64 (.cvt .u64 (.var 1))]
abbrev xD : Sx := .cvt .u64 (.var 1)
abbrev lD : Sx := .cvt .u64 (.len 1000)
abbrev sizeD : Sx := .bin .add .i64 (.len 1000) (.bin .and .i64 (.cvt .i64 (.var 0)) (.lit (.ofNat 4095)))
abbrev inD : Bx := .cmp .lss xD lD
abbrev addD (i : Nat) : Sx := .bin .add .i64 (.cvt .i64 xD) (.lit (.ofNat i))
abbrev ltD (i : Nat) : Bx := .cmp .lss (addD i) (.len 1000)
def preD : List (Bx × Bool) := [(.cmp .gtr (.len 1000) (.lit (.ofNat 60000)), false), (.cmp .gtr sizeD (.lit (.ofNat 65535)), false), (.cmp .lss sizeD (.len 1000), false)]
def repB (b : Bx × Bool) : Nat → List (Bx × Bool)
  | 0 => []
  | n + 1 => b :: repB b n
/-- Behind the data: nothing of them is seen. -/
def outD : List (Bx × Bool) := preD ++ repB (inD, false) 66
def knownD : Nat → Nat → List (Bx × Bool)
  | _, 0 => []
  | i, n + 1 => (inD, true) :: (ltD i, true) :: (.cmp .geq (addD i) (.lit (.ofNat 0)), true) :: (ltD i, true) :: knownD (i + 1) n
/-- Within the data: so many are known to be there. -/
def firstD (s : Nat) : List (Bx × Bool) := preD ++ ([(inD, true), (.cmp .geq xD (.lit (.ofNat 0)), true), (.cmp .leq xD (.len 1000), true), (inD, true)] ++ (knownD 0 s ++ [(inD, true)]))
def restD : Nat → Nat → List (Bx × Bool)
  | _, 0 => []
  | i, n + 1 => (inD, true) :: (ltD i, false) :: restD (i + 1) n
def rowD (k j : Nat) : Sx := match Nat.ble (j + 1) k with | true => .byt 0 1 (addD j) 0 | false => .lit (.ofNat 0)
def andL : List Bx → Bx
  | [] => .lit true
  | [a] => a
  | a :: l => .and a (andL l)
def eqD (k : Nat) : Nat → Nat → List Bx
  | _, 0 => []
  | j, n + 1 => .b8 (.byt 0 1 xD j) (rowD k j) :: eqD k (j + 1) n
def finD (k : Nat) : Bx := andL (eqD k 0 32 ++ eqD k 0 64)
def stepD (i : Nat) : List (Bx × Bool) := [(.cmp .geq (addD i) (.lit (.ofNat 0)), true), (ltD i, true)]
/-- From a place on, to a last one. -/
def treeD (e : Nat) : Nat → Nat → Fk
  | 0, _ => .leaf
  | 1, i => .fork (ltD i) (stepD i ++ restD e (64 - e)) (.done (finD e)) (restD (i + 1) (63 - i)) (.done (finD i))
  | n + 2, i => .fork (ltD i) (stepD i ++ [(inD, true)]) (treeD e (n + 1) (i + 1)) (restD (i + 1) (63 - i)) (.done (finD i))
end Go.Proofs.YtcanicgpkbhhdaaGreatDoor.Rn
