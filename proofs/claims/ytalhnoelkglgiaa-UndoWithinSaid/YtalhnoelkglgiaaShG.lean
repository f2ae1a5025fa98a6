/- The layer's regions that draw their order, third part: drawA suffices for the region (wpIn). No condition: it holds of every program. -/
import Derived.Test.YtalhnoelkglgiaaShE
namespace Go.Proofs.Ytalhnoelkglgiaa.Sh
open Go
set_option linter.unusedSimpArgs false
set_option linter.unusedVariables false
section
variable {P : Program} {N : Nat} {rd : Option Nat} {n : Nat} {Q : Exit → Act → World → Prop}
variable {L : List Oper} {ord : List Nat} {e0 e : Env} {ds : List Deferred} {H : List HRec} {rest : List Nat} {rs : List Rec} {w : World} {S : Nat → Bool} {a : Act}

theorem asCK_mono {c : CK} {v : Value} {F G : Value → Prop} (h : ∀ v, F v → G v) (hh : asCK c v F) : asCK c v G := by
  cases c <;> cases v <;> simp_all [asCK, asI, asB, asS, asP, asL, asM]
theorem asCells_mono {F G : List Value → Prop} (h : ∀ v, F v → G v) : ∀ (l : List CK) (xs acc : List Value), asCells l xs acc F → asCells l xs acc G
  | [], [], acc, hh => h _ hh
  | [], _ :: _, _, hh => hh.elim
  | _ :: _, [], _, hh => hh.elim
  | c :: l, x :: xs, acc, hh => asCK_mono (fun v hv => asCells_mono h l xs (v :: acc) hv) hh
theorem asV1_mono {c : V1} {v : Value} {F G : Value → Prop} (h : ∀ v, F v → G v) (hh : asV1 c v F) : asV1 c v G := by
  cases c with
  | one c => exact asCK_mono h hh
  | agg l => cases v <;> simp only [asV1, asG] at hh ⊢; exact asCells_mono (fun r hr => h _ hr) _ _ _ hh
theorem asTup_mono {F G : List Value → Prop} (h : ∀ v, F v → G v) : ∀ (l : List V1) (xs acc : List Value), asTup l xs acc F → asTup l xs acc G
  | [], [], acc, hh => h _ hh
  | [], _ :: _, _, hh => hh.elim
  | _ :: _, [], _, hh => hh.elim
  | c :: l, x :: xs, acc, hh => asV1_mono (fun v hv => asTup_mono h l xs (v :: acc) hv) hh
theorem asVS_mono {c : VS} {v : Value} {F G : Value → Prop} (h : ∀ v, F v → G v) (hh : asVS c v F) : asVS c v G := by
  cases c with
  | v c => exact asV1_mono h hh
  | tup l => cases v <;> simp only [asVS, asT] at hh ⊢; exact asTup_mono (fun r hr => h _ hr) _ _ _ hh
theorem asA_mono {v : Value} {F G : Addr → Prop} (h : ∀ v, F v → G v) (hh : asA v F) : asA v G := by
  unfold asA at *
  split at hh
  · rename_i p; cases p with
    | none => exact hh.elim
    | some b => exact h _ hh
  · exact hh.elim
theorem asL_mono {v : Value} {F G : Option Addr → Nat → Nat → Prop} (h : ∀ p l c, F p l c → G p l c) (hh : asL v F) : asL v G := by
  unfold asL at *; split at hh; exact h _ _ _ hh; exact hh.elim
theorem optP_mono {α : Type} {o : Option α} {F G : α → Prop} (h : ∀ a, F a → G a) (hh : optP o F) : optP o G := by
  cases o with
  | none => exact hh.elim
  | some a => exact h _ hh
theorem ifB_mono {b : Bool} {p q p' q' : Prop} (h1 : p → p') (h2 : q → q') (h : ifB b p q) : ifB b p' q' := by cases b; exact h2 h; exact h1 h
theorem cond_mono {b : Bool} {p p' : Prop} (h1 : p → p') (h : cond b p False) : cond b p' False := by cases b; exact h; exact h1 h
theorem semK_mono {s : Sem Value} {w : World} {F G : Value → World → Prop} (h : ∀ v w, F v w → G v w) (hh : semK P s w F) : semK P s w G := wp_mono' hh h
theorem semU_mono {s : Sem Unit} {w : World} {F G : World → Prop} (h : ∀ w, F w → G w) (hh : semU P s w F) : semU P s w G := wp_mono' hh fun _ w hw => h w hw
theorem callVal_mono {f : Value} {args : Array Value} {w : World} {F G : Value → World → Prop} (h : ∀ v w, F v w → G v w) (hh : callVal P f args w F) : callVal P f args w G := by
  unfold callVal at *
  split at hh
  · refine wp_mono' hh fun nx w hnx => ?_
    cases nx <;> simp only [nxA] at hnx ⊢ <;> first | exact h _ _ hnx | exact hnx.elim | skip
    · exact CallV.mono hnx h
    · exact RoundIn.mono hnx fun e' w'' ⟨v, h1, hv⟩ => ⟨v, h1, h _ _ hv⟩
  · exact hh.elim
theorem ldCells_mono {x : Addr} {F G : List Value → Prop} (h : ∀ v, F v → G v) : ∀ (l : List CK) (i : Nat) (acc : List Value), ldCells P w x i l acc F → ldCells P w x i l acc G
  | [], i, acc, hh => h _ hh
  | c :: l, i, acc, hh => ldK_mono hh fun v hv => asCK_mono (fun v hv => ldCells_mono h l (i + 1) (v :: acc) hv) hv
theorem ldT_mono {x : Addr} {t : TypeId} {F G : Value → Prop} (h : ∀ v, F v → G v) (hh : ldT P w x t F) : ldT P w x t G := by
  unfold ldT at *
  split at hh <;> first | exact cond_mono (fun hh => ldCells_mono (fun r hr => h _ hr) _ _ _ hh) hh | exact ldK_mono hh fun v hv => asCK_mono h hv | exact hh.elim
theorem nilA_mono {v : Value} {F G : Value → Prop} (h : ∀ v, F v → G v) (hh : nilA v F) : nilA v G := by
  unfold nilA at *
  split at hh
  · split at hh
    · exact h _ hh
    · exact hh.elim
  · exact hh.elim
  · exact hh.elim
  · exact hh.elim
  · rename_i h1 h2 h3 h4
    exact h _ hh
theorem eqK_mono {t : TypeId} {xs ys : Array Value} {F G : Bool → Prop} (h : ∀ v, F v → G v) (hh : eqK P t xs ys F) : eqK P t xs ys G := by
  unfold eqK at *
  refine cond_mono ?_ hh
  intro hh
  split at hh
  · exact h _ hh
  · exact hh.elim

theorem opA_mono {o : Oper} {K K' : Value → List Deferred → World → Prop} (h : ∀ v w, K v ds w → K' v ds w) (hh : opA P N o e ds w K) : opA P N o e ds w K' := by
  obtain ⟨dst, op, type, pos, after, guard⟩ := o
  unfold opA at *
  cases op <;> simp only at hh ⊢
  case move => exact h _ _ hh
  case assign => exact h _ _ hh
  case pick c x y => split at hh; exact ifB_mono (h _ _) (h _ _) hh; exact hh.elim
  case nilCheck => exact nilA_mono (fun _ hv => h _ _ hv) hh
  case load t x => split at hh; exact ldT_mono (fun _ hv => h _ _ hv) hh; exact hh.elim
  case store => exact semU_mono (fun _ hv => h _ _ hv) hh
  case mapUpdate => exact semU_mono (fun _ hv => h _ _ hv) hh
  case entryStore => exact semU_mono (fun _ hv => h _ _ hv) hh
  case call c =>
    split at hh
    · exact callVal_mono (fun _ _ hv => asVS_mono (fun _ hv => h _ _ hv) hv) hh
    · exact optP_mono (fun _ hs => semK_mono (fun _ _ hv => asVS_mono (fun _ hv => h _ _ hv) hv) hs) hh
    · exact hh.elim
  case makeFunc => exact h _ _ hh
  case build => exact optP_mono (fun _ hv => h _ _ hv) hh
  case buildSlice => exact optP_mono (fun _ hv => h _ _ hv) hh
  case binOp op t x y yt =>
    cases hc : anyTy P t
    case true =>
      rw [hc] at hh
      exact semK_mono (fun _ _ hv => asVS_mono (fun _ hv => h _ _ hv) hv) hh
    rw [hc] at hh
    simp only [cond_false] at hh ⊢
    split at hh
    · exact eqK_mono (fun _ hv => h _ _ hv) hh
    · exact eqK_mono (fun _ hv => h _ _ hv) hh
    · exact cond_mono (h _ _) hh
    · exact cond_mono (h _ _) hh
    · exact cond_mono (h _ _) hh
    · exact cond_mono (h _ _) hh
    · exact cond_mono (h _ _) hh
    · exact cond_mono (h _ _) hh
    · exact cond_mono (fun hh => ifB_mono id (h _ _) hh) hh
    · exact cond_mono (fun hh => ifB_mono id (h _ _) hh) hh
    · exact ifB_mono id (h _ _) hh
    · exact ifB_mono id (h _ _) hh
    · exact semK_mono (fun _ _ hv => asVS_mono (fun _ hv => h _ _ hv) hv) hh
  case makeSlice => exact semK_mono (fun _ _ hv => asL_mono (fun _ _ _ hv => h _ _ hv) hv) hh
  case fieldAddr => exact semK_mono (fun _ _ hv => asA_mono (fun _ hv => h _ _ hv) hv) hh
  case indexAddr => exact semK_mono (fun _ _ hv => asA_mono (fun _ hv => h _ _ hv) hv) hh
  case range => exact semK_mono (fun _ _ hv => asA_mono (fun _ hv => h _ _ hv) hv) hh
  all_goals first | exact hh.elim | exact semK_mono (fun _ _ hv => h _ _ hv) hh | exact semK_mono (fun _ _ hv => asVS_mono (fun _ hv => h _ _ hv) hv) hh

theorem obls_split {anc : Nat} {p : Prop} : ∀ rs : List Rec, oblsA P N ds anc w p rs → p ∧ ∀ r ∈ rs, loadB r.o = true → anc.testBit r.i = false → opA P N r.o r.e ds w (fun u _ _ => u = r.v)
  | [], h => ⟨h, fun r hr => by simp at hr⟩
  | r :: rs, h => by
    simp only [oblsA] at h
    cases hb : (loadB r.o && !(anc.testBit r.i)) with
    | true =>
      rw [hb] at h
      obtain ⟨h1, h2⟩ := h
      obtain ⟨hp, hr⟩ := obls_split rs h2
      refine ⟨hp, fun r' hr' h3 h4 => ?_⟩
      rcases List.mem_cons.1 hr' with rfl | hm
      · exact h1
      · exact hr r' hm h3 h4
    | false =>
      rw [hb] at h
      obtain ⟨hp, hr⟩ := obls_split rs h
      refine ⟨hp, fun r' hr' h3 h4 => ?_⟩
      rcases List.mem_cons.1 hr' with rfl | hm
      · simp [h3, h4] at hb
      · exact hr r' hm h3 h4

theorem put_same {d : Nat} {v : Value} {e : Env} (h : rdv N e (.tmp d) = v) (hv : v ≠ undef) : put e (some d) v = e := by
  have hlt : Nat.ble (d + 1) N = true := by
    cases hb : Nat.ble (d + 1) N with
    | true => rfl
    | false => simp only [rdv, hb, cond_false] at h; exact absurd h.symm hv
  simp only [rdv, hlt, cond_true] at h
  funext i
  simp only [put]
  cases hb : Nat.beq i d with
  | false => rfl
  | true => rw [Nat.eq_of_beq_eq_true hb, cond_true, h]

/-- The lights ahead are walked. -/
theorem normalize {K : Env → World → Prop} (hp : ord.Pairwise (Rr P L)) : ∀ (rest : List Nat) (H : List HRec) (rs : List Rec) (e : Env), Inv P N L ord e0 ds H rest rs e w S a → drawA P N L (ancsGo [] L) ds K rest rs e w →
    ∃ H' rest' rs' e', Inv P N L ord e0 ds H' rest' rs' e' w S a ∧ drawA P N L (ancsGo [] L) ds K rest' rs' e' w ∧ ((rest' = [] ∧ K e' w) ∨ ∃ i o tl, rest' = i :: tl ∧ L[i]? = some o ∧ wantE L N o e' = true ∧ lightB P o = false ∧
      opA P N o e' ds w (fun v _ w' => oblsA P N ds ((ancsGo [] L).getD i 0) w' (drawA P N L (ancsGo [] L) ds K tl rs' (put e' o.dst v) w') rs'))
  | [], H, rs, e, hI, h => ⟨H, [], rs, e, hI, h, .inl ⟨rfl, h⟩⟩
  | i :: rest, H, rs, e, hI, h => by
    have hall := h
    simp only [drawA] at h
    cases ho : L[i]? with
    | none => simp [ho] at h
    | some o =>
      simp only [ho] at h
      have run : wantE L N o e = true → (cond (lightB P o)
          (cond (lightE N o e) (opA P N o e ds w fun v _ _ => drawA P N L (ancsGo [] L) ds K rest (rs ++ [⟨i, o, e, v⟩]) (put e o.dst v) w) False)
          (opA P N o e ds w fun v _ w' => oblsA P N ds ((ancsGo [] L).getD i 0) w' (drawA P N L (ancsGo [] L) ds K rest rs (put e o.dst v) w') rs)) →
          ∃ H' rest' rs' e', Inv P N L ord e0 ds H' rest' rs' e' w S a ∧ drawA P N L (ancsGo [] L) ds K rest' rs' e' w ∧ ((rest' = [] ∧ K e' w) ∨ ∃ i o tl, rest' = i :: tl ∧ L[i]? = some o ∧ wantE L N o e' = true ∧ lightB P o = false ∧
            opA P N o e' ds w (fun v _ w' => oblsA P N ds ((ancsGo [] L).getD i 0) w' (drawA P N L (ancsGo [] L) ds K tl rs' (put e' o.dst v) w') rs')) := by
        intro hw h
        cases hl : lightB P o with
        | false =>
          rw [hl] at h
          exact ⟨H, i :: rest, rs, e, hI, hall, .inr ⟨i, o, rest, rfl, ho, hw, hl, h⟩⟩
        | true =>
          rw [hl] at h
          cases he : lightE N o e with
          | false => rw [he] at h; exact h.elim
          | true =>
            rw [he] at h
            simp only [cond_true] at h
            obtain ⟨v, h1, h2, h3⟩ := light_run hl he h
            have hI' := hI.walk hp ho (v := v) (.inl ⟨hw, hl, he, h1, h3⟩) (rs ++ [⟨i, o, e, v⟩]) (fun r hr => by simp [hr]) (fun _ _ => ⟨⟨i, o, e, v⟩, by simp, rfl, rfl, rfl, rfl⟩)
            exact normalize hp rest _ _ _ hI' h2
      have skip : wantE L N o e = false → drawA P N L (ancsGo [] L) ds K rest rs (put e o.dst undef) w →
          ∃ H' rest' rs' e', Inv P N L ord e0 ds H' rest' rs' e' w S a ∧ drawA P N L (ancsGo [] L) ds K rest' rs' e' w ∧ ((rest' = [] ∧ K e' w) ∨ ∃ i o tl, rest' = i :: tl ∧ L[i]? = some o ∧ wantE L N o e' = true ∧ lightB P o = false ∧
            opA P N o e' ds w (fun v _ w' => oblsA P N ds ((ancsGo [] L).getD i 0) w' (drawA P N L (ancsGo [] L) ds K tl rs' (put e' o.dst v) w') rs')) := by
        intro hw h
        exact normalize hp rest _ _ _ (hI.walk hp ho (v := undef) (.inr ⟨hw, rfl⟩) rs (fun r hr => hr) (fun h1 => by rw [hw] at h1; cases h1)) h
      cases hg : o.guard with
      | none =>
        simp only [hg] at h
        exact run (by simp [wantE, hg]) h
      | some jw =>
        obtain ⟨j, want⟩ := jw
        simp only [hg] at h
        split at h
        · exact h.elim
        · rename_i d hd
          split at h
          · rename_i b hb
            have hw : wantE L N o e = (some b == some want) := by simp [wantE, hg, hd, hb]
            have hput : put e (some d) (.bool b) = e := put_same hb (by simp [undef])
            cases b <;> cases want <;> simp only [ifB, cond_true, cond_false, hput] at h
            · exact run (by rw [hw]; rfl) h
            · exact skip (by rw [hw]; rfl) h
            · exact skip (by rw [hw]; rfl) h
            · exact run (by rw [hw]; rfl) h
          · rename_i hn
            exact skip (want_not hg hd hn) h

/-- The slots that the head takes in. -/
theorem slots_head {i : Nat} {tl : List Nat} {o : Oper} (hI : Inv P N L ord e0 ds H (i :: tl) rs e w S a) (hp : ord.Pairwise (Rr P L)) (hL : ∀ i, S i = true → i < L.length) (ho : L[i]? = some o)
    (hready : ∀ ed ∈ o.after.toList, bindsAny ed = true → S ed.on = true) : ∀ t ∈ looksL L o, foldE S e0 H t = e t := by
  intro t ht
  rw [hI.full]
  rw [hI.ord] at hp
  have hc := (List.pairwise_append.1 hp).2.2
  refine foldE_slot t H _ _ rfl fun y hy => ?_
  cases hs : S y.i with
  | true => exact .inl rfl
  | false =>
    refine .inr fun hd => ?_
    obtain ⟨hne, htb, hor⟩ := hc y.i (List.mem_map_of_mem hy) i (by simp)
    rcases hor with h1 | ⟨y', x', hy', hx', _, hap⟩
    · have := anc_closed hI.closed hL i o y.i ho hready h1
      rw [hs] at this; cases this
    · rw [ho] at hx'
      rw [hI.ops y hy] at hy'
      simp only [Option.some.injEq] at hx' hy'
      subst hx' hy'
      exact (apart_spec hap).1 t hd ht

theorem Inv.heavy {i : Nat} {tl : List Nat} {o : Oper} {v : Value} {w' : World} {a' : Act} (hr' : Rel N (put (foldE S e0 H) o.dst v) ds a') (hI : Inv P N L ord e0 ds H (i :: tl) rs e w S a) (hp : ord.Pairwise (Rr P L)) (hL : ∀ i, S i = true → i < L.length) (ho : L[i]? = some o)
    (hready : ∀ ed ∈ o.after.toList, bindsAny ed = true → S ed.on = true) (hob : ∀ r ∈ rs, loadB r.o = true → ((ancsGo [] L).getD i 0).testBit r.i = false → opA P N r.o r.e ds w' (fun u _ _ => u = r.v)) :
    Inv P N L ord e0 ds (H ++ [⟨i, o, v⟩]) tl rs (put e o.dst v) w' (add S i) a' := by
  obtain ⟨hs, hn⟩ := hI.fresh hp (i := i) (by simp)
  have hanc : ∀ h, ((ancsGo [] L).getD i 0).testBit h = true → S h = true := fun h => anc_closed hI.closed hL i o h ho hready
  refine ⟨by rw [hI.ord]; simp, ?_, ?_, ?_, ?_, ?_, ?_⟩
  · intro x hx
    rcases List.mem_append.1 hx with h | h
    · exact hI.ops x h
    · simp only [List.mem_singleton] at h; subst h; exact ho
  · rw [foldE_append, ← hI.full]; rfl
  · rw [foldE_append]
    simp only [foldE, add_self, cond_true]
    rw [foldE_same H e0 fun y hy => add_other (hn y hy)]
    exact hr'
  · intro j hj
    by_cases hji : j = i
    · exact ⟨⟨i, o, v⟩, by simp, hji.symm⟩
    · rw [add_other hji] at hj
      obtain ⟨x, hx, he⟩ := hI.inH j hj
      exact ⟨x, by simp [hx], he⟩
  · intro j o' hj ho' ed he hb
    by_cases hji : j = i
    · subst hji
      rw [ho] at ho'
      simp only [Option.some.injEq] at ho'
      subst ho'
      simp [add, hready ed he hb]
    · rw [add_other hji] at hj
      simp [add, hI.closed j o' hj ho' ed he hb]
  · intro H1 x H2 hH hx
    have hxi : x.i ≠ i := by
      intro hh; rw [hh, add_self] at hx; cases hx
    rw [add_other hxi] at hx
    rcases List.eq_nil_or_concat H2 with rfl | ⟨H3, z, rfl⟩
    · obtain ⟨h1, h2⟩ := List.append_inj' hH rfl
      simp only [List.cons.injEq, and_true] at h2
      subst h2
      exact absurd rfl hxi
    · rw [show H1 ++ x :: (H3.concat z) = (H1 ++ x :: H3) ++ [z] by simp] at hH
      obtain ⟨h1, h2⟩ := List.append_inj' hH rfl
      obtain ⟨p1, p2⟩ := hI.pend H1 x H3 h1 hx
      refine ⟨?_, p2⟩
      rcases p1 with ⟨q1, q2, q3, q4, q5⟩ | q
      · cases hlb : loadB x.o with
        | false => exact .inl ⟨q1, q2, q3, q5 hlb w', q5⟩
        | true =>
          obtain ⟨r, hr, r1, r2, r3, r4⟩ := p2 q1 hlb
          have htb : ((ancsGo [] L).getD i 0).testBit r.i = false := by
            cases ht : ((ancsGo [] L).getD i 0).testBit r.i with
            | false => rfl
            | true => have := hanc _ ht; rw [r1, hx] at this; cases this
          have hop := hob r hr (by rw [r2]; exact hlb) htb
          rw [r2, r3, r4] at hop
          obtain ⟨u, u1, u2, u3⟩ := light_run q2 q3 hop
          subst u2
          exact .inl ⟨q1, q2, q3, u1, u3⟩
      · exact .inr q

theorem noSel_of_light {o : Oper} (hl : lightB P o = true) : (∀ cs b, o.op ≠ .select cs b) ∧ (∀ c, o.op ≠ .defer c) := by
  constructor
  · intro cs b he; simp [lightB, he] at hl
  · intro c he; simp [lightB, he] at hl

theorem getD_listed {l : Array Bool} {j : Nat} {b : Bool} (h : j < l.size) : l.getD j b = l[j] := by simp [Array.getD, h]

/-- What the order walked, every order does. -/
theorem draw_any {ops : Array Oper} {K : Env → World → Prop} (hp : ord.Pairwise (Rr P ops.toList)) (hcov : ∀ i, i < ops.size → i ∈ ord)
    (hedge : ∀ i o, ops.toList[i]? = some o → ∀ ed ∈ o.after.toList, bindsAny ed = true → ed.on < i) (hQ : ∀ e a w, Rel N e ds a → K e w → Q .normal a w) :
    ∀ (m : Nat) (listed : Array Bool) (S : Nat → Bool) (H : List HRec) (rest : List Nat) (rs : List Rec) (e : Env) (w : World) (a : Act), listed.size = ops.size → (∀ j (h : j < listed.size), listed[j] = S j) → (∀ j, S j = true → j < ops.size) →
      cnt S ops.size = m → Inv P N ops.toList ord e0 ds H rest rs e w S a → drawA P N ops.toList (ancsGo [] ops.toList) ds K rest rs e w → wpAnyIn (FW rd) n P .any ops Q m listed a w := by
  intro m
  induction m with
  | zero =>
    intro listed S H rest rs e w a hsz hls hS hc hI h
    have hall := cnt_zero _ hc
    obtain ⟨H', rest', rs', e', hI', _, hor⟩ := normalize hp rest H rs e hI h
    have hk : rest' = [] ∧ K e' w := by
      rcases hor with h1 | ⟨i, o, tl, hr, ho, _⟩
      · exact h1
      · have hi : i < ops.size := by
          have := (List.getElem?_eq_some_iff.1 ho).1; simpa using this
        have := (hI'.fresh hp (i := i) (by simp [hr])).1
        rw [hall i hi] at this; cases this
    have hE : foldE S e0 H' = e' := by
      rw [hI'.full]
      exact foldE_same H' e0 fun x hx => hall x.i (by have := (List.getElem?_eq_some_iff.1 (hI'.ops x hx)).1; simpa using this)
    refine ⟨?_, hQ e' a w (hE ▸ hI'.act) hk.2⟩
    simp only [Region.ready, List.filter_eq_nil_iff, List.mem_range]
    intro i hi
    have : listed.getD i true = true := by rw [getD_listed (by omega), hls i (by omega)]; exact hall i hi
    simp [this]
  | succ m ih =>
    intro listed S H rest rs e w a hsz hls hS hc hI h
    have hL : ∀ i, S i = true → i < ops.toList.length := fun i hi => by simpa using hS i hi
    obtain ⟨H', rest', rs', e', hI', hd, hor⟩ := normalize hp rest H rs e hI h
    have next : ∀ (i : Nat) (rest : List Nat) (rs : List Rec) (e : Env) (H : List HRec) (w : World) (a : Act), i < ops.size → S i = false → Inv P N ops.toList ord e0 ds H rest rs e w (add S i) a →
        drawA P N ops.toList (ancsGo [] ops.toList) ds K rest rs e w → wpAnyIn (FW rd) n P .any ops Q m (listed.setIfInBounds i true) a w := by
      intro i rest rs e H w a hi hs hI h
      refine ih _ (add S i) H rest rs e w a (by simpa using hsz) ?_ ?_ ?_ hI h
      · intro j hj
        by_cases hji : i = j
        · subst hji; simp [add_self]
        · rw [Array.getElem_setIfInBounds_ne (by simpa using hj) hji, add_other (fun e => hji e.symm)]
          exact hls j _
      · intro j hj
        by_cases hji : j = i
        · omega
        · rw [add_other hji] at hj; exact hS j hj
      · have := cnt_add ops.size hi hs
        omega
    refine ⟨?_, ?_⟩
    · intro hnil
      obtain ⟨i, hi, h1, h2⟩ := cnt_least ops.size (by omega : 0 < cnt S ops.size)
      exfalso
      have ho : ops.toList[i]? = some ops[i] := by simp [hi]
      have hm : i ∈ Region.ready .any ops listed := by
        simp only [Region.ready, List.mem_filter, List.mem_range]
        refine ⟨hi, ?_⟩
        have : listed.getD i true = false := by rw [getD_listed (by omega), hls i (by omega)]; exact h1
        rw [this, Array.getElem?_eq_getElem hi]
        simp only [Option.map_some, Option.getD_some, Bool.not_false, Bool.true_and, Array.all_eq_true]
        intro k hk
        cases hb : bindsAny ops[i].after[k] with
        | false => rw [binds_any, hb]; rfl
        | true =>
          have hlt := hedge i _ ho ops[i].after[k] (by simp) hb
          rw [getD_listed (by omega), hls _ (by omega), h2 _ hlt]
          simp
      rw [hnil] at hm; cases hm
    · intro i hi
      simp only [Region.ready, List.mem_filter, List.mem_range] at hi
      obtain ⟨hi, hr⟩ := hi
      rw [Array.getElem?_eq_getElem hi] at hr
      simp only [Option.map_some, Option.getD_some, Bool.and_eq_true, Bool.not_eq_true', Array.all_eq_true] at hr
      obtain ⟨hr1, hr2⟩ := hr
      rw [getD_listed (by omega), hls i (by omega)] at hr1
      have hready : ∀ ed ∈ ops[i].after.toList, bindsAny ed = true → S ed.on = true := by
        intro ed he hb
        obtain ⟨k, hk, rfl⟩ := List.getElem_of_mem he
        have h3 := hr2 k (by simpa using hk)
        have hlt := hedge i ops[i] (by simp [hi]) _ he hb
        simp only [Array.getElem_toList] at hlt hb ⊢
        rw [binds_any, hb] at h3
        rw [getD_listed (by omega), hls _ (by omega)] at h3
        simpa using h3
      have ho : ops.toList[i]? = some ops[i] := by simp [hi]
      simp only [wpOpIn, Array.getElem?_eq_getElem hi]
      rw [want_eq hI'.act]
      have hio := hcov i hi
      rw [hI'.ord, List.mem_append] at hio
      rcases hio with hio | hio
      · obtain ⟨x, hx, hxi⟩ := List.mem_map.1 hio
        obtain ⟨H1, H2, hH⟩ := List.append_of_mem hx
        subst hxi
        have hxo : x.o = ops[x.i] := by have := hI'.ops x hx; rw [ho] at this; simpa using this.symm
        rw [← hxo] at hready ⊢
        have hslots := slots_ready hI' hp hL hH hr1 hready
        rw [want_of_slots hslots]
        have up := next x.i rest' rs' e' H' w _ hi hr1 (hI'.up hp hL hH hr1 hready) hd
        rcases (hI'.pend H1 x H2 hH hr1).1 with ⟨q1, q2, q3, q4, q5⟩ | ⟨q1, q2⟩
        · rw [if_pos q1]
          obtain ⟨ns, nd⟩ := noSel_of_light q2
          unfold Oper.wpIn
          refine ⟨fun _ _ => trivial, ?_⟩
          rw [Oper.semAt_eq _ _ _ nd, eval_eq hI'.act, execOp_congr x.o ns (fun y hy => rdv_of_slot fun t ht => hslots t (look_operand hy ht)), q4]
          exact up
        · rw [if_neg (by rw [q1]; decide)]
          refine ⟨fun _ _ => trivial, ?_⟩
          rw [q2] at up
          exact up
      · rcases hor with ⟨h1, _⟩ | ⟨i0, o0, tl, h1, h2, h3, h4, h5⟩
        · rw [h1] at hio; cases hio
        · subst h1
          rcases List.mem_cons.1 hio with rfl | hm
          · rw [ho] at h2
            simp only [Option.some.injEq] at h2
            subst h2
            have hslots := slots_head hI' hp hL ho hready
            rw [want_of_slots hslots, if_pos h3]
            rw [← opA_congr (e := foldE S e0 H') fun y hy => rdv_of_slot fun t ht => hslots t (look_operand hy ht)] at h5
            refine Oper.wpIn_mono ?_ (opA_sound (rd := rd) (n := n) (Q := Q) (K := fun E ds' w' => ∃ v, ds' = ds ∧ E = put (foldE S e0 H') ops[i].dst v ∧ oblsA P N ds ((ancsGo [] ops.toList).getD i 0) w' (drawA P N ops.toList (ancsGo [] ops.toList) ds K tl rs' (put e' ops[i].dst v) w') rs') hI'.act (opA_mono (fun v w' hv => ⟨v, rfl, rfl, hv⟩) h5))
            rintro a' w' ⟨E, ds', hr', v, rfl, rfl, hv⟩
            obtain ⟨g1, g2⟩ := obls_split rs' hv
            exact next i tl rs' _ _ w' a' hi hr1 (Inv.heavy hr' hI' hp hL ho hready g2) g1
          · exfalso
            have hp' := hp
            rw [hI'.ord] at hp'
            obtain ⟨hne, htb, hor⟩ := (List.pairwise_cons.1 (List.pairwise_append.1 hp').2.1).1 i hm
            have hs0 := (hI'.fresh hp (i := i0) (by simp)).1
            rcases hor with g | ⟨x', y', hx', _, hl, _⟩
            · have := anc_closed hI'.closed hL i _ i0 ho hready g
              rw [hs0] at this; cases this
            · rw [h2] at hx'
              simp only [Option.some.injEq] at hx'
              subst hx'
              rw [h4] at hl; cases hl

theorem pairs_pw {f : Nat → Nat → Bool} : ∀ l : List Nat, pairsB f l = true → l.Pairwise (fun i j => f i j = true)
  | [], _ => .nil
  | x :: xs, h => by
    simp only [pairsB, Bool.and_eq_true, List.all_eq_true] at h
    exact .cons h.1 (pairs_pw xs h.2)
theorem edges_of {ops : List Oper} : ∀ m, edgesB ops m = true → ∀ i, i < m → ∀ o, ops[i]? = some o → ∀ ed ∈ o.after.toList, bindsAny ed = true → ed.on < i
  | 0, _, i, hi => by omega
  | m + 1, h, i, hi => by
    intro o ho ed he hb
    simp only [edgesB, Bool.and_eq_true] at h
    by_cases him : i = m
    · subst him
      have h1 := h.1
      simp only [ho, List.all_eq_true] at h1
      have := h1 ed he
      simp only [hb, Bool.not_true, Bool.false_or, Nat.ble_eq] at this
      omega
    · exact edges_of m h.2 i (by omega) o ho ed he hb
theorem natsTo_mem : ∀ (k s i : Nat), s ≤ i → i < s + k → i ∈ natsTo k s
  | 0, s, i, h1, h2 => by omega
  | k + 1, s, i, h1, h2 => by
    simp only [natsTo, List.mem_cons]
    by_cases h : i = s
    · exact .inl h
    · exact .inr (natsTo_mem k (s + 1) i (by omega) (by omega))
theorem chk_of {ops : Array Oper} (h : chkB P ops.toList ord = true) : ord.Pairwise (Rr P ops.toList) ∧ (∀ i, i < ops.size → i ∈ ord) ∧ (∀ i o, ops.toList[i]? = some o → ∀ ed ∈ o.after.toList, bindsAny ed = true → ed.on < i) := by
  unfold chkB at h
  simp only [Bool.and_eq_true] at h
  obtain ⟨⟨⟨⟨h1, h2⟩, h3⟩, h4⟩, h5⟩ := h
  refine ⟨?_, ?_, ?_⟩
  · refine (pairs_pw _ h5).imp fun {i j} hh => ?_
    simp only [Bool.and_eq_true, Bool.not_eq_true', Bool.or_eq_true] at hh
    obtain ⟨⟨a1, a2⟩, a3⟩ := hh
    refine ⟨fun e => ?_, a2, ?_⟩
    · rw [e, Nat.beq_refl] at a1; cases a1
    · rcases a3 with a3 | a3
      · exact .inl a3
      · split at a3
        · rename_i x y hx hy
          simp only [Bool.and_eq_true] at a3
          exact .inr ⟨x, y, hx, hy, a3.1, a3.2⟩
        · cases a3
  · intro i hi
    rw [List.all_eq_true] at h4
    exact List.mem_of_elem_eq_true (h4 i (natsTo_mem _ 0 i (by omega) (by simpa using hi)))
  · intro i o ho
    exact edges_of _ h1 i (List.getElem?_eq_some_iff.1 ho).1 o ho

theorem draw_sound {ops : Array Oper} {K : Env → World → Prop} (hc : chkB P ops.toList ord = true) (hQ : ∀ e a w, Rel N e ds a → K e w → Q .normal a w) (hr : Rel N e ds a)
    (h : drawA P N ops.toList (ancsGo [] ops.toList) ds K ord [] e w) : wpAnyIn (FW rd) n P .any ops Q ops.size (Array.replicate ops.size false) a w := by
  obtain ⟨h1, h2, h3⟩ := chk_of hc
  refine draw_any (e0 := e) h1 h2 h3 hQ ops.size _ (fun _ => false) [] ord [] e w a (by simp) (fun j h => by simp) (fun j h => nomatch h) ?_ ⟨rfl, (fun x hx => nomatch hx), rfl, hr, (fun i h => nomatch h), (fun i o h => nomatch h), (fun H1 x H2 hh => by simp at hh)⟩ h
  have : ∀ m, cnt (fun _ => false) m = m := by
    intro m
    induction m with
    | zero => rfl
    | succ m ih => simp [cnt, ih]
  exact this _
end
end Go.Proofs.Ytalhnoelkglgiaa.Sh
