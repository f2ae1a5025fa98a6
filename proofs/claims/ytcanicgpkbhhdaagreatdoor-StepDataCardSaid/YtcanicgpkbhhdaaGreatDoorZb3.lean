/- Joined out of own texts. No condition: it holds of every program, or of this one by what is shown here. -/
import Derived.Test.YtcanicgpkbhhdaaGreatDoorZb2
import Derived.Test.YtcanicgpkbhhdaaGreatDoorZb0
import Derived.Test.YtcanicgpkbhhdaaGreatDoorProg
import Derived.Laws.Externs
import Derived.Test.YtcanicgpkbhhdaaGreatDoorZb1
set_option linter.unusedSectionVars false
set_option linter.constructorNameAsVariable false
set_option linter.unusedVariables false
set_option linter.unusedSimpArgs false
namespace Go.Proofs.YtcanicgpkbhhdaaGreatDoor.Rn
open Go Go.RowKit Go.Proofs.YtcanicgpkbhhdaaGreatDoor.Sh
set_option linter.unusedVariables false
set_option linter.unusedSimpArgs false
/-- Where a step may lead. -/
def After (c : Cx) (w0 : Bs) (H H' : Hs) (v : V) (F : Value → World → Prop) : Prop := ∀ c' w', Agr H.next c c' → H.next ≤ H'.next → Rep c' w0 w' H' → v.lt H'.next → F (v.den c') w'
/-- A function value called. -/
structure CallOK (P : Program) (call : CallF) : Prop where
  ok : ∀ (c : Cx) (w0 : Bs) (w : World) (H : Hs) (g : V) (args : List V), Rep c w0 w H → g.lt H.next → V.ltL H.next args → ∀ v H', call g args H = .ok v H' → ∀ (K : Value → World → Prop) (X : List PanicEntry → World → Prop), After c w0 H H' v K → callX P (g.den c) (V.denL c args).toArray w K X
  pan : ∀ (c : Cx) (w0 : Bs) (w : World) (H : Hs) (g : V) (args : List V), Rep c w0 w H → g.lt H.next → V.ltL H.next args → ∀ v H', call g args H = .pan v H' → ∀ (K : Value → World → Prop) (X : List PanicEntry → World → Prop), After c w0 H H' v (fun u w' => X [{ v := u, recovered := false }] w') → callX P (g.den c) (V.denL c args).toArray w K X
  fn : ∀ (c : Cx) (w0 : Bs) (w : World) (H : Hs) (f : FuncId) (first cap : List V) (b : Nat), Rep c w0 w H → (V.fn f first cap).lt H.next → b < H.next → ∀ v H', call (.fn f first cap) [.yld b] H = .ok v H' → ∀ (K : Value → World → Prop), After c w0 H H' v K → enterV P ((V.fn f first cap).den c) (V.denL c [.yld b]).toArray w K
/-- Any operation but a call put off. -/
structure OpR (P : Program) (N : Nat) (o : Oper) (f : CallF → Tr V → Hs → Rs) : Prop where
  ok : ∀ (call : CallF), CallOK P call → ∀ (c : Cx) (w0 : Bs) (w : World) (H : Hs) (E : Tr V) (e : Env), Rep c w0 w H → EnvOK c H.next E e → ∀ v H', f call E H = .ok v H' → ∀ (ds : List Deferred) (K : Value → List Deferred → World → Prop) (X : List PanicEntry → World → Prop), After c w0 H H' v (fun u w' => K u ds w') → opX P N o e ds w K X
  pan : ∀ (call : CallF), CallOK P call → ∀ (c : Cx) (w0 : Bs) (w : World) (H : Hs) (E : Tr V) (e : Env), Rep c w0 w H → EnvOK c H.next E e → ∀ v H', f call E H = .pan v H' → ∀ (ds : List Deferred) (K : Value → List Deferred → World → Prop) (X : List PanicEntry → World → Prop), After c w0 H H' v (fun u w' => X [{ v := u, recovered := false }] w') → opX P N o e ds w K X
section
variable {P : Program} {N : Nat} (hP : PV P) (hN : N ≤ 1000000000) {t : TypeId}
/-- Not a call of a value, not a panic, nothing put off. -/
def tameB (o : Oper) : Bool := match o.op with
  | .call c => (match c.callee with | .value _ => false | _ => true)
  | .panic _ => false
  | .defer _ => false
  | _ => true
theorem opX_tame {o : Oper} (h : tameB o = true) {e : Env} {ds : List Deferred} {w : World} {K : Value → List Deferred → World → Prop} {X : List PanicEntry → World → Prop} (ha : opA P N o e ds w K) : opX P N o e ds w K X := by
  unfold opX
  unfold tameB at h
  split at h
  · rename_i c hc
    rw [hc]
    simp only
    split at h
    · cases h
    · rename_i hn
      split
      · rename_i f hf; exact absurd hf (hn f)
      · exact ha
  · cases h
  · cases h
  · rename_i h1 h2 h3
    split
    · rename_i c hc; exact absurd hc (h1 c)
    · rename_i x hx; exact absurd hx (h2 x)
    · rename_i c hc; exact absurd hc (h3 c)
    · exact ha
theorem OpM.toR {o : Oper} {f : CallF → Tr V → Hs → Rs} (h : OpM P N o f) (ht : tameB o = true) (hp : ∀ call E H v H', f call E H ≠ .pan v H') : OpR P N o f where
  ok := fun call _ c w0 w H E e hr he v H' hf ds K X hK => opX_tame ht (h call c w0 w H E e hr he v H' hf ds K hK)
  pan := fun call _ c w0 w H E e hr he v H' hf => absurd hf (hp _ _ _ _ _)
theorem OpL.toR {o : Oper} {f : CallF → Tr V → Hs → Rs} (h : OpL P N o f) (ht : tameB o = true) : OpR P N o f where
  ok := fun call _ c w0 w H E e hr he v H' hf ds K X hK => opX_tame ht (h.toM call c w0 w H E e hr he v H' hf ds K hK)
  pan := fun call _ c w0 w H E e hr he v H' hf => by
    have := h call c w0 w H E e hr he
    rw [hf] at this
    exact this.elim
theorem opNo_ok (o : Oper) : OpR P N o opNo where
  ok := fun call _ c w0 w H E e hr he v H' hf => by cases hf
  pan := fun call _ c w0 w H E e hr he v H' hf => by cases hf
include hN in
theorem opPanic_ok {x : Operand} (o : Oper) (ho : o.op = .panic x) : OpR P N o (opPanic P N x) where
  ok := fun call _ c w0 w H E e hr he v H' hf => by
    unfold opPanic at hf
    split at hf <;> cases hf
  pan := fun call _ c w0 w H E e hr he v H' hf ds K X hX => by
    unfold opPanic at hf
    split at hf <;> first | (cases hf; done) | skip
    rename_i d u hx
    cases hf
    obtain ⟨g1, g2⟩ := rdV_ok hN he hx
    unfold opX
    rw [ho]
    simp only
    rw [g1]
    exact hX c w (Agr.refl _ _) (Nat.le_refl _) hr g2
theorem blt_no_pan {b : Builtin} {ts : List TypeId} {args : List V} {H H' : Hs} {v : V} : bltV P b ts args H ≠ .pan v H' := by
  intro h
  have hm : ∀ {mn : Bool} {x y : V}, minV mn x y H ≠ .pan v H' := fun {mn x y} h => by
    unfold minV at h
    repeat' (first | (cases h; done) | split at h)
  unfold bltV at h
  repeat' (first | (cases h; done) | exact hm h | split at h)
  · unfold okP at h
    split at h <;> cases h
  · unfold copyO at h
    repeat' (first | (cases h; done) | split at h)
include hP hN in
theorem opCall_ok {k : Call} (o : Oper) (ho : o.op = .call k) : OpR P N o (opCall P N k o.type) := by
  have hopX : ∀ {f : Operand}, k.callee = .value f → ∀ (e : Env) (ds : List Deferred) (w : World) (K : Value → List Deferred → World → Prop) (X : List PanicEntry → World → Prop), opX P N o e ds w K X = callX P (rdv N e f) (k.args.toList.map (rdv N e)).toArray w (fun v w' => asVS (vsOf P o.type) v fun v => K v ds w') X := fun {f} hf e ds w K X => by
    unfold opX
    rw [ho]
    simp only
    rw [hf]
  refine ⟨fun call hc c w0 w H E e hr he v H' hf ds K X hK => ?_, fun call hc c w0 w H E e hr he v H' hf ds K X hX => ?_⟩
  · unfold opCall at hf
    split at hf
    · rename_i f hcal
      split at hf <;> first | (cases hf; done) | skip
      rename_i g args hg hargs
      obtain ⟨h1, ks, hks, hck⟩ := ckR_ok hf
      obtain ⟨g1, g2⟩ := rdV_ok hN he hg
      obtain ⟨g3, g4⟩ := rdVs_ok hN he hargs
      rw [hopX hcal, g1, g3]
      refine hc.ok c w0 w H g args hr g2 g4 v H' h1 _ X fun c' w' a1 a2 a3 a4 => ?_
      rw [vsOfV_ok hP hks]
      exact ckS_ok hck (hK c' w' a1 a2 a3 a4)
    · rename_i b hcal
      split at hf <;> first | (cases hf; done) | skip
      rename_i args hargs
      obtain ⟨h1, ks, hks, hck⟩ := ckR_ok hf
      obtain ⟨g3, g4⟩ := rdVs_ok hN he hargs
      have fin : ∀ {s : Sem Value}, bltS b k.argTypes o.type (V.denL c args).toArray = some s → semK P s w (fun v w' => asVS (vsOf P o.type) v fun v => K v ds w') → opX P N o e ds w K X := fun {s} hs hk => by
        refine opX_tame (by unfold tameB; rw [ho]; simp only; rw [hcal]) ?_
        unfold opA
        rw [ho]
        simp only
        rw [hcal]
        simp only
        rw [g3, hs]
        exact hk
      have hK2 : After c w0 H H' v (fun v w' => asVS (vsOf P o.type) v fun v => K v ds w') := fun c' w' a1 a2 a3 a4 => by
        rw [vsOfV_ok hP hks]
        exact ckS_ok hck (hK c' w' a1 a2 a3 a4)
      have keep : ∀ {s : Sem Value}, bltS b k.argTypes o.type (V.denL c args).toArray = some s → Rep c w0 w H' → H'.next = H.next → v.lt H.next → s.run P w = .ok (v.den c) w → opX P N o e ds w K X := fun {s} hs hr' hn hl hrun =>
        fin hs (semK_run hrun (hK2 c w (Agr.refl _ _) (Nat.le_of_eq hn.symm) hr' (by rw [hn]; exact hl)))
      have hts : k.argTypes.toList.toArray = k.argTypes := by simp
      cases b with
      | len =>
        obtain ⟨q1, q2, q3⟩ := len_ok (ot := o.type) hP hr g4 h1
        rw [hts] at q3
        exact keep rfl (by rw [q1]; exact hr) (by rw [q1]) q2 q3
      | cap =>
        obtain ⟨q1, q2, q3⟩ := cap_ok (c := c) (w := w) (ot := o.type) hP h1
        rw [hts] at q3
        exact keep rfl (by rw [q1]; exact hr) (by rw [q1]) q2 q3
      | min =>
        obtain ⟨q1, q2, q3, q4⟩ := min_ok (ot := o.type) hr h1
        rw [hts] at q4
        exact keep rfl q1 q2 q3 q4
      | max =>
        obtain ⟨q1, q2, q3, q4⟩ := max_ok (ot := o.type) hr h1
        rw [hts] at q4
        exact keep rfl q1 q2 q3 q4
      | append =>
        have := blt_append (ot := o.type) (F := fun v w' => asVS (vsOf P o.type) v fun v => K v ds w') hP hr g4 h1 hK2
        rw [hts] at this
        exact fin rfl this
      | copy =>
        have := blt_copy (ot := o.type) (F := fun v w' => asVS (vsOf P o.type) v fun v => K v ds w') hP hr g4 h1 hK2
        rw [hts] at this
        exact fin rfl this
      | _ => unfold bltV at h1; split at h1 <;> first | (cases h1; done) | (rename_i hb; cases hb)
    · cases hf
  · unfold opCall at hf
    split at hf
    · rename_i f hcal
      split at hf <;> first | (cases hf; done) | skip
      rename_i g args hg hargs
      have h1 := ckR_pan hf
      obtain ⟨g1, g2⟩ := rdV_ok hN he hg
      obtain ⟨g3, g4⟩ := rdVs_ok hN he hargs
      rw [hopX hcal, g1, g3]
      exact hc.pan c w0 w H g args hr g2 g4 v H' h1 _ X hX
    · split at hf <;> first | (cases hf; done) | skip
      exact absurd (ckR_pan hf) blt_no_pan
    · cases hf
include hP hN in
/-- The builtins that leave the memory alone. -/
theorem opCall_light {k : Call} {b : Builtin} (o : Oper) (ho : o.op = .call k) (hcal : k.callee = .builtin b) (hb : b = .len ∨ b = .cap ∨ b = .min ∨ b = .max) : OpL P N o (opCall P N k o.type) := by
  refine OpL.run (fun call c w0 w H E e hr he v H' hf => ?_) fun call E H v H' hf => ?_
  · unfold opCall at hf
    rw [hcal] at hf
    simp only at hf
    split at hf <;> first | (cases hf; done) | skip
    rename_i args hargs
    obtain ⟨h1, ks, hks, hck⟩ := ckR_ok hf
    obtain ⟨g3, g4⟩ := rdVs_ok hN he hargs
    have hts : k.argTypes.toList.toArray = k.argTypes := by simp
    have keep : ∀ {s : Sem Value}, bltS b k.argTypes o.type (V.denL c args).toArray = some s → Rep c w0 w H' → H'.next = H.next → v.lt H.next → s.run P w = .ok (v.den c) w →
        Rep c w0 w H' ∧ H'.next = H.next ∧ v.lt H.next ∧ ∀ (ds : List Deferred) (K : Value → List Deferred → World → Prop), K (v.den c) ds w → opA P N o e ds w K := fun {s} hs hr' hn hl hrun => by
      refine ⟨hr', hn, hl, fun ds K hK => ?_⟩
      unfold opA
      rw [ho]
      simp only
      rw [hcal]
      simp only
      rw [g3, hs]
      refine semK_run hrun ?_
      rw [vsOfV_ok hP hks]
      exact ckS_ok hck hK
    rcases hb with rfl | rfl | rfl | rfl
    · obtain ⟨q1, q2, q3⟩ := len_ok (ot := o.type) hP hr g4 h1
      rw [hts] at q3
      exact keep rfl (by rw [q1]; exact hr) (by rw [q1]) q2 q3
    · obtain ⟨q1, q2, q3⟩ := cap_ok (c := c) (w := w) (ot := o.type) hP h1
      rw [hts] at q3
      exact keep rfl (by rw [q1]; exact hr) (by rw [q1]) q2 q3
    · obtain ⟨q1, q2, q3, q4⟩ := min_ok (ot := o.type) hr h1
      rw [hts] at q4
      exact keep rfl q1 q2 q3 q4
    · obtain ⟨q1, q2, q3, q4⟩ := max_ok (ot := o.type) hr h1
      rw [hts] at q4
      exact keep rfl q1 q2 q3 q4
  · unfold opCall at hf
    rw [hcal] at hf
    simp only at hf
    split at hf <;> first | (cases hf; done) | skip
    exact absurd (ckR_pan hf) blt_no_pan
noncomputable def OpW.f : OpW → CallF → Tr V → Hs → Rs
  | .mk f => f
include hP hN in
theorem decO_ok (o : Oper) : OpR P N o (decO P N o).f := by
  have tame : (∀ c, o.op ≠ .call c) → (∀ x, o.op ≠ .panic x) → (∀ c, o.op ≠ .defer c) → tameB o = true := fun h1 h2 h3 => by
    unfold tameB
    split
    · rename_i c hc; exact absurd hc (h1 c)
    · rename_i x hx; exact absurd hx (h2 x)
    · rename_i c hc; exact absurd hc (h3 c)
    · rfl
  have np : ∀ {f : CallF → Tr V → Hs → Rs}, (∀ call E H, (∃ H' v, f call E H = .ok v H') ∨ f call E H = .no) → ∀ call E H v H', f call E H ≠ .pan v H' := fun {f} h call E H v H' e => by
    rcases h call E H with ⟨H2, v2, h⟩ | h <;> rw [h] at e <;> cases e
  unfold decO
  split
  · rename_i x h; exact (opMove_ok hN o (.inl h)).toR (tame (by simp [h]) (by simp [h]) (by simp [h]))
  · rename_i x h; exact (opMove_ok hN o (.inr h)).toR (tame (by simp [h]) (by simp [h]) (by simp [h]))
  · rename_i a b c h; exact (opPick_ok hN o h).toR (tame (by simp [h]) (by simp [h]) (by simp [h]))
  · rename_i x h; exact (opNilCheck_ok hN o h).toR (tame (by simp [h]) (by simp [h]) (by simp [h]))
  · rename_i t x h; exact (opLoad_ok hP hN o h).toR (tame (by simp [h]) (by simp [h]) (by simp [h]))
  · rename_i t x v h
    refine (opStore_ok hP hN o h).toR (tame (by simp [h]) (by simp [h]) (by simp [h])) fun call E H v H' e => ?_
    simp only [OpW.f, opStore] at e
    split at e <;> first | (cases e; done) | (unfold okH at e; split at e <;> cases e)
  · rename_i t m k v h
    refine (opMapUpdate_ok hP hN o h).toR (tame (by simp [h]) (by simp [h]) (by simp [h])) fun call E H v H' e => ?_
    simp only [OpW.f, opMapUpdate] at e
    repeat' (first | (cases e; done) | split at e)
  · rename_i t m k ok h; exact (opLookup_ok hP hN o h).toR (tame (by simp [h]) (by simp [h]) (by simp [h]))
  · rename_i c h; exact opCall_ok hP hN o h
  · rename_i fn first captured h; exact (opMakeFunc_ok hN o h).toR (tame (by simp [h]) (by simp [h]) (by simp [h]))
  · rename_i t parts h; exact (opBuild_ok hP hN o h).toR (tame (by simp [h]) (by simp [h]) (by simp [h]))
  · rename_i t len parts h
    refine (opBuildSlice_ok hP hN o h).toR (tame (by simp [h]) (by simp [h]) (by simp [h])) fun call E H v H' e => ?_
    simp only [OpW.f, opBuildSlice] at e
    repeat' (first | (cases e; done) | split at e)
  · rename_i op t x y pz h; exact (opBinOp_ok hP hN o h).toR (tame (by simp [h]) (by simp [h]) (by simp [h]))
  · rename_i op t x h; exact (opUnOp_ok hN o h).toR (tame (by simp [h]) (by simp [h]) (by simp [h]))
  · rename_i t h
    refine (opAlloc_ok hP o h).toR (tame (by simp [h]) (by simp [h]) (by simp [h])) fun call E H v H' e => ?_
    simp only [OpW.f, opAlloc] at e
    repeat' (first | (cases e; done) | split at e)
  · rename_i t x h
    refine (opBox_ok hP hN o h).toR (tame (by simp [h]) (by simp [h]) (by simp [h])) fun call E H v H' e => ?_
    simp only [OpW.f, opBox] at e
    repeat' (first | (cases e; done) | split at e)
  · rename_i s d x h; exact (opConvert_ok hP hN o h).toR (tame (by simp [h]) (by simp [h]) (by simp [h]))
  · rename_i t x h; exact (opMakeInterface_ok hN hP o h).toR (tame (by simp [h]) (by simp [h]) (by simp [h]))
  · rename_i t r h
    cases r with
    | none =>
      refine (opMakeMap_ok o h).toR (tame (by simp [h]) (by simp [h]) (by simp [h])) fun call E H v H' e => ?_
      simp only [OpW.f, opMakeMap] at e
      repeat' (first | (cases e; done) | split at e)
    | some r => exact opNo_ok o
  · rename_i t l c h
    refine (opMakeSlice_ok hP hN o h).toR (tame (by simp [h]) (by simp [h]) (by simp [h])) fun call E H v H' e => ?_
    simp only [OpW.f, opMakeSlice] at e
    repeat' (first | (cases e; done) | split at e)
  · rename_i t x l hh m h; exact (opSlice_ok hP hN o h).toR (tame (by simp [h]) (by simp [h]) (by simp [h]))
  · rename_i t x f h; exact (opFieldAddr_ok hN hP o h).toR (tame (by simp [h]) (by simp [h]) (by simp [h]))
  · rename_i t x i h; exact (opIndexAddr_ok hP hN o h).toR (tame (by simp [h]) (by simp [h]) (by simp [h]))
  · rename_i t x h; exact (opToArr_ok hP hN o h).toR (tame (by simp [h]) (by simp [h]) (by simp [h]))
  · rename_i t x f h; exact (opField_ok hP hN o h).toR (tame (by simp [h]) (by simp [h]) (by simp [h]))
  · rename_i t x i h; exact (opIndex_ok hP hN o h).toR (tame (by simp [h]) (by simp [h]) (by simp [h]))
  · rename_i t i h; exact (opExtract_ok hN hP o h).toR (tame (by simp [h]) (by simp [h]) (by simp [h]))
  · rename_i x t u ok h; exact (opTypeAssert_ok hP hN o h).toR (tame (by simp [h]) (by simp [h]) (by simp [h]))
  · rename_i x h; exact opPanic_ok hN o h
  · exact opNo_ok o
theorem light_call {k : Call} {o : Oper} (h : o.op = .call k) (hl : lightB P o = true) : ∃ b, k.callee = .builtin b ∧ (b = .len ∨ b = .cap ∨ b = .min ∨ b = .max) := by
  unfold lightB at hl
  rw [h] at hl
  obtain ⟨callee, args, ats⟩ := k
  cases callee with
  | builtin b => cases b <;> first | (cases hl; done) | exact ⟨_, rfl, by simp⟩
  | value f => cases hl
  | invoke r m => cases hl
include hP hN in
theorem decO_light (o : Oper) (hl : lightB P o = true) : OpL P N o (decO P N o).f := by
  have no : ∀ {op : Op}, o.op = op → (∀ o' : Oper, o'.op = op → lightB P o' = false) → False := fun {op} h hn => by rw [hn o h] at hl; cases hl
  unfold decO
  split
  · rename_i x h; exact opMove_ok hN o (.inl h)
  · rename_i x h; exact opMove_ok hN o (.inr h)
  · rename_i a b c h; exact opPick_ok hN o h
  · rename_i x h; exact opNilCheck_ok hN o h
  · rename_i t x h; exact opLoad_ok hP hN o h
  · rename_i t x v h; exact (no h fun o' h' => by simp [lightB, h']).elim
  · rename_i t m k v h; exact (no h fun o' h' => by simp [lightB, h']).elim
  · rename_i t m k ok h; exact opLookup_ok hP hN o h
  · rename_i c h
    obtain ⟨b, h1, h2⟩ := light_call h hl
    exact opCall_light hP hN o h h1 h2
  · rename_i fn first captured h; exact opMakeFunc_ok hN o h
  · rename_i t parts h; exact opBuild_ok hP hN o h
  · rename_i t len parts h; exact (no h fun o' h' => by simp [lightB, h']).elim
  · rename_i op t x y pz h; exact opBinOp_ok hP hN o h
  · rename_i op t x h; exact opUnOp_ok hN o h
  · rename_i t h; exact (no h fun o' h' => by simp [lightB, h']).elim
  · rename_i t x h; exact (no h fun o' h' => by simp [lightB, h']).elim
  · rename_i s d x h; exact opConvert_ok hP hN o h
  · rename_i t x h; exact opMakeInterface_ok hN hP o h
  · rename_i t r h; exact (no h fun o' h' => by simp [lightB, h']).elim
  · rename_i t l c h; exact (no h fun o' h' => by simp [lightB, h']).elim
  · rename_i t x l hh m h; exact opSlice_ok hP hN o h
  · rename_i t x f h; exact opFieldAddr_ok hN hP o h
  · rename_i t x i h; exact opIndexAddr_ok hP hN o h
  · rename_i t x h; exact opToArr_ok hP hN o h
  · rename_i t x f h; exact opField_ok hP hN o h
  · rename_i t x i h; exact opIndex_ok hP hN o h
  · rename_i t i h; exact opExtract_ok hN hP o h
  · rename_i x t u ok h; exact opTypeAssert_ok hP hN o h
  · rename_i x h; exact (no h fun o' h' => by simp [lightB, h']).elim
  · intro call c w0 w H E e hr he
    trivial
end
end Go.Proofs.YtcanicgpkbhhdaaGreatDoor.Rn

namespace Go.Proofs.YtcanicgpkbhhdaaGreatDoor.Rn
open Go Go.RowKit Go.Proofs.YtcanicgpkbhhdaaGreatDoor.Sh
set_option linter.unusedVariables false
set_option linter.unusedSimpArgs false
/-- What was put off. -/
def DOK (c : Cx) (n : Nat) : Df → Deferred → Prop
  | .call f args, d => V.ltL n args ∧ ∃ cap, d.target = .fn (.func f) cap ∧ d.args ++ cap = (V.denL c args).toArray
  | .mark b, d => b < n ∧ d.target = .collected (c.ρ b)
def DsOK (c : Cx) (n : Nat) : List Df → List Deferred → Prop
  | [], [] => True
  | x :: xs, d :: ds => DOK c n x d ∧ DsOK c n xs ds
  | _, _ => False
theorem DOK.agr {c c' : Cx} {n m : Nat} {x : Df} {d : Deferred} (h : DOK c n x d) (ha : Agr n c c') (hm : n ≤ m) : DOK c' m x d := by
  cases x with
  | call f args =>
    obtain ⟨h1, cap, h2, h3⟩ := h
    exact ⟨V.ltL_mono hm _ h1, cap, h2, by rw [V.agrL ha args h1]; exact h3⟩
  | mark b =>
    obtain ⟨h1, h2⟩ := h
    exact ⟨by omega, by rw [ha.ρ b h1]; exact h2⟩
theorem DsOK.agr {c c' : Cx} {n m : Nat} (ha : Agr n c c') (hm : n ≤ m) : ∀ {xs : List Df} {ds : List Deferred}, DsOK c n xs ds → DsOK c' m xs ds
  | [], [], _ => trivial
  | x :: xs, d :: ds, h => ⟨h.1.agr ha hm, DsOK.agr ha hm h.2⟩
  | [], _ :: _, h => h.elim
  | _ :: _, [], h => h.elim
/-- How a statement is left. -/
def ExOK (c : Cx) (n : Nat) : Ex → Exit → Prop
  | .normal, .normal => True
  | .ret, .ret => True
  | .exit i, .exit j => i = j
  | .goto i, .goto j => i = j
  | .pan v, .panic ch => v.lt n ∧ ch = [{ v := v.den c, recovered := false }]
  | .panu v, .panic ch => v.lt n ∧ ch = [{ v := v.den c, recovered := false }]
  | _, _ => False
def EnvD (x : Ex) (c : Cx) (n : Nat) (E : Tr V) (e : Env) : Prop := match x with
  | .panu _ => True
  | _ => EnvOK c n E e
/-- Where a statement leads: told against a context and a number of names. -/
def PostE (c : Cx) (n : Nat) (w0 : Bs) (x : Ex) (E : Tr V) (ds : List Df) (H : Hs) : Post := fun ex e ds' w =>
  ∃ c', Agr n c c' ∧ n ≤ H.next ∧ Rep c' w0 w H ∧ EnvD x c' H.next E e ∧ DsOK c' H.next ds ds' ∧ ExOK c' H.next x ex
section
variable {P : Program} {N : Nat} (hP : PV P) (hN : N ≤ 1000000000) {t : TypeId}
theorem callVal_of {f : Value} {args : Array Value} {w : World} {F : Value → World → Prop} (h : callX P f args w F fun _ _ => False) : callVal P f args w F := by
  unfold callX at h
  unfold callVal
  split at h
  · refine wp_mono' h fun nx w hnx => ?_
    cases nx <;> simp only [nxX, nxA] at hnx ⊢ <;> first | exact hnx | exact CallX.to_V hnx
  · exact h.elim
theorem opA_of {o : Oper} {e : Env} {ds : List Deferred} {w : World} {K : Value → List Deferred → World → Prop} (hd : ∀ k, o.op ≠ .defer k) (h : opX P N o e ds w K fun _ _ => False) : opA P N o e ds w K := by
  unfold opX at h
  split at h
  · rename_i k hk
    split at h
    · rename_i f hf
      unfold opA
      rw [hk]
      simp only
      rw [hf]
      exact callVal_of h
    · exact h
  · split at h <;> exact h.elim
  · rename_i k hk; exact absurd hk (hd k)
  · exact h
/-! Within a round (rd) nothing panics and nothing is put off. -/
def opsG (P : Program) (N : Nat) (rd : Bool) (all : List Oper) (Q : Post) (rest : List Oper) (e : Env) (ds : List Deferred) (w : World) : Prop :=
  match rd with
  | false => opsX P N all Q rest e ds w
  | true => opsA P N all (Q .normal) rest e ds w
def opD1 (P : Program) (N : Nat) (rd : Bool) (o : Oper) (e : Env) (ds : List Deferred) (w : World) (K : Value → List Deferred → World → Prop) (Q : Post) : Prop :=
  match rd with
  | false => opX P N o e ds w K fun ch w' => Q (.panic ch) e ds w'
  | true => opA P N o e ds w K
theorem opsG_cons {rd : Bool} {all : List Oper} {Q : Post} {o : Oper} {rest : List Oper} {e : Env} {ds : List Deferred} {w : World} (h : match o.guard with
    | none => opD1 P N rd o e ds w (fun v ds' w' => opsG P N rd all Q rest (put e o.dst v) ds' w') Q
    | some (j, want) =>
      match dstOf all j with
      | none => False
      | some d => match rdv N e (.tmp d) with
        | .bool b =>
          ifB b
            (cond want (opD1 P N rd o (put e (some d) (.bool true)) ds w (fun v ds' w' => opsG P N rd all Q rest (put (put e (some d) (.bool true)) o.dst v) ds' w') Q) (opsG P N rd all Q rest (put (put e (some d) (.bool true)) o.dst undef) ds w))
            (cond want (opsG P N rd all Q rest (put (put e (some d) (.bool false)) o.dst undef) ds w) (opD1 P N rd o (put e (some d) (.bool false)) ds w (fun v ds' w' => opsG P N rd all Q rest (put (put e (some d) (.bool false)) o.dst v) ds' w') Q))
        | _ => opsG P N rd all Q rest (put e o.dst undef) ds w) : opsG P N rd all Q (o :: rest) e ds w := by
  cases rd <;> exact h
theorem dOK_ok {d : Option Tmp} (h : dOK d = true) : ∀ t, d = some t → t < 1000000000 := fun t ht => by
  subst ht
  simp only [dOK, Nat.ble_eq] at h
  exact Nat.lt_succ_of_le h
/-- A value that is no truth value stands for none. -/
theorem not_bool {c : Cx} {v : V} (h1 : ∀ b, v ≠ .bool b) (h2 : ∀ x, v ≠ .sbool x) : ∀ b, v.den c ≠ .bool b := by
  intro b hb
  cases v <;> first | (cases hb; done) | exact absurd rfl (h1 _) | exact absurd rfl (h2 _)
/-- What a guard asks. -/
theorem askG_ok {c : Cx} {w0 : Bs} {w : World} {H : Hs} {E : Tr V} {e : Env} {ds : List Df} {all : List Oper} {o : Oper} {yes no : KV} {R : Cr} (hN : N ≤ 1000000000) (hr : Rep c w0 w H) (he : EnvOK c H.next E e) (hR : R ≠ .no) (h : askG N (gdOf all o) yes no E ds H = R) {A B : Env → Prop}
    (hyes : ∀ E' H', Rep c w0 w H' → H'.next = H.next → EnvOK c H.next E' e → yes E' ds H' = R → A e) (hno : ∀ E' H', Rep c w0 w H' → H'.next = H.next → EnvOK c H.next E' e → no E' ds H' = R → B e) :
    match o.guard with
    | none => A e
    | some (j, want) =>
      match dstOf all j with
      | none => False
      | some d => match rdv N e (.tmp d) with
        | .bool b => ifB b (cond want (A (put e (some d) (.bool true))) (B (put e (some d) (.bool true)))) (cond want (B (put e (some d) (.bool false))) (A (put e (some d) (.bool false))))
        | _ => B e := by
  unfold gdOf at h
  split
  · rename_i hg
    rw [hg] at h
    exact hyes E H hr rfl he h
  · rename_i j want hg
    rw [hg] at h
    simp only at h
    cases hd : dstOf all j with
    | none => rw [hd] at h; exact absurd h.symm hR
    | some d =>
      rw [hd] at h
      simp only at h ⊢
      split at h
      · rename_i hdle
        rw [Nat.ble_eq] at hdle
        unfold askG at h
        simp only at h
        cases hv : rdV N E (.tmp d) with
        | none => rw [hv] at h; exact absurd h.symm hR
        | some v =>
          rw [hv] at h
          obtain ⟨g1, g2⟩ := rdV_ok hN he hv
          have fin : ∀ (b : Bool) (E' : Tr V) (H' : Hs), Rep c w0 w H' → H'.next = H.next → EnvOK c H.next E' e → rdv N e (.tmp d) = .bool b → (Bool.rec (Bool.rec yes no want E' ds H') (Bool.rec no yes want E' ds H') b : Cr) = R →
              (match rdv N e (.tmp d) with
              | .bool b => ifB b (cond want (A (put e (some d) (.bool true))) (B (put e (some d) (.bool true)))) (cond want (B (put e (some d) (.bool false))) (A (put e (some d) (.bool false))))
              | _ => B e) := fun b E' H' r1 r2 r3 hb hres => by
            rw [hb]
            have hput : put e (some d) (.bool b) = e := put_same hb (by simp [undef])
            cases b <;> cases want <;> simp only [ifB, cond_true, cond_false, hput]
            · exact hyes E' H' r1 r2 r3 hres
            · exact hno E' H' r1 r2 r3 hres
            · exact hno E' H' r1 r2 r3 hres
            · exact hyes E' H' r1 r2 r3 hres
          by_cases hb1 : ∃ b, v = .bool b
          · obtain ⟨b, rfl⟩ := hb1
            exact fin b E H hr rfl he g1 h
          · by_cases hb2 : ∃ x, v = .sbool x
            · obtain ⟨x, rfl⟩ := hb2
              simp only at h
              split at h
              · rename_i b H' hq
                obtain ⟨k1, k2, k3⟩ := askB_ok hr hq
                have hval : rdv N e (.tmp d) = .bool b := by rw [g1]; simp only [V.den, k1]
                have hput : put e (some d) (.bool b) = e := put_same hval (by simp [undef])
                have hE : EnvOK c H.next (E.put d (.bool b)) e := by
                  have := he.put (d := d) (v := .bool b) (by omega) trivial
                  simp only [V.den] at this
                  rwa [hput] at this
                refine fin b (E.put d (.bool b)) H' k2 k3 hE hval ?_
                cases b <;> exact h
              · exact absurd h.symm hR
            · have hnb := not_bool (c := c) (fun b e => hb1 ⟨b, e⟩) (fun x e => hb2 ⟨x, e⟩)
              have hno' : no E ds H = R := by
                cases v <;> first | exact h | exact absurd ⟨_, rfl⟩ hb1 | exact absurd ⟨_, rfl⟩ hb2
              rw [g1]
              split
              · rename_i b hb; exact absurd hb (hnb b)
              · exact hno E H hr rfl he hno'
      · exact absurd h.symm hR
include hP hN
theorem opsV_ok {call : CallF} (hc : CallOK P call) {c0 : Cx} {n0 : Nat} {w0 : Bs} {rd : Bool} {all : List Oper} {x : Ex} {E1 : Tr V} {ds1 : List Df} {H1 : Hs} : ∀ (rest : List Oper) (c : Cx) (w : World) (H : Hs) (E : Tr V) (e : Env) (ds : List Df) (ds' : List Deferred),
    Agr n0 c0 c → n0 ≤ H.next → Rep c w0 w H → EnvOK c H.next E e → DsOK c H.next ds ds' → opsV call N rd (decL P N all rest) E ds H = .mk x E1 ds1 H1 → opsG P N rd all (PostE c0 n0 w0 x E1 ds1 H1) rest e ds' w
  | [], c, w, H, E, e, ds, ds', ha, hn, hr, he, hds, h => by
    have h : Cr.mk .normal E ds H = .mk x E1 ds1 H1 := h
    have this : PostE c0 n0 w0 .normal E ds H .normal e ds' w := ⟨c, ha, hn, hr, he, hds, trivial⟩
    simp only [Cr.mk.injEq] at h
    obtain ⟨rfl, rfl, rfl, rfl⟩ := h
    cases rd <;> exact this
  | o :: rest, c, w, H, E, e, ds, ds', ha, hn, hr, he, hds, h => by
    have ih := opsV_ok (call := call) hc (c0 := c0) (n0 := n0) (w0 := w0) (rd := rd) (all := all) (x := x) (E1 := E1) (ds1 := ds1) (H1 := H1) rest
    have h : stepV call N rd (decD P N all o) (opsV call N rd (decL P N all rest)) E ds H = .mk x E1 ds1 H1 := h
    unfold decD at h
    split at h
    · rename_i hdst
      have hdst := dOK_ok hdst
      have hskip : ∀ E' H', Rep c w0 w H' → H'.next = H.next → EnvOK c H.next E' e → skV o.dst (opsV call N rd (decL P N all rest)) E' ds H' = .mk x E1 ds1 H1 → opsG P N rd all (PostE c0 n0 w0 x E1 ds1 H1) rest (put e o.dst undef) ds' w := fun E' H' r1 r2 r3 hs => by
        unfold skV at hs
        refine ih c w H' (setD E' o.dst V.und) _ ds ds' ha (by rw [r2]; exact hn) r1 ?_ (by rw [r2]; exact hds) hs
        rw [r2, ← und_den c]
        exact r3.setD hdst trivial
      split at h
      · -- a call put off
        rename_i k hk
        have h : askG N (gdOf all o) (dfV rd (deferV N k) o.dst (opsV call N rd (decL P N all rest))) (skV o.dst (opsV call N rd (decL P N all rest))) E ds H = .mk x E1 ds1 H1 := h
        refine opsG_cons (askG_ok hN hr he (by simp) h (A := fun e => opD1 P N rd o e ds' w (fun v ds' w' => opsG P N rd all (PostE c0 n0 w0 x E1 ds1 H1) rest (put e o.dst v) ds' w') (PostE c0 n0 w0 x E1 ds1 H1)) (B := fun e => opsG P N rd all (PostE c0 n0 w0 x E1 ds1 H1) rest (put e o.dst undef) ds' w) (fun E' H' r1 r2 r3 hd => ?_) hskip)
        unfold dfV at hd
        split at hd <;> first | (cases hd; done) | skip
        rename_i df hdf
        cases rd with
        | true => cases hd
        | false =>
          have hd : opsV call N false (decL P N all rest) (setD E' o.dst V.und) (df :: ds) H' = .mk x E1 ds1 H1 := hd
          unfold deferV at hdf
          split at hdf <;> first | (cases hdf; done) | skip
          rename_i f hcal
          split at hdf <;> first | (cases hdf; done) | skip
          rename_i g first cap args hf hargs
          simp only [Option.some.injEq] at hdf
          subst hdf
          obtain ⟨g1, g2⟩ := rdV_ok hN r3 hf
          obtain ⟨g3, g4⟩ := rdVs_ok hN r3 hargs
          show opX P N o e ds' w _ _
          unfold opX
          rw [hk]
          simp only
          rw [hcal]
          simp only
          rw [g1, g3]
          simp only [V.den]
          refine ih c w H' (setD E' o.dst V.und) _ (.call g (first ++ (args ++ cap)) :: ds) _ ha (by rw [r2]; exact hn) r1 ?_ (And.intro (And.intro ?_ ⟨(V.denL c cap).toArray, rfl, ?_⟩) (by rw [r2]; exact hds)) hd
          · rw [r2, ← und_den c]
            exact r3.setD hdst trivial
          · rw [r2]
            exact ltL_app g2.1 (ltL_app g4 g2.2)
          · rw [denL_app, denL_app]
            simp
      · -- any other
        rename_i hnd
        have hnd : ∀ k, o.op ≠ .defer k := fun k hk => hnd k hk
        have h : askG N (gdOf all o) (doV call rd (decO P N o).f o.dst (opsV call N rd (decL P N all rest))) (skV o.dst (opsV call N rd (decL P N all rest))) E ds H = .mk x E1 ds1 H1 := by
          revert h
          cases decO P N o
          exact id
        have hop := decO_ok hP hN o
        refine opsG_cons (askG_ok hN hr he (by simp) h (A := fun e => opD1 P N rd o e ds' w (fun v ds' w' => opsG P N rd all (PostE c0 n0 w0 x E1 ds1 H1) rest (put e o.dst v) ds' w') (PostE c0 n0 w0 x E1 ds1 H1)) (B := fun e => opsG P N rd all (PostE c0 n0 w0 x E1 ds1 H1) rest (put e o.dst undef) ds' w) (fun E' H' r1 r2 r3 hd => ?_) hskip)
        unfold doV at hd
        split at hd
        · rename_i v H2 hf
          have haft : After c w0 H' H2 v (fun u w' => opsG P N rd all (PostE c0 n0 w0 x E1 ds1 H1) rest (put e o.dst u) ds' w') := fun c' w' a1 a2 a3 a4 => by
            rw [r2] at a1
            refine ih c' w' H2 (setD E' o.dst v) _ ds ds' (ha.trans a1 hn) (by omega) a3 ?_ (hds.agr a1 (by omega)) hd
            exact (r3.agr a1 (by omega)).setD hdst a4
          have r3' : EnvOK c H'.next E' e := by rw [r2]; exact r3
          cases rd with
          | false => exact hop.ok call hc c w0 w H' E' e r1 r3' v H2 hf ds' _ _ haft
          | true => exact opA_of hnd (hop.ok call hc c w0 w H' E' e r1 r3' v H2 hf ds' _ _ haft)
        · rename_i v H2 hf
          have r3' : EnvOK c H'.next E' e := by rw [r2]; exact r3
          cases rd with
          | true => cases hd
          | false =>
            have hd : Cr.mk (.pan v) E' ds H2 = .mk x E1 ds1 H1 := hd
            simp only [Cr.mk.injEq] at hd
            obtain ⟨rfl, rfl, rfl, rfl⟩ := hd
            refine hop.pan call hc c w0 w H' E' e r1 r3' v H2 hf ds' _ _ fun c' w' a1 a2 a3 a4 => ?_
            rw [r2] at a1
            exact ⟨c', ha.trans a1 hn, by omega, a3, r3.agr a1 (by omega), hds.agr a1 (by omega), a4, rfl⟩
        · cases hd
    · have h : Cr.no = .mk x E1 ds1 H1 := h
      cases h
end
end Go.Proofs.YtcanicgpkbhhdaaGreatDoor.Rn

namespace Go.Proofs.YtcanicgpkbhhdaaGreatDoor.Sh
open Go
set_option linter.unusedSimpArgs false
set_option linter.unusedVariables false
section
variable {P : Program} {N : Nat} {rd : Option Nat} {n : Nat} {Q : Exit → Act → World → Prop}
variable {L : List Oper} {e0 e : Env} {ds : List Deferred} {H : List HRec} {rs : List Rec} {w : World} {S : Nat → Bool} {a : Act}
/-- What is heavy: within a round nothing panics. -/
def opR (P : Program) (N : Nat) (rd : Option Nat) (o : Oper) (e : Env) (ds : List Deferred) (w : World) (K : Value → List Deferred → World → Prop) (X : List PanicEntry → World → Prop) : Prop :=
  match rd with
  | none => opH P N o e ds w K X
  | some _ => opA P N o e ds w K
theorem opR_mono {o : Oper} {K K' : Value → List Deferred → World → Prop} {X : List PanicEntry → World → Prop} (h : ∀ v w, K v ds w → K' v ds w) (hh : opR P N rd o e ds w K X) : opR P N rd o e ds w K' X := by
  cases rd with
  | none => exact opH_mono h hh
  | some l => exact opA_mono h hh
theorem opR_congr {e e' : Env} {ds : List Deferred} {w : World} {o : Oper} {K : Value → List Deferred → World → Prop} {X : List PanicEntry → World → Prop} (h : ∀ x ∈ o.op.operands, rdv N e x = rdv N e' x) : opR P N rd o e ds w K X = opR P N rd o e' ds w K X := by
  cases rd with
  | none => exact opH_congr h
  | some l => exact opA_congr h
theorem opR_sound {o : Oper} {K : Env → List Deferred → World → Prop} {X : List PanicEntry → World → Prop} (hr : Rel N e ds a) (hX : ∀ ch w', X ch w' → Q (.panic ch) a w')
    (h : opR P N rd o e ds w (fun v ds' w' => K (put e o.dst v) ds' w') X) : o.wpIn (FW rd) n P a w (Nx N K) Q := by
  cases rd with
  | none => exact opH_sound hr hX h
  | some l => exact opA_sound hr h
def allIn (L : List Oper) (wl : List Nat) : Bool := (natsTo L.length 0).all fun i => wl.elem i
def walkD (P : Program) (N : Nat) (rd : Option Nat) (L : List Oper) (an : List Nat) (ds : List Deferred) (K : Env → World → Prop) (X : List PanicEntry → World → Prop) : Nat → List Nat → List Rec → Env → World → Prop
  | 0, wl, rs, e, w => allIn L wl = true ∧ K e w
  | n + 1, wl, rs, e, w => (allIn L wl = true ∧ K e w) ∨
    (∃ i o, L[i]? = some o ∧ readyB L wl i = true ∧ lightB P o = true ∧ (wl.all fun j => rrB P L an j i) = true ∧
      ((wantE L N o e = true ∧ lightE N o e = true ∧ opA P N o e ds w fun v _ _ => walkD P N rd L an ds K X n (wl ++ [i]) (rs ++ [⟨i, o, e, v⟩]) (put e o.dst v) w) ∨
       (wantE L N o e = false ∧ walkD P N rd L an ds K X n (wl ++ [i]) rs (put e o.dst undef) w))) ∨
    (allIn L wl = false ∧ ∀ i, readyB L wl i = true → ∃ o, L[i]? = some o ∧ (wl.all fun j => rrB P L an j i) = true ∧
      ((wantE L N o e = true ∧ opR P N rd o e ds w (fun v _ w' => oblsA P N ds (an.getD i 0) w' (walkD P N rd L an ds K X n (wl ++ [i]) rs (put e o.dst v) w') rs) X) ∨
       (wantE L N o e = false ∧ walkD P N rd L an ds K X n (wl ++ [i]) rs (put e o.dst undef) w)))
theorem readyN {wl : List Nat} {i : Nat} (h : readyB L wl i = true) : ¬ i ∈ wl := fun hm => by
  unfold readyB at h
  simp only [Bool.and_eq_true, Bool.not_eq_true'] at h
  rw [List.elem_eq_true_of_mem hm] at h
  exact absurd h.1 (by simp)
theorem allIn_mem {wl : List Nat} (h : allIn L wl = true) {i : Nat} (hi : i < L.length) : i ∈ wl := by
  unfold allIn at h
  rw [List.all_eq_true] at h
  exact List.mem_of_elem_eq_true (h i (natsTo_mem _ 0 i (by omega) (by omega)))
/-- The lights ahead are walked. -/
theorem normalizeW {K : Env → World → Prop} {X : List PanicEntry → World → Prop} : ∀ (n : Nat) (H : List HRec) (rs : List Rec) (e : Env), InvT P N L e0 ds H rs e w S a → walkD P N rd L (ancsGo [] L) ds K X n (H.map (·.i)) rs e w →
    ∃ n' H' rs' e', InvT P N L e0 ds H' rs' e' w S a ∧ walkD P N rd L (ancsGo [] L) ds K X n' (H'.map (·.i)) rs' e' w ∧ ((allIn L (H'.map (·.i)) = true ∧ K e' w) ∨
      (∃ n2, n' = n2 + 1 ∧ allIn L (H'.map (·.i)) = false ∧ ∀ i, readyB L (H'.map (·.i)) i = true → ∃ o, L[i]? = some o ∧ ((H'.map (·.i)).all fun j => rrB P L (ancsGo [] L) j i) = true ∧
      ((wantE L N o e' = true ∧ opR P N rd o e' ds w (fun v _ w' => oblsA P N ds ((ancsGo [] L).getD i 0) w' (walkD P N rd L (ancsGo [] L) ds K X n2 ((H'.map (·.i)) ++ [i]) rs' (put e' o.dst v) w') rs') X) ∨
       (wantE L N o e' = false ∧ walkD P N rd L (ancsGo [] L) ds K X n2 ((H'.map (·.i)) ++ [i]) rs' (put e' o.dst undef) w))))
  | 0, H, rs, e, hI, h => ⟨0, H, rs, e, hI, h, .inl h⟩
  | n + 1, H, rs, e, hI, h => by
    have hall := h
    rcases h with h | ⟨i, o, ho, hrdy, hlt, hrr, h⟩ | h
    · exact ⟨n + 1, H, rs, e, hI, hall, .inl h⟩
    · have hn := rr_all hrr
      rcases h with ⟨hw, he, h⟩ | ⟨hw, h⟩
      · obtain ⟨v, h1, h2, h3⟩ := light_run hlt he h
        have hI' := hI.walk hn ho (v := v) (.inl ⟨hw, hlt, he, h1, h3⟩) (rs ++ [⟨i, o, e, v⟩]) (fun r hr => by simp [hr]) (fun _ _ => ⟨⟨i, o, e, v⟩, by simp, rfl, rfl, rfl, rfl⟩)
        exact normalizeW n _ _ _ hI' (by rw [List.map_append]; exact h2)
      · exact normalizeW n _ _ _ (hI.walk hn ho (v := undef) (.inr ⟨hw, rfl⟩) rs (fun r hr => hr) (fun h1 => by rw [hw] at h1; cases h1)) (by rw [List.map_append]; exact h)
    · exact ⟨n + 1, H, rs, e, hI, hall, .inr ⟨n, rfl, h⟩⟩
/-- What is walked, every order does. -/
theorem walk_any {ops : Array Oper} {K : Env → World → Prop} {X : List PanicEntry → World → Prop}
    (hedge : ∀ i o, ops.toList[i]? = some o → ∀ ed ∈ o.after.toList, bindsAny ed = true → ed.on < i) (hQ : ∀ e a w, Rel N e ds a → K e w → Q .normal a w) (hX : ∀ ch e a w, Rel N e ds a → X ch w → Q (.panic ch) a w) :
    ∀ (m : Nat) (listed : Array Bool) (S : Nat → Bool) (H : List HRec) (nn : Nat) (rs : List Rec) (e : Env) (w : World) (a : Act), listed.size = ops.size → (∀ j (h : j < listed.size), listed[j] = S j) → (∀ j, S j = true → j < ops.size) →
      cnt S ops.size = m → InvT P N ops.toList e0 ds H rs e w S a → walkD P N rd ops.toList (ancsGo [] ops.toList) ds K X nn (H.map (·.i)) rs e w → wpAnyIn (FW rd) n P .any ops Q m listed a w := by
  intro m
  induction m with
  | zero =>
    intro listed S H nn rs e w a hsz hls hS hc hI h
    have hall := cnt_zero _ hc
    obtain ⟨n', H', rs', e', hI', hd', hor⟩ := normalizeW nn H rs e hI h
    have hinH : ∀ i, i < ops.size → i ∈ H'.map (·.i) := fun i hi => by
      obtain ⟨x, hx, hxi⟩ := hI'.inH i (hall i hi)
      exact List.mem_map.2 ⟨x, hx, hxi⟩
    have hk : K e' w := by
      rcases hor with h1 | ⟨n2, rfl, h1, h2⟩
      · exact h1.2
      · exfalso
        have : allIn ops.toList (H'.map (·.i)) = true := by
          unfold allIn
          rw [List.all_eq_true]
          intro i hi
          refine List.elem_eq_true_of_mem (hinH i ?_)
          have : ∀ (m k i : Nat), i ∈ natsTo m k → i < k + m := by
            intro m
            induction m with
            | zero => intro k i h; cases h
            | succ m ih =>
              intro k i h
              rcases List.mem_cons.1 h with rfl | h
              · omega
              · have := ih _ _ h; omega
          have := this _ _ _ hi
          simpa using this
        rw [this] at h1; cases h1
    have hE : foldE S e0 H' = e' := by
      rw [hI'.full]
      exact foldE_same H' e0 fun x hx => hall x.i (by have := (List.getElem?_eq_some_iff.1 (hI'.ops x hx)).1; simpa using this)
    refine ⟨?_, hQ e' a w (hE ▸ hI'.act) hk⟩
    simp only [Region.ready, List.filter_eq_nil_iff, List.mem_range]
    intro i hi
    have : listed.getD i true = true := by rw [getD_listed (by omega), hls i (by omega)]; exact hall i hi
    simp [this]
  | succ m ih =>
    intro listed S H nn rs e w a hsz hls hS hc hI h
    have hL : ∀ i, S i = true → i < ops.toList.length := fun i hi => by simpa using hS i hi
    obtain ⟨n', H', rs', e', hI', hd', hor⟩ := normalizeW nn H rs e hI h
    have next : ∀ (i : Nat) (nn : Nat) (rs : List Rec) (e : Env) (H : List HRec) (w : World) (a : Act), i < ops.size → S i = false → InvT P N ops.toList e0 ds H rs e w (add S i) a →
        walkD P N rd ops.toList (ancsGo [] ops.toList) ds K X nn (H.map (·.i)) rs e w → wpAnyIn (FW rd) n P .any ops Q m (listed.setIfInBounds i true) a w := by
      intro i nn rs e H w a hi hs hI h
      refine ih _ (add S i) H nn rs e w a (by simpa using hsz) ?_ ?_ ?_ hI h
      · intro j hj
        by_cases hji : i = j
        · subst hji; simp [add_self]
        · rw [Array.getElem_setIfInBounds_ne (by simpa using hj) hji, add_other (fun e => hji e.symm)]
          exact hls j _
      · intro j hj
        by_cases hji : j = i
        · omega
        · rw [add_other hji] at hj; exact hS j hj
      · have := cnt_add ops.size hi hs
        omega
    refine ⟨?_, ?_⟩
    · intro hnil
      obtain ⟨i, hi, h1, h2⟩ := cnt_least ops.size (by omega : 0 < cnt S ops.size)
      exfalso
      have ho : ops.toList[i]? = some ops[i] := by simp [hi]
      have hm : i ∈ Region.ready .any ops listed := by
        simp only [Region.ready, List.mem_filter, List.mem_range]
        refine ⟨hi, ?_⟩
        have : listed.getD i true = false := by rw [getD_listed (by omega), hls i (by omega)]; exact h1
        rw [this, Array.getElem?_eq_getElem hi]
        simp only [Option.map_some, Option.getD_some, Bool.not_false, Bool.true_and, Array.all_eq_true]
        intro k hk
        cases hb : bindsAny ops[i].after[k] with
        | false => rw [binds_any, hb]; rfl
        | true =>
          have hlt := hedge i _ ho ops[i].after[k] (by simp) hb
          rw [getD_listed (by omega), hls _ (by omega), h2 _ hlt]
          simp
      rw [hnil] at hm; cases hm
    · intro i hi
      simp only [Region.ready, List.mem_filter, List.mem_range] at hi
      obtain ⟨hi, hr⟩ := hi
      rw [Array.getElem?_eq_getElem hi] at hr
      simp only [Option.map_some, Option.getD_some, Bool.and_eq_true, Bool.not_eq_true', Array.all_eq_true] at hr
      obtain ⟨hr1, hr2⟩ := hr
      rw [getD_listed (by omega), hls i (by omega)] at hr1
      have hready : ∀ ed ∈ ops[i].after.toList, bindsAny ed = true → S ed.on = true := by
        intro ed he hb
        obtain ⟨k, hk, rfl⟩ := List.getElem_of_mem he
        have h3 := hr2 k (by simpa using hk)
        have hlt := hedge i ops[i] (by simp [hi]) _ he hb
        simp only [Array.getElem_toList] at hlt hb ⊢
        rw [binds_any, hb] at h3
        rw [getD_listed (by omega), hls _ (by omega)] at h3
        simpa using h3
      have ho : ops.toList[i]? = some ops[i] := by simp [hi]
      simp only [wpOpIn, Array.getElem?_eq_getElem hi]
      rw [want_eq hI'.act]
      by_cases hio : i ∈ H'.map (·.i)
      · obtain ⟨x, hx, hxi⟩ := List.mem_map.1 hio
        obtain ⟨H1, H2, hH⟩ := List.append_of_mem hx
        subst hxi
        have hxo : x.o = ops[x.i] := by have := hI'.ops x hx; rw [ho] at this; simpa using this.symm
        rw [← hxo] at hready ⊢
        have hslots := slots_readyT hI' hL hH hr1 hready
        rw [want_of_slots hslots]
        have up := next x.i n' rs' e' H' w _ hi hr1 (hI'.up hL hH hr1 hready) hd'
        rcases (hI'.pend H1 x H2 hH hr1).1 with ⟨q1, q2, q3, q4, q5⟩ | ⟨q1, q2⟩
        · rw [if_pos q1]
          obtain ⟨ns, nd⟩ := noSel_of_light q2
          unfold Oper.wpIn
          refine ⟨fun _ _ => trivial, ?_⟩
          rw [Oper.semAt_eq _ _ _ nd, eval_eq hI'.act, execOp_congr x.o ns (fun y hy => rdv_of_slot fun t ht => hslots t (look_operand hy ht)), q4]
          exact up
        · rw [if_neg (by rw [q1]; decide)]
          refine ⟨fun _ _ => trivial, ?_⟩
          rw [q2] at up
          exact up
      · have hrdy : readyB ops.toList (H'.map (·.i)) i = true := by
          unfold readyB
          simp only [Bool.and_eq_true, Bool.not_eq_true']
          refine ⟨?_, ?_⟩
          · cases hel : (H'.map (·.i)).elem i with
            | false => rfl
            | true => exact absurd (List.mem_of_elem_eq_true hel) hio
          · rw [ho]
            simp only [List.all_eq_true]
            intro ed he
            cases hb : bindsAny ed with
            | false => rfl
            | true =>
              obtain ⟨x, hx, hxi⟩ := hI'.inH ed.on (hready ed he hb)
              simp only [Bool.not_true, Bool.false_or]
              exact List.elem_eq_true_of_mem (List.mem_map.2 ⟨x, hx, hxi⟩)
        rcases hor with h1 | ⟨n2, rfl, _, hh⟩
        · exact absurd (allIn_mem h1.1 (by simpa using hi)) hio
        · obtain ⟨o, ho', hrr, hh⟩ := hh i hrdy
          rw [ho] at ho'
          simp only [Option.some.injEq] at ho'
          subst ho'
          have hn := rr_all hrr
          have hslots := slots_headT hI' hn hL ho hready
          rw [want_of_slots hslots]
          rcases hh with ⟨h3, h5⟩ | ⟨h3, h5⟩
          · rw [if_pos h3]
            rw [← opR_congr (e := foldE S e0 H') fun y hy => rdv_of_slot fun t ht => hslots t (look_operand hy ht)] at h5
            refine Oper.wpIn_mono ?_ (opR_sound (rd := rd) (n := n) (Q := Q) (X := X) (K := fun E ds' w' => ∃ v, ds' = ds ∧ E = put (foldE S e0 H') ops[i].dst v ∧ oblsA P N ds ((ancsGo [] ops.toList).getD i 0) w' (walkD P N rd ops.toList (ancsGo [] ops.toList) ds K X n2 ((H'.map (·.i)) ++ [i]) rs' (put e' ops[i].dst v) w') rs') hI'.act (fun ch w' hx => hX ch _ _ w' hI'.act hx) (opR_mono (fun v w' hv => ⟨v, rfl, rfl, hv⟩) h5))
            rintro a' w' ⟨E, ds', hr', v, rfl, rfl, hv⟩
            obtain ⟨g1, g2⟩ := obls_split rs' hv
            exact next i n2 rs' _ _ w' a' hi hr1 (InvT.heavy hr' hI' hn hL ho hready (.inr g2)) (by rw [List.map_append]; exact g1)
          · rw [if_neg (by rw [h3]; decide)]
            refine ⟨fun _ _ => trivial, ?_⟩
            exact next i n2 rs' _ _ w _ hi hr1 (InvT.heavy (hI'.act.put' _ _) hI' hn hL ho hready (.inl rfl)) (by rw [List.map_append]; exact h5)
theorem walk_sound {ops : Array Oper} {K : Env → World → Prop} {X : List PanicEntry → World → Prop} {nn : Nat} (he : edgesB ops.toList ops.toList.length = true) (hQ : ∀ e a w, Rel N e ds a → K e w → Q .normal a w) (hX : ∀ ch e a w, Rel N e ds a → X ch w → Q (.panic ch) a w) (hr : Rel N e ds a)
    (h : walkD P N rd ops.toList (ancsGo [] ops.toList) ds K X nn [] [] e w) : wpAnyIn (FW rd) n P .any ops Q ops.size (Array.replicate ops.size false) a w := by
  refine walk_any (e0 := e) (fun i o ho => edges_of _ he i (List.getElem?_eq_some_iff.1 ho).1 o ho) hQ hX ops.size _ (fun _ => false) [] nn [] e w a (by simp) (fun j h => by simp) (fun j h => nomatch h) ?_ ⟨List.Pairwise.nil, (fun x hx => nomatch hx), rfl, hr, (fun i h => nomatch h), (fun i o h => nomatch h), (fun H1 x H2 hh => by simp at hh)⟩ h
  have : ∀ m, cnt (fun _ => false) m = m := by
    intro m
    induction m with
    | zero => rfl
    | succ m ih => simp [cnt, ih]
  exact this _
end
end Go.Proofs.YtcanicgpkbhhdaaGreatDoor.Sh

namespace Go.Proofs.YtcanicgpkbhhdaaGreatDoor.Rn
open Go Go.RowKit Go.Proofs.YtcanicgpkbhhdaaGreatDoor.Sh
set_option linter.unusedVariables false
set_option linter.unusedSimpArgs false
theorem fold_keep (g : Nat → Nat) (h : Nat) : ∀ (l : List Edge) (s : Nat), s.testBit h = true → (l.foldl (fun s e => cond (bindsAny e) ((s ||| 2 ^ e.on) ||| g e.on) s) s).testBit h = true
  | [], s, hs => hs
  | e :: l, s, hs => by
    simp only [List.foldl_cons]
    refine fold_keep g h l _ ?_
    cases bindsAny e
    · exact hs
    · simp [Nat.testBit_or, hs]
theorem fold_on (g : Nat → Nat) : ∀ (l : List Edge) (s : Nat) (e : Edge), e ∈ l → bindsAny e = true → (l.foldl (fun s e => cond (bindsAny e) ((s ||| 2 ^ e.on) ||| g e.on) s) s).testBit e.on = true
  | e0 :: l, s, e, he, hb => by
    simp only [List.foldl_cons]
    rcases List.mem_cons.1 he with rfl | he
    · refine fold_keep g _ l _ ?_
      rw [hb]
      simp [Nat.testBit_or, Nat.testBit_two_pow_self]
    · exact fold_on g l _ e he hb
theorem anc_edge {L : List Oper} {i : Nat} {o : Oper} (ho : L[i]? = some o) {ed : Edge} (he : ed ∈ o.after.toList) (hb : bindsAny ed = true) : ((ancsGo [] L).getD i 0).testBit ed.on = true := by
  have := ancs_at L [] i o ho
  simp only [List.length_nil, Nat.zero_add] at this
  rw [this]
  exact fold_on (fun k => ((ancsGo [] L).take i).getD k 0) _ _ ed he hb
section
variable {P : Program} {N : Nat} (hP : PV P) (hN : N ≤ 1000000000)
/-- What was checked of a region that draws its order. -/
structure ChkOK (L : List Oper) (an cl ord : List Nat) : Prop where
  edges : edgesB L L.length = true
  lt : ∀ i ∈ ord, i < L.length
  cover : ∀ i, i < L.length → i ∈ ord
  pairs : ord.Pairwise fun a b => pairW L an cl a b = true
theorem chkW_ok {L : List Oper} {an cl ord : List Nat} (h : chkW L an cl ord = true) : ChkOK L an cl ord := by
  unfold chkW at h
  simp only [Bool.and_eq_true] at h
  obtain ⟨h1, h2, h3, h4, h5⟩ := h
  refine ⟨h1, fun i hi => ?_, fun i hi => ?_, pairs_pw _ h5⟩
  · have := List.all_eq_true.1 h3 i hi
    rw [Nat.ble_eq] at this
    omega
  · have := List.all_eq_true.1 h4 i (natsTo_mem _ 0 i (by omega) (by omega))
    exact List.mem_of_elem_eq_true this
theorem cls_get {fl : Bool} {ops : List Oper} {an : List Nat} : ∀ (l : List Oper) (k i : Nat) (o : Oper), l[i]? = some o → (clsL P fl ops an l k).getD i 1 = (match lightB P o with | true => 0 | false => match fl && floatB P ops (an.getD (k + i) 0) o with | true => 2 | false => 1)
  | [], k, i, o, h => by simp at h
  | o' :: l, k, 0, o, h => by
    simp only [List.getElem?_cons_zero, Option.some.injEq] at h
    subst h
    rw [clsL, List.getD_cons_zero, Nat.add_zero]
    generalize lightB P o' = x
    generalize (fl && floatB P ops (an.getD k 0) o') = y
    cases x <;> cases y <;> rfl
  | o' :: l, k, i + 1, o, h => by
    rw [List.getElem?_cons_succ] at h
    have := cls_get (fl := fl) (ops := ops) (an := an) l (k + 1) i o h
    rw [show k + 1 + i = k + (i + 1) by omega] at this
    rw [clsL, List.getD_cons_succ, this]
/-- An operation that floats. -/
structure FlOK (P : Program) (L : List Oper) (an : List Nat) (i : Nat) (o : Oper) (t : TypeId) (l : List V) (mk : Nat → V) (d : Nat) : Prop where
  op : L[i]? = some o
  anc : an.getD i 0 = 0
  guard : o.guard = none
  dst : o.dst = some d
  looks : looksL L o = []
  lay : layV P o = some (t, l, mk)
  heavy : lightB P o = false
theorem float_of {fl : Bool} {L : List Oper} {an : List Nat} {i : Nat} {o : Oper} (ho : L[i]? = some o) (h : (clsL P fl L an L 0).getD i 1 = 2) : fl = true ∧ ∃ t l mk d, FlOK P L an i o t l mk d := by
  rw [cls_get L 0 i o ho, Nat.zero_add] at h
  split at h
  · cases h
  · rename_i hl
    split at h
    · rename_i hf
      simp only [Bool.and_eq_true] at hf
      obtain ⟨hfl, hf⟩ := hf
      unfold floatB at hf
      simp only [Bool.and_eq_true] at hf
      obtain ⟨h1, h2, h3, h4, h5⟩ := hf
      obtain ⟨d, hd⟩ := Option.isSome_iff_exists.1 h3
      cases hlay : layV P o with
      | none => rw [hlay] at h5; cases h5
      | some q =>
        obtain ⟨t, l, mk⟩ := q
        refine ⟨hfl, t, l, mk, d, ho, Nat.eq_of_beq_eq_true h1, Option.isNone_iff_eq_none.1 h2, hd, ?_, hlay, hl⟩
        cases hlo : looksL L o with
        | nil => rfl
        | cons x xs => rw [hlo] at h4; cases h4
    · cases h
theorem light_of {fl : Bool} {L : List Oper} {an : List Nat} {i : Nat} {o : Oper} (ho : L[i]? = some o) : (clsL P fl L an L 0).getD i 1 = 0 ↔ lightB P o = true := by
  rw [cls_get L 0 i o ho]
  cases lightB P o with
  | true => simp
  | false =>
    simp only [Bool.false_eq_true, iff_false]
    split <;> simp
/-- What pairs of the order are. -/
theorem pairW_ok {L : List Oper} {an cl : List Nat} {a b : Nat} (h : pairW L an cl a b = true) : a ≠ b ∧ (an.getD a 0).testBit b = false ∧ ((an.getD b 0).testBit a = true ∨ ((cl.getD a 1 = 0 ∨ cl.getD b 1 = 2) ∧ ∃ x y, L[a]? = some x ∧ L[b]? = some y ∧ apartL L x y = true)) := by
  unfold pairW at h
  simp only [Bool.and_eq_true, Bool.not_eq_true', Bool.or_eq_true] at h
  obtain ⟨h1, h2, h3⟩ := h
  refine ⟨fun e => (by rw [e, Nat.beq_refl] at h1; cases h1), h2, h3.imp id fun h3 => ⟨h3.1.imp (fun e => Nat.eq_of_beq_eq_true e) (fun e => Nat.eq_of_beq_eq_true e), ?_⟩⟩
  have h4 := h3.2
  split at h4
  · rename_i x y hx hy
    exact ⟨x, y, hx, hy, h4⟩
  · cases h4
/-! ### What floats, laid by the machine -/
theorem envNil (c : Cx) (n : Nat) : EnvOK c n .nil fun _ => undef := fun i _ => .inr ⟨Tr.get_nil i, rfl⟩
include hP in
theorem lay_ok {L : List Oper} {an : List Nat} {i : Nat} {o : Oper} {t : TypeId} {l : List V} {mk : Nat → V} {d : Nat} (h : FlOK P L an i o t l mk d) :
    ∃ arr : Array Value, (∀ c, arr.toList = V.denL c l) ∧ (∀ n, V.ltL n l) ∧ l.length < 1000000000 ∧ (∀ n m, n < m → (mk n).lt m) ∧
      ∃ val : Nat → Value, (∀ (c : Cx) (n b : Nat), c.ρ n = b → c.ω n = 0 → (mk n).den c = val b) ∧
        ∀ (e : Env) (ds : List Deferred) (w : World) (K : Value → List Deferred → World → Prop), K (val w.heap.size) ds (w.alloc (.cells arr t)) → opA P N o e ds w K := by
  have hl := h.lay
  have hlk := h.looks
  unfold layV at hl
  split at hl <;> first | (cases hl; done) | skip
  · rename_i ty hop
    split at hl <;> first | (cases hl; done) | skip
    rename_i l' hz
    split at hl <;> first | (cases hl; done) | skip
    rename_i hle
    rw [Nat.ble_eq] at hle
    simp only [Option.some.injEq, Prod.mk.injEq] at hl
    obtain ⟨rfl, rfl, rfl⟩ := hl
    unfold zeroL at hz
    split at hz <;> first | (cases hz; done) | skip
    rename_i it hi
    split at hz <;> first | (cases hz; done) | skip
    rename_i z hzz
    refine ⟨z.cells, fun c => (ofCells_ok (c := c) (n := 0) hz).1.symm, fun n => (ofCells_ok (c := ⟨fun _ => 0, fun _ => 0, fun _ => 0, fun _ => 0, fun _ => false, fun _ => [], fun _ => (none, 0, 0), fun _ _ => undef, fun _ => default⟩) (n := n) hz).2, by omega, fun n m h => h, fun b => .pointer (some ⟨b, 0, none⟩), fun c n b h1 h2 => by simp [V.den, h1, h2], fun e ds w K hK => ?_⟩
    unfold opA
    rw [hop]
    simp only
    refine semK_run (v := .pointer (some ⟨w.heap.size, 0, none⟩)) (w' := w.alloc (.cells z.cells ty)) ?_ hK
    simp [Instr.alloc, zeroValue, typeInfo, infoV_ok hP hi, hzz, newVar, newRow]
  · rename_i ty len parts hop
    split at hl <;> first | (cases hl; done) | skip
    rename_i ps el hps hel
    split at hl <;> first | (cases hl; done) | skip
    rename_i z hz hb
    simp only [Bool.and_eq_true, Nat.ble_eq] at hb
    split at hl <;> first | (cases hl; done) | skip
    rename_i l' hfl
    simp only [Option.some.injEq, Prod.mk.injEq] at hl
    obtain ⟨rfl, rfl, rfl⟩ := hl
    obtain ⟨hu, hT⟩ := elemOf_ok hP hel
    obtain ⟨it, zz, hi1, hi2, hzz, hzs, hz1, hby, hsz⟩ := eOK_ok hP hb.1
    have facts : ∀ c n, V.ltL n l' ∧ rowL P ty len (parts.toList.map fun p => (p.1, rdv 0 (fun _ => undef) p.2)) = some (el, V.denL c l') ∧ l'.length = len * it.size := fun c n => by
      obtain ⟨g1, g2⟩ := rdParts_ok (N := 0) (by omega) (envNil c n) hps
      obtain ⟨it', zv, hi1', hi2', hzz', hzc, hzl⟩ := zeroL_ok (c := c) (n := n) hP hz
      rw [hi1] at hi1'
      cases hi1'
      rw [hzz] at hzz'
      cases hzz'
      obtain ⟨k1, k2, k3⟩ := fillV_ok (c := c) (place' := fun i => some (i * it.size, it.size)) (fun i p hp => by rw [← hsz]; exact hp) hfl g2 (repV_lt hzl len)
      have hzlen : z.length = it.size := by
        have := congrArg List.length hzc
        rw [denL_len] at this
        simp at this
        omega
      refine ⟨k1, ?_, by rw [k3, repV_len, hzlen]⟩
      have hlz : 1 ≤ len * it.size := Nat.mul_le_mul hb.2.1 hz1
      unfold rowL
      rw [hu]
      simp only [hi2]
      rw [show Nat.beq len 0 = false from Bool.eq_false_iff.2 fun e => by have := Nat.eq_of_beq_eq_true e; omega]
      simp only [cond_false, hzz]
      have c1 : (Nat.ble 1 (len * it.size) && Nat.ble (len * it.size) 65536 && Nat.beq zz.cells.toList.length it.size) = true := by
        simp only [Bool.and_eq_true, Nat.ble_eq]
        refine ⟨⟨hlz, by rw [← hsz]; exact hb.2.2⟩, ?_⟩
        simp [hzs]
      rw [c1, cond_true, hzc, ← repV_zeros, g1, k2]
      rfl
    have cz : Cx := ⟨fun _ => 0, fun _ => 0, fun _ => 0, fun _ => 0, fun _ => false, fun _ => [], fun _ => (none, 0, 0), fun _ _ => undef, fun _ => default⟩
    refine ⟨(V.denL cz l').toArray, fun c => ?_, fun n => (facts cz n).1, by have := (facts cz 0).2.2; rw [this, ← hsz]; omega, fun n m h => h, fun b => .slice (some ⟨b, 0, none⟩) len len, fun c n b h1 h2 => by simp [V.den, h1, h2], fun e ds w K hK => ?_⟩
    · have h1 := (facts c 0).2.1
      have h2 := (facts cz 0).2.1
      rw [h1] at h2
      simp only [Option.some.injEq, Prod.mk.injEq, true_and] at h2
      simpa using h2.symm
    · have hparts : (parts.toList.map fun p => (p.1, rdv N e p.2)) = parts.toList.map fun p => (p.1, rdv 0 (fun _ => undef) p.2) := by
        refine List.map_congr_left fun p hp => ?_
        have hp2 : p.2 ∈ o.op.operands := by
          rw [hop]
          simp only [Op.operands]
          simp
          exact ⟨p.1, by simpa using hp⟩
        cases hq : p.2 with
        | tmp t =>
          have := look_operand (L := L) hp2 hq
          rw [hlk] at this
          cases this
        | _ => rfl
      unfold opA
      rw [hop]
      simp only
      rw [hparts, (facts cz 0).2.1]
      exact hK
/-! ### Lightness -/
def KindIs : Nat → Value → Prop
  | 1, v => ∃ q n, v = .int q n
  | 2, v => ∃ b, v = .bool b
  | 3, v => ∃ s, v = .string s
  | 4, v => ∃ cs, v = .agg cs
  | 5, v => v = .pointer none
  | 6, v => ∃ p, v = .pointer p
  | 7, v => v = .slice none 0 0
  | 8, v => ∃ p l q, v = .slice p l q
  | 9, v => v = .map none
  | 10, v => ∃ p, v = .map p
  | _, _ => True
theorem kind_den {c : Cx} {v : V} {k : Nat} (h : kindV (some v) = k) : KindIs k (v.den c) := by
  subst h
  cases v <;> simp [kindV, KindIs, V.den]
include hN in
theorem ltV_ok {c : Cx} {n : Nat} {E : Tr V} {e : Env} (he : EnvOK c n E e) {o : Oper} (h : ltV N o E = true) : lightE N o e = true := by
  have kd : ∀ {x : Operand} {k : Nat}, kindV (rdV N E x) = k → k ≠ 0 → ∃ v, rdv N e x = v.den c ∧ kindV (some v) = k := fun {x k} hk h0 => by
    cases hx : rdV N E x with
    | none => rw [hx] at hk; exact absurd hk.symm h0
    | some v => rw [hx] at hk; exact ⟨v, (rdV_ok hN he hx).1, hk⟩
  unfold ltV at h
  unfold lightE
  split at h <;> first | (cases h; done) | (rename_i hop; rw [hop]; done) | skip
  · rename_i t1 t2 x ok hop
    rw [hop]
    simp only
    split at h <;> first | (cases h; done) | skip
    · rename_i hk; obtain ⟨v, h1, h2⟩ := kd hk (by decide); obtain ⟨q, m, h3⟩ := kind_den (c := c) h2; rw [h1, h3]
    · rename_i hk; obtain ⟨v, h1, h2⟩ := kd hk (by decide); obtain ⟨q, h3⟩ := kind_den (c := c) h2; rw [h1, h3]
    · rename_i hk; obtain ⟨v, h1, h2⟩ := kd hk (by decide); obtain ⟨q, h3⟩ := kind_den (c := c) h2; rw [h1, h3]
  · rename_i op t x y pz hop
    rw [hop]
    simp only
    have eql : eqlB op = true → op = .eql ∨ op = .neq := fun h => by cases op <;> first | exact .inl rfl | exact .inr rfl | cases h
    split at h <;> first | (cases h; done) | skip
    · rename_i hx hy
      obtain ⟨v, h1, h2⟩ := kd hx (by decide); obtain ⟨q, m, h3⟩ := kind_den (c := c) h2
      obtain ⟨v', h1', h2'⟩ := kd hy (by decide); obtain ⟨q', m', h3'⟩ := kind_den (c := c) h2'
      rw [h1, h3, h1', h3']
      all_goals (cases op <;> rfl)
    · rename_i hx hy
      obtain ⟨v, h1, h2⟩ := kd hx (by decide); obtain ⟨q, h3⟩ := kind_den (c := c) h2
      obtain ⟨v', h1', h2'⟩ := kd hy (by decide); obtain ⟨q', h3'⟩ := kind_den (c := c) h2'
      rw [h1, h3, h1', h3']
      all_goals (cases op <;> rfl)
    · rename_i hx hy
      obtain ⟨v, h1, h2⟩ := kd hx (by decide); obtain ⟨q, h3⟩ := kind_den (c := c) h2
      obtain ⟨v', h1', h2'⟩ := kd hy (by decide); obtain ⟨q', h3'⟩ := kind_den (c := c) h2'
      rw [h1, h3, h1', h3']
      all_goals (cases op <;> rfl)
    · rename_i hx hy
      obtain ⟨v, h1, h2⟩ := kd hx (by decide); obtain ⟨q, h3⟩ := kind_den (c := c) h2
      obtain ⟨v', h1', h2'⟩ := kd hy (by decide); obtain ⟨q', h3'⟩ := kind_den (c := c) h2'
      rw [h1, h3, h1', h3']
      rcases eql h with rfl | rfl <;> rfl
    · rename_i hx hy
      obtain ⟨v, h1, h2⟩ := kd hx (by decide); have h3 := kind_den (c := c) h2
      obtain ⟨v', h1', h2'⟩ := kd hy (by decide); have h3' := kind_den (c := c) h2'
      change v.den c = _ at h3
      change v'.den c = _ at h3'
      rw [h1, h3, h1', h3']
      rcases eql h with rfl | rfl <;> rfl
    · rename_i hx hy
      obtain ⟨v, h1, h2⟩ := kd hx (by decide); obtain ⟨q, h3⟩ := kind_den (c := c) h2
      obtain ⟨v', h1', h2'⟩ := kd hy (by decide); have h3' := kind_den (c := c) h2'
      change v'.den c = _ at h3'
      rw [h1, h3, h1', h3']
      rcases eql h with rfl | rfl <;> rfl
    · rename_i hx hy
      obtain ⟨v, h1, h2⟩ := kd hx (by decide); have h3 := kind_den (c := c) h2
      obtain ⟨v', h1', h2'⟩ := kd hy (by decide); have h3' := kind_den (c := c) h2'
      change v.den c = _ at h3
      change v'.den c = _ at h3'
      rw [h1, h3, h1', h3']
      rcases eql h with rfl | rfl <;> rfl
    · rename_i hx hy
      obtain ⟨v, h1, h2⟩ := kd hx (by decide); obtain ⟨q, q2, q3, h3⟩ := kind_den (c := c) h2
      obtain ⟨v', h1', h2'⟩ := kd hy (by decide); have h3' := kind_den (c := c) h2'
      change v'.den c = _ at h3'
      rw [h1, h3, h1', h3']
      rcases eql h with rfl | rfl <;> rfl
    · rename_i hx hy
      obtain ⟨v, h1, h2⟩ := kd hx (by decide); have h3 := kind_den (c := c) h2
      obtain ⟨v', h1', h2'⟩ := kd hy (by decide); have h3' := kind_den (c := c) h2'
      change v.den c = _ at h3
      change v'.den c = _ at h3'
      rw [h1, h3, h1', h3']
      rcases eql h with rfl | rfl <;> rfl
    · rename_i hx hy
      obtain ⟨v, h1, h2⟩ := kd hx (by decide); obtain ⟨q, h3⟩ := kind_den (c := c) h2
      obtain ⟨v', h1', h2'⟩ := kd hy (by decide); have h3' := kind_den (c := c) h2'
      change v'.den c = _ at h3'
      rw [h1, h3, h1', h3']
      rcases eql h with rfl | rfl <;> rfl
  · rename_i op t x hop
    rw [hop]
    simp only
    split at h <;> first | (cases h; done) | skip
    · rename_i hk; obtain ⟨v, h1, h2⟩ := kd hk (by decide); obtain ⟨q, m, h3⟩ := kind_den (c := c) h2; rw [h1, h3]
    · rename_i hk; obtain ⟨v, h1, h2⟩ := kd hk (by decide); obtain ⟨q, h3⟩ := kind_den (c := c) h2; rw [h1, h3]
  · rename_i s d x hop
    rw [hop]
    simp only
    split at h <;> first | (cases h; done) | skip
    rename_i hk; obtain ⟨v, h1, h2⟩ := kd hk (by decide); obtain ⟨q, m, h3⟩ := kind_den (c := c) h2; rw [h1, h3]
  · rename_i x t u ok hop
    rw [hop]
    simp only
    split at h <;> first | (cases h; done) | skip
    rename_i d v hx
    rw [(rdV_ok hN he hx).1]
    exact h
  · rename_i b args ats hop
    rw [hop]
    simp only
    split at h <;> first | (cases h; done) | skip
    · rename_i x hargs
      rw [hargs]
      simp only [List.map_cons, List.map_nil]
      split at h <;> first | (cases h; done) | skip
      · rename_i hk; obtain ⟨v, h1, h2⟩ := kd hk (by decide); have h3 : v.den c = _ := kind_den (c := c) h2; rw [h1, h3]
      · rename_i hk; obtain ⟨v, h1, h2⟩ := kd hk (by decide); obtain ⟨q, q2, q3, h3⟩ := kind_den (c := c) h2; rw [h1, h3]
      · rename_i hk; obtain ⟨v, h1, h2⟩ := kd hk (by decide); obtain ⟨q, h3⟩ := kind_den (c := c) h2; rw [h1, h3]
      · rename_i hk; obtain ⟨v, h1, h2⟩ := kd hk (by decide); have h3 : v.den c = _ := kind_den (c := c) h2; rw [h1, h3]
      · rename_i hk; obtain ⟨v, h1, h2⟩ := kd hk (by decide); obtain ⟨q, h3⟩ := kind_den (c := c) h2; rw [h1, h3]
    · rename_i x hargs
      rw [hargs]
      simp only [List.map_cons, List.map_nil]
      split at h <;> first | (cases h; done) | skip
      · rename_i hk; obtain ⟨v, h1, h2⟩ := kd hk (by decide); have h3 : v.den c = _ := kind_den (c := c) h2; rw [h1, h3]
      · rename_i hk; obtain ⟨v, h1, h2⟩ := kd hk (by decide); obtain ⟨q, q2, q3, h3⟩ := kind_den (c := c) h2; rw [h1, h3]
    · rename_i x y hargs
      rw [hargs]
      simp only [List.map_cons, List.map_nil]
      split at h <;> first | (cases h; done) | skip
      rename_i hx hy
      obtain ⟨v, h1, h2⟩ := kd hx (by decide); obtain ⟨q, m, h3⟩ := kind_den (c := c) h2
      obtain ⟨v', h1', h2'⟩ := kd hy (by decide); obtain ⟨q', m', h3'⟩ := kind_den (c := c) h2'
      rw [h1, h3, h1', h3']
    · rename_i x y hargs
      rw [hargs]
      simp only [List.map_cons, List.map_nil]
      split at h <;> first | (cases h; done) | skip
      rename_i hx hy
      obtain ⟨v, h1, h2⟩ := kd hx (by decide); obtain ⟨q, m, h3⟩ := kind_den (c := c) h2
      obtain ⟨v', h1', h2'⟩ := kd hy (by decide); obtain ⟨q', m', h3'⟩ := kind_den (c := c) h2'
      rw [h1, h3, h1', h3']
end
end Go.Proofs.YtcanicgpkbhhdaaGreatDoor.Rn

namespace Go.Proofs.YtcanicgpkbhhdaaGreatDoor.Rn
open Go Go.RowKit Go.Proofs.YtcanicgpkbhhdaaGreatDoor.Sh
set_option linter.unusedVariables false
set_option linter.unusedSimpArgs false
/-- A block that was laid early: by which operation, into which slot, where. -/
structure XR where
  i : Nat
  d : Nat
  b : Nat
  v : Value
  t : TypeId
  l : List V
  mkv : Nat → V
  arr : Array Value
def putX : List XR → Env → Env
  | [], e => e
  | x :: xs, e => put (putX xs e) (some x.d) x.v
theorem putX_get {e : Env} {t : Nat} : ∀ {xs : List XR}, (∀ x ∈ xs, x.d ≠ t) → putX xs e t = e t
  | [], _ => rfl
  | x :: xs, h => by
    have h1 := h x List.mem_cons_self
    show cond (Nat.beq t x.d) x.v (putX xs e t) = e t
    rw [show Nat.beq t x.d = false from Bool.eq_false_iff.2 fun q => h1 (Nat.eq_of_beq_eq_true q).symm]
    exact putX_get fun y hy => h y (List.mem_cons_of_mem _ hy)
theorem put_comm {e : Env} {a b : Nat} {u v : Value} (h : a ≠ b) : put (put e (some a) u) (some b) v = put (put e (some b) v) (some a) u := by
  funext i
  show cond (Nat.beq i b) v (cond (Nat.beq i a) u (e i)) = cond (Nat.beq i a) u (cond (Nat.beq i b) v (e i))
  cases hb : Nat.beq i b with
  | false => rfl
  | true =>
    have := Nat.eq_of_beq_eq_true hb
    subst this
    rw [show Nat.beq i a = false from Bool.eq_false_iff.2 fun q => h (Nat.eq_of_beq_eq_true q).symm]
    rfl
theorem putX_put {e : Env} {dst : Option Nat} {v : Value} : ∀ {xs : List XR}, (∀ x ∈ xs, dst ≠ some x.d) → put (putX xs e) dst v = putX xs (put e dst v)
  | [], _ => rfl
  | x :: xs, h => by
    cases dst with
    | none => rfl
    | some d =>
      have h1 : x.d ≠ d := fun q => h x List.mem_cons_self (by rw [q])
      show put (put (putX xs e) (some x.d) x.v) (some d) v = put (putX xs (put e (some d) v)) (some x.d) x.v
      rw [put_comm h1, putX_put fun y hy => h y (List.mem_cons_of_mem _ hy)]
/-- One of them is told now. -/
theorem putX_out {e : Env} : ∀ {xs : List XR} {x : XR}, x ∈ xs → xs.Pairwise (fun a b => a.d ≠ b.d) → ∃ A B, xs = A ++ x :: B ∧ putX xs e = putX (A ++ B) (put e (some x.d) x.v)
  | y :: xs, x, h, hp => by
    rw [List.pairwise_cons] at hp
    rcases List.mem_cons.1 h with rfl | h
    · refine ⟨[], xs, rfl, ?_⟩
      show put (putX xs e) (some x.d) x.v = putX xs (put e (some x.d) x.v)
      exact putX_put fun y hy q => hp.1 y hy (by simpa using q)
    · obtain ⟨A, B, h1, h2⟩ := putX_out (e := e) h hp.2
      refine ⟨y :: A, B, by rw [h1]; rfl, ?_⟩
      show put (putX xs e) (some y.d) y.v = put (putX (A ++ B) _) (some y.d) y.v
      rw [h2]
section
variable {P : Program} {N : Nat} (hP : PV P) (hN : N ≤ 1000000000)
structure XOK (P : Program) (L : List Oper) (an : List Nat) (c : Cx) (w0 : Bs) (w : World) (H : Hs) (x : XR) : Prop where
  fl : ∃ o, FlOK P L an x.i o x.t x.l x.mkv x.d
  val : ∀ (c : Cx) (n : Nat), c.ρ n = x.b → c.ω n = 0 → (x.mkv n).den c = x.v
  mklt : ∀ n m, n < m → (x.mkv n).lt m
  cells : w.heap[x.b]? = some (.cells x.arr x.t (0, 0))
  arr : ∀ c, x.arr.toList = V.denL c x.l
  lt : (∀ n, V.ltL n x.l) ∧ x.l.length < 1000000000
  ge : w0.w.heap.size ≤ x.b
  free : ¬ footS c H x.b
structure RecOK (P : Program) (N : Nat) (fl : Bool) (c : Cx) (n : Nat) (w : World) (rs : List Rec) (rsV : List RcV) : Prop where
  stable : fl = true → ∀ r ∈ rs, loadB r.o = true → ∀ w', Bl w w' → ∀ (ds : List Deferred) (K : Value → List Deferred → World → Prop), K r.v ds w' → opA P N r.o r.e ds w' K
  tie : ∀ r ∈ rs, loadB r.o = true → ∃ y ∈ rsV, y.i = r.i ∧ OpL P N r.o y.f ∧ r.v = y.v.den c ∧ y.v.lt n ∧ ∃ e0, EnvOK c n y.E e0 ∧ ∀ x ∈ r.o.op.operands, rdv N r.e x = rdv N e0 x
theorem obls_of {anc : Nat} {p : Prop} {ds : List Deferred} {w : World} : ∀ (rs : List Rec), p → (∀ r ∈ rs, loadB r.o = true → anc.testBit r.i = false → opA P N r.o r.e ds w (fun u _ _ => u = r.v)) → oblsA P N ds anc w p rs
  | [], hp, _ => hp
  | r :: rs, hp, h => by
    simp only [oblsA]
    have ih := obls_of rs hp fun r hr => h r (List.mem_cons_of_mem _ hr)
    cases hb : (loadB r.o && !(anc.testBit r.i)) with
    | false => exact ih
    | true =>
      simp only [Bool.and_eq_true, Bool.not_eq_true'] at hb
      exact ⟨h r List.mem_cons_self hb.1 hb.2, ih⟩
theorem oblV_ok {call : CallF} {anc : Nat} {H : Hs} : ∀ {rsV : List RcV}, oblV call anc H rsV = true → ∀ y ∈ rsV, anc.testBit y.i = false → ∃ H', y.f call y.E H = .ok y.v H'
  | r :: l, h, y, hy, ha => by
    simp only [oblV] at h
    split at h
    · rename_i ht
      rcases List.mem_cons.1 hy with rfl | hy
      · rw [ha] at ht; cases ht
      · exact oblV_ok h y hy ha
    · split at h <;> first | (cases h; done) | skip
      rename_i u H' hf
      simp only [Bool.and_eq_true] at h
      rcases List.mem_cons.1 hy with rfl | hy
      · have := V.beq_eq h.1
        rw [this] at hf
        exact ⟨H', hf⟩
      · exact oblV_ok h.2 y hy ha
theorem opR_of {rd : Option Nat} {o : Oper} {e : Env} {ds : List Deferred} {w : World} {K : Value → List Deferred → World → Prop} {X : List PanicEntry → World → Prop} (hd : ∀ k, o.op ≠ .defer k) (h : opX P N o e ds w K (match rd with | none => X | some _ => fun _ _ => False)) : opR P N rd o e ds w K X := by
  cases rd with
  | some l => exact opA_of hd h
  | none =>
    have h : opX P N o e ds w K X := h
    show opH P N o e ds w K X
    unfold opH
    split
    · exact h
    · exact h
    · rename_i h1 h2
      unfold opX at h
      split at h
      · rename_i k hk; exact absurd hk (h1 k)
      · rename_i x hx; exact absurd hx (h2 x)
      · rename_i k hk; exact absurd hk (hd k)
      · exact h
theorem opR_A {rd : Option Nat} {o : Oper} {e : Env} {ds : List Deferred} {w : World} {K : Value → List Deferred → World → Prop} {X : List PanicEntry → World → Prop} (ht : tameB o = true) (h : opA P N o e ds w K) : opR P N rd o e ds w K X := by
  refine opR_of (fun k hk => ?_) (opX_tame ht h)
  unfold tameB at ht
  rw [hk] at ht
  cases ht
theorem opX_congr {e e' : Env} {ds : List Deferred} {w : World} {o : Oper} {K : Value → List Deferred → World → Prop} {X : List PanicEntry → World → Prop} (hd : ∀ k, o.op ≠ .defer k) (h : ∀ x ∈ o.op.operands, rdv N e x = rdv N e' x) : opX P N o e ds w K X = opX P N o e' ds w K X := by
  have old := opA_congr (P := P) (N := N) (ds := ds) (w := w) (o := o) (K := K) h
  unfold opX
  split
  · rename_i c hc
    rw [hc] at h
    obtain ⟨callee, args, argTypes⟩ := c
    have ha : args.toList.map (rdv N e) = args.toList.map (rdv N e') := List.map_congr_left fun x hm => h x (by simp only [Op.operands, Call.operands]; exact Array.mem_append.2 (.inr (by simpa using hm)))
    cases callee with
    | value f => simp only; rw [ha, h f (by simp [Op.operands, Call.operands])]
    | invoke r m => simpa only using old
    | builtin b => simpa only using old
  · rename_i x hx
    rw [hx] at h
    rw [h x (by simp [Op.operands])]
  · rename_i k hk; exact absurd hk (hd k)
  · exact old
theorem lightE_congr {o : Oper} {e e' : Env} (h : ∀ x ∈ o.op.operands, rdv N e x = rdv N e' x) : lightE N o e = lightE N o e' := by
  obtain ⟨dst, op, type, pos, after, guard⟩ := o
  unfold lightE
  cases op <;> simp only [Op.operands] at h ⊢ <;> first | rfl | (simp_all; done) | skip
  case call k =>
    obtain ⟨callee, args, argTypes⟩ := k
    have ha : args.toList.map (rdv N e) = args.toList.map (rdv N e') := List.map_congr_left fun x hm => h x (by simp only [Call.operands]; exact Array.mem_append.2 (.inr (by simpa using hm)))
    cases callee <;> first | rfl | simp only [ha]
end
end Go.Proofs.YtcanicgpkbhhdaaGreatDoor.Rn

namespace Go.Proofs.YtcanicgpkbhhdaaGreatDoor.Rn
open Go Go.RowKit Go.Proofs.YtcanicgpkbhhdaaGreatDoor.Sh
set_option linter.unusedVariables false
set_option linter.unusedSimpArgs false
section
variable {P : Program} {N : Nat} (hP : PV P) (hN : N ≤ 1000000000)
/-- What is still to come. -/
def rem (rest wl : List Nat) : List Nat := rest.filter fun k => !(wl.elem k)
theorem mem_elem {wl : List Nat} {k : Nat} : wl.elem k = true ↔ k ∈ wl := ⟨List.mem_of_elem_eq_true, List.elem_eq_true_of_mem⟩
theorem rem_out {rest wl : List Nat} {k : Nat} (hk : k ∈ rest) (hw : k ∉ wl) : (rem rest (wl ++ [k])).length + 1 ≤ (rem rest wl).length := by
  have h1 : rem rest (wl ++ [k]) = (rem rest wl).filter fun j => !(Nat.beq j k) := by
    unfold rem
    rw [List.filter_filter]
    refine List.filter_congr fun j hj => ?_
    rw [Bool.eq_iff_iff]
    simp only [Bool.not_eq_true', Bool.and_eq_true]
    constructor
    · intro h
      refine ⟨?_, ?_⟩
      · cases hb : Nat.beq j k with
        | false => rfl
        | true =>
          have := Nat.eq_of_beq_eq_true hb
          subst this
          rw [mem_elem.2 (by simp)] at h
          cases h
      · cases hb : wl.elem j with
        | false => rfl
        | true =>
          have := mem_elem.1 hb
          rw [mem_elem.2 (by simp [this])] at h
          cases h
    · rintro ⟨h1, h2⟩
      cases hb : (wl ++ [k]).elem j with
      | false => rfl
      | true =>
        have := mem_elem.1 hb
        rcases List.mem_append.1 this with h | h
        · rw [mem_elem.2 h] at h2; cases h2
        · simp only [List.mem_singleton] at h
          subst h
          rw [Nat.beq_refl] at h1
          cases h1
  rw [h1]
  have h2 : k ∈ rem rest wl := by
    unfold rem
    rw [List.mem_filter]
    refine ⟨hk, ?_⟩
    cases hb : wl.elem k with
    | false => rfl
    | true => exact absurd (mem_elem.1 hb) hw
  exact Nat.succ_le_of_lt (List.length_filter_lt_length_iff_exists.2 ⟨k, h2, by rw [Nat.beq_refl]; simp⟩)
theorem rem_cons {i : Nat} {rest wl : List Nat} : (rem rest wl).length ≤ (rem (i :: rest) wl).length := by
  unfold rem
  rw [List.filter_cons]
  split
  · simp
  · exact Nat.le_refl _
/-- What has been walked, and what of that has its ancestors. -/
def Closed (L : List Oper) (wl : List Nat) : Prop := ∀ i o, i ∈ wl → L[i]? = some o → ∀ ed ∈ o.after.toList, bindsAny ed = true → ed.on ∈ wl
theorem closed_anc {L : List Oper} {wl : List Nat} (hc : Closed L wl) (hl : ∀ i ∈ wl, i < L.length) {k : Nat} {o : Oper} (ho : L[k]? = some o) (hd : ∀ ed ∈ o.after.toList, bindsAny ed = true → ed.on ∈ wl) {h : Nat} (ht : ((ancsGo [] L).getD k 0).testBit h = true) : h ∈ wl := by
  have := anc_closed (L := L) (S := fun j => wl.elem j) (fun i o hi ho ed he hb => mem_elem.2 (hc i o (mem_elem.1 hi) ho ed he hb)) (fun i hi => hl i (mem_elem.1 hi)) k o h ho (fun ed he hb => mem_elem.2 (hd ed he hb)) ht
  exact mem_elem.1 this
theorem ready_of {L : List Oper} {wl : List Nat} {k : Nat} (h : readyB L wl k = true) : k ∉ wl ∧ ∃ o, L[k]? = some o ∧ ∀ ed ∈ o.after.toList, bindsAny ed = true → ed.on ∈ wl := by
  refine ⟨readyN h, ?_⟩
  unfold readyB at h
  simp only [Bool.and_eq_true] at h
  cases ho : L[k]? with
  | none => rw [ho] at h; simp at h
  | some o =>
    rw [ho] at h
    refine ⟨o, rfl, fun ed he hb => ?_⟩
    have := List.all_eq_true.1 h.2 ed he
    rw [hb] at this
    exact mem_elem.1 (by simpa using this)
theorem ready_mk {L : List Oper} {wl : List Nat} {k : Nat} {o : Oper} (hk : k ∉ wl) (ho : L[k]? = some o) (hd : ∀ ed ∈ o.after.toList, bindsAny ed = true → ed.on ∈ wl) : readyB L wl k = true := by
  unfold readyB
  rw [ho]
  simp only [Bool.and_eq_true, Bool.not_eq_true']
  refine ⟨?_, ?_⟩
  · cases hb : wl.elem k with
    | false => rfl
    | true => exact absurd (mem_elem.1 hb) hk
  · rw [List.all_eq_true]
    intro ed he
    cases hb : bindsAny ed with
    | false => rfl
    | true => simp only [Bool.not_true, Bool.false_or]; exact mem_elem.2 (hd ed he hb)
theorem allIn_no {L : List Oper} {wl : List Nat} {k : Nat} (hk : k ∉ wl) (hl : k < L.length) : allIn L wl = false := by
  cases h : allIn L wl with
  | false => rfl
  | true => exact absurd (allIn_mem h hl) hk
theorem rrB_mk {L : List Oper} {an : List Nat} {j i : Nat} (h1 : j ≠ i) (h2 : (an.getD j 0).testBit i = false) (h3 : (an.getD i 0).testBit j = true ∨ ∃ x y, L[j]? = some x ∧ L[i]? = some y ∧ ((lightB P x = false ∧ x.guard = none) ∨ apartL L x y = true)) : rrB P L an j i = true := by
  unfold rrB
  simp only [Bool.and_eq_true, Bool.not_eq_true', Bool.or_eq_true]
  refine ⟨⟨?_, h2⟩, h3.imp id fun ⟨x, y, hx, hy, h⟩ => ?_⟩
  · exact Bool.eq_false_iff.2 fun e => h1 (Nat.eq_of_beq_eq_true e)
  · rw [hx, hy]
    simp only [Bool.or_eq_true, Bool.and_eq_true, Bool.not_eq_true', Option.isNone_iff_eq_none]
    exact h
/-- The block of one that was laid early is laid aside by what is spoken of. -/
theorem XOK.step {L : List Oper} {an : List Nat} {c c' : Cx} {w0 : Bs} {w w' : World} {H H' : Hs} {x : XR} (h : XOK P L an c w0 w H x) (hr : Rep c w0 w H) (k : Rep c' (Bs.at_ c H w) w' H') : XOK P L an c' w0 w' H' x := by
  have hlt : x.b < w.heap.size := by
    by_cases hb : x.b < w.heap.size
    · exact hb
    · have := h.cells
      rw [Array.getElem?_eq_none (Nat.le_of_not_lt hb)] at this
      cases this
  have hown : ¬ ownS c H x.b := fun ⟨b, o, h1, h2, h3, h4⟩ => h.free ⟨b, o, h1, h2, (O.own_foot h3).2 h4⟩
  refine ⟨h.fl, h.val, h.mklt, (k.bl.block x.b hlt hown).trans h.cells, h.arr, h.lt, h.ge, fun ⟨b, o, h1, h2, h3⟩ => ?_⟩
  rcases k.inn b o h1 h2 _ h3 with g | g | g
  · have g : w.heap.size ≤ x.b := g
    omega
  · exact hown g
  · exact h.free g.2
/-- The same, where only the world grew. -/
theorem XOK.world {L : List Oper} {an : List Nat} {c : Cx} {w0 : Bs} {w w' : World} {H : Hs} {x : XR} (h : XOK P L an c w0 w H x) (hb : Bl w w') : XOK P L an c w0 w' H x := by
  have hlt : x.b < w.heap.size := by
    by_cases hb : x.b < w.heap.size
    · exact hb
    · have := h.cells
      rw [Array.getElem?_eq_none (Nat.le_of_not_lt hb)] at this
      cases this
  exact ⟨h.fl, h.val, h.mklt, (hb.block _ hlt).trans h.cells, h.arr, h.lt, h.ge, h.free⟩
theorem XOK.ask {L : List Oper} {an : List Nat} {c : Cx} {w0 : Bs} {w : World} {H H' : Hs} {x : XR} (h : XOK P L an c w0 w H x) (hf : ∀ k, footS c H' k → footS c H k) : XOK P L an c w0 w H' x :=
  ⟨h.fl, h.val, h.mklt, h.cells, h.arr, h.lt, h.ge, fun q => h.free (hf _ q)⟩
theorem RecOK.agr {fl : Bool} {c c' : Cx} {n m : Nat} {w : World} {rs : List Rec} {rsV : List RcV} (h : RecOK P N fl c n w rs rsV) (ha : Agr n c c') (hm : n ≤ m) : RecOK P N fl c' m w rs rsV :=
  ⟨h.stable, fun r hr hl => by
    obtain ⟨y, h1, h2, h3, h4, h5, e0, h6, h7⟩ := h.tie r hr hl
    exact ⟨y, h1, h2, h3, h4.trans (V.agr ha _ h5).symm, V.lt_mono hm _ h5, e0, h6.agr ha hm, h7⟩⟩
end
end Go.Proofs.YtcanicgpkbhhdaaGreatDoor.Rn

namespace Go.Proofs.YtcanicgpkbhhdaaGreatDoor.Rn
open Go Go.RowKit Go.Proofs.YtcanicgpkbhhdaaGreatDoor.Sh
set_option linter.unusedVariables false
set_option linter.unusedSimpArgs false
section
variable {P : Program} {N : Nat} (hP : PV P) (hN : N ≤ 1000000000)
theorem pw_or {α : Type} {R : α → α → Prop} : ∀ {l : List α}, l.Pairwise R → ∀ {a b : α}, a ∈ l → b ∈ l → a ≠ b → R a b ∨ R b a
  | x :: l, h, a, b, ha, hb, hne => by
    rw [List.pairwise_cons] at h
    rcases List.mem_cons.1 ha with e | ha
    · rcases List.mem_cons.1 hb with e' | hb
      · exact absurd (e.trans e'.symm) hne
      · exact .inl (e ▸ h.1 b hb)
    · rcases List.mem_cons.1 hb with e' | hb
      · exact .inr (e' ▸ h.1 a ha)
      · exact pw_or h.2 ha hb hne
/-- A block that lies there is spoken of. -/
theorem Rep.adopt {c : Cx} {w0 : Bs} {w : World} {H : Hs} {b : Nat} {t : TypeId} {l : List V} {arr : Array Value} (h : Rep c w0 w H) (hz : H.next + 1 < 1000000000) (hl : V.ltL H.next l) (hn : l.length < 1000000000) (ha : arr.toList = V.denL c l) (hb : w.heap[b]? = some (.cells arr t (0, 0))) (hge : w0.w.heap.size ≤ b) (hf : ¬ footS c H b) :
    Rep (c.add H.next b 0) w0 w (H.new (packO t l)) := by
  obtain ⟨d, tr, hp, hg⟩ := packO_get (t := t) hn
  have hagr := c.add_agr H.next b 0
  rw [ltL_iff] at hl
  rw [hp]
  have hcell : ∀ j, j < l.length → (cellOf d tr j).lt H.next ∧ (V.denL c l)[j]? = some ((cellOf d tr j).den c) := fun j hj => by
    have := hg j hj
    exact ⟨hl _ (List.mem_of_getElem? this), by rw [denL_get, this]; rfl⟩
  have hsz : arr.size = l.length := by
    have := congrArg List.length ha
    rw [denL_len] at this
    simpa using this
  refine h.growG (o := .cells l.length t d tr) hagr (Bl.refl w) rfl hz rfl rfl (fun b o _ _ => ?_) (fun i hi => V.lt_mono (by omega) _ (hcell i hi).1) ⟨hn, arr, ?_, ⟨hsz, Cx.add_ω _ _ _ _⟩, fun i hi => ?_⟩ (fun k hk => ?_) fun k hk => ?_
  · cases o <;> exact Nat.le_refl _
  · rw [Cx.add_ρ]
    exact hb
  · have : arr[i]? = arr.toList[i]? := by simp
    rw [this, ha, (hcell i hi).2, V.agr hagr _ (hcell i hi).1]
  · have hk : k = (c.add H.next b 0).ρ H.next := hk
    rw [Cx.add_ρ] at hk
    subst hk
    exact .inr fun u ou hu hou hfo => absurd ⟨u, ou, hu, hou, hfo⟩ hf
  · have hk : k = (c.add H.next b 0).ρ H.next := hk
    rw [Cx.add_ρ] at hk
    subst hk
    exact .inl hge
theorem footS_new {c c' : Cx} {H : Hs} {o : O} {k : Nat} (hsz : H.next < 1000000000) (ha : Agr H.next c c') (h : footS c' (H.new o) k) : o.foot c' H.next k ∨ footS c H k := by
  obtain ⟨b, o', h1, h2, h3⟩ := h
  have h1 : b < H.next + 1 := h1
  have h2 : (H.tr.put H.next o).get b = some o' := h2
  rw [Tr.get_put _ _ hsz (by omega)] at h2
  split at h2
  · rename_i hb
    simp only [Option.some.injEq] at h2
    subst h2
    subst hb
    exact .inl h3
  · have hb : b < H.next := by omega
    exact .inr ⟨b, o', hb, h2, (O.foot_agr ha hb).1 h3⟩
def ancF (fl : Bool) (a : Nat) : Nat := match fl with
  | true => 0
  | false => a
theorem ancF_true {a : Nat} : ancF true a = 0 := rfl
theorem ancF_bit {fl : Bool} {a k : Nat} (h : a.testBit k = false) : (ancF fl a).testBit k = false := by
  cases fl
  · exact h
  · exact Nat.zero_testBit k
theorem opG_eq {fl : Bool} {L : List Oper} {an : List Nat} {k i : Nat} {o : Oper} : ∀ q : OpW, opG P N fl L an k i o q = (match Nat.beq k 0 with
    | true => .light i (loadB o) (gdOf L o) (ltV N o) q.f o.dst
    | false => match Nat.beq k 1 with
      | true => .heavy (ancF fl (an.getD i 0)) (gdOf L o) q.f o.dst
      | false => match layV P o with
        | some (t, l, mk) => .float t l mk o.dst
        | none => .bad)
  | .mk f => rfl
theorem tame_lay {o : Oper} (h : layV P o ≠ none) : tameB o = true := by
  unfold layV at h
  unfold tameB
  split at h
  · rename_i t ho; rw [ho]
  · rename_i t len parts ho; rw [ho]
  · exact absurd rfl h
theorem zero_bit (k : Nat) : (0 : Nat).testBit k = false := Nat.zero_testBit k
theorem ask_cases {c : Cx} {w0 : Bs} {w : World} {H : Hs} {E : Tr V} {e : Env} {ds : List Df} {L : List Oper} {o : Oper} {yes no : KV} {R : Cr} (hN : N ≤ 1000000000) (hr : Rep c w0 w H) (he : EnvOK c H.next E e) (hR : R ≠ .no) (h : askG N (gdOf L o) yes no E ds H = R) {A B : Prop}
    (hyes : ∀ E' H', Rep c w0 w H' → H'.next = H.next → EnvOK c H.next E' e → yes E' ds H' = R → A) (hno : ∀ E' H', Rep c w0 w H' → H'.next = H.next → EnvOK c H.next E' e → no E' ds H' = R → B) : (wantE L N o e = true ∧ A) ∨ (wantE L N o e = false ∧ B) :=
  guard_cases (A := fun _ => A) (B := fun _ => B) (askG_ok hN hr he hR h (A := fun _ => A) (B := fun _ => B) hyes hno)
theorem natsTo_lt : ∀ (m k i : Nat), i ∈ natsTo m k → i < k + m := by
  intro m
  induction m with
  | zero => intro k i h; cases h
  | succ m ih =>
    intro k i h
    rcases List.mem_cons.1 h with rfl | h
    · omega
    · have := ih _ _ h; omega
include hP hN
theorem drawG_walk {call : CallF} (hc : CallOK P call) {L : List Oper} {cl ord : List Nat} {fl rd : Bool} {rdn : Option Nat} {c0 : Cx} {n0 : Nat} {w0 : Bs} {ds' : List Deferred} {x : Ex} {E1 : Tr V} {ds1 : List Df} {H1 : Hs}
    (hcl : cl = clsL P fl L (ancsGo [] L) L 0) (hK : ChkOK L (ancsGo [] L) cl ord) (hrd : rdn.isSome = rd) :
    ∀ (n : Nat) (rest pre wl : List Nat) (xs : List XR) (c : Cx) (w : World) (H : Hs) (E : Tr V) (e0 : Env) (ds : List Df) (rs : List Rec) (rsV : List RcV),
      ord = pre ++ rest → (∀ j, j ∈ wl ↔ j ∈ pre ∨ j ∈ xs.map (·.i)) → (∀ y ∈ xs, y.i ∈ rest ∧ cl.getD y.i 1 = 2) → Closed L wl → (rem rest wl).length ≤ n → xs.Pairwise (fun a b => a.d ≠ b.d) → xs.Pairwise (fun a b => a.i ≠ b.i ∧ a.b ≠ b.b) →
      Agr n0 c0 c → n0 ≤ H.next → Rep c w0 w H → EnvOK c H.next E e0 → DsOK c H.next ds ds' → (∀ y ∈ xs, XOK P L (ancsGo [] L) c w0 w H y) → RecOK P N fl c H.next w rs rsV →
      drawG call N rd (pickG P N fl L (ancsGo [] L) cl rest) rsV E ds H = .mk x E1 ds1 H1 →
      walkD P N rdn L (ancsGo [] L) ds' (fun e w => PostE c0 n0 w0 x E1 ds1 H1 .normal e ds' w) (fun ch w => ∀ e, PostE c0 n0 w0 x E1 ds1 H1 (.panic ch) e ds' w) n wl rs (putX xs e0) w := by
  intro n
  induction n using Nat.strongRecOn with
  | _ n ihn =>
  intro rest
  induction rest with
  | nil =>
    intro pre wl xs c w H E e0 ds rs rsV hord hwl hxs hclo hrem hpd hpi hagr hn0 hr he hds hX hrec h
    have hxs0 : xs = [] := by
      cases xs with
      | nil => rfl
      | cons y ys => exact absurd (hxs y List.mem_cons_self).1 (by simp)
    subst hxs0
    have hall : allIn L wl = true := by
      unfold allIn
      rw [List.all_eq_true]
      intro j hj
      have hjl : j < L.length := by
        have := natsTo_lt _ _ _ hj
        simpa using this
      have := hK.cover j hjl
      rw [hord, List.append_nil] at this
      exact mem_elem.2 ((hwl j).2 (.inl this))
    have h : Cr.mk .normal E ds H = .mk x E1 ds1 H1 := h
    have hk : PostE c0 n0 w0 .normal E ds H .normal e0 ds' w := ⟨c, hagr, hn0, hr, he, hds, trivial⟩
    simp only [Cr.mk.injEq] at h
    obtain ⟨rfl, rfl, rfl, rfl⟩ := h
    cases n with
    | zero => exact ⟨hall, hk⟩
    | succ n => exact .inl ⟨hall, hk⟩
  | cons i r' ihr =>
    intro pre wl xs c w H E e0 ds rs rsV hord hwl hxs hclo hrem hpd hpi hagr hn0 hr he hds hX hrec h
    have hP' := hK.pairs
    rw [hord] at hP'
    rw [List.pairwise_append, List.pairwise_cons] at hP'
    obtain ⟨hp1, ⟨hp2, hp3⟩, hp4⟩ := hP'
    have hin : ∀ j ∈ i :: r', j < L.length := fun j hj => hK.lt j (by rw [hord]; exact List.mem_append.2 (.inr hj))
    obtain ⟨o, ho⟩ : ∃ o, L[i]? = some o := ⟨L[i]'(hin i List.mem_cons_self), List.getElem?_eq_getElem _⟩
    have h0 := h
    have h : drawG call N rd ((match L[i]? with
      | some o => (match dOK o.dst && !(isDefer o.op) with | true => opG P N fl L (ancsGo [] L) (cl.getD i 1) i o (decO P N o) | false => .bad)
      | none => .bad) :: pickG P N fl L (ancsGo [] L) cl r') rsV E ds H = .mk x E1 ds1 H1 := h
    rw [ho] at h
    simp only at h
    cases hdd : (dOK o.dst && !(isDefer o.op)) with
    | false => rw [hdd] at h; cases h
    | true =>
    rw [hdd] at h
    simp only at h
    rw [Bool.and_eq_true, Bool.not_eq_true'] at hdd
    obtain ⟨hdst, hdef⟩ := hdd
    have hdst := dOK_ok hdst
    have hnd : ∀ k, o.op ≠ .defer k := fun k hk => by rw [hk] at hdef; cases hdef
    rw [opG_eq] at h
    have hmemw : ∀ {m j : Nat}, j ∈ wl ++ [m] ↔ j ∈ wl ∨ j = m := fun {m j} => by simp
    by_cases hiw : i ∈ wl
    · -- laid early
      obtain ⟨y, hy, hyi⟩ : ∃ y ∈ xs, y.i = i := by
        rcases (hwl i).1 hiw with g | g
        · exact absurd rfl (pairW_ok (hp4 i g i List.mem_cons_self)).1
        · obtain ⟨y, hy, rfl⟩ := List.mem_map.1 g
          exact ⟨y, hy, rfl⟩
      have hcl2 : cl.getD i 1 = 2 := hyi ▸ (hxs y hy).2
      obtain ⟨A, B, hAB, hput⟩ := putX_out (e := e0) hy hpd
      have hXy := hX y hy
      obtain ⟨oy, hfl⟩ := hXy.fl
      rw [hyi] at hfl
      have : oy = o := by have := hfl.op; rw [ho] at this; exact (Option.some.inj this).symm
      subst this
      rw [hcl2] at h
      simp only [hfl.lay, show Nat.beq 2 0 = false from rfl, show Nat.beq 2 1 = false from rfl] at h
      have h : floatG y.t y.l y.mkv oy.dst (drawG call N rd (pickG P N fl L (ancsGo [] L) cl r')) rsV E ds H = .mk x E1 ds1 H1 := h
      unfold floatG at h
      split at h <;> first | (cases h; done) | skip
      rename_i hroom
      have hz : H.next + 1 < 1000000000 := by
        unfold roomB at hroom
        rw [Nat.ble_eq] at hroom
        omega
      have hc' := c.add_agr H.next y.b 0
      have hr' := hr.adopt (b := y.b) (t := y.t) (l := y.l) (arr := y.arr) hz (hXy.lt.1 _) hXy.lt.2 (hXy.arr c) hXy.cells hXy.ge hXy.free
      have hval := hXy.val (c.add H.next y.b 0) H.next (c.add_ρ _ _ _) (c.add_ω _ _ _)
      have hdy : y.d < 1000000000 := hdst _ hfl.dst
      rw [hput]
      have hsub : ∀ z, z ∈ A ++ B → z ∈ xs := fun z hz => by
        rw [hAB]
        rcases List.mem_append.1 hz with g | g
        · exact List.mem_append.2 (.inl g)
        · exact List.mem_append.2 (.inr (List.mem_cons_of_mem _ g))
      have hsl : (A ++ B).Sublist xs := by
        rw [hAB]
        exact List.Sublist.append (List.Sublist.refl _) (List.sublist_cons_self _ _)
      have hney : ∀ z, z ∈ A ++ B → z.i ≠ y.i ∧ z.b ≠ y.b := fun z hz => by
        have hpi' := hpi
        rw [hAB, List.pairwise_append, List.pairwise_cons] at hpi'
        obtain ⟨q1, ⟨q2, q3⟩, q4⟩ := hpi'
        rcases List.mem_append.1 hz with g | g
        · exact q4 z g y List.mem_cons_self
        · have := q2 z g
          exact ⟨fun e => this.1 e.symm, fun e => this.2 e.symm⟩
      rw [hfl.dst] at h
      refine ihr (pre ++ [i]) wl (A ++ B) _ w _ _ _ ds rs rsV (by rw [hord]; simp) (fun j => ?_) (fun z hz => ?_) hclo (Nat.le_trans rem_cons hrem) (hpd.sublist hsl) (hpi.sublist hsl) (hagr.trans hc' hn0) (Nat.le_succ_of_le hn0) hr' ?_ (hds.agr hc' (Nat.le_succ _)) (fun z hz => ?_) (hrec.agr hc' (Nat.le_succ _)) h
      · rw [hwl j, hAB]
        simp only [List.map_append, List.map_cons, List.mem_append, List.mem_cons, List.not_mem_nil, or_false, hyi]
        constructor
        · rintro (g | g | g | g)
          · exact .inl (.inl g)
          · exact .inr (.inl g)
          · exact .inl (.inr g)
          · exact .inr (.inr g)
        · rintro ((g | g) | g | g)
          · exact .inl g
          · exact .inr (.inr (.inl g))
          · exact .inr (.inl g)
          · exact .inr (.inr (.inr g))
      · obtain ⟨g1, g2⟩ := hxs z (hsub z hz)
        refine ⟨?_, g2⟩
        rcases List.mem_cons.1 g1 with g | g
        · exact absurd (g.trans hyi.symm) (hney z hz).1
        · exact g
      · have := (he.agr hc' (Nat.le_succ H.next)).put (d := y.d) (v := y.mkv H.next) hdy (hXy.mklt _ _ (Nat.lt_succ_self _))
        rw [hval] at this
        exact this
      · have hz' := hX z (hsub z hz)
        refine ⟨hz'.fl, hz'.val, hz'.mklt, hz'.cells, hz'.arr, hz'.lt, hz'.ge, fun hf => ?_⟩
        rcases footS_new (by omega) hc' hf with g | g
        · obtain ⟨d, tr, hp, _⟩ := packO_get (t := y.t) hXy.lt.2
          rw [hp] at g
          have g : z.b = (c.add H.next y.b 0).ρ H.next := g
          rw [c.add_ρ] at g
          exact (hney z hz).2 g
        · exact hz'.free g
    · -- now
      have hn1 : 0 < n := by
        have := rem_out (rest := i :: r') List.mem_cons_self hiw
        omega
      obtain ⟨m, rfl⟩ : ∃ m, n = m + 1 := ⟨n - 1, by omega⟩
      have hprew : ∀ j, j ∈ pre → j ∈ wl := fun j hj => (hwl j).2 (.inl hj)
      have hpi_ : ∀ y ∈ xs, y.i ∈ r' := fun y hy => by
        rcases List.mem_cons.1 (hxs y hy).1 with g | g
        · exact absurd ((hwl i).2 (.inr (List.mem_map.2 ⟨y, hy, g⟩))) hiw
        · exact g
      have hap : ∀ y ∈ xs, y.d ∉ looksL L o ∧ o.dst ≠ some y.d := fun y hy => by
        obtain ⟨oy, hfl⟩ := (hX y hy).fl
        obtain ⟨_, _, g⟩ := pairW_ok (hp2 _ (hpi_ y hy))
        rw [hfl.anc] at g
        rcases g with g | ⟨_, x1, y1, hx1, hy1, g⟩
        · rw [zero_bit] at g; cases g
        · rw [ho] at hx1
          cases hx1
          rw [hfl.op] at hy1
          cases hy1
          obtain ⟨a1, a2, a3⟩ := apart_spec g
          exact ⟨a3 _ hfl.dst, fun e => a2 _ e hfl.dst⟩
      have hlook : ∀ t ∈ looksL L o, putX xs e0 t = e0 t := fun t ht => putX_get fun y hy e => (hap y hy).1 (e ▸ ht)
      have hops : ∀ q ∈ o.op.operands, rdv N (putX xs e0) q = rdv N e0 q := fun q hq => rdv_of_slot fun t ht => hlook t (look_operand hq ht)
      have hwant : wantE L N o (putX xs e0) = wantE L N o e0 := want_of_slots hlook
      have hputd : ∀ v, put (putX xs e0) o.dst v = putX xs (put e0 o.dst v) := fun v => putX_put fun y hy => (hap y hy).2
      have hfloat : ∀ k, k ∈ i :: r' → cl.getD k 1 = 2 → fl = true ∧ ∃ ok t l mk d, FlOK P L (ancsGo [] L) k ok t l mk d := fun k hk h2 => by
        have hk' : L[k]? = some (L[k]'(hin k hk)) := List.getElem?_eq_getElem _
        rw [hcl] at h2
        obtain ⟨g1, t, l, mk, d, g2⟩ := float_of hk' h2
        exact ⟨g1, _, t, l, mk, d, g2⟩
      have hrr : ∀ k, k ∈ i :: r' → k ∉ wl → (wl.all fun j => rrB P L (ancsGo [] L) j k) = true := fun k hk hkw => by
        rw [List.all_eq_true]
        intro j hj
        rcases (hwl j).1 hj with g | g
        · obtain ⟨g1, g2, g3⟩ := pairW_ok (hp4 j g k hk)
          exact rrB_mk g1 g2 (g3.imp id fun ⟨_, x1, y1, hx1, hy1, q⟩ => ⟨x1, y1, hx1, hy1, .inr q⟩)
        · obtain ⟨y, hy, rfl⟩ := List.mem_map.1 g
          obtain ⟨oy, hfl⟩ := (hX y hy).fl
          refine rrB_mk (fun e => hkw (e ▸ hj)) (by rw [hfl.anc]; exact zero_bit _) (.inr ⟨oy, L[k]'(hin k hk), hfl.op, List.getElem?_eq_getElem _, .inl ⟨hfl.heavy, hfl.guard⟩⟩)
      have hwli : ∀ j, j ∈ wl ++ [i] ↔ j ∈ pre ++ [i] ∨ j ∈ xs.map (·.i) := fun j => by
        rw [hmemw, hwl j]
        simp only [List.mem_append, List.mem_singleton]
        constructor
        · rintro ((g | g) | g)
          · exact .inl (.inl g)
          · exact .inr g
          · exact .inl (.inr g)
        · rintro ((g | g) | g)
          · exact .inl (.inl g)
          · exact .inr g
          · exact .inl (.inr g)
      have hremi : (rem r' (wl ++ [i])).length ≤ m := by
        have h1 := rem_out (rest := i :: r') List.mem_cons_self hiw
        have h2 := rem_cons (i := i) (rest := r') (wl := wl ++ [i])
        omega
      have hordi : ord = (pre ++ [i]) ++ r' := by rw [hord]; simp
      have hclok : ∀ k ok, L[k]? = some ok → (∀ ed ∈ ok.after.toList, bindsAny ed = true → ed.on ∈ wl) → Closed L (wl ++ [k]) := fun k ok hok hed j oj hj hoj ed hed' hb => by
        rcases hmemw.1 hj with g | g
        · exact hmemw.2 (.inl (hclo j oj g hoj ed hed' hb))
        · subst g
          rw [hok] at hoj
          cases hoj
          exact hmemw.2 (.inl (hed ed hed' hb))
      have hxs' : ∀ y ∈ xs, y.i ∈ r' ∧ cl.getD y.i 1 = 2 := fun y hy => ⟨hpi_ y hy, (hxs y hy).2⟩
      have hskip : ∀ (E' : Tr V) (H' : Hs), (∀ ed ∈ o.after.toList, bindsAny ed = true → ed.on ∈ wl) → Rep c (Bs.at_ c H w) w H' → H'.next = H.next → EnvOK c H.next E' e0 → skV o.dst (drawG call N rd (pickG P N fl L (ancsGo [] L) cl r') rsV) E' ds H' = .mk x E1 ds1 H1 →
          walkD P N rdn L (ancsGo [] L) ds' (fun e w => PostE c0 n0 w0 x E1 ds1 H1 .normal e ds' w) (fun ch w => ∀ e, PostE c0 n0 w0 x E1 ds1 H1 (.panic ch) e ds' w) m (wl ++ [i]) rs (put (putX xs e0) o.dst undef) w := fun E' H' hed r1 r2 r3 hs => by
        rw [hputd]
        unfold skV at hs
        refine ihn m (Nat.lt_succ_self _) r' (pre ++ [i]) (wl ++ [i]) xs c w H' _ _ ds rs rsV hordi hwli hxs' (hclok i o ho hed) hremi hpd hpi hagr (by rw [r2]; exact hn0) (hr.back r1) ?_ (by rw [r2]; exact hds) (fun y hy => (hX y hy).step hr r1) (by rw [r2]; exact hrec) hs
        rw [r2, ← und_den c]
        exact r3.setD hdst trivial
      cases hlt : lightB P o with
      | true =>
        have hcl0 : cl.getD i 1 = 0 := by rw [hcl]; exact (light_of ho).2 hlt
        have hed : ∀ ed ∈ o.after.toList, bindsAny ed = true → ed.on ∈ wl := fun ed hed hb => by
          have hlt' := edges_of _ hK.edges i (hin i List.mem_cons_self) o ho ed hed hb
          have hbit := anc_edge ho hed hb
          have := hK.cover ed.on (Nat.lt_trans hlt' (hin i List.mem_cons_self))
          rw [hord] at this
          rcases List.mem_append.1 this with g | g
          · exact hprew _ g
          · rcases List.mem_cons.1 g with g | g
            · omega
            · have := (pairW_ok (hp2 _ g)).2.1
              rw [hbit] at this
              cases this
        have hrdy : readyB L wl i = true := ready_mk hiw ho hed
        refine .inr (.inl ⟨i, o, ho, hrdy, hlt, hrr i List.mem_cons_self hiw, ?_⟩)
        rw [hcl0] at h
        simp only [show Nat.beq 0 0 = true from rfl] at h
        have h : askG N (gdOf L o) (lightG call i (loadB o) (ltV N o) (decO P N o).f o.dst (drawG call N rd (pickG P N fl L (ancsGo [] L) cl r')) rsV) (skV o.dst (drawG call N rd (pickG P N fl L (ancsGo [] L) cl r') rsV)) E ds H = .mk x E1 ds1 H1 := h
        rw [hwant]
        refine ask_cases hN hr.rebase he (by simp) h (fun E' H' r1 r2 r3 hd => ?_) (fun E' H' r1 r2 r3 hs => hskip E' H' hed r1 r2 r3 hs)
        · unfold lightG at hd
          split at hd <;> first | (cases hd; done) | skip
          rename_i hlt1
          split at hd <;> first | (cases hd; done) | skip
          rename_i v H2 hf
          have hOL := decO_light hP hN o hlt
          have r3' : EnvOK c H'.next E' e0 := by rw [r2]; exact r3
          have hL1 := hOL call c _ w H' E' e0 r1 r3'
          rw [hf] at hL1
          obtain ⟨k1, k2, k3, k4⟩ := hL1
          refine ⟨by rw [lightE_congr hops]; exact ltV_ok hN r3 hlt1, ?_⟩
          rw [opA_congr hops]
          refine k4 ds' _ ?_
          rw [hputd]
          have hn2 : H2.next = H.next := k2.trans r2
          have hrec2 : ∀ rsV', (∀ y ∈ rsV, y ∈ rsV') → (loadB o = true → (⟨i, (decO P N o).f, E', v⟩ : RcV) ∈ rsV') → RecOK P N fl c H2.next w (rs ++ [⟨i, o, putX xs e0, v.den c⟩]) rsV' := fun rsV' hsub hnew => by
            rw [hn2]
            refine ⟨fun hfl r hr' hl w' hb ds'' K hKr => ?_, fun r hr' hl => ?_⟩
            · rcases List.mem_append.1 hr' with g | g
              · exact hrec.stable hfl r g hl w' hb ds'' K hKr
              · simp only [List.mem_singleton] at g
                subst g
                have hL2 := hOL call c _ w' H' E' e0 (r1.world hb) r3'
                rw [hf] at hL2
                simp only
                rw [opA_congr hops]
                exact hL2.2.2.2 ds'' K hKr
            · rcases List.mem_append.1 hr' with g | g
              · obtain ⟨y, q1, q2⟩ := hrec.tie r g hl
                exact ⟨y, hsub y q1, q2⟩
              · simp only [List.mem_singleton] at g
                subst g
                exact ⟨_, hnew hl, rfl, hOL, rfl, by rw [r2] at k3; exact k3, e0, r3, hops⟩
          have hgo : ∀ rsV', (∀ y ∈ rsV, y ∈ rsV') → (loadB o = true → (⟨i, (decO P N o).f, E', v⟩ : RcV) ∈ rsV') → drawG call N rd (pickG P N fl L (ancsGo [] L) cl r') rsV' (setD E' o.dst v) ds H2 = .mk x E1 ds1 H1 →
              walkD P N rdn L (ancsGo [] L) ds' (fun e w => PostE c0 n0 w0 x E1 ds1 H1 .normal e ds' w) (fun ch w => ∀ e, PostE c0 n0 w0 x E1 ds1 H1 (.panic ch) e ds' w) m (wl ++ [i]) (rs ++ [⟨i, o, putX xs e0, v.den c⟩]) (putX xs (put e0 o.dst (v.den c))) w := fun rsV' q1 q2 q3 =>
            ihn m (Nat.lt_succ_self _) r' (pre ++ [i]) (wl ++ [i]) xs c w H2 _ _ ds _ rsV' hordi hwli hxs' (hclok i o ho hed) hremi hpd hpi hagr (by rw [hn2]; exact hn0) (hr.back k1) (by rw [hn2]; exact r3.setD hdst (by rw [r2] at k3; exact k3)) (by rw [hn2]; exact hds) (fun y hy => (hX y hy).step hr k1) (hrec2 rsV' q1 q2) q3
          cases hlo : loadB o with
          | true =>
            rw [hlo] at hd
            exact hgo (⟨i, (decO P N o).f, E', v⟩ :: rsV) (fun y hy => List.mem_cons_of_mem _ hy) (fun _ => List.mem_cons_self) hd
          | false =>
            rw [hlo] at hd
            exact hgo rsV (fun y hy => hy) (fun q => by rw [hlo] at q; cases q) hd
      | false =>
        refine .inr (.inr ⟨allIn_no hiw (hin i List.mem_cons_self), fun k hk => ?_⟩)
        obtain ⟨hkw, ok, hok, hked⟩ := ready_of hk
        have hkl : k < L.length := (List.getElem?_eq_some_iff.1 hok).1
        have hkm : k ∈ i :: r' := by
          have := hK.cover k hkl
          rw [hord] at this
          rcases List.mem_append.1 this with g | g
          · exact absurd (hprew _ g) hkw
          · exact g
        refine ⟨ok, hok, hrr k hkm hkw, ?_⟩
        by_cases h2 : cl.getD k 1 = 2
        · -- it floats
          obtain ⟨hflt, ok', t, l, mk, d, hfl⟩ := hfloat k hkm h2
          have : ok' = ok := by have := hfl.op; rw [hok] at this; exact (Option.some.inj this).symm
          subst this
          refine .inl ⟨by simp [wantE, hfl.guard], ?_⟩
          obtain ⟨arr, a1, a2, a3, a4, val, a5, a6⟩ := lay_ok (N := N) hP hfl
          refine opR_A (tame_lay (by rw [hfl.lay]; simp)) (a6 _ _ _ _ ?_)
          have hb : Bl w (w.alloc (.cells arr t)) := (Bl.refl w).alloc _
          refine obls_of rs ?_ fun r hr' hl _ => hrec.stable hflt r hr' hl _ hb ds' (fun u _ _ => u = r.v) rfl
          rw [hfl.dst]
          have hbl : ∀ y ∈ xs, y.b < w.heap.size := fun y hy => by
            by_cases hb : y.b < w.heap.size
            · exact hb
            · have := (hX y hy).cells
              rw [Array.getElem?_eq_none (Nat.le_of_not_lt hb)] at this
              cases this
          refine ihn m (Nat.lt_succ_self _) (i :: r') pre (wl ++ [k]) (⟨k, d, w.heap.size, val w.heap.size, t, l, mk, arr⟩ :: xs) c (w.alloc (.cells arr t)) H E e0 ds rs rsV hord (fun j => ?_) (fun y hy => ?_) (hclok k ok' hok hked) ?_ (List.pairwise_cons.2 ⟨fun y hy => ?_, hpd⟩) (List.pairwise_cons.2 ⟨fun y hy => ⟨fun e => hkw ((hwl k).2 (.inr (List.mem_map.2 ⟨y, hy, Eq.symm e⟩))), fun e => ?_⟩, hpi⟩) hagr hn0 (hr.world hb) he hds (fun y hy => ?_) ⟨fun hf r hr' hl w' hb' => hrec.stable hf r hr' hl w' (hb.trans hb'), hrec.tie⟩ h0
          · rw [hmemw, hwl j]
            simp only [List.map_cons, List.mem_cons]
            constructor
            · rintro ((g | g) | g)
              · exact .inl g
              · exact .inr (.inr g)
              · exact .inr (.inl g)
            · rintro (g | g | g)
              · exact .inl (.inl g)
              · exact .inr g
              · exact .inl (.inr g)
          · rcases List.mem_cons.1 hy with g | g
            · subst g
              exact ⟨hkm, h2⟩
            · exact hxs y g
          · have := rem_out hkm hkw
            omega
          · obtain ⟨oy, hfy⟩ := (hX y hy).fl
            have hne : k ≠ y.i := fun e => hkw ((hwl k).2 (.inr (List.mem_map.2 ⟨y, hy, e.symm⟩)))
            have hap' : apartL L ok' oy = true ∨ apartL L oy ok' = true := by
              rcases pw_or (List.pairwise_cons.2 ⟨hp2, hp3⟩) hkm (hxs y hy).1 hne with g | g
              · obtain ⟨_, _, g3⟩ := pairW_ok g
                rw [hfy.anc, zero_bit] at g3
                rcases g3 with g3 | ⟨_, x1, y1, hx1, hy1, g3⟩
                · cases g3
                · rw [hok] at hx1; cases hx1
                  rw [hfy.op] at hy1; cases hy1
                  exact .inl g3
              · obtain ⟨_, _, g3⟩ := pairW_ok g
                rw [hfl.anc, zero_bit] at g3
                rcases g3 with g3 | ⟨_, x1, y1, hx1, hy1, g3⟩
                · cases g3
                · rw [hfy.op] at hx1; cases hx1
                  rw [hok] at hy1; cases hy1
                  exact .inr g3
            intro e
            rcases hap' with g | g
            · exact (apart_spec g).2.1 d hfl.dst (by rw [hfy.dst]; exact congrArg some (Eq.symm e))
            · exact (apart_spec g).2.1 d (by rw [hfy.dst]; exact congrArg some (Eq.symm e)) hfl.dst
          · have := hbl y hy
            have e : w.heap.size = y.b := e
            omega
          · rcases List.mem_cons.1 hy with g | g
            · subst g
              refine ⟨⟨ok', hfl⟩, fun c n h1 h2 => a5 c n _ h1 h2, a4, ?_, a1, ⟨a2, a3⟩, hr.bl.size, ?_⟩
              · exact Array.getElem?_push_size ..
              · rintro ⟨b, o', q1, q2, q3⟩
                have := (hr.at_ b o' q1 q2).foot_lt q3
                exact absurd this (Nat.lt_irrefl _)
            · exact (hX y g).world hb
        · have hki : k = i := by
            rcases List.mem_cons.1 hkm with g | g
            · exact g
            · exfalso
              obtain ⟨_, _, g3⟩ := pairW_ok (hp2 _ g)
              rcases g3 with g3 | ⟨g3, _⟩
              · refine hiw (closed_anc hclo (fun j hj => ?_) hok hked g3)
                rcases (hwl j).1 hj with q | q
                · exact hK.lt j (by rw [hord]; exact List.mem_append.2 (.inl q))
                · obtain ⟨y, hy, rfl⟩ := List.mem_map.1 q
                  exact hin _ (hxs y hy).1
              · rcases g3 with g3 | g3
                · rw [hcl] at g3
                  have := (light_of ho).1 g3
                  rw [hlt] at this
                  cases this
                · exact h2 g3
          subst hki
          have : ok = o := by rw [ho] at hok; exact (Option.some.inj hok).symm
          subst this
          have hcl1 : cl.getD k 1 = 1 := by
            have h2' := h2
            rw [hcl, cls_get L 0 k ok hok] at h2' ⊢
            rw [hlt] at h2' ⊢
            simp only at h2' ⊢
            split
            · rename_i hf; rw [hf] at h2'; exact absurd rfl h2'
            · rfl
          rw [hcl1] at h
          simp only [show Nat.beq 1 0 = false from rfl, show Nat.beq 1 1 = true from rfl] at h
          have h : askG N (gdOf L ok) (heavyG call rd (ancF fl ((ancsGo [] L).getD k 0)) (decO P N ok).f ok.dst (drawG call N rd (pickG P N fl L (ancsGo [] L) cl r')) rsV) (skV ok.dst (drawG call N rd (pickG P N fl L (ancsGo [] L) cl r') rsV)) E ds H = .mk x E1 ds1 H1 := h
          rw [hwant]
          refine ask_cases hN hr.rebase he (by simp) h (fun E' H' r1 r2 r3 hd => ?_) (fun E' H' r1 r2 r3 hs => hskip E' H' hked r1 r2 r3 hs)
          rw [opR_congr hops]
          refine opR_of hnd ?_
          have hop := decO_ok hP hN ok
          have r3' : EnvOK c H'.next E' e0 := by rw [r2]; exact r3
          unfold heavyG at hd
          split at hd
          · rename_i v H2 hf
            split at hd <;> first | (cases hd; done) | skip
            rename_i hob
            refine hop.ok call hc c _ w H' E' e0 r1 r3' v H2 hf ds' _ _ fun c' w' b1 b2 b3 b4 => ?_
            rw [r2] at b1 b2
            have hre : ∀ r ∈ rs, loadB r.o = true → (ancF fl ((ancsGo [] L).getD k 0)).testBit r.i = false → ∀ w'', Bl w' w'' → ∀ (ds : List Deferred) (K : Value → List Deferred → World → Prop), K r.v ds w'' → opA P N r.o r.e ds w'' K := fun r hr' hl hbit w'' hb ds K hKr => by
              obtain ⟨y, q1, q2, q3, q4, q5, e0', q6, q7⟩ := hrec.tie r hr' hl
              obtain ⟨H3, hf3⟩ := oblV_ok hob y q1 (by rw [q2]; exact hbit)
              have hL := q3 call c' _ w'' H2 y.E e0' (b3.world hb) (q6.agr b1 b2)
              rw [hf3] at hL
              rw [opA_congr q7]
              refine hL.2.2.2 ds K ?_
              rw [V.agr b1 _ q5, ← q4]
              exact hKr
            refine obls_of rs ?_ fun r hr' hl hbit => hre r hr' hl (ancF_bit hbit) w' (Bl.refl _) _ _ rfl
            rw [hputd]
            refine ihn m (Nat.lt_succ_self _) r' (pre ++ [k]) (wl ++ [k]) xs c' w' H2 _ _ ds rs rsV hordi hwli hxs' (hclok k ok hok hked) hremi hpd hpi (hagr.trans b1 hn0) (Nat.le_trans hn0 b2) (hr.back b3) ?_ (hds.agr b1 b2) (fun y hy => (hX y hy).step hr b3) ⟨fun hflt r hr' hl w'' hb ds K hKr => hre r hr' hl (by rw [hflt, ancF_true]; exact zero_bit _) w'' hb ds K hKr, (hrec.agr b1 b2).tie⟩ hd
            exact (r3.agr b1 b2).setD hdst b4
          · rename_i v H2 hf
            cases rd with
            | true => cases hd
            | false =>
              have hd : Cr.mk (.panu v) E' ds H2 = .mk x E1 ds1 H1 := hd
              simp only [Cr.mk.injEq] at hd
              obtain ⟨rfl, rfl, rfl, rfl⟩ := hd
              cases rdn with
              | some l => cases hrd
              | none =>
                refine hop.pan call hc c _ w H' E' e0 r1 r3' v H2 hf ds' _ _ fun c' w' b1 b2 b3 b4 => ?_
                rw [r2] at b1 b2
                exact fun e => ⟨c', hagr.trans b1 hn0, Nat.le_trans hn0 b2, hr.back b3, trivial, hds.agr b1 b2, b4, rfl⟩
          · cases hd
end
end Go.Proofs.YtcanicgpkbhhdaaGreatDoor.Rn

namespace Go.Proofs.YtcanicgpkbhhdaaGreatDoor.Rn
open Go Go.RowKit Go.Proofs.YtcanicgpkbhhdaaGreatDoor.Sh
set_option linter.unusedVariables false
set_option linter.unusedSimpArgs false
/-- Where a frame stands. -/
def StE (N : Nat) (c0 : Cx) (n0 : Nat) (w0 : Bs) (E : Tr V) (ds : List Df) (H : Hs) (a : Act) (w : World) : Prop :=
  ∃ c e ds', Agr n0 c0 c ∧ n0 ≤ H.next ∧ Rep c w0 w H ∧ EnvOK c H.next E e ∧ DsOK c H.next ds ds' ∧ Rel N e ds' a
theorem StE.post {N : Nat} {c0 : Cx} {n0 : Nat} {w0 : Bs} {E : Tr V} {ds : List Df} {H : Hs} {a : Act} {w : World} (h : StE N c0 n0 w0 E ds H a w) {x : Ex} {ex : Exit} (hx : ∀ v, x ≠ .panu v) (ho : ∀ c n, ExOK c n x ex) : lift N (PostE c0 n0 w0 x E ds H) ex a w := by
  obtain ⟨c, e, ds', h1, h2, h3, h4, h5, h6⟩ := h
  refine ⟨e, ds', h6, c, h1, h2, h3, ?_, h5, ho _ _⟩
  cases x <;> first | exact h4 | exact absurd rfl (hx _)
/-- Where a statement leads, that ends so: what is so of the exit; the frame. -/
theorem post_st {N : Nat} {c0 : Cx} {n0 : Nat} {w0 : Bs} {x : Ex} {E : Tr V} {ds : List Df} {H : Hs} {ex : Exit} {a : Act} {w : World} (h : lift N (PostE c0 n0 w0 x E ds H) ex a w) (hx : ∀ v, x ≠ .panu v) : (∃ c, ExOK c H.next x ex) ∧ StE N c0 n0 w0 E ds H a w := by
  obtain ⟨e, ds', h6, c, h1, h2, h3, h4, h5, h7⟩ := h
  refine ⟨⟨c, h7⟩, c, e, ds', h1, h2, h3, ?_, h5, h6⟩
  cases x <;> first | exact h4 | exact absurd rfl (hx _)
theorem exok_normal {c : Cx} {n : Nat} {ex : Exit} (h : ExOK c n .normal ex) : ex = .normal := by cases ex <;> first | rfl | exact h.elim
theorem exok_not {c : Cx} {n : Nat} {x : Ex} (h : ExOK c n x .normal) : x = .normal := by cases x <;> first | rfl | exact h.elim
theorem exok_exit {c : Cx} {n i : Nat} {ex : Exit} (h : ExOK c n (.exit i) ex) : ex = .exit i := by
  cases ex <;> first | exact h.elim | (rename_i j; have h : i = j := h; rw [h])
theorem exok_goto {c : Cx} {n i : Nat} {ex : Exit} (h : ExOK c n (.goto i) ex) : ex = .goto i := by
  cases ex <;> first | exact h.elim | (rename_i j; have h : i = j := h; rw [h])
theorem exok_ret {c : Cx} {n : Nat} {ex : Exit} (h : ExOK c n .ret ex) : ex = .ret := by cases ex <;> first | rfl | exact h.elim
/-- A record of a range over a function. -/
def Cx.addL (c : Cx) (n r : Nat) (L : Loop) : Cx := { c.add n r 0 with lp := fun b => if b = n then L else c.lp b }
theorem Cx.addL_agr (c : Cx) (n r : Nat) (L : Loop) : Agr n c (c.addL n r L) :=
  ⟨(c.add_agr n r 0).ρ, (c.add_agr n r 0).ω, (c.add_agr n r 0).κ, rfl, rfl, rfl, fun _ _ => rfl, fun _ _ => rfl, fun b hb => by simp only [Cx.addL]; rw [if_neg (by omega)]⟩
theorem Cx.addL_ρ (c : Cx) (n r : Nat) (L : Loop) : (c.addL n r L).ρ n = r := c.add_ρ n r 0
theorem Cx.addL_lp (c : Cx) (n r : Nat) (L : Loop) : (c.addL n r L).lp n = L := by simp [Cx.addL]
theorem ext_put {w : World} {b : Nat} {o : Obj} : Ext (· = b) w (w.putObj b o) :=
  ⟨rfl, rfl, rfl, by simp [World.putObj], fun k hk hb => World.putObj_heap_other hb⟩
theorem heap_lt {w : World} {b : Nat} {o : Obj} (h : w.heap[b]? = some o) : b < w.heap.size := by
  by_cases hb : b < w.heap.size
  · exact hb
  · rw [Array.getElem?_eq_none (Nat.le_of_not_lt hb)] at h
    cases h
theorem Rep.newO {c c' : Cx} {w0 : Bs} {w : World} {H : Hs} {o : O} {ob : Obj} (h : Rep c w0 w H) (ha : Agr H.next c c') (hz : H.next + 1 < 1000000000) (hl : o.lt (H.next + 1)) (hf : o.fam = none) (hρ : c'.ρ H.next = w.heap.size) (hat : o.at_ c' (w.alloc ob) 0 H.next) (hft : ∀ k, o.foot c' H.next k → k = c'.ρ H.next) : Rep c' w0 (w.alloc ob) (H.new o) := by
  refine h.grow1 (o := o) ha ((Bl.refl w).alloc _) rfl hz rfl rfl (fun b o _ _ => by cases o <;> exact Nat.le_refl _) hl ?_ (fun k hk => by rw [hft k hk, hρ]; exact Nat.le_refl _) fun _ => by rw [hρ]; exact Nat.le_refl _
  have : (H.new o).valO H.next o = 0 := by cases o <;> first | rfl | cases hf
  rw [this]
  exact hat
theorem Rep.drop {c : Cx} {w0 : Bs} {w : World} {H : Hs} {b : Nat} {o : O} {ob : Obj} (h : Rep c w0 w H) (hb : b < H.next) (ho : H.get b = some o) (hw : o.own) (hf : o.fam = none) : Rep c w0 (w.putObj (c.ρ b) ob) (H.put b .gone) :=
  h.chg1 (o' := .gone) hb ho hw hf ext_put (.inr rfl) trivial trivial
section
variable {P : Program} {N : Nat} (hP : PV P) (hN : N ≤ 1000000000)
include hP hN
/-- A region that draws its order. -/
theorem drawn_ok {call : CallF} (hc : CallOK P call) {lf : Nat} {id : Nat} {ops : Array Oper} {rd : Option Nat} {n : Nat} {c0 : Cx} {n0 : Nat} {w0 : Bs} {x : Ex} {E1 : Tr V} {ds1 : List Df} {H1 : Hs} {E : Tr V} {ds : List Df} {H : Hs} {a : Act} {w : World}
    (hs : StE N c0 n0 w0 E ds H a w) (h : exC call N lf rd.isSome (decR P N ops.toList true) E ds H = .mk x E1 ds1 H1) : (Code.region id ops true).wpIn (FW rd) n P (lift N (PostE c0 n0 w0 x E1 ds1 H1)) a w := by
  unfold decR at h
  simp only at h
  cases hm : P.follows .mixedOrders with
  | false => rw [hm] at h; cases h
  | true =>
    rw [hm] at h
    simp only at h
    refine wpIn_region_any hm ?_
    obtain ⟨c, e, ds', h1, h2, h3, h4, h5, h6⟩ := hs
    have go : ∀ (fl : Bool) (ord : List Nat), chkW ops.toList (ancsGo [] ops.toList) (clsL P fl ops.toList (ancsGo [] ops.toList) ops.toList 0) ord = true →
        drawG call N rd.isSome (pickG P N fl ops.toList (ancsGo [] ops.toList) (clsL P fl ops.toList (ancsGo [] ops.toList) ops.toList 0) ord) [] E ds H = .mk x E1 ds1 H1 →
        wpAnyIn (FW rd) n P .any ops (lift N (PostE c0 n0 w0 x E1 ds1 H1)) ops.size (Array.replicate ops.size false) a { w with drawn := w.drawn + 1 } := fun fl ord hchk hd => by
      have hK := chkW_ok hchk
      have hw : Bl w { w with drawn := w.drawn + 1 } := (Bl.refl w).drew
      have hwalk := drawG_walk hP hN hc (rdn := rd) (c0 := c0) (n0 := n0) (w0 := w0) (ds' := ds') rfl hK rfl ord.length ord [] [] [] c { w with drawn := w.drawn + 1 } H E e ds [] [] (by simp) (by simp) (by simp) (fun i o hi => by simp at hi) (List.length_filter_le _ _) List.Pairwise.nil List.Pairwise.nil h1 h2 (h3.world hw) h4 h5 (by simp) ⟨by simp, by simp⟩ hd
      exact walk_sound hK.edges (fun e a w hr hk => ⟨e, ds', hr, hk⟩) (fun ch e a w hr hx => ⟨e, ds', hr, hx e⟩) h6 hwalk
    unfold flG tryG at h
    split at h
    · rename_i hc1
      exact go false _ hc1 h
    · split at h
      · rename_i hc1
        exact go true _ hc1 h
      · cases h
/-- A region in the text's order. -/
theorem plain_ok {call : CallF} (hc : CallOK P call) {id : Nat} {ops : Array Oper} {rd : Option Nat} {n : Nat} {c0 : Cx} {n0 : Nat} {w0 : Bs} {x : Ex} {E1 : Tr V} {ds1 : List Df} {H1 : Hs} {E : Tr V} {ds : List Df} {H : Hs} {a : Act} {w : World}
    (hs : StE N c0 n0 w0 E ds H a w) (h : opsV call N rd.isSome (decL P N ops.toList ops.toList) E ds H = .mk x E1 ds1 H1) : (Code.region id ops false).wpIn (FW rd) n P (lift N (PostE c0 n0 w0 x E1 ds1 H1)) a w := by
  obtain ⟨c, e, ds', h1, h2, h3, h4, h5, h6⟩ := hs
  have hg := opsV_ok hP hN hc ops.toList c w H E e ds ds' h1 h2 h3 h4 h5 h
  refine wpIn_region ?_
  rw [List.range_eq_range', ← Array.length_toList]
  cases rd with
  | none => exact opsX_sound (Q := lift N (PostE c0 n0 w0 x E1 ds1 H1)) (fun x e ds a w hr hx => ⟨e, ds, hr, hx⟩) ops.toList 0 e ds' w a (fun j _ => by simp) hg h6
  | some l => exact opsA_sound (Q := lift N (PostE c0 n0 w0 x E1 ds1 H1)) (fun a w hx => hx) ops.toList 0 e ds' w a (fun j _ => by simp) hg h6
theorem rng_ok {call : CallF} (hc : CallOK P call) {g : Operand} {ps : Array Tmp} {as_ body : Code} {rd : Option Nat} {n : Nat} {c0 : Cx} {n0 : Nat} {w0 : Bs} {x : Ex} {E1 : Tr V} {ds1 : List Df} {H1 : Hs} {E : Tr V} {ds : List Df} {H : Hs} {a : Act} {w : World}
    (hs : StE N c0 n0 w0 E ds H a w) (h : rngV call N rd.isSome (fun E => rdV N E g) ps.toList as_ body E ds H = .mk x E1 ds1 H1) : (Code.rangeFunc g ps as_ body).wpIn (FW rd) n P (lift N (PostE c0 n0 w0 x E1 ds1 H1)) a w := by
  unfold rngV at h
  split at h <;> first | (cases h; done) | skip
  rename_i gv hg
  split at h <;> first | (cases h; done) | skip
  rename_i v H3 hcall
  split at h <;> first | (cases h; done) | skip
  rename_i N' E' ps' as' body' pend hget
  split at h <;> first | (cases h; done) | skip
  rename_i xx hjump
  split at hg <;> first | (cases hg; done) | skip
  rename_i hrr
  rw [Bool.or_eq_false_iff, Bool.not_eq_false'] at hrr
  obtain ⟨hrd, hroom⟩ := hrr
  have hrd : rd = none := by cases rd <;> first | rfl | cases hrd
  subst hrd
  unfold roomB at hroom
  rw [Nat.ble_eq] at hroom
  unfold fnO at hg
  split at hg <;> first | (cases hg; done) | skip
  rename_i f first cap hgv
  cases hg
  obtain ⟨c, e, ds', h1, h2, h3, h4, h5, h6⟩ := hs
  obtain ⟨tm, df⟩ := a
  have hdf : df = ds' := h6.defers
  subst hdf
  obtain ⟨g1, g2⟩ := rdV_ok hN h4 hgv
  refine wpIn_rangeFunc fun fn _ => ?_
  -- the mark and the record
  have hr1 : Rep (c.add H.next w.heap.size 0) w0 (w.alloc (.deferred (some []))) (H.new .mark) :=
    h3.newO (c.add_agr _ _ _) (by omega) trivial rfl (c.add_ρ _ _ _) (by show (w.alloc _).heap[_]? = _; rw [c.add_ρ]; exact World.alloc_heap_new _ _) fun k hk => hk
  obtain ⟨L, hL⟩ : ∃ L : Loop, L = { state := .ready, pending := none, fn := fn, tmps := tm, params := ps, assign := as_, body := body, defers := w.heap.size } := ⟨_, rfl⟩
  obtain ⟨c1, hc1⟩ : ∃ c1, c1 = c.add H.next w.heap.size 0 := ⟨_, rfl⟩
  rw [← hc1] at hr1
  have ha1 : Agr H.next c c1 := hc1 ▸ c.add_agr _ _ _
  obtain ⟨c2, hc2⟩ : ∃ c2, c2 = c1.addL (H.next + 1) (w.heap.size + 1) L := ⟨_, rfl⟩
  have ha2 : Agr (H.next + 1) c1 c2 := hc2 ▸ c1.addL_agr _ _ _
  have ha12 : Agr H.next c c2 := ha1.trans ha2 (Nat.le_succ _)
  have hρ2 : c2.ρ (H.next + 1) = w.heap.size + 1 := hc2 ▸ c1.addL_ρ _ _ _
  have hlp2 : c2.lp (H.next + 1) = L := hc2 ▸ c1.addL_lp _ _ _
  have hρ1 : c2.ρ H.next = w.heap.size := by rw [ha2.ρ _ (Nat.lt_succ_self _), hc1, c.add_ρ]
  have hsz1 : (w.alloc (.deferred (some []))).heap.size = w.heap.size + 1 := World.size_alloc _ _
  have hr2 : Rep c2 w0 ((w.alloc (.deferred (some []))).alloc (loopObj L .ready none)) ((H.new .mark).new (.loop N E ps.toList as_ body (some none))) := by
    refine hr1.newO ha2 (by show H.next + 1 + 1 < _; omega) trivial rfl (by rw [hsz1]; exact hρ2) ⟨?_, hN, ?_, ?_, ?_, e, ?_, ?_⟩ fun k hk => hk
    · show ((w.alloc (.deferred (some []))).alloc (loopObj L .ready none)).heap[c2.ρ (H.next + 1)]? = some (loopObj (c2.lp (H.next + 1)) .ready none)
      rw [hρ2, hlp2, ← hsz1]
      exact World.alloc_heap_new _ _
    · show (c2.lp (H.next + 1)).params = _
      rw [hlp2, hL]
    · show (c2.lp (H.next + 1)).assign = _
      rw [hlp2, hL]
    · show (c2.lp (H.next + 1)).body = _
      rw [hlp2, hL]
    · exact h4.agr ha12 (Nat.le_succ _)
    · show Rel N e [] { tmps := (c2.lp (H.next + 1)).tmps, defers := [] }
      rw [hlp2, hL]
      exact rel_defers h6
  have hent := hc.fn c2 w0 _ _ f first cap (H.next + 1) hr2 (V.lt_mono (Nat.le_add_right _ 2) _ g2) (Nat.lt_succ_self _) v H3 hcall
    (fun u w3 => ∃ c3, Agr H.next c c3 ∧ c3.ρ H.next = w.heap.size ∧ c3.ρ (H.next + 1) = w.heap.size + 1 ∧ c3.lp (H.next + 1) = L ∧ H.next + 2 ≤ H3.next ∧ Rep c3 w0 w3 H3)
    (fun c3 w3 b1 b2 b3 b4 => ⟨c3, ha12.trans b1 (Nat.le_add_right _ 2), (b1.ρ H.next (by show H.next < H.next + 1 + 1; omega)).trans hρ1, (b1.ρ (H.next + 1) (Nat.lt_succ_self _)).trans hρ2, (b1.lp (H.next + 1) (Nat.lt_succ_self _)).trans hlp2, b2, b3⟩)
  simp only [V.den, V.denL, enterV, hρ2] at hent
  obtain ⟨f', args', w2, hinv, hcl⟩ := hent
  have hev : (Act.eval { tmps := tm, defers := df }) g = rdv N e g := congrFun (eval_eq h6) g
  have hLo : loopObj L .ready none = .loop { state := .ready, pending := none, fn := fn, tmps := tm, params := ps, assign := as_, body := body, defers := w.heap.size } := by rw [hL]; rfl
  rw [hLo] at hinv
  refine ⟨w.heap.size + 1, [{ target := .collected w.heap.size, args := #[] }], _, { target := .fn (.func f) (V.denL c2 cap).toArray, args := (V.denL c2 first).toArray ++ #[.func (.yield (w.heap.size + 1)) #[] #[]] }, _, f', args', w2, run_enterLoop_outer _ _ _ _ _, ?_, fun _ _ => trivial, hinv, fun hd => by simp [Fence.wide] at hd, fw_calls (Calls.mono hcl ?_)⟩
  · have : rdv N e g = .func (.func f) (V.denL c2 first).toArray (V.denL c2 cap).toArray := by
      rw [g1]
      simp only [V.den]
      rw [V.agrL ha12 first g2.1, V.agrL ha12 cap g2.2]
    simp only [resolve, hev, this]
    simp [go_sem, Act.eval]
  · rintro en w3 ⟨u, rfl, c3, k1, k2, k3, k4, k5, k6⟩
    have hlt : H.next + 1 < H3.next := by omega
    have hat := (k6.at_ _ _ hlt hget).1
    have hpost : ∀ w4 ex, w4 = w3.putObj (w.heap.size + 1) (loopObj L .exhausted pend) → (∀ c n, ExOK c n xx ex) → (∀ v, xx ≠ .panu v) → lift N (PostE c0 n0 w0 x E1 ds1 H1) ex { tmps := tm, defers := { target := .collected w.heap.size, args := #[] } :: df } w4 := fun w4 ex hw ho hnp => by
      subst hw
      have hst : StE N c0 n0 w0 E (.mark H.next :: ds) (H3.put (H.next + 1) .gone) { tmps := tm, defers := { target := .collected w.heap.size, args := #[] } :: df } (w3.putObj (w.heap.size + 1) (loopObj L .exhausted pend)) := by
        refine ⟨c3, e, { target := .collected w.heap.size, args := #[] } :: df, h1.trans k1 h2, by show n0 ≤ H3.next; omega, ?_, h4.agr k1 (by show H.next ≤ H3.next; omega), ⟨⟨by show H.next < H3.next; omega, by rw [k2]⟩, h5.agr k1 (by show H.next ≤ H3.next; omega)⟩, rel_defers h6⟩
        have := k6.drop (ob := loopObj L .exhausted pend) hlt hget trivial rfl
        rwa [k3] at this
      have := hst.post hnp ho
      simp only [Cr.mk.injEq] at h
      obtain ⟨rfl, rfl, rfl, rfl⟩ := h
      exact this
    have hrun : ∀ st, st ≠ .busy → w3.heap[w.heap.size + 1]? = some (loopObj L st pend) → (Instr.endLoop (w.heap.size + 1)).run P w3 = .ok pend (w3.putObj (w.heap.size + 1) (loopObj L .exhausted pend)) := fun st hst hl => run_endLoop hl hst
    have hend : (Instr.endLoop (w.heap.size + 1)).run P w3 = .ok pend (w3.putObj (w.heap.size + 1) (loopObj L .exhausted pend)) := by
      cases pend with
      | none =>
        have hat : w3.heap[c3.ρ (H.next + 1)]? = some (loopObj (c3.lp (H.next + 1)) .ready none) := hat
        rw [k3, k4] at hat
        exact hrun _ (by simp) hat
      | some j =>
        have hat : w3.heap[c3.ρ (H.next + 1)]? = some (loopObj (c3.lp (H.next + 1)) .done (some j)) := hat
        rw [k3, k4] at hat
        exact hrun _ (by simp) hat
    refine ⟨pend, _, hend, ?_⟩
    unfold jumpX at hjump
    split at hjump <;> first | (cases hjump; done) | skip
    · cases hjump
      exact hpost _ _ rfl (fun _ _ => trivial) (by simp)
    · cases hjump
      exact wpIn_ret (hpost _ _ rfl (fun _ _ => trivial) (by simp))
    · cases hjump
      exact wpIn_exit (hpost _ _ rfl (fun _ _ => rfl) (by simp))
    · cases hjump
      exact wpIn_goto (hpost _ _ rfl (fun _ _ => rfl) (by simp))
theorem code_ok {call : CallF} (hc : CallOK P call) {lf : Nat} {c0 : Cx} {n0 : Nat} {w0 : Bs} : ∀ (c : Code) (rd : Option Nat) (n : Nat) (x : Ex) (E1 : Tr V) (ds1 : List Df) (H1 : Hs) (E : Tr V) (ds : List Df) (H : Hs) (a : Act) (w : World),
    StE N c0 n0 w0 E ds H a w → codeV P call N lf rd.isSome c E ds H = .mk x E1 ds1 H1 → c.wpIn (FW rd) n P (lift N (PostE c0 n0 w0 x E1 ds1 H1)) a w := by
  intro c
  have simple : ∀ {x y : Ex} {E E1 : Tr V} {ds ds1 : List Df} {H H1 : Hs} {a : Act} {w : World} {ex : Exit}, StE N c0 n0 w0 E ds H a w → Cr.mk y E ds H = .mk x E1 ds1 H1 → (∀ v, y ≠ .panu v) → (∀ c n, ExOK c n y ex) → lift N (PostE c0 n0 w0 x E1 ds1 H1) ex a w := fun {x y E E1 ds ds1 H H1 a w ex} hs h hx ho => by
    have := hs.post hx ho
    simp only [Cr.mk.injEq] at h
    obtain ⟨rfl, rfl, rfl, rfl⟩ := h
    exact this
  -- where the first part ends
  have after : ∀ {x1 x : Ex} {E1 E2 : Tr V} {ds1 ds2 : List Df} {H1 H2 : Hs} {k : KV} {ex : Exit} {a : Act} {w : World} {R : Act → World → Prop}, lift N (PostE c0 n0 w0 x1 E1 ds1 H1) ex a w →
      (match x1 with | .normal => k E1 ds1 H1 | x => .mk x E1 ds1 H1) = .mk x E2 ds2 H2 → (StE N c0 n0 w0 E1 ds1 H1 a w → k E1 ds1 H1 = .mk x E2 ds2 H2 → R a w) → Exit.then R (lift N (PostE c0 n0 w0 x E2 ds2 H2)) ex a w := fun {x1 x E1 E2 ds1 ds2 H1 H2 k ex a w R} hp h hk => by
    by_cases hx : x1 = .normal
    · subst hx
      obtain ⟨⟨c, ho⟩, hs⟩ := post_st hp (by simp)
      have := exok_normal ho
      subst this
      exact hk hs h
    · have h : Cr.mk x1 E1 ds1 H1 = .mk x E2 ds2 H2 := by cases x1 <;> first | exact h | exact absurd rfl hx
      simp only [Cr.mk.injEq] at h
      obtain ⟨rfl, rfl, rfl, rfl⟩ := h
      cases ex with
      | normal =>
        obtain ⟨e, ds', _, c, _, _, _, _, _, h7⟩ := hp
        exact absurd (exok_not h7) hx
      | _ => exact hp
  induction c with
  | skip => intro rd n x E1 ds1 H1 E ds H a w hs h; exact wpIn_skip (simple hs h (by simp) fun _ _ => trivial)
  | label l => intro rd n x E1 ds1 H1 E ds H a w hs h; exact wpIn_label (simple hs h (by simp) fun _ _ => trivial)
  | exit id => intro rd n x E1 ds1 H1 E ds H a w hs h; exact wpIn_exit (simple hs h (by simp) fun _ _ => rfl)
  | goto l => intro rd n x E1 ds1 H1 E ds H a w hs h; exact wpIn_goto (simple hs h (by simp) fun _ _ => rfl)
  | ret => intro rd n x E1 ds1 H1 E ds H a w hs h; exact wpIn_ret (simple hs h (by simp) fun _ _ => trivial)
  | refuse why => intro rd n x E1 ds1 H1 E ds H a w hs h; cases h
  | region id ops draw =>
    intro rd n x E1 ds1 H1 E ds H a w hs h
    cases draw with
    | false => exact plain_ok hP hN hc hs h
    | true => exact drawn_ok hP hN hc hs h
  | rangeFunc g ps as_ body ih1 ih2 =>
    intro rd n x E1 ds1 H1 E ds H a w hs h
    exact rng_ok hP hN hc hs h
  | seq c1 c2 ih1 ih2 =>
    intro rd n x E1 ds1 H1 E ds H a w hs h
    have h : seqV (codeV P call N lf rd.isSome c1) (codeV P call N lf rd.isSome c2) E ds H = .mk x E1 ds1 H1 := h
    unfold seqV at h
    split at h <;> first | (cases h; done) | skip
    rename_i x1 E2 ds2 H2 hf
    exact wpIn_seq (wpIn_mono (ih1 rd n _ _ _ _ E ds H a w hs hf) fun ex a' w' hp => after hp h fun hs' hk => ih2 rd n _ _ _ _ _ _ _ a' w' hs' hk)
  | cond cnd c1 c2 ih1 ih2 =>
    intro rd n x E1 ds1 H1 E ds H a w hs h
    have h : condV (fun E => rdV N E cnd) (codeV P call N lf rd.isSome c1) (codeV P call N lf rd.isSome c2) E ds H = .mk x E1 ds1 H1 := h
    unfold condV at h
    obtain ⟨c, e, ds', h1, h2, h3, h4, h5, h6⟩ := hs
    split at h <;> first | (cases h; done) | skip
    rename_i v hv
    obtain ⟨g1, g2⟩ := rdV_ok hN h4 hv
    split at h
    · rename_i b
      refine wpIn_cond (t := b) (by rw [eval_eq h6]; exact g1) ?_
      cases b
      · exact ih2 rd n _ _ _ _ _ _ _ a w ⟨c, e, ds', h1, h2, h3, h4, h5, h6⟩ h
      · exact ih1 rd n _ _ _ _ _ _ _ a w ⟨c, e, ds', h1, h2, h3, h4, h5, h6⟩ h
    · rename_i b
      have hb : ∀ t H', askB H b = some (t, H') → rdv N e cnd = .bool t ∧ StE N c0 n0 w0 E ds H' a w := fun t H' hq => by
        obtain ⟨k1, k2, k3⟩ := askB_ok h3 hq
        refine ⟨by rw [g1]; simp only [V.den, k1], c, e, ds', h1, by rw [k3]; exact h2, k2, by rw [k3]; exact h4, by rw [k3]; exact h5, h6⟩
      split at h
      · rename_i H' hq
        obtain ⟨q1, q2⟩ := hb _ _ hq
        exact wpIn_cond (t := true) (by rw [eval_eq h6]; exact q1) (ih1 rd n _ _ _ _ _ _ _ a w q2 h)
      · rename_i H' hq
        obtain ⟨q1, q2⟩ := hb _ _ hq
        exact wpIn_cond (t := false) (by rw [eval_eq h6]; exact q1) (ih2 rd n _ _ _ _ _ _ _ a w q2 h)
      · cases h
    · cases h
  | block id c ih =>
    intro rd n x E1 ds1 H1 E ds H a w hs h
    have h : blockV id (codeV P call N lf rd.isSome c) E ds H = .mk x E1 ds1 H1 := h
    unfold blockV at h
    split at h <;> first | (cases h; done) | skip
    rename_i x1 E2 ds2 H2 hf
    refine wpIn_block (wpIn_mono (ih rd n _ _ _ _ E ds H a w hs hf) fun ex a' w' hp => ?_)
    split at h
    · rename_i i
      obtain ⟨⟨c, ho⟩, hs'⟩ := post_st hp (by simp)
      have := exok_exit ho
      subst this
      simp only [Exit.inBlock]
      split at h
      · rename_i hid
        rw [if_pos (Nat.eq_of_beq_eq_true hid)]
        exact simple hs' h (by simp) fun _ _ => trivial
      · rename_i hid
        rw [if_neg fun e => by rw [e, Nat.beq_refl] at hid; cases hid]
        exact simple hs' h (by simp) fun _ _ => rfl
    · rename_i hne
      simp only [Cr.mk.injEq] at h
      obtain ⟨rfl, rfl, rfl, rfl⟩ := h
      cases ex with
      | exit j =>
        obtain ⟨e, ds', _, c, _, _, _, _, _, h7⟩ := hp
        cases x1 <;> first | exact h7.elim | exact absurd rfl (hne _)
      | _ => exact hp
  | loop c ih =>
    intro rd n x E1 ds1 H1 E ds H a w hs h
    have h : iterV (codeV P call N lf rd.isSome c) lf E ds H = .mk x E1 ds1 H1 := h
    refine wpIn_loop_rounds lf ?_
    have key : ∀ m E ds H a w, StE N c0 n0 w0 E ds H a w → iterV (codeV P call N lf rd.isSome c) m E ds H = .mk x E1 ds1 H1 → Code.roundsIn (FW rd) n P c (lift N (PostE c0 n0 w0 x E1 ds1 H1)) m a w := by
      intro m
      induction m with
      | zero => intro E ds H a w hs h; cases h
      | succ m ihm =>
        intro E ds H a w hs h
        rw [roundsIn_succ]
        unfold iterV at h
        cases hf : codeV P call N lf rd.isSome c E ds H with
        | no => rw [hf] at h; cases h
        | mk x1 E2 ds2 H2 =>
          rw [hf] at h
          refine wpIn_mono (ih rd n _ _ _ _ E ds H a w hs hf) fun ex a' w' hp => after (k := iterV (codeV P call N lf rd.isSome c) m) hp (by cases x1 <;> exact h) fun hs' hk => ihm _ _ _ a' w' hs' hk
    exact key lf E ds H a w hs h
  | scope c ih =>
    intro rd n x E1 ds1 H1 E ds H a w hs h
    have h : scopeV (codeV P call N lf rd.isSome c) E ds H = .mk x E1 ds1 H1 := h
    unfold scopeV at h
    split at h <;> first | (cases h; done) | skip
    rename_i x1 E2 ds2 H2 hf
    refine wpIn_scope_straight (wpIn_mono (ih rd n _ _ _ _ E ds H a w hs hf) fun ex a' w' hp => ?_)
    split at h <;> first | (cases h; done) | skip
    rename_i hne
    simp only [Cr.mk.injEq] at h
    obtain ⟨rfl, rfl, rfl, rfl⟩ := h
    cases ex with
    | goto j =>
      obtain ⟨e, ds', _, c, _, _, _, _, _, h7⟩ := hp
      cases x1 <;> first | exact h7.elim | exact absurd rfl (hne _)
    | _ => exact hp
end
end Go.Proofs.YtcanicgpkbhhdaaGreatDoor.Rn

namespace Go.Proofs.YtcanicgpkbhhdaaGreatDoor.Rn
open Go Go.RowKit Go.Proofs.YtcanicgpkbhhdaaGreatDoor.Sh
set_option linter.unusedVariables false
set_option linter.unusedSimpArgs false
/-- A scope to whose labels the run jumps back. -/
def jmpQ (J : Nat → Act → World → Prop) (Q : Exit → Act → World → Prop) : Exit → Act → World → Prop
  | .goto l, a, w => J l a w
  | ex, a, w => Q ex a w
theorem wpIn_scope_goto {P : Program} {F : Fence} {n : Nat} {Q : Exit → Act → World → Prop} {a : Act} {w : World} {c : Code} (J : Nat → Nat → Act → World → Prop) (h0 : ∀ l a w, ¬ J 0 l a w)
    (first : c.wpIn F n P (jmpQ (fun l a w => ∃ m, J m l a w) Q) a w)
    (pass : ∀ m l a w, J (m + 1) l a w → ∃ rest, findLabel c l = some rest ∧ rest.wpIn F n P (jmpQ (J m) Q) a w) : (Code.scope c).wpIn F n P Q a w := by
  intro b k cs hro hF hroom
  have hs : (lone (b.atR a (.code (.scope c) :: k)) cs w).fenced P F := fenced_calm hF hroom rfl
  have hg : ∀ {l rest}, findLabel c l = some rest → gotoIn l (.inScope c :: k) = some (.code rest :: .inScope c :: k) := fun {l rest} hf => by simp [gotoIn, hf]
  have xx : ∀ {id : Nat}, exitTo id (.inScope c :: k) = exitTo id k := fun {id} => by simp [exitTo]
  have out : ∀ {e : Exit} {a1 : Act} {w1 : World} {s : Machine}, (∀ l, e ≠ .goto l) → e ≠ .normal → ArrivesIn (Machine.fenced P F) P s b (.inScope c :: k) cs e a1 w1 → ArrivesIn (Machine.fenced P F) P s b k cs e a1 w1 := by
    intro e a1 w1 s hgo hno harr
    cases e with
    | normal => exact absurd rfl hno
    | goto l => exact absurd rfl (hgo l)
    | exit id =>
      exact ⟨fun k' hk => harr.1 k' (by rw [xx]; exact hk), fun hr' hk => harr.2 hr' (by rw [xx]; exact hk)⟩
    | ret => exact harr
    | panic ch => exact harr
    | outgrown => exact harr
  have key : ∀ m l rest a w, J m l a w → findLabel c l = some rest → ∃ e a' w', Q e a' w' ∧ ArrivesIn (Machine.fenced P F) P (lone (b.atR a (.code rest :: .inScope c :: k)) cs w) b k cs e a' w' := by
    intro m
    induction m with
    | zero => intro l rest a w hJ; exact absurd hJ (h0 l a w)
    | succ m ih =>
      intro l rest a w hJ hf
      obtain ⟨rest', hf', hp⟩ := pass m l a w hJ
      rw [hf] at hf'
      cases hf'
      obtain ⟨e, a1, w1, hq, harr⟩ := hp b (.inScope c :: k) cs hro hF hroom
      cases e with
      | normal => exact ⟨.normal, a1, w1, hq, StepsIn.trans harr (.one (fenced_calm hF hroom rfl) stepR_inScope)⟩
      | goto l' =>
        have hJ' : J m l' a1 w1 := hq
        have : ∃ rest', findLabel c l' = some rest' := by
          cases m with
          | zero => exact absurd hJ' (h0 _ _ _)
          | succ m => obtain ⟨r, h1, _⟩ := pass m l' a1 w1 hJ'; exact ⟨r, h1⟩
        obtain ⟨rest', hf'⟩ := this
        obtain ⟨e2, a2, w2, hq2, harr2⟩ := ih l' rest' a1 w1 hJ' hf'
        exact ⟨e2, a2, w2, hq2, .of_steps (harr.1 _ (hg hf')) harr2⟩
      | exit id => exact ⟨_, a1, w1, hq, out (by simp) (by simp) harr⟩
      | ret => exact ⟨_, a1, w1, hq, out (by simp) (by simp) harr⟩
      | panic ch => exact ⟨_, a1, w1, hq, out (by simp) (by simp) harr⟩
      | outgrown => exact ⟨_, a1, w1, hq, out (by simp) (by simp) harr⟩
  obtain ⟨e, a1, w1, hq, harr⟩ := first b (.inScope c :: k) cs hro hF hroom
  cases e with
  | normal => exact ⟨.normal, a1, w1, hq, .head hs stepR_scope (StepsIn.trans harr (.one (fenced_calm hF hroom rfl) stepR_inScope))⟩
  | goto l' =>
    obtain ⟨m, hJ'⟩ := hq
    have : ∃ rest', findLabel c l' = some rest' := by
      cases m with
      | zero => exact absurd hJ' (h0 _ _ _)
      | succ m => obtain ⟨r, h1, _⟩ := pass m l' a1 w1 hJ'; exact ⟨r, h1⟩
    obtain ⟨rest', hf'⟩ := this
    obtain ⟨e2, a2, w2, hq2, harr2⟩ := key m l' rest' a1 w1 hJ' hf'
    exact ⟨e2, a2, w2, hq2, .of_steps (.head hs stepR_scope (harr.1 _ (hg hf'))) harr2⟩
  | exit id => exact ⟨_, a1, w1, hq, .of_steps (.one hs stepR_scope) (out (by simp) (by simp) harr)⟩
  | ret => exact ⟨_, a1, w1, hq, .of_steps (.one hs stepR_scope) (out (by simp) (by simp) harr)⟩
  | panic ch => exact ⟨_, a1, w1, hq, .of_steps (.one hs stepR_scope) (out (by simp) (by simp) harr)⟩
  | outgrown => exact ⟨_, a1, w1, hq, .of_steps (.one hs stepR_scope) (out (by simp) (by simp) harr)⟩
/-! ### The arguments -/
def over (e : Env) : List Value → Nat → Env
  | [], _ => e
  | v :: vs, k => over (put e (some k) v) vs (k + 1)
theorem over_get : ∀ (l : List Value) (e : Env) (k i : Nat), over e l k i = if k ≤ i then (l[i - k]?).getD (e i) else e i
  | [], e, k, i => by simp [over]
  | v :: vs, e, k, i => by
    simp only [over]
    rw [over_get vs _ (k + 1) i]
    have hp : put e (some k) v i = cond (Nat.beq i k) v (e i) := rfl
    by_cases h : i = k
    · subst h
      rw [if_neg (by omega), if_pos (Nat.le_refl _), hp, Nat.beq_refl]
      simp
    · rw [hp, show Nat.beq i k = false from Bool.eq_false_iff.2 fun e => h (Nat.eq_of_beq_eq_true e), cond_false]
      by_cases hk : k ≤ i
      · rw [if_pos (by omega), if_pos hk]
        obtain ⟨m, hm⟩ : ∃ m, i - k = m + 1 := ⟨i - k - 1, by omega⟩
        rw [hm, show i - (k + 1) = m by omega]
        simp
      · rw [if_neg (by omega), if_neg hk]
theorem over_env (l : List Value) : over (fun _ => undef) l 0 = envOf l 0 := by
  funext i
  rw [over_get, envOf_get, if_pos (Nat.zero_le _)]
theorem envV_ok {c : Cx} {n : Nat} : ∀ (l : List V) (k : Nat) (E : Tr V) (e : Env), EnvOK c n E e → V.ltL n l → k + l.length ≤ 1000000000 → EnvOK c n (envV l k E) (over e (V.denL c l) k)
  | [], k, E, e, he, hl, hk => he
  | v :: l, k, E, e, he, hl, hk => by
    simp only [List.length_cons] at hk
    have h2 := he.put (d := k) (v := v) (by omega) hl.1
    exact envV_ok l (k + 1) (E.put k v) _ h2 hl.2 (by omega)
theorem start_ok {c : Cx} {n : Nat} {l : List V} (hl : V.ltL n l) (hk : l.length ≤ 1000000000) : EnvOK c n (envV l 0 .nil) (envOf (V.denL c l) 0) := by
  rw [← over_env]
  exact envV_ok l 0 .nil _ (envNil c n) hl (by omega)
theorem StE.start {c : Cx} {w0 : Bs} {w : World} {H : Hs} {l : List V} {N : Nat} (h : Rep c w0 w H) (hl : V.ltL H.next l) (hk : l.length ≤ N) (hN : N ≤ 1000000000) :
    StE N c H.next w0 (envV l 0 .nil) [] H { tmps := (V.denL c l).toArray ++ Array.replicate (N - (V.denL c l).toArray.size) undef, defers := [] } w :=
  ⟨c, _, [], Agr.refl _ _, Nat.le_refl _, h, start_ok hl (by omega), trivial, rel_start (by rw [denL_len]; exact hk)⟩
section
variable {P : Program} {N : Nat} (hP : PV P) (hN : N ≤ 1000000000)
include hP hN
theorem body_ok {call : CallF} (hc : CallOK P call) {lf n : Nat} {c0 : Cx} {n0 : Nat} {w0 : Bs} {c : Code} {x : Ex} {E1 : Tr V} {ds1 : List Df} {H1 : Hs} {E : Tr V} {H : Hs} {a : Act} {w : World}
    (hs : StE N c0 n0 w0 E [] H a w) (h : bodyV P call N lf c E H = .mk x E1 ds1 H1) : c.wpIn (FW none) n P (lift N (PostE c0 n0 w0 x E1 ds1 H1)) a w := by
  unfold bodyV at h
  split at h
  · rename_i c
    have hj : ∀ m r E2 ds2 H2 x2 ex a w, r = Cr.mk x2 E2 ds2 H2 → gotoV P call N lf c m r = .mk x E1 ds1 H1 → lift N (PostE c0 n0 w0 x2 E2 ds2 H2) ex a w →
        jmpQ (fun l a w => match m with | 0 => False | m + 1 => ∃ E ds H rest, StE N c0 n0 w0 E ds H a w ∧ findLabel c l = some rest ∧ gotoV P call N lf c m (codeV P call N lf false rest E ds H) = .mk x E1 ds1 H1) (lift N (PostE c0 n0 w0 x E1 ds1 H1)) ex a w := fun m r E2 ds2 H2 x2 ex a w hr hg hp => by
      subst hr
      cases m with
      | zero => cases hg
      | succ m =>
        by_cases hx : ∃ l, x2 = .goto l
        · obtain ⟨l, rfl⟩ := hx
          obtain ⟨⟨c1, ho⟩, hst⟩ := post_st hp (by simp)
          have := exok_goto ho
          subst this
          unfold gotoV at hg
          simp only at hg
          split at hg <;> first | (cases hg; done) | skip
          rename_i rest hf
          exact ⟨E2, ds2, H2, rest, hst, hf, hg⟩
        · have hg : Cr.mk x2 E2 ds2 H2 = .mk x E1 ds1 H1 := by
            cases x2 <;> first | exact hg | exact absurd ⟨_, rfl⟩ hx
          simp only [Cr.mk.injEq] at hg
          obtain ⟨rfl, rfl, rfl, rfl⟩ := hg
          cases ex with
          | goto l =>
            obtain ⟨e, ds', _, c1, _, _, _, _, _, h7⟩ := hp
            cases x2 <;> first | exact h7.elim | exact absurd ⟨_, rfl⟩ hx
          | _ => exact hp
    refine wpIn_scope_goto (fun m l a w => match m with | 0 => False | m + 1 => ∃ E ds H rest, StE N c0 n0 w0 E ds H a w ∧ findLabel c l = some rest ∧ gotoV P call N lf c m (codeV P call N lf false rest E ds H) = .mk x E1 ds1 H1) (fun _ _ _ h => h) ?_ ?_
    · cases hcv : codeV P call N lf false c E [] H with
      | no => rw [hcv] at h; cases lf <;> cases h
      | mk x2 E2 ds2 H2 =>
        rw [hcv] at h
        refine wpIn_mono (code_ok hP hN hc c none n x2 E2 ds2 H2 E [] H a w hs hcv) fun ex a w hp => ?_
        have := hj lf _ E2 ds2 H2 x2 ex a w rfl h hp
        cases ex with
        | goto l => exact ⟨lf, this⟩
        | _ => exact this
    · rintro m l a w ⟨E, ds, H, rest, hst, hf, hg⟩
      refine ⟨rest, hf, ?_⟩
      cases hcv : codeV P call N lf false rest E ds H with
      | no => rw [hcv] at hg; cases m <;> cases hg
      | mk x2 E2 ds2 H2 =>
        rw [hcv] at hg
        exact wpIn_mono (code_ok hP hN hc rest none n x2 E2 ds2 H2 E ds H a w hst hcv) fun ex a w hp => hj m _ E2 ds2 H2 x2 ex a w rfl hg hp
  · exact code_ok hP hN hc _ none n _ _ _ _ _ _ _ a w hs h
end
section
variable {P : Program} (hP : PV P)
/-! ### What is left of a frame -/
include hP in
theorem res_ok {N : Nat} (hN : N ≤ 1000000000) {c : Cx} {w0 : Bs} {w : World} {H : Hs} {E : Tr V} {e : Env} (hr : Rep c w0 w H) (he : EnvOK c H.next E e) {F : List Value → Prop} : ∀ (rs : List ResultVar) (acc : List Value) (l : List V), resV P N E H rs = some l → V.ltL H.next l ∧ (F (acc.reverse ++ V.denL c l) → resL P N e w rs acc F)
  | [], acc, l, h => by
    simp only [resV, Option.some.injEq] at h
    subst h
    exact ⟨trivial, fun hF => by simpa [resL, V.denL] using hF⟩
  | r :: rs, acc, l, h => by
    unfold resV at h
    split at h <;> first | (cases h; done) | skip
    rename_i v hv
    split at h <;> first | (cases h; done) | skip
    rename_i l' hl'
    simp only [Option.some.injEq] at h
    subst h
    cases r with
    | tmp t =>
      obtain ⟨g1, g2⟩ := rdV_ok hN he hv
      obtain ⟨k1, k2⟩ := res_ok hN hr he rs (v.den c :: acc) l' hl'
      exact ⟨⟨g2, k1⟩, fun hF => by
        simp only [resL]
        rw [g1]
        exact k2 (by simpa [V.denL] using hF)⟩
    | cell b t =>
      simp only at hv
      split at hv <;> first | (cases hv; done) | skip
      rename_i b' off hb
      obtain ⟨g1, g2⟩ := rdV_ok hN he hb
      obtain ⟨q1, q2⟩ := ldV_ok hP hr g2 hv
      obtain ⟨k1, k2⟩ := res_ok hN hr he rs (v.den c :: acc) l' hl'
      exact ⟨⟨q1, k1⟩, fun hF => by
        simp only [resL]
        rw [g1]
        simp only [V.den]
        exact q2 _ (k2 (by simpa [V.denL] using hF))⟩
theorem tup_den {c : Cx} {l : List V} : (tupV l).den c = oneOrTuple (V.denL c l) := by
  cases l with
  | nil => rfl
  | cons a l => cases l <;> rfl
theorem tup_lt {n : Nat} {l : List V} (h : V.ltL n l) : (tupV l).lt n := by
  cases l with
  | nil => trivial
  | cons a l => cases l <;> first | exact h.1 | exact h
end
end Go.Proofs.YtcanicgpkbhhdaaGreatDoor.Rn

namespace Go.Proofs.YtcanicgpkbhhdaaGreatDoor.Rn
open Go Go.RowKit Go.Proofs.YtcanicgpkbhhdaaGreatDoor.Sh
set_option linter.unusedVariables false
set_option linter.unusedSimpArgs false
/-- The panic that a frame is in. -/
def modeV (c : Cx) : Option V → FrameMode
  | none => .returning
  | some v => .panicking [{ v := v.den c, recovered := false }]
def ltO (n : Nat) : Option V → Prop
  | none => True
  | some v => v.lt n
theorem modeV_agr {c c' : Cx} {n : Nat} {m : Option V} (ha : Agr n c c') (h : ltO n m) : modeV c' m = modeV c m := by
  cases m with
  | none => rfl
  | some v => simp only [modeV]; rw [V.agr ha v h]
theorem ltO_mono {n k : Nat} (hk : n ≤ k) {m : Option V} (h : ltO n m) : ltO k m := by
  cases m with
  | none => trivial
  | some v => exact V.lt_mono hk v h
def recV : Option V → V
  | some v => v
  | none => .nili
section
variable {P : Program} (hP : PV P)
include hP
theorem left_ok {call : CallF} (hc : CallOK P call) {lf : Nat} {fn : Func} (hN : fn.ntmps ≤ 1000000000) (hres : fn.results.toList = []) {c : Code} {c0 : Cx} {n0 : Nat} {w0 : Bs} {E : Tr V} {H H2 : Hs} {a : Act} {w : World} {K : World → Prop}
    (hs : StE fn.ntmps c0 n0 w0 E [] H a w) (h : leftV (codeV P call fn.ntmps lf false c E [] H) = some H2) (hK : ∀ c2 w2, Agr n0 c0 c2 → n0 ≤ H2.next → Rep c2 w0 w2 H2 → K w2) : c.wpIn (FW none) 0 P (lift fn.ntmps (retN P fn.ntmps fn fun _ w => K w)) a w := by
  cases hcv : codeV P call fn.ntmps lf false c E [] H with
  | no => rw [hcv] at h; cases h
  | mk x E2 ds2 H3 =>
    rw [hcv] at h
    refine wpIn_mono (code_ok hP hN hc c none 0 x E2 ds2 H3 E [] H a w hs hcv) fun ex a w hp => ?_
    have fin : ∀ e ds' c2, Agr n0 c0 c2 → n0 ≤ H3.next → Rep c2 w0 w H3 → DsOK c2 H3.next [] ds' → H3 = H2 → nilD ds' (resL P fn.ntmps e w fn.results.toList [] fun vs => K w) := fun e ds' c2 h1 h2 h3 h4 h5 => by
      subst h5
      cases ds' with
      | cons d ds' => exact h4.elim
      | nil =>
        show resL P fn.ntmps e w fn.results.toList [] fun vs => K w
        rw [hres]
        exact hK c2 w h1 h2 h3
    obtain ⟨e, ds', hr, c2, h1, h2, h3, h4, h5, h6⟩ := hp
    unfold leftV at h
    split at h <;> first | (cases h; done) | skip
    · rename_i hcr
      simp only [Cr.mk.injEq] at hcr
      obtain ⟨rfl, rfl, rfl, rfl⟩ := hcr
      have := exok_normal h6
      subst this
      exact ⟨e, ds', hr, fin e ds' c2 h1 h2 h3 h5 (Option.some.inj h)⟩
    · rename_i hcr
      simp only [Cr.mk.injEq] at hcr
      obtain ⟨rfl, rfl, rfl, rfl⟩ := hcr
      have := exok_ret h6
      subst this
      exact ⟨e, ds', hr, fin e ds' c2 h1 h2 h3 h5 (Option.some.inj h)⟩
theorem plainD_ok {call : CallF} (hc : CallOK P call) {lf : Nat} {f : FuncId} {fn : Func} {bc : Code} (hf : P.funcs[f]? = some fn) (hb : fn.body = some bc) (hN : fn.ntmps ≤ 1000000000) (hres : fn.results.toList = []) {c : Cx} {w0 : Bs} {H H2 : Hs} {w : World} {args : List V} {m m2 : Option V} (hz : args.length ≤ fn.ntmps)
    (hr : Rep c w0 w H) (hl : V.ltL H.next args) (hm : ltO H.next m) (h : plainD P call lf fn bc args m H = some (m2, H2)) {K : FrameMode → World → Prop} (hK : ∀ c2 w2 u, Agr H.next c c2 → H.next ≤ H2.next → Rep c2 w0 w2 H2 → ltO H2.next m2 → settle u = modeV c2 m2 → K u w2) : DefV P f (V.denL c args).toArray (modeV c m) w K := by
  unfold plainD at h
  split at h <;> first | (cases h; done) | skip
  rename_i H3 hlv
  simp only [Option.some.injEq, Prod.mk.injEq] at h
  obtain ⟨rfl, rfl⟩ := h
  have hw := left_ok hP hc hN hres (K := fun w => K (modeV c m) w) (StE.start hr hl hz hN) hlv fun c2 w2 h1 h2 h3 => hK c2 w2 _ h1 h2 h3 (ltO_mono h2 hm) (by rw [modeV_agr h1 hm]; cases m <;> rfl)
  refine CallsDIn.mono (callsDIn_of_wp (R := fun e w' => ∃ v, e = .returned v ∧ K (modeV c m) w') hf hb trivial (wpIn_mono hw fun ex a w h => retN_post rfl h)) ?_
  rintro e u' w' ⟨rfl, v, rfl, hk⟩
  exact ⟨v, rfl, hk⟩
theorem runD_ok {call : CallF} (hc : CallOK P call) {lf : Nat} {f : FuncId} {c : Cx} {w0 : Bs} {H H2 : Hs} {w : World} {args : List V} {m m2 : Option V}
    (hr : Rep c w0 w H) (hl : V.ltL H.next args) (hm : ltO H.next m) (h : runD P call lf f args m H = some (m2, H2)) : hasBodyB P f = true ∧ ∀ {K : FrameMode → World → Prop}, (∀ c2 w2 u, Agr H.next c c2 → H.next ≤ H2.next → Rep c2 w0 w2 H2 → ltO H2.next m2 → settle u = modeV c2 m2 → K u w2) → DefV P f (V.denL c args).toArray (modeV c m) w K := by
  unfold runD at h
  split at h <;> first | (cases h; done) | skip
  rename_i fn hfn
  have hf := funcV_ok hP hfn
  split at h <;> first | (cases h; done) | skip
  rename_i hres hand
  simp only [Bool.and_eq_true, Nat.ble_eq] at hand
  obtain ⟨hbody, hz, hN⟩ := hand
  refine ⟨hbody, fun {K} hK => ?_⟩
  split at h <;> first | (cases h; done) | skip
  rename_i bc hb
  split at h
  · rename_i id ops c1
    split at h
    · rename_i d call0 at1 ty1 p1 af1 d2 d' ty2 p2 af2 ho
      split at h <;> first | (cases h; done) | skip
      rename_i hdd
      simp only [Bool.and_eq_true, Nat.ble_eq] at hdd
      obtain ⟨hdd, hd1, hd2⟩ := hdd
      have hdd := Nat.eq_of_beq_eq_true hdd
      subst hdd
      simp only at h
      split at h <;> first | (cases h; done) | skip
      rename_i H3 hlv
      simp only [Option.some.injEq, Prod.mk.injEq] at h
      obtain ⟨rfl, rfl⟩ := h
      have hops : ops = #[⟨some d, .call ⟨.builtin .recover, call0, at1⟩, ty1, p1, af1, none⟩, ⟨some d2, .assign (.tmp d), ty2, p2, af2, none⟩] := by rw [← Array.toArray_toList (xs := ops), ho]
      subst hops
      have hlv : leftV (codeV P call fn.ntmps lf false c1 (((envV args 0 .nil).put d (recV m)).put d2 (recV m)) [] H) = some H3 := by cases m <;> exact hlv
      refine callsDIn_of_wpSIn hf hb trivial fun c0 cs hc0 => ?_
      refine wpSIn_seq (wpSIn_region ?_)
      have hst := StE.start hr hl hz hN
      have hrs := rel_start (N := fn.ntmps) (l := V.denL c args) (by rw [denL_len]; exact hz)
      have hdl : d + 1 ≤ fn.ntmps := hd1
      have rest : ∀ (v : V) (u' : FrameMode), v.lt H.next → recV m = v → settle u' = .returning →
          c1.wpSIn (FW none) 0 P (bodyPostS P fn c0 cs fun e u' w' => ∃ v, e = .returned v ∧ K u' w')
            ((Act.put { tmps := (V.denL c args).toArray ++ Array.replicate (fn.ntmps - (V.denL c args).toArray.size) undef, defers := [] } (some d) (v.den c)).put (some d2) ((Act.put { tmps := (V.denL c args).toArray ++ Array.replicate (fn.ntmps - (V.denL c args).toArray.size) undef, defers := [] } (some d) (v.den c)).eval (.tmp d))) ({ c0 with mode := u' } :: cs) w := by
        intro v u' hvl hv hu
        have hr1 := hrs.put' (some d) (v.den c)
        have hr2 := hr1.put' (some d2) (rdv fn.ntmps (put (envOf (V.denL c args) 0) (some d) (v.den c)) (.tmp d))
        have hread : rdv fn.ntmps (put (envOf (V.denL c args) 0) (some d) (v.den c)) (.tmp d) = v.den c := by
          simp only [rdv, put]
          rw [show Nat.ble (d + 1) fn.ntmps = true from Nat.ble_eq.symm ▸ hdl, cond_true, Nat.beq_refl, cond_true]
        rw [eval_eq hr1]
        rw [hread] at hr2 ⊢
        rw [hv] at hlv
        have hw := left_ok hP hc hN hres (K := fun w => K u' w) (c0 := c) (n0 := H.next) (w0 := w0) (w := w) ⟨c, _, [], Agr.refl _ _, Nat.le_refl _, hr, ((start_ok hl (by omega)).put (by omega) hvl).put (d := d2) (by omega) hvl, trivial, hr2⟩ hlv fun c2 w2 h1 h2 h3 => hK c2 w2 _ h1 h2 h3 trivial hu
        refine wpSIn_of_wpIn rfl (wpIn_mono hw fun ex a w hx => ?_)
        have hp := retN_post rfl hx
        cases ex with
        | normal => obtain ⟨h1, v, h2, h3⟩ := hp; exact ⟨h1, u', rfl, v, h2, h3⟩
        | ret => obtain ⟨h1, v, h2, h3⟩ := hp; exact ⟨h1, u', rfl, v, h2, h3⟩
        | panic ch => obtain ⟨h1, v, h2, h3⟩ := hp; cases h2
        | outgrown => obtain ⟨v, h2, h3⟩ := hp; cases h2
        | _ => exact hp.elim
      have hlr : List.range (#[(⟨some d, .call ⟨.builtin .recover, call0, at1⟩, ty1, p1, af1, none⟩ : Oper), ⟨some d2, .assign (.tmp d), ty2, p2, af2, none⟩]).size = [0, 1] := rfl
      rw [hlr]
      simp only [wpOpsSIn, Region.wanted]
      cases m with
      | none =>
        have hc0 : c0.mode = .returning := hc0
        have hrec : recoverD (c0 :: cs) = none := by simp [recoverD, hc0]
        have hcc : ({ c0 with mode := .returning } : Frame) = c0 := by rw [← hc0]
        refine ⟨fun _ _ => trivial, ?_⟩
        have := rest .nili .returning trivial rfl rfl
        rw [hcc] at this
        simp [execOp, resolve, invoke, builtin, Sem.run_bind, hrec, wpOpsSIn, Region.wanted, FW, V.den] at this ⊢
        exact ⟨fun _ _ => trivial, this⟩
      | some v =>
        have hc0 : c0.mode = .panicking [{ v := v.den c, recovered := false }] := hc0
        have hrec : recoverD (c0 :: cs) = some (v.den c, { c0 with mode := .panicking ({ v := v.den c, recovered := true } :: []) } :: cs) := by simp [recoverD, hc0]
        refine ⟨fun _ _ => trivial, ?_⟩
        have := rest v (.panicking ({ v := v.den c, recovered := true } :: [])) hm rfl rfl
        simp [execOp, resolve, invoke, builtin, Sem.run_bind, hrec, wpOpsSIn, Region.wanted, FW] at this ⊢
        exact ⟨fun _ _ => trivial, this⟩
    · exact plainD_ok hP hc hf hb hN hres hz hr hl hm h hK
  · exact plainD_ok hP hc hf hb hN hres hz hr hl hm h hK
end
end Go.Proofs.YtcanicgpkbhhdaaGreatDoor.Rn

namespace Go.Proofs.YtcanicgpkbhhdaaGreatDoor.Rn
open Go Go.RowKit Go.Proofs.YtcanicgpkbhhdaaGreatDoor.Sh
set_option linter.unusedVariables false
set_option linter.unusedSimpArgs false
/-- Where a call may lead. -/
def RsOK (c : Cx) (w0 : Bs) (H : Hs) (K : Value → World → Prop) (X : List PanicEntry → World → Prop) : Rs → Prop
  | .ok v H' => After c w0 H H' v K
  | .pan v H' => After c w0 H H' v fun u w' => X [{ v := u, recovered := false }] w'
  | .no => False
theorem RsOK.agr {c c' : Cx} {w0 : Bs} {H H2 : Hs} {K : Value → World → Prop} {X : List PanicEntry → World → Prop} {r : Rs} (h : RsOK c w0 H K X r) (ha : Agr H.next c c') (hn : H.next ≤ H2.next) : RsOK c' w0 H2 K X r := by
  cases r with
  | ok v H' => exact fun c2 w2 h1 h2 h3 h4 => h c2 w2 (ha.trans h1 hn) (Nat.le_trans hn h2) h3 h4
  | pan v H' => exact fun c2 w2 h1 h2 h3 h4 => h c2 w2 (ha.trans h1 hn) (Nat.le_trans hn h2) h3 h4
  | no => exact h
section
variable {P : Program} (hP : PV P)
include hP
theorem leave_ok {call : CallF} (hc : CallOK P call) {lf : Nat} {fn : Func} (hN : fn.ntmps ≤ 1000000000) {w0 : Bs} {K : Value → World → Prop} {X : List PanicEntry → World → Prop} {E : Option (Tr V)} {e : Env} :
    ∀ (ds : List Df) (ds' : List Deferred) (m : Option V) (c : Cx) (H : Hs) (w : World), Rep c w0 w H → (∀ E0, E = some E0 → EnvOK c H.next E0 e) → DsOK c H.next ds ds' → ltO H.next m →
      RsOK c w0 H K X (leaveV P call lf fn E ds m H) → leaveA P (finA (fun w => resL P fn.ntmps e w fn.results.toList [] fun vs => K (oneOrTuple vs) w) X) ds' (modeV c m) w
  | [], ds', m, c, H, w, hr, he, hds, hm, h => by
    cases ds' with
    | cons d ds' => exact hds.elim
    | nil =>
      cases m with
      | some v =>
        have h : RsOK c w0 H K X (.pan v H) := h
        exact h c w (Agr.refl _ _) (Nat.le_refl _) hr hm
      | none =>
        show resL P fn.ntmps e w fn.results.toList [] fun vs => K (oneOrTuple vs) w
        unfold leaveV at h
        split at h
        · rename_i E0
          split at h <;> first | exact h.elim | skip
          rename_i l hl
          obtain ⟨g1, g2⟩ := res_ok hP hN hr (he _ rfl) (F := fun vs => K (oneOrTuple vs) w) fn.results.toList [] l hl
          refine g2 ?_
          have := h c w (Agr.refl _ _) (Nat.le_refl _) hr (tup_lt g1)
          rw [tup_den] at this
          exact this
        · split at h <;> first | exact h.elim | skip
          rename_i hres
          rw [hres]
          exact h c w (Agr.refl _ _) (Nat.le_refl _) hr trivial
  | .mark b :: ds, ds', m, c, H, w, hr, he, hds, hm, h => by
    cases ds' with
    | nil => exact hds.elim
    | cons d ds' =>
      obtain ⟨⟨h1, h2⟩, h3⟩ := hds
      unfold leaveV at h
      split at h <;> first | exact h.elim | skip
      rename_i hget
      have hat : w.heap[c.ρ b]? = some (.deferred (some [])) := hr.at_ b .mark h1 hget
      have hr2 := hr.drop (ob := .deferred none) h1 hget trivial rfl
      have := leave_ok hc hN ds ds' m c (H.put b .gone) _ hr2 he h3 hm (h.agr (H := H) (H2 := H.put b .gone) (Agr.refl _ _) (Nat.le_refl _))
      cases m with
      | none =>
        show (match d.target with
          | .collected D => w.heap[D]? = some (.deferred (some [])) ∧ leaveA P _ ds' .returning (w.putObj D (.deferred none))
          | .fn (.func g) cap => cond (hasBodyB P g) (DefV P g (d.args ++ cap) .returning w fun u' w' => leaveA P _ ds' (settle u') w') False
          | _ => False)
        rw [h2]
        exact ⟨hat, this⟩
      | some v =>
        show (match d.target with
          | .collected D => w.heap[D]? = some (.deferred (some [])) ∧ leaveA P _ ds' (.panicking _) (w.putObj D (.deferred none))
          | .fn (.func g) cap => cond (hasBodyB P g) (DefV P g (d.args ++ cap) (.panicking _) w fun u' w' => leaveA P _ ds' (settle u') w') False
          | _ => False)
        rw [h2]
        exact ⟨hat, this⟩
  | .call f args :: ds, ds', m, c, H, w, hr, he, hds, hm, h => by
    cases ds' with
    | nil => exact hds.elim
    | cons d ds' =>
      obtain ⟨⟨h1, cap, h2, h2'⟩, h3⟩ := hds
      unfold leaveV at h
      split at h <;> first | exact h.elim | skip
      rename_i m2 H2 hrun
      obtain ⟨hb, hd⟩ := runD_ok hP hc hr h1 hm hrun
      have := hd (K := fun u' w' => leaveA P (finA (fun w => resL P fn.ntmps e w fn.results.toList [] fun vs => K (oneOrTuple vs) w) X) ds' (settle u') w') fun c2 w2 u k1 k2 k3 k4 k5 => by
        rw [k5]
        exact leave_ok hc hN ds ds' m2 c2 H2 w2 k3 (fun E0 hE => (he E0 hE).agr k1 k2) (h3.agr k1 k2) k4 (h.agr k1 k2)
      rw [← h2'] at this
      cases m with
      | none =>
        simp only [modeV, leaveA]
        rw [h2]
        simp only
        rw [hb, cond_true]
        exact this
      | some v =>
        simp only [modeV, leaveA]
        rw [h2]
        simp only
        rw [hb, cond_true]
        exact this
theorem fn_ok {call : CallF} (hc : CallOK P call) {lf : Nat} {f : FuncId} {fn : Func} (hf : P.funcs[f]? = some fn) {c : Cx} {w0 : Bs} {w : World} {H : Hs} {args : List V} (hr : Rep c w0 w H) (hl : V.ltL H.next args) {K : Value → World → Prop} {X : List PanicEntry → World → Prop}
    (h : RsOK c w0 H K X (fnV P call lf fn args H)) : CallX P f (V.denL c args).toArray w K X := by
  unfold fnV at h
  split at h <;> first | exact h.elim | skip
  rename_i bc hb hz
  simp only [Bool.and_eq_true, Nat.ble_eq] at hz
  obtain ⟨hz, hN⟩ := hz
  split at h <;> first | exact h.elim | skip
  rename_i x E1 ds1 H1 hbody
  have hw := body_ok hP hN hc (n := 0) (StE.start hr hl hz hN) hbody
  refine (callsIn_wide (n := 0)).1 (callsIn_of_wp_marks (F := FW none) (n := 0) hf hb trivial (wpIn_mono hw ?_))
  rintro ex a' w' ⟨e', ds', hrl, c2, h1, h2, h3, h4, h5, h6⟩
  have fin : ∀ (E : Option (Tr V)) (m : Option V), ltO H1.next m → (∀ E0, E = some E0 → EnvOK c2 H1.next E0 e') → RsOK c w0 H K X (leaveV P call lf fn E ds1 m H1) →
      LeavesInM (FW none) 0 P fn a'.tmps (fun e w' => match e with | .returned v => K v w' | .panicked ch => X ch w' | .outgrown => False) a'.defers (modeV c2 m) w' := fun E m hm hE hl => by
    have hq := leave_ok hP hc hN ds1 ds' m c2 H1 w' h3 hE h5 hm (hl.agr h1 h2)
    rw [hrl.defers]
    refine leaves_leaveA (fun u w h => ?_) ds' _ w' hq
    cases u with
    | run => exact h.elim
    | returning => exact run_results hrl h
    | panicking ch => exact h
  split at h <;> first | exact h.elim | skip
  · have := exok_normal h6
    subst this
    exact fin (some E1) none trivial (fun E0 hE => by cases hE; exact h4) h
  · have := exok_ret h6
    subst this
    exact fin (some E1) none trivial (fun E0 hE => by cases hE; exact h4) h
  · rename_i v
    cases ex <;> first | exact h6.elim | skip
    obtain ⟨k1, rfl⟩ := h6
    exact fin (some E1) (some v) k1 (fun E0 hE => by cases hE; exact h4) h
  · rename_i v
    cases ex <;> first | exact h6.elim | skip
    obtain ⟨k1, rfl⟩ := h6
    exact fin none (some v) k1 (fun E0 hE => by cases hE) h
end
end Go.Proofs.YtcanicgpkbhhdaaGreatDoor.Rn

namespace Go.Proofs.YtcanicgpkbhhdaaGreatDoor.Rn
open Go Go.RowKit Go.Proofs.YtcanicgpkbhhdaaGreatDoor.Sh
set_option linter.unusedVariables false
set_option linter.unusedSimpArgs false
/-! ### Records -/
def stObj (L : Loop) : Option (Option Code) → Obj
  | none => loopObj L .busy none
  | some none => loopObj L .ready none
  | some (some j) => loopObj L .done (some j)
theorem loopAt_iff {c : Cx} {w : World} {b : Nat} {st : Option (Option Code)} : loopAt c w b st ↔ w.heap[c.ρ b]? = some (stObj (c.lp b) st) := by
  cases st with
  | none => exact Iff.rfl
  | some j => cases j <;> exact Iff.rfl
theorem Rep.setL {c : Cx} {w0 : Bs} {w : World} {H : Hs} {l N N' : Nat} {E E' : Tr V} {ps ps' : List Tmp} {as_ as' body body' : Code} {st st' : Option (Option Code)} (h : Rep c w0 w H) (hl : l < H.next) (hg : H.get l = some (.loop N' E' ps' as' body' st')) (ht : LoopTie c l N E ps as_ body) :
    Rep c w0 (w.putObj (c.ρ l) (stObj (c.lp l) st)) (H.put l (.loop N E ps as_ body st)) := by
  have hat := h.at_ _ _ hl hg
  refine h.chg1 (o' := .loop N E ps as_ body st) hl hg trivial rfl ext_put (.inl ⟨trivial, rfl⟩) trivial ⟨loopAt_iff.2 ?_, ht⟩
  exact World.putObj_heap_same (heap_lt (loopAt_iff.1 hat.1))
theorem rdyL_ok {H : Hs} {l : Nat} (h : rdyL H l = true) : ∃ N E ps as_ body, H.get l = some (.loop N E ps as_ body (some none)) := by
  unfold rdyL at h
  split at h
  · rename_i hg; exact ⟨_, _, _, _, _, hg⟩
  · cases h
theorem bsyL_ok {H : Hs} {l : Nat} (h : bsyL H l = true) : ∃ N E ps as_ body, H.get l = some (.loop N E ps as_ body none) := by
  unfold bsyL at h
  split at h
  · rename_i hg; exact ⟨_, _, _, _, _, hg⟩
  · cases h
theorem bindV_ok {N : Nat} {c : Cx} {n : Nat} : ∀ (ps : List Tmp) (vs : List V) (E E1 : Tr V) (e : Env) (tm : Array Value), bindV ps vs E = some E1 → EnvOK c n E e → V.ltL n vs → Rel N e [] { tmps := tm, defers := [] } →
    vs.length = ps.length ∧ ∃ e1, EnvOK c n E1 e1 ∧ Rel N e1 [] { tmps := (ps.zip (V.denL c vs)).foldl (fun t (p, v) => t.setIfInBounds p v) tm, defers := [] }
  | [], [], E, E1, e, tm, h, he, hl, hr => by
    simp only [bindV, Option.some.injEq] at h
    subst h
    exact ⟨rfl, e, he, hr⟩
  | p :: ps, v :: vs, E, E1, e, tm, h, he, hl, hr => by
    simp only [bindV] at h
    split at h <;> first | (cases h; done) | skip
    rename_i hp
    rw [Nat.ble_eq] at hp
    have hr' : Rel N (put e (some p) (v.den c)) [] { tmps := tm.setIfInBounds p (v.den c), defers := [] } := hr.put' (some p) (v.den c)
    obtain ⟨h1, e1, h2, h3⟩ := bindV_ok ps vs _ E1 _ _ h (he.put (by omega) hl.1) hl.2 hr'
    exact ⟨by simp [h1], e1, h2, h3⟩
  | [], _ :: _, E, E1, e, tm, h, he, hl, hr => by simp [bindV] at h
  | _ :: _, [], E, E1, e, tm, h, he, hl, hr => by simp [bindV] at h
section
variable {P : Program} (hP : PV P)
include hP
theorem round_ok {call : CallF} (hc : CallOK P call) {lf l N : Nat} {E : Tr V} {ps : List Tmp} {as_ body : Code} {c : Cx} {w0 : Bs} {w : World} {H : Hs} {args : List V} (hr : Rep c w0 w H) (hl : l < H.next) (hget : H.get l = some (.loop N E ps as_ body (some none))) (hargs : V.ltL H.next args)
    {K : Value → World → Prop} {X : List PanicEntry → World → Prop} (h : RsOK c w0 H K X (roundV P call lf l N E ps as_ body args H)) : callX P (.func (.yield (c.ρ l)) #[] #[]) (V.denL c args).toArray w K X := by
  obtain ⟨hat, htie⟩ := hr.at_ _ _ hl hget
  have htie0 := htie
  obtain ⟨hN, t1, t2, t3, e, t4, t5⟩ := htie
  have hat : w.heap[c.ρ l]? = some (.loop { c.lp l with state := .ready, pending := none }) := hat
  unfold roundV at h
  split at h <;> first | exact h.elim | skip
  rename_i E1 hbind
  split at h <;> first | exact h.elim | skip
  rename_i E2 H2 hcv
  split at h <;> first | exact h.elim | skip
  rename_i hrdy
  obtain ⟨hlen, e1, b1, b2⟩ := bindV_ok ps args E E1 e _ hbind (t4.agr (Agr.refl _ _) (Nat.le_of_lt hl)) hargs t5
  unfold callX
  simp only [Array.empty_append]
  have hinv : (invoke (.fn (.yield (c.ρ l)) #[]) (V.denL c args).toArray).run P w = .ok (.round (c.ρ l) (c.lp l).fn (((c.lp l).params.zip (V.denL c args).toArray).foldl (fun t (p, v) => t.setIfInBounds p v) (c.lp l).tmps) as_ body) w := by
    simp only [invoke, Instr.yield, Sem.run_bind, run_getLoop hat, Result.andThen_ok]
    have hsz : (V.denL c args).toArray.size = (c.lp l).params.size := by rw [t1]; simp [denL_len, hlen]
    simp [hsz, t2, t3]
  rw [Sem.wp_iff_run, hinv]
  show RoundV P (c.ρ l) (c.lp l).fn _ as_ body w K
  unfold RoundV
  refine roundIn_of_wpIn trivial ?_
  rw [inRound_fw, foldl_zip_toArray, t1]
  simp only []
  refine wpIn_mono (code_ok hP hN hc as_ (some (c.ρ l)) 0 .normal E2 [] H2 E1 [] H _ w (c0 := c) (n0 := H.next) (w0 := w0) ⟨c, e1, [], Agr.refl _ _, Nat.le_refl _, hr, b1, trivial, b2⟩ hcv) ?_
  intro ex a2 w2 hp
  obtain ⟨⟨cx, ho⟩, c2, e2, ds2, g1, g2, g3, g4, g5, g6⟩ := post_st hp (by simp)
  have := exok_normal ho
  subst this
  have hl2 : l < H2.next := Nat.lt_of_lt_of_le hl g2
  obtain ⟨N', E', ps', as', body', hget2⟩ := rdyL_ok hrdy
  have hat2 : w2.heap[c2.ρ l]? = some (.loop { c2.lp l with state := .ready, pending := none }) := (g3.at_ _ _ hl2 hget2).1
  have hρ2 := g1.ρ l hl
  have hlp2 := g1.lp l hl
  have htie2 := htie0.agr g1 hl
  refine ⟨_, by rw [hρ2] at hat2; exact run_beginRound hat2 rfl, ?_⟩
  have hr3 := g3.setL (st := none) hl2 hget2 htie2
  rw [hρ2] at hr3
  unfold stopV at h
  split at h <;> first | exact h.elim | skip
  rename_i x E3 H3 hcv3
  split at h <;> first | exact h.elim | skip
  rename_i hbsy
  obtain ⟨N3, E3', ps3, as3, body3, hget3⟩ := bsyL_ok hbsy
  refine wpIn_mono (code_ok hP hN hc body (some (c.ρ l)) 0 x E3 [] H3 E2 [] (H2.put l (.loop N E ps as_ body none)) a2 _ (c0 := c) (n0 := H.next) (w0 := w0) ⟨c2, e2, ds2, g1, g2, hr3, g4, g5, g6⟩ hcv3) ?_
  intro ex a3 w3 hp3
  have fin : ∀ (jump : Option Code) (st : Option Code) c3, Agr H.next c c3 → H.next ≤ H3.next → Rep c3 w0 w3 H3 → jump = st → RsOK c w0 H K X (.ok (.bool jump.isNone) (H3.put l (.loop N E ps as_ body (some st)))) → ∃ v w', (Instr.endRound (c.ρ l) jump).run P w3 = .ok v w' ∧ ∃ u, Ending.returned v = .returned u ∧ K u w' := fun jump st c3 k1 k2 k3 hj hK => by
    subst hj
    have hl3 : l < H3.next := Nat.lt_of_lt_of_le hl k2
    have hat3 : w3.heap[c3.ρ l]? = some (.loop { c3.lp l with state := .busy, pending := none }) := (k3.at_ _ _ hl3 hget3).1
    have hρ3 := k1.ρ l hl
    have hr4 := k3.setL (st := some jump) hl3 hget3 (htie0.agr k1 hl)
    refine ⟨_, _, by rw [hρ3] at hat3; exact run_endRound jump hat3, _, rfl, ?_⟩
    have := hK c3 _ k1 k2 hr4 trivial
    rw [hρ3] at this
    cases jump <;> exact this
  split at h <;> first | exact h.elim | skip
  · obtain ⟨⟨cx, ho⟩, c3, e3, ds3, k1, k2, k3, k4, k5, k6⟩ := post_st hp3 (by simp)
    have := exok_normal ho
    subst this
    exact fin none none c3 k1 k2 k3 rfl h
  · obtain ⟨⟨cx, ho⟩, c3, e3, ds3, k1, k2, k3, k4, k5, k6⟩ := post_st hp3 (by simp)
    have := exok_ret ho
    subst this
    exact fin (some .ret) (some .ret) c3 k1 k2 k3 rfl h
  · rename_i id
    obtain ⟨⟨cx, ho⟩, c3, e3, ds3, k1, k2, k3, k4, k5, k6⟩ := post_st hp3 (by simp)
    have := exok_exit ho
    subst this
    exact fin (some (.exit id)) (some (.exit id)) c3 k1 k2 k3 rfl h
end
end Go.Proofs.YtcanicgpkbhhdaaGreatDoor.Rn

namespace Go.Proofs.YtcanicgpkbhhdaaGreatDoor.Rn
open Go Go.RowKit Go.Proofs.YtcanicgpkbhhdaaGreatDoor.Sh
set_option linter.unusedVariables false
set_option linter.unusedSimpArgs false
/-! ### Values without blocks -/
mutual
theorem flat_lt {n : Nat} : ∀ (v : V), v.flat = true → v.lt n
  | .fn f a b, h => by
    simp only [V.flat, Bool.and_eq_true] at h
    exact ⟨flatL_lt a h.1, flatL_lt b h.2⟩
  | .iface d v, h => flat_lt v h
  | .agg cs, h => flatL_lt cs h
  | .tup cs, h => flatL_lt cs h
  | .bool _, _ => trivial
  | .sbool _, _ => trivial
  | .int _ _, _ => trivial
  | .sint _ _, _ => trivial
  | .str _, _ => trivial
  | .ystr _, _ => trivial
  | .nilp, _ => trivial
  | .nils, _ => trivial
  | .nilm, _ => trivial
  | .nilf, _ => trivial
  | .nili, _ => trivial
  | .ptr _ _, h => by cases h
  | .gptr _ _, h => by cases h
  | .sl _ _ _ _, h => by cases h
  | .slr _ _ _ _, h => by cases h
  | .slo _, h => by cases h
  | .sle _ _ _ _ _, h => by cases h
  | .pe _ _ _ _, h => by cases h
  | .se _ _ _ _ _, h => by cases h
  | .sv _ _, h => by cases h
  | .map _, h => by cases h
  | .yld _, h => by cases h
theorem flatL_lt {n : Nat} : ∀ (l : List V), V.flatL l = true → V.ltL n l
  | [], _ => trivial
  | v :: l, h => by
    simp only [V.flatL, Bool.and_eq_true] at h
    exact ⟨flat_lt v h.1, flatL_lt l h.2⟩
end
theorem normN_eq {n : Nat} {K : Nat → Rs} : normN n K = K n := by cases n <;> rfl
mutual
theorem normV_ok : ∀ (v : V) (K : V → Rs), normV v K ≠ .no → normV v K = K v ∧ v.flat = true
  | .int k (.ofNat n), K, h => by
    refine ⟨?_, rfl⟩
    simp only [normV, normN_eq]
    cases k <;> rfl
  | .int k (.negSucc n), K, h => by
    refine ⟨?_, rfl⟩
    simp only [normV, normN_eq]
  | .bool b, K, h => by
    refine ⟨?_, rfl⟩
    cases b <;> rfl
  | .agg cs, K, h => by
    simp only [normV] at h ⊢
    exact normL_ok cs _ h
  | .fn f [] [], K, h => ⟨rfl, rfl⟩
  | .fn f (_ :: _) _, K, h => absurd rfl h
  | .fn f [] (_ :: _), K, h => absurd rfl h
  | .iface _ _, K, h => absurd rfl h
  | .tup _, K, h => absurd rfl h
  | .sbool _, K, h => absurd rfl h
  | .sint _ _, K, h => absurd rfl h
  | .str _, K, h => absurd rfl h
  | .ystr _, K, h => absurd rfl h
  | .nilp, K, h => absurd rfl h
  | .nils, K, h => absurd rfl h
  | .nilm, K, h => absurd rfl h
  | .nilf, K, h => absurd rfl h
  | .nili, K, h => absurd rfl h
  | .ptr _ _, K, h => absurd rfl h
  | .gptr _ _, K, h => absurd rfl h
  | .sl _ _ _ _, K, h => absurd rfl h
  | .slr _ _ _ _, K, h => absurd rfl h
  | .slo _, K, h => absurd rfl h
  | .sle _ _ _ _ _, K, h => absurd rfl h
  | .pe _ _ _ _, K, h => absurd rfl h
  | .se _ _ _ _ _, K, h => absurd rfl h
  | .sv _ _, K, h => absurd rfl h
  | .map _, K, h => absurd rfl h
  | .yld _, K, h => absurd rfl h
theorem normL_ok : ∀ (l : List V) (K : List V → Rs), normL l K ≠ .no → normL l K = K l ∧ V.flatL l = true
  | [], K, h => ⟨rfl, rfl⟩
  | v :: l, K, h => by
    simp only [normL] at h ⊢
    obtain ⟨h1, h2⟩ := normV_ok v _ h
    rw [h1] at h ⊢
    obtain ⟨h3, h4⟩ := normL_ok l _ h
    exact ⟨h3, by simp only [V.flatL, h2, h4, Bool.and_self]⟩
end
end Go.Proofs.YtcanicgpkbhhdaaGreatDoor.Rn

namespace Go.Proofs.YtcanicgpkbhhdaaGreatDoor.Rn
open Go Go.RowKit Go.Proofs.YtcanicgpkbhhdaaGreatDoor.Sh
set_option linter.unusedVariables false
set_option linter.unusedSimpArgs false
/-- What is asked of a program: its tables; functions without a body; the copy of a row of bytes. -/
structure PX (P : Program) (X : Xs) : Prop where
  pv : PV P
  body : ∀ f fn c, P.funcs[f]? = some fn → fn.body = some c → hasBodyB P f = true
  add : ∀ (k1 k2 k3 : IntKind) (a b c : Nat) (w : World), c ≤ 1 → ∃ w', (callFunc X.add64 #[.int k1 (.ofNat a), .int k2 (.ofNat b), .int k3 (.ofNat c)]).run P w = .ok (.value (.tuple #[.int .u64 (.ofNat ((a + b + c) % 18446744073709551616)), .int .u64 (.ofNat ((a + b + c) / 18446744073709551616))])) w' ∧ Bl w w'
  sub : ∀ (k1 k2 k3 : IntKind) (a b c : Nat) (w : World), c ≤ 1 → ∃ w', (callFunc X.sub64 #[.int k1 (.ofNat a), .int k2 (.ofNat b), .int k3 (.ofNat c)]).run P w = .ok (.value (.tuple #[.int .u64 (.ofNat ((a + 18446744073709551616 - b - c) % 18446744073709551616)), .int .u64 (.ofNat (if a < b + c then 1 else 0))])) w' ∧ Bl w w'
  sums : ∀ f args b r1 r2, X.sums f args = some (b, r1, r2) → hasBodyB P f = true ∧ ∀ (c : Cx) (w : World) (K : Value → World → Prop), (∀ w', Bl w w' → K ((cond (b.den c) r1 r2).den c) w') → CallV P f (V.denL c args).toArray w K
  clone : ∀ f z, memZ X.clones f = some z → hasBodyB P f = true ∧ ∀ (w : World) (p : Option Addr) (n k : Nat) (l : List UInt8), 0 < z → Sees w z p n k (u8s l) → n ≤ 1073741824 → ∀ (K : Value → World → Prop),
    (∀ p' n' k' w', Bl w w' → Sees w' z p' n' k' (u8s l) → (l ≠ [] → ∀ a, p' = some a → w.heap.size ≤ a.block) → K (.slice p' n' k') w') → CallV P f #[.slice p n k] w K
section
variable {P : Program} {X : Xs}
/-- A function is called: entered, or (without a body, on numbers) answered at once. -/
def Goes (P : Program) (f : FuncId) (args : List V) (c : Cx) (w : World) (K : Value → World → Prop) (Q : List PanicEntry → World → Prop) : Prop :=
  (hasBodyB P f = true ∧ CallX P f (V.denL c args).toArray w K Q) ∨ ((∃ v w', (callFunc f (V.denL c args).toArray).run P w = .ok (.value v) w' ∧ K v w') ∧ ∀ a ∈ args, ∃ k n, a = .int k n)
theorem ext_ok (hX : PX P X) {f : Nat} {args : List V} {c : Cx} {w0 : Bs} {w : World} {H : Hs} {K : Value → World → Prop} {Q : List PanicEntry → World → Prop} (hr : Rep c w0 w H) (h : RsOK c w0 H K Q (extV X f args H)) : Goes P f args c w K Q := by
  unfold extV at h
  split at h <;> first | exact h.elim | skip
  rename_i k1 a k2 b k3 cc
  split at h <;> first | exact h.elim | skip
  rename_i hc
  rw [Nat.ble_eq] at hc
  refine .inr ⟨?_, fun x hx => ?_⟩
  · split at h
    · rename_i hf
      have hf := Nat.eq_of_beq_eq_true hf
      subst hf
      obtain ⟨w', h1, h2⟩ := hX.add k1 k2 k3 a b cc w hc
      exact ⟨_, w', h1, h c w' (Agr.refl _ _) (Nat.le_refl _) (hr.world h2) ⟨trivial, trivial, trivial⟩⟩
    · split at h <;> first | exact h.elim | skip
      rename_i hf
      have hf := Nat.eq_of_beq_eq_true hf
      subst hf
      obtain ⟨w', h1, h2⟩ := hX.sub k1 k2 k3 a b cc w hc
      refine ⟨_, w', h1, ?_⟩
      have := h c w' (Agr.refl _ _) (Nat.le_refl _) (hr.world h2) ⟨trivial, trivial, trivial⟩
      have e : (if a < b + cc then 1 else 0 : Nat) = (match Nat.ble (Nat.add b cc) a with | true => 0 | false => 1) := by
        cases hb : Nat.ble (Nat.add b cc) a with
        | true =>
          rw [Nat.ble_eq] at hb
          rw [if_neg (by have : b + cc ≤ a := hb; omega)]
        | false =>
          have : ¬ (b + cc ≤ a) := fun h => by
            have : Nat.ble (Nat.add b cc) a = true := Nat.ble_eq.symm ▸ h
            rw [this] at hb; cases hb
          rw [if_pos (by omega)]
      rw [e]
      exact this
  · simp only [List.mem_cons, List.not_mem_nil, or_false] at hx
    rcases hx with rfl | rfl | rfl <;> exact ⟨_, _, rfl⟩
theorem enterF_ok (hX : PX P X) {call : CallF} (hc : CallOK P call) {lf : Nat} {f : Nat} {args : List V} {c : Cx} {w0 : Bs} {w : World} {H : Hs} {K : Value → World → Prop} {Q : List PanicEntry → World → Prop} (hr : Rep c w0 w H) (hl : V.ltL H.next args) (h : RsOK c w0 H K Q (enterF P X call lf f args H)) : Goes P f args c w K Q := by
  unfold enterF at h
  split at h <;> first | exact h.elim | skip
  rename_i fn hfn
  have hf := funcV_ok hX.pv hfn
  split at h
  · rename_i bc hb
    exact .inl ⟨hX.body _ _ _ hf hb, fn_ok hX.pv hc hf hr hl h⟩
  · exact ext_ok hX hr h
theorem Goes.callX {f : FuncId} {first args cap : List V} {c : Cx} {w : World} {K : Value → World → Prop} {Q : List PanicEntry → World → Prop} (h : Goes P f (first ++ (args ++ cap)) c w K Q) : Sh.callX P ((V.fn f first cap).den c) (V.denL c args).toArray w K Q := by
  have harg : (V.denL c first).toArray ++ (V.denL c args).toArray ++ (V.denL c cap).toArray = (V.denL c (first ++ (args ++ cap))).toArray := by
    rw [denL_app, denL_app]
    simp
  simp only [V.den]
  unfold Sh.callX
  simp only
  rw [Sem.wp_iff_run]
  rcases h with ⟨hb, h⟩ | ⟨⟨v, w', h1, h2⟩, _⟩
  · have : (invoke (.fn (.func f) (V.denL c cap).toArray) ((V.denL c first).toArray ++ (V.denL c args).toArray)).run P w = .ok (.enter f (V.denL c (first ++ (args ++ cap))).toArray) w := by
      rw [← harg]
      simp only [invoke]
      exact run_callFunc hb
    rw [this]
    exact h
  · have : (invoke (.fn (.func f) (V.denL c cap).toArray) ((V.denL c first).toArray ++ (V.denL c args).toArray)).run P w = .ok (.value v) w' := by
      rw [← h1, ← harg]
      simp only [invoke]
    rw [this]
    exact h2
theorem Goes.enterV {f : FuncId} {first cap : List V} {b : Nat} {c : Cx} {w : World} {K : Value → World → Prop} (h : Goes P f (first ++ ([.yld b] ++ cap)) c w K fun _ _ => False) : Sh.enterV P ((V.fn f first cap).den c) (V.denL c [.yld b]).toArray w K := by
  have harg : (V.denL c first).toArray ++ (V.denL c [.yld b]).toArray ++ (V.denL c cap).toArray = (V.denL c (first ++ ([.yld b] ++ cap))).toArray := by
    rw [denL_app, denL_app]
    simp
  simp only [V.den]
  unfold Sh.enterV
  simp only
  rcases h with ⟨hb, h⟩ | ⟨_, h⟩
  · refine ⟨f, _, w, ?_, CallX.to_V h⟩
    rw [← harg]
    simp only [invoke]
    exact run_callFunc hb
  · obtain ⟨k, n, hh⟩ := h (.yld b) (by simp)
    cases hh
/-- A function that asks for no memory and leaves none. -/
theorem back_ok (hX : PX P X) {call : CallF} (hc : CallOK P call) {lf : Nat} {f : Nat} {args : List V} {c : Cx} {w0 : Bs} {w : World} {H : Hs} {K : Value → World → Prop} {Q : List PanicEntry → World → Prop} (hr : Rep c w0 w H) (hl : V.flatL args = true) (h : RsOK c w0 H K Q (backV H (enterF P X call lf f args H0))) : Goes P f args c w K Q := by
  cases hE : enterF P X call lf f args H0 with
  | no => rw [hE] at h; exact h.elim
  | pan v H' => rw [hE] at h; exact h.elim
  | ok v H' =>
    rw [hE] at h
    unfold backV at h
    simp only at h
    split at h <;> first | exact h.elim | skip
    rename_i hfl
    have hr0 : Rep c ⟨w, fun _ => False, fun _ => False⟩ w H0 := ⟨Ext.refl w, fun b o _ hg => (by rw [show H0.get b = none from Tr.get_nil b] at hg; cases hg), fun b o hb => absurd hb (Nat.not_lt_zero b), fun b o hb => absurd hb (Nat.not_lt_zero b), fun b b' o o' hb => absurd hb (Nat.not_lt_zero b), fun p hp => (by cases hp), by show (0 : Nat) < _; omega⟩
    refine enterF_ok (lf := lf) hX hc hr0 (flatL_lt args hl) ?_
    rw [hE]
    intro c' w' h1 h2 h3 h4
    have hb : Bl w w' := h3.bl.bl fun _ _ h => h
    rw [V.agr h1 v (flat_lt v hfl)]
    exact h c w' (Agr.refl _ _) (Nat.le_refl _) (hr.world hb) (flat_lt v hfl)
theorem clone_ok (hX : PX P X) {f : Nat} {b : Nat} {c : Cx} {w0 : Bs} {w : World} {H : Hs} {z lc li : Nat} {fs : List (Sx × Bool)} (hr : Rep c w0 w H) (hm : memZ X.clones f = some z) (hb : b < H.next) (hg : H.get b = some (.opq true z lc li fs)) (hroom : roomB H = true) {K : Value → World → Prop} {Q : List PanicEntry → World → Prop} (h : RsOK c w0 H K Q (.ok (.slo H.next) (H.new (.opq true z lc li [])))) : Goes P f [.slo b] c w K Q := by
  obtain ⟨g1, g2⟩ := hX.clone f z hm
  unfold roomB at hroom
  rw [Nat.ble_eq] at hroom
  obtain ⟨hz, h1, h0, h2, _⟩ := hr.at_ _ _ hb hg
  have h2 := h2 rfl
  refine .inl ⟨g1, CallX.of_V (g2 w _ _ _ _ hz h1 (by omega) K fun p' n' k' w' k1 k2 k3 => ?_)⟩
  have e1 := h1.len
  have e2 := k2.len
  have hn : n' = (c.lists lc).length := by
    rw [← h0]
    exact Nat.eq_of_mul_eq_mul_right hz (e2.symm.trans e1)
  have hrep := hr.seen (by omega) k1 hz k2 hn h2 k3
  have := h _ w' (c.addS_agr _ _) (Nat.le_succ _) hrep (Nat.lt_succ_self _)
  simpa [V.den, Cx.addS_sv] using this
theorem callFn_ok (hX : PX P X) {lf n : Nat} (hc : CallOK P (callV P X lf n)) {f : Nat} {first cap args : List V} {c : Cx} {w0 : Bs} {w : World} {H : Hs} (hr : Rep c w0 w H) (hl : (V.fn f first cap).lt H.next) (hargs : V.ltL H.next args) {K : Value → World → Prop} {Q : List PanicEntry → World → Prop} (h : RsOK c w0 H K Q (callV P X lf (n + 1) (.fn f first cap) args H)) : Goes P f (first ++ (args ++ cap)) c w K Q := by
  have hall : V.ltL H.next (first ++ (args ++ cap)) := ltL_app hl.1 (ltL_app hargs hl.2)
  simp only [callV] at h
  split at h
  · rename_i b r1 r2 hs
    obtain ⟨g1, g2⟩ := hX.sums _ _ _ _ _ hs
    refine .inl ⟨g1, CallX.of_V (g2 c w K fun w' hb => ?_)⟩
    split at h <;> first | exact h.elim | skip
    · rename_i H1 hfl hx
      rw [Bool.and_eq_true] at hfl
      obtain ⟨q1, q2, q3⟩ := askB_ok hr hx
      rw [q1]
      exact h c w' (Agr.refl _ _) (Nat.le_of_eq q3.symm) (q2.world hb) (flat_lt _ hfl.1)
    · rename_i H1 hfl hx
      rw [Bool.and_eq_true] at hfl
      obtain ⟨q1, q2, q3⟩ := askB_ok hr hx
      rw [q1]
      exact h c w' (Agr.refl _ _) (Nat.le_of_eq q3.symm) (q2.world hb) (flat_lt _ hfl.2)
  split at h
  · have hno : normL (first ++ (args ++ cap)) (fun args => backV H (enterF P X (callV P X lf n) lf f args H0)) ≠ .no := fun e => by rw [e] at h; exact h
    obtain ⟨h1, h2⟩ := normL_ok _ _ hno
    rw [h1] at h
    exact back_ok hX hc hr h2 h
  · split at h
    · rename_i z b hm hb
      split at h <;> first | exact h.elim | skip
      rename_i z' lc li fs hg hroom
      split at h <;> first | exact h.elim | skip
      rename_i hzz
      have hzz := Nat.eq_of_beq_eq_true hzz
      subst hzz
      rw [hb] at hall ⊢
      exact clone_ok hX hr hm hall.1 hg hroom h
    · exact enterF_ok hX hc hr hall h
theorem callV_ok (hX : PX P X) {lf : Nat} : ∀ n, CallOK P (callV P X lf n)
  | 0 => ⟨fun c w0 w H g args hr hg ha v H' h => (by cases h), fun c w0 w H g args hr hg ha v H' h => (by cases h), fun c w0 w H f first cap b hr hg hb v H' h => (by cases h)⟩
  | n + 1 => by
    have ih := callV_ok hX (lf := lf) n
    have all : ∀ (c : Cx) (w0 : Bs) (w : World) (H : Hs) (g : V) (args : List V), Rep c w0 w H → g.lt H.next → V.ltL H.next args → ∀ (K : Value → World → Prop) (Q : List PanicEntry → World → Prop), RsOK c w0 H K Q (callV P X lf (n + 1) g args H) → callX P (g.den c) (V.denL c args).toArray w K Q := fun c w0 w H g args hr hg ha K Q h => by
      by_cases h1 : ∃ f first cap, g = .fn f first cap
      · obtain ⟨f, first, cap, rfl⟩ := h1
        exact (callFn_ok hX ih hr hg ha h).callX
      · by_cases h2 : ∃ l, g = .yld l
        · obtain ⟨l, rfl⟩ := h2
          simp only [callV] at h
          split at h <;> first | exact h.elim | skip
          rename_i hget
          exact round_ok hX.pv ih hr hg hget ha h
        · exfalso
          cases g <;> first | exact h.elim | exact h1 ⟨_, _, _, rfl⟩ | exact h2 ⟨_, rfl⟩
    refine ⟨fun c w0 w H g args hr hg ha v H' h K Q hK => all c w0 w H g args hr hg ha K Q (by rw [h]; exact hK), fun c w0 w H g args hr hg ha v H' h K Q hK => all c w0 w H g args hr hg ha K Q (by rw [h]; exact hK), fun c w0 w H f first cap b hr hg hb v H' h K hK => ?_⟩
    exact (callFn_ok hX ih hr hg (args := [.yld b]) ⟨hb, trivial⟩ (K := K) (Q := fun _ _ => False) (by rw [h]; exact hK)).enterV
end
end Go.Proofs.YtcanicgpkbhhdaaGreatDoor.Rn

namespace Go.Proofs.YtcanicgpkbhhdaaGreatDoor.Rn
open Go Go.RowKit Go.Proofs.YtcanicgpkbhhdaaGreatDoor.Sh
set_option linter.unusedVariables false
set_option linter.unusedSimpArgs false
set_option maxRecDepth 100000
def bodiesB (P : Program) : Bool := (natsTo P.funcs.size 0).all fun f => match P.funcs[f]? with
  | some fn => !(fn.body.isSome) || hasBodyB P f
  | none => true
theorem bodies_ok {P : Program} (h : bodiesB P = true) : ∀ f fn c, P.funcs[f]? = some fn → fn.body = some c → hasBodyB P f = true := fun f fn c hf hb => by
  have hlt : f < P.funcs.size := (Array.getElem?_eq_some_iff.1 hf).1
  have hlt' : (f : Nat) < 0 + P.funcs.size := by rw [Nat.zero_add]; exact hlt
  have := List.all_eq_true.1 h f (natsTo_mem _ 0 f (Nat.zero_le _) hlt')
  rw [hf] at this
  simp only [hb, Option.isSome_some, Bool.not_true, Bool.false_or] at this
  exact this
theorem bodies : bodiesB Tryz.prog = true := by kernel_rfl
theorem three_run {P : Program} {name : String} {k1 k2 k3 : IntKind} {a b c : Nat} {w : World} (hc : c ≤ 1) : (Extern.MathBitsCarry.three name #[.int k1 (.ofNat a), .int k2 (.ofNat b), .int k3 (.ofNat c)]).run P w = .ok (a, b, c) w := by
  obtain rfl | rfl : c = 0 ∨ c = 1 := by omega
  · rfl
  · rfl
theorem add_run (k1 k2 k3 : IntKind) (a b c : Nat) (w : World) (hc : c ≤ 1) : (callFunc 209 #[.int k1 (.ofNat a), .int k2 (.ofNat b), .int k3 (.ofNat c)]).run Tryz.prog w = .ok (.value (.tuple #[.int .u64 (.ofNat ((a + b + c) % 18446744073709551616)), .int .u64 (.ofNat ((a + b + c) / 18446744073709551616))])) w := by
  rw [run_callFunc_extern (P := Tryz.prog) (f := 209) Tryz.func209 (by kernel_rfl) (by kernel_rfl) (by kernel_rfl) (e := add64Entry) (by kernel_rfl)]
  unfold add64Entry
  rw [Sem.run_bind, three_run hc]
  rfl
theorem sub_run (k1 k2 k3 : IntKind) (a b c : Nat) (w : World) (hc : c ≤ 1) : (callFunc 211 #[.int k1 (.ofNat a), .int k2 (.ofNat b), .int k3 (.ofNat c)]).run Tryz.prog w = .ok (.value (.tuple #[.int .u64 (.ofNat ((a + 18446744073709551616 - b - c) % 18446744073709551616)), .int .u64 (.ofNat (if a < b + c then 1 else 0))])) w := by
  rw [run_callFunc_extern (P := Tryz.prog) (f := 211) Tryz.func211 (by kernel_rfl) (by kernel_rfl) (by kernel_rfl) (e := fun args => do
    let (x, y, b) ← Extern.MathBitsCarry.three "Sub64" args
    pure (Extern.MathBitsCarry.pair ((x + Extern.MathBitsCarry.m64 - y - b) % Extern.MathBitsCarry.m64) (if x < y + b then 1 else 0))) (by kernel_rfl)]
  rw [Sem.run_bind, three_run hc]
  rfl
theorem pv : PV Tryz.prog := ⟨of_decide_eq_true (by kernel_rfl), of_decide_eq_true (by kernel_rfl)⟩
end Go.Proofs.YtcanicgpkbhhdaaGreatDoor.Rn

namespace Go.Proofs.YtcanicgpkbhhdaaGreatDoor.W
open Go Go.Proofs.YtcanicgpkbhhdaaGreatDoor.Sh
set_option linter.unusedVariables false
set_option maxRecDepth 100000

def strXC_0 : ByteArray := ⟨#[0, 1, 2, 2, 3, 3, 3, 3, 4, 4, 4, 4, 4, 4, 4, 4, 5, 5, 5, 5, 5, 5, 5, 5, 5, 5, 5, 5, 5, 5, 5, 5, 6, 6, 6, 6, 6, 6, 6, 6, 6, 6, 6, 6, 6, 6, 6, 6, 6, 6, 6, 6, 6, 6, 6, 6, 6, 6, 6, 6, 6, 6, 6, 6, 7, 7, 7, 7, 7, 7, 7, 7, 7, 7, 7, 7, 7, 7, 7, 7, 7, 7, 7, 7, 7, 7, 7, 7, 7, 7, 7, 7, 7, 7, 7, 7, 7, 7, 7, 7, 7, 7, 7, 7, 7, 7, 7, 7, 7, 7, 7, 7, 7, 7, 7, 7, 7, 7, 7, 7, 7, 7, 7, 7, 7, 7, 7, 7, 8, 8, 8, 8, 8, 8, 8, 8, 8, 8, 8, 8, 8, 8, 8, 8, 8, 8, 8, 8, 8, 8, 8, 8, 8, 8, 8, 8, 8, 8, 8, 8, 8, 8, 8, 8, 8, 8, 8, 8, 8, 8, 8, 8, 8, 8, 8, 8, 8, 8, 8, 8, 8, 8, 8, 8, 8, 8, 8, 8, 8, 8, 8, 8, 8, 8, 8, 8, 8, 8, 8, 8, 8, 8, 8, 8, 8, 8, 8, 8, 8, 8, 8, 8, 8, 8, 8, 8, 8, 8, 8, 8, 8, 8, 8, 8, 8, 8, 8, 8, 8, 8, 8, 8, 8, 8, 8, 8, 8, 8, 8, 8, 8, 8, 8, 8, 8, 8, 8, 8, 8, 8, 8, 8, 8, 8, 8, 8]⟩
/-! 34 slices.Clone[[]byte,byte] -/
def F34 (a0p : Option Addr) (a0l : Nat) (a0c : Nat) (w : World) (R : Value → World → Prop) : Prop :=
  ifB (Option.isNone a0p) (R (.slice none 0 0) w) (allocK w (.cells #[] 5) fun w1 => semK Tryz.prog (Builtin.append_ #[28, 28] 28 #[(.slice (some ⟨w.heap.size, 0, none⟩) 0 0), (.slice a0p a0l a0c)]) w1 fun v1 w2 => asL v1 fun l1p l1l l1c => R (.slice l1p l1l l1c) w2)
def A34 (R : Value → World → Prop) : Ann := .no
theorem sides34 (R : Value → World → Prop) : fnSides Tryz.prog Tryz.f34 (A34 R) R := by
  trivial
theorem call34 (a0p : Option Addr) (a0l : Nat) (a0c : Nat) (w : World) (R : Value → World → Prop) (h : F34 a0p a0l a0c w R) : CallV Tryz.prog 34 #[(.slice a0p a0l a0c)] w R :=
  callV_of (fn := Tryz.f34) (an := A34 R) (args := [(.slice a0p a0l a0c)]) Tryz.func34 rfl (sides34 R) (Eq.mp (by kernel_rfl) h)

/-! 35 slices.Clone[[]vouch/api.Hash,vouch/api.Hash] -/
def F35 (a0p : Option Addr) (a0l : Nat) (a0c : Nat) (w : World) (R : Value → World → Prop) : Prop :=
  ifB (Option.isNone a0p) (R (.slice none 0 0) w) (allocK w (.cells #[] 59) fun w1 => semK Tryz.prog (Builtin.append_ #[38, 38] 38 #[(.slice (some ⟨w.heap.size, 0, none⟩) 0 0), (.slice a0p a0l a0c)]) w1 fun v1 w2 => asL v1 fun l1p l1l l1c => R (.slice l1p l1l l1c) w2)
def A35 (R : Value → World → Prop) : Ann := .no
theorem sides35 (R : Value → World → Prop) : fnSides Tryz.prog Tryz.f35 (A35 R) R := by
  trivial
theorem call35 (a0p : Option Addr) (a0l : Nat) (a0c : Nat) (w : World) (R : Value → World → Prop) (h : F35 a0p a0l a0c w R) : CallV Tryz.prog 35 #[(.slice a0p a0l a0c)] w R :=
  callV_of (fn := Tryz.f35) (an := A35 R) (args := [(.slice a0p a0l a0c)]) Tryz.func35 rfl (sides35 R) (Eq.mp (by kernel_rfl) h)

/-! 141 vouch/word.ahead -/
def L141_0 (R : Value → World → Prop) : Nat → Addr → Int → Int → World → Prop
  | 0 => fun _ _ _ _ => False
  | k + 1 => fun x1 x3 x4 w => ifB (decide ((x4 : Int) ≥ 0)) (semK Tryz.prog (Instr.indexAt 24 (.pointer (some x1)) (.int .i64 x4)) w fun v1 w1 => asA v1 fun ad1 => ldK Tryz.prog w1 ad1 fun v2 => asI .u64 v2 fun n1 => CallV Tryz.prog 213 #[(.int .u64 n1)] w1 fun v3 w2 => asI .i64 v3 fun n2 => ifB (decide ((n2 : Int) < 64)) (R (.int .i64 (IntKind.wrap .i64 (x3 + n2))) w2) (L141_0 R k x1 (IntKind.wrap .i64 (x3 + n2)) (IntKind.wrap .i64 (x4 - 1)) w2)) (R (.int .i64 x3) w)
def F141 (a0_0 : Int) (a0_1 : Int) (a0_2 : Int) (a0_3 : Int) (w : World) (R : Value → World → Prop) : Prop :=
  allocK w (.cells #[(.int .u64 a0_0), (.int .u64 a0_1), (.int .u64 a0_2), (.int .u64 a0_3)] 24) fun w1 => ∃ m, L141_0 R m ⟨w.heap.size, 0, none⟩ 0 3 w1
def A141 (R : Value → World → Prop) : Ann := (.seq .no (.seq .no (.seq (.seq .no (.block (.loop (fun m e ds w => nilD ds (asA (e 1) fun x1 => asI .i64 (e 3) fun x3 => asI .i64 (e 4) fun x4 => L141_0 R m x1 x3 x4 w)) (fun kL141_0 => .no)))) .no)))
theorem sides141 (R : Value → World → Prop) : fnSides Tryz.prog Tryz.f141 (A141 R) R := by
  exact (ai trivial (ai trivial (ai (ai trivial (ai (by intro e ds w h; replace h := nilD_elim h; obtain ⟨rfl, h⟩ := h; obtain ⟨x1, z1, h⟩ := asA_elim h; obtain ⟨x3, z3, h⟩ := asI_elim h; obtain ⟨x4, z4, h⟩ := asI_elim h; exact h) (ai (by intro kL141_0 e ds w h; replace h := nilD_elim h; obtain ⟨rfl, h⟩ := h; obtain ⟨x1, z1, h⟩ := asA_elim h; obtain ⟨x3, z3, h⟩ := asI_elim h; obtain ⟨x4, z4, h⟩ := asI_elim h; rw [← putL_id (aC z1 (aC z3 (aC z4 aN)))]; exact Eq.mp (by kernel_rfl) h) (fun kL141_0 => trivial)))) trivial)))
theorem call141 (a0_0 : Int) (a0_1 : Int) (a0_2 : Int) (a0_3 : Int) (w : World) (R : Value → World → Prop) (h : F141 a0_0 a0_1 a0_2 a0_3 w R) : CallV Tryz.prog 141 #[(.agg #[(.int .u64 a0_0), (.int .u64 a0_1), (.int .u64 a0_2), (.int .u64 a0_3)])] w R :=
  callV_of (fn := Tryz.f141) (an := A141 R) (args := [(.agg #[(.int .u64 a0_0), (.int .u64 a0_1), (.int .u64 a0_2), (.int .u64 a0_3)])]) Tryz.func141 rfl (sides141 R) (Eq.mp (by kernel_rfl) h)

/-! 169 vouch/word.Uint -/
def F169 (a0_0 : Int) (a0_1 : Int) (a0_2 : Int) (a0_3 : Int) (w : World) (R : Value → World → Prop) : Prop :=
  allocK w (.cells #[(.int .u64 a0_0), (.int .u64 a0_1), (.int .u64 a0_2), (.int .u64 a0_3)] 24) fun w1 => ldK Tryz.prog w1 ⟨w.heap.size, 0, none⟩ fun v1 => asI .u64 v1 fun n1 => ldK Tryz.prog w1 ⟨w.heap.size, 1, none⟩ fun v2 => asI .u64 v2 fun n2 => ldK Tryz.prog w1 ⟨w.heap.size, 2, none⟩ fun v3 => asI .u64 v3 fun n3 => ldK Tryz.prog w1 ⟨w.heap.size, 3, none⟩ fun v4 => asI .u64 v4 fun n4 => CallV Tryz.prog 219 #[(.agg #[(.int .u64 n1), (.int .u64 n2), (.int .u64 n3), (.int .u64 n4)])] w1 fun v5 w2 => asI .i64 v5 fun n5 => ifB (decide ((n5 : Int) > 8)) (R (.tuple #[(.int .u64 0), (.bool false)]) w2) (ldK Tryz.prog w2 ⟨w.heap.size, 0, none⟩ fun v6 => asI .u64 v6 fun n6 => R (.tuple #[(.int .u64 n6), (.bool true)]) w2)
def A169 (R : Value → World → Prop) : Ann := .no
theorem sides169 (R : Value → World → Prop) : fnSides Tryz.prog Tryz.f169 (A169 R) R := by
  trivial
theorem call169 (a0_0 : Int) (a0_1 : Int) (a0_2 : Int) (a0_3 : Int) (w : World) (R : Value → World → Prop) (h : F169 a0_0 a0_1 a0_2 a0_3 w R) : CallV Tryz.prog 169 #[(.agg #[(.int .u64 a0_0), (.int .u64 a0_1), (.int .u64 a0_2), (.int .u64 a0_3)])] w R :=
  callV_of (fn := Tryz.f169) (an := A169 R) (args := [(.agg #[(.int .u64 a0_0), (.int .u64 a0_1), (.int .u64 a0_2), (.int .u64 a0_3)])]) Tryz.func169 rfl (sides169 R) (Eq.mp (by kernel_rfl) h)

/-! 213 math/bits.LeadingZeros64 -/
def F213 (a0 : Int) (w : World) (R : Value → World → Prop) : Prop :=
  CallV Tryz.prog 269 #[(.int .u64 a0)] w fun v1 w1 => asI .i64 v1 fun n1 => R (.int .i64 (IntKind.wrap .i64 (64 - n1))) w1
def A213 (R : Value → World → Prop) : Ann := .no
theorem sides213 (R : Value → World → Prop) : fnSides Tryz.prog Tryz.f213 (A213 R) R := by
  trivial
theorem call213 (a0 : Int) (w : World) (R : Value → World → Prop) (h : F213 a0 w R) : CallV Tryz.prog 213 #[(.int .u64 a0)] w R :=
  callV_of (fn := Tryz.f213) (an := A213 R) (args := [(.int .u64 a0)]) Tryz.func213 rfl (sides213 R) (Eq.mp (by kernel_rfl) h)

/-! 219 vouch/word.Size -/
def F219 (a0_0 : Int) (a0_1 : Int) (a0_2 : Int) (a0_3 : Int) (w : World) (R : Value → World → Prop) : Prop :=
  allocK w (.cells #[(.int .u64 a0_0), (.int .u64 a0_1), (.int .u64 a0_2), (.int .u64 a0_3)] 24) fun w1 => ldK Tryz.prog w1 ⟨w.heap.size, 0, none⟩ fun v1 => asI .u64 v1 fun n1 => ldK Tryz.prog w1 ⟨w.heap.size, 1, none⟩ fun v2 => asI .u64 v2 fun n2 => ldK Tryz.prog w1 ⟨w.heap.size, 2, none⟩ fun v3 => asI .u64 v3 fun n3 => ldK Tryz.prog w1 ⟨w.heap.size, 3, none⟩ fun v4 => asI .u64 v4 fun n4 => CallV Tryz.prog 141 #[(.agg #[(.int .u64 n1), (.int .u64 n2), (.int .u64 n3), (.int .u64 n4)])] w1 fun v5 w2 => asI .i64 v5 fun n5 => R (.int .i64 (IntKind.wrap .i64 (Int.tdiv (IntKind.wrap .i64 (263 - n5)) 8))) w2
def A219 (R : Value → World → Prop) : Ann := .no
theorem sides219 (R : Value → World → Prop) : fnSides Tryz.prog Tryz.f219 (A219 R) R := by
  trivial
theorem call219 (a0_0 : Int) (a0_1 : Int) (a0_2 : Int) (a0_3 : Int) (w : World) (R : Value → World → Prop) (h : F219 a0_0 a0_1 a0_2 a0_3 w R) : CallV Tryz.prog 219 #[(.agg #[(.int .u64 a0_0), (.int .u64 a0_1), (.int .u64 a0_2), (.int .u64 a0_3)])] w R :=
  callV_of (fn := Tryz.f219) (an := A219 R) (args := [(.agg #[(.int .u64 a0_0), (.int .u64 a0_1), (.int .u64 a0_2), (.int .u64 a0_3)])]) Tryz.func219 rfl (sides219 R) (Eq.mp (by kernel_rfl) h)

/-! 269 math/bits.Len64 -/
def J269_1 (R : Value → World → Prop) (x0 : Int) (x2 : Int) (w : World) : Prop :=
  ifB (decide ((x0 : Int) ≥ 256)) (semK Tryz.prog (Instr.index 9 (.string strXC_0) (.int .u8 (IntKind.wrap .u8 (Int.fdiv x0 (2 ^ (min (8 : Int).toNat 64)))))) w fun v1 w1 => asI .u8 v1 fun n1 => R (.int .i64 (IntKind.wrap .i64 ((IntKind.wrap .i64 (x2 + 8)) + (IntKind.wrap .i64 n1)))) w1) (semK Tryz.prog (Instr.index 9 (.string strXC_0) (.int .u8 (IntKind.wrap .u8 x0))) w fun v2 w2 => asI .u8 v2 fun n2 => R (.int .i64 (IntKind.wrap .i64 (x2 + (IntKind.wrap .i64 n2)))) w2)
def J269_0 (R : Value → World → Prop) (x0 : Int) (x2 : Int) (w : World) : Prop :=
  ifB (decide ((x0 : Int) ≥ 65536)) (J269_1 R (Int.fdiv x0 (2 ^ (min (16 : Int).toNat 64))) (IntKind.wrap .i64 (x2 + 16)) w) (J269_1 R x0 x2 w)
def F269 (a0 : Int) (w : World) (R : Value → World → Prop) : Prop :=
  ifB (decide ((a0 : Int) ≥ 4294967296)) (J269_0 R (Int.fdiv a0 (2 ^ (min (32 : Int).toNat 64))) 32 w) (J269_0 R a0 0 w)
def A269 (R : Value → World → Prop) : Ann := (.seq .no (.join (fun e ds w => nilD ds (asI .u64 (e 0) fun x0 => asI .i64 (e 2) fun x2 => J269_0 R x0 x2 w)) .no (.join (fun e ds w => nilD ds (asI .u64 (e 0) fun x0 => asI .i64 (e 2) fun x2 => J269_1 R x0 x2 w)) .no .no)))
theorem sides269 (R : Value → World → Prop) : fnSides Tryz.prog Tryz.f269 (A269 R) R := by
  exact (ai trivial (ai (by intro e ds w h; replace h := nilD_elim h; obtain ⟨rfl, h⟩ := h; obtain ⟨x0, z0, h⟩ := asI_elim h; obtain ⟨x2, z2, h⟩ := asI_elim h; rw [← putL_id (aC z0 (aC z2 aN))]; exact Eq.mp (by kernel_rfl) h) (ai trivial (ai (by intro e ds w h; replace h := nilD_elim h; obtain ⟨rfl, h⟩ := h; obtain ⟨x0, z0, h⟩ := asI_elim h; obtain ⟨x2, z2, h⟩ := asI_elim h; rw [← putL_id (aC z0 (aC z2 aN))]; exact Eq.mp (by kernel_rfl) h) (ai trivial trivial)))))
theorem call269 (a0 : Int) (w : World) (R : Value → World → Prop) (h : F269 a0 w R) : CallV Tryz.prog 269 #[(.int .u64 a0)] w R :=
  callV_of (fn := Tryz.f269) (an := A269 R) (args := [(.int .u64 a0)]) Tryz.func269 rfl (sides269 R) (Eq.mp (by kernel_rfl) h)
end Go.Proofs.YtcanicgpkbhhdaaGreatDoor.W

namespace Go.Proofs.YtcanicgpkbhhdaaGreatDoor.W
open Go Go.Proofs.YtcanicgpkbhhdaaGreatDoor.Sh Go.RowKit
set_option linter.unusedVariables false
set_option maxRecDepth 100000
section
variable {w W : World} {K : Value → World → Prop}
/-- Four numbers. -/
structure Q4 where
  a : Int
  b : Int
  c : Int
  d : Int
instance : DecidableEq Q4 := fun x y => decidable_of_iff (x.a = y.a ∧ x.b = y.b ∧ x.c = y.c ∧ x.d = y.d) (by cases x; cases y; simp)
def Q4.v (x : Q4) : Value := .agg #[.int .u64 x.a, .int .u64 x.b, .int .u64 x.c, .int .u64 x.d]
def Q4.z : Q4 := ⟨0, 0, 0, 0⟩
def Q4.ok (x : Q4) : Prop := (0 ≤ x.a ∧ x.a ≤ 18446744073709551615) ∧ (0 ≤ x.b ∧ x.b ≤ 18446744073709551615) ∧ (0 ≤ x.c ∧ x.c ≤ 18446744073709551615) ∧ (0 ≤ x.d ∧ x.d ≤ 18446744073709551615)
/-- A block holds them. -/
def WQ (w : World) (b : Nat) (x : Q4) : Prop := Own w b #[.int .u64 x.a, .int .u64 x.b, .int .u64 x.c, .int .u64 x.d] 24
variable {x y z o l i : Q4}
theorem alQ {F : World → Prop} (h : ∀ w', WQ w' w.heap.size x → Bl w w' → w'.heap.size = w.heap.size + 1 → F w') : allocK w (.cells #[.int .u64 x.a, .int .u64 x.b, .int .u64 x.c, .int .u64 x.d] 24) F :=
  h _ (Own.new _ _ _) ((Bl.refl w).alloc _) (size_alloc _ _)
theorem ldQ {w : World} {b : Nat} {F : Int → Int → Int → Int → Prop} (h : WQ w b x) (k : F x.a x.b x.c x.d) :
    ldK Tryz.prog w ⟨b, 0, none⟩ fun v1 => asI .u64 v1 fun n1 => ldK Tryz.prog w ⟨b, 1, none⟩ fun v2 => asI .u64 v2 fun n2 => ldK Tryz.prog w ⟨b, 2, none⟩ fun v3 => asI .u64 v3 fun n3 => ldK Tryz.prog w ⟨b, 3, none⟩ fun v4 => asI .u64 v4 fun n4 => F n1 n2 n3 n4 := ld4 h.w4 k
/-! ### How many bits -/
/-- L is the number of bits of n. -/
def BitsOf (n L : Nat) : Prop := (n = 0 ∧ L = 0) ∨ (0 < L ∧ 2 ^ (L - 1) ≤ n ∧ n < 2 ^ L)
instance (n L : Nat) : Decidable (BitsOf n L) := by unfold BitsOf; infer_instance
theorem bits_shift {n L s : Nat} (h : BitsOf (n / 2 ^ s) L) (hn : 2 ^ s ≤ n) : BitsOf n (L + s) := by
  have hp : 0 < 2 ^ s := Nat.two_pow_pos s
  rcases h with ⟨h0, _⟩ | ⟨h0, h1, h2⟩
  · have := Nat.div_pos hn hp; omega
  · refine .inr ⟨by omega, ?_, ?_⟩
    · rw [show L + s - 1 = (L - 1) + s by omega, Nat.pow_add]
      exact (Nat.le_div_iff_mul_le hp).1 h1
    · rw [Nat.pow_add]
      exact (Nat.div_lt_iff_lt_mul hp).1 h2
theorem strXC_0_size : strXC_0.size = 256 := by decide +kernel
def tab (i : Nat) : Nat := (strXC_0.data.getD i 0).toNat
theorem tab_bits : ∀ i, i < 256 → BitsOf i (tab i) := by decide +kernel
theorem tab_at {i : Nat} (h : i < strXC_0.size) : (strXC_0[i]'h).toNat = tab i := by
  unfold tab
  congr 1
  have h' : i < strXC_0.data.size := h
  rw [Array.getD, dif_pos h']
  rfl
theorem tab_le : ∀ i, i < 256 → tab i ≤ 8 := by decide +kernel
theorem tabK {v : Int} {F : Value → World → Prop} (h0 : 0 ≤ v) (h1 : v < 256) (k : F (.int .u8 (tab v.toNat)) w) : semK Tryz.prog (Instr.index 9 (.string strXC_0) (.int .u8 v)) w F := by
  have hs := strXC_0_size
  refine ixStr (by kernel_rfl) h0 (by omega) ?_
  rw [tab_at (by omega)]; exact k

theorem len_end {x : Nat} {s : Nat} (hx : x < 65536) (hs : s ≤ 48) (k : ∀ L : Nat, BitsOf x L → L ≤ 16 → K (.int .i64 ((s + L : Nat) : Int)) w) : J269_1 K x s w := by
  unfold J269_1
  refine ifD (fun h => ?_) fun h => ?_
  · have e : Int.fdiv (x : Int) (2 ^ (min (8 : Int).toNat 64)) = ((x / 256 : Nat) : Int) := by
      rw [show (min (8 : Int).toNat 64) = 8 by decide, show ((2 : Int) ^ 8) = ((256 : Nat) : Int) by decide]; exact Int.ofNat_fdiv x 256 |>.symm
    rw [e]
    have hq : x / 256 < 256 := by omega
    rw [show IntKind.wrap .u8 ((x / 256 : Nat) : Int) = ((x / 256 : Nat) : Int) by rw [u8w]; omega]
    refine tabK (by omega) (by omega) (asI_of ?_)
    have ht := tab_le (x / 256) hq
    have hb : BitsOf x (tab (x / 256) + 8) := bits_shift (s := 8) (tab_bits _ hq) (by omega)
    rw [show ((x / 256 : Nat) : Int).toNat = x / 256 from Int.toNat_natCast _, show IntKind.wrap .i64 ((s : Int) + 8) = (s : Int) + 8 from i64w (by omega) (by omega), show IntKind.wrap .i64 (tab (x / 256) : Int) = (tab (x / 256) : Int) from i64w (by omega) (by omega), show IntKind.wrap .i64 ((s : Int) + 8 + (tab (x / 256) : Int)) = ((s + (tab (x / 256) + 8) : Nat) : Int) by rw [i64w (by omega) (by omega)]; omega]
    exact k _ hb (by omega)
  · have hq : x < 256 := by omega
    rw [show IntKind.wrap .u8 (x : Int) = (x : Int) by rw [u8w]; omega]
    refine tabK (by omega) (by omega) (asI_of ?_)
    have ht := tab_le x hq
    rw [show (x : Int).toNat = x from Int.toNat_natCast _, show IntKind.wrap .i64 (tab x : Int) = (tab x : Int) from i64w (by omega) (by omega), show IntKind.wrap .i64 ((s : Int) + (tab x : Int)) = ((s + tab x : Nat) : Int) by rw [i64w (by omega) (by omega)]; omega]
    exact k _ (tab_bits _ hq) (by omega)
theorem len_mid {x : Nat} {s : Nat} (hx : x < 4294967296) (hs : s ≤ 32) (k : ∀ L : Nat, BitsOf x L → L ≤ 32 → K (.int .i64 ((s + L : Nat) : Int)) w) : J269_0 K x s w := by
  unfold J269_0
  refine ifD (fun h => ?_) fun h => ?_
  · have e : Int.fdiv (x : Int) (2 ^ (min (16 : Int).toNat 64)) = ((x / 65536 : Nat) : Int) := by
      rw [show (min (16 : Int).toNat 64) = 16 by decide, show ((2 : Int) ^ 16) = ((65536 : Nat) : Int) by decide]; exact Int.ofNat_fdiv x 65536 |>.symm
    rw [e, show IntKind.wrap .i64 ((s : Int) + 16) = ((s + 16 : Nat) : Int) by rw [i64w (by omega) (by omega)]; omega]
    refine len_end (by omega) (by omega) fun L hL hl => ?_
    rw [show s + 16 + L = s + (L + 16) by omega]
    exact k _ (bits_shift (s := 16) hL (by omega)) (by omega)
  · exact len_end (by omega) (by omega) fun L hL hl => k L hL (by omega)
theorem len64 {x : Nat} (hx : x < 18446744073709551616) (k : ∀ L : Nat, BitsOf x L → L ≤ 64 → K (.int .i64 (L : Int)) w) : CallV Tryz.prog 269 #[.int .u64 (x : Int)] w K := by
  refine call269 x w K ?_
  unfold F269
  refine ifD (fun h => ?_) fun h => ?_
  · have e : Int.fdiv (x : Int) (2 ^ (min (32 : Int).toNat 64)) = ((x / 4294967296 : Nat) : Int) := by
      rw [show (min (32 : Int).toNat 64) = 32 by decide, show ((2 : Int) ^ 32) = ((4294967296 : Nat) : Int) by decide]; exact Int.ofNat_fdiv x 4294967296 |>.symm
    rw [e]
    refine len_mid (s := 32) (by omega) (by omega) fun L hL hl => ?_
    rw [show 32 + L = L + 32 by omega]
    exact k _ (bits_shift (s := 32) hL (by omega)) (by omega)
  · exact len_mid (s := 0) (by omega) (by omega) fun L hL hl => by rw [Nat.zero_add]; exact k L hL (by omega)
theorem zeros64 {x : Nat} (hx : x < 18446744073709551616) (k : ∀ L : Nat, BitsOf x L → L ≤ 64 → K (.int .i64 ((64 - L : Nat) : Int)) w) : CallV Tryz.prog 213 #[.int .u64 (x : Int)] w K := by
  refine call213 x w K ?_
  unfold F213
  refine len64 hx fun L hL hl => asI_of ?_
  rw [show IntKind.wrap .i64 (64 - (L : Int)) = ((64 - L : Nat) : Int) by rw [i64w (by omega) (by omega)]; omega]
  exact k L hL hl

/-! ### How many bytes -/
def byteN (xs : Nat → Nat) (k : Nat) : Nat := xs (k / 8) / 256 ^ (k % 8) % 256
/-- Of the first m bytes, the last that is not 0 is the one ahead of S. -/
def SizeTo (xs : Nat → Nat) (m S : Nat) : Prop := (∀ k, S ≤ k → k < m → byteN xs k = 0) ∧ (S = 0 ∨ byteN xs (S - 1) ≠ 0) ∧ S ≤ m
theorem size_one {xs : Nat → Nat} {m S T : Nat} (h : SizeTo xs m S) (k : SizeTo xs m T) : S = T := by
  obtain ⟨h1, h2, h3⟩ := h
  obtain ⟨k1, k2, k3⟩ := k
  rcases Nat.lt_trichotomy S T with hl | hl | hl
  · rcases k2 with k2 | k2
    · omega
    · exact absurd (h1 (T - 1) (by omega) (by omega)) k2
  · exact hl
  · rcases h2 with h2 | h2
    · omega
    · exact absurd (k1 (S - 1) (by omega) (by omega)) h2
theorem pow_256 (n : Nat) : 256 ^ n = 2 ^ (8 * n) := by rw [show (256 : Nat) = 2 ^ 8 by decide, ← Nat.pow_mul]
theorem size_bits {xs : Nat → Nat} {j L : Nat} (hj : j < 4) (hz : ∀ i, j < i → i < 4 → xs i = 0) (hb : BitsOf (xs j) L) (h0 : 0 < L) (hl : L ≤ 64) : SizeTo xs 32 (8 * j + (L + 7) / 8) := by
  rcases hb with ⟨_, h⟩ | ⟨_, h1, h2⟩
  · omega
  generalize hB : (L + 7) / 8 = B
  have hB1 : 1 ≤ B ∧ B ≤ 8 ∧ L ≤ 8 * B ∧ 8 * (B - 1) ≤ L - 1 := by omega
  refine ⟨fun k hk hk2 => ?_, .inr ?_, by omega⟩
  · unfold byteN
    by_cases hj2 : k / 8 = j
    · have : xs (k / 8) < 256 ^ (k % 8) := by
        rw [hj2, pow_256]
        exact Nat.lt_of_lt_of_le h2 (Nat.pow_le_pow_right (by decide) (by omega))
      rw [Nat.div_eq_of_lt this]
    · rw [hz (k / 8) (by omega) (by omega)]; simp
  · unfold byteN
    rw [show (8 * j + B - 1) / 8 = j by omega, show (8 * j + B - 1) % 8 = B - 1 by omega]
    have p : 0 < 256 ^ (B - 1) := Nat.pow_pos (by decide)
    have q1 : 1 ≤ xs j / 256 ^ (B - 1) := by
      rw [Nat.le_div_iff_mul_le p, Nat.one_mul, pow_256]
      exact Nat.le_trans (Nat.pow_le_pow_right (by decide) hB1.2.2.2) h1
    have q2 : xs j / 256 ^ (B - 1) < 256 := by
      rw [Nat.div_lt_iff_lt_mul p, Nat.mul_comm, ← Nat.pow_succ, show (B - 1).succ = B by omega, pow_256]
      exact Nat.lt_of_lt_of_le h2 (Nat.pow_le_pow_right (by decide) hB1.2.2.1)
    rw [Nat.mod_eq_of_lt q2]; omega
theorem size_none {xs : Nat → Nat} (hz : ∀ i, i < 4 → xs i = 0) : SizeTo xs 32 0 :=
  ⟨fun k _ hk => by unfold byteN; rw [hz (k / 8) (by omega)]; simp, .inl rfl, by decide⟩

/-- The four numbers in a block, by their places. -/
def Lim (w : World) (b : Nat) (xs : Nat → Nat) : Prop := ∀ j, j < 4 → w.cell? ⟨b, j, none⟩ = some (.int .u64 (xs j : Int))
theorem Lim.bl {w w' : World} {b : Nat} {xs : Nat → Nat} (h : Lim w b xs) (k : Bl w w') : Lim w' b xs := fun j hj => k.cell (h j hj)
def limbs (x : Q4) : Nat → Nat | 0 => x.a.toNat | 1 => x.b.toNat | 2 => x.c.toNat | _ => x.d.toNat
theorem lim_of {b : Nat} {x : Q4} (hx : x.ok) (h : WQ w b x) : Lim w b (limbs x) := by
  obtain ⟨⟨a0, a1⟩, ⟨b0, b1⟩, ⟨c0, c1⟩, ⟨d0, d1⟩⟩ := hx
  intro j hj
  match j, hj with
  | 0, _ => rw [h.w4.c0]; simp only [limbs]; rw [Int.toNat_of_nonneg a0]
  | 1, _ => rw [h.w4.c1]; simp only [limbs]; rw [Int.toNat_of_nonneg b0]
  | 2, _ => rw [h.w4.c2]; simp only [limbs]; rw [Int.toNat_of_nonneg c0]
  | 3, _ => rw [h.w4.c3]; simp only [limbs]; rw [Int.toNat_of_nonneg d0]
theorem limbs_lt {x : Q4} (hx : x.ok) (j : Nat) : limbs x j < 18446744073709551616 := by
  obtain ⟨⟨a0, a1⟩, ⟨b0, b1⟩, ⟨c0, c1⟩, ⟨d0, d1⟩⟩ := hx
  match j with
  | 0 => simp only [limbs]; omega
  | 1 => simp only [limbs]; omega
  | 2 => simp only [limbs]; omega
  | n + 3 => simp only [limbs]; omega
theorem ixW {b : Nat} {j : Nat} {F : Value → World → Prop} (hj : j < 4) (k : F (.pointer (some ⟨b, j, none⟩)) w) : semK Tryz.prog (Instr.indexAt 24 (.pointer (some ⟨b, 0, none⟩)) (.int .i64 (j : Int))) w F :=
  ixA (n := 4) (e := 22) (z := 1) (by kernel_rfl) (by kernel_rfl) (by omega) (by omega) (by
    have : (⟨b, 0, none⟩ : Addr).add ((j : Int).toNat * 1) = ⟨b, j, none⟩ := by
      simp only [Addr.add, Int.toNat_natCast, Nat.mul_one, Nat.zero_add]
      try (simp; try omega)
    rw [this]; exact k)

/-- Size's number, out of ahead's. -/
def sizeOfA (A : Nat) : Nat := (263 - A) / 8
theorem ahead_loop {b : Nat} {xs : Nat → Nat} (hl : Lim w b xs) (hx : ∀ j, xs j < 18446744073709551616) (k : ∀ A : Nat, A ≤ 256 → SizeTo xs 32 (sizeOfA A) → K (.int .i64 (A : Int)) w) :
    ∀ (m : Nat) (n : Nat), m ≤ 4 → n + 64 * m = 256 → (∀ i, m ≤ i → i < 4 → xs i = 0) → L141_0 K (m + 1) ⟨b, 0, none⟩ n ((m : Int) - 1) w := by
  intro m
  induction m with
  | zero =>
    intro n hm hn hz
    simp only [L141_0]
    refine ifD (fun h => by omega) fun _ => k n (by omega) ?_
    rw [show sizeOfA n = 0 by unfold sizeOfA; omega]
    exact size_none fun i hi => hz i (by omega) hi
  | succ m ih =>
    intro n hm hn hz
    rw [L141_0]
    refine ifD (fun h => ?_) fun h => by omega
    rw [show (((m + 1 : Nat) : Int) - 1) = (m : Int) by omega]
    refine ixW (by omega) (show asA (.pointer (some _)) _ from ldI (hl m (by omega)) (zeros64 (hx m) fun L hL hl64 => asI_of (ifD (fun h2 => ?_) fun h2 => ?_)))
    · rw [show IntKind.wrap .i64 ((n : Int) + ((64 - L : Nat) : Int)) = ((n + (64 - L) : Nat) : Int) by rw [i64w (by omega) (by omega)]; omega]
      refine k _ (by omega) ?_
      have h3 : 0 < L := by omega
      rw [show sizeOfA (n + (64 - L)) = 8 * m + (L + 7) / 8 by unfold sizeOfA; omega]
      exact size_bits (by omega) (fun i h1 h2 => hz i (by omega) h2) hL h3 hl64
    · have h3 : L = 0 := by omega
      have h4 : xs m = 0 := by
        rcases hL with h | h
        · exact h.1
        · omega
      rw [show IntKind.wrap .i64 ((n : Int) + ((64 - L : Nat) : Int)) = ((n + 64 : Nat) : Int) by rw [i64w (by omega) (by omega)]; omega, show IntKind.wrap .i64 ((m : Int) - 1) = (m : Int) - 1 from i64w (by omega) (by omega)]
      refine ih (n + 64) (by omega) (by omega) fun i h1 h2 => ?_
      by_cases h5 : i = m
      · rw [h5]; exact h4
      · exact hz i (by omega) h2

variable {x : Q4}
theorem ahead (hx : x.ok) (k : ∀ (A : Nat) (w' : World), Bl w w' → A ≤ 256 → SizeTo (limbs x) 32 (sizeOfA A) → K (.int .i64 (A : Int)) w') : CallV Tryz.prog 141 #[x.v] w K := by
  refine call141 x.a x.b x.c x.d w K ?_
  unfold F141
  exact alQ fun w1 h1 b1 s1 => ⟨5, ahead_loop (lim_of hx h1) (limbs_lt hx) (fun A hA hs => k A w1 b1 hA hs) 4 0 (by decide) (by decide) fun i h1 h2 => by omega⟩
theorem wsize (hx : x.ok) (k : ∀ (S : Nat) (w' : World), Bl w w' → S ≤ 32 → SizeTo (limbs x) 32 S → K (.int .i64 (S : Int)) w') : CallV Tryz.prog 219 #[x.v] w K := by
  refine call219 x.a x.b x.c x.d w K ?_
  unfold F219
  refine alQ fun w1 h1 b1 s1 => ldQ h1 (ahead hx fun A w2 b2 hA hs => asI_of ?_)
  rw [show IntKind.wrap .i64 (263 - (A : Int)) = ((263 - A : Nat) : Int) by rw [i64w (by omega) (by omega)]; omega, show Int.tdiv ((263 - A : Nat) : Int) 8 = (((263 - A) / 8 : Nat) : Int) from rfl, show IntKind.wrap .i64 (((263 - A) / 8 : Nat) : Int) = (((263 - A) / 8 : Nat) : Int) from i64w (by omega) (by omega)]
  exact k _ w2 (b1.trans b2) (by unfold sizeOfA at hs; omega) hs

theorem high_zero {x : Nat} (hx : x < 18446744073709551616) (h : ∀ r, r < 8 → x / 256 ^ r % 256 = 0) : x = 0 := by
  have h0 := h 0 (by decide)
  have h1 := h 1 (by decide)
  have h2 := h 2 (by decide)
  have h3 := h 3 (by decide)
  have h4 := h 4 (by decide)
  have h5 := h 5 (by decide)
  have h6 := h 6 (by decide)
  have h7 := h 7 (by decide)
  simp only [Nat.reducePow, Nat.div_one] at h0 h1 h2 h3 h4 h5 h6 h7
  omega
theorem limb_one {xs : Nat → Nat} (hx : ∀ j, xs j < 18446744073709551616) {S : Nat} (h : SizeTo xs 32 S) : ¬ S > 8 ↔ xs 1 = 0 ∧ xs 2 = 0 ∧ xs 3 = 0 := by
  obtain ⟨h1, h2, h3⟩ := h
  refine ⟨fun hS => ?_, fun hz hS => ?_⟩
  · have : ∀ j, 1 ≤ j → j < 4 → xs j = 0 := fun j j1 j2 => high_zero (hx j) fun r hr => by
      have := h1 (8 * j + r) (by omega) (by omega)
      unfold byteN at this
      rw [show (8 * j + r) / 8 = j by omega, show (8 * j + r) % 8 = r by omega] at this
      exact this
    exact ⟨this 1 (by decide) (by decide), this 2 (by decide) (by decide), this 3 (by decide) (by decide)⟩
  · rcases h2 with h2 | h2
    · omega
    · refine h2 ?_
      unfold byteN
      have : xs ((S - 1) / 8) = 0 := by
        obtain e | e | e : (S - 1) / 8 = 1 ∨ (S - 1) / 8 = 2 ∨ (S - 1) / 8 = 3 := by omega
        · rw [e]; exact hz.1
        · rw [e]; exact hz.2.1
        · rw [e]; exact hz.2.2
      rw [this]
      simp
theorem uintW (hx : x.ok) (k : ∀ w', Bl w w' → K (if x.b = 0 ∧ x.c = 0 ∧ x.d = 0 then .tuple #[.int .u64 x.a, .bool true] else .tuple #[.int .u64 0, .bool false]) w') : CallV Tryz.prog 169 #[x.v] w K := by
  refine call169 x.a x.b x.c x.d w K ?_
  unfold F169
  refine alQ fun w1 h1 b1 s1 => ldQ h1 (wsize hx fun S w2 b2 hS hs => asI_of ?_)
  have hl := limb_one (limbs_lt hx) hs
  have e1 : x.b = 0 ∧ x.c = 0 ∧ x.d = 0 ↔ limbs x 1 = 0 ∧ limbs x 2 = 0 ∧ limbs x 3 = 0 := by
    obtain ⟨⟨a0, a1⟩, ⟨b0, b1⟩, ⟨c0, c1⟩, ⟨d0, d1⟩⟩ := hx
    simp only [limbs]
    omega
  refine ifD (fun h => ?_) fun h => ?_
  · have := k w2 (b1.trans b2)
    rw [if_neg (fun e => hl.2 (e1.1 e) (by omega))] at this
    exact this
  · have := k w2 (b1.trans b2)
    rw [if_pos (e1.2 (hl.1 (by omega)))] at this
    refine ldI (((lim_of hx h1).bl b2) 0 (by decide)) ?_
    rw [show ((limbs x 0 : Nat) : Int) = x.a from Int.toNat_of_nonneg hx.1.1]
    exact this
end
end Go.Proofs.YtcanicgpkbhhdaaGreatDoor.W

namespace Go.Proofs.YtcanicgpkbhhdaaGreatDoor.Rn
open Go Go.RowKit Go.Proofs.YtcanicgpkbhhdaaGreatDoor.Sh Go.Proofs.YtcanicgpkbhhdaaGreatDoor.W
set_option linter.unusedVariables false
set_option linter.unusedSimpArgs false
set_option maxRecDepth 100000
theorem u8s_one (l : List UInt8) : ∀ v ∈ u8s l, v.oneCell' = true := fun v hv => by
  obtain ⟨b, _, rfl⟩ := List.mem_map.1 hv
  rfl
theorem ifBt {T F : Prop} (h : T) : ifB true T F := h
theorem ifBf {T F : Prop} (h : F) : ifB false T F := h
theorem cloneG {s e by' z : Nat} {zv : Value} (hs : Tryz.prog.underlying s = some (.slice e)) (hi : (Tryz.prog.info? e).map (fun i => (i.zero, i.size, i.bytes)) = some (some zv, z, by')) (hzv : zv.cells.size = z) (hby : by' ≤ 65536)
    (w : World) (p : Option Addr) (n k : Nat) (l : List UInt8) (hz : 0 < z) (hsee : Sees w z p n k (u8s l)) (hn : n ≤ 1073741824) (K : Value → World → Prop)
    (hK : ∀ p' n' k' w', Bl w w' → Sees w' z p' n' k' (u8s l) → (l ≠ [] → ∀ a, p' = some a → w.heap.size ≤ a.block) → K (.slice p' n' k') w') :
    ifB (Option.isNone p) (K (.slice none 0 0) w) (allocK w (.cells #[] e) fun w1 => semK Tryz.prog (Builtin.append_ #[s, s] s #[(.slice (some ⟨w.heap.size, 0, none⟩) 0 0), (.slice p n k)]) w1 fun v1 w2 => asL v1 fun l1p l1l l1c => K (.slice l1p l1l l1c) w2) := by
  have hb := hsee.len
  rw [u8s_len] at hb
  cases p with
  | none =>
    have h0 : n = 0 := by
      rcases Nat.eq_zero_or_pos n with h | h
      · exact h
      · obtain ⟨a, ha, _⟩ := hsee.addr hz h; cases ha
    subst h0
    have hl : l = [] := List.length_eq_zero_iff.1 (by rw [hb, Nat.zero_mul])
    subst hl
    refine ifBt ?_
    exact hK none 0 0 w (Bl.refl w) (Sees.nil w z) fun h => absurd rfl h
  | some a =>
    refine ifBf ?_
    have hh := Hp.start w
    with_reducible refine allocH hh fun w1 hh1 hb1 => ?_
    have hg := size_alloc w (.cells #[] e)
    have hrow : RowZ w1 z (.slice (some ⟨w.heap.size, 0, none⟩) 0 0) e 0 [] := ⟨(Nat.zero_mul z).symm, .inr ⟨w.heap.size, 0, #[], rfl, Nat.zero_le _, hh1.own List.mem_cons_self, Nat.zero_le _, by decide, (Nat.zero_mul z).symm, by simp⟩⟩
    have hh2 : Hp None' w w1 (.row z (some ⟨w.heap.size, 0, none⟩) 0 0 e [] :: []) := hh.add hb1 hrow fun i hi => by
      have hi : Blk (.slice (some ⟨w.heap.size, 0, none⟩) 0 0) i := hi
      unfold Blk at hi; simp [Value.ownBlock] at hi; omega
    refine appS (P := Tryz.prog) (t := s) (e := e) (zv := zv) (by' := by') hrow (hsee.bl hb1) hz hs hi hzv (u8s_one l) (by omega) hby fun q cap w2 hr he hq => ?_
    simp only [Nat.zero_add, List.nil_append] at hr hq
    refine kL ?_
    rw [Nat.zero_add]
    have hh3 : Hp None' w w2 (.row z q n cap e (u8s l) :: []) := hh2.turn .here he hr fun i hi => (hq i hi).imp id fun h => Nat.le_of_eq h.symm
    refine hK q n cap w2 (hh3.ext.bl fun _ _ h => h) hr.sees fun hne a ha => ?_
    subst ha
    rcases hh3.may _ List.mem_cons_self a.block (by
      show Blk (.slice (some a) n cap) a.block
      unfold Blk
      rcases hr.form with ⟨h1, h2⟩ | ⟨g, cap', h1, h2⟩
      · cases h1
      · cases h1
        rfl) with h | h
    · exact h.elim
    · exact h
/-! ### word.Uint -/
noncomputable def limbV : V → Option Sx
  | .int k (.ofNat n) => (match kq k .u64 && Nat.ble n 18446744073709551615 with | true => some (.lit (.ofNat n)) | false => none)
  | .sint k s => (match kq k .u64 && in64 s with | true => some s | false => none)
  | _ => none
noncomputable def zeroX : Sx → Bx
  | .lit (.ofNat n) => .lit (Nat.beq n 0)
  | s => .cmp .eql s (.lit (.ofNat 0))
noncomputable def uintX : List V → Option (Bx × V × V)
  | [.agg [a, b, c, d]] => (match limbV a, limbV b, limbV c, limbV d with
    | some _, some b, some c, some d => some (andX (zeroX d) (andX (zeroX c) (zeroX b)), .tup [a, .bool true], .tup [.int .u64 (.ofNat 0), .bool false])
    | _, _, _, _ => none)
  | _ => none
noncomputable def sumsX (f : Nat) (args : List V) : Option (Bx × V × V) := match Nat.beq f 169 with
  | true => uintX args
  | false => none
theorem limbV_ok {c : Cx} {v : V} {s : Sx} (h : limbV v = some s) : v.den c = .int .u64 (s.den c) ∧ 0 ≤ s.den c ∧ s.den c ≤ 18446744073709551615 := by
  unfold limbV at h
  split at h
  · rename_i k n
    split at h <;> first | (cases h; done) | skip
    rename_i hq
    simp only [Option.some.injEq] at h
    subst h
    rw [Bool.and_eq_true, Nat.ble_eq] at hq
    have hk := kq_ok hq.1
    subst hk
    refine ⟨rfl, Int.natCast_nonneg _, ?_⟩
    show ((n : Nat) : Int) ≤ _
    have := hq.2
    omega
  · rename_i k s'
    split at h <;> first | (cases h; done) | skip
    rename_i hq
    simp only [Option.some.injEq] at h
    subst h
    rw [Bool.and_eq_true] at hq
    have hk := kq_ok hq.1
    subst hk
    exact ⟨rfl, in64_ok hq.2⟩
  · cases h
theorem zeroX_ok {c : Cx} {s : Sx} : (zeroX s).den c = decide (s.den c = 0) := by
  unfold zeroX
  split
  · rename_i n
    show Nat.beq n 0 = decide (((n : Nat) : Int) = 0)
    cases n with
    | zero => rfl
    | succ n =>
      rw [decide_eq_false (by omega)]
      rfl
  · show (_ == _) = _
    rfl
theorem sums_ok (f : Nat) (args : List V) (b : Bx) (r1 r2 : V) (h : sumsX f args = some (b, r1, r2)) : hasBodyB Tryz.prog f = true ∧ ∀ (c : Cx) (w : World) (K : Value → World → Prop), (∀ w', Bl w w' → K ((cond (b.den c) r1 r2).den c) w') → CallV Tryz.prog f (V.denL c args).toArray w K := by
  unfold sumsX at h
  split at h <;> first | (cases h; done) | skip
  rename_i hf
  have hf := Nat.eq_of_beq_eq_true hf
  subst hf
  refine ⟨by kernel_rfl, fun c w K hK => ?_⟩
  unfold uintX at h
  split at h <;> first | (cases h; done) | skip
  rename_i x0 x1 x2 x3
  split at h <;> first | (cases h; done) | skip
  rename_i s0 s1 s2 s3 h0 h1 h2 h3
  simp only [Option.some.injEq, Prod.mk.injEq] at h
  obtain ⟨rfl, rfl, rfl⟩ := h
  obtain ⟨e0, l0⟩ := limbV_ok (c := c) h0
  obtain ⟨e1, l1⟩ := limbV_ok (c := c) h1
  obtain ⟨e2, l2⟩ := limbV_ok (c := c) h2
  obtain ⟨e3, l3⟩ := limbV_ok (c := c) h3
  have hargs : (V.denL c [.agg [x0, x1, x2, x3]]).toArray = #[(⟨s0.den c, s1.den c, s2.den c, s3.den c⟩ : Q4).v] := by
    simp only [V.denL, V.den, e0, e1, e2, e3]
    rfl
  rw [hargs]
  refine uintW (x := ⟨s0.den c, s1.den c, s2.den c, s3.den c⟩) ⟨l0, l1, l2, l3⟩ fun w' hb => ?_
  have hk := hK w' hb
  have hd : (andX (zeroX s3) (andX (zeroX s2) (zeroX s1))).den c = decide (s1.den c = 0 ∧ s2.den c = 0 ∧ s3.den c = 0) := by
    rw [andX_den, andX_den, zeroX_ok, zeroX_ok, zeroX_ok]
    by_cases q1 : s1.den c = 0 <;> by_cases q2 : s2.den c = 0 <;> by_cases q3 : s3.den c = 0 <;> simp [q1, q2, q3]
  rw [hd] at hk
  by_cases hq : s1.den c = 0 ∧ s2.den c = 0 ∧ s3.den c = 0
  · rw [if_pos hq]
    rw [decide_eq_true hq] at hk
    simpa only [cond_true, V.den, V.denL, e0] using hk
  · rw [if_neg hq]
    rw [decide_eq_false hq] at hk
    exact hk
noncomputable def X1 : Xs := ⟨[126, 40, 9, 127], 209, 211, [(34, 1), (35, 32)], sumsX⟩
theorem px1 : PX Tryz.prog X1 where
  pv := pv
  body := bodies_ok bodies
  add := fun k1 k2 k3 a b c w hc => ⟨w, add_run k1 k2 k3 a b c w hc, Bl.refl w⟩
  sub := fun k1 k2 k3 a b c w hc => ⟨w, sub_run k1 k2 k3 a b c w hc, Bl.refl w⟩
  sums := sums_ok
  clone := fun f z hf => by
    have hf : memZ [(34, 1), (35, 32)] f = some z := hf
    unfold memZ at hf
    split at hf
    · rename_i h
      have h := Nat.eq_of_beq_eq_true h
      subst h
      cases hf
      exact ⟨by kernel_rfl, fun w p n k l hz hs hn K hK => call34 _ _ _ _ _ (cloneG (zv := .int .u8 0) (by' := 1) (by kernel_rfl) (by kernel_rfl) (by kernel_rfl) (by decide) w p n k l hz hs hn K hK)⟩
    · unfold memZ at hf
      split at hf
      · rename_i h
        have h := Nat.eq_of_beq_eq_true h
        subst h
        cases hf
        exact ⟨by kernel_rfl, fun w p n k l hz hs hn K hK => call35 _ _ _ _ _ (cloneG (zv := .agg (Array.replicate 32 (.int .u8 0))) (by' := 32) (by kernel_rfl) (by kernel_rfl) (by kernel_rfl) (by decide) w p n k l hz hs hn K hK)⟩
      · cases hf
end Go.Proofs.YtcanicgpkbhhdaaGreatDoor.Rn
