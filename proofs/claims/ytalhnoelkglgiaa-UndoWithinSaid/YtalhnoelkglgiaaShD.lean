/- The layer's regions that draw their order: one walk in one order serves every order. No condition: it holds of every program. -/
import Derived.Test.YtalhnoelkglgiaaSh3
namespace Go.Proofs.Ytalhnoelkglgiaa.Sh
open Go
set_option linter.unusedSimpArgs false
set_option linter.unusedVariables false
section
variable {P : Program} {N : Nat} {rd : Option Nat} {n : Nat} {Q : Exit → Act → World → Prop} {a : Act} {w : World} {e : Env} {ds : List Deferred} {o : Oper}

/-! ### What leaves the world alone -/
/-- Where it yields, it yields the same in every world, and leaves it alone. -/
def WF (P : Program) {α : Type} (s : Sem α) : Prop := ∀ w v w', s.run P w = .ok v w' → w' = w ∧ ∀ u, s.run P u = .ok v u
/-- Where it yields, it leaves the world alone. -/
def RO (P : Program) {α : Type} (s : Sem α) : Prop := ∀ w v w', s.run P w = .ok v w' → w' = w

theorem WF.ro {α : Type} {s : Sem α} (h : WF P s) : RO P s := fun w v w' hr => (h w v w' hr).1
theorem WF.pure {α : Type} (a : α) : WF P (pure a : Sem α) := fun w v w' h => by
  simp only [Sem.run_pure, Result.ok.injEq] at h; obtain ⟨rfl, rfl⟩ := h; exact ⟨rfl, fun u => by simp⟩
theorem WF.bind {α β : Type} {s : Sem α} {f : α → Sem β} (hs : WF P s) (hf : ∀ a, WF P (f a)) : WF P (s >>= f) := fun w v w' h => by
  rw [Sem.run_bind] at h
  cases hr : s.run P w with
  | halt x w1 => rw [hr] at h; simp at h
  | ok a w1 =>
    rw [hr] at h; simp only [Result.andThen_ok] at h
    obtain ⟨rfl, h1⟩ := hs w a w1 hr
    obtain ⟨rfl, h2⟩ := hf a w1 v w' h
    exact ⟨rfl, fun u => by rw [Sem.run_bind, h1 u, Result.andThen_ok, h2 u]⟩
theorem RO.bind {α β : Type} {s : Sem α} {f : α → Sem β} (hs : RO P s) (hf : ∀ a, RO P (f a)) : RO P (s >>= f) := fun w v w' h => by
  rw [Sem.run_bind] at h
  cases hr : s.run P w with
  | halt x w1 => rw [hr] at h; simp at h
  | ok a w1 =>
    rw [hr] at h; simp only [Result.andThen_ok] at h
    have e1 := hs w a w1 hr; subst e1
    exact hf a w1 v w' h
theorem WF.halt {α : Type} (x : Halt) : WF P (.halt x : Sem α) := fun w v w' h => by simp [Sem.run] at h
theorem WF.ite {α : Type} {c : Prop} [Decidable c] {s t : Sem α} (hs : WF P s) (ht : WF P t) : WF P (if c then s else t) := by split <;> assumption
theorem WF.stuck {α : Type} (x : String) : WF P (Go.stuck x : Sem α) := WF.halt _
theorem WF.unsupported {α : Type} (x : Unsupported) : WF P (Go.unsupported x : Sem α) := WF.halt _
theorem WF.program : WF P Go.program := fun w v w' h => by
  simp only [Go.program, Sem.run, Result.ok.injEq] at h; obtain ⟨rfl, rfl⟩ := h; exact ⟨rfl, fun u => by simp [Go.program, Sem.run]⟩
/-- It never yields. -/
def NY (P : Program) {α : Type} (s : Sem α) : Prop := ∀ w v w', s.run P w ≠ .ok v w'
theorem NY.wf {α : Type} {s : Sem α} (h : NY P s) : WF P s := fun w v w' hr => absurd hr (h w v w')
theorem NY.bind {α β : Type} {s : Sem α} {f : α → Sem β} (hf : ∀ a, NY P (f a)) : NY P (s >>= f) := fun w v w' h => by
  rw [Sem.run_bind] at h
  cases hr : s.run P w with
  | halt x w1 => rw [hr] at h; simp at h
  | ok a w1 => rw [hr] at h; simp only [Result.andThen_ok] at h; exact hf a w1 v w' h
theorem NY.goPanic {α : Type} (v : Value) : NY P (Go.goPanic v : Sem α) := fun w v w' h => by simp [Go.goPanic, Sem.run] at h
theorem NY.runtimePanic {α : Type} (x : RuntimeError) : NY P (Go.runtimePanic x : Sem α) := by
  unfold Go.runtimePanic
  refine NY.bind fun p => ?_
  cases x <;> first | exact NY.goPanic _ | exact NY.bind fun _ => NY.goPanic _ | exact NY.bind fun _ => NY.bind fun _ => NY.goPanic _
theorem NY.boundsPanic {α : Type} (k : IntKind) (x y : Int) (c : BoundsCode) : NY P (Go.boundsPanic k x y c : Sem α) := by
  unfold Go.boundsPanic
  dsimp only
  split <;> exact NY.bind fun _ => NY.runtimePanic _
theorem WF.typeInfo (t : TypeId) : WF P (Go.typeInfo t) := by
  unfold Go.typeInfo
  refine WF.bind WF.program fun p => ?_
  split
  · exact WF.pure _
  · exact WF.stuck _
theorem WF.underlying (t : TypeId) : WF P (Go.underlying t) := by
  unfold Go.underlying
  refine WF.bind WF.program fun p => ?_
  split
  · exact WF.pure _
  · exact WF.stuck _
theorem WF.sizeOf (t : TypeId) : WF P (Go.sizeOf t) := WF.bind (WF.typeInfo t) fun _ => WF.pure _
theorem WF.isAgg (t : TypeId) : WF P (Go.isAgg t) := by
  unfold Go.isAgg
  refine WF.bind (WF.underlying t) fun d => ?_
  cases d <;> exact WF.pure _
theorem WF.asIntOf (v : Value) : WF P (Go.asIntOf v) := by
  unfold Go.asIntOf
  split
  · exact WF.pure _
  · exact WF.unsupported _
  · exact WF.stuck _
theorem WF.asAgg (v : Value) : WF P (Go.asAgg v) := by
  unfold Go.asAgg
  split
  · exact WF.pure _
  · exact WF.stuck _
theorem WF.asAddr (v : Value) : WF P (Go.asAddr v) := by
  unfold Go.asAddr
  split
  · exact WF.pure _
  · exact (NY.runtimePanic _).wf
  · exact WF.stuck _
theorem WF.sureAddr (v : Value) : WF P (Instr.sureAddr v) := by
  unfold Instr.sureAddr
  split
  · exact WF.pure _
  · exact WF.stuck _
theorem WF.part (t : TypeId) (cs : Array Value) (off : Nat) : WF P (Go.part t cs off) := by
  unfold Go.part
  refine WF.bind (WF.isAgg t) fun b => ?_
  split
  · exact WF.bind (WF.sizeOf t) fun _ => WF.pure _
  · split
    · exact WF.pure _
    · exact WF.stuck _
theorem WF.indexAt (t : TypeId) (x i : Value) : WF P (Instr.indexAt t x i) := by
  unfold Instr.indexAt
  refine WF.bind (WF.asIntOf i) fun ki => ?_
  obtain ⟨k, i⟩ := ki
  refine WF.bind (WF.underlying t) fun d => ?_
  dsimp only
  have tail : ∀ (base : Option Addr) (len elem : Nat), WF P (do
      let d' ← Go.underlying t
      match base with
      | some a =>
        if 0 ≤ i ∧ i < len then do let s ← Go.sizeOf elem; Pure.pure (Value.pointer (some (a.add (i.toNat * s))))
        else if (decide (len ≤ 1) && (match d' with | .array .. => true | _ => false)) = true then Go.unsupported (.noEntry "op/indexAddr.an index out of range at an array of length 0 or 1 (ledger 616)")
        else Go.boundsPanic k i len .index
      | none => Go.boundsPanic k i 0 .index) := by
    intro base len elem
    refine WF.bind (WF.underlying t) fun d' => ?_
    cases base with
    | none => exact (NY.boundsPanic _ _ _ _).wf
    | some a =>
      refine WF.ite (WF.bind (WF.sizeOf _) fun _ => WF.pure _) (WF.ite (WF.unsupported _) (NY.boundsPanic _ _ _ _).wf)
  split
  · exact WF.bind (WF.sureAddr _) fun _ => WF.bind (WF.pure _) fun bl => tail bl.1 bl.2.1 bl.2.2
  · exact WF.bind (WF.pure _) fun bl => tail bl.1 bl.2.1 bl.2.2
  · exact WF.bind (WF.stuck _) fun bl => tail bl.1 bl.2.1 bl.2.2
theorem WF.sliceBound (x : Value) (y : Nat) (c : BoundsCode) : WF P (Instr.sliceBound x y c) := by
  unfold Instr.sliceBound
  refine WF.bind (WF.asIntOf x) fun ki => ?_
  obtain ⟨k, i⟩ := ki
  exact WF.ite (WF.pure _) (NY.boundsPanic _ _ _ _).wf
theorem WF.sliceBounds (b : Bool) (l c : Nat) (lo hi mx : Option Value) : WF P (Instr.sliceBounds b l c lo hi mx) := by
  unfold Instr.sliceBounds
  dsimp only
  have h3 : ∀ m h : Nat, WF P (match lo with
      | some v => do let l ← Instr.sliceBound v h (if mx.isSome = true then BoundsCode.slice3C else BoundsCode.sliceB); Pure.pure (l, h, m)
      | none => do let l ← Pure.pure 0; Pure.pure (l, h, m)) := by
    intro m h
    split
    · exact WF.bind (WF.sliceBound _ _ _) fun _ => WF.pure _
    · exact WF.bind (WF.pure _) fun _ => WF.pure _
  split
  all_goals refine WF.bind (by first | exact WF.pure _ | exact WF.sliceBound _ _ _) fun m => ?_
  all_goals split
  all_goals exact WF.bind (by first | exact WF.pure _ | exact WF.sliceBound _ _ _ | exact WF.stuck _) fun h => h3 m h
theorem WF.sliceAt (t : TypeId) (x : Value) (lo hi mx : Option Value) : WF P (Instr.sliceAt t x lo hi mx) := by
  unfold Instr.sliceAt
  refine WF.bind (WF.underlying t) fun d => ?_
  split
  · refine WF.bind (WF.sureAddr _) fun a => WF.bind (WF.sliceBounds _ _ _ _ _ _) fun r => ?_
    exact WF.bind (WF.sizeOf _) fun _ => WF.pure _
  · unfold Instr.slice
    refine WF.bind (WF.underlying t) fun d => ?_
    split
    · refine WF.ite (WF.bind (WF.stuck _) fun _ => ?_) ?_ <;> exact WF.bind (WF.sliceBounds _ _ _ _ _ _) fun r => WF.pure _
    · exact WF.bind (WF.sliceBounds _ _ _ _ _ _) fun r => WF.bind (WF.sizeOf _) fun _ => WF.pure _
    · refine WF.bind (WF.asAddr _) fun a => WF.bind (WF.underlying _) fun d => ?_
      split
      · exact WF.bind (WF.sliceBounds _ _ _ _ _ _) fun r => WF.bind (WF.sizeOf _) fun _ => WF.pure _
      · exact WF.stuck _
    · exact WF.stuck _
theorem WF.field (t : TypeId) (x : Value) (f : Nat) : WF P (Instr.field t x f) := by
  unfold Instr.field
  refine WF.bind (WF.underlying t) fun d => ?_
  split
  · split
    · exact WF.bind (WF.asAgg _) fun _ => WF.part _ _ _
    · exact WF.stuck _
  · exact WF.stuck _
theorem WF.index (t : TypeId) (x i : Value) : WF P (Instr.index t x i) := by
  unfold Instr.index
  refine WF.bind (WF.asIntOf i) fun ki => ?_
  obtain ⟨k, i⟩ := ki
  refine WF.bind (WF.underlying t) fun d => ?_
  split
  · exact WF.ite (WF.bind (WF.sizeOf _) fun _ => WF.part _ _ _) (NY.boundsPanic _ _ _ _).wf
  · split
    · exact WF.pure _
    · exact (NY.boundsPanic _ _ _ _).wf
  · exact WF.stuck _
theorem WF.extract (t : Value) (i : Nat) : WF P (Instr.extract t i) := by
  unfold Instr.extract
  split
  · split
    · exact WF.pure _
    · exact WF.stuck _
  · exact WF.stuck _
theorem WF.makeInterface (t : TypeId) (x : Value) : WF P (Instr.makeInterface t x) := by
  unfold Instr.makeInterface
  refine WF.bind (WF.underlying t) fun d => ?_
  split
  · exact WF.stuck _
  · exact WF.pure _
theorem WF.map {α β : Type} {s : Sem α} (f : α → β) (hs : WF P s) : WF P (f <$> s) := by
  rw [← bind_pure_comp]; exact WF.bind hs fun _ => WF.pure _
theorem WF.equal_bool (d : Nat) (t : TypeId) (a b : Bool) : WF P (Op.equalIn (d + 1) t (.bool a) (.bool b)) := by
  unfold Op.equalIn
  refine WF.bind (WF.underlying t) fun x => ?_
  cases x <;> first | exact WF.pure _ | exact WF.stuck _
theorem WF.intBin (op : BinOp) (t : TypeId) (k k' : IntKind) (a b : Int) : WF P (binOp op t (.int k a) (.int k' b)) := by
  cases op <;> simp only [binOp, Op.shift, Op.intArith, Op.intDiv, Op.intBits, Op.intCmp] <;>
    (repeat' first | exact WF.pure _ | exact WF.stuck _ | exact (NY.runtimePanic _).wf | refine WF.ite ?_ ?_)
theorem WF.boolBin (op : BinOp) (t : TypeId) (a b : Bool) : WF P (binOp op t (.bool a) (.bool b)) := by
  cases op <;> simp only [binOp] <;> first | exact WF.stuck _ | exact WF.bind (WF.equal_bool 9999 t a b) fun _ => WF.pure _
theorem WF.strBin (op : BinOp) (t : TypeId) (a b : ByteArray) : WF P (binOp op t (.string a) (.string b)) := by
  cases op <;> simp only [binOp, Op.stringOp] <;> (repeat' first | exact WF.pure _ | exact WF.stuck _ | exact WF.unsupported _ | refine WF.ite ?_ ?_)
theorem WF.guard (op : BinOp) (t : TypeId) (x y : Operand) (a b : Value) (h1 : ∀ cs ds, ¬ (a = .agg cs ∧ b = .agg ds)) (h2 : ¬ (a = .nilIface ∧ b = .nilIface)) : WF P (eqGuard op t x y a b) := by
  unfold eqGuard
  refine WF.ite (WF.pure _) ?_
  split
  · exact absurd ⟨rfl, rfl⟩ h2
  · exact absurd ⟨rfl, rfl⟩ (h1 _ _)
  · exact WF.pure _
theorem WF.unary (op : UnOp) (v : Value) (h : (∃ k n, v = .int k n) ∨ ∃ b, v = .bool b) : WF P (Op.unary op v) := by
  rcases h with ⟨k, n, rfl⟩ | ⟨b, rfl⟩ <;> cases op <;> simp only [Op.unary, Op.intArith, Op.intBits] <;> first | exact WF.pure _ | exact WF.stuck _

theorem sem_wf {s : Sem Value} (hw : WF P s) {F : Value → World → Prop} (h : semK P s w F) : ∃ v, s.run P w = .ok v w ∧ F v w ∧ ∀ u, s.run P u = .ok v u := by
  have h2 := wp_sat h
  cases hs : s.run P w with
  | halt x w' => rw [hs] at h2; exact h2.elim
  | ok v w' =>
    rw [hs] at h2
    obtain ⟨rfl, h3⟩ := hw _ _ _ hs
    exact ⟨v, rfl, h2, h3⟩
theorem sem_ro {s : Sem Value} (hw : RO P s) {F : Value → World → Prop} (h : semK P s w F) : ∃ v, s.run P w = .ok v w ∧ F v w := by
  have h2 := wp_sat h
  cases hs : s.run P w with
  | halt x w' => rw [hs] at h2; exact h2.elim
  | ok v w' =>
    rw [hs] at h2
    have := hw _ _ _ hs; subst this
    exact ⟨v, rfl, h2⟩

theorem RO.getObj (r : Nat) : RO P (Go.getObj r) := fun w v w' h => by
  simp only [Go.getObj, Sem.run] at h
  split at h <;> first | (simp at h; done) | (simp only [Sem.run, Result.ok.injEq] at h; exact h.2.symm)
theorem ro_cap (at_ : Array TypeId) (ty : TypeId) (p : Option Addr) (l c : Nat) : RO P (Builtin.cap_ at_ ty [Value.slice p l c].toArray) := by
  unfold Builtin.cap_
  cases ht : at_[0]? with
  | none => exact (WF.stuck _).ro
  | some t =>
    simp only [List.getElem?_toArray, List.getElem?_cons_zero]
    refine (WF.bind (WF.underlying t) fun d => ?_).ro
    cases d <;> first | exact WF.pure _ | exact WF.stuck _ | skip
    refine WF.bind (WF.underlying _) fun d => ?_
    cases d <;> first | exact WF.pure _ | exact WF.stuck _
theorem ro_len_slice (at_ : Array TypeId) (ty : TypeId) (p : Option Addr) (l c : Nat) : RO P (Builtin.len_ at_ ty [Value.slice p l c].toArray) := by
  unfold Builtin.len_
  cases ht : at_[0]? with
  | none => exact (WF.stuck _).ro
  | some t =>
    simp only [List.getElem?_toArray, List.getElem?_cons_zero]
    refine (WF.bind (WF.underlying t) fun d => ?_).ro
    cases d <;> first | exact WF.pure _ | exact WF.stuck _ | skip
    refine WF.bind (WF.underlying _) fun d => ?_
    cases d <;> first | exact WF.pure _ | exact WF.stuck _
theorem ro_len_string (at_ : Array TypeId) (ty : TypeId) (s : ByteArray) : RO P (Builtin.len_ at_ ty [Value.string s].toArray) := by
  unfold Builtin.len_
  cases ht : at_[0]? with
  | none => exact (WF.stuck _).ro
  | some t =>
    simp only [List.getElem?_toArray, List.getElem?_cons_zero]
    refine (WF.bind (WF.underlying t) fun d => ?_).ro
    cases d <;> first | exact WF.pure _ | exact WF.stuck _ | skip
    refine WF.bind (WF.underlying _) fun d => ?_
    cases d <;> first | exact WF.pure _ | exact WF.stuck _
theorem ro_len_map (at_ : Array TypeId) (ty : TypeId) (r : Option Nat) : RO P (Builtin.len_ at_ ty [Value.map r].toArray) := by
  unfold Builtin.len_
  cases ht : at_[0]? with
  | none => exact (WF.stuck _).ro
  | some t =>
    simp only [List.getElem?_toArray, List.getElem?_cons_zero]
    refine RO.bind (WF.underlying t).ro fun d => ?_
    cases d <;> first | exact (WF.pure _).ro | exact (WF.stuck _).ro | skip
    · refine RO.bind (WF.underlying _).ro fun d => ?_
      cases d <;> first | exact (WF.pure _).ro | exact (WF.stuck _).ro
    · cases r with
      | none => exact (WF.pure _).ro
      | some r =>
        refine RO.bind (RO.getObj _) fun ob => ?_
        cases ob <;> first | exact (WF.pure _).ro | exact (WF.stuck _).ro
theorem ro_max (at_ : Array TypeId) (ty : TypeId) (k k' : IntKind) (x y : Int) : RO P (Builtin.max_ at_ ty [Value.int k x, Value.int k' y].toArray) := by
  unfold Builtin.max_
  simp only [List.foldlM_cons, List.foldlM_nil, Builtin.max2]
  exact (WF.bind (WF.pure _) fun _ => WF.pure _).ro
theorem ro_min (at_ : Array TypeId) (ty : TypeId) (k k' : IntKind) (x y : Int) : RO P (Builtin.min_ at_ ty [Value.int k x, Value.int k' y].toArray) := by
  unfold Builtin.min_
  simp only [List.foldlM_cons, List.foldlM_nil, Builtin.min2]
  exact (WF.bind (WF.pure _) fun _ => WF.pure _).ro
theorem wf_fieldAt {t : TypeId} {fs : Array Field} {f : Nat} {fd : Field} (hu : P.underlying t = some (.struct fs)) (hf : fs[f]? = some fd) (hz : P.cellsOf fd.type ≠ 0) (x : Value) : WF P (Instr.fieldAt t x f) := by
  have hpl : ∀ a : Addr, WF P (fieldPlace a fd) := by
    intro a w v w' h
    unfold fieldPlace at h ⊢
    cases hi : P.info? fd.type with
    | none => simp [Sem.run_bind, sizeOf, typeInfo, hi, stuck, Sem.run] at h
    | some i =>
      simp only [Sem.run_bind, run_sizeOf w hi, Result.andThen_ok, if_neg hz, Sem.run_pure, Result.ok.injEq] at h
      obtain ⟨rfl, rfl⟩ := h
      exact ⟨rfl, fun u => by simp only [Sem.run_bind, run_sizeOf u hi, Result.andThen_ok, if_neg hz, Sem.run_pure]⟩
  intro w v w' h
  have key : ∀ u, (Instr.fieldAt t x f).run P u = (do let a ← Instr.sureAddr x; pure (Value.pointer (some (← fieldPlace a fd))) : Sem Value).run P u := by
    intro u
    unfold Instr.fieldAt
    simp [Sem.run_bind, run_underlying hu, hf]
  have hw : WF P (do let a ← Instr.sureAddr x; pure (Value.pointer (some (← fieldPlace a fd))) : Sem Value) := WF.bind (WF.sureAddr x) fun a => WF.bind (hpl a) fun _ => WF.pure _
  rw [key] at h
  obtain ⟨h1, h2⟩ := hw w v w' h
  exact ⟨h1, fun u => by rw [key]; exact h2 u⟩
theorem wf_conv {s d : TypeId} {k1 k2 k : IntKind} {m : Int} (h1 : P.underlying s = some (.int k1)) (h2 : P.underlying d = some (.int k2)) : WF P (convert s d (.int k m)) := by
  intro w v w' h
  have key : ∀ u, (convert s d (.int k m)).run P u = .ok (.int k2 (k2.wrap m)) u := by
    intro u
    simp [convert, Sem.run_bind, run_underlying h1, run_underlying h2, Conv.intToInt]
  rw [key] at h
  simp only [Result.ok.injEq] at h
  obtain ⟨rfl, rfl⟩ := h
  exact ⟨rfl, key⟩
theorem wf_eq_key (d : Nat) (t : TypeId) (k y : Value) (hk : (∃ j n, k = .int j n) ∨ (∃ s, k = .string s) ∨ ∃ b, k = .bool b) : WF P (Op.equalIn (d + 1) t k y) := by
  unfold Op.equalIn
  refine WF.bind (WF.underlying t) fun x => ?_
  rcases hk with ⟨j, n, rfl⟩ | ⟨s, rfl⟩ | ⟨b, rfl⟩ <;> cases x <;> cases y <;> dsimp only <;>
    (repeat' first | exact WF.pure _ | exact WF.stuck _ | exact WF.unsupported _ | (exfalso; simp_all; done) | refine WF.ite ?_ ?_ | split)
theorem wf_findAsking (t : TypeId) (k : Value) (hk : (∃ j n, k = .int j n) ∨ (∃ s, k = .string s) ∨ ∃ b, k = .bool b) : ∀ (es : List MapEntry) (i : Nat), WF P (Instr.findAsking t k es i)
  | [], i => WF.pure _
  | x :: es, i => by
    unfold Instr.findAsking
    exact WF.bind (wf_eq_key 9999 t k _ hk) fun b => WF.ite (WF.pure _) (wf_findAsking t k hk es (i + 1))
theorem wf_checkKey (b : Bool) (t : TypeId) (k : Value) (hk : (∃ j n, k = .int j n) ∨ (∃ s, k = .string s) ∨ ∃ b, k = .bool b) (d : Nat) : WF P (Instr.checkKey b (d + 1) t k) := by
  unfold Instr.checkKey
  refine WF.bind (WF.underlying t) fun x => ?_
  rcases hk with ⟨j, n, rfl⟩ | ⟨s, rfl⟩ | ⟨b, rfl⟩ <;> cases x <;> first | exact WF.pure _ | exact WF.stuck _
theorem ro_zero (t : TypeId) : RO P (zeroValue t) := by
  unfold zeroValue
  refine (WF.bind (WF.typeInfo t) fun i => ?_).ro
  cases i.zero with
  | none => exact WF.unsupported _
  | some v => exact WF.pure _
theorem ro_lookTail (key elem : TypeId) (k : Value) (hk : (∃ j n, k = .int j n) ∨ (∃ s, k = .string s) ∨ ∃ b, k = .bool b) (ok : Bool) (es : Array MapEntry) : RO P (do
    Instr.checkKey es.isEmpty 10000 key k
    let r ← Instr.findKey key k es.toList
    match r with
      | some (_, v) => do
        let x ← (pure (v, true) : Sem (Value × Bool))
        pure (if ok = true then Value.tuple #[x.fst, Value.bool x.snd] else x.fst)
      | none => do
        let z ← zeroValue elem
        let x ← (pure (z, false) : Sem (Value × Bool))
        pure (if ok = true then Value.tuple #[x.fst, Value.bool x.snd] else x.fst)) := by
  refine RO.bind (wf_checkKey _ _ _ hk 9999).ro fun _ => RO.bind ?_ fun r => ?_
  · unfold Instr.findKey
    refine RO.bind (WF.underlying _).ro fun d => ?_
    split
    · exact (WF.pure _).ro
    · exact (wf_findAsking _ _ hk _ _).ro
  · split
    · exact RO.bind (WF.pure _).ro fun _ => (WF.pure _).ro
    · exact RO.bind (ro_zero _) fun _ => RO.bind (WF.pure _).ro fun _ => (WF.pure _).ro
theorem ro_lookup (t : TypeId) (x k : Value) (hk : (∃ j n, k = .int j n) ∨ (∃ s, k = .string s) ∨ ∃ b, k = .bool b) (ok : Bool) : RO P (Instr.lookup t x k ok) := by
  unfold Instr.lookup
  refine RO.bind (WF.underlying t).ro fun d => ?_
  cases d <;> first | exact (WF.stuck _).ro | skip
  case map key elem =>
    dsimp only
    cases x <;> first | exact RO.bind (WF.stuck _).ro fun es => ro_lookTail key elem k hk ok es | skip
    case map r =>
      cases r with
      | none => exact RO.bind (WF.pure _).ro fun es => ro_lookTail key elem k hk ok es
      | some r =>
        refine RO.bind (RO.getObj r) fun ob => ?_
        cases ob <;> first | exact RO.bind (WF.pure _).ro fun es => ro_lookTail key elem k hk ok es | exact RO.bind (WF.stuck _).ro fun es => ro_lookTail key elem k hk ok es

theorem light_run {K : Value → List Deferred → World → Prop} (hl : lightB P o = true) (he : lightE N o e = true) (h : opA P N o e ds w K) :
    ∃ v, (execOp (rdv N e) o).run P w = .ok (.value v) w ∧ K v ds w ∧ (loadB o = false → ∀ u, (execOp (rdv N e) o).run P u = .ok (.value v) u) := by
  obtain ⟨dst, op, type, pos, after, guard⟩ := o
  unfold opA at h
  have wf : ∀ (op' : Op) (s : Sem Value), WF P s → execOp (rdv N e) ⟨dst, op', type, pos, after, guard⟩ = (do pure (.value (← s))) → semK P s w (fun v w' => K v ds w') →
      ∃ v, (execOp (rdv N e) ⟨dst, op', type, pos, after, guard⟩).run P w = .ok (.value v) w ∧ K v ds w ∧ (loadB ⟨dst, op', type, pos, after, guard⟩ = false → ∀ u, (execOp (rdv N e) ⟨dst, op', type, pos, after, guard⟩).run P u = .ok (.value v) u) := by
    intro op' s hw hs hk
    obtain ⟨v, h1, h2, h3⟩ := sem_wf hw hk
    exact ⟨v, by rw [hs]; simp [Sem.run_bind, h1], h2, fun _ u => by rw [hs]; simp [Sem.run_bind, h3 u]⟩
  have ro : ∀ (op' : Op) (s : Sem Value), RO P s → loadB ⟨dst, op', type, pos, after, guard⟩ = true → execOp (rdv N e) ⟨dst, op', type, pos, after, guard⟩ = (do pure (.value (← s))) → semK P s w (fun v w' => K v ds w') →
      ∃ v, (execOp (rdv N e) ⟨dst, op', type, pos, after, guard⟩).run P w = .ok (.value v) w ∧ K v ds w ∧ (loadB ⟨dst, op', type, pos, after, guard⟩ = false → ∀ u, (execOp (rdv N e) ⟨dst, op', type, pos, after, guard⟩).run P u = .ok (.value v) u) := by
    intro op' s hw hb hs hk
    obtain ⟨v, h1, h2⟩ := sem_ro hw hk
    exact ⟨v, by rw [hs]; simp [Sem.run_bind, h1], h2, fun hb' => by rw [hb] at hb'; cases hb'⟩
  have one : ∀ (op' : Op) (v : Value), (∀ u, (execOp (rdv N e) ⟨dst, op', type, pos, after, guard⟩).run P u = .ok (.value v) u) → K v ds w →
      ∃ v, (execOp (rdv N e) ⟨dst, op', type, pos, after, guard⟩).run P w = .ok (.value v) w ∧ K v ds w ∧ (loadB ⟨dst, op', type, pos, after, guard⟩ = false → ∀ u, (execOp (rdv N e) ⟨dst, op', type, pos, after, guard⟩).run P u = .ok (.value v) u) :=
    fun op' v hu hk => ⟨v, hu w, hk, fun _ => hu⟩
  have asa : ∀ (v : Value) (w' : World), (asA v fun b => K (.pointer (some b)) ds w') → K v ds w' := by
    intro v w' hv
    unfold asA at hv
    split at hv
    · rename_i p; cases p with
      | none => exact hv.elim
      | some b => exact hv
    · exact hv.elim
  cases op
  case move x => exact one _ _ (fun u => by simp [execOp, Sem.run, pure]) h
  case assign x => exact one _ _ (fun u => by simp [execOp, Sem.run, pure]) h
  case pick c x y =>
    simp only at h
    split at h
    · rename_i t ht
      refine one _ (if t then rdv N e x else rdv N e y) (fun u => by simp [execOp, ht, asBool, Sem.run, pure, bind, Sem.bind]) ?_
      cases t <;> exact h
    · exact h.elim
  case nilCheck x =>
    simp only at h
    unfold nilA at h
    split at h
    · split at h
      · rename_i b; exact one _ _ (fun u => by simp [execOp, b, Sem.run, pure]) h
      · exact h.elim
    · exact h.elim
    · exact h.elim
    · exact h.elim
    · rename_i h1 h2 h3 h4
      refine one _ _ (fun u => ?_) h
      simp only [execOp]
      cases hv : rdv N e x <;> first | (simp [Sem.run, pure]; done) | skip
      case pointer p => exact absurd hv (h1 p)
      case func fn fs cs => cases fn <;> first | (simp [Sem.run, pure]; done) | exact absurd hv (h2 _ _ _)
      case nilIface => exact absurd hv h3
      case nilFunc => exact absurd hv h4
  case load t x =>
    simp only at h
    split at h
    · rename_i b hv
      have h1 : ldT P w b t fun v => (fun v w' => w' = w ∧ K v ds w) v w := by
        unfold ldT at h ⊢
        cases hu : P.underlying t with
        | none => simp [hu] at h
        | some d => simpa [hu] using h
      have h2 := wp_sat (ldT_wp (R := fun v w' => w' = w ∧ K v ds w) h1)
      cases hr : (loadVar t b).run P w with
      | halt x w' => rw [hr] at h2; exact h2.elim
      | ok v w' =>
        rw [hr] at h2; obtain ⟨rfl, hK⟩ := h2
        refine ⟨v, ?_, hK, fun hb => by simp [loadB] at hb⟩
        simp [execOp, hv, Instr.loadAt, Instr.sureAddr, Sem.run_bind, hr]
    · exact h.elim
  case call c =>
    obtain ⟨callee, args, argTypes⟩ := c
    cases callee <;> try (simp [lightB] at hl; done)
    case builtin b =>
      simp only at h
      have hx : ∀ s, bltS b argTypes type (args.toList.map (rdv N e)).toArray = some s → execOp (rdv N e) ⟨dst, .call ⟨.builtin b, args, argTypes⟩, type, pos, after, guard⟩ = (do pure (.value (← s))) := by
        intro s hs
        cases b <;> simp only [bltS, Option.some.injEq, reduceCtorEq] at hs <;> subst hs <;> simp only [execOp, resolve, pure_bind', invoke, builtin, map_list]
      unfold optP at h
      split at h
      · rename_i s hs
        have hk : semK P s w (fun v w' => K v ds w') := wp_mono' h fun v w' hv => asVS_imp (F := fun v => K v ds w') hv
        have hR : RO P s := by
          have hx := hx s hs
          simp only [lightE] at he
          clear h hk hx
          generalize args.toList.map (rdv N e) = al at he hs
          cases b <;> simp only [lightB, Bool.false_eq_true] at hl <;> simp only [bltS, Option.some.injEq] at hs <;> subst hs
          case cap =>
            split at he <;> first | (cases he; done) | skip
            all_goals first | exact ro_cap _ _ _ _ _ | simp_all
          case len =>
            split at he <;> first | (cases he; done) | skip
            all_goals first | exact ro_len_slice _ _ _ _ _ | exact ro_len_string _ _ _ | exact ro_len_map _ _ _ | simp_all
          case max =>
            split at he <;> first | (cases he; done) | skip
            all_goals first | exact ro_max _ _ _ _ _ _ | simp_all
          case min =>
            split at he <;> first | (cases he; done) | skip
            all_goals first | exact ro_min _ _ _ _ _ _ | simp_all
        exact ro _ s hR (by simp [loadB]) (hx s hs) hk
      · exact h.elim
  case makeFunc fn first captured =>
    exact one _ _ (fun u => by simp [execOp, Instr.makeFunc, Sem.run, pure, bind, Sem.bind, map_list]) h
  case build t parts =>
    simp only at h
    unfold optP at h
    split at h
    · rename_i cs hcs
      have hb := buildL_built hcs
      refine one _ (.agg cs.toArray) (fun u => ?_) h
      simp only [execOp]
      rw [map_list, Sem.run_bind, run_build u t _ cs.toArray (by simpa using hb)]
      simp [Sem.run, pure]
    · exact h.elim
  case binOp op t x y yt =>
    simp only at h
    cases hc : anyTy P t
    case true =>
      rw [hc] at h
      simp only [cond_true] at h
      simp [lightB, hc] at hl
    rw [hc] at h
    simp only [cond_false] at h
    split at h
    · rename_i xs ys hx hy
      obtain ⟨hg, b, hF, hrun⟩ := eqK_run h
      exact one _ (.bool b) (fun u => by simp [execOp, hx, hy, run_eqGuard_agg u _ t _ _ _ _ hg, run_eql_struct, hrun]) hF
    · rename_i xs ys hx hy
      obtain ⟨hg, b, hF, hrun⟩ := eqK_run h
      exact one _ (.bool (!b)) (fun u => by simp [execOp, hx, hy, run_eqGuard_agg u _ t _ _ _ _ hg, run_neq_struct, hrun]) hF
    · rename_i p hx hy
      obtain ⟨hu, hK⟩ := isKind_ptr h
      exact one _ (.bool p.isNone) (fun u => by simp [execOp, hx, hy, eqGuard, binOp, nil_ptr hu]) hK
    · rename_i p hx hy
      obtain ⟨hu, hK⟩ := isKind_ptr h
      exact one _ (.bool (!p.isNone)) (fun u => by simp [execOp, hx, hy, eqGuard, binOp, nil_ptr hu]) hK
    · rename_i p l c l' c' hx hy
      obtain ⟨hu, hK⟩ := isKind_sl h
      exact one _ (.bool p.isNone) (fun u => by simp [execOp, hx, hy, eqGuard, binOp, nil_sl hu]) hK
    · rename_i p l c l' c' hx hy
      obtain ⟨hu, hK⟩ := isKind_sl h
      exact one _ (.bool (!p.isNone)) (fun u => by simp [execOp, hx, hy, eqGuard, binOp, nil_sl hu]) hK
    · rename_i p hx hy
      obtain ⟨hu, hK⟩ := isKind_map h
      exact one _ (.bool p.isNone) (fun u => by simp [execOp, hx, hy, eqGuard, binOp, nil_map hu]) hK
    · rename_i p hx hy
      obtain ⟨hu, hK⟩ := isKind_map h
      exact one _ (.bool (!p.isNone)) (fun u => by simp [execOp, hx, hy, eqGuard, binOp, nil_map hu]) hK
    · rename_i k x' k' y' hx hy
      obtain ⟨rfl, hb, hK⟩ := div_case h
      exact one _ _ (fun u => by simp [execOp, hx, hy, eqGuard, binOp, Op.intDiv, hb]) hK
    · rename_i k x' k' y' hx hy
      obtain ⟨rfl, hb, hK⟩ := div_case h
      exact one _ _ (fun u => by simp [execOp, hx, hy, eqGuard, binOp, Op.intDiv, hb]) hK
    · rename_i k x' k' y' hx hy
      obtain ⟨hb, hK⟩ := sh_case h
      exact one _ _ (fun u => by simp [execOp, hx, hy, eqGuard, binOp, Op.shift, hb]) hK
    · rename_i k x' k' y' hx hy
      obtain ⟨hb, hK⟩ := sh_case h
      exact one _ _ (fun u => by simp [execOp, hx, hy, eqGuard, binOp, Op.shift, hb]) hK
    · rename_i n1 n2 n3 n4 n5 n6 n7 n8 n9 n10 n11 n12
      refine wf _ _ ?_ rfl (wp_mono' h fun v w' hv => asVS_imp (F := fun v => K v ds w') hv)
      simp only [lightE] at he
      split at he
      · rename_i k a k' b hx hy
        rw [hx, hy]
        exact WF.bind (WF.guard _ _ _ _ _ _ (by simp) (by simp)) fun _ => WF.intBin _ _ _ _ _ _
      · rename_i a b hx hy
        rw [hx, hy]
        exact WF.bind (WF.guard _ _ _ _ _ _ (by simp) (by simp)) fun _ => WF.boolBin _ _ _ _
      · rename_i a b hx hy
        rw [hx, hy]
        exact WF.bind (WF.guard _ _ _ _ _ _ (by simp) (by simp)) fun _ => WF.strBin _ _ _ _
      all_goals first | (cases he; done) | (exfalso; simp_all; done) | (exfalso; simp_all; exact n5 _ _ _ _ _ rfl rfl rfl rfl rfl) | (exfalso; simp_all; exact n6 _ _ _ _ _ rfl rfl rfl rfl rfl)
  case unOp op t x =>
    refine wf _ _ (WF.unary _ _ ?_) rfl h
    simp only [lightE] at he
    split at he
    · rename_i k n hx; exact .inl ⟨_, _, hx⟩
    · rename_i b hx; exact .inr ⟨_, hx⟩
    · cases he
  case makeInterface t x => exact wf _ _ (WF.makeInterface _ _) rfl h
  case field t x f => exact wf _ _ (WF.field _ _ _) rfl h
  case extract t i => exact wf _ _ (WF.extract _ _) rfl (wp_mono' h fun v w' hv => asVS_imp (F := fun v => K v ds w') hv)
  case slice t x l hh m => exact wf _ _ (WF.sliceAt _ _ _ _ _) rfl (wp_mono' h fun v w' hv => asVS_imp (F := fun v => K v ds w') hv)
  case index t x i => exact wf _ _ (WF.index _ _ _) rfl (wp_mono' h fun v w' hv => asVS_imp (F := fun v => K v ds w') hv)
  case fieldAddr t x f =>
    refine wf _ _ ?_ rfl (wp_mono' h fun v w' hv => asa v w' hv)
    unfold lightB at hl
    simp only at hl
    cases hu : P.underlying t with
    | none => simp [hu] at hl
    | some d =>
      cases d <;> simp only [hu, Bool.false_eq_true] at hl
      case struct fs =>
        cases hf : fs[f]? with
        | none => simp [hf] at hl
        | some fd =>
          simp only [hf] at hl
          exact wf_fieldAt hu hf (by intro h0; rw [h0] at hl; simp at hl) _
  case indexAddr t x i => exact wf _ _ (WF.indexAt _ _ _) rfl (wp_mono' h fun v w' hv => asa v w' hv)
  case convert s d x =>
    refine wf _ _ ?_ rfl (wp_mono' h fun v w' hv => asVS_imp (F := fun v => K v ds w') hv)
    simp only [lightE] at he
    simp only [lightB] at hl
    split at he
    · rename_i k m hx
      rw [hx]
      split at hl
      · rename_i k1 k2 h1 h2
        exact wf_conv h1 h2
      · cases hl
    · cases he
  case lookup t x i ok =>
    refine ro _ _ ?_ (by simp [loadB]) rfl (wp_mono' h fun v w' hv => asVS_imp (F := fun v => K v ds w') hv)
    simp only [lightE] at he
    split at he
    · rename_i k m hx; rw [hx]; exact ro_lookup _ _ _ (.inl ⟨_, _, rfl⟩) _
    · rename_i m hx; rw [hx]; exact ro_lookup _ _ _ (.inr (.inl ⟨_, rfl⟩)) _
    · rename_i m hx; rw [hx]; exact ro_lookup _ _ _ (.inr (.inr ⟨_, rfl⟩)) _
    · cases he
  all_goals (simp [lightB] at hl; done)
end
end Go.Proofs.Ytalhnoelkglgiaa.Sh
