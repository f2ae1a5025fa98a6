/- A layer over the walk: the loaded code as a predicate transformer that Lean's kernel reckons out by itself (codeA), and that it is sound: what it asks suffices for the machine (Calls). No condition: it holds of every program. -/
import Derived.CallsIn
import Derived.OrdersIn
import Derived.Deep.Draws
import Derived.Laws.StructEq
import Derived.Laws.NewBlocks
import Derived.KernelRfl
import Derived.Below
import Derived.Wp
import Derived.RangeFuncRecord
import Derived.RangeFuncLeaves
namespace Go.Proofs.Ytalhnoelkglgiaa.Sh
open Go

abbrev FW (rd : Option Nat) : Fence := { Fence.wide with round := rd }
abbrev Env := Nat → Value

def put (e : Env) : Option Nat → Value → Env
  | none, _ => e
  | some d, v => fun i => cond (Nat.beq i d) v (e i)

def rdv (N : Nat) (e : Env) : Operand → Value
  | .tmp t => cond (Nat.ble (t + 1) N) (e t) undef
  | .const v => v
  | .global g => .pointer (some ⟨g, 0, none⟩)
  | .func f => .func (.func f) #[] #[]

def envOf : List Value → Nat → Env
  | [], _ => fun _ => undef
  | v :: vs, k => put (envOf vs (k + 1)) (some k) v

/-- A call that returns, and what it leaves. -/
def CallV (P : Program) (f : FuncId) (args : Array Value) (w : World) (K : Value → World → Prop) : Prop :=
  Calls P f args w fun e w' => ∃ v, e = .returned v ∧ K v w'
def RoundV (P : Program) (l : Nat) (f : FuncId) (tmps : Array Value) (assign body : Code) (w : World) (K : Value → World → Prop) : Prop :=
  RoundIn (FW none) 0 P l f tmps assign body w fun e w' => ∃ v, e = .returned v ∧ K v w'

theorem CallV.mono {P : Program} {f : FuncId} {args : Array Value} {w : World} {K K' : Value → World → Prop} (h : CallV P f args w K) (hk : ∀ v w', K v w' → K' v w') : CallV P f args w K' :=
  Calls.mono h fun _ _ ⟨v, hv, hK⟩ => ⟨v, hv, hk _ _ hK⟩

/-! ### Values by their kinds -/
inductive CK where
  | i (k : IntKind) | b | s | p | sl | m | any

def asI (k : IntKind) (v : Value) (F : Int → Prop) : Prop :=
  match v with
  | .int k' n => if k = k' then F n else False
  | _ => False
def asB (v : Value) (F : Bool → Prop) : Prop := match v with | .bool b => F b | _ => False
def asS (v : Value) (F : ByteArray → Prop) : Prop := match v with | .string s => F s | _ => False
def asP (v : Value) (F : Option Addr → Prop) : Prop := match v with | .pointer p => F p | _ => False
def asL (v : Value) (F : Option Addr → Nat → Nat → Prop) : Prop := match v with | .slice p l c => F p l c | _ => False
def asM (v : Value) (F : Option Nat → Prop) : Prop := match v with | .map r => F r | _ => False

def asCK : CK → Value → (Value → Prop) → Prop
  | .i k, v, F => asI k v fun n => F (.int k n)
  | .b, v, F => asB v fun x => F (.bool x)
  | .s, v, F => asS v fun x => F (.string x)
  | .p, v, F => asP v fun x => F (.pointer x)
  | .sl, v, F => asL v fun p l c => F (.slice p l c)
  | .m, v, F => asM v fun r => F (.map r)
  | .any, v, F => F v

def asG (v : Value) (F : List Value → Prop) : Prop := match v with | .agg cs => F cs.toList | _ => False
def asT (v : Value) (F : List Value → Prop) : Prop := match v with | .tuple cs => F cs.toList | _ => False
def asHd (l : List Value) (F : Value → List Value → Prop) : Prop := match l with | x :: xs => F x xs | [] => False
def asEnd (l : List Value) (p : Prop) : Prop := match l with | [] => p | _ :: _ => False
def asCells : List CK → List Value → List Value → (List Value → Prop) → Prop
  | [], xs, acc, F => asEnd xs (F acc.reverse)
  | c :: l, xs, acc, F => asHd xs fun x xs => asCK c x fun x => asCells l xs (x :: acc) F

inductive V1 where
  | one (c : CK) | agg (l : List CK)
def asV1 : V1 → Value → (Value → Prop) → Prop
  | .one c, v, F => asCK c v F
  | .agg l, v, F => asG v fun cs => asCells l cs [] fun r => F (.agg r.toArray)
def asTup : List V1 → List Value → List Value → (List Value → Prop) → Prop
  | [], xs, acc, F => asEnd xs (F acc.reverse)
  | c :: l, xs, acc, F => asHd xs fun x xs => asV1 c x fun x => asTup l xs (x :: acc) F
inductive VS where
  | v (x : V1) | tup (l : List V1)
def asVS : VS → Value → (Value → Prop) → Prop
  | .v x, v, F => asV1 x v F
  | .tup l, v, F => asT v fun cs => asTup l cs [] fun r => F (.tuple r.toArray)

theorem asCK_imp {c : CK} {v : Value} {F : Value → Prop} (h : asCK c v F) : F v := by
  cases c <;> cases v <;> simp_all [asCK, asI, asB, asS, asP, asL, asM]
theorem asCells_imp : ∀ (l : List CK) (xs acc : List Value) (F : List Value → Prop), asCells l xs acc F → F (acc.reverse ++ xs)
  | [], [], acc, F, h => by simpa [asCells, asEnd] using h
  | [], _ :: _, _, _, h => by simp [asCells, asEnd] at h
  | _ :: _, [], _, _, h => by simp [asCells, asHd] at h
  | c :: l, x :: xs, acc, F, h => by
    simp only [asCells, asHd] at h
    have := asCells_imp l xs (x :: acc) F (asCK_imp h)
    simpa using this
theorem asV1_imp {c : V1} {v : Value} {F : Value → Prop} (h : asV1 c v F) : F v := by
  cases c with
  | one c => exact asCK_imp h
  | agg l => cases v <;> simp only [asV1, asG] at h; exact (by simpa using asCells_imp _ _ _ _ h)
theorem asTup_imp : ∀ (l : List V1) (xs acc : List Value) (F : List Value → Prop), asTup l xs acc F → F (acc.reverse ++ xs)
  | [], [], acc, F, h => by simpa [asTup, asEnd] using h
  | [], _ :: _, _, _, h => by simp [asTup, asEnd] at h
  | _ :: _, [], _, _, h => by simp [asTup, asHd] at h
  | c :: l, x :: xs, acc, F, h => by
    simp only [asTup, asHd] at h
    have := asTup_imp l xs (x :: acc) F (asV1_imp h)
    simpa using this
theorem asVS_imp {c : VS} {v : Value} {F : Value → Prop} (h : asVS c v F) : F v := by
  cases c with
  | v c => exact asV1_imp h
  | tup l => cases v <;> simp only [asVS, asT] at h; exact (by simpa using asTup_imp _ _ _ _ h)

def ckOf (P : Program) (t : TypeId) : CK :=
  match P.underlying t with
  | some (.int k) => .i k
  | some .bool => .b
  | some .string => .s
  | some (.pointer _) => .p
  | some (.slice _) => .sl
  | some (.map _ _) => .m
  | _ => .any
def rep (l : List CK) : Nat → List CK
  | 0 => []
  | n + 1 => l ++ rep l n
def cksOf (P : Program) : Nat → TypeId → List CK
  | 0, _ => []
  | d + 1, t =>
    match P.underlying t with
    | some (.struct fs) => fs.toList.flatMap fun f => cksOf P d f.type
    | some (.array n e) => rep (cksOf P d e) n
    | _ => [ckOf P t]
def v1Of (P : Program) (t : TypeId) : V1 :=
  match P.underlying t with
  | some (.struct _) | some (.array _ _) => .agg (cksOf P 20 t)
  | _ => .one (ckOf P t)
def vsOf (P : Program) (t : TypeId) : VS :=
  match P.underlying t with
  | some (.tuple ts) => .tup (ts.toList.map (v1Of P))
  | _ => .v (v1Of P t)

/-! ### One operation -/
def nilA (v : Value) (F : Value → Prop) : Prop :=
  match v with
  | .pointer p => match p with | some a => F (.pointer (some a)) | none => False
  | .func (.method _) _ _ => False
  | .nilIface => False
  | .nilFunc => False
  | v => F v

def ldK (P : Program) (w : World) (a : Addr) (F : Value → Prop) : Prop :=
  match w.cell? a with
  | some v => F v
  | none => match w.farLoad P a false with
    | .ok (v, _) => F v
    | .error _ => False
def stK (P : Program) (w : World) (a : Addr) (v : Value) (F : World → Prop) : Prop :=
  if v.oneCell then
    match w.cell? a with
    | some _ => if w.frozen? a then False else F (w.setCell a v)
    | none => match w.farStore P a v false with
      | .ok (w', _) => F w'
      | .error _ => False
  else False

def ldCells (P : Program) (w : World) (a : Addr) : Nat → List CK → List Value → (List Value → Prop) → Prop
  | _, [], acc, F => F acc.reverse
  | i, c :: l, acc, F => ldK P w (a.add i) fun v => asCK c v fun v => ldCells P w a (i + 1) l (v :: acc) F
def ldT (P : Program) (w : World) (a : Addr) (t : TypeId) (F : Value → Prop) : Prop :=
  match P.underlying t with
  | some (.struct _) | some (.array _ _) => cond (Nat.beq (cksOf P 20 t).length (P.cellsOf t)) (ldCells P w a 0 (cksOf P 20 t) [] fun r => F (.agg r.toArray)) False
  | some _ => ldK P w a fun v => asCK (ckOf P t) v F
  | none => False
/-- What is asked of a call's outcome. -/
def nxA (P : Program) (F : Value → World → Prop) : Next → World → Prop
  | .value v, w => F v w
  | .enter f args, w => CallV P f args w F
  | .round l f t as_ b, w => RoundV P l f t as_ b w F
  | _, _ => False
/-- A computation that yields a value. -/
def semK (P : Program) (s : Sem Value) (w : World) (F : Value → World → Prop) : Prop := s.wp P F (fun _ _ => False) w
def semU (P : Program) (s : Sem Unit) (w : World) (F : World → Prop) : Prop := s.wp P (fun _ w' => F w') (fun _ _ => False) w
/-- A call of a function value. -/
def callVal (P : Program) (f : Value) (args : Array Value) (w : World) (F : Value → World → Prop) : Prop :=
  match f with
  | .func fn first cap => (invoke (.fn fn cap) (first ++ args)).wp P (nxA P F) (fun _ _ => False) w
  | _ => False
def bltS (b : Builtin) (argTypes : Array TypeId) (type : TypeId) (args : Array Value) : Option (Sem Value) :=
  match b with
  | .append => some (Builtin.append_ argTypes type args)
  | .cap => some (Builtin.cap_ argTypes type args)
  | .clear => some (Builtin.clear_ argTypes type args)
  | .copy => some (Builtin.copy_ argTypes type args)
  | .delete => some (Builtin.delete_ argTypes type args)
  | .len => some (Builtin.len_ argTypes type args)
  | .max => some (Builtin.max_ argTypes type args)
  | .min => some (Builtin.min_ argTypes type args)
  | _ => none
def optP {α : Type} (o : Option α) (F : α → Prop) : Prop := match o with | some a => F a | none => False
def asA (v : Value) (F : Addr → Prop) : Prop := match v with | .pointer p => optP p F | _ => False
def allocK (w : World) (o : Obj) (F : World → Prop) : Prop := F (w.alloc o)
def setL : List Value → Nat → List Value → List Value
  | cs, _, [] => cs
  | [], _, _ => []
  | _ :: cs, 0, v :: vs => v :: setL cs 0 vs
  | c :: cs, n + 1, vs => c :: setL cs n vs
def fillL (place : Nat → Option (Nat × Nat)) (cells : List Value) : List (Nat × Value) → Option (List Value)
  | [] => some cells
  | (i, v) :: rest =>
    match place i with
    | none => none
    | some (off, size) =>
      if (v.cells.toList.length != size) || Nat.blt cells.length (off + v.cells.toList.length) then none
      else fillL place (setL cells off v.cells.toList) rest
def buildL (P : Program) (t : TypeId) (parts : List (Nat × Value)) : Option (List Value) :=
  match P.info? t, P.underlying t with
  | some it, some (.array _ e) =>
    match it.zero, P.info? e with
    | some z, some ie => fillL (fun i => some (i * ie.size, ie.size)) z.cells.toList parts
    | _, _ => none
  | some it, some (.struct fields) =>
    match it.zero, fields.toList.mapM (fun f => (P.info? f.type).map fun i => (f.offset, i.size)) with
    | some z, some places => fillL (fun i => places[i]?) z.cells.toList parts
    | _, _ => none
  | _, _ => none
def zerosN (z : List Value) : Nat → List Value
  | 0 => []
  | n + 1 => z ++ zerosN z n

/-- What an operation on two values gives. -/
def binS (P : Program) (op : BinOp) (t : TypeId) : VS :=
  match op with
  | .eql | .neq | .lss | .leq | .gtr | .geq => .v (.one .b)
  | _ => vsOf P t
/-- A type whose values the layer does not look into. -/
def anyTy (P : Program) (t : TypeId) : Bool :=
  match P.underlying t with
  | some (.int _) | some .bool | some .string | some (.pointer _) | some (.slice _) | some (.map _ _) | some (.struct _) | some (.array _ _) => false
  | _ => true
/-- Equality of two values of a type: only where it is plain. -/
def andO : Option Bool → Option Bool → Option Bool
  | some a, some b => some (a && b)
  | _, _ => none
def eqAll : List (Option Bool) → Option Bool
  | [] => some true
  | [x] => x
  | x :: xs => andO x (eqAll xs)
def chunk (off n : Nat) (l : List Value) : List Value := (l.drop off).take n
def natsTo : Nat → Nat → List Nat
  | 0, _ => []
  | n + 1, k => k :: natsTo n (k + 1)
def eqT (P : Program) : Nat → TypeId → List Value → List Value → Option Bool
  | 0, _, _, _ => none
  | d + 1, t, xs, ys =>
    match P.underlying t with
    | some .bool => match xs, ys with
      | [.bool a], [.bool b] => some (a == b)
      | _, _ => none
    | some (.int _) => match xs, ys with
      | [.int k a], [.int k' b] => if k = k' then some (a == b) else none
      | _, _ => none
    | some .string => match xs, ys with
      | [.string a], [.string b] => some (a == b)
      | _, _ => none
    | some (.array n e) =>
      cond (Nat.ble 1 n && (Nat.beq xs.length (n * P.cellsOf e) && Nat.beq ys.length (n * P.cellsOf e)))
        (eqAll ((natsTo n 0).map fun i => eqT P d e (chunk (i * P.cellsOf e) (P.cellsOf e) xs) (chunk (i * P.cellsOf e) (P.cellsOf e) ys))) none
    | some (.struct fs) =>
      cond (P.stoodInHeld t || fs.toList.any fun f => f.name == "_") none
        (eqAll (fs.toList.map fun f => eqT P d f.type (chunk f.offset (P.cellsOf f.type) xs) (chunk f.offset (P.cellsOf f.type) ys)))
    | _ => none
def isAggB (P : Program) (t : TypeId) : Bool :=
  match P.underlying t with
  | some (.struct _) | some (.array _ _) => true
  | _ => false
def eqK (P : Program) (t : TypeId) (xs ys : Array Value) (F : Bool → Prop) : Prop :=
  cond (isAggB P t && !(P.eqGuardType P.depth t)) (match eqT P 20 t xs.toList ys.toList with | some b => F b | none => False) False

def rowL (P : Program) (t : TypeId) (len : Nat) (parts : List (Nat × Value)) : Option (TypeId × List Value) :=
  match P.underlying t with
  | some (.slice e) =>
    match P.info? e with
    | some ie => match ie.zero with
      | some z => cond (Nat.ble 1 (len * ie.size) && Nat.ble (len * ie.size) 65536 && Nat.beq z.cells.toList.length ie.size) ((fillL (fun i => some (i * ie.size, ie.size)) (zerosN z.cells.toList len) parts).map fun cs => (e, cs)) none
      | none => none
    | none => none
  | _ => none
def ifB (b : Bool) (T F : Prop) : Prop := match b with | true => T | false => F

def kindB (k k' : IntKind) : Bool := if k = k' then true else false
def isKindB (P : Program) (t : TypeId) (n : Nat) : Bool :=
  match P.underlying t with
  | some (.pointer _) => Nat.beq n 0
  | some (.slice _) => Nat.beq n 1
  | some (.map _ _) => Nat.beq n 2
  | _ => false
def opA (P : Program) (N : Nat) (o : Oper) (e : Env) (ds : List Deferred) (w : World) (K : Value → List Deferred → World → Prop) : Prop :=
  match o.op with
  | .move x | .assign x => K (rdv N e x) ds w
  | .pick c a b => match rdv N e c with
    | .bool t => ifB t (K (rdv N e a) ds w) (K (rdv N e b) ds w)
    | _ => False
  | .nilCheck x => nilA (rdv N e x) fun v => K v ds w
  | .load t x => match rdv N e x with
    | .pointer (some a) => ldT P w a t fun v => K v ds w
    | _ => False
  | .store t x v => semU P (Instr.storeAt t (rdv N e x) (rdv N e v)) w fun w' => K undef ds w'
  | .mapUpdate t m k v => semU P (Instr.mapUpdate t (rdv N e m) (rdv N e k) (rdv N e v)) w fun w' => K undef ds w'
  | .entryStore t m s v => semU P (Instr.entryStore t (rdv N e m) (rdv N e s) (rdv N e v)) w fun w' => K undef ds w'
  | .call c =>
    match c.callee with
    | .value f => callVal P (rdv N e f) (c.args.toList.map (rdv N e)).toArray w fun v w' => asVS (vsOf P o.type) v fun v => K v ds w'
    | .builtin b => optP (bltS b c.argTypes o.type (c.args.toList.map (rdv N e)).toArray) fun s => semK P s w fun v w' => asVS (vsOf P o.type) v fun v => K v ds w'
    | .invoke _ _ => False
  | .makeFunc fn first captured => K (.func fn (first.toList.map (rdv N e)).toArray (captured.toList.map (rdv N e)).toArray) ds w
  | .build t parts => optP (buildL P t (parts.toList.map fun p => (p.1, rdv N e p.2))) fun cs => K (.agg cs.toArray) ds w
  | .buildSlice t len parts => optP (rowL P t len (parts.toList.map fun p => (p.1, rdv N e p.2))) fun r => allocK w (.cells r.2.toArray r.1) fun w' => K (.slice (some ⟨w.heap.size, 0, none⟩) len len) ds w'
  | .binOp op t x y _ =>
    cond (anyTy P t) (semK P (do eqGuard op t x y (rdv N e x) (rdv N e y); binOp op t (rdv N e x) (rdv N e y)) w fun v w' => asVS (binS P op t) v fun v => K v ds w')
    (match op, rdv N e x, rdv N e y with
    | .eql, .agg xs, .agg ys => eqK P t xs ys fun b => K (.bool b) ds w
    | .neq, .agg xs, .agg ys => eqK P t xs ys fun b => K (.bool (!b)) ds w
    | .eql, .pointer p, .pointer none => cond (isKindB P t 0) (K (.bool p.isNone) ds w) False
    | .neq, .pointer p, .pointer none => cond (isKindB P t 0) (K (.bool (!p.isNone)) ds w) False
    | .eql, .slice p _ _, .slice none _ _ => cond (isKindB P t 1) (K (.bool p.isNone) ds w) False
    | .neq, .slice p _ _, .slice none _ _ => cond (isKindB P t 1) (K (.bool (!p.isNone)) ds w) False
    | .eql, .map p, .map none => cond (isKindB P t 2) (K (.bool p.isNone) ds w) False
    | .neq, .map p, .map none => cond (isKindB P t 2) (K (.bool (!p.isNone)) ds w) False
    | .quo, .int k a, .int k' b => cond (kindB k k') (ifB (decide (b = 0)) False (K (.int k (k.wrap (a.tdiv b))) ds w)) False
    | .rem, .int k a, .int k' b => cond (kindB k k') (ifB (decide (b = 0)) False (K (.int k (a.tmod b)) ds w)) False
    | .shl, .int k a, .int _ b => ifB (decide (b < 0)) False (K (.int k (k.wrap (a * 2 ^ min b.toNat k.bits))) ds w)
    | .shr, .int k a, .int _ b => ifB (decide (b < 0)) False (K (.int k (a.fdiv (2 ^ min b.toNat k.bits))) ds w)
    | _, _, _ => semK P (do eqGuard op t x y (rdv N e x) (rdv N e y); binOp op t (rdv N e x) (rdv N e y)) w fun v w' => asVS (binS P op t) v fun v => K v ds w')
  | .unOp op _ x => semK P (Op.unary op (rdv N e x)) w fun v w' => K v ds w'
  | .alloc t => semK P (Instr.alloc t true (.tuple #[])) w fun v w' => K v ds w'
  | .box t x => semK P (Instr.box t (rdv N e x)) w fun v w' => K v ds w'
  | .convert s d x => semK P (convert s d (rdv N e x)) w fun v w' => asVS (.v (v1Of P d)) v fun v => K v ds w'
  | .makeInterface t x => semK P (Instr.makeInterface t (rdv N e x)) w fun v w' => K v ds w'
  | .makeMap t r => semK P (Instr.makeMap t (r.map (rdv N e))) w fun v w' => K v ds w'
  | .makeSlice t l c => semK P (Instr.makeSlice t (rdv N e l) (rdv N e c)) w fun v w' => asL v fun p l c => K (.slice p l c) ds w'
  | .slice t x l h m => semK P (Instr.sliceAt t (rdv N e x) (l.map (rdv N e)) (h.map (rdv N e)) (m.map (rdv N e))) w fun v w' => asVS (vsOf P o.type) v fun v => K v ds w'
  | .fieldAddr t x f => semK P (Instr.fieldAt t (rdv N e x) f) w fun v w' => asA v fun a => K (.pointer (some a)) ds w'
  | .indexAddr t x i => semK P (Instr.indexAt t (rdv N e x) (rdv N e i)) w fun v w' => asA v fun a => K (.pointer (some a)) ds w'
  | .field t x f => semK P (Instr.field t (rdv N e x) f) w fun v w' => K v ds w'
  | .index t x i => semK P (Instr.index t (rdv N e x) (rdv N e i)) w fun v w' => asVS (vsOf P o.type) v fun v => K v ds w'
  | .lookup t x i ok => semK P (Instr.lookup t (rdv N e x) (rdv N e i) ok) w fun v w' => asVS (vsOf P o.type) v fun v => K v ds w'
  | .mapEntry t m k => semK P (Instr.mapEntry t (rdv N e m) (rdv N e k)) w fun v w' => asVS (vsOf P o.type) v fun v => K v ds w'
  | .range t x => semK P (Instr.range t (rdv N e x)) w fun v w' => asA v fun a => K (.pointer (some a)) ds w'
  | .next it s => semK P (Instr.next (rdv N e it) s o.type) w fun v w' => K v ds w'
  | .entry it => semK P (Instr.entry (rdv N e it)) w fun v w' => K v ds w'
  | .extract t i => semK P (Instr.extract (rdv N e t) i) w fun v w' => asVS (vsOf P o.type) v fun v => K v ds w'
  | _ => False

/-! ### Statements -/
abbrev Post := Exit → Env → List Deferred → World → Prop
inductive Ann where
  | no
  | seq (a b : Ann)
  | join (K : Env → List Deferred → World → Prop) (a b : Ann)
  | draw (ord : List Nat)
  | cond (a b : Ann)
  | block (a : Ann)
  | loop (I : Nat → Env → List Deferred → World → Prop) (a : Nat → Ann)
  | rng (ks : List V1) (a b : Nat → Loop → (Value → World → Prop) → Ann)
def Ann.l : Ann → Ann
  | .seq a _ | .join _ a _ | .cond a _ | .block a => a
  | _ => .no
def Ann.r : Ann → Ann
  | .seq _ b | .join _ _ b | .cond _ b => b
  | _ => .no
def thenA (K : Env → List Deferred → World → Prop) (Q : Post) : Post
  | .normal, e, ds, w => K e ds w
  | x, e, ds, w => Q x e ds w
def blockA (id : Nat) (Q : Post) : Post
  | .exit id', e, ds, w => cond (Nat.beq id' id) (Q .normal e ds w) (Q (.exit id') e ds w)
  | x, e, ds, w => Q x e ds w
/-! A region that draws its order: walked in one order ('ord'): what is light (it leaves the world alone) as soon as it may, what is heavy in its turn. What a load has told is asked again behind each heavy operation that need not wait for it. -/
def bindsAny (e : Edge) : Bool :=
  match e.ground with
  | .textOnly _ => false
  | .gcOnly _ => false
  | _ => true
def ancsGo : List Nat → List Oper → List Nat
  | acc, [] => acc
  | acc, o :: os => ancsGo (acc ++ [o.after.toList.foldl (fun s e => cond (bindsAny e) ((s ||| 2 ^ e.on) ||| acc.getD e.on 0) s) 0]) os
def lightB (P : Program) (o : Oper) : Bool :=
  match o.op with
  | .fieldAddr t _ f => match P.underlying t with | some (.struct fs) => (match fs[f]? with | some d => !(Nat.beq (P.cellsOf d.type) 0) | none => false) | _ => false
  | .convert s d _ => match P.underlying s, P.underlying d with | some (.int _), some (.int _) => true | _, _ => false
  | .binOp _ t _ _ _ => !(anyTy P t)
  | .move _ | .assign _ | .pick .. | .nilCheck _ | .unOp .. | .build .. |   .makeInterface .. | .makeFunc .. | .indexAddr .. | .field .. | .extract .. | .index .. | .slice .. | .load .. | .lookup .. => true
  | .call { callee := .builtin b, .. } => match b with | .len | .cap | .min | .max => true | _ => false
  | _ => false
def loadB (o : Oper) : Bool :=
  match o.op with
  | .load .. | .lookup .. => true
  | .call _ => true
  | _ => false
def looksL (ops : List Oper) (o : Oper) : List Nat :=
  (o.op.operands.toList.filterMap fun | .tmp t => some t | _ => none) ++ (match o.guard with | some (g, _) => ((ops[g]?).bind (·.dst)).toList | none => [])
def apartL (ops : List Oper) (x y : Oper) : Bool :=
  (match x.dst with
   | some d => !(looksL ops y).elem d && (match y.dst with | some d' => !(Nat.beq d d') | none => true)
   | none => true) &&
  (match y.dst with
   | some d => !(looksL ops x).elem d
   | none => true)
def pairsB (f : Nat → Nat → Bool) : List Nat → Bool
  | [] => true
  | x :: xs => xs.all (f x) && pairsB f xs
def edgesB (ops : List Oper) : Nat → Bool
  | 0 => true
  | n + 1 => (match ops[n]? with | some o => o.after.toList.all fun e => !(bindsAny e) || Nat.ble (e.on + 1) n | none => false) && edgesB ops n
def chkB (P : Program) (ops : List Oper) (ord : List Nat) : Bool :=
  let an := ancsGo [] ops
  edgesB ops ops.length && Nat.beq ord.length ops.length && (ord.all fun i => Nat.ble (i + 1) ops.length) && ((natsTo ops.length 0).all fun i => ord.elem i) &&
  pairsB (fun i j => !(Nat.beq i j) && !((an.getD i 0).testBit j) && ((an.getD j 0).testBit i || (match ops[i]?, ops[j]? with | some x, some y => lightB P x && apartL ops x y | _, _ => false))) ord
def dstOf (all : List Oper) (j : Nat) : Option Tmp := (all[j]?).bind (·.dst)

def opsA (P : Program) (N : Nat) (all : List Oper) (K : Env → List Deferred → World → Prop) : List Oper → Env → List Deferred → World → Prop
  | [], e, ds, w => K e ds w
  | o :: rest, e, ds, w =>
    match o.guard with
    | none => opA P N o e ds w fun v ds' w' => opsA P N all K rest (put e o.dst v) ds' w'
    | some (j, want) =>
      match dstOf all j with
      | none => False
      | some d => match rdv N e (.tmp d) with
        | .bool b =>
          ifB b
            (cond want (opA P N o (put e (some d) (.bool true)) ds w fun v ds' w' => opsA P N all K rest (put (put e (some d) (.bool true)) o.dst v) ds' w') (opsA P N all K rest (put (put e (some d) (.bool true)) o.dst undef) ds w))
            (cond want (opsA P N all K rest (put (put e (some d) (.bool false)) o.dst undef) ds w) (opA P N o (put e (some d) (.bool false)) ds w fun v ds' w' => opsA P N all K rest (put (put e (some d) (.bool false)) o.dst v) ds' w'))
        | _ => opsA P N all K rest (put e o.dst undef) ds w

/-- Is the operation, at these operands, one that leaves the world alone? -/
def lightE (N : Nat) (o : Oper) (e : Env) : Bool :=
  match o.op with
  | .move _ | .assign _ | .pick .. | .nilCheck _ | .build .. | .makeInterface .. |   .makeFunc .. | .fieldAddr .. | .indexAddr .. | .field .. | .extract .. | .index .. | .slice .. | .load .. => true
  | .lookup _ _ x _ => match rdv N e x with | .int _ _ => true | .string _ => true | .bool _ => true | _ => false
  | .binOp op _ x y _ =>
    match op, rdv N e x, rdv N e y with
    | _, .int _ _, .int _ _ => true
    | _, .bool _, .bool _ => true
    | _, .string _, .string _ => true
    | .eql, .agg _, .agg _ => true
    | .neq, .agg _, .agg _ => true
    | .eql, .pointer _, .pointer none => true
    | .neq, .pointer _, .pointer none => true
    | .eql, .slice _ _ _, .slice none _ _ => true
    | .neq, .slice _ _ _, .slice none _ _ => true
    | .eql, .map _, .map none => true
    | .neq, .map _, .map none => true
    | _, _, _ => false
  | .unOp _ _ x => match rdv N e x with | .int _ _ | .bool _ => true | _ => false
  | .convert _ _ x => match rdv N e x with | .int _ _ => true | _ => false
  | .call { callee := .builtin b, args, .. } =>
    match b, (args.toList.map (rdv N e)) with
    | .len, [.slice _ _ _] => true
    | .len, [.string _] => true
    | .len, [.map _] => true
    | .cap, [.slice _ _ _] => true
    | .min, [.int _ _, .int _ _] => true
    | .max, [.int _ _, .int _ _] => true
    | _, _ => false
  | _ => false
structure Rec where
  i : Nat
  o : Oper
  e : Env
  v : Value
def oblsA (P : Program) (N : Nat) (ds : List Deferred) (anc : Nat) (w : World) (p : Prop) : List Rec → Prop
  | [] => p
  | r :: l => cond (loadB r.o && !(anc.testBit r.i)) (opA P N r.o r.e ds w (fun u _ _ => u = r.v) ∧ oblsA P N ds anc w p l) (oblsA P N ds anc w p l)
def drawA (P : Program) (N : Nat) (all : List Oper) (an : List Nat) (ds : List Deferred) (K : Env → World → Prop) : List Nat → List Rec → Env → World → Prop
  | [], _, e, w => K e w
  | i :: rest, rs, e, w =>
    match all[i]? with
    | none => False
    | some o =>
      let run (e : Env) : Prop :=
        cond (lightB P o)
          (cond (lightE N o e) (opA P N o e ds w fun v _ _ => drawA P N all an ds K rest (rs ++ [⟨i, o, e, v⟩]) (put e o.dst v) w) False)
          (opA P N o e ds w fun v _ w' => oblsA P N ds (an.getD i 0) w' (drawA P N all an ds K rest rs (put e o.dst v) w') rs)
      let skip (e : Env) : Prop := drawA P N all an ds K rest rs (put e o.dst undef) w
      match o.guard with
      | none => run e
      | some (j, want) =>
        match dstOf all j with
        | none => False
        | some d => match rdv N e (.tmp d) with
          | .bool b => ifB b (cond want (run (put e (some d) (.bool true))) (skip (put e (some d) (.bool true)))) (cond want (skip (put e (some d) (.bool false))) (run (put e (some d) (.bool false))))
          | _ => skip e
def drewK (w : World) (F : World → Prop) : Prop := F w.drew

/-! A range over a function: the record that is laid (entA), a round's end (stopA), the loop's end (endA), the jump that is left (jumpP); marks (marksA). -/
def loopObj (r : Loop) (st : LoopState) (pe : Option Code) : Obj := .loop { r with state := st, pending := pe }
def putK (w : World) (l : Nat) (o : Obj) (F : World → Prop) : Prop := F (w.putObj l o)
def entA (rd : Option Nat) (w : World) (F : Nat → Loop → List Deferred → World → Prop) : Prop :=
  match rd with
  | none => ∀ r : Loop, F (w.heap.size + 1) r [{ target := .collected w.heap.size, args := #[] }] ((w.alloc (.deferred (some []))).alloc (loopObj r .ready none))
  | some l0 => (∃ r0, w.heap[l0]? = some (.loop r0)) ∧ ∀ r : Loop, F w.heap.size r [] (w.alloc (loopObj r .ready none))
/-- The same, told for one of the two: outermost; within a round. -/
def entO (w : World) (F : Nat → Loop → List Deferred → World → Prop) : Prop := ∀ r : Loop, F (w.heap.size + 1) r [{ target := .collected w.heap.size, args := #[] }] ((w.alloc (.deferred (some []))).alloc (loopObj r .ready none))
def entN (l0 : Nat) (w : World) (F : Nat → Loop → World → Prop) : Prop := (∃ r0, w.heap[l0]? = some (.loop r0)) ∧ ∀ r : Loop, F w.heap.size r (w.alloc (loopObj r .ready none))
def endA (l : Nat) (r : Loop) (w : World) (F : Option Code → World → Prop) : Prop :=
  ∃ st pe, w.heap[l]? = some (loopObj r st pe) ∧ st ≠ .busy ∧ F pe (w.putObj l (loopObj r .exhausted pe))
def stopA (l : Nat) (r : Loop) (jump : Option Code) (F : Value → World → Prop) (w : World) : Prop :=
  w.heap[l]? = some (loopObj r .busy none) ∧ F (.bool jump.isNone) (w.putObj l (loopObj r (if jump.isNone then .ready else .done) jump))
def jumpP (pe : Option Code) (w : World) (Kn Kr : World → Prop) (Kx Kg : Nat → World → Prop) : Prop :=
  match pe with
  | none => Kn w
  | some .ret => Kr w
  | some (.exit id) => Kx id w
  | some (.goto t) => Kg t w
  | some _ => False
def roundPostA (l : Nat) (r : Loop) (F : Value → World → Prop) : Post
  | .normal, _, _, w => stopA l r none F w
  | .ret, _, _, w => stopA l r (some .ret) F w
  | .exit id, _, _, w => stopA l r (some (.exit id)) F w
  | .goto t, _, _, w => stopA l r (some (.goto t)) F w
  | _, _, _, _ => False
def bindA : List V1 → List Tmp → List Value → Env → (Env → Prop) → Prop
  | [], ps, xs, e, F => match ps with
    | [] => asEnd xs (F e)
    | _ => False
  | k :: ks, ps, xs, e, F => match ps with
    | p :: ps => asHd xs fun x xs => asV1 k x fun x => bindA ks ps xs (put e (some p) x) F
    | [] => False
/-- A function value that is entered. -/
def enterV (P : Program) (f : Value) (args : Array Value) (w : World) (F : Value → World → Prop) : Prop :=
  match f with
  | .func fn first cap => ∃ f' args' w', (invoke (.fn fn cap) (first ++ args)).run P w = .ok (.enter f' args') w' ∧ CallV P f' args' w' F
  | _ => False
def readyA (w : World) (l : Nat) (r : Loop) (p : Prop) : Prop := w.heap[l]? = some (loopObj r .ready none) ∧ p
def yieldA (P : Program) (l : Nat) (Rd : List Value → World → (Value → World → Prop) → Prop) (p : Prop) : Prop :=
  (∀ (args : List Value) (w : World) (F : Value → World → Prop), Rd args w F → callVal P (.func (.yield l) #[] #[]) args.toArray w F) → p

def codeA (P : Program) (N : Nat) : Option Nat → Ann → Code → Post → Env → List Deferred → World → Prop
  | _, _, .skip, Q, e, ds, w => Q .normal e ds w
  | _, _, .region _ ops false, Q, e, ds, w => opsA P N ops.toList (Q .normal) ops.toList e ds w
  | _, .draw ord, .region _ ops true, Q, e, ds, w => cond (chkB P ops.toList ord && P.follows .mixedOrders) (drewK w fun w => drawA P N ops.toList (ancsGo [] ops.toList) ds (fun e w => Q .normal e ds w) ord [] e w) False
  | _, _, .region _ _ true, _, _, _, _ => False
  | rd, .join K a _, .seq x _, Q, e, ds, w => codeA P N rd a x (thenA K Q) e ds w
  | rd, an, .seq x y, Q, e, ds, w => codeA P N rd an.l x (thenA (codeA P N rd an.r y Q) Q) e ds w
  | rd, an, .cond c x y, Q, e, ds, w =>
    match rdv N e c with
    | .bool t => ifB t (codeA P N rd an.l x Q e ds w) (codeA P N rd an.r y Q e ds w)
    | _ => False
  | rd, an, .block id c, Q, e, ds, w => codeA P N rd an.l c (blockA id Q) e ds w
  | _, .loop I _, .loop _, _, e, ds, w => ∃ n, I n e ds w
  | _, _, .loop _, _, _, _, _ => False
  | _, _, .exit id, Q, e, ds, w => Q (.exit id) e ds w
  | _, _, .label _, Q, e, ds, w => Q .normal e ds w
  | _, _, .goto l, Q, e, ds, w => Q (.goto l) e ds w
  | _, _, .ret, Q, e, ds, w => Q .ret e ds w
  | _, _, .scope _, _, _, _, _ => False
  | rd, .rng ks a b, .rangeFunc g ps as_ body, Q, e, ds, w => entA rd w fun l r mk w1 =>
    yieldA P l (fun args wa F => readyA wa l r (bindA ks ps.toList args e fun e1 =>
        codeA P N (some l) (a l r F) as_ (thenA (fun e2 ds2 w2 => readyA w2 l r (putK w2 l (loopObj r .busy none) fun w3 => codeA P N (some l) (b l r F) body (roundPostA l r F) e2 ds2 w3)) (fun _ _ _ _ => False)) e1 [] wa))
      (enterV P (rdv N e g) #[.func (.yield l) #[] #[]] w1 fun _ w2 => endA l r w2 fun pe w3 =>
        jumpP pe w3 (fun w => Q .normal e (mk ++ ds) w) (fun w => Q .ret e (mk ++ ds) w) (fun id w => Q (.exit id) e (mk ++ ds) w) (fun t w => Q (.goto t) e (mk ++ ds) w))
  | _, _, .rangeFunc _ _ _ _, _, _, _, _ => False
  | _, _, .refuse _, _, _, _, _ => False

/-- What the joins and the loops owe. -/
def sidesA (P : Program) (N : Nat) : Option Nat → Ann → Code → Post → Prop
  | _, .no, _, _ => True
  | rd, .join K a b, .seq x y, Q => (∀ e ds w, K e ds w → codeA P N rd b y Q e ds w) ∧ sidesA P N rd a x (thenA K Q) ∧ sidesA P N rd b y Q
  | rd, an, .seq x y, Q => sidesA P N rd an.l x (thenA (codeA P N rd an.r y Q) Q) ∧ sidesA P N rd an.r y Q
  | rd, an, .cond _ x y, Q => sidesA P N rd an.l x Q ∧ sidesA P N rd an.r y Q
  | rd, an, .block id c, Q => sidesA P N rd an.l c (blockA id Q)
  | rd, .loop I a, .loop c, Q => (∀ e ds w, ¬ I 0 e ds w) ∧ (∀ n e ds w, I (n + 1) e ds w → codeA P N rd (a n) c (thenA (I n) Q) e ds w) ∧ ∀ n, sidesA P N rd (a n) c (thenA (I n) Q)
  | _, .rng _ a b, .rangeFunc _ _ as_ body, _ => ∀ l r F, sidesA P N (some l) (a l r F) as_ (thenA (fun e2 ds2 w2 => readyA w2 l r (putK w2 l (loopObj r .busy none) fun w3 => codeA P N (some l) (b l r F) body (roundPostA l r F) e2 ds2 w3)) (fun _ _ _ _ => False)) ∧
      sidesA P N (some l) (b l r F) body (roundPostA l r F)
  | _, _, _, _ => True

def nilD (ds : List Deferred) (p : Prop) : Prop := match ds with | [] => p | _ => False
/-- What a frame that leaves finds put off: marks of loops over functions, nothing behind them. -/
def marksA : List Deferred → World → (World → Prop) → Prop
  | [], w, F => F w
  | d :: ds, w, F => match d.target with
    | .collected D => w.heap[D]? = some (.deferred (some [])) ∧ marksA ds (w.putObj D (.deferred none)) F
    | _ => False
def resL (P : Program) (N : Nat) (e : Env) (w : World) : List ResultVar → List Value → (List Value → Prop) → Prop
  | [], acc, F => F acc.reverse
  | .tmp t :: l, acc, F => resL P N e w l (rdv N e (.tmp t) :: acc) F
  | .cell a t :: l, acc, F => match rdv N e (.tmp a) with
    | .pointer (some a) => ldT P w a t fun v => resL P N e w l (v :: acc) F
    | _ => False
def oneOrTuple : List Value → Value
  | [v] => v
  | vs => .tuple vs.toArray
def retA (P : Program) (N : Nat) (fn : Func) (R : Value → World → Prop) : Post
  | .normal, e, ds, w | .ret, e, ds, w => marksA ds w fun w => resL P N e w fn.results.toList [] fun vs => R (oneOrTuple vs) w
  | _, _, _, _ => False
def fnA (P : Program) (fn : Func) (an : Ann) (args : List Value) (w : World) (R : Value → World → Prop) : Prop :=
  match fn.body with
  | some c => codeA P fn.ntmps none an c (retA P fn.ntmps fn R) (envOf args 0) [] w
  | none => False
def fnSides (P : Program) (fn : Func) (an : Ann) (R : Value → World → Prop) : Prop :=
  match fn.body with
  | some c => sidesA P fn.ntmps none an c (retA P fn.ntmps fn R)
  | none => False

end Go.Proofs.Ytalhnoelkglgiaa.Sh
