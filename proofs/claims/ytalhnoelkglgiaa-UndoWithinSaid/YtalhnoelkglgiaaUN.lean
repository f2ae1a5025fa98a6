/- A table among other blocks that stay (Tb): its calls, told so. No condition. -/
import Derived.Test.YtalhnoelkglgiaaUM
namespace Go.Proofs.Ytalhnoelkglgiaa.W
open Go Go.Proofs.Ytalhnoelkglgiaa.Sh Go.RowKit
set_option linter.unusedVariables false
set_option linter.unusedSimpArgs false
set_option maxRecDepth 100000
variable {w w' w0 : World} {K : Value → World → Prop} {Z F G : Nat → Prop} {tb N : Nat} {s : Hist}

/-- A table (blocks F) beside blocks Z that are not its own. -/
structure TbD (w : World) (Z F : Nat → Prop) (tb : Nat) (s : Hist) (N : Nat) : Prop where
  t : TabH w F tb s N
  lF : ∀ x, F x → ¬ Z x ∧ x < w.heap.size
  lZ : ∀ x, Z x → x < w.heap.size
def Tb (w : World) (Z : Nat → Prop) (tb : Nat) (s : Hist) (N : Nat) : Prop := ∃ F, TbD w Z F tb s N
theorem TbD.ext {S : Nat → Prop} (h : TbD w Z F tb s N) (e : Ext S w w') (hs : ∀ x, F x → ¬ S x) : TbD w' Z F tb s N :=
  ⟨h.t.ext e hs, fun x hx => ⟨(h.lF x hx).1, Nat.lt_of_lt_of_le (h.lF x hx).2 e.size⟩, fun x hx => Nat.lt_of_lt_of_le (h.lZ x hx) e.size⟩
theorem Tb.ext {S : Nat → Prop} (h : Tb w Z tb s N) (e : Ext S w w') (hs : ∀ x, S x → Z x ∨ w.heap.size ≤ x) : Tb w' Z tb s N := by
  obtain ⟨F, h⟩ := h
  refine ⟨F, h.ext e fun x hx hS => ?_⟩
  rcases hs x hS with h1 | h1
  · exact (h.lF x hx).1 h1
  · have := (h.lF x hx).2; omega
theorem Tb.bl (h : Tb w Z tb s N) (b : Bl w w') : Tb w' Z tb s N := h.ext (S := None') (Ext.of_bl b) fun _ h => h.elim
theorem Tb.wide {Z' : Nat → Prop} (h : Tb w Z tb s N) (b : Bl w w') (hz : ∀ x, Z' x → Z x ∨ (w.heap.size ≤ x ∧ x < w'.heap.size)) : Tb w' Z' tb s N := by
  obtain ⟨F, h⟩ := h
  have h' := h.ext (S := None') (Ext.of_bl b) fun _ _ h => h
  refine ⟨F, h'.t, fun x hx => ⟨fun hh => ?_, (h'.lF x hx).2⟩, fun x hx => ?_⟩
  · rcases hz x hh with h1 | h1
    · exact (h.lF x hx).1 h1
    · have := (h.lF x hx).2; omega
  · rcases hz x hx with h1 | h1
    · exact h'.lZ x h1
    · exact h1.2
theorem Tb.mono {N' : Nat} (h : Tb w Z tb s N) (hN : N ≤ N') : Tb w Z tb s N' := by
  obtain ⟨F, h⟩ := h; exact ⟨F, h.t.mono hN, h.lF, h.lZ⟩
theorem Tb.lt (h : Tb w Z tb s N) : ∀ x, Z x → x < w.heap.size := by obtain ⟨F, h⟩ := h; exact h.lZ
/-- As many blocks as there are beside it. -/
theorem Tb.most (h : Tb w Z tb s N) : ∃ Z' : Nat → Prop, Tb w Z' tb s N ∧ (∀ x, Z x → Z' x) ∧ ∀ (w1 : World), Bl w w1 → Tb w1 (fun x => Z' x ∨ (w.heap.size ≤ x ∧ x < w1.heap.size)) tb s N := by
  obtain ⟨F, h⟩ := h
  refine ⟨fun x => x < w.heap.size ∧ ¬ F x, ⟨F, h.t, fun x hx => ⟨fun hh => hh.2 hx, (h.lF x hx).2⟩, fun x hx => hx.1⟩, fun x hx => ⟨h.lZ x hx, fun hF => (h.lF x hF).1 hx⟩, fun w1 b => ?_⟩
  exact Tb.wide (Z := fun x => x < w.heap.size ∧ ¬ F x) ⟨F, h.t, fun x hx => ⟨fun hh => hh.2 hx, (h.lF x hx).2⟩, fun x hx => hx.1⟩ b fun x hx => hx
theorem TbD.after {F' : Nat → Prop} {s' : Hist} {N' : Nat} (h : TbD w Z F tb s N) (ht : TabH w' F' tb s' N') (hf : ∀ x, F' x → F x ∨ w.heap.size ≤ x) (e : Ext F w w') : Tb w' Z tb s' N' := by
  refine ⟨_, ht.cut, fun x hx => ⟨fun hz => ?_, hx.2⟩, fun x hx => Nat.lt_of_lt_of_le (h.lZ x hx) e.size⟩
  rcases hf x hx.1 with h1 | h1
  · exact (h.lF x h1).1 hz
  · have := h.lZ x hz; omega
theorem TbD.nz (h : TbD w Z F tb s N) (e : Ext F w w') : Ext (fun x => ¬ Z x) w w' := e.mono fun x _ hx => (h.lF x hx).1
theorem blNZ (hb : Bl w0 w) (e : Ext (fun x => ¬ Z x) w w') (zb : ∀ x, x < w0.heap.size → Z x) : Bl w0 w' :=
  ((Ext.of_bl (S := fun x => ¬ Z x) hb).trans e fun _ _ h => h).bl fun x hx hz => hz (zb x hx)

section
variable {k v : Int}
theorem tNew (kk : ∀ w' tb, Tb w' (fun x => x < w.heap.size) tb h0 0 → Bl w w' → K (.pointer (some ⟨tb, 0, none⟩)) w') : CallV Try.prog 10 #[] w K :=
  newH fun w' F tb ht hf hb => kk w' tb ⟨F, ht, fun x hx => ⟨fun h => by have := hf x hx; omega, (hf x hx).2⟩, fun x hx => Nat.lt_of_lt_of_le hx hb.size⟩ hb
theorem tSet (h : Tb w Z tb s N) (hN : N < 500000000) (kk : ∀ w', Tb w' Z tb (s.set k v) (N + 1) → Ext (fun x => ¬ Z x) w w' → K (.tuple #[]) w') : CallV Try.prog 12 #[.pointer (some ⟨tb, 0, none⟩), .int .i64 k, .int .i64 v] w K := by
  obtain ⟨F, h⟩ := h
  exact setH h.t hN fun w' F' ht hf he => kk w' (h.after ht hf he) (h.nz he)
theorem tDel (h : Tb w Z tb s N) (hN : N < 500000000) (kk : ∀ w', Tb w' Z tb (s.del k) (N + 1) → Ext (fun x => ¬ Z x) w w' → K (.bool (s.M k).isSome) w') : CallV Try.prog 16 #[.pointer (some ⟨tb, 0, none⟩), .int .i64 k] w K := by
  obtain ⟨F, h⟩ := h
  exact delH h.t hN fun w' F' ht hf he => kk w' (h.after ht hf he) (h.nz he)
theorem tMark (h : Tb w Z tb s N) (hN : N < 500000000) (kk : ∀ w', Tb w' Z tb s.mark (N + 1) → Ext (fun x => ¬ Z x) w w' → K (.int .i64 (s.ms.length : Int)) w') : CallV Try.prog 15 #[.pointer (some ⟨tb, 0, none⟩)] w K := by
  obtain ⟨F, h⟩ := h
  exact markH h.t hN fun w' F' ht hf he => kk w' (h.after ht hf he) (h.nz he)
theorem tBack {a : Nat} (h : Tb w Z tb s N) (hN : N < 500000000) (ha : a < s.ms.length) (kk : ∀ w', Tb w' Z tb (s.back a) N → Ext (fun x => ¬ Z x) w w' → K (.int .i64 0) w') : CallV Try.prog 18 #[.pointer (some ⟨tb, 0, none⟩), .int .i64 (a : Int)] w K := by
  obtain ⟨F, h⟩ := h
  exact backH h.t hN ha fun w' ht he => kk w' (h.after ht (fun x hx => .inl hx) he) (h.nz he)
theorem tBackNot {a : Nat} (h : Tb w Z tb s N) (ha : s.ms.length ≤ a) (kk : K (.int .i64 30) w) : CallV Try.prog 18 #[.pointer (some ⟨tb, 0, none⟩), .int .i64 (a : Int)] w K := by
  obtain ⟨F, h⟩ := h
  obtain ⟨E, h1, _⟩ := h.t
  exact backNot h1 (.inr (by omega)) kk
theorem tForget {a : Nat} (h : Tb w Z tb s N) (ha : a < s.ms.length) (kk : ∀ w', Tb w' Z tb (s.forget a) N → Ext (fun x => ¬ Z x) w w' → K (.int .i64 0) w') : CallV Try.prog 21 #[.pointer (some ⟨tb, 0, none⟩), .int .i64 (a : Int)] w K := by
  obtain ⟨F, h⟩ := h
  exact forgetH h.t ha fun w' ht he => kk w' (h.after ht (fun x hx => .inl hx) he) (h.nz he)
theorem tForgetNot {a : Nat} (h : Tb w Z tb s N) (ha : s.ms.length ≤ a) (kk : K (.int .i64 30) w) : CallV Try.prog 21 #[.pointer (some ⟨tb, 0, none⟩), .int .i64 (a : Int)] w K := by
  obtain ⟨F, h⟩ := h
  obtain ⟨E, h1, _⟩ := h.t
  exact forgetNot h1 (.inr (by omega)) kk
theorem tGet (h : Tb w Z tb s N) (kk : K (.tuple #[.int .i64 ((s.M k).getD 0), .bool (s.M k).isSome]) w) : CallV Try.prog 17 #[.pointer (some ⟨tb, 0, none⟩), .int .i64 k] w K := by
  obtain ⟨F, h⟩ := h; exact getH h.t kk
theorem tLen {ks : List Int} (h : Tb w Z tb s N) (hk : IsKeys s.M ks) (kk : K (.int .i64 (ks.length : Int)) w) : CallV Try.prog 22 #[.pointer (some ⟨tb, 0, none⟩)] w K := by
  obtain ⟨F, h⟩ := h; exact lenH h.t hk kk
theorem tMarks (h : Tb w Z tb s N) (kk : K (.int .i64 (s.ms.length : Int)) w) : CallV Try.prog 14 #[.pointer (some ⟨tb, 0, none⟩)] w K := by
  obtain ⟨F, h⟩ := h; exact marksH h.t kk
theorem tOp {o : OpV} (h : Tb w Z tb s N) (hN : N < 500000000) (kk : ∀ w', Tb w' Z tb (s.op o) (N + 1) → Ext (fun x => ¬ Z x) w w' → K (.tuple #[]) w') :
    CallV Try.prog 11 #[.pointer (some ⟨tb, 0, none⟩), .agg #[.int .i64 o.kind, .bool o.two, .int .i64 o.k, .int .i64 o.v]] w K := by
  obtain ⟨F, h⟩ := h
  exact doOp h.t hN fun w' F' ht hf he => kk w' (h.after ht hf he) (h.nz he)
theorem tKeys (h : Tb w Z tb s N) (hN : N < 500000000) (kk : ∀ w' g cap ks, IsKeys s.M ks → ks.length ≤ 2 * N → Row w' (.slice (some ⟨g, 0, none⟩) ks.length cap) 3 ks.length (ints ks) → w.heap.size ≤ g → Bl w w' → K (.slice (some ⟨g, 0, none⟩) ks.length cap) w') :
    CallV Try.prog 23 #[.pointer (some ⟨tb, 0, none⟩), .func (.func 27) #[] #[]] w K := by
  obtain ⟨F, h⟩ := h; exact keysH h.t hN kk
/-- A view in memory; where its rows lie. -/
structure View (w : World) (S : Nat → Prop) (M : Int → Option Int) (ks : List Int) (p1 p2 : Option Addr) (c1 c2 : Nat) : Prop where
  keys : IsKeys M ks
  r1 : Row w (.slice p1 ks.length c1) 3 ks.length (ints ks)
  r2 : Row w (.slice p2 ks.length c2) 3 ks.length (ints (valsOf M ks))
  at_ : ∀ b, Blk (.slice p1 ks.length c1) b ∨ Blk (.slice p2 ks.length c2) b → S b
theorem View.ext {S T : Nat → Prop} {M : Int → Option Int} {ks : List Int} {p1 p2 : Option Addr} {c1 c2 : Nat} (h : View w S M ks p1 p2 c1 c2) (e : Ext T w w') (hs : ∀ b, S b → ¬ T b) : View w' S M ks p1 p2 c1 c2 :=
  ⟨h.keys, h.r1.ext e fun b hb => hs b (h.at_ b (.inl hb)), h.r2.ext e fun b hb => hs b (h.at_ b (.inr hb)), h.at_⟩
theorem View.bl {S : Nat → Prop} {M : Int → Option Int} {ks : List Int} {p1 p2 : Option Addr} {c1 c2 : Nat} (h : View w S M ks p1 p2 c1 c2) (b : Bl w w') : View w' S M ks p1 p2 c1 c2 := h.ext (T := None') (Ext.of_bl b) fun _ _ h => h
theorem tSeen (h : Tb w Z tb s N) (hN : N < 500000000) (kk : ∀ w' p1 c1 p2 c2 ks, View w' (fun b => w.heap.size ≤ b ∧ b < w'.heap.size) s.M ks p1 p2 c1 c2 → ks.length ≤ 2 * N → Bl w w' → K (.agg #[.slice p1 ks.length c1, .slice p2 ks.length c2]) w') :
    CallV Try.prog 13 #[.pointer (some ⟨tb, 0, none⟩)] w K := by
  obtain ⟨F, h⟩ := h
  refine seen h.t hN fun w' p1 c1 p2 c2 ks h1 h2 h3 h4 h5 h6 => kk w' p1 c1 p2 c2 ks ⟨h1, h3, h4, fun b hb => ⟨h5 b hb, ?_⟩⟩ h2 h6
  rcases hb with hb | hb
  · exact h3.lt hb
  · exact h4.lt hb
theorem tTells {S : Nat → Prop} {M : Int → Option Int} {ks : List Int} {p1 p2 : Option Addr} {c1 c2 : Nat} (h : Tb w Z tb s N) (hN : N < 500000000) (hM : s.M = M) (hv : View w S M ks p1 p2 c1 c2) (hl : ks.length < 1073741823) (kk : ∀ w', Bl w w' → K (.bool true) w') :
    CallV Try.prog 19 #[.pointer (some ⟨tb, 0, none⟩), .agg #[.slice p1 ks.length c1, .slice p2 ks.length c2]] w K := by
  obtain ⟨F, h⟩ := h
  subst hM
  exact tells h.t hN hv.keys hl hv.r1 hv.r2 kk
end
theorem i1w (i : Nat) (h : i < 4000000000) : IntKind.wrap .i64 ((i : Int) + 1) = ((i + 1 : Nat) : Int) := by rw [i64w (by omega) (by omega)]; rfl
theorem g2l {p q : Option Addr} {l m c d : Nat} {F : Option Addr → Nat → Nat → Option Addr → Nat → Nat → Prop} (h : F p l c q m d) :
    asG (.agg #[.slice p l c, .slice q m d]) fun q0 => asHd q0 fun x0 q1 => asL x0 fun p l c => asHd q1 fun x1 q2 => asL x1 fun q m d => asEnd q2 (F p l c q m d) := h
/-- A step out of a script, done. -/
theorem opAt {Q : Addr → World → Prop} {p : Option Addr} {c i : Nat} {ops : List OpV} (hs : Script w p c ops) (hi : i < ops.length) (kk : ∀ a, w.cell? a = some (.int .i64 ops[i].kind) → w.cell? (a.add 1) = some (.bool ops[i].two) → w.cell? (a.add 2) = some (.int .i64 ops[i].k) → w.cell? (a.add 3) = some (.int .i64 ops[i].v) → Q a w) :
    semK Try.prog (Instr.indexAt 22 (.slice p ops.length c) (.int .i64 (i : Int))) w fun v1 w1 => asA v1 fun ad1 => Q ad1 w1 := by
  obtain ⟨a, rfl, h0, h1, h2, h3⟩ := hs.at4 hi
  refine ixS (z := 4) (e := 27) (by kernel_rfl) (by kernel_rfl) (by omega) (by omega) (show asA (.pointer (some _)) _ from ?_)
  rw [Int.toNat_natCast]
  exact kk _ h0 h1 h2 h3
theorem ld4o {a : Addr} {o : OpV} {F : Int → Bool → Int → Int → Prop} (h0 : w.cell? a = some (.int .i64 o.kind)) (h1 : w.cell? (a.add 1) = some (.bool o.two)) (h2 : w.cell? (a.add 2) = some (.int .i64 o.k)) (h3 : w.cell? (a.add 3) = some (.int .i64 o.v)) (k : F o.kind o.two o.k o.v) :
    ldK Try.prog w a fun v2 => asI .i64 v2 fun n1 => ldK Try.prog w (Addr.add a 1) fun v3 => asB v3 fun b1 => ldK Try.prog w (Addr.add a 2) fun v4 => asI .i64 v4 fun n2 => ldK Try.prog w (Addr.add a 3) fun v5 => asI .i64 v5 fun n3 => F n1 b1 n2 n3 :=
  ldI h0 (ld h1 (asB_of (ldI h2 (ldI h3 k))))
theorem doAt {Q : World → Prop} {p : Option Addr} {c i : Nat} {ops : List OpV} (hs : Script w p c ops) (hi : i < ops.length) (h : Tb w Z tb s N) (hN : N < 500000000) (kk : ∀ w', Tb w' Z tb (s.op ops[i]) (N + 1) → Ext (fun x => ¬ Z x) w w' → Q w') :
    semK Try.prog (Instr.indexAt 22 (.slice p ops.length c) (.int .i64 (i : Int))) w fun v1 w1 => asA v1 fun ad1 => ldK Try.prog w1 ad1 fun v2 => asI .i64 v2 fun n1 => ldK Try.prog w1 (Addr.add ad1 1) fun v3 => asB v3 fun b1 => ldK Try.prog w1 (Addr.add ad1 2) fun v4 => asI .i64 v4 fun n2 => ldK Try.prog w1 (Addr.add ad1 3) fun v5 => asI .i64 v5 fun n3 => CallV Try.prog 11 #[(.pointer (some ⟨tb, 0, none⟩)), (.agg #[(.int .i64 n1), (.bool b1), (.int .i64 n2), (.int .i64 n3)])] w1 fun v6 w2 => asT v6 fun t1_0 => asEnd t1_0 (Q w2) :=
  opAt (Q := fun ad1 w1 => ldK Try.prog w1 ad1 fun v2 => asI .i64 v2 fun n1 => ldK Try.prog w1 (Addr.add ad1 1) fun v3 => asB v3 fun b1 => ldK Try.prog w1 (Addr.add ad1 2) fun v4 => asI .i64 v4 fun n2 => ldK Try.prog w1 (Addr.add ad1 3) fun v5 => asI .i64 v5 fun n3 => CallV Try.prog 11 #[(.pointer (some ⟨tb, 0, none⟩)), (.agg #[(.int .i64 n1), (.bool b1), (.int .i64 n2), (.int .i64 n3)])] w1 fun v6 w2 => asT v6 fun t1_0 => asEnd t1_0 (Q w2)) hs hi
    fun a g0 g1 g2 g3 => ld4o g0 g1 g2 g3 (tOp h hN fun w' h' e => t0 (kk w' h' e))
/-- What a walk of a law has to show. -/
def Walk (f : FuncId) (args : Array Value) (W : World) : Prop := Calls Try.prog f args W fun e W' => e = .returned (.bool true) ∧ Below W.heap.size W W'
theorem walk_of {f : FuncId} {args : Array Value} {W : World} (h : CallV Try.prog f args W fun v w' => v = .bool true ∧ Bl W w') : Walk f args W :=
  Calls.mono h fun e w' ⟨v, he, hv, hb⟩ => ⟨by rw [he, hv], hb⟩
end Go.Proofs.Ytalhnoelkglgiaa.W
