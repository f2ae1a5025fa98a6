/- Words for reading what the printed functions ask: the worlds a call leaves behind (Bl), the cells of a block, numbers that wrap. No condition. -/
import Derived.Test.YtalhnoelkglgiaaSh5
import Derived.Below
namespace Go.Proofs.Ytalhnoelkglgiaa.Sh
open Go Go.RowKit
set_option linter.unusedVariables false

theorem u64w (n : Int) : IntKind.u64.wrap n = n % 18446744073709551616 := by
  simp [IntKind.wrap, IntKind.bits, IntKind.signed]
theorem u8w (n : Int) : IntKind.u8.wrap n = n % 256 := by
  simp [IntKind.wrap, IntKind.bits, IntKind.signed]
theorem i64w {n : Int} (h0 : -9223372036854775808 ≤ n) (h1 : n ≤ 9223372036854775807) : IntKind.i64.wrap n = n := by
  simp [IntKind.wrap, IntKind.bits, IntKind.signed]
  split <;> omega

/-! ### Which way -/
theorem ifB_t {b : Bool} {p q : Prop} (hb : b = true) (h : p) : ifB b p q := by subst hb; exact h
theorem ifB_f {b : Bool} {p q : Prop} (hb : b = false) (h : q) : ifB b p q := by subst hb; exact h
theorem ifD {P : Prop} [Decidable P] {p q : Prop} (h1 : P → p) (h2 : ¬ P → q) : ifB (decide P) p q := by
  by_cases h : P
  · simp only [h, decide_true]; exact h1 h
  · simp only [h, decide_false]; exact h2 h
theorem ifE {x y : Int} {p q : Prop} (h1 : x = y → p) (h2 : ¬ x = y → q) : ifB (x == y) p q := by
  by_cases h : x = y
  · simp only [h, BEq.rfl]; exact h1 h
  · have : (x == y) = false := by simpa using h
    rw [this]; exact h2 h
theorem ifNe {x y : Int} {p q : Prop} (h1 : ¬ x = y → p) (h2 : x = y → q) : ifB (x != y) p q := by
  by_cases h : x = y
  · have : (x != y) = false := by simpa using h
    rw [this]; exact h2 h
  · have : (x != y) = true := by simpa using h
    rw [this]; exact h1 h
theorem ifBb {b : Bool} {p q : Prop} (h1 : b = true → p) (h2 : b = false → q) : ifB b p q := by cases b; exact h2 rfl; exact h1 rfl

theorem ifDB {P : Prop} [Decidable P] {p q : Prop} (h1 : P → p) (h2 : ¬ P → q) : ifB (decide P) p q := ifD h1 h2
theorem asB_of {b : Bool} {F : Bool → Prop} (h : F b) : asB (.bool b) F := h
/-! ### Worlds -/
def Bl (w w' : World) : Prop := Below w.heap.size w w'
theorem Bl.refl (w : World) : Bl w w := Below.refl _ _
theorem Bl.trans {a b c : World} (h : Bl a b) (k : Bl b c) : Bl a c := Below.trans h (Below.mono k h.size)
theorem Bl.alloc {a w : World} (h : Bl a w) (o : Obj) : Bl a (w.alloc o) := Below.alloc h h.size o
theorem Bl.drew {a w : World} (h : Bl a w) : Bl a w.drew := Below.drew h
theorem Bl.setCell {a w : World} (h : Bl a w) {p : Addr} (hp : a.heap.size ≤ p.block) (u : Value) : Bl a (w.setCell p u) := Below.setCell h hp u
theorem Bl.cell {w w' : World} (h : Bl w w') {b o : Nat} {v : Value} (hc : w.cell? ⟨b, o, none⟩ = some v) : w'.cell? ⟨b, o, none⟩ = some v := by
  by_cases hb : b < w.heap.size
  · exact (Below.cell h (p := ⟨b, o, none⟩) hb).trans hc
  · simp [World.cell?, Array.getElem?_eq_none (Nat.le_of_not_lt hb)] at hc

theorem ld {P : Program} {w : World} {a : Addr} {v : Value} {F : Value → Prop} (h : w.cell? a = some v) (k : F v) : ldK P w a F := by
  unfold ldK; rw [h]; exact k
theorem ldI {P : Program} {w : World} {a : Addr} {kd : IntKind} {n : Int} {F : Int → Prop} (h : w.cell? a = some (.int kd n)) (k : F n) : ldK P w a fun v => asI kd v F := by
  refine ld h ?_; simp only [asI, if_true]; exact k
theorem cell_alloc (w : World) (cs : Array Value) (t i : Nat) : (w.alloc (.cells cs t)).cell? ⟨w.heap.size, i, none⟩ = cs[i]? := by
  have : (w.alloc (.cells cs t)).heap[w.heap.size]? = some (.cells cs t) := by
    show (w.heap.push _)[w.heap.size]? = _
    simp
  simp only [World.cell?]
  rw [this]; rfl

/-- Four numbers in a block. -/
structure W4 (w : World) (b : Nat) (x0 x1 x2 x3 : Int) : Prop where
  c0 : w.cell? ⟨b, 0, none⟩ = some (.int .u64 x0)
  c1 : w.cell? ⟨b, 1, none⟩ = some (.int .u64 x1)
  c2 : w.cell? ⟨b, 2, none⟩ = some (.int .u64 x2)
  c3 : w.cell? ⟨b, 3, none⟩ = some (.int .u64 x3)
theorem W4.bl {w w' : World} {b : Nat} {x0 x1 x2 x3 : Int} (h : W4 w b x0 x1 x2 x3) (k : Bl w w') : W4 w' b x0 x1 x2 x3 := ⟨k.cell h.c0, k.cell h.c1, k.cell h.c2, k.cell h.c3⟩
theorem W4.new (w : World) (t : Nat) (x0 x1 x2 x3 : Int) : W4 (w.alloc (.cells #[.int .u64 x0, .int .u64 x1, .int .u64 x2, .int .u64 x3] t)) w.heap.size x0 x1 x2 x3 :=
  ⟨by rw [cell_alloc]; rfl, by rw [cell_alloc]; rfl, by rw [cell_alloc]; rfl, by rw [cell_alloc]; rfl⟩
theorem ld4 {P : Program} {w : World} {b : Nat} {x0 x1 x2 x3 : Int} {F : Int → Int → Int → Int → Prop} (h : W4 w b x0 x1 x2 x3) (k : F x0 x1 x2 x3) :
    ldK P w ⟨b, 0, none⟩ fun v1 => asI .u64 v1 fun n1 => ldK P w ⟨b, 1, none⟩ fun v2 => asI .u64 v2 fun n2 => ldK P w ⟨b, 2, none⟩ fun v3 => asI .u64 v3 fun n3 => ldK P w ⟨b, 3, none⟩ fun v4 => asI .u64 v4 fun n4 => F n1 n2 n3 n4 :=
  ldI h.c0 (ldI h.c1 (ldI h.c2 (ldI h.c3 k)))
theorem CallV.of {P : Program} {f : FuncId} {args : Array Value} {w : World} {K K' : Value → World → Prop} (h : CallV P f args w K) (hk : ∀ v w', K v w' → K' v w') : CallV P f args w K' := CallV.mono h hk
end Go.Proofs.Ytalhnoelkglgiaa.Sh
