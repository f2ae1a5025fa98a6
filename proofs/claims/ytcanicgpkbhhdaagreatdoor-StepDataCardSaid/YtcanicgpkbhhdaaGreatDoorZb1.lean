/- Joined out of own texts. No condition: it holds of every program, or of this one by what is shown here. -/
import Derived.Test.YtcanicgpkbhhdaaGreatDoorZb0
import Derived.Below
import Derived.Laws.Tables
import Derived.Laws.Entries
import Derived.Laws.Strings
import Derived.OpenShut
import Derived.ChangeSlices
import Derived.Carry
import Derived.MapKept
import Derived.Maps.RangeRun
import Derived.Deep.AppendLies
import Derived.Laws.CopyRow
import Derived.Lib.JoinLaws
import Derived.Deep.Upon
import Derived.Laws.IdiomCopy
import Derived.Deep.MidRow
set_option linter.unusedSectionVars false
set_option linter.constructorNameAsVariable false
set_option linter.unusedVariables false
set_option linter.unusedSimpArgs false
namespace Go.Proofs.YtcanicgpkbhhdaaGreatDoor.Sh
open Go Go.RowKit
set_option linter.unusedVariables false

theorem u64w (n : Int) : IntKind.u64.wrap n = n % 18446744073709551616 := by
  simp [IntKind.wrap, IntKind.bits, IntKind.signed]
theorem u8w (n : Int) : IntKind.u8.wrap n = n % 256 := by
  simp [IntKind.wrap, IntKind.bits, IntKind.signed]
theorem i64w {n : Int} (h0 : -9223372036854775808 ≤ n) (h1 : n ≤ 9223372036854775807) : IntKind.i64.wrap n = n := by
  simp [IntKind.wrap, IntKind.bits, IntKind.signed]
  split <;> omega

/-! ### Which way -/
theorem ifB_t {b : Bool} {p q : Prop} (hb : b = true) (h : p) : ifB b p q := by subst hb; exact h
theorem ifB_f {b : Bool} {p q : Prop} (hb : b = false) (h : q) : ifB b p q := by subst hb; exact h
theorem ifD {P : Prop} [Decidable P] {p q : Prop} (h1 : P → p) (h2 : ¬ P → q) : ifB (decide P) p q := by
  by_cases h : P
  · simp only [h, decide_true]; exact h1 h
  · simp only [h, decide_false]; exact h2 h
theorem ifE {x y : Int} {p q : Prop} (h1 : x = y → p) (h2 : ¬ x = y → q) : ifB (x == y) p q := by
  by_cases h : x = y
  · simp only [h, BEq.rfl]; exact h1 h
  · have : (x == y) = false := by simpa using h
    rw [this]; exact h2 h
theorem ifNe {x y : Int} {p q : Prop} (h1 : ¬ x = y → p) (h2 : x = y → q) : ifB (x != y) p q := by
  by_cases h : x = y
  · have : (x != y) = false := by simpa using h
    rw [this]; exact h2 h
  · have : (x != y) = true := by simpa using h
    rw [this]; exact h1 h
theorem ifBb {b : Bool} {p q : Prop} (h1 : b = true → p) (h2 : b = false → q) : ifB b p q := by cases b; exact h2 rfl; exact h1 rfl

theorem ifDB {P : Prop} [Decidable P] {p q : Prop} (h1 : P → p) (h2 : ¬ P → q) : ifB (decide P) p q := ifD h1 h2
theorem asB_of {b : Bool} {F : Bool → Prop} (h : F b) : asB (.bool b) F := h
/-! ### Worlds -/
def Bl (w w' : World) : Prop := Below w.heap.size w w'
theorem Bl.refl (w : World) : Bl w w := Below.refl _ _
theorem Bl.trans {a b c : World} (h : Bl a b) (k : Bl b c) : Bl a c := Below.trans h (Below.mono k h.size)
theorem Bl.alloc {a w : World} (h : Bl a w) (o : Obj) : Bl a (w.alloc o) := Below.alloc h h.size o
theorem Bl.drew {a w : World} (h : Bl a w) : Bl a w.drew := Below.drew h
theorem Bl.setCell {a w : World} (h : Bl a w) {p : Addr} (hp : a.heap.size ≤ p.block) (u : Value) : Bl a (w.setCell p u) := Below.setCell h hp u
theorem Bl.cell {w w' : World} (h : Bl w w') {b o : Nat} {v : Value} (hc : w.cell? ⟨b, o, none⟩ = some v) : w'.cell? ⟨b, o, none⟩ = some v := by
  by_cases hb : b < w.heap.size
  · exact (Below.cell h (p := ⟨b, o, none⟩) hb).trans hc
  · simp [World.cell?, Array.getElem?_eq_none (Nat.le_of_not_lt hb)] at hc

theorem ld {P : Program} {w : World} {a : Addr} {v : Value} {F : Value → Prop} (h : w.cell? a = some v) (k : F v) : ldK P w a F := by
  unfold ldK; rw [h]; exact k
theorem ldI {P : Program} {w : World} {a : Addr} {kd : IntKind} {n : Int} {F : Int → Prop} (h : w.cell? a = some (.int kd n)) (k : F n) : ldK P w a fun v => asI kd v F := by
  refine ld h ?_; simp only [asI, if_true]; exact k
theorem cell_alloc (w : World) (cs : Array Value) (t i : Nat) : (w.alloc (.cells cs t)).cell? ⟨w.heap.size, i, none⟩ = cs[i]? := by
  have : (w.alloc (.cells cs t)).heap[w.heap.size]? = some (.cells cs t) := by
    show (w.heap.push _)[w.heap.size]? = _
    simp
  simp only [World.cell?]
  rw [this]; rfl

/-- Four numbers in a block. -/
structure W4 (w : World) (b : Nat) (x0 x1 x2 x3 : Int) : Prop where
  c0 : w.cell? ⟨b, 0, none⟩ = some (.int .u64 x0)
  c1 : w.cell? ⟨b, 1, none⟩ = some (.int .u64 x1)
  c2 : w.cell? ⟨b, 2, none⟩ = some (.int .u64 x2)
  c3 : w.cell? ⟨b, 3, none⟩ = some (.int .u64 x3)
theorem W4.bl {w w' : World} {b : Nat} {x0 x1 x2 x3 : Int} (h : W4 w b x0 x1 x2 x3) (k : Bl w w') : W4 w' b x0 x1 x2 x3 := ⟨k.cell h.c0, k.cell h.c1, k.cell h.c2, k.cell h.c3⟩
theorem W4.new (w : World) (t : Nat) (x0 x1 x2 x3 : Int) : W4 (w.alloc (.cells #[.int .u64 x0, .int .u64 x1, .int .u64 x2, .int .u64 x3] t)) w.heap.size x0 x1 x2 x3 :=
  ⟨by rw [cell_alloc]; rfl, by rw [cell_alloc]; rfl, by rw [cell_alloc]; rfl, by rw [cell_alloc]; rfl⟩
theorem ld4 {P : Program} {w : World} {b : Nat} {x0 x1 x2 x3 : Int} {F : Int → Int → Int → Int → Prop} (h : W4 w b x0 x1 x2 x3) (k : F x0 x1 x2 x3) :
    ldK P w ⟨b, 0, none⟩ fun v1 => asI .u64 v1 fun n1 => ldK P w ⟨b, 1, none⟩ fun v2 => asI .u64 v2 fun n2 => ldK P w ⟨b, 2, none⟩ fun v3 => asI .u64 v3 fun n3 => ldK P w ⟨b, 3, none⟩ fun v4 => asI .u64 v4 fun n4 => F n1 n2 n3 n4 :=
  ldI h.c0 (ldI h.c1 (ldI h.c2 (ldI h.c3 k)))
theorem CallV.of {P : Program} {f : FuncId} {args : Array Value} {w : World} {K K' : Value → World → Prop} (h : CallV P f args w K) (hk : ∀ v w', K v w' → K' v w') : CallV P f args w K' := CallV.mono h hk
end Go.Proofs.YtcanicgpkbhhdaaGreatDoor.Sh

namespace Go.Proofs.YtcanicgpkbhhdaaGreatDoor.Sh
open Go Go.RowKit
set_option linter.unusedVariables false
set_option linter.unusedSimpArgs false

/-! ### Operations -/
theorem semK_of {P : Program} {s : Sem Value} {w w' : World} {v : Value} {F : Value → World → Prop} (h : s.run P w = .ok v w') (k : F v w') : semK P s w F := by
  unfold semK; rw [Sem.wp_iff_run, h]; exact k
theorem semU_of {P : Program} {s : Sem Unit} {w w' : World} {F : World → Prop} (h : s.run P w = .ok () w') (k : F w') : semU P s w F := by
  unfold semU; rw [Sem.wp_iff_run, h]; exact k
theorem run_sizeOf {P : Program} {w : World} {t : TypeId} {n : Nat} (h : (P.info? t).map (·.size) = some n) : (sizeOf t).run P w = .ok n w := by
  cases hi : P.info? t with
  | none => simp [hi] at h
  | some i => simp [hi] at h; simp [sizeOf, typeInfo, hi, h]
/-- An element's address: of a slice. -/
theorem ixS {P : Program} {w : World} {t e : TypeId} {z : Nat} {a : Addr} {l c : Nat} {k : IntKind} {i : Int} {F : Value → World → Prop} (ht : P.underlying t = some (.slice e)) (hz : (P.info? e).map (·.size) = some z)
    (h0 : 0 ≤ i) (h1 : i < (l : Int)) (kk : F (.pointer (some (a.add (i.toNat * z)))) w) : semK P (Instr.indexAt t (.slice (some a) l c) (.int k i)) w F := by
  have he : P.elem t = e := by simp [Program.elem, ht]
  refine semK_of (run_indexAt_slice (P := P) w t a l c k i (by rw [he]; exact ht) |>.trans ?_) kk
  rw [if_pos ⟨h0, h1⟩, he, run_sizeOf hz]; rfl
/-- An element's address: of an array. -/
theorem ixA {P : Program} {w : World} {t e : TypeId} {n z : Nat} {a : Addr} {k : IntKind} {i : Int} {F : Value → World → Prop} (ht : P.underlying t = some (.array n e)) (hz : (P.info? e).map (·.size) = some z)
    (h0 : 0 ≤ i) (h1 : i < (n : Int)) (kk : F (.pointer (some (a.add (i.toNat * z)))) w) : semK P (Instr.indexAt t (.pointer (some a)) (.int k i)) w F := by
  have he : P.elem t = e := by simp [Program.elem, ht]
  have hn : P.arrayLen t = n := by simp [Program.arrayLen, ht]
  refine semK_of (run_indexAt_array (P := P) w t a k i (by rw [he, hn]; exact ht) |>.trans ?_) kk
  rw [hn, if_pos ⟨h0, h1⟩, he, run_sizeOf hz]; rfl
/-- A byte of a string. -/
theorem ixStr {P : Program} {w : World} {t : TypeId} {s : ByteArray} {k : IntKind} {i : Int} {F : Value → World → Prop} (ht : P.underlying t = some .string) (h0 : 0 ≤ i) (h1 : i < (s.size : Int))
    (kk : F (.int .u8 (s[i.toNat]'(by omega)).toNat) w) : semK P (Instr.index t (.string s) (.int k i)) w F := by
  refine semK_of (run_index_string (P := P) w t s k i ht |>.trans ?_) kk
  rw [dif_pos ⟨h0, h1⟩]

/-! ### Blocks -/
def Own (w : World) (b : Nat) (cs : Array Value) (t : TypeId) : Prop := w.heap[b]? = some (.cells cs t (0, 0))
/-- Those blocks aside, the world is as it was; blocks may have come. -/
structure Ext (S : Nat → Prop) (w w' : World) : Prop where
  os : w'.os = w.os
  tape : w'.tape = w.tape
  output : w'.output = w.output
  size : w.heap.size ≤ w'.heap.size
  block : ∀ k, k < w.heap.size → ¬ S k → w'.heap[k]? = w.heap[k]?
def None' : Nat → Prop := fun _ => False
theorem Ext.refl {S : Nat → Prop} (w : World) : Ext S w w := ⟨rfl, rfl, rfl, Nat.le_refl _, fun _ _ _ => rfl⟩
theorem Ext.of_bl {S : Nat → Prop} {w w' : World} (h : Bl w w') : Ext S w w' := ⟨h.os, h.tape, h.output, h.size, fun k hk _ => h.block k hk⟩
theorem Ext.bl {S : Nat → Prop} {w w' : World} (h : Ext S w w') (hS : ∀ k, k < w.heap.size → ¬ S k) : Bl w w' := ⟨h.os, h.tape, h.output, h.size, fun k hk => h.block k hk (hS k hk)⟩
theorem Ext.mono {S S' : Nat → Prop} {w w' : World} (h : Ext S w w') (hS : ∀ k, k < w.heap.size → S k → S' k) : Ext S' w w' := ⟨h.os, h.tape, h.output, h.size, fun k hk hn => h.block k hk fun hs => hn (hS k hk hs)⟩
theorem Ext.trans {S S' : Nat → Prop} {a b c : World} (h : Ext S a b) (k : Ext S' b c) (hS : ∀ k, k < a.heap.size → S' k → S k) : Ext S a c :=
  ⟨k.os.trans h.os, k.tape.trans h.tape, k.output.trans h.output, Nat.le_trans h.size k.size, fun i hi hn => (k.block i (Nat.lt_of_lt_of_le hi h.size) fun hs => hn (hS i hi hs)).trans (h.block i hi hn)⟩
theorem Ext.alloc {S : Nat → Prop} {a w : World} (h : Ext S a w) (o : Obj) : Ext S a (w.alloc o) :=
  h.trans (S' := S) ⟨rfl, rfl, rfl, by simp, fun k hk _ => Below.heap_alloc _ _ _ hk⟩ fun _ _ h => h
theorem Ext.drew {S : Nat → Prop} {a w : World} (h : Ext S a w) : Ext S a w.drew := ⟨h.os, h.tape, h.output, h.size, h.block⟩
theorem size_alloc (w : World) (o : Obj) : (w.alloc o).heap.size = w.heap.size + 1 := by
  show (w.heap.push o).size = _
  simp
theorem Own.lt {w : World} {b : Nat} {cs : Array Value} {t : TypeId} (h : Own w b cs t) : b < w.heap.size := by
  by_cases hb : b < w.heap.size
  · exact hb
  · unfold Own at h; rw [Array.getElem?_eq_none (Nat.le_of_not_lt hb)] at h; cases h
theorem Own.ext {S : Nat → Prop} {w w' : World} {b : Nat} {cs : Array Value} {t : TypeId} (h : Own w b cs t) (k : Ext S w w') (hb : ¬ S b) : Own w' b cs t := (k.block b h.lt hb).trans h
theorem Own.bl {w w' : World} {b : Nat} {cs : Array Value} {t : TypeId} (h : Own w b cs t) (k : Bl w w') : Own w' b cs t := (k.block b h.lt).trans h
theorem Own.new (w : World) (cs : Array Value) (t : TypeId) : Own (w.alloc (.cells cs t)) w.heap.size cs t := by
  show (w.heap.push _)[w.heap.size]? = _
  simp
theorem Own.alloc {w : World} {b : Nat} {cs : Array Value} {t : TypeId} (h : Own w b cs t) (o : Obj) : Own (w.alloc o) b cs t := (Below.heap_alloc w o b h.lt).trans h
theorem Own.drew {w : World} {b : Nat} {cs : Array Value} {t : TypeId} (h : Own w b cs t) : Own w.drew b cs t := h
theorem Own.cell {w : World} {b i : Nat} {cs : Array Value} {t : TypeId} (h : Own w b cs t) : w.cell? ⟨b, i, none⟩ = cs[i]? := by
  unfold Own at h
  simp only [World.cell?]
  rw [h]; rfl
theorem Own.frozen {w : World} {b i : Nat} {cs : Array Value} {t : TypeId} (h : Own w b cs t) : w.frozen? ⟨b, i, none⟩ = false := by
  unfold Own at h
  simp only [World.frozen?]
  rw [h]
  simp
theorem ldO {P : Program} {w : World} {b i : Nat} {cs : Array Value} {t : TypeId} {v : Value} {F : Value → Prop} (h : Own w b cs t) (hv : cs[i]? = some v) (k : F v) : ldK P w ⟨b, i, none⟩ F := ld (h.cell.trans hv) k
/-- One cell written. -/
theorem setO {w : World} {b i : Nat} {cs : Array Value} {t : TypeId} {v : Value} (h : Own w b cs t) (hi : i < cs.size) : Own (w.setCell ⟨b, i, none⟩ v) b (cs.set i v) t ∧ Ext (· = b) w (w.setCell ⟨b, i, none⟩ v) := by
  constructor
  · unfold Own at h ⊢
    simp only [World.setCell, Array.getElem?_modify]
    simp only [if_true]
    rw [h]
    simp [Array.setIfInBounds, hi]
  · exact ⟨rfl, rfl, rfl, by simp [World.setCell], fun k hk hb => Below.heap_setCell _ _ _ _ hb⟩
theorem stO {P : Program} {w : World} {b i : Nat} {cs : Array Value} {t ty : TypeId} {v : Value} {F : World → Prop} (h : Own w b cs t) (hi : i < cs.size) (hz : (P.info? ty).map (·.size) = some 1) (h1 : v.oneCell' = true) (hc : v.cells = #[v])
    (k : ∀ w', Own w' b (cs.set i v) t → Ext (· = b) w w' → F w') : semU P (Instr.storeAt ty (.pointer (some ⟨b, i, none⟩)) v) w F := by
  obtain ⟨g1, g2⟩ := setO (v := v) h hi
  refine semU_of (w' := w.setCell ⟨b, i, none⟩ v) ?_ (k _ g1 g2)
  have hcell : w.cell? ⟨b, i, none⟩ = some cs[i] := by rw [h.cell]; simp [hi]
  have hs : (store ⟨b, i, none⟩ v .plain).run P w = .ok () (w.setCell ⟨b, i, none⟩ v) := by
    rw [run_store P w _ _ _ h1]
    simp only [stored, hcell, h.frozen]
    rfl
  simp [Instr.storeAt, Instr.sureAddr, storeVar, run_sizeOf hz, hc, storeCells, hs, Addr.add]
/-- The whole block written. -/
theorem stAll {P : Program} {w : World} {b : Nat} {cs vs : Array Value} {t ty : TypeId} {F : World → Prop} (h : Own w b cs t) (hz : (P.info? ty).map (·.size) = some vs.size) (hs : cs.size = vs.size) (h1 : vs.all (·.oneCell') = true)
    (k : ∀ w', Own w' b vs t → Ext (· = b) w w' → F w') : semU P (Instr.storeAt ty (.pointer (some ⟨b, 0, none⟩)) (.agg vs)) w F := by
  refine semU_of (w' := w.setRow b vs) ?_ (k _ ?_ ?_)
  · simp only [Instr.storeAt, Instr.sureAddr, Sem.run_bind, Sem.run_pure, Result.andThen_ok]
    exact run_storeVar_row w b t ty cs vs h hz hs h1
  · unfold Own at h ⊢
    simp only [World.setRow, Array.getElem?_modify, if_true, h]
    rfl
  · refine ⟨rfl, rfl, rfl, by simp [World.setRow], fun k hk hb => ?_⟩
    simp only [World.setRow, Array.getElem?_modify]
    rw [if_neg fun e => hb e.symm]
/-- Four numbers. -/
theorem Own.w4 {w : World} {b : Nat} {t : TypeId} {x0 x1 x2 x3 : Int} (h : Own w b #[.int .u64 x0, .int .u64 x1, .int .u64 x2, .int .u64 x3] t) : W4 w b x0 x1 x2 x3 :=
  ⟨by rw [h.cell]; rfl, by rw [h.cell]; rfl, by rw [h.cell]; rfl, by rw [h.cell]; rfl⟩
end Go.Proofs.YtcanicgpkbhhdaaGreatDoor.Sh

namespace Go.Proofs.YtcanicgpkbhhdaaGreatDoor.Sh
open Go Go.RowKit Go.ChangeShapes
set_option linter.unusedVariables false
set_option linter.unusedSimpArgs false
section
variable {H : Type} {enc : TypeId × Value → H} {P : Program} {w : World} {base b0 : Nat} {sp : Nat → Bool} {held : Bool}

theorem trod_word {t e : TypeId} {fuel : Nat} {cs : List Value} {y : DataW H × List MemPlace} (ht : P.underlying t = some (.array 4 e)) (he : P.underlying e = some (.int .u64)) (hc : P.cellsOf e = 1) (hct : P.cellsOf t = 4)
    (h : DataW.trod enc P w base sp held fuel t cs = some y) :
    ∃ x0 x1 x2 x3, cs = [.int .u64 x0, .int .u64 x1, .int .u64 x2, .int .u64 x3] ∧ y.2 = [] ∧ (Lit.int .u64 x0).wf = true ∧ (Lit.int .u64 x1).wf = true ∧ (Lit.int .u64 x2).wf = true ∧ (Lit.int .u64 x3).wf = true := by
  cases fuel with
  | zero => simp [DataW.trod] at h
  | succ m =>
    rw [DataW.trod_step] at h
    unfold DataW.trodStep at h
    simp only [ht] at h
    by_cases hl : cs.length = P.cellsOf t
    · rw [if_pos hl] at h
      rw [hct] at hl
      obtain ⟨c0, c1, c2, c3, rfl⟩ : ∃ c0 c1 c2 c3, cs = [c0, c1, c2, c3] := by
        match cs, hl with
        | [c0, c1, c2, c3], _ => exact ⟨c0, c1, c2, c3, rfl⟩
      simp only [Option.map_eq_some_iff] at h
      obtain ⟨ys, hy, e1⟩ := h
      rw [show List.range 4 = [0, 1, 2, 3] from rfl, hc] at hy
      simp only [List.mapM_cons, List.mapM_nil, Option.bind_eq_bind, Option.pure_def, Option.bind_eq_some_iff, Option.some.injEq] at hy
      obtain ⟨y0, h0, r1, ⟨y1, h1, r2, ⟨y2, h2, r3, ⟨y3, h3, r4, rfl, rfl⟩, rfl⟩, rfl⟩, rfl⟩ := hy
      obtain ⟨n0, k0, rfl, w0⟩ := DataW.trod_int he h0
      obtain ⟨n1, k1, rfl, w1⟩ := DataW.trod_int he h1
      obtain ⟨n2, k2, rfl, w2⟩ := DataW.trod_int he h2
      obtain ⟨n3, k3, rfl, w3⟩ := DataW.trod_int he h3
      simp at k0 k1 k2 k3
      refine ⟨n0, n1, n2, n3, ?_, ?_, w0, w1, w2, w3⟩
      · rw [k0, k1, k2, k3]
      · rw [← e1]; rfl
    · rw [if_neg hl] at h; cases h

theorem open_word {t e : TypeId} {r : Reach} {v : Value} {d : DataW H} {ps : List MemPlace} (ht : P.underlying t = some (.array 4 e)) (he : P.underlying e = some (.int .u64)) (hc : P.cellsOf e = 1) (hct : P.cellsOf t = 4)
    (hval : Value.okWide P w r b0 t v) (h : DataW.Trod enc P w base sp held t v d ps) :
    ∃ x0 x1 x2 x3, v = .agg #[.int .u64 x0, .int .u64 x1, .int .u64 x2, .int .u64 x3] ∧ ps = [] ∧ (Lit.int .u64 x0).wf = true ∧ (Lit.int .u64 x1).wf = true ∧ (Lit.int .u64 x2).wf = true ∧ (Lit.int .u64 x3).wf = true := by
  unfold Value.okWide at hval
  simp only [ht] at hval
  obtain ⟨cs, rfl, _, _⟩ := hval
  obtain ⟨fuel, hf⟩ := h
  obtain ⟨x0, x1, x2, x3, h1, h2, h3⟩ := trod_word ht he hc hct hf
  refine ⟨x0, x1, x2, x3, ?_, h2, h3⟩
  have : cs.toList = [.int .u64 x0, .int .u64 x1, .int .u64 x2, .int .u64 x3] := h1
  rw [← this]

theorem cell_lt {a : Addr} {v : Value} (h : w.cell? a = some v) : a.block < w.heap.size := by
  by_cases hb : a.block < w.heap.size
  · exact hb
  · simp [World.cell?, Array.getElem?_eq_none (Nat.le_of_not_lt hb)] at h

/-- A slice of such. -/
def WordAt (w : World) (a : Addr) : Prop := ∃ x0 x1 x2 x3, (Lit.int .u64 x0).wf = true ∧ (Lit.int .u64 x1).wf = true ∧ (Lit.int .u64 x2).wf = true ∧ (Lit.int .u64 x3).wf = true ∧
  w.cell? a = some (.int .u64 x0) ∧ w.cell? (a.add 1) = some (.int .u64 x1) ∧ w.cell? (a.add 2) = some (.int .u64 x2) ∧ w.cell? (a.add 3) = some (.int .u64 x3)
theorem add_zero (a : Addr) : a.add 0 = a := by cases a; simp [Addr.add]
theorem open_words {t s e : TypeId} {r : Reach} {v : Value} {d : DataW H} {ps : List MemPlace} (hs : P.underlying s = some (.slice t)) (ht : P.underlying t = some (.array 4 e)) (he : P.underlying e = some (.int .u64)) (hc : P.cellsOf e = 1) (hct : P.cellsOf t = 4)
    (hval : Value.okWide P w r b0 s v) (h : DataW.Trod enc P w base sp held s v d ps) :
    ∃ p l c, v = .slice p l c ∧ l ≤ maxLen ∧ (0 < l → ∃ a, p = some a ∧ ∀ i, i < l → WordAt w (a.add (i * 4))) := by
  obtain ⟨p, l, c, rfl⟩ := WideShapes.okWide_slice hs hval
  obtain ⟨fuel, hf⟩ := h
  refine ⟨p, l, c, rfl, ?_⟩
  rcases DataW.trod_slice hs hf with ⟨h0, _⟩ | ⟨a, len, cap, elems, rest, n, _, h0, _, _, hl, hm, hlen, hel, _⟩
  · simp [Value.cells] at h0
    obtain ⟨rfl, rfl, rfl⟩ := h0
    exact ⟨Nat.zero_le _, fun h => absurd h (by simp)⟩
  · simp [Value.cells] at h0
    obtain ⟨rfl, rfl, rfl⟩ := h0
    refine ⟨by omega, fun _ => ⟨a, rfl, fun i hi => ?_⟩⟩
    have h1 := hel i hi
    rw [hct] at h1
    obtain ⟨y, hy⟩ : ∃ y, elems[i]? = some y := ⟨_, List.getElem?_eq_getElem (by omega)⟩
    rw [hy, Option.bind_eq_some_iff] at h1
    obtain ⟨cs, hcs, hy'⟩ := h1
    obtain ⟨x0, x1, x2, x3, rfl, _, w0, w1, w2, w3⟩ := trod_word ht he hc hct hy'
    have hg := (World.cells?_some hcs).2.2
    have g0 := hg 0 (by decide)
    rw [add_zero] at g0
    exact ⟨x0, x1, x2, x3, w0, w1, w2, w3, g0, hg 1 (by decide), hg 2 (by decide), hg 3 (by decide)⟩

/-- A slice of numbers. -/
theorem open_nums {k : IntKind} {s e : TypeId} {r : Reach} {v : Value} {d : DataW H} {ps : List MemPlace} (hs : P.underlying s = some (.slice e)) (he : P.underlying e = some (.int k)) (hc : P.cellsOf e = 1)
    (hval : Value.okWide P w r b0 s v) (h : DataW.Trod enc P w base sp held s v d ps) :
    ∃ p l c, v = .slice p l c ∧ l ≤ maxLen ∧ (0 < l → ∃ a, p = some a ∧ ∀ i, i < l → ∃ n, (Lit.int k n).wf = true ∧ w.cell? (a.add i) = some (.int k n)) := by
  obtain ⟨p, l, c, rfl⟩ := WideShapes.okWide_slice hs hval
  obtain ⟨fuel, hf⟩ := h
  refine ⟨p, l, c, rfl, ?_⟩
  rcases DataW.trod_slice hs hf with ⟨h0, _⟩ | ⟨a, len, cap, elems, rest, n, _, h0, _, _, hl, hm, hlen, hel, _⟩
  · simp [Value.cells] at h0
    obtain ⟨rfl, rfl, rfl⟩ := h0
    exact ⟨Nat.zero_le _, fun h => absurd h (by simp)⟩
  · simp [Value.cells] at h0
    obtain ⟨rfl, rfl, rfl⟩ := h0
    refine ⟨by omega, fun _ => ⟨a, rfl, fun i hi => ?_⟩⟩
    have h1 := hel i hi
    rw [hc] at h1
    obtain ⟨y, hy⟩ : ∃ y, elems[i]? = some y := ⟨_, List.getElem?_eq_getElem (by omega)⟩
    rw [hy, Option.bind_eq_some_iff] at h1
    obtain ⟨cs, hcs, hy'⟩ := h1
    obtain ⟨m, rfl, _, wm⟩ := DataW.trod_int he hy'
    have hg := (World.cells?_some hcs).2.2 0 (by decide)
    rw [add_zero, Nat.mul_one] at hg
    exact ⟨m, wm, hg⟩
end
end Go.Proofs.YtcanicgpkbhhdaaGreatDoor.Sh

namespace Go.Proofs.YtcanicgpkbhhdaaGreatDoor.Sh
open Go Go.RowKit Go.MapKept
set_option linter.unusedVariables false
set_option linter.unusedSimpArgs false

/-- An entry: key, value, stamp. -/
structure E3 where
  k : Int
  v : Int
  b : Nat
def E3.ent (x : E3) : MapEntry := { key := .int .i64 x.k, val := .int .i64 x.v, born := x.b }
/-- A map in a block. -/
structure IMap (w : World) (mb : Nat) (E : List E3) (c : Nat) : Prop where
  heap : w.heap[mb]? = some (.map (E.map E3.ent).toArray c)
  keys : (E.map (·.k)).Nodup
  borns : (E.map (·.b)).Nodup
  lt : ∀ x ∈ E, x.b < c
theorem IMap.block {w : World} {mb : Nat} {E : List E3} {c : Nat} (h : IMap w mb E c) : mb < w.heap.size := by
  by_cases hb : mb < w.heap.size
  · exact hb
  · have := h.heap; rw [Array.getElem?_eq_none (Nat.le_of_not_lt hb)] at this; cases this
theorem IMap.ext {S : Nat → Prop} {w w' : World} {mb : Nat} {E : List E3} {c : Nat} (h : IMap w mb E c) (k : Ext S w w') (hb : ¬ S mb) : IMap w' mb E c := ⟨(k.block mb h.block hb).trans h.heap, h.keys, h.borns, h.lt⟩
theorem IMap.bl {w w' : World} {mb : Nat} {E : List E3} {c : Nat} (h : IMap w mb E c) (k : Bl w w') : IMap w' mb E c := h.ext (S := None') (Ext.of_bl k) (fun h => h)
theorem IMap.new (w : World) : IMap (w.alloc (.map #[] 0)) w.heap.size [] 0 := ⟨(heap_alloc w _).1, List.nodup_nil, List.nodup_nil, fun x hx => by cases hx⟩
theorem IMap.drew {w : World} {mb : Nat} {E : List E3} {c : Nat} (h : IMap w mb E c) : IMap w.drew mb E c := ⟨h.heap, h.keys, h.borns, h.lt⟩

/-- What a key has. -/
def lkE : List E3 → Int → Option Int
  | [], _ => none
  | x :: xs, k => if x.k = k then some x.v else lkE xs k
def posE : List E3 → Int → Nat → Option (Nat × Value)
  | [], _, _ => none
  | x :: xs, k, i => if x.k = k then some (i, .int .i64 x.v) else posE xs k (i + 1)
theorem findNow_eq (k : Int) : ∀ (E : List E3) (i : Nat), Instr.findNow (.int .i64) (.int .i64 k) (E.map E3.ent) i = some (posE E k i)
  | [], i => rfl
  | x :: xs, i => by
    simp only [List.map_cons, Instr.findNow, E3.ent, Instr.sameNow, if_true, posE]
    by_cases h : x.k = k
    · rw [if_pos h, h]; simp
    · have : (k == x.k) = false := by simpa using fun e => h e.symm
      rw [this, if_neg h]
      exact findNow_eq k xs (i + 1)
theorem pos_look (k : Int) : ∀ (E : List E3) (i : Nat), (posE E k i).map (·.2) = (lkE E k).map (fun v => .int .i64 v)
  | [], i => rfl
  | x :: xs, i => by
    simp only [posE, lkE]
    by_cases h : x.k = k
    · rw [if_pos h, if_pos h]; rfl
    · rw [if_neg h, if_neg h]; exact pos_look k xs (i + 1)

section
variable {P : Program} {w : World} {t kt et mb c : Nat} {E : List E3}
theorem lookupI {k : Int} {F : Value → World → Prop} (h : IMap w mb E c) (ht : P.underlying t = some (.map kt et)) (hk : P.underlying kt = some (.int .i64)) (kk : F (.tuple #[.int .i64 ((lkE E k).getD 0), .bool (lkE E k).isSome]) w)
    (hz : ∀ w, (zeroValue et).run P w = .ok (.int .i64 0) w) : semK P (Instr.lookup t (.map (some mb)) (.int .i64 k) true) w F := by
  refine semK_of ?_ kk
  have hf := MapKept.run_findKey (P := P) (w := w) hk (findNow_eq k E 0)
  have hp := pos_look k E 0
  simp only [Instr.lookup, Sem.run_bind, run_underlying ht, Result.andThen_ok, MapKept.run_getObj_map h.heap, Sem.run_pure, MapKept.run_checkKey hk (show IsKey (.int .i64) (.int .i64 k) from rfl)]
  rw [hf]
  simp only [Result.andThen_ok]
  cases hq : posE E k 0 with
  | none =>
    rw [hq] at hp
    cases hl : lkE E k with
    | none => simp [Sem.run_bind, hz, Result.andThen]
    | some v => rw [hl] at hp; cases hp
  | some y =>
    obtain ⟨i, u⟩ := y
    rw [hq] at hp
    cases hl : lkE E k with
    | none => rw [hl] at hp; cases hp
    | some v =>
      rw [hl] at hp
      simp only [Option.map_some, Option.some.injEq] at hp
      subst hp
      simp [Sem.run_bind, Result.andThen]

theorem modify_at {α : Type} (f : α → α) (x : α) (B : List α) : ∀ A : List α, (A ++ x :: B).modify A.length f = A ++ f x :: B
  | [] => rfl
  | a :: A => by
    show a :: (A ++ x :: B).modify A.length f = _
    rw [modify_at f x B A]; rfl
theorem erase_at {α : Type} (x : α) (B : List α) : ∀ A : List α, (A ++ x :: B).eraseIdx A.length = A ++ B
  | [] => rfl
  | a :: A => by
    show a :: (A ++ x :: B).eraseIdx A.length = _
    rw [erase_at x B A]; rfl
/-! ### Writing -/
def updE (E : List E3) (k v : Int) (c : Nat) : List E3 := if (lkE E k).isSome then E.map (fun x => if x.k = k then ⟨x.k, v, x.b⟩ else x) else E ++ [⟨k, v, c⟩]
def delE (E : List E3) (k : Int) : List E3 := E.filter (fun x => !decide (x.k = k))
theorem look_none {k : Int} : ∀ {E : List E3}, lkE E k = none ↔ ∀ x ∈ E, x.k ≠ k
  | [] => by simp [lkE]
  | x :: xs => by
    simp only [lkE]
    by_cases h : x.k = k
    · simp [h]
    · rw [if_neg h, look_none]; simp [h]
theorem pos_some {k : Int} : ∀ {E : List E3} {i : Nat} {v : Int}, lkE E k = some v → ∃ A x B, E = A ++ x :: B ∧ x.k = k ∧ x.v = v ∧ (∀ y ∈ A, y.k ≠ k) ∧ posE E k i = some (i + A.length, .int .i64 v)
  | [], _, _, h => by simp [lkE] at h
  | x :: xs, i, v, h => by
    simp only [lkE] at h
    by_cases hk : x.k = k
    · rw [if_pos hk] at h
      simp only [Option.some.injEq] at h
      exact ⟨[], x, xs, rfl, hk, h, (fun y hy => by cases hy), by simp [posE, hk, h]⟩
    · rw [if_neg hk] at h
      obtain ⟨A, y, B, h1, h2, h3, h4, h5⟩ := pos_some (i := i + 1) h
      refine ⟨x :: A, y, B, by rw [h1]; rfl, h2, h3, ?_, ?_⟩
      · intro z hz
        rcases List.mem_cons.1 hz with rfl | hz
        · exact hk
        · exact h4 z hz
      · simp only [posE, if_neg hk, h5, List.length_cons]
        congr 2; omega
theorem pos_none {k : Int} : ∀ {E : List E3} {i : Nat}, lkE E k = none → posE E k i = none
  | [], _, _ => rfl
  | x :: xs, i, h => by
    simp only [lkE] at h
    by_cases hk : x.k = k
    · rw [if_pos hk] at h; cases h
    · rw [if_neg hk] at h; simp only [posE, if_neg hk]; exact pos_none h
theorem lkE_upd {E : List E3} {k v : Int} {c : Nat} (j : Int) : lkE (updE E k v c) j = if j = k then some v else lkE E j := by
  unfold updE
  cases hl : lkE E k with
  | none =>
    simp only [Option.isSome_none, Bool.false_eq_true, if_false]
    have hn := look_none.1 hl
    clear hl
    induction E with
    | nil =>
      simp only [List.nil_append, lkE]
      by_cases h : j = k
      · subst h; simp
      · rw [if_neg h, if_neg fun e => h e.symm]
    | cons x xs ih =>
      simp only [List.cons_append, lkE]
      rw [ih fun y hy => hn y (by simp [hy])]
      by_cases h : x.k = j
      · have := hn x (by simp)
        rw [if_pos h, if_pos h, if_neg (by rw [← h]; exact this)]
      · rw [if_neg h, if_neg h]
  | some u =>
    simp only [Option.isSome_some, if_true]
    induction E with
    | nil => simp [lkE] at hl
    | cons x xs ih =>
      simp only [List.map_cons, lkE]
      by_cases hx : x.k = k
      · rw [if_pos hx]
        simp only
        by_cases h : x.k = j
        · rw [if_pos h, if_pos (by rw [← h, hx])]
        · rw [if_neg h, if_neg h, if_neg (by rw [← hx]; exact fun e => h e.symm)]
          clear ih hl
          induction xs with
          | nil => rfl
          | cons y ys ih =>
            simp only [List.map_cons, lkE]
            by_cases hy : y.k = k
            · have : ¬ y.k = j := fun e => h (by rw [hx, ← hy, e])
              rw [if_pos hy]; simp only; rw [if_neg this, if_neg this]; exact ih
            · rw [if_neg hy]
              by_cases h2 : y.k = j
              · rw [if_pos h2, if_pos h2]
              · rw [if_neg h2, if_neg h2]; exact ih
      · simp only [lkE, if_neg hx] at hl
        rw [if_neg hx]
        by_cases h : x.k = j
        · rw [if_pos h, if_pos h, if_neg (by rw [← h]; exact hx)]
        · rw [if_neg h, if_neg h]; exact ih hl
theorem lkE_del {E : List E3} {k : Int} (j : Int) : lkE (delE E k) j = if j = k then none else lkE E j := by
  unfold delE
  induction E with
  | nil => simp [lkE]
  | cons x xs ih =>
    by_cases hx : x.k = k
    · rw [List.filter_cons_of_neg (by simp [hx]), ih]
      by_cases h : j = k
      · rw [if_pos h, if_pos h]
      · rw [if_neg h, if_neg h]; simp only [lkE]; rw [if_neg (by rw [hx]; exact fun e => h e.symm)]
    · rw [List.filter_cons_of_pos (by simp [hx])]
      simp only [lkE]
      by_cases h : x.k = j
      · rw [if_pos h, if_pos h, if_neg (by rw [← h]; exact hx)]
      · rw [if_neg h, if_neg h, ih]
theorem len_upd (E : List E3) (k v : Int) (c : Nat) : (updE E k v c).length ≤ E.length + 1 := by
  unfold updE; split <;> simp
theorem len_del (E : List E3) (k : Int) : (delE E k).length ≤ E.length := by unfold delE; exact List.length_filter_le _ _
theorem upd_some {k v u : Int} {E : List E3} {c : Nat} {A B : List E3} {x : E3} (hn : (E.map (·.k)).Nodup) (hE : E = A ++ x :: B) (hx : x.k = k) (hA : ∀ y ∈ A, y.k ≠ k) : updE E k v c = A ++ ⟨x.k, v, x.b⟩ :: B := by
  subst hE
  have hs : (lkE (A ++ x :: B) k).isSome = true := by
    cases hl : lkE (A ++ x :: B) k with
    | some _ => rfl
    | none => exact absurd hx (look_none.1 hl x (by simp))
  unfold updE
  rw [if_pos hs, List.map_append, List.map_cons, if_pos hx]
  have hB : ∀ y ∈ B, y.k ≠ k := by
    intro y hy e
    rw [List.map_append, List.map_cons, List.nodup_append] at hn
    have := (List.nodup_cons.1 hn.2.1).1
    exact this (by rw [hx, ← e]; exact List.mem_map_of_mem hy)
  have hid : ∀ l : List E3, (∀ y ∈ l, y.k ≠ k) → l.map (fun x => if x.k = k then (⟨x.k, v, x.b⟩ : E3) else x) = l := by
    intro l hl
    induction l with
    | nil => rfl
    | cons y ys ih => rw [List.map_cons, if_neg (hl y (by simp)), ih fun z hz => hl z (by simp [hz])]
  rw [hid A hA, hid B hB]
theorem del_some {k : Int} {E : List E3} {A B : List E3} {x : E3} (hn : (E.map (·.k)).Nodup) (hE : E = A ++ x :: B) (hx : x.k = k) (hA : ∀ y ∈ A, y.k ≠ k) : delE E k = A ++ B := by
  subst hE
  have hB : ∀ y ∈ B, y.k ≠ k := by
    intro y hy e
    rw [List.map_append, List.map_cons, List.nodup_append] at hn
    have := (List.nodup_cons.1 hn.2.1).1
    exact this (by rw [hx, ← e]; exact List.mem_map_of_mem hy)
  unfold delE
  rw [List.filter_append, List.filter_cons_of_neg (by simp [hx])]
  rw [List.filter_eq_self.2 fun y hy => by simpa using hA y hy, List.filter_eq_self.2 fun y hy => by simpa using hB y hy]
theorem del_none {k : Int} {E : List E3} (h : lkE E k = none) : delE E k = E := by
  unfold delE
  exact List.filter_eq_self.2 fun y hy => by simpa using look_none.1 h y hy

def setB (w : World) (b : Nat) (o : Obj) : World := { w with heap := w.heap.setIfInBounds b o }
theorem setB_ext {w : World} {b : Nat} {o o' : Obj} (h : w.heap[b]? = some o) : (setB w b o').heap[b]? = some o' ∧ Ext (· = b) w (setB w b o') :=
  ⟨(heap_set h).1, rfl, rfl, rfl, by simp [setB], fun k hk hb => (heap_set h).2 k hb⟩
/-- A new value for a key. -/
theorem setI {k v : Int} {F : World → Prop} (h : IMap w mb E c) (ht : P.underlying t = some (.map kt et)) (hk : P.underlying kt = some (.int .i64))
    (kk : ∀ w' c', IMap w' mb (updE E k v c) c' → Ext (· = mb) w w' → F w') : semU P (Instr.mapUpdate t (.map (some mb)) (.int .i64 k) (.int .i64 v)) w F := by
  have hf := MapKept.run_findKey (P := P) (w := w) hk (findNow_eq k E 0)
  cases hl : lkE E k with
  | none =>
    have hp := pos_none (i := 0) hl
    have hn := look_none.1 hl
    obtain ⟨g1, g2⟩ := setB_ext (o' := .map ((updE E k v c).map E3.ent).toArray (c + 1)) h.heap
    refine semU_of (w' := setB w mb (.map ((updE E k v c).map E3.ent).toArray (c + 1))) ?_ (kk _ (c + 1) ⟨g1, ?_, ?_, ?_⟩ g2)
    · simp only [Instr.mapUpdate, Sem.run_bind, run_underlying ht, Result.andThen_ok, MapKept.run_getObj_map h.heap, MapKept.run_checkKey hk (show IsKey (.int .i64) (.int .i64 k) from rfl)]
      rw [hf, hp]
      simp only [Result.andThen_ok]
      rw [MapKept.run_setObj_map _ h.heap]
      simp [setB, updE, hl, E3.ent]
    · rw [show updE E k v c = E ++ [⟨k, v, c⟩] by unfold updE; rw [hl]; rfl, List.map_append, List.nodup_append]
      refine ⟨h.keys, by simp, ?_⟩
      intro a ha b hb e
      obtain ⟨x, hx, rfl⟩ := List.mem_map.1 ha
      simp at hb
      exact hn x hx (e.trans hb)
    · rw [show updE E k v c = E ++ [⟨k, v, c⟩] by unfold updE; rw [hl]; rfl, List.map_append, List.nodup_append]
      refine ⟨h.borns, by simp, ?_⟩
      intro a ha b hb e
      obtain ⟨x, hx, rfl⟩ := List.mem_map.1 ha
      simp at hb
      have := h.lt x hx
      have : x.b = c := e.trans hb
      omega
    · intro x hx
      rw [show updE E k v c = E ++ [⟨k, v, c⟩] by unfold updE; rw [hl]; rfl] at hx
      rcases List.mem_append.1 hx with hx | hx
      · have := h.lt x hx; omega
      · simp at hx; subst hx; simp
  | some u =>
    obtain ⟨A, x, B, hE, hx, hv, hA, hp⟩ := pos_some (i := 0) hl
    have hu := upd_some (v := v) (u := u) (c := c) h.keys hE hx hA
    obtain ⟨g1, g2⟩ := setB_ext (o' := .map ((updE E k v c).map E3.ent).toArray c) h.heap
    refine semU_of (w' := setB w mb (.map ((updE E k v c).map E3.ent).toArray c)) ?_ (kk _ c ⟨g1, ?_, ?_, ?_⟩ g2)
    · simp only [Instr.mapUpdate, Sem.run_bind, run_underlying ht, Result.andThen_ok, MapKept.run_getObj_map h.heap, MapKept.run_checkKey hk (show IsKey (.int .i64) (.int .i64 k) from rfl)]
      rw [hf, hp]
      have hk2 : (((((E.map E3.ent).toArray)[0 + A.length]?).map (·.key)).getD (.int .i64 k)) = .int .i64 k := by
        rw [hE]; simp [E3.ent, hx]
      have hkt : (Instr.keyThatStays (.int .i64 k) (.int .i64 k)).run P w = .ok (.int .i64 k) w := by
        have : Instr.sameBits 10000 (.int .i64 k) (.int .i64 k) = true := by simp [Instr.sameBits]
        simp [Instr.keyThatStays, this]
      simp only [Result.andThen_ok, hk2, Sem.run_bind, hkt]
      rw [MapKept.run_setObj_map _ h.heap]
      have hm : ((E.map E3.ent).toArray.modify (0 + A.length) fun e => { key := .int .i64 k, val := .int .i64 v, born := e.born }) = ((updE E k v c).map E3.ent).toArray := by
        rw [hu, hE]
        apply Array.ext'
        simp only [Array.toList_modify, List.map_append, List.map_cons, Nat.zero_add]
        rw [show A.length = (A.map E3.ent).length by simp, modify_at]
        simp [E3.ent, hx]
      rw [hm]; rfl
    · rw [hu]; have := h.keys; rw [hE] at this; simpa using this
    · rw [hu]; have := h.borns; rw [hE] at this; simpa using this
    · intro y hy
      rw [hu] at hy
      have hlt := h.lt
      rw [hE] at hlt
      rcases List.mem_append.1 hy with hy | hy
      · exact hlt y (by simp [hy])
      · rcases List.mem_cons.1 hy with rfl | hy
        · exact hlt x (by simp)
        · exact hlt y (by simp [hy])
/-- A key taken away. -/
theorem delI {k : Int} {ty t2 : TypeId} {F : Value → World → Prop} (h : IMap w mb E c) (ht : P.underlying t = some (.map kt et)) (hk : P.underlying kt = some (.int .i64))
    (kk : ∀ w', IMap w' mb (delE E k) c → Ext (· = mb) w w' → F (.tuple #[]) w') : semK P (Builtin.delete_ #[t, t2] ty #[.map (some mb), .int .i64 k]) w F := by
  have hf := MapKept.run_findKey (P := P) (w := w) hk (findNow_eq k E 0)
  obtain ⟨g1, g2⟩ := setB_ext (o' := .map ((delE E k).map E3.ent).toArray c) h.heap
  have hsub : ∀ x ∈ delE E k, x ∈ E := fun x hx => (List.mem_filter.1 hx).1
  refine semK_of (w' := setB w mb (.map ((delE E k).map E3.ent).toArray c)) ?_ (kk _ ⟨g1, ?_, ?_, fun x hx => h.lt x (hsub x hx)⟩ g2)
  · simp only [Builtin.delete_, List.getElem?_toArray, List.getElem?_cons_zero, List.getElem?_cons_succ, Sem.run_bind, run_underlying ht, Result.andThen_ok, MapKept.run_getObj_map h.heap, MapKept.run_checkKey hk (show IsKey (.int .i64) (.int .i64 k) from rfl)]
    rw [hf]
    simp only [Result.andThen_ok]
    cases hl : lkE E k with
    | none =>
      rw [pos_none hl]
      simp only [Sem.run_bind]
      rw [MapKept.run_setObj_map _ h.heap, del_none hl]
      rfl
    | some u =>
      obtain ⟨A, x, B, hE, hx, hv, hA, hp⟩ := pos_some (i := 0) hl
      rw [hp]
      simp only [Sem.run_bind]
      rw [MapKept.run_setObj_map _ h.heap]
      have hm : (E.map E3.ent).toArray.eraseIdxIfInBounds (0 + A.length) = ((delE E k).map E3.ent).toArray := by
        rw [del_some h.keys hE hx hA, hE]
        apply Array.ext'
        simp only [Array.toList_eraseIdxIfInBounds, List.map_append, List.map_cons, Nat.zero_add]
        rw [show A.length = (A.map E3.ent).length by simp, erase_at]
      rw [hm]; rfl
  · exact List.Nodup.sublist ((List.filter_sublist).map _) h.keys
  · exact List.Nodup.sublist ((List.filter_sublist).map _) h.borns
/-- How many keys. -/
theorem lenI {ty : TypeId} {F : Value → World → Prop} (h : IMap w mb E c) (ht : P.underlying t = some (.map kt et)) (kk : F (.int .i64 (E.length : Int)) w) : semK P (Builtin.len_ #[t] ty #[.map (some mb)]) w F := by
  refine semK_of (w' := w) (v := .int .i64 (E.length : Int)) ?_ kk
  simp [Builtin.len_, run_underlying ht, MapKept.run_getObj_map h.heap, Result.andThen, goInt]
end
end Go.Proofs.YtcanicgpkbhhdaaGreatDoor.Sh

namespace Go.Proofs.YtcanicgpkbhhdaaGreatDoor.Sh
open Go Go.RowKit
set_option linter.unusedVariables false
set_option linter.unusedSimpArgs false

/-- The slice v, of n elements of one cell each, holds xs. -/
def Row (w : World) (v : Value) (e : TypeId) (n : Nat) (xs : List Value) : Prop := w.ownsRow 0 e 1 v n xs
def Blk (v : Value) : Nat → Prop := fun k => v.ownBlock = some k
theorem Row.len {w : World} {v : Value} {e n : Nat} {xs : List Value} (h : Row w v e n xs) : xs.length = n := by have := h.1; omega
theorem Row.ext {S : Nat → Prop} {w w' : World} {v : Value} {e n : Nat} {xs : List Value} (h : Row w v e n xs) (k : Ext S w w') (hs : ∀ g, Blk v g → ¬ S g) : Row w' v e n xs := by
  refine ⟨h.1, h.2.imp id ?_⟩
  rintro ⟨g, cap, cur, rfl, hb, hg, r⟩
  refine ⟨g, cap, cur, rfl, hb, ?_, r⟩
  have hlt : g < w.heap.size := by
    by_cases hh : g < w.heap.size
    · exact hh
    · rw [Array.getElem?_eq_none (Nat.le_of_not_lt hh)] at hg; cases hg
  exact (k.block g hlt (hs g rfl)).trans hg
theorem Row.bl {w w' : World} {v : Value} {e n : Nat} {xs : List Value} (h : Row w v e n xs) (k : Bl w w') : Row w' v e n xs := h.ext (S := None') (Ext.of_bl k) fun _ _ h => h
theorem Row.drew {w : World} {v : Value} {e n : Nat} {xs : List Value} (h : Row w v e n xs) : Row w.drew v e n xs := h.bl (Bl.refl w).drew
theorem Row.nil (w : World) (e : TypeId) : Row w (.slice none 0 0) e 0 [] := ⟨rfl, .inl ⟨rfl, rfl⟩⟩
theorem Row.lt {w : World} {v : Value} {e n g : Nat} {xs : List Value} (h : Row w v e n xs) (hb : Blk v g) : g < w.heap.size := by
  rcases h.2 with ⟨rfl, _⟩ | ⟨g', cap, cur, rfl, _, hg, _⟩
  · cases hb
  · have : g' = g := by simpa [Blk, Value.ownBlock] using hb
    subst this
    by_cases hh : g' < w.heap.size
    · exact hh
    · rw [Array.getElem?_eq_none (Nat.le_of_not_lt hh)] at hg; cases hg
/-- What the value looks like. -/
theorem Row.form {w : World} {v : Value} {e n : Nat} {xs : List Value} (h : Row w v e n xs) : (v = .slice none 0 0 ∧ n = 0) ∨ ∃ g cap, v = .slice (some ⟨g, 0, none⟩) n cap ∧ n ≤ cap := by
  rcases h.2 with h | ⟨g, cap, cur, hv, _, _, hc, _⟩
  · exact .inl h
  · exact .inr ⟨g, cap, hv, hc⟩
theorem Row.cell {w : World} {e n g c j : Nat} {xs : List Value} {u : Value} (h : Row w (.slice (some ⟨g, 0, none⟩) n c) e n xs) (hj : xs[j]? = some u) : w.cell? ⟨g, j, none⟩ = some u := by
  have hl := h.len
  rcases h.2 with ⟨h, _⟩ | ⟨g', cap, cur, hv, _, hg, hc, hm, hs, ht⟩
  · cases h
  · simp only [Value.slice.injEq, Option.some.injEq, Addr.mk.injEq] at hv
    obtain ⟨⟨rfl, _⟩, _, rfl⟩ := hv
    have : Own w g cur e := hg
    rw [this.cell]
    have hjn : j < n := by rw [← hl]; exact (List.getElem?_eq_some_iff.1 hj).1
    rw [← ht, List.getElem?_take] at hj
    rw [if_pos (by omega)] at hj
    simpa using hj

section
variable {P : Program} {w : World} {t e n : Nat} {v : Value} {xs : List Value}
/-- One more at the end. -/
theorem app1 {ty b e' by' c : Nat} {u z : Value} {F : Value → World → Prop} (h : Row w v e n xs) (ho : Own w b #[u] e') (ht : P.underlying t = some (.slice e)) (hi : (P.info? e).map (fun i => (i.zero, i.size, i.bytes)) = some (some z, 1, by')) (hz : z.cells = #[z])
    (h1 : u.oneCell' = true) (hn : n + 1 ≤ 1073741824) (hb : by' ≤ 65536)
    (kk : ∀ g cap w', Row w' (.slice (some ⟨g, 0, none⟩) (n + 1) cap) e (n + 1) (xs ++ [u]) → Ext (Blk v) w w' → (Blk v g ∨ g = w.heap.size) → g < w'.heap.size → F (.slice (some ⟨g, 0, none⟩) (n + 1) cap) w') :
    semK P (Builtin.append_ #[t, t] ty #[v, .slice (some ⟨b, 0, none⟩) 1 c]) w F := by
  cases hinf : P.info? e with
  | none => rw [hinf] at hi; cases hi
  | some i =>
    rw [hinf] at hi
    simp only [Option.map_some, Option.some.injEq, Prod.mk.injEq] at hi
    obtain ⟨hz0, hs, hby⟩ := hi
    have hm : maxLen = 9223372036854775807 := rfl
    have hnews : ∀ (j : Nat) (q : Value), [u][j]? = some q → w.cell? ((⟨b, 0, none⟩ : Addr).add j) = some q := by
      intro j q hj
      cases j with
      | zero =>
        simp only [List.getElem?_cons_zero, Option.some.injEq] at hj
        subst hj
        have := ho.cell (i := 0)
        simpa [Addr.add] using this
      | succ j => simp at hj
    obtain ⟨g, cap, w', hr, h2, h3, h4, h5⟩ := run_append_lies (P := P) w t ty 0 e i z 1 by' ht hinf hz0 hs hby (by rw [hz]; rfl) (by decide) v n xs h ⟨b, 0, none⟩ 1 c [u] rfl hnews (by simpa using h1) (by decide) (by omega)
      (Nat.le_trans (Nat.mul_le_mul hn hb) (by decide)) (Nat.zero_le _) w.heap.size rfl
    exact semK_of hr (kk g cap w' h2 ⟨h3.os, h3.tape, h3.output, h3.size, fun k hk hb => h3.block k hk fun e => hb e.symm⟩ h4 h5)
/-- Cut at the end. -/
theorem cutTo {p : Option Addr} {l c : Nat} {k : IntKind} {x : Int} {F : Value → World → Prop} (ht : P.underlying t = some (.slice e)) (hz : (P.info? e).map (·.size) = some 1) (h0 : 0 ≤ x) (h1 : x ≤ (l : Int)) (hl : l ≤ c) (kk : F (.slice p x.toNat c) w) :
    semK P (Instr.sliceAt t (.slice p l c) none (some (.int k x)) none) w F := by
  refine semK_of ?_ kk
  have hx : 0 ≤ x ∧ x ≤ (c : Int) := ⟨h0, by omega⟩
  by_cases hc : c = 0
  · subst hc
    have hx0 : x = 0 := by omega
    subst hx0
    simp [Instr.sliceAt, Instr.slice, Instr.sliceBounds, Instr.sliceBound, asIntOf, run_underlying ht, run_sizeOf hz, Result.andThen]
  · simp [Instr.sliceAt, Instr.slice, Instr.sliceBounds, Instr.sliceBound, asIntOf, run_underlying ht, run_sizeOf hz, hx, Result.andThen, hc]
    cases p with
    | none => rfl
    | some a => cases a; simp [Addr.add]
theorem Row.cut {x : Nat} {p : Option Addr} {c : Nat} (h : Row w (.slice p n c) e n xs) (hx : x ≤ n) : Row w (.slice p x c) e x (xs.take x) := by
  have hl := h.len
  refine ⟨by rw [List.length_take]; omega, ?_⟩
  rcases h.2 with ⟨h0, h1⟩ | ⟨g, cap, cur, hv, hb, hg, hc, hm, hs, ht⟩
  · simp only [Value.slice.injEq] at h0
    obtain ⟨rfl, h2, rfl⟩ := h0
    refine .inl ⟨?_, by omega⟩
    rw [show x = 0 by omega]
  · simp only [Value.slice.injEq] at hv
    obtain ⟨rfl, _, rfl⟩ := hv
    refine .inr ⟨g, c, cur, rfl, hb, hg, by omega, hm, hs, ?_⟩
    rw [← ht, List.take_take]
    congr 1; omega
/-- What is behind, wiped. -/
theorem wipe {x : Nat} {p : Option Addr} {c ty : Nat} {k : IntKind} {z : Value} {F : Value → World → Prop} (h : Row w (.slice p n c) e n xs) (hx : x ≤ n) (ht : P.underlying t = some (.slice e)) (hi : (P.info? e).map (·.size) = some 1) (hz : ∀ w, (zeroValue e).run P w = .ok z w) (hz1 : z.cells = #[z]) (h1 : z.oneCell' = true)
    (kk : ∀ w', Row w' (.slice p n c) e n (xs.take x ++ List.replicate (n - x) z) → Ext (Blk (.slice p n c)) w w' → F (.tuple #[]) w') :
    semK P (Instr.sliceAt t (.slice p n c) (some (.int k (x : Int))) none none) w fun v1 w1 => asL v1 fun p1 l1 c1 => semK P (Builtin.clear_ #[t] ty #[.slice p1 l1 c1]) w1 F := by
  have hl := h.len
  have hx' : (0 : Int) ≤ (x : Int) ∧ (x : Int) ≤ (n : Int) := by omega
  rcases h.2 with ⟨h0, h2⟩ | ⟨g, cap, cur, hv, hb, hg, hc, hm, hs, htk⟩
  · simp only [Value.slice.injEq] at h0
    obtain ⟨rfl, h3, rfl⟩ := h0
    subst h3
    have hx0 : x = 0 := by omega
    subst hx0
    refine semK_of (v := .slice none 0 0) (w' := w) ?_ ?_
    · simp [Instr.sliceAt, Instr.slice, Instr.sliceBounds, Instr.sliceBound, asIntOf, run_underlying ht, run_sizeOf hi, Result.andThen]
    · refine semK_of (v := .tuple #[]) (w' := w) ?_ (kk w (by simpa [List.length_eq_zero_iff.1 hl] using Row.nil w e) (Ext.refl w))
      simp [Builtin.clear_, run_underlying ht, Result.andThen]
  · simp only [Value.slice.injEq] at hv
    obtain ⟨rfl, _, rfl⟩ := hv
    by_cases hxn : x = n
    · -- nothing behind
      subst hxn
      have hrow : Row w (.slice (some ⟨g, 0, none⟩) x c) e x (xs.take x ++ List.replicate (x - x) z) := by
        rw [Nat.sub_self, List.replicate_zero, List.append_nil, List.take_of_length_le (by omega)]; exact h
      refine semK_of (v := .slice (if c = x then some ⟨g, 0, none⟩ else some ⟨g, x, none⟩) 0 (c - x)) (w' := w) ?_ ?_
      · simp [Instr.sliceAt, Instr.slice, Instr.sliceBounds, Instr.sliceBound, asIntOf, run_underlying ht, run_sizeOf hi, Result.andThen, Addr.add]
        by_cases hx0 : x = 0
        · simp [hx0]
        · simp [hx0]
      · refine semK_of (v := .tuple #[]) (w' := w) ?_ (kk w hrow (Ext.refl w))
        by_cases hcx : c = x <;> simp [Builtin.clear_, run_underlying ht, Result.andThen, hcx]
    · have hcx : ¬ c = x := by omega
      have hst := run_storeCells_at P g x e (List.replicate (n - x) z) 0 cur w hg (by simp [hs]; omega) (fun v hv => by rw [List.eq_of_mem_replicate hv]; exact h1)
      have hzc : (Builtin.zeroCells z.cells (n - x)).toList = List.replicate (n - x) z := by
        rw [hz1]
        simp only [Builtin.zeroCells, Array.toList_map, List.size_toArray, List.length_cons, List.length_nil, Nat.zero_add, Nat.mul_one, Nat.mod_one, Array.toList_range]
        show List.map (fun _ => z) (List.range (n - x)) = _
        rw [List.map_const']; simp
      simp only [Nat.add_zero, List.length_replicate] at hst
      rw [show x + (n - x) = n by omega] at hst
      refine semK_of (v := .slice (some ⟨g, x, none⟩) (n - x) (c - x)) (w' := w) ?_ ?_
      · simp [Instr.sliceAt, Instr.slice, Instr.sliceBounds, Instr.sliceBound, asIntOf, run_underlying ht, run_sizeOf hi, Result.andThen, Addr.add, hx, hcx]
        intro h0; omega
      · refine semK_of (v := .tuple #[]) (w' := w.setRow g (cur.toList.take x ++ List.replicate (n - x) z ++ cur.toList.drop n).toArray) ?_ (kk _ ⟨?_, .inr ⟨g, c, (cur.toList.take x ++ List.replicate (n - x) z ++ cur.toList.drop n).toArray, rfl, Nat.zero_le _, ?_, hc, hm, ?_, ?_⟩⟩ ?_)
        · have hne : ¬ n - x = 0 := by omega
          unfold Builtin.clear_
          simp only [List.getElem?_toArray, List.getElem?_cons_zero, Sem.run_bind, run_underlying ht, Result.andThen_ok]
          rw [hz]
          simp only [Result.andThen_ok]
          rw [hzc, hst]
          rfl
        · simp; omega
        · unfold World.setRow
          simp only [Array.getElem?_modify, if_true, hg]
          rfl
        · simp [hs]; omega
        · rw [Nat.mul_one, List.take_left' (by simp [hs]; omega)]
          congr 1
          rw [← htk, List.take_take]; congr 1; omega
        · refine ⟨rfl, rfl, rfl, by simp [World.setRow], fun k hk hb => ?_⟩
          simp only [World.setRow, Array.getElem?_modify]
          rw [if_neg fun e => hb (by rw [← e]; rfl)]
end
end Go.Proofs.YtcanicgpkbhhdaaGreatDoor.Sh

namespace Go.Proofs.YtcanicgpkbhhdaaGreatDoor.Sh
open Go Go.RowKit Go.MapKept
set_option linter.unusedVariables false
set_option linter.unusedSimpArgs false
section
variable {P : Program} {w : World} {t kt et mb c c0 r since : Nat} {E S : List E3}
/-- The walker in a block: it has handed out S. -/
def Iter (w : World) (r mb since c0 : Nat) (S : List E3) : Prop := w.heap[r]? = some (.mapIter (some mb) since (S.map (·.b)).toArray c0)
theorem Iter.ext {Z : Nat → Prop} {w w' : World} (h : Iter w r mb since c0 S) (k : Ext Z w w') (hz : ¬ Z r) : Iter w' r mb since c0 S := by
  refine (k.block r ?_ hz).trans h
  by_cases hh : r < w.heap.size
  · exact hh
  · unfold Iter at h; rw [Array.getElem?_eq_none (Nat.le_of_not_lt hh)] at h; cases h
theorem rangeI {F : Value → World → Prop} (h : IMap w mb E c) (ht : P.underlying t = some (.map kt et)) (kk : ∀ w', Iter w' w.heap.size mb c c [] → Bl w w' → w'.heap.size = w.heap.size + 1 → F (.pointer (some ⟨w.heap.size, 0, none⟩)) w') :
    semK P (Instr.range t (.map (some mb))) w F :=
  semK_of (run_range_map (P := P) w t kt et mb _ c ht h.heap) (kk _ (heap_alloc w _).1 ((Bl.refl w).alloc _) (size_alloc _ _))
theorem nextI {ty : TypeId} {F : Value → World → Prop} (h : IMap w mb E c) (hr : Iter w r mb since c0 S) (hlt : ∀ x ∈ E, x.b < since) (hsc : since ≤ c0)
    (k1 : (∀ x ∈ E, x.b ∈ S.map (·.b)) → F (.tuple #[.bool false]) w)
    (k2 : ∀ x ∈ E, x.b ∉ S.map (·.b) → ∀ w', Iter w' r mb since c (S ++ [x]) → Ext (· = r) w w' → F (.tuple #[.bool true, .int .i64 x.k, .int .i64 x.v]) w') :
    semK P (Instr.next (.pointer (some ⟨r, 0, none⟩)) false ty) w F := by
  have hold : ∀ x ∈ (E.map E3.ent).toArray.toList, x.born < since := by
    intro x hx
    obtain ⟨y, hy, rfl⟩ := List.mem_map.1 (by simpa using hx)
    exact hlt y hy
  rcases run_next_at (P := P) w ty r mb since c0 _ _ c hr h.heap hold hsc with ⟨h0, hrun⟩ | ⟨e, he, w1, hw1, hrun⟩
  · refine semK_of hrun (k1 fun x hx => ?_)
    have hnil : leftOf (E.map E3.ent).toArray (S.map (·.b)).toArray = #[] := Array.eq_empty_of_size_eq_zero h0
    unfold leftOf at hnil
    rw [Array.filter_eq_empty_iff] at hnil
    have := hnil x.ent (by simpa using ⟨x, hx, rfl⟩)
    simpa [E3.ent] using this
  · unfold leftOf at he
    simp only [Array.toList_filter, List.mem_filter] at he
    obtain ⟨he1, he2⟩ := he
    obtain ⟨x, hx, rfl⟩ := List.mem_map.1 (by simpa using he1)
    refine semK_of hrun (k2 x hx (by simpa [E3.ent] using he2) _ ?_ ?_)
    · have hr1 : w1.heap[r]? = some (.mapIter (some mb) since (S.map (·.b)).toArray c0) := by rcases hw1 with rfl | rfl <;> exact hr
      have := (heap_set (o' := .mapIter (some mb) since ((S.map (·.b)).toArray.push x.ent.born) c) hr1).1
      unfold Iter
      rw [List.map_append]
      simpa [ChangeMaps.setBlock, E3.ent] using this
    · have hr1 : w1.heap[r]? = some (.mapIter (some mb) since (S.map (·.b)).toArray c0) := by rcases hw1 with rfl | rfl <;> exact hr
      have e1 : Ext (· = r) w1 (ChangeMaps.setBlock w1 r (.mapIter (some mb) since ((S.map (·.b)).toArray.push x.ent.born) c)) :=
        ⟨rfl, rfl, rfl, by simp [ChangeMaps.setBlock], fun k hk hb => (heap_set hr1).2 k hb⟩
      rcases hw1 with rfl | rfl
      · exact e1
      · exact (Ext.refl w).drew.trans e1 fun _ _ h => h
theorem entryI {x : E3} {F : Value → World → Prop} (h : IMap w mb E c) (hr : Iter w r mb since c (S ++ [x])) (hx : x ∈ E) (kk : F (.tuple #[.int .i64 x.k, .int .i64 x.v]) w) :
    semK P (Instr.entry (.pointer (some ⟨r, 0, none⟩))) w F := by
  have hr' : w.heap[r]? = some (.mapIter (some mb) since ((S.map (·.b)).toArray.push x.ent.born) c) := by
    unfold Iter at hr
    rw [List.map_append] at hr
    simpa [E3.ent] using hr
  refine semK_of (run_entry_at (P := P) w r mb since _ _ c x.ent hr' h.heap (by simpa using ⟨x, hx, rfl⟩) ?_) kk
  have := h.borns
  simpa [List.map_map, Function.comp_def, E3.ent] using this
theorem ext0 {v : Value} {l : List Value} {F : Value → World → Prop} (kk : F v w) : semK P (Instr.extract (.tuple (v :: l).toArray) 0) w F :=
  semK_of (by simp [Instr.extract]) kk
theorem ext1 {u v : Value} {l : List Value} {F : Value → World → Prop} (kk : F v w) : semK P (Instr.extract (.tuple (u :: v :: l).toArray) 1) w F :=
  semK_of (by simp [Instr.extract]) kk
theorem makeR {t e by' n : Nat} {z : Value} {F : Value → World → Prop} (ht : P.underlying t = some (.slice e)) (hi : (P.info? e).map (fun i => (i.zero, i.size, i.bytes)) = some (some z, 1, by')) (hz : z.cells = #[z]) (hn : n ≤ 1073741824) (hb : by' ≤ 65536)
    (kk : ∀ w', Row w' (.slice (some ⟨w.heap.size, 0, none⟩) 0 n) e 0 [] → Bl w w' → w'.heap.size = w.heap.size + 1 → F (.slice (some ⟨w.heap.size, 0, none⟩) 0 n) w') :
    semK P (Instr.makeSlice t (.int .i64 0) (.int .i64 (n : Int))) w F := by
  have hm : maxLen = 9223372036854775807 := rfl
  refine semK_of (run_make_room (P := P) t e z by' ht hi hz .i64 .i64 n (Nat.le_trans (Nat.mul_le_mul hb hn) (by decide)) (by omega) w) (kk _ ?_ ((Bl.refl w).alloc _) (size_alloc _ _))
  exact ⟨rfl, .inr ⟨w.heap.size, n, madeCells #[z] n, rfl, Nat.zero_le _, Own.new _ _ _, Nat.zero_le _, by omega, by rw [size_madeCells]; omega, by simp⟩⟩
end
end Go.Proofs.YtcanicgpkbhhdaaGreatDoor.Sh

namespace Go.Proofs.YtcanicgpkbhhdaaGreatDoor.Sh
open Go Go.RowKit
set_option linter.unusedVariables false
/-- The slice v, of n elements of z cells each, holds the cells xs. -/
def RowZ (w : World) (z : Nat) (v : Value) (e : TypeId) (n : Nat) (xs : List Value) : Prop := w.ownsRow 0 e z v n xs
theorem RowZ.len {w : World} {z : Nat} {v : Value} {e n : Nat} {xs : List Value} (h : RowZ w z v e n xs) : xs.length = n * z := h.1
theorem RowZ.lt {w : World} {z : Nat} {v : Value} {e n g : Nat} {xs : List Value} (h : RowZ w z v e n xs) (hb : Blk v g) : g < w.heap.size := by
  rcases h.2 with ⟨rfl, _⟩ | ⟨g', cap, cur, rfl, _, hg, _⟩
  · cases hb
  · have : g' = g := by simpa [Blk, Value.ownBlock] using hb
    subst this
    by_cases hh : g' < w.heap.size
    · exact hh
    · rw [Array.getElem?_eq_none (Nat.le_of_not_lt hh)] at hg; cases hg
theorem RowZ.ext {S : Nat → Prop} {w w' : World} {z : Nat} {v : Value} {e n : Nat} {xs : List Value} (h : RowZ w z v e n xs) (k : Ext S w w') (hs : ∀ g, Blk v g → ¬ S g) : RowZ w' z v e n xs := by
  have hl := @RowZ.lt
  refine ⟨h.1, h.2.imp id ?_⟩
  rintro ⟨g, cap, cur, rfl, hb, hg, r⟩
  exact ⟨g, cap, cur, rfl, hb, (k.block g (h.lt rfl) (hs g rfl)).trans hg, r⟩
theorem RowZ.bl {w w' : World} {z : Nat} {v : Value} {e n : Nat} {xs : List Value} (h : RowZ w z v e n xs) (k : Bl w w') : RowZ w' z v e n xs := h.ext (S := None') (Ext.of_bl k) fun _ _ h => h
theorem RowZ.nil (w : World) (z : Nat) (e : TypeId) : RowZ w z (.slice none 0 0) e 0 [] := ⟨by simp, .inl ⟨rfl, rfl⟩⟩
theorem RowZ.form {w : World} {z : Nat} {v : Value} {e n : Nat} {xs : List Value} (h : RowZ w z v e n xs) : (v = .slice none 0 0 ∧ n = 0) ∨ ∃ g cap, v = .slice (some ⟨g, 0, none⟩) n cap ∧ n ≤ cap := by
  rcases h.2 with h | ⟨g, cap, cur, hv, _, _, hc, _⟩
  · exact .inl h
  · exact .inr ⟨g, cap, hv, hc⟩
theorem RowZ.cell {w : World} {z e n g c j : Nat} {xs : List Value} {u : Value} (h : RowZ w z (.slice (some ⟨g, 0, none⟩) n c) e n xs) (hj : xs[j]? = some u) : w.cell? ⟨g, j, none⟩ = some u := by
  have hl := h.len
  rcases h.2 with ⟨h, _⟩ | ⟨g', cap, cur, hv, _, hg, hc, hm, hs, ht⟩
  · cases h
  · simp only [Value.slice.injEq, Option.some.injEq, Addr.mk.injEq] at hv
    obtain ⟨⟨rfl, _⟩, _, rfl⟩ := hv
    have : Own w g cur e := hg
    rw [this.cell]
    have hjn : j < n * z := by rw [← hl]; exact (List.getElem?_eq_some_iff.1 hj).1
    rw [← ht, List.getElem?_take] at hj
    rw [if_pos (by omega)] at hj
    simpa using hj

/-- Some elements more at the end, out of cells that are known. -/
theorem appZ {P : Program} {w : World} {z t e n ty m c by' : Nat} {v zv : Value} {xs news : List Value} {ad : Addr} {F : Value → World → Prop} (h : RowZ w z v e n xs) (hz0 : 0 < z) (ht : P.underlying t = some (.slice e)) (hi : (P.info? e).map (fun i => (i.zero, i.size, i.bytes)) = some (some zv, z, by'))
    (hzv : zv.cells.size = z) (hl : news.length = m * z) (hnews : ∀ (j : Nat) (u : Value), news[j]? = some u → w.cell? (ad.add j) = some u) (h1 : ∀ u ∈ news, u.oneCell' = true) (hm : 0 < m) (hn : n + m ≤ 1073741824) (hb : by' ≤ 65536)
    (kk : ∀ g cap w', RowZ w' z (.slice (some ⟨g, 0, none⟩) (n + m) cap) e (n + m) (xs ++ news) → Ext (Blk v) w w' → (Blk v g ∨ g = w.heap.size) → g < w'.heap.size → F (.slice (some ⟨g, 0, none⟩) (n + m) cap) w') :
    semK P (Builtin.append_ #[t, t] ty #[v, .slice (some ad) m c]) w F := by
  cases hinf : P.info? e with
  | none => rw [hinf] at hi; cases hi
  | some i =>
    rw [hinf] at hi
    simp only [Option.map_some, Option.some.injEq, Prod.mk.injEq] at hi
    obtain ⟨hz, hs, hby⟩ := hi
    have hmx : maxLen = 9223372036854775807 := rfl
    obtain ⟨g, cap, w', hr, h2, h3, h4, h5⟩ := run_append_lies (P := P) w t ty 0 e i zv z by' ht hinf hz hs hby hzv hz0 v n xs h ad m c news hl hnews h1 hm (by omega)
      (Nat.le_trans (Nat.mul_le_mul hn hb) (by decide)) (Nat.zero_le _) w.heap.size rfl
    exact semK_of hr (kk g cap w' h2 ⟨h3.os, h3.tape, h3.output, h3.size, fun k hk hb => h3.block k hk fun e => hb e.symm⟩ h4 h5)
end Go.Proofs.YtcanicgpkbhhdaaGreatDoor.Sh

namespace Go.Proofs.YtcanicgpkbhhdaaGreatDoor.Sh
open Go Go.RowKit
set_option linter.unusedVariables false
set_option linter.unusedSimpArgs false
/-- The slice, of n elements of z cells each, reads xs. -/
structure Sees (w : World) (z : Nat) (p : Option Addr) (n c : Nat) (xs : List Value) : Prop where
  len : xs.length = n * z
  le : n ≤ c
  at_ : ∀ j u, xs[j]? = some u → ∃ a, p = some a ∧ w.cell? (a.add j) = some u
theorem blockAdd (a : Addr) (n : Nat) : (a.add n).block = a.block := by unfold Addr.add; split <;> rfl
theorem addAdd (a : Addr) (m n : Nat) : (a.add m).add n = a.add (m + n) := by
  unfold Addr.add
  by_cases hm : m = 0
  · subst hm; simp
  · by_cases hn : n = 0
    · subst hn; simp [hm]
    · rw [if_neg hm, if_neg hn, if_neg (by omega)]; simp [Nat.add_assoc]
theorem addG (g j : Nat) : (⟨g, 0, none⟩ : Addr).add j = ⟨g, j, none⟩ := by
  unfold Addr.add
  by_cases hj : j = 0
  · subst hj; rfl
  · rw [if_neg hj]; simp
theorem cellLt {w : World} {a : Addr} {v : Value} (h : w.cell? a = some v) : a.block < w.heap.size := by
  by_cases hb : a.block < w.heap.size
  · exact hb
  · simp [World.cell?, Array.getElem?_eq_none (Nat.le_of_not_lt hb)] at h
theorem Ext.cellAt {S : Nat → Prop} {w w' : World} (h : Ext S w w') {a : Addr} {v : Value} (hc : w.cell? a = some v) (hs : ¬ S a.block) : w'.cell? a = some v := by
  have hl := cellLt hc
  rw [← hc]
  simp only [World.cell?]
  rw [h.block _ hl hs]
section
variable {w w' : World} {z n c : Nat} {p : Option Addr} {xs : List Value}
theorem Sees.ext {S : Nat → Prop} (h : Sees w z p n c xs) (k : Ext S w w') (hs : ∀ a, p = some a → ¬ S a.block) : Sees w' z p n c xs :=
  ⟨h.len, h.le, fun j u hj => let ⟨a, ha, hc⟩ := h.at_ j u hj; ⟨a, ha, k.cellAt hc (by rw [blockAdd]; exact hs a ha)⟩⟩
theorem Sees.bl (h : Sees w z p n c xs) (k : Bl w w') : Sees w' z p n c xs := h.ext (S := None') (Ext.of_bl k) fun _ _ h => h
theorem Sees.nil (w : World) (z : Nat) : Sees w z none 0 0 [] := ⟨by simp, Nat.le_refl _, fun j u h => by simp at h⟩
theorem Sees.addr (h : Sees w z p n c xs) (hz : 0 < z) (hn : 0 < n) : ∃ a, p = some a ∧ a.block < w.heap.size := by
  have hl : 0 < xs.length := by rw [h.len]; exact Nat.mul_pos hn hz
  obtain ⟨a, ha, hc⟩ := h.at_ 0 _ (List.getElem?_eq_getElem hl)
  exact ⟨a, ha, by have := cellLt hc; rwa [blockAdd] at this⟩
theorem Sees.get (h : Sees w z p n c xs) {j : Nat} {u : Value} {a : Addr} (hp : p = some a) (hj : xs[j]? = some u) : w.cell? (a.add j) = some u := by
  obtain ⟨b, hb, hc⟩ := h.at_ j u hj
  rw [hp] at hb; cases hb; exact hc
theorem RowZ.sees {e : TypeId} (h : RowZ w z (.slice p n c) e n xs) : Sees w z p n c xs := by
  refine ⟨h.len, ?_, fun j u hj => ?_⟩
  · rcases h.form with ⟨hv, h0⟩ | ⟨g, cap, hv, hc⟩
    · omega
    · simp only [Value.slice.injEq] at hv; obtain ⟨_, _, rfl⟩ := hv; exact hc
  · rcases h.form with ⟨hv, h0⟩ | ⟨g, cap, hv, hc⟩
    · have := h.len; rw [h0, Nat.zero_mul] at this
      rw [List.length_eq_zero_iff.1 this] at hj; simp at hj
    · simp only [Value.slice.injEq] at hv; obtain ⟨rfl, _, rfl⟩ := hv
      exact ⟨_, rfl, by rw [addG]; exact h.cell hj⟩
theorem Sees.take (h : Sees w z p n c xs) {x : Nat} (hx : x ≤ n) : Sees w z p x c (xs.take (x * z)) :=
  ⟨by rw [List.length_take, h.len]; exact Nat.min_eq_left (Nat.mul_le_mul_right z hx), Nat.le_trans hx h.le, fun j u hj => h.at_ j u (by
    rw [List.getElem?_take] at hj
    split at hj
    · exact hj
    · cases hj)⟩
theorem Sees.drop (h : Sees w z p n c xs) {x : Nat} (hx : x ≤ n) : Sees w z (if c = x then p else p.map (·.add (x * z))) (n - x) (c - x) (xs.drop (x * z)) := by
  have hle := h.le
  refine ⟨by rw [List.length_drop, h.len, Nat.sub_mul], Nat.sub_le_sub_right hle x, fun j u hj => ?_⟩
  rw [List.getElem?_drop] at hj
  obtain ⟨a, rfl, hc⟩ := h.at_ _ u hj
  by_cases hcx : c = x
  · have hl := (List.getElem?_eq_some_iff.1 hj).1
    rw [h.len, show n = x by omega] at hl
    omega
  · rw [if_neg hcx]
    refine ⟨a.add (x * z), rfl, ?_⟩
    rw [← hc]
    rw [addAdd]
end
section
variable {P : Program} {w : World} {t e n z : Nat} {xs : List Value}
theorem cutZ {p : Option Addr} {l c : Nat} {k : IntKind} {x : Int} {F : Value → World → Prop} (ht : P.underlying t = some (.slice e)) (hz : (P.info? e).map (·.size) = some z) (h0 : 0 ≤ x) (h1 : x ≤ (l : Int)) (hl : l ≤ c) (kk : F (.slice p x.toNat c) w) :
    semK P (Instr.sliceAt t (.slice p l c) none (some (.int k x)) none) w F := by
  refine semK_of ?_ kk
  have hx : 0 ≤ x ∧ x ≤ (c : Int) := ⟨h0, by omega⟩
  by_cases hc : c = 0
  · subst hc
    have hx0 : x = 0 := by omega
    subst hx0
    simp [Instr.sliceAt, Instr.slice, Instr.sliceBounds, Instr.sliceBound, asIntOf, run_underlying ht, run_sizeOf hz, Result.andThen]
  · simp [Instr.sliceAt, Instr.slice, Instr.sliceBounds, Instr.sliceBound, asIntOf, run_underlying ht, run_sizeOf hz, hx, Result.andThen, hc]
    cases p with
    | none => rfl
    | some a => cases a; simp [Addr.add]
theorem dropZ {p : Option Addr} {l c : Nat} {k : IntKind} {x : Int} {F : Value → World → Prop} (ht : P.underlying t = some (.slice e)) (hz : (P.info? e).map (·.size) = some z) (h0 : 0 ≤ x) (h1 : x ≤ (l : Int)) (hl : l ≤ c)
    (kk : F (.slice (if c = x.toNat then p else p.map (·.add (x.toNat * z))) (l - x.toNat) (c - x.toNat)) w) :
    semK P (Instr.sliceAt t (.slice p l c) (some (.int k x)) none none) w F := by
  refine semK_of ?_ kk
  have hx : 0 ≤ x ∧ x ≤ (l : Int) := ⟨h0, h1⟩
  simp [Instr.sliceAt, Instr.slice, Instr.sliceBounds, Instr.sliceBound, asIntOf, run_underlying ht, run_sizeOf hz, hx, Result.andThen]
/-- append of whatever can be read. -/
theorem appS {ty m c by' : Nat} {v zv : Value} {p : Option Addr} {news : List Value} {F : Value → World → Prop} (h : RowZ w z v e n xs) (hs : Sees w z p m c news) (hz0 : 0 < z) (ht : P.underlying t = some (.slice e))
    (hi : (P.info? e).map (fun i => (i.zero, i.size, i.bytes)) = some (some zv, z, by')) (hzv : zv.cells.size = z) (h1 : ∀ u ∈ news, u.oneCell' = true) (hn : n + m ≤ 1073741824) (hb : by' ≤ 65536)
    (kk : ∀ q cap w', RowZ w' z (.slice q (n + m) cap) e (n + m) (xs ++ news) → Ext (Blk v) w w' → (∀ g, Blk (.slice q (n + m) cap) g → Blk v g ∨ g = w.heap.size) → F (.slice q (n + m) cap) w') :
    semK P (Builtin.append_ #[t, t] ty #[v, .slice p m c]) w F := by
  by_cases hm : m = 0
  · subst hm
    have hnil : news = [] := List.length_eq_zero_iff.1 (by rw [hs.len, Nat.zero_mul])
    subst hnil
    cases hinf : P.info? e with
    | none => rw [hinf] at hi; cases hi
    | some i =>
      rw [hinf] at hi
      simp only [Option.map_some, Option.some.injEq, Prod.mk.injEq] at hi
      obtain ⟨hz, hsz, hby⟩ := hi
      have hv : ∃ q l cap, v = .slice q l cap ∧ l = n ∧ n ≤ cap := by
        rcases h.form with ⟨rfl, rfl⟩ | ⟨g, cap, rfl, hc⟩
        · exact ⟨_, _, _, rfl, rfl, Nat.le_refl _⟩
        · exact ⟨_, _, _, rfl, rfl, hc⟩
      obtain ⟨q, l, cap, rfl, rfl, hle⟩ := hv
      have hsrc : Src P i.size t (.slice p 0 c) 0 [] w := by
        cases p with
        | none => exact Src.ofNil (P := P) w ht c
        | some a => exact Src.ofSlice (P := P) w ht a 0 c [] (by simp) (fun j u hj => by simp at hj) (fun u hu => by cases hu)
      refine semK_of (run_append_nothing (P := P) w t t ty e i ht hinf q l cap hle _ hsrc) (kk q cap w ?_ (Ext.refl w) fun g hg => .inl hg)
      simpa using h
  · have hm0 : 0 < m := by omega
    obtain ⟨a, rfl, _⟩ := hs.addr hz0 hm0
    refine appZ (P := P) (z := z) h hz0 ht hi hzv hs.len (fun j u hj => hs.get rfl hj) h1 hm0 hn hb fun g cap w' hr he hg hgl => ?_
    exact kk _ cap w' hr he fun g' hg' => by
      have : g = g' := by simpa [Blk, Value.ownBlock] using hg'
      subst this; exact hg
end
/-- One element of a row written. -/
theorem stR {P : Program} {w : World} {g n c e ty i : Nat} {xs : List Value} {v : Value} {F : World → Prop} (h : Row w (.slice (some ⟨g, 0, none⟩) n c) e n xs) (hi : i < n) (hz : (P.info? ty).map (·.size) = some 1) (h1 : v.oneCell' = true) (hc : v.cells = #[v])
    (k : ∀ w', Row w' (.slice (some ⟨g, 0, none⟩) n c) e n (xs.set i v) → Ext (· = g) w w' → F w') : semU P (Instr.storeAt ty (.pointer (some ⟨g, i, none⟩)) v) w F := by
  have hl := h.len
  rcases h.2 with ⟨h0, _⟩ | ⟨g', cap, cur, hv, hb, hg, hcap, hm, hs, ht⟩
  · cases h0
  · simp only [Value.slice.injEq, Option.some.injEq, Addr.mk.injEq] at hv
    obtain ⟨⟨rfl, _⟩, _, rfl⟩ := hv
    have ho : Own w g cur e := hg
    refine stO (i := i) ho (by omega) hz h1 hc fun w' o' e' => k w' ⟨by rw [List.length_set]; exact h.1, .inr ⟨g, c, cur.set i v, rfl, hb, o', hcap, hm, by rw [Array.size_set]; exact hs, ?_⟩⟩ e'
    rw [Array.toList_set, List.take_set, ht]
end Go.Proofs.YtcanicgpkbhhdaaGreatDoor.Sh

namespace Go.Proofs.YtcanicgpkbhhdaaGreatDoor.Sh
open Go Go.RowKit
set_option linter.unusedVariables false
set_option linter.unusedSimpArgs false
inductive Ent where
  | own (b : Nat) (cs : Array Value) (t : TypeId)
  | see (z : Nat) (p : Option Addr) (n c : Nat) (xs : List Value)
  | row (z : Nat) (p : Option Addr) (n c : Nat) (e : TypeId) (xs : List Value)
  | imap (mb : Nat) (E : List E3) (c : Nat)
  | obj (b : Nat) (o : Obj)
  | fact (S : Nat → Prop) (A : World → Prop)
  | ours (S : Nat → Prop) (A : World → Prop)
/-- What hangs on the blocks S alone. -/
structure On (S : Nat → Prop) (A : World → Prop) (w : World) : Prop where
  holds : A w
  lt : ∀ k, S k → k < w.heap.size
  keeps : ∀ v v' : World, A v → (∀ k, S k → v'.heap[k]? = v.heap[k]?) → A v'
theorem On.ext {S T : Nat → Prop} {A : World → Prop} {w w' : World} (h : On S A w) (k : Ext T w w') (hs : ∀ i, S i → ¬ T i) : On S A w' :=
  ⟨h.keeps w w' h.holds fun i hi => k.block i (h.lt i hi) (hs i hi), fun i hi => Nat.lt_of_lt_of_le (h.lt i hi) k.size, h.keeps⟩
def Ent.at_ (w : World) : Ent → Prop
  | .own b cs t => Own w b cs t
  | .see z p n c xs => Sees w z p n c xs
  | .row z p n c e xs => RowZ w z (.slice p n c) e n xs
  | .imap mb E c => IMap w mb E c
  | .obj b o => w.heap[b]? = some o
  | .fact S A => On S A w
  | .ours S A => On S A w
/-- The blocks that it speaks of. -/
def Ent.foot : Ent → Nat → Prop
  | .own b _ _, k => k = b
  | .see _ p _ _ xs, k => 0 < xs.length ∧ ∃ a, p = some a ∧ k = a.block
  | .row _ p n c _ _, k => Blk (.slice p n c) k
  | .imap mb _ _, k => k = mb
  | .obj b _, k => k = b
  | .fact S _, k => S k
  | .ours S _, k => S k
/-- The blocks that nobody else speaks of. -/
def Ent.mine : Ent → Nat → Prop
  | .own b _ _, k => k = b
  | .see _ _ _ _ _, _ => False
  | .row _ p n c _ _, k => Blk (.slice p n c) k
  | .imap mb _ _, k => k = mb
  | .obj b _, k => k = b
  | .fact _ _, _ => False
  | .ours S _, k => S k
theorem Ent.foot_of_mine {x : Ent} {k : Nat} (h : x.mine k) : x.foot k := by cases x <;> first | exact h | exact h.elim
theorem Sees.ext' {S : Nat → Prop} {w w' : World} {z n c : Nat} {p : Option Addr} {xs : List Value} (h : Sees w z p n c xs) (k : Ext S w w') (hs : 0 < xs.length → ∀ a, p = some a → ¬ S a.block) : Sees w' z p n c xs :=
  ⟨h.len, h.le, fun j u hj => let ⟨a, ha, hc⟩ := h.at_ j u hj; ⟨a, ha, k.cellAt hc (by
    rw [blockAdd]
    refine hs ?_ a ha
    rcases xs with _ | ⟨x, xs⟩
    · simp at hj
    · simp)⟩⟩
theorem Ent.at_.ext {S : Nat → Prop} {w w' : World} {x : Ent} (h : x.at_ w) (k : Ext S w w') (hs : ∀ i, x.foot i → ¬ S i) : x.at_ w' := by
  cases x with
  | own b cs t => exact Own.ext h k (hs b rfl)
  | see z p n c xs => exact Sees.ext' h k fun h0 a ha => hs _ ⟨h0, a, ha, rfl⟩
  | row z p n c e xs => exact RowZ.ext h k fun g hg => hs g hg
  | imap mb E c => exact IMap.ext h k (hs mb rfl)
  | obj b o =>
    have h : w.heap[b]? = some o := h
    have hb : b < w.heap.size := by
      by_cases hb : b < w.heap.size
      · exact hb
      · rw [Array.getElem?_eq_none (Nat.le_of_not_lt hb)] at h; cases h
    exact (k.block b hb (hs b rfl)).trans h
  | fact S A => exact On.ext h k fun i hi => hs i hi
  | ours S A => exact On.ext h k fun i hi => hs i hi
theorem Ent.at_.lt {w : World} {x : Ent} (h : x.at_ w) {k : Nat} (hk : x.foot k) : k < w.heap.size := by
  cases x with
  | own b cs t => subst hk; exact Own.lt h
  | see z p n c xs =>
    obtain ⟨h0, a, ha, rfl⟩ := hk
    have h : Sees w z p n c xs := h
    have hl := h.len
    have : 0 < n * z := by omega
    obtain ⟨a', ha', hlt⟩ := h.addr (Nat.pos_of_ne_zero fun e => by subst e; simp at this) (Nat.pos_of_ne_zero fun e => by subst e; simp at this)
    rw [ha] at ha'; cases ha'; exact hlt
  | row z p n c e xs => exact RowZ.lt h hk
  | imap mb E c => subst hk; exact IMap.block h
  | obj b o =>
    subst hk
    have h : w.heap[k]? = some o := h
    by_cases hb : k < w.heap.size
    · exact hb
    · rw [Array.getElem?_eq_none (Nat.le_of_not_lt hb)] at h; cases h
  | fact S A => exact On.lt h k hk
  | ours S A => exact On.lt h k hk
def Apart (x y : Ent) : Prop := ∀ k, (x.mine k → ¬ y.foot k) ∧ (x.foot k → ¬ y.mine k)
theorem Apart.symm {x y : Ent} (h : Apart x y) : Apart y x := fun k => ⟨fun a b => (h k).2 b a, fun a b => (h k).1 b a⟩
structure Hp (Z : Nat → Prop) (w0 w : World) (L : List Ent) : Prop where
  ext : Ext Z w0 w
  all : ∀ x ∈ L, x.at_ w
  apart : L.Pairwise Apart
  may : ∀ x ∈ L, ∀ k, x.mine k → Z k ∨ w0.heap.size ≤ k
/-- An entry, in its place, and what comes into its place. -/
inductive Pos : List Ent → Ent → Ent → List Ent → Prop
  | here {L x y} : Pos (x :: L) x y (y :: L)
  | there {L M x y z} : Pos L x y M → Pos (z :: L) x y (z :: M)
theorem Pos.mem {L M : List Ent} {x y : Ent} (h : Pos L x y M) : x ∈ L := by
  induction h with
  | here => exact List.mem_cons_self
  | there _ ih => exact List.mem_cons_of_mem _ ih
theorem Pos.mem' {L M : List Ent} {x y : Ent} (h : Pos L x y M) : y ∈ M := by
  induction h with
  | here => exact List.mem_cons_self
  | there _ ih => exact List.mem_cons_of_mem _ ih
theorem Pos.cases' {L M : List Ent} {x y : Ent} (h : Pos L x y M) : ∀ z ∈ M, z = y ∨ z ∈ L := by
  induction h with
  | here => intro z hz; rcases List.mem_cons.1 hz with h | h; exact .inl h; exact .inr (List.mem_cons_of_mem _ h)
  | there _ ih =>
    intro z hz
    rcases List.mem_cons.1 hz with h | h
    · exact .inr (h ▸ List.mem_cons_self)
    · rcases ih z h with h | h
      · exact .inl h
      · exact .inr (List.mem_cons_of_mem _ h)
/-- Those beside it keep apart from what comes into its place, if that speaks of no blocks but its own or new ones. -/
theorem Pos.pair {w : World} {L M : List Ent} {x y : Ent} (h : Pos L x y M) (hp : L.Pairwise Apart) (hl : ∀ z ∈ L, ∀ k, z.foot k → k < w.heap.size) (hy : ∀ k, y.foot k → x.mine k ∨ w.heap.size ≤ k) :
    M.Pairwise Apart ∧ (∀ z ∈ M, z = y ∨ (z ∈ L ∧ Apart x z)) := by
  have key : ∀ z, (∀ k, z.foot k → k < w.heap.size) → Apart x z → Apart y z := by
    intro z hz ha k
    have hn : y.foot k → ¬ z.foot k := by
      intro h1 h2
      rcases hy k h1 with h | h
      · exact (ha k).1 h h2
      · exact absurd (hz k h2) (by omega)
    have hm : y.foot k → ¬ z.mine k := fun h1 h2 => hn h1 (Ent.foot_of_mine h2)
    exact ⟨fun h1 => hn (Ent.foot_of_mine h1), hm⟩
  induction h with
  | @here L x y =>
    rw [List.pairwise_cons] at hp
    refine ⟨List.pairwise_cons.2 ⟨fun z hz => key z (hl z (List.mem_cons_of_mem _ hz)) (hp.1 z hz), hp.2⟩, fun z hz => ?_⟩
    rcases List.mem_cons.1 hz with h | h
    · exact .inl h
    · exact .inr ⟨List.mem_cons_of_mem _ h, hp.1 z h⟩
  | @there L M x y z h ih =>
    rw [List.pairwise_cons] at hp
    obtain ⟨i1, i2⟩ := ih hp.2 (fun z hz => hl z (List.mem_cons_of_mem _ hz)) hy key
    refine ⟨List.pairwise_cons.2 ⟨fun u hu => ?_, i1⟩, fun u hu => ?_⟩
    · rcases i2 u hu with h1 | ⟨h1, h2⟩
      · subst h1; exact (key z (hl z List.mem_cons_self) (hp.1 x h.mem).symm).symm
      · exact hp.1 u h1
    · rcases List.mem_cons.1 hu with h1 | h1
      · subst h1; exact .inr ⟨List.mem_cons_self, (hp.1 x h.mem).symm⟩
      · rcases i2 u h1 with h2 | ⟨h2, h3⟩
        · exact .inl h2
        · exact .inr ⟨List.mem_cons_of_mem _ h2, h3⟩
section
variable {P : Program} {Z : Nat → Prop} {w0 w : World} {L M : List Ent}
theorem Hp.start (w : World) : Hp None' w w [] := ⟨Ext.refl w, by simp, List.Pairwise.nil, by simp⟩
theorem Hp.see {w : World} {z n c : Nat} {p : Option Addr} {xs : List Value} (hs : Sees w z p n c xs) (h : Hp Z w0 w L) (ha : ∀ x ∈ L, ∀ k, x.mine k → w0.heap.size ≤ k ∧ ¬ (Ent.see z p n c xs).foot k) : Hp Z w0 w (.see z p n c xs :: L) :=
  ⟨h.ext, fun x hx => by rcases List.mem_cons.1 hx with h1 | h1; subst h1; exact hs; exact h.all x h1,
    List.pairwise_cons.2 ⟨fun x hx k => ⟨fun h => h.elim, fun h1 h2 => (ha x hx k h2).2 h1⟩, h.apart⟩,
    fun x hx k hk => by rcases List.mem_cons.1 hx with h1 | h1; subst h1; exact hk.elim; exact h.may x h1 k hk⟩
/-- The memory grew; what was there is there. -/
theorem Hp.bl {w' : World} (h : Hp Z w0 w L) (k : Bl w w') : Hp Z w0 w' L :=
  ⟨h.ext.trans (S' := None') (Ext.of_bl k) fun _ _ h => h.elim, fun x hx => (h.all x hx).ext (S := None') (Ext.of_bl k) fun _ _ h => h, h.apart, h.may⟩
/-- One entry is new: it speaks of new blocks alone. -/
theorem Hp.add {w' : World} {x : Ent} (h : Hp Z w0 w L) (k : Bl w w') (hx : x.at_ w') (hf : ∀ i, x.foot i → w.heap.size ≤ i) : Hp Z w0 w' (x :: L) := by
  have h' := h.bl k
  refine ⟨h'.ext, fun y hy => ?_, List.pairwise_cons.2 ⟨fun y hy i => ?_, h.apart⟩, fun y hy i hi => ?_⟩
  · rcases List.mem_cons.1 hy with h1 | h1
    · subst h1; exact hx
    · exact h'.all y h1
  · have := fun hi => (h.all y hy).lt (k := i) hi
    exact ⟨fun h1 h2 => absurd (this h2) (by have := hf i (Ent.foot_of_mine h1); omega), fun h1 h2 => absurd (this (Ent.foot_of_mine h2)) (by have := hf i h1; omega)⟩
  · rcases List.mem_cons.1 hy with h1 | h1
    · subst h1; exact .inr (Nat.le_trans h.ext.size (hf i (Ent.foot_of_mine hi)))
    · exact h.may y h1 i hi
/-- One entry turned: its own blocks alone, and new ones. -/
theorem Hp.turn {w' : World} {x y : Ent} (h : Hp Z w0 w L) (hp : Pos L x y M) (k : Ext x.mine w w') (hy : y.at_ w') (hf : ∀ i, y.foot i → x.mine i ∨ w.heap.size ≤ i) : Hp Z w0 w' M := by
  obtain ⟨p1, p2⟩ := hp.pair (w := w) h.apart (fun z hz i hi => (h.all z hz).lt hi) hf
  refine ⟨h.ext.trans k fun i hi hm => ?_, fun z hz => ?_, p1, fun z hz i hi => ?_⟩
  · rcases h.may x hp.mem i hm with h1 | h1
    · exact h1
    · omega
  · rcases p2 z hz with h1 | ⟨h1, h2⟩
    · subst h1; exact hy
    · exact (h.all z h1).ext k fun i hi hm => (h2 i).1 hm hi
  · rcases p2 z hz with h1 | ⟨h1, h2⟩
    · subst h1
      rcases hf i (Ent.foot_of_mine hi) with h1 | h1
      · exact h.may x hp.mem i h1
      · exact .inr (Nat.le_trans h.ext.size h1)
    · exact h.may z h1 i hi
/-- The end of a frame that turned nothing of what was there. -/
theorem Hp.done (h : Hp None' w0 w L) : Bl w0 w := h.ext.bl fun _ _ h => h
theorem allocH {cs : Array Value} {t : TypeId} {F : World → Prop} (h : Hp Z w0 w L) (k : ∀ w', Hp Z w0 w' (.own w.heap.size cs t :: L) → Bl w w' → F w') : allocK w (.cells cs t) F :=
  k _ (h.add ((Bl.refl w).alloc _) (Own.new w cs t) fun i hi => Nat.le_of_eq hi.symm) ((Bl.refl w).alloc _)
theorem drewH {F : World → Prop} (h : Hp Z w0 w L) (k : ∀ w', Hp Z w0 w' L → Bl w w' → F w') : drewK w F := k _ (h.bl (Bl.refl w).drew) (Bl.refl w).drew
theorem ldH {b i : Nat} {cs : Array Value} {t : TypeId} {v : Value} {F : Value → Prop} (h : Hp Z w0 w L) (hm : Pos L (.own b cs t) (.own b cs t) L) (hv : cs[i]? = some v) (k : F v) : ldK P w ⟨b, i, none⟩ F :=
  ldO (h.all _ hm.mem) hv k
theorem stH1 {b i : Nat} {cs : Array Value} {t ty : TypeId} {v : Value} {F : World → Prop} (h : Hp Z w0 w L) (hm : Pos L (.own b cs t) (.own b (cs.setIfInBounds i v) t) M) (hi : i < cs.size) (hz : (P.info? ty).map (·.size) = some 1) (h1 : v.oneCell' = true) (hc : v.cells = #[v])
    (k : ∀ w', Hp Z w0 w' M → Ext (· = b) w w' → F w') : semU P (Instr.storeAt ty (.pointer (some ⟨b, i, none⟩)) v) w F :=
  stO (h.all _ hm.mem) hi hz h1 hc fun w' ho he => k w' (h.turn hm he (by
    have : cs.set i v = cs.setIfInBounds i v := by simp [Array.setIfInBounds, hi]
    rw [this] at ho; exact ho) fun i hi => .inl hi) he
def onesB : List Value → Bool
  | [] => true
  | v :: l => v.oneCell' && onesB l
theorem onesB_all : ∀ l : List Value, onesB l = true → ∀ x ∈ l, x.oneCell' = true
  | [], _, x, hx => by cases hx
  | v :: l, h, x, hx => by
    simp only [onesB, Bool.and_eq_true] at h
    rcases List.mem_cons.1 hx with h1 | h1
    · subst h1; exact h.1
    · exact onesB_all l h.2 x h1
theorem stHA {b : Nat} {cs vs : Array Value} {t ty : TypeId} {F : World → Prop} (h : Hp Z w0 w L) (hm : Pos L (.own b cs t) (.own b vs t) M) (hz : (P.info? ty).map (·.size) = some vs.size) (hs : cs.size = vs.size) (h1 : onesB vs.toList = true)
    (k : ∀ w', Hp Z w0 w' M → Ext (· = b) w w' → F w') : semU P (Instr.storeAt ty (.pointer (some ⟨b, 0, none⟩)) (.agg vs)) w F :=
  stAll (h.all _ hm.mem) hz hs (by rw [Array.all_eq_true]; intro i hi; exact onesB_all _ h1 _ (by simp)) fun w' ho he => k w' (h.turn hm he ho fun i hi => .inl hi) he
theorem Hp.sees {z n c : Nat} {p : Option Addr} {xs : List Value} (h : Hp Z w0 w L) (hm : Pos L (.see z p n c xs) (.see z p n c xs) L) : Sees w z p n c xs := h.all _ hm.mem
theorem Hp.rowz {z n c : Nat} {p : Option Addr} {e : TypeId} {xs : List Value} (h : Hp Z w0 w L) (hm : Pos L (.row z p n c e xs) (.row z p n c e xs) L) : RowZ w z (.slice p n c) e n xs := h.all _ hm.mem
end
/-! The entry found by instance: the walker's words. -/
class GetOwn (L : List Ent) (b : Nat) (cs : outParam (Array Value)) (t : outParam TypeId) : Prop where
  pos : Pos L (.own b cs t) (.own b cs t) L
instance (priority := high) getHere {L : List Ent} {b : Nat} {cs : Array Value} {t : TypeId} : GetOwn (.own b cs t :: L) b cs t := ⟨.here⟩
instance (priority := low) getThere {L : List Ent} {x : Ent} {b : Nat} {cs : Array Value} {t : TypeId} [h : GetOwn L b cs t] : GetOwn (x :: L) b cs t := ⟨.there h.pos⟩
class SetOwn (L : List Ent) (b : Nat) (vs : Array Value) (cs : outParam (Array Value)) (t : outParam TypeId) (M : outParam (List Ent)) : Prop where
  pos : Pos L (.own b cs t) (.own b vs t) M
instance (priority := high) setHere {L : List Ent} {b : Nat} {cs vs : Array Value} {t : TypeId} : SetOwn (.own b cs t :: L) b vs cs t (.own b vs t :: L) := ⟨.here⟩
instance (priority := low) setThere {L M : List Ent} {x : Ent} {b : Nat} {cs vs : Array Value} {t : TypeId} [h : SetOwn L b vs cs t M] : SetOwn (x :: L) b vs cs t (x :: M) := ⟨.there h.pos⟩
class NthC (l : List Value) (i : Nat) (v : outParam Value) : Prop where
  eq : l[i]? = some v
instance {v : Value} {l : List Value} : NthC (v :: l) 0 v := ⟨rfl⟩
instance {v x : Value} {l : List Value} {i : Nat} [h : NthC l i v] : NthC (x :: l) (i + 1) v := ⟨by simpa using h.eq⟩
class PutC (l : List Value) (i : Nat) (v : Value) (m : outParam (List Value)) : Prop where
  eq : m = l.set i v ∧ i < l.length
instance {v x : Value} {l : List Value} : PutC (x :: l) 0 v (v :: l) := ⟨rfl, by simp⟩
instance {v x : Value} {l m : List Value} {i : Nat} [h : PutC l i v m] : PutC (x :: l) (i + 1) v (x :: m) := ⟨by simp [h.eq.1], by simpa using h.eq.2⟩
class LdOwn (L : List Ent) (b i : Nat) (v : outParam Value) : Prop where
  ex : ∃ cs t, Pos L (.own b cs t) (.own b cs t) L ∧ cs[i]? = some v
instance (priority := high) ldHere {L : List Ent} {b i : Nat} {l : List Value} {t : TypeId} {v : Value} [h : NthC l i v] : LdOwn (.own b l.toArray t :: L) b i v := ⟨_, _, .here, by simpa using h.eq⟩
instance (priority := low) ldThere {L : List Ent} {x : Ent} {b i : Nat} {v : Value} [h : LdOwn L b i v] : LdOwn (x :: L) b i v := let ⟨cs, t, p, e⟩ := h.ex; ⟨cs, t, .there p, e⟩
class PutOwn (L : List Ent) (b i : Nat) (v : Value) (M : outParam (List Ent)) : Prop where
  ex : ∃ cs t, i < cs.size ∧ Pos L (.own b cs t) (.own b (cs.setIfInBounds i v) t) M
instance (priority := high) putHere {L : List Ent} {b i : Nat} {v : Value} {l m : List Value} {t : TypeId} [h : PutC l i v m] : PutOwn (.own b l.toArray t :: L) b i v (.own b m.toArray t :: L) :=
  ⟨l.toArray, t, by simpa using h.eq.2, by have : l.toArray.setIfInBounds i v = m.toArray := by rw [h.eq.1]; simp
                                           rw [this]; exact .here⟩
instance (priority := low) putThere {L M : List Ent} {x : Ent} {b i : Nat} {v : Value} [h : PutOwn L b i v M] : PutOwn (x :: L) b i v (x :: M) := let ⟨cs, t, q, p⟩ := h.ex; ⟨cs, t, q, .there p⟩
section
variable {P : Program} {Z : Nat → Prop} {w0 w : World} {L M : List Ent}
theorem wLd {b i : Nat} {v : Value} {F : Value → Prop} (h : Hp Z w0 w L) [hm : LdOwn L b i v] (k : F v) : ldK P w ⟨b, i, none⟩ F := let ⟨_, _, p, e⟩ := hm.ex; ldH h p e k
theorem wLdA {b i : Nat} {v : Value} {F : Value → Prop} (h : Hp Z w0 w L) [hm : LdOwn L b i v] (k : F v) : ldK P w (Addr.add ⟨b, 0, none⟩ i) F := by rw [addG]; exact wLd h k
theorem wStA {b : Nat} {cs vs : Array Value} {t ty : TypeId} {F : World → Prop} (h : Hp Z w0 w L) [hm : SetOwn L b vs cs t M] (hz : (P.info? ty).map (·.size) = some vs.size) (hs : cs.size = vs.size) (h1 : onesB vs.toList = true)
    (k : ∀ w', Hp Z w0 w' M → Ext (· = b) w w' → F w') : semU P (Instr.storeAt ty (.pointer (some ⟨b, 0, none⟩)) (.agg vs)) w F := stHA h hm.pos hz hs h1 k
theorem wSt1 {b i : Nat} {ty : TypeId} {v : Value} {F : World → Prop} (h : Hp Z w0 w L) [hm : PutOwn L b i v M] (hz : (P.info? ty).map (·.size) = some 1) (h1 : v.oneCell' = true) (hc : v.cells = #[v])
    (k : ∀ w', Hp Z w0 w' M → Ext (· = b) w w' → F w') : semU P (Instr.storeAt ty (.pointer (some ⟨b, i, none⟩)) v) w F := let ⟨_, _, q, p⟩ := hm.ex; stH1 h p q hz h1 hc k
theorem wSt1A {b i : Nat} {ty : TypeId} {v : Value} {F : World → Prop} (h : Hp Z w0 w L) [hm : PutOwn L b i v M] (hz : (P.info? ty).map (·.size) = some 1) (h1 : v.oneCell' = true) (hc : v.cells = #[v])
    (k : ∀ w', Hp Z w0 w' M → Ext (· = b) w w' → F w') : semU P (Instr.storeAt ty (.pointer (some (Addr.add ⟨b, 0, none⟩ i))) v) w F := by rw [addG]; exact wSt1 h hz h1 hc k
theorem stoA {b : Nat} {cs vs : Array Value} {t ty : TypeId} {F : World → Prop} (h : Hp Z w0 w L) [hm : SetOwn L b vs cs t M] (k : ∀ w', Hp Z w0 w' M → Ext (· = b) w w' → F w')
    (hz : (P.info? ty).map (·.size) = some vs.size := by with_unfolding_all rfl) (hs : cs.size = vs.size := by with_unfolding_all rfl) (h1 : onesB vs.toList = true := by with_unfolding_all rfl) :
    semU P (Instr.storeAt ty (.pointer (some ⟨b, 0, none⟩)) (.agg vs)) w F := wStA h hz hs h1 k
theorem sto1 {b i : Nat} {ty : TypeId} {v : Value} {F : World → Prop} (h : Hp Z w0 w L) [hm : PutOwn L b i v M] (k : ∀ w', Hp Z w0 w' M → Ext (· = b) w w' → F w')
    (hz : (P.info? ty).map (·.size) = some 1 := by with_unfolding_all rfl) (h1 : v.oneCell' = true := by with_unfolding_all rfl) (hc : v.cells = #[v] := by with_unfolding_all rfl) :
    semU P (Instr.storeAt ty (.pointer (some ⟨b, i, none⟩)) v) w F := wSt1 h hz h1 hc k
theorem sto2 {b i : Nat} {ty : TypeId} {v : Value} {F : World → Prop} (h : Hp Z w0 w L) [hm : PutOwn L b i v M] (k : ∀ w', Hp Z w0 w' M → Ext (· = b) w w' → F w')
    (hz : (P.info? ty).map (·.size) = some 1 := by with_unfolding_all rfl) (h1 : v.oneCell' = true := by with_unfolding_all rfl) (hc : v.cells = #[v] := by with_unfolding_all rfl) :
    semU P (Instr.storeAt ty (.pointer (some (Addr.add ⟨b, 0, none⟩ i))) v) w F := wSt1A h hz h1 hc k
end
theorem asI_int (k : IntKind) (n : Int) (F : Int → Prop) : asI k (.int k n) F = F n := by simp [asI]
theorem asL_sl (p : Option Addr) (n c : Nat) (F : Option Addr → Nat → Nat → Prop) : asL (.slice p n c) F = F p n c := rfl
theorem asS_str (s : ByteArray) (F : ByteArray → Prop) : asS (.string s) F = F s := rfl
theorem asB_bool (b : Bool) (F : Bool → Prop) : asB (.bool b) F = F b := rfl
theorem asA_ptr (a : Addr) (F : Addr → Prop) : asA (.pointer (some a)) F = F a := rfl
theorem asP_ptr (a : Option Addr) (F : Option Addr → Prop) : asP (.pointer a) F = F a := rfl
theorem asM_map (a : Option Nat) (F : Option Nat → Prop) : asM (.map a) F = F a := rfl
theorem asG_agg (cs : Array Value) (F : List Value → Prop) : asG (.agg cs) F = F cs.toList := rfl
theorem asT_tup (cs : Array Value) (F : List Value → Prop) : asT (.tuple cs) F = F cs.toList := rfl
theorem asHd_cons (x : Value) (l : List Value) (F : Value → List Value → Prop) : asHd (x :: l) F = F x l := rfl
theorem asEnd_nil (p : Prop) : asEnd [] p = p := rfl
theorem optP_some {α : Type} (a : α) (F : α → Prop) : optP (some a) F = F a := rfl
theorem ifB_true (T F : Prop) : ifB true T F = T := rfl
theorem ifB_false (T F : Prop) : ifB false T F = F := rfl
theorem kI {k : IntKind} {n : Int} {F : Int → Prop} (h : F n) : asI k (.int k n) F := by rw [asI_int]; exact h
theorem kL {p : Option Addr} {n c : Nat} {F : Option Addr → Nat → Nat → Prop} (h : F p n c) : asL (.slice p n c) F := h
theorem kS {s : ByteArray} {F : ByteArray → Prop} (h : F s) : asS (.string s) F := h
theorem kB {b : Bool} {F : Bool → Prop} (h : F b) : asB (.bool b) F := h
theorem kA {a : Addr} {F : Addr → Prop} (h : F a) : asA (.pointer (some a)) F := h
theorem kP {a : Option Addr} {F : Option Addr → Prop} (h : F a) : asP (.pointer a) F := h
theorem kM {a : Option Nat} {F : Option Nat → Prop} (h : F a) : asM (.map a) F := h
theorem kG {l : List Value} {F : List Value → Prop} (h : F l) : asG (.agg l.toArray) F := h
theorem kT {l : List Value} {F : List Value → Prop} (h : F l) : asT (.tuple l.toArray) F := h
theorem kC {x : Value} {l : List Value} {F : Value → List Value → Prop} (h : F x l) : asHd (x :: l) F := h
theorem kN {p : Prop} (h : p) : asEnd [] p := h
theorem kO {α : Type} {a : α} {F : α → Prop} (h : F a) : optP (some a) F := h
class SeeIn (L : List Ent) (p : Option Addr) (n c : Nat) (z : outParam Nat) (xs : outParam (List Value)) : Prop where
  pos : Pos L (.see z p n c xs) (.see z p n c xs) L
instance (priority := high) seeHere {L : List Ent} {p : Option Addr} {n c z : Nat} {xs : List Value} : SeeIn (.see z p n c xs :: L) p n c z xs := ⟨.here⟩
instance (priority := low) seeThere {L : List Ent} {x : Ent} {p : Option Addr} {n c z : Nat} {xs : List Value} [h : SeeIn L p n c z xs] : SeeIn (x :: L) p n c z xs := ⟨.there h.pos⟩
/-- The cells of bytes. -/
def u8s (l : List UInt8) : List Value := l.map fun b => .int .u8 (b.toNat : Int)
theorem u8s_len (l : List UInt8) : (u8s l).length = l.length := by simp [u8s]
theorem u8s_get {l : List UInt8} {i : Nat} (h : i < l.length) : (u8s l)[i]? = some (.int .u8 (l[i].toNat : Int)) := by simp [u8s, h]
theorem Sees.bytes {w : World} {p : Option Addr} {n c : Nat} {l : List UInt8} (h : Sees w 1 p n c (u8s l)) : n = l.length := by have := h.len; rw [u8s_len] at this; omega
/-- One byte of a slice read. -/
theorem rdB {P : Program} {Z : Nat → Prop} {w0 w : World} {L : List Ent} {t e : TypeId} {p : Option Addr} {n c : Nat} {l : List UInt8} {k : IntKind} {i : Int} {F : Int → World → Prop} (h : Hp Z w0 w L) [hm : SeeIn L p n c 1 (u8s l)]
    (ht : P.underlying t = some (.slice e)) (hz : (P.info? e).map (·.size) = some 1) (h0 : 0 ≤ i) (h1 : i < (n : Int)) (kk : ∀ b : UInt8, l[i.toNat]? = some b → F (b.toNat : Int) w) :
    semK P (Instr.indexAt t (.slice p n c) (.int k i)) w fun v1 w1 => asA v1 fun ad => ldK P w1 ad fun v2 => asI .u8 v2 fun x => F x w1 := by
  have hs := h.sees hm.pos
  have hn := hs.bytes
  have hi : i.toNat < l.length := by omega
  obtain ⟨a, ha, _⟩ := hs.addr (by omega) (by omega)
  subst ha
  refine ixS ht hz h0 h1 ?_
  show ldK P w (a.add (i.toNat * 1)) _
  rw [Nat.mul_one]
  refine ld (hs.get rfl (u8s_get hi)) ?_
  rw [asI_int]
  exact kk _ (by simp [hi])
/-! The walker's steps, found by instance. -/
class Kk (g : Prop) (h : outParam Prop) : Prop where
  imp : h → g
instance {k : IntKind} {n : Int} {F : Int → Prop} : Kk (asI k (.int k n) F) (F n) := ⟨kI⟩
instance {p : Option Addr} {n c : Nat} {F : Option Addr → Nat → Nat → Prop} : Kk (asL (.slice p n c) F) (F p n c) := ⟨kL⟩
instance {s : ByteArray} {F : ByteArray → Prop} : Kk (asS (.string s) F) (F s) := ⟨kS⟩
instance {b : Bool} {F : Bool → Prop} : Kk (asB (.bool b) F) (F b) := ⟨kB⟩
instance {a : Addr} {F : Addr → Prop} : Kk (asA (.pointer (some a)) F) (F a) := ⟨kA⟩
instance {a : Option Addr} {F : Option Addr → Prop} : Kk (asP (.pointer a) F) (F a) := ⟨kP⟩
instance {a : Option Nat} {F : Option Nat → Prop} : Kk (asM (.map a) F) (F a) := ⟨kM⟩
instance {l : List Value} {F : List Value → Prop} : Kk (asG (.agg l.toArray) F) (F l) := ⟨kG⟩
instance {l : List Value} {F : List Value → Prop} : Kk (asT (.tuple l.toArray) F) (F l) := ⟨kT⟩
instance {x : Value} {l : List Value} {F : Value → List Value → Prop} : Kk (asHd (x :: l) F) (F x l) := ⟨kC⟩
instance {p : Prop} : Kk (asEnd [] p) p := ⟨kN⟩
instance {α : Type} {a : α} {F : α → Prop} : Kk (optP (some a) F) (F a) := ⟨kO⟩
theorem kk_ {g h : Prop} [i : Kk g h] (x : h) : g := i.imp x
class LdAt (L : List Ent) (ad : Addr) (v : outParam Value) : Prop where
  ld : ∀ {P : Program} {Z : Nat → Prop} {w0 w : World} {F : Value → Prop}, Hp Z w0 w L → F v → ldK P w ad F
instance {L : List Ent} {b i : Nat} {v : Value} [LdOwn L b i v] : LdAt L ⟨b, i, none⟩ v := ⟨fun h k => wLd h k⟩
instance {L : List Ent} {b i : Nat} {v : Value} [LdOwn L b i v] : LdAt L (Addr.add ⟨b, 0, none⟩ i) v := ⟨fun h k => wLdA h k⟩
instance {L : List Ent} {b i j : Nat} {v : Value} [LdOwn L b (i + j) v] : LdAt L (Addr.add (Addr.add ⟨b, 0, none⟩ i) j) v := ⟨fun h k => by rw [addAdd, addG]; exact wLd h k⟩
class PutAt (L : List Ent) (ad : Addr) (v : Value) (M : outParam (List Ent)) : Prop where
  st : ∀ {P : Program} {Z : Nat → Prop} {w0 w : World} {ty : TypeId} {F : World → Prop}, Hp Z w0 w L → (P.info? ty).map (·.size) = some 1 → v.oneCell' = true → v.cells = #[v] → (∀ w', Hp Z w0 w' M → F w') → semU P (Instr.storeAt ty (.pointer (some ad)) v) w F
instance {L M : List Ent} {b i : Nat} {v : Value} [PutOwn L b i v M] : PutAt L ⟨b, i, none⟩ v M := ⟨fun h hz h1 hc k => wSt1 h hz h1 hc fun w' h _ => k w' h⟩
instance {L M : List Ent} {b i : Nat} {v : Value} [PutOwn L b i v M] : PutAt L (Addr.add ⟨b, 0, none⟩ i) v M := ⟨fun h hz h1 hc k => wSt1A h hz h1 hc fun w' h _ => k w' h⟩
section
variable {P : Program} {Z : Nat → Prop} {w0 w : World} {L M : List Ent}
theorem ld_ {ad : Addr} {v : Value} {F : Value → Prop} (h : Hp Z w0 w L) [i : LdAt L ad v] (k : F v) : ldK P w ad F := i.ld h k
theorem st_ {ad : Addr} {ty : TypeId} {v : Value} {F : World → Prop} (h : Hp Z w0 w L) [i : PutAt L ad v M] (k : ∀ w', Hp Z w0 w' M → F w')
    (hz : (P.info? ty).map (·.size) = some 1 := by with_unfolding_all rfl) (h1 : v.oneCell' = true := by with_unfolding_all rfl) (hc : v.cells = #[v] := by with_unfolding_all rfl) :
    semU P (Instr.storeAt ty (.pointer (some ad)) v) w F := i.st h hz h1 hc k
end
/-! All of these at once. -/
inductive Sd (a b c : Prop) : Prop where
  | mk : a → b → c → Sd a b c
theorem sd_ {a b c : Prop} (h1 : a := by with_unfolding_all rfl) (h2 : b := by with_unfolding_all rfl) (h3 : c := by with_unfolding_all rfl) : Sd a b c := .mk h1 h2 h3
def AllW (p : World → Prop) : Prop := ∀ w, p w
theorem allW {p : World → Prop} (h : ∀ w, p w) : AllW p := h
class NxS (Z : Nat → Prop) (w0 w : World) (L : List Ent) (g : Prop) (h : outParam Prop) : Prop where
  imp : Hp Z w0 w L → h → g
section
variable {P : Program} {Z : Nat → Prop} {w0 w : World} {L M : List Ent}
instance {ad : Addr} {v : Value} {F : Value → Prop} [LdAt L ad v] : NxS Z w0 w L (ldK P w ad F) (F v) := ⟨fun h k => ld_ h k⟩
instance {cs : Array Value} {t : TypeId} {F : World → Prop} : NxS Z w0 w L (allocK w (.cells cs t) F) (AllW fun w' => Hp Z w0 w' (.own w.heap.size cs t :: L) → F w') := ⟨fun h k => allocH h fun w' h _ => k w' h⟩
instance {F : World → Prop} : NxS Z w0 w L (drewK w F) (AllW fun w' => Hp Z w0 w' L → F w') := ⟨fun h k => drewH h fun w' h _ => k w' h⟩
instance (priority := high) {b : Nat} {cs vs : Array Value} {t ty : TypeId} {F : World → Prop} [SetOwn L b vs cs t M] : NxS Z w0 w L (semU P (Instr.storeAt ty (.pointer (some ⟨b, 0, none⟩)) (.agg vs)) w F)
    (Sd ((P.info? ty).map (·.size) = some vs.size) (cs.size = vs.size) (onesB vs.toList = true) ∧ AllW fun w' => Hp Z w0 w' M → F w') := ⟨fun h k => let ⟨⟨h1, h2, h3⟩, k⟩ := k; stoA h (fun w' h _ => k w' h) h1 h2 h3⟩
instance {ad : Addr} {ty : TypeId} {v : Value} {F : World → Prop} [PutAt L ad v M] : NxS Z w0 w L (semU P (Instr.storeAt ty (.pointer (some ad)) v) w F)
    (Sd ((P.info? ty).map (·.size) = some 1) (v.oneCell' = true) (v.cells = #[v]) ∧ AllW fun w' => Hp Z w0 w' M → F w') := ⟨fun h k => let ⟨⟨h1, h2, h3⟩, k⟩ := k; st_ h (fun w' h => k w' h) h1 h2 h3⟩
theorem nx {g h : Prop} (hh : Hp Z w0 w L) [i : NxS Z w0 w L g h] (k : h) : g := i.imp hh k
theorem vr {v : Value} : v = v := rfl
end
end Go.Proofs.YtcanicgpkbhhdaaGreatDoor.Sh

namespace Go.Proofs.YtcanicgpkbhhdaaGreatDoor.Sh
open Go Go.RowKit Go.ChangeShapes
set_option linter.unusedVariables false
theorem list_of {α : Type} {Q : Nat → α → Prop} : ∀ n : Nat, (∀ i, i < n → ∃ x, Q i x) → ∃ xs : List α, xs.length = n ∧ ∀ (i : Nat) x, xs[i]? = some x → Q i x
  | 0, h => ⟨[], rfl, fun i x hx => by simp at hx⟩
  | n + 1, h => by
    obtain ⟨xs, h1, h2⟩ := list_of n fun i hi => h i (by omega)
    obtain ⟨y, hy⟩ := h n (by omega)
    refine ⟨xs ++ [y], by simp [h1], fun i x hx => ?_⟩
    by_cases hi : i < n
    · rw [List.getElem?_append_left (by omega)] at hx
      exact h2 i x hx
    · by_cases he : i = n
      · subst he
        rw [List.getElem?_append_right (by omega), h1, Nat.sub_self] at hx
        cases hx
        exact hy
      · rw [List.getElem?_eq_none (by simp [h1]; omega)] at hx
        cases hx
section
variable {H : Type} {enc : TypeId × Value → H} {P : Program} {w : World} {base b0 : Nat} {sp : Nat → Bool} {held : Bool}
theorem open_see {k : IntKind} {s e : TypeId} {r : Reach} {v : Value} {d : DataW H} {ps : List MemPlace} (hs : P.underlying s = some (.slice e)) (he : P.underlying e = some (.int k)) (hc : P.cellsOf e = 1)
    (hval : Value.okWide P w r b0 s v) (h : DataW.Trod enc P w base sp held s v d ps) :
    ∃ p l c, ∃ xs : List Int, v = .slice p l c ∧ (∀ n ∈ xs, (Lit.int k n).wf = true) ∧ Sees w 1 p l c (xs.map fun n => .int k n) := by
  obtain ⟨p, l, c, rfl⟩ := WideShapes.okWide_slice hs hval
  obtain ⟨fuel, hf⟩ := h
  rcases DataW.trod_slice hs hf with ⟨h0, _⟩ | ⟨a, len, cap, elems, rest, n, _, h0, _, _, hl, hm, hlen, hel, _⟩
  · simp [Value.cells] at h0
    obtain ⟨rfl, rfl, rfl⟩ := h0
    exact ⟨_, _, _, [], rfl, fun n hn => (by cases hn), Sees.nil w 1⟩
  · simp [Value.cells] at h0
    obtain ⟨rfl, rfl, rfl⟩ := h0
    obtain ⟨xs, x1, x2⟩ := list_of (Q := fun i m => (Lit.int k m).wf = true ∧ w.cell? (a.add i) = some (.int k m)) l fun i hi => by
      have h1 := hel i hi
      rw [hc] at h1
      obtain ⟨y, hy⟩ : ∃ y, elems[i]? = some y := ⟨_, List.getElem?_eq_getElem (by omega)⟩
      rw [hy, Option.bind_eq_some_iff] at h1
      obtain ⟨cs, hcs, hy'⟩ := h1
      obtain ⟨m, rfl, _, wm⟩ := DataW.trod_int he hy'
      have hg := (World.cells?_some hcs).2.2 0 (by decide)
      rw [add_zero, Nat.mul_one] at hg
      exact ⟨m, wm, hg⟩
    refine ⟨_, _, _, xs, rfl, fun n hn => ?_, ⟨by rw [List.length_map, x1, Nat.mul_one], by omega, fun j u hu => ?_⟩⟩
    · obtain ⟨i, hi, rfl⟩ := List.getElem_of_mem hn
      exact (x2 i _ (List.getElem?_eq_getElem hi)).1
    · rw [List.getElem?_map, Option.map_eq_some_iff] at hu
      obtain ⟨m, hm', rfl⟩ := hu
      exact ⟨a, rfl, (x2 j m hm').2⟩
theorem u8_of {xs : List Int} (h : ∀ n ∈ xs, (Lit.int .u8 n).wf = true) : (xs.map fun n => Value.int .u8 n) = u8s (xs.map fun n => UInt8.ofNat n.toNat) := by
  unfold u8s
  rw [List.map_map]
  refine List.map_congr_left fun n hn => ?_
  have := h n hn
  simp [Lit.wf, IntKind.min, IntKind.max, IntKind.signed, IntKind.bits] at this
  simp only [Function.comp]
  congr 1
  rw [UInt8.toNat_ofNat']
  omega
end
end Go.Proofs.YtcanicgpkbhhdaaGreatDoor.Sh

namespace Go.Proofs.YtcanicgpkbhhdaaGreatDoor.Rn
open Go Go.Proofs.YtcanicgpkbhhdaaGreatDoor.Sh
set_option linter.unusedVariables false
set_option linter.unusedSimpArgs false
inductive D8 where
  | a | b | c | d | e | f | g | h
def d8 (n : Nat) : D8 := match n with
  | 0 => .a | 1 => .b | 2 => .c | 3 => .d | 4 => .e | 5 => .f | 6 => .g | _ => .h
/-- A number's way: its digits, the least first. -/
def way : Nat → Nat → List D8
  | 0, _ => []
  | f + 1, i => match Nat.beq i 0 with
    | true => []
    | false => d8 (i % 8) :: way f (i / 8)
theorem d8_inj {m n : Nat} (hm : m < 8) (hn : n < 8) (h : d8 m = d8 n) : m = n := by
  have e : ∀ k : Nat, k < 8 → k = 0 ∨ k = 1 ∨ k = 2 ∨ k = 3 ∨ k = 4 ∨ k = 5 ∨ k = 6 ∨ k = 7 := fun k hk => by omega
  rcases e m hm with rfl | rfl | rfl | rfl | rfl | rfl | rfl | rfl <;> rcases e n hn with rfl | rfl | rfl | rfl | rfl | rfl | rfl | rfl <;> first | rfl | exact absurd h (by simp [d8])
theorem way_inj : ∀ (f i j : Nat), i < 8 ^ f → j < 8 ^ f → way f i = way f j → i = j
  | 0, i, j, hi, hj, _ => by simp at hi hj; omega
  | f + 1, i, j, hi, hj, h => by
    rw [Nat.pow_succ] at hi hj
    simp only [way] at h
    cases h1 : Nat.beq i 0 with
    | true =>
      cases h2 : Nat.beq j 0 with
      | true => rw [Nat.eq_of_beq_eq_true h1, Nat.eq_of_beq_eq_true h2]
      | false => rw [h1, h2] at h; cases h
    | false =>
      cases h2 : Nat.beq j 0 with
      | true => rw [h1, h2] at h; cases h
      | false =>
        rw [h1, h2] at h
        simp only [List.cons.injEq] at h
        have h3 := d8_inj (by omega) (by omega) h.1
        have h4 := way_inj f (i / 8) (j / 8) (by omega) (by omega) h.2
        omega
inductive Tr (α : Type) where
  | nil
  | node (v : Option α) (c0 c1 c2 c3 c4 c5 c6 c7 : Tr α)
section
variable {α : Type}
/-- The child of a digit. -/
noncomputable def pick8 (d : D8) : Tr α → Tr α → Tr α → Tr α → Tr α → Tr α → Tr α → Tr α → Tr α :=
  D8.rec (fun c0 c1 c2 c3 c4 c5 c6 c7 => c0) (fun c0 c1 c2 c3 c4 c5 c6 c7 => c1) (fun c0 c1 c2 c3 c4 c5 c6 c7 => c2) (fun c0 c1 c2 c3 c4 c5 c6 c7 => c3) (fun c0 c1 c2 c3 c4 c5 c6 c7 => c4) (fun c0 c1 c2 c3 c4 c5 c6 c7 => c5) (fun c0 c1 c2 c3 c4 c5 c6 c7 => c6) (fun c0 c1 c2 c3 c4 c5 c6 c7 => c7) d
/-- A node whose child of a digit is turned. -/
noncomputable def turn8 (d : D8) : (Tr α → Tr α) → Option α → Tr α → Tr α → Tr α → Tr α → Tr α → Tr α → Tr α → Tr α → Tr α :=
  D8.rec (fun f v c0 c1 c2 c3 c4 c5 c6 c7 => .node v (f c0) c1 c2 c3 c4 c5 c6 c7) (fun f v c0 c1 c2 c3 c4 c5 c6 c7 => .node v c0 (f c1) c2 c3 c4 c5 c6 c7) (fun f v c0 c1 c2 c3 c4 c5 c6 c7 => .node v c0 c1 (f c2) c3 c4 c5 c6 c7) (fun f v c0 c1 c2 c3 c4 c5 c6 c7 => .node v c0 c1 c2 (f c3) c4 c5 c6 c7) (fun f v c0 c1 c2 c3 c4 c5 c6 c7 => .node v c0 c1 c2 c3 (f c4) c5 c6 c7) (fun f v c0 c1 c2 c3 c4 c5 c6 c7 => .node v c0 c1 c2 c3 c4 (f c5) c6 c7) (fun f v c0 c1 c2 c3 c4 c5 c6 c7 => .node v c0 c1 c2 c3 c4 c5 (f c6) c7) (fun f v c0 c1 c2 c3 c4 c5 c6 c7 => .node v c0 c1 c2 c3 c4 c5 c6 (f c7)) d
noncomputable def Tr.getW (t : Tr α) (p : List D8) : Option α :=
  List.rec (motive := fun _ => Tr α → Option α) (fun t => Tr.rec none (fun v _ _ _ _ _ _ _ _ _ _ _ _ _ _ _ _ => v) t)
    (fun d _ ih t => Tr.rec none (fun _ c0 c1 c2 c3 c4 c5 c6 c7 _ _ _ _ _ _ _ _ => ih (pick8 d c0 c1 c2 c3 c4 c5 c6 c7)) t) p t
noncomputable def Tr.setW (x : α) (p : List D8) : Tr α → Tr α :=
  List.rec (motive := fun _ => Tr α → Tr α)
    (fun t => Tr.rec (.node (some x) .nil .nil .nil .nil .nil .nil .nil .nil) (fun _ c0 c1 c2 c3 c4 c5 c6 c7 _ _ _ _ _ _ _ _ => .node (some x) c0 c1 c2 c3 c4 c5 c6 c7) t)
    (fun d _ ih t => Tr.rec (turn8 d ih none .nil .nil .nil .nil .nil .nil .nil .nil) (fun v c0 c1 c2 c3 c4 c5 c6 c7 _ _ _ _ _ _ _ _ => turn8 d ih v c0 c1 c2 c3 c4 c5 c6 c7) t) p
end
theorem Tr.nilW {α : Type} : ∀ p : List D8, (Tr.nil : Tr α).getW p = none
  | [] => rfl
  | _ :: _ => rfl
theorem Tr.get_set {α : Type} (x : α) : ∀ (p q : List D8) (t : Tr α), q ≠ p → (Tr.setW x p t).getW q = t.getW q
  | [], q, t, h => by
    cases q with
    | nil => exact absurd rfl h
    | cons d q =>
      cases t with
      | nil => cases d <;> exact Tr.nilW q
      | node v c0 c1 c2 c3 c4 c5 c6 c7 => cases d <;> rfl
  | d :: p, q, t, h => by
    cases q with
    | nil => cases t <;> cases d <;> rfl
    | cons d' q =>
      have ih := fun t hq => Tr.get_set x p q t hq
      cases t with
      | nil =>
        cases d <;> cases d' <;> first | exact Tr.nilW q | exact (ih .nil (fun e => h (by rw [e]))).trans (Tr.nilW q)
      | node v c0 c1 c2 c3 c4 c5 c6 c7 =>
        cases d <;> cases d' <;> first | rfl | exact ih _ (fun e => h (by rw [e]))
theorem Tr.get_same {α : Type} (x : α) : ∀ (p : List D8) (t : Tr α), (Tr.setW x p t).getW p = some x
  | [], t => by cases t <;> rfl
  | d :: p, t => by
    have ih := fun t => Tr.get_same x p t
    cases t with
    | nil => cases d <;> exact ih .nil
    | node v c0 c1 c2 c3 c4 c5 c6 c7 => cases d <;> exact ih _
/-- By numbers below 8 ^ 12. -/
noncomputable def Tr.get {α : Type} (t : Tr α) (i : Nat) : Option α := t.getW (way 12 i)
noncomputable def Tr.put {α : Type} (t : Tr α) (i : Nat) (x : α) : Tr α := Tr.setW x (way 12 i) t
theorem Tr.get_put {α : Type} (t : Tr α) {i : Nat} (x : α) {j : Nat} (hi : i < 1000000000) (hj : j < 1000000000) : (t.put i x).get j = if j = i then some x else t.get j := by
  have h8 : (8 : Nat) ^ 12 = 68719476736 := by decide
  by_cases h : j = i
  · subst h; rw [if_pos rfl]; exact Tr.get_same x _ t
  · rw [if_neg h]
    exact Tr.get_set x _ _ t fun e => h (way_inj 12 j i (by omega) (by omega) e)
theorem Tr.get_nil {α : Type} (j : Nat) : (Tr.nil : Tr α).get j = none := Tr.nilW _
end Go.Proofs.YtcanicgpkbhhdaaGreatDoor.Rn

namespace Go.Proofs.YtcanicgpkbhhdaaGreatDoor.Rn
open Go Go.Proofs.YtcanicgpkbhhdaaGreatDoor.Sh
set_option linter.unusedVariables false
set_option linter.unusedSimpArgs false
/-! ### What is not known, by its name -/
inductive Sx where
  | var (i : Nat)
  | lit (n : Int)
  | len (i : Nat)
  | bin (op : BinOp) (k : IntKind) (a b : Sx)
  | cvt (k : IntKind) (a : Sx)
  | byt (li z : Nat) (off : Sx) (j : Nat)
  | rest (li : Nat) (off : Sx) (n : Nat)
inductive Bx where
  | var (i : Nat)
  | lit (b : Bool)
  | cmp (op : BinOp) (a b : Sx)
  | not (a : Bx)
  | and (a b : Bx)
  | b8 (a b : Sx)
/-- What the names stand for; where the run's blocks lie; how much room a row has. -/
structure Cx where
  ρ : Nat → Nat
  ω : Nat → Nat
  κ : Nat → Nat
  ints : Nat → Int
  bools : Nat → Bool
  lists : Nat → List UInt8
  sv : Nat → Option Addr × Nat × Nat
  le : Nat → Env
  lp : Nat → Loop
def arithI (op : BinOp) (k : IntKind) (x y : Int) : Int :=
  match op with
  | .add => k.wrap (x + y)
  | .sub => k.wrap (x - y)
  | .mul => k.wrap (x * y)
  | .quo => k.wrap (x.tdiv y)
  | .rem => x.tmod y
  | .and => k.wrap (BitVec.ofInt k.bits x &&& BitVec.ofInt k.bits y).toNat
  | .or => k.wrap (BitVec.ofInt k.bits x ||| BitVec.ofInt k.bits y).toNat
  | .xor => k.wrap (BitVec.ofInt k.bits x ^^^ BitVec.ofInt k.bits y).toNat
  | .andNot => k.wrap (BitVec.ofInt k.bits x &&& ~~~(BitVec.ofInt k.bits y)).toNat
  | .shl => k.wrap (x * 2 ^ min y.toNat k.bits)
  | .shr => x.fdiv (2 ^ min y.toNat k.bits)
  | _ => 0
def cmpI (op : BinOp) (x y : Int) : Bool :=
  match op with
  | .eql => x == y
  | .neq => x != y
  | .lss => decide (x < y)
  | .leq => decide (x ≤ y)
  | .gtr => decide (x > y)
  | .geq => decide (x ≥ y)
  | _ => false
def Sx.den (c : Cx) : Sx → Int
  | .var i => c.ints i
  | .lit n => n
  | .len i => ((c.lists i).length : Int)
  | .bin op k a b => arithI op k (a.den c) (b.den c)
  | .cvt k a => k.wrap (a.den c)
  | .byt li z off j => (((c.lists li).getD (z * (off.den c).toNat + j) 0).toNat : Int)
  | .rest li off n => (min n ((c.lists li).length - (off.den c).toNat) : Nat)
def Bx.den (c : Cx) : Bx → Bool
  | .var i => c.bools i
  | .lit b => b
  | .cmp op a b => cmpI op (a.den c) (b.den c)
  | .not a => !(a.den c)
  | .and a b => a.den c && b.den c
  | .b8 a b => UInt8.ofNat (a.den c).toNat == UInt8.ofNat (b.den c).toNat
/-! ### Values -/
inductive V where
  | bool (b : Bool)
  | sbool (b : Bx)
  | int (k : IntKind) (n : Int)
  | sint (k : IntKind) (s : Sx)
  | str (s : List UInt8)
  | ystr (l : List Sx)
  | nilp
  | ptr (b off : Nat)
  | gptr (g off : Nat)
  | nils
  | sl (b off len cap : Nat)
  | slr (b off low len : Nat)
  | slo (b : Nat)
  | sle (b off low len z : Nat)
  | pe (b z : Nat) (off : Sx) (j : Nat)
  | se (b z : Nat) (off : Sx) (j n : Nat)
  | sv (b : Nat) (off : Sx)
  | nilm
  | map (b : Nat)
  | nilf
  | fn (f : FuncId) (first cap : List V)
  | yld (l : Nat)
  | nili
  | iface (t : TypeId) (v : V)
  | agg (cs : List V)
  | tup (vs : List V)
/-- A place within an element of a row that is only looked at. -/
def elA (c : Cx) (b z : Nat) (off : Sx) (j : Nat) : Option Addr := (c.sv b).1.map fun a => a.add (z * (off.den c).toNat + j)
mutual
def V.den (c : Cx) : V → Value
  | .bool b => .bool b
  | .sbool b => .bool (b.den c)
  | .int k n => .int k n
  | .sint k s => .int k (s.den c)
  | .str s => .string ⟨s.toArray⟩
  | .ystr l => .string ⟨(l.map fun s => UInt8.ofNat (s.den c).toNat).toArray⟩
  | .nilp => .pointer none
  | .ptr b off => .pointer (some ⟨c.ρ b, c.ω b + off, none⟩)
  | .gptr g off => .pointer (some ⟨g, off, none⟩)
  | .nils => .slice none 0 0
  | .sl b off len cap => .slice (some ⟨c.ρ b, c.ω b + off, none⟩) len cap
  | .slr b off low len => .slice (some ⟨c.ρ b, c.ω b + off, none⟩) len (c.κ b - low)
  | .slo b => .slice (c.sv b).1 (c.sv b).2.1 (c.sv b).2.2
  | .sle b off low len z => .slice (some ⟨c.ρ b, if c.κ b - low = len then c.ω b + off else c.ω b + off + len * z, none⟩) 0 (c.κ b - low - len)
  | .pe b z off j => .pointer (elA c b z off j)
  | .se b z off j n => .slice (elA c b z off j) n n
  | .sv b off => .slice (if (c.sv b).2.2 - (off.den c).toNat = 0 then (c.sv b).1 else elA c b 1 off 0) ((c.sv b).2.1 - (off.den c).toNat) ((c.sv b).2.2 - (off.den c).toNat)
  | .nilm => .map none
  | .map b => .map (some (c.ρ b))
  | .nilf => .nilFunc
  | .fn f first cap => .func (.func f) (V.denL c first).toArray (V.denL c cap).toArray
  | .yld l => .func (.yield (c.ρ l)) #[] #[]
  | .nili => .nilIface
  | .iface t v => .iface t (v.den c)
  | .agg cs => .agg (V.denL c cs).toArray
  | .tup vs => .tuple (V.denL c vs).toArray
def V.denL (c : Cx) : List V → List Value
  | [] => []
  | v :: l => v.den c :: V.denL c l
end
abbrev V.und : V := .tup []
theorem und_den (c : Cx) : V.und.den c = undef := by simp [V.den, V.denL, undef]
theorem denL_map (c : Cx) : ∀ l : List V, V.denL c l = l.map (V.den c)
  | [] => rfl
  | v :: l => by rw [V.denL, denL_map c l]; rfl
/-! ### Values that name no block beyond a number -/
mutual
def V.lt (n : Nat) : V → Prop
  | .ptr b _ | .sl b _ _ _ | .slr b _ _ _ | .slo b | .sle b _ _ _ _ | .pe b _ _ _ | .se b _ _ _ _ | .sv b _ | .map b | .yld b => b < n
  | .fn _ first cap => V.ltL n first ∧ V.ltL n cap
  | .iface _ v => v.lt n
  | .agg cs => V.ltL n cs
  | .tup vs => V.ltL n vs
  | _ => True
def V.ltL (n : Nat) : List V → Prop
  | [] => True
  | v :: l => v.lt n ∧ V.ltL n l
end
theorem ltL_iff {n : Nat} : ∀ {l : List V}, V.ltL n l ↔ ∀ v ∈ l, v.lt n
  | [] => by simp [V.ltL]
  | v :: l => by rw [V.ltL, ltL_iff]; simp
/-- They agree on the blocks below a number, and on all that was given. -/
structure Agr (n : Nat) (c c' : Cx) : Prop where
  ρ : ∀ b, b < n → c'.ρ b = c.ρ b
  ω : ∀ b, b < n → c'.ω b = c.ω b
  κ : ∀ b, b < n → c'.κ b = c.κ b
  ints : c'.ints = c.ints
  bools : c'.bools = c.bools
  lists : c'.lists = c.lists
  sv : ∀ b, b < n → c'.sv b = c.sv b
  le : ∀ b, b < n → c'.le b = c.le b
  lp : ∀ b, b < n → c'.lp b = c.lp b
theorem Agr.refl (n : Nat) (c : Cx) : Agr n c c := ⟨fun _ _ => rfl, fun _ _ => rfl, fun _ _ => rfl, rfl, rfl, rfl, fun _ _ => rfl, fun _ _ => rfl, fun _ _ => rfl⟩
theorem Agr.trans {n m : Nat} {a b c : Cx} (h : Agr n a b) (k : Agr m b c) (hm : n ≤ m) : Agr n a c :=
  ⟨fun i hi => (k.ρ i (by omega)).trans (h.ρ i hi), fun i hi => (k.ω i (by omega)).trans (h.ω i hi), fun i hi => (k.κ i (by omega)).trans (h.κ i hi), k.ints.trans h.ints, k.bools.trans h.bools, k.lists.trans h.lists, fun i hi => (k.sv i (by omega)).trans (h.sv i hi), fun i hi => (k.le i (by omega)).trans (h.le i hi), fun i hi => (k.lp i (by omega)).trans (h.lp i hi)⟩
theorem Agr.cut {n m : Nat} {a b : Cx} (h : Agr n a b) (hm : m ≤ n) : Agr m a b :=
  ⟨fun i hi => h.ρ i (by omega), fun i hi => h.ω i (by omega), fun i hi => h.κ i (by omega), h.ints, h.bools, h.lists, fun i hi => h.sv i (by omega), fun i hi => h.le i (by omega), fun i hi => h.lp i (by omega)⟩
theorem Sx.agr {n : Nat} {c c' : Cx} (h : Agr n c c') : ∀ s : Sx, s.den c' = s.den c
  | .var i => by simp [Sx.den, h.ints]
  | .lit n => rfl
  | .len i => by simp [Sx.den, h.lists]
  | .bin op k a b => by simp only [Sx.den, Sx.agr h a, Sx.agr h b]
  | .cvt k a => by simp only [Sx.den, Sx.agr h a]
  | .byt li z off j => by simp only [Sx.den, Sx.agr h off, h.lists]
  | .rest li off n => by simp only [Sx.den, Sx.agr h off, h.lists]
theorem Bx.agr {n : Nat} {c c' : Cx} (h : Agr n c c') : ∀ s : Bx, s.den c' = s.den c
  | .var i => by simp [Bx.den, h.bools]
  | .lit n => rfl
  | .cmp op a b => by simp only [Bx.den, Sx.agr h a, Sx.agr h b]
  | .not a => by simp only [Bx.den, Bx.agr h a]
  | .and a b => by simp only [Bx.den, Bx.agr h a, Bx.agr h b]
  | .b8 a b => by simp only [Bx.den, Sx.agr h a, Sx.agr h b]
theorem elA_agr {n : Nat} {c c' : Cx} (h : Agr n c c') {b z : Nat} {off : Sx} {j : Nat} (hb : b < n) : elA c' b z off j = elA c b z off j := by simp only [elA, h.sv b hb, Sx.agr h]
mutual
theorem V.agr {n : Nat} {c c' : Cx} (h : Agr n c c') : ∀ v : V, v.lt n → v.den c' = v.den c
  | .bool b, _ => rfl
  | .sbool b, _ => by simp only [V.den, Bx.agr h]
  | .int k n, _ => rfl
  | .sint k s, _ => by simp only [V.den, Sx.agr h]
  | .str s, _ => rfl
  | .ystr l, _ => by simp only [V.den, Sx.agr h]
  | .nilp, _ => rfl
  | .ptr b off, hb => by simp only [V.den, h.ρ b hb, h.ω b hb]
  | .gptr g off, _ => rfl
  | .nils, _ => rfl
  | .sl b off len cap, hb => by simp only [V.den, h.ρ b hb, h.ω b hb]
  | .slr b off low len, hb => by simp only [V.den, h.ρ b hb, h.ω b hb, h.κ b hb]
  | .slo b, hb => by simp only [V.den, h.sv b hb]
  | .sle b off low len z, hb => by simp only [V.den, h.ρ b hb, h.ω b hb, h.κ b hb]
  | .pe b z off j, hb => by simp only [V.den, elA_agr h hb]
  | .se b z off j k, hb => by simp only [V.den, elA_agr h hb]
  | .sv b off, hb => by simp only [V.den, elA_agr h hb, h.sv b hb, Sx.agr h]
  | .nilm, _ => rfl
  | .map b, hb => by simp only [V.den, h.ρ b hb]
  | .nilf, _ => rfl
  | .fn f first cap, hb => by simp only [V.den, V.agrL h first hb.1, V.agrL h cap hb.2]
  | .yld l, hb => by simp only [V.den, h.ρ l hb]
  | .nili, _ => rfl
  | .iface t v, hb => by simp only [V.den, V.agr h v hb]
  | .agg cs, hb => by simp only [V.den, V.agrL h cs hb]
  | .tup vs, hb => by simp only [V.den, V.agrL h vs hb]
theorem V.agrL {n : Nat} {c c' : Cx} (h : Agr n c c') : ∀ l : List V, V.ltL n l → V.denL c' l = V.denL c l
  | [], _ => rfl
  | v :: l, hb => by simp only [V.denL, V.agr h v hb.1, V.agrL h l hb.2]
end
mutual
theorem V.lt_mono {n m : Nat} (hm : n ≤ m) : ∀ v : V, v.lt n → v.lt m
  | .bool b, _ => trivial
  | .sbool b, _ => trivial
  | .int k n, _ => trivial
  | .sint k s, _ => trivial
  | .str s, _ => trivial
  | .ystr l, _ => trivial
  | .nilp, _ => trivial
  | .ptr b off, hb => Nat.lt_of_lt_of_le hb hm
  | .gptr g off, _ => trivial
  | .nils, _ => trivial
  | .sl b off len cap, hb => Nat.lt_of_lt_of_le hb hm
  | .slr b off low len, hb => Nat.lt_of_lt_of_le hb hm
  | .slo b, hb => Nat.lt_of_lt_of_le hb hm
  | .sle b off low len z, hb => Nat.lt_of_lt_of_le hb hm
  | .pe b z off j, hb => Nat.lt_of_lt_of_le hb hm
  | .se b z off j k, hb => Nat.lt_of_lt_of_le hb hm
  | .sv b off, hb => Nat.lt_of_lt_of_le hb hm
  | .nilm, _ => trivial
  | .map b, hb => Nat.lt_of_lt_of_le hb hm
  | .nilf, _ => trivial
  | .fn f first cap, hb => ⟨V.ltL_mono hm first hb.1, V.ltL_mono hm cap hb.2⟩
  | .yld l, hb => Nat.lt_of_lt_of_le hb hm
  | .nili, _ => trivial
  | .iface t v, hb => V.lt_mono hm v hb
  | .agg cs, hb => V.ltL_mono hm cs hb
  | .tup vs, hb => V.ltL_mono hm vs hb
theorem V.ltL_mono {n m : Nat} (hm : n ≤ m) : ∀ l : List V, V.ltL n l → V.ltL m l
  | [], _ => trivial
  | v :: l, hb => ⟨V.lt_mono hm v hb.1, V.ltL_mono hm l hb.2⟩
end
end Go.Proofs.YtcanicgpkbhhdaaGreatDoor.Rn

namespace Go.Proofs.YtcanicgpkbhhdaaGreatDoor.Rn
open Go Go.Proofs.YtcanicgpkbhhdaaGreatDoor.Sh
set_option linter.unusedVariables false
set_option linter.unusedSimpArgs false
/-! ### Terms compared by their letters -/
noncomputable def opB : BinOp → Nat
  | .add => 0 | .sub => 1 | .mul => 2 | .quo => 3 | .rem => 4 | .and => 5 | .or => 6 | .xor => 7 | .andNot => 8 | .shl => 9 | .shr => 10
  | .eql => 11 | .neq => 12 | .lss => 13 | .leq => 14 | .gtr => 15 | .geq => 16
noncomputable def kB : IntKind → Nat
  | .i8 => 0 | .i16 => 1 | .i32 => 2 | .i64 => 3 | .u8 => 4 | .u16 => 5 | .u32 => 6 | .u64 => 7
noncomputable def kq (k k' : IntKind) : Bool := Nat.beq (kB k) (kB k')
noncomputable def intB (a b : Int) : Bool := match a, b with
  | .ofNat m, .ofNat n => Nat.beq m n
  | .negSucc m, .negSucc n => Nat.beq m n
  | _, _ => false
noncomputable def Sx.beq : Sx → Sx → Bool
  | .var i, .var j => Nat.beq i j
  | .lit a, .lit b => intB a b
  | .len i, .len j => Nat.beq i j
  | .bin o k a b, .bin o' k' a' b' => Nat.beq (opB o) (opB o') && (Nat.beq (kB k) (kB k') && (a.beq a' && b.beq b'))
  | .cvt k a, .cvt k' a' => Nat.beq (kB k) (kB k') && a.beq a'
  | .byt l z a j, .byt l' z' a' j' => Nat.beq l l' && (Nat.beq z z' && (Nat.beq j j' && a.beq a'))
  | .rest l a n, .rest l' a' n' => Nat.beq l l' && (Nat.beq n n' && a.beq a')
  | _, _ => false
noncomputable def Bx.beq : Bx → Bx → Bool
  | .var i, .var j => Nat.beq i j
  | .lit a, .lit b => match a, b with | true, true => true | false, false => true | _, _ => false
  | .cmp o a b, .cmp o' a' b' => Nat.beq (opB o) (opB o') && (a.beq a' && b.beq b')
  | .not a, .not b => a.beq b
  | .and a b, .and a' b' => a.beq a' && b.beq b'
  | .b8 a b, .b8 a' b' => a.beq a' && b.beq b'
  | _, _ => false
/-! ### Memory -/
inductive O where
  | cells (n : Nat) (t : TypeId) (d : V) (tr : Tr V)
  | row (fam : Nat) (t : TypeId) (z : Nat) (tr : Tr V)
  | opq (small : Bool) (z lc li : Nat) (fs : List (Sx × Bool))
  | map (es : List (V × V))
  | mark
  | gone
  | loop (N : Nat) (E : Tr V) (ps : List Tmp) (as_ body : Code) (st : Option (Option Code))
structure Hs where
  next : Nat
  tr : Tr O
  fam : Tr (List (Nat × Nat))
  exp : List (Bx × Bool)
noncomputable def Hs.get (H : Hs) (b : Nat) : Option O := H.tr.get b
noncomputable def Hs.put (H : Hs) (b : Nat) (o : O) : Hs := ⟨H.next, H.tr.put b o, H.fam, H.exp⟩
noncomputable def Hs.new (H : Hs) (o : O) : Hs := ⟨H.next + 1, H.tr.put H.next o, H.fam, H.exp⟩
noncomputable def look : List (Nat × Nat) → Nat → Nat
  | [], _ => 0
  | (u, n) :: l, b => match Nat.beq u b with | true => n | false => look l b
noncomputable def Hs.val (H : Hs) (f b : Nat) : Nat := match H.fam.get f with | some l => look l b | none => 0
noncomputable def cellOf (d : V) (tr : Tr V) (i : Nat) : V := match tr.get i with | some v => v | none => d
noncomputable def rdL (f : Nat → Option V) : Nat → Nat → Option (List V)
  | 0, _ => some []
  | n + 1, i => match f i with
    | some v => match rdL f n (i + 1) with
      | some l => some (v :: l)
      | none => none
    | none => none
noncomputable def wrL : List V → Nat → Tr V → Tr V
  | [], _, t => t
  | v :: l, i, t => wrL l (i + 1) (t.put i v)
noncomputable def Hs.cells (H : Hs) (b off n : Nat) : Option (List V) :=
  match H.get b with
  | some (.cells m _ d tr) => match Nat.ble (off + n) m with
    | true => rdL (fun i => some (cellOf d tr i)) n off
    | false => none
  | some (.row f _ _ tr) => match Nat.ble (off + n) (H.val f b) with
    | true => rdL (fun i => tr.get i) n off
    | false => none
  | _ => none
noncomputable def cutL (b m : Nat) : List (Nat × Nat) → List (Nat × Nat)
  | [] => []
  | (u, n) :: l => (match Nat.beq u b with | true => (u, n) | false => (u, Nat.min n m)) :: cutL b m l
noncomputable def famOf (H : Hs) (f : Nat) : List (Nat × Nat) := match H.fam.get f with | some l => l | none => []
noncomputable def Hs.write (H : Hs) (b off : Nat) (vs : List V) : Option Hs :=
  match H.get b with
  | some (.cells m t d tr) => match Nat.ble (off + vs.length) m with
    | true => some (H.put b (.cells m t d (wrL vs off tr)))
    | false => none
  | some (.row f t z tr) => match Nat.ble (off + vs.length) (H.val f b) with
    | true => some ⟨H.next, H.tr.put b (.row f t z (wrL vs off tr)), H.fam.put f (cutL b off (famOf H f)), H.exp⟩
    | false => none
  | _ => none
/-- A new row, of a family of its own. -/
noncomputable def Hs.newRow (H : Hs) (t z n : Nat) (vs : List V) : Hs := ⟨H.next + 1, H.tr.put H.next (.row H.next t z (wrL vs 0 .nil)), H.fam.put H.next [(H.next, n)], H.exp⟩
/-- What grew out of a row. -/
noncomputable def Hs.growR (H : Hs) (f t z n : Nat) (tr : Tr V) (rest : List (Nat × Nat)) : Hs := ⟨H.next + 1, H.tr.put H.next (.row f t z tr), H.fam.put f ((H.next, n) :: rest), H.exp⟩
noncomputable def Hs.grow (H : Hs) (f t z m n : Nat) (tr : Tr V) : Hs := H.growR f t z n tr ((cutL H.next m (famOf H f)).take 2)
/-! ### Values -/
noncomputable def ofCell : Value → Option V
  | .bool b => some (.bool b)
  | .int k n => some (.int k n)
  | .string s => some (.str s.data.toList)
  | .pointer none => some .nilp
  | .slice none 0 0 => some .nils
  | .map none => some .nilm
  | .nilFunc => some .nilf
  | .nilIface => some .nili
  | _ => none
noncomputable def ofCells : List Value → Option (List V)
  | [] => some []
  | v :: l => match ofCell v with
    | some x => match ofCells l with
      | some r => some (x :: r)
      | none => none
    | none => none
noncomputable def V.of1 : Value → Option V
  | .agg cs => match ofCells cs.toList with | some l => some (.agg l) | none => none
  | v => ofCell v
noncomputable def ofVals : List Value → Option (List V)
  | [] => some []
  | v :: l => match V.of1 v with
    | some x => match ofVals l with
      | some r => some (x :: r)
      | none => none
    | none => none
noncomputable def V.of : Value → Option V
  | .tuple vs => match ofVals vs.toList with | some l => some (.tup l) | none => none
  | v => V.of1 v
noncomputable def V.cells : V → List V
  | .agg cs => cs
  | v => [v]
noncomputable def V.one : V → Bool
  | .agg _ => false
  | .tup _ => false
  | _ => true
noncomputable def sxOf : V → Option (IntKind × Sx)
  | .int k n => some (k, .lit n)
  | .sint k s => some (k, s)
  | _ => none
noncomputable def ckB (c : CK) (v : V) : Bool :=
  match c with
  | .i k => match v with | .int k' _ => kq k k' | .sint k' _ => kq k k' | _ => false
  | .b => match v with | .bool _ => true | .sbool _ => true | _ => false
  | .s => match v with | .str _ => true | .ystr _ => true | _ => false
  | .p => match v with | .nilp => true | .ptr _ _ => true | .gptr _ _ => true | .pe _ _ _ _ => true | _ => false
  | .sl => match v with | .nils => true | .sl _ _ _ _ => true | .slr _ _ _ _ => true | .slo _ => true | .sle _ _ _ _ _ => true | .se _ _ _ _ _ => true | .sv _ _ => true | _ => false
  | .m => match v with | .nilm => true | .map _ => true | _ => false
  | .any => true
noncomputable def ckL : List CK → List V → Bool
  | [], [] => true
  | c :: cs, v :: vs => ckB c v && ckL cs vs
  | _, _ => false
noncomputable def ck1 : V1 → V → Bool
  | .one c, v => ckB c v
  | .agg l, v => match v with | .agg cs => ckL l cs | _ => false
noncomputable def ckT : List V1 → List V → Bool
  | [], [] => true
  | c :: cs, v :: vs => ck1 c v && ckT cs vs
  | _, _ => false
noncomputable def ckS : VS → V → Bool
  | .v c, v => ck1 c v
  | .tup l, v => match v with | .tup vs => ckT l vs | _ => false
/-! ### What is asked -/
noncomputable def askB (H : Hs) (b : Bx) : Option (Bool × Hs) :=
  match b with
  | .lit b => some (b, H)
  | b => match H.exp with
    | (x, o) :: r => match x.beq b with
      | true => some (o, ⟨H.next, H.tr, H.fam, r⟩)
      | false => none
    | [] => none
noncomputable def bxOf : V → Option Bx
  | .bool b => some (.lit b)
  | .sbool b => some b
  | _ => none
noncomputable def boolV : Bx → V
  | .lit b => .bool b
  | b => .sbool b
noncomputable def notX : Bx → Bx
  | .lit true => .lit false
  | .lit false => .lit true
  | b => .not b
noncomputable def andX : Bx → Bx → Bx
  | .lit true, b => b
  | .lit false, _ => .lit false
  | a, .lit true => a
  | _, .lit false => .lit false
  | a, b => .and a b
noncomputable def b8X (a b : Sx) : Bx := match a.beq b with | true => .lit true | false => .b8 a b
noncomputable def eq8 : List Sx → List Sx → Bx
  | [], [] => .lit true
  | a :: l, b :: r => andX (b8X a b) (eq8 l r)
  | _, _ => .lit false
def lits (s : List UInt8) : List Sx := s.map fun b => .lit (.ofNat b.toNat)
noncomputable def eqX : V → V → Option Bx
  | .ystr a, .ystr b => some (eq8 a b)
  | .str a, .ystr b => some (eq8 (lits a) b)
  | .ystr a, .str b => some (eq8 a (lits b))
  | .bool a, .bool b => some (.lit (match a, b with | true, true => true | false, false => true | _, _ => false))
  | .int k a, .int k' b => match kq k k' with | true => some (.lit (intB a b)) | false => none
  | .str a, .str b => some (.lit (a == b))
  | .sint k a, .sint k' b => match kq k k' with | true => (match a.beq b with | true => some (.lit true) | false => some (.cmp .eql a b)) | false => none
  | .sint k a, .int k' b => match kq k k' with | true => some (.cmp .eql a (.lit b)) | false => none
  | .int k a, .sint k' b => match kq k k' with | true => some (.cmp .eql (.lit a) b) | false => none
  | _, _ => none
noncomputable def eqXL : List V → List V → Option Bx
  | [], [] => some (.lit true)
  | a :: l, b :: r => match eqX a b with
    | some x => match eqXL l r with
      | some y => some (andX x y)
      | none => none
    | none => none
  | _, _ => none
/-! ### One and the same value -/
mutual
noncomputable def V.beq : V → V → Bool
  | .bool a, .bool b => match a, b with | true, true => true | false, false => true | _, _ => false
  | .sbool a, .sbool b => a.beq b
  | .int k a, .int k' b => kq k k' && intB a b
  | .sint k a, .sint k' b => kq k k' && a.beq b
  | .str a, .str b => a == b
  | .nilp, .nilp => true
  | .ptr b o, .ptr b' o' => Nat.beq b b' && Nat.beq o o'
  | .gptr b o, .gptr b' o' => Nat.beq b b' && Nat.beq o o'
  | .nils, .nils => true
  | .sl b o l c, .sl b' o' l' c' => Nat.beq b b' && (Nat.beq o o' && (Nat.beq l l' && Nat.beq c c'))
  | .slr b o l c, .slr b' o' l' c' => Nat.beq b b' && (Nat.beq o o' && (Nat.beq l l' && Nat.beq c c'))
  | .slo b, .slo b' => Nat.beq b b'
  | .pe b z o j, .pe b' z' o' j' => Nat.beq b b' && (Nat.beq z z' && (Nat.beq j j' && o.beq o'))
  | .se b z o j n, .se b' z' o' j' n' => Nat.beq b b' && (Nat.beq z z' && (Nat.beq j j' && (Nat.beq n n' && o.beq o')))
  | .sv b o, .sv b' o' => Nat.beq b b' && o.beq o'
  | .nilm, .nilm => true
  | .map b, .map b' => Nat.beq b b'
  | .nilf, .nilf => true
  | .fn f a c, .fn f' a' c' => Nat.beq f f' && (V.beqL a a' && V.beqL c c')
  | .yld l, .yld l' => Nat.beq l l'
  | .nili, .nili => true
  | .iface t v, .iface t' v' => Nat.beq t t' && V.beq v v'
  | .agg l, .agg l' => V.beqL l l'
  | .tup l, .tup l' => V.beqL l l'
  | _, _ => false
noncomputable def V.beqL : List V → List V → Bool
  | [], [] => true
  | v :: l, v' :: l' => V.beq v v' && V.beqL l l'
  | _, _ => false
end
/-! ### The program's tables, found by number -/
noncomputable def listT {α : Type} (l : List α) : Nat → Tr α → Tr α :=
  List.rec (motive := fun _ => Nat → Tr α → Tr α) (fun _ t => t) (fun x _ ih i t => ih (Nat.succ i) (t.put i x)) l
noncomputable def tabT (P : Program) : Tr TypeInfo := listT P.types.toList 0 .nil
noncomputable def tabF (P : Program) : Tr Func := listT P.funcs.toList 0 .nil
noncomputable def infoV (P : Program) (t : TypeId) : Option TypeInfo := match Nat.ble t 999999 with | true => (tabT P).get t | false => none
noncomputable def funcV (P : Program) (f : FuncId) : Option Func := match Nat.ble f 999999 with | true => (tabF P).get f | false => none
noncomputable def undV (P : Program) (t : TypeId) : Option TypeDesc := match infoV P t with
  | some i => match i.desc with
    | .named _ u => match infoV P u with
      | some j => some j.desc
      | none => none
    | d => some d
  | none => none
noncomputable def sizeV (P : Program) (t : TypeId) : Nat := match infoV P t with | some i => i.size | none => 0
noncomputable def hasT (P : Program) (t : TypeId) : Bool := match infoV P t with | some _ => true | none => false
noncomputable def ckOfV (P : Program) (t : TypeId) : Option CK :=
  match undV P t with
  | some d => some (match d with
    | .int k => .i k
    | .bool => .b
    | .string => .s
    | .pointer _ => .p
    | .slice _ => .sl
    | .map _ _ => .m
    | _ => .any)
  | none => none
noncomputable def catO {α β : Type} (f : α → Option (List β)) : List α → Option (List β)
  | [] => some []
  | x :: l => match f x with
    | some a => match catO f l with
      | some b => some (a ++ b)
      | none => none
    | none => none
noncomputable def cksOfV (P : Program) : Nat → TypeId → Option (List CK)
  | 0, _ => some []
  | d + 1, t =>
    match undV P t with
    | some (.struct fs) => catO (fun f : Field => cksOfV P d f.type) fs.toList
    | some (.array n e) => match cksOfV P d e with | some l => some (rep l n) | none => none
    | _ => match ckOfV P t with | some k => some [k] | none => none
noncomputable def isAggV (P : Program) (t : TypeId) : Bool := match undV P t with
  | some (.struct _) | some (.array _ _) => true
  | _ => false
noncomputable def v1OfV (P : Program) (t : TypeId) : Option V1 :=
  match undV P t with
  | some (.struct _) | some (.array _ _) => match cksOfV P 20 t with | some l => some (.agg l) | none => none
  | _ => match ckOfV P t with | some k => some (.one k) | none => none
noncomputable def mapO {α β : Type} (f : α → Option β) : List α → Option (List β)
  | [] => some []
  | x :: l => match f x with
    | some a => match mapO f l with
      | some b => some (a :: b)
      | none => none
    | none => none
noncomputable def vsOfV (P : Program) (t : TypeId) : Option VS :=
  match undV P t with
  | some (.tuple ts) => match mapO (v1OfV P) ts.toList with | some l => some (.tup l) | none => none
  | _ => match v1OfV P t with | some k => some (.v k) | none => none
/-! ### Operations -/
inductive Rs where
  | ok (v : V) (H : Hs)
  | pan (v : V) (H : Hs)
  | no
noncomputable def tmpV (t N : Nat) (E : Tr V) : Option V :=
  Bool.rec (some V.und) (Option.rec (some V.und) (fun v => some v) (E.get t)) (Nat.ble (Nat.succ t) N)
noncomputable def rdV (N : Nat) (E : Tr V) (x : Operand) : Option V :=
  Operand.rec (motive := fun _ => Nat → Tr V → Option V) (fun t N E => tmpV t N E) (fun v _ _ => V.of v) (fun g _ _ => some (.gptr g 0)) (fun f _ _ => some (.fn f [] [])) x N E
noncomputable def rdVs (N : Nat) (E : Tr V) : List Operand → Option (List V)
  | [] => some []
  | x :: l => match rdV N E x with
    | some v => match rdVs N E l with
      | some r => some (v :: r)
      | none => none
    | none => none
noncomputable def natOf : V → Option Nat
  | .int _ (.ofNat n) => some n
  | _ => none
noncomputable def ldV (P : Program) (H : Hs) (b off : Nat) (t : TypeId) : Option V :=
  match undV P t with
  | some (.struct _) | some (.array _ _) => match cksOfV P 20 t with
    | some ks => match Nat.beq ks.length (sizeV P t) with
      | true => match H.cells b off (sizeV P t) with
        | some l => match ckL ks l with
          | true => some (.agg l)
          | false => none
        | none => none
      | false => none
    | none => none
  | some _ => match ckOfV P t with
    | some k => match H.cells b off 1 with
      | some [v] => match ckB k v with
        | true => some v
        | false => none
      | _ => none
    | none => none
  | none => none
/-- What is known of places in a row that is only looked at: they are within it (true), or at its end at most. -/
noncomputable def factB : List (Sx × Bool) → Sx → Bool → Bool
  | [], _, _ => false
  | (s, st) :: l, x, m => (s.beq x && (st || !m)) || factB l x m
noncomputable def atL (li z : Nat) (off : Sx) : Nat → Nat → List V
  | _, 0 => []
  | j, n + 1 => .sint .u8 (.byt li z off j) :: atL li z off (j + 1) n
/-- The row that an element's place lies in, if it is known to be there. -/
noncomputable def elOK (H : Hs) (b z : Nat) (off : Sx) : Option Nat := match H.get b with
  | some (.opq _ z' _ li fs) => (match Nat.beq z' z && factB fs off true with | true => some li | false => none)
  | _ => none
noncomputable def ldE (P : Program) (H : Hs) (b z : Nat) (off : Sx) (j : Nat) (t : TypeId) : Option V :=
  match elOK H b z off with
  | some li => match undV P t with
    | some (.array _ _) => match cksOfV P 20 t with
      | some ks => match Nat.beq ks.length (sizeV P t) && (Nat.ble (j + sizeV P t) z && ckL ks (atL li z off j (sizeV P t))) with
        | true => some (.agg (atL li z off j (sizeV P t)))
        | false => none
      | none => none
    | some (.int k) => match kq k .u8 && Nat.ble (j + 1) z with
      | true => some (.sint .u8 (.byt li z off j))
      | false => none
    | _ => none
  | none => none
noncomputable def onesV : List V → Bool
  | [] => true
  | v :: l => v.one && onesV l
noncomputable def stV (P : Program) (H : Hs) (b off : Nat) (t : TypeId) (v : V) : Option Hs :=
  match infoV P t with
  | some i => match Nat.beq v.cells.length i.size && onesV v.cells with
    | true => H.write b off v.cells
    | false => none
  | none => none
/-! Words laid out of bytes, and bytes out of words. -/
def opWr : BinOp → Bool
  | .add | .sub | .mul | .quo | .and | .or | .xor | .andNot | .shl => true
  | _ => false
/-- A mark that is a number of 64 bits, by its form. -/
noncomputable def in64 : Sx → Bool
  | .bin op k _ _ => kq k .u64 && opWr op
  | .cvt k _ => kq k .u64
  | _ => false
noncomputable def isB8 : Sx → Bool
  | .byt _ _ _ _ => true
  | .cvt k _ => kq k .u8
  | _ => false
/-- The byte that is laid at a place of a word. -/
noncomputable def laidB (s : Nat) : Sx → Option Sx
  | .bin op k (.cvt k2 x) (.lit (.ofNat t)) => (match Nat.beq (opB op) 9 && (kq k .u64 && (kq k2 .u64 && (Nat.beq t s && isB8 x))) with | true => some x | false => none)
  | _ => none
/-- A word's bytes, the lowest first. -/
noncomputable def unchain : Nat → Sx → Option (List Sx)
  | _, .lit (.ofNat n) => (match Nat.beq n 0 with | true => some [] | false => none)
  | s, .bin op k a b => (match Nat.beq (opB op) 6 && kq k .u64, laidB s b with
    | true, some x => (match unchain (s + 8) a with | some l => some (x :: l) | none => none)
    | _, _ => none)
  | _, _ => none
/-- Are these the bytes of one word? -/
noncomputable def oneOf (s : Nat) (w : Sx) : Sx → Bool
  | .cvt k (.bin op k2 v (.lit (.ofNat t))) => kq k .u8 && (Nat.beq (opB op) 10 && (kq k2 .u64 && (Nat.beq t s && v.beq w)))
  | _ => false
noncomputable def splitOf : Nat → List Sx → Sx → Bool
  | _, [], _ => true
  | s, x :: l, w => oneOf s w x && splitOf (s + 8) l w
noncomputable def wordOf (l : List Sx) : Option Sx := match l with
  | .cvt _ (.bin _ _ w _) :: _ => (match Nat.beq l.length 8 && (in64 w && splitOf 0 l w) with | true => some w | false => none)
  | _ => none
noncomputable def orS (k : IntKind) (a b : Sx) : Sx := match laidB 0 b with
  | some _ => (match unchain 0 (.bin .or k a b) with
    | some l => (match wordOf l with | some w => w | none => .bin .or k a b)
    | none => .bin .or k a b)
  | none => .bin .or k a b
noncomputable def bnS (op : BinOp) (k : IntKind) (a b : Sx) : Sx := match op with
  | .or => (match kq k .u64 with | true => orS k a b | false => .bin .or k a b)
  | op => .bin op k a b
noncomputable def nthS : List Sx → Nat → Sx
  | [], _ => .lit (.ofNat 0)
  | x :: _, 0 => x
  | _ :: l, n + 1 => nthS l n
noncomputable def cvtS (k : IntKind) (s : Sx) : Sx := match kq k .u8, s with
  | true, .bin op k2 w (.lit (.ofNat t)) => (match Nat.beq (opB op) 10 && (kq k2 .u64 && (Nat.beq (Nat.mod t 8) 0 && Nat.ble t 56)) with
    | true => (match unchain 0 w with
      | some l => (match Nat.ble l.length 8 with | true => nthS l (Nat.div t 8) | false => .cvt k s)
      | none => .cvt k s)
    | false => .cvt k s)
  | _, _ => .cvt k s
noncomputable def sintV (k : IntKind) (s : Sx) : V := match s with
  | .lit n => .int k n
  | s => .sint k s
noncomputable def arithV (op : BinOp) (k : IntKind) (x y : V) : Option V :=
  match x, y with
  | .int k1 a, .int k2 b => match kq k1 k2 with
    | true => some (.int k1 (arithI op k1 a b))
    | false => none
  | x, y => match sxOf x, sxOf y with
    | some (k1, a), some (k2, b) => match kq k1 k2 with
      | true => some (sintV k1 (bnS op k1 a b))
      | false => none
    | _, _ => none
noncomputable def cmpV (op : BinOp) (x y : V) : Option V :=
  match x, y with
  | .int k1 a, .int k2 b => match kq k1 k2 with
    | true => some (.bool (cmpI op a b))
    | false => none
  | x, y => match sxOf x, sxOf y with
    | some (k1, a), some (k2, b) => match kq k1 k2 with
      | true => some (.sbool (.cmp op a b))
      | false => none
    | _, _ => none
noncomputable def allX : List (Option Bx) → Option Bx
  | [] => some (.lit true)
  | x :: l => match x with
    | some x => match allX l with
      | some y => some (andX x y)
      | none => none
    | none => none
/-- Equality of what is made of numbers, by its type. -/
noncomputable def eqTV (P : Program) : Nat → TypeId → List V → List V → Option Bx
  | 0, _, _, _ => none
  | d + 1, t, xs, ys =>
    match undV P t with
    | some .bool => match xs, ys with
      | [.bool a], [.bool b] => eqX (.bool a) (.bool b)
      | _, _ => none
    | some (.int _) => match xs, ys with
      | [a], [b] => (match sxOf a, sxOf b with | some _, some _ => eqX a b | _, _ => none)
      | _, _ => none
    | some (.pointer _) => match xs, ys with
      | [.nilp], [.nilp] => some (.lit true)
      | [.ptr _ _], [.nilp] => some (.lit false)
      | [.nilp], [.ptr _ _] => some (.lit false)
      | _, _ => none
    | some (.array n e) => match hasT P e && (Nat.ble 1 n && (Nat.beq xs.length (n * sizeV P e) && Nat.beq ys.length (n * sizeV P e))) with
      | true => allX ((natsTo n 0).map fun i => eqTV P d e ((xs.drop (i * sizeV P e)).take (sizeV P e)) ((ys.drop (i * sizeV P e)).take (sizeV P e)))
      | false => none
    | some (.struct fs) => match P.stoodInHeld t || fs.toList.any fun f => f.name == "_" || !(hasT P f.type) with
      | true => none
      | false => allX (fs.toList.map fun f => eqTV P d f.type ((xs.drop f.offset).take (sizeV P f.type)) ((ys.drop f.offset).take (sizeV P f.type)))
    | _ => none
noncomputable def nilV (P : Program) (lit : Bool) (t : TypeId) (x y : V) : Option Bool :=
  match undV P t with
  | some (.pointer _) => (match x, y with
    | .nilp, .nilp => some true
    | .ptr _ _, .nilp => some false
    | .gptr _ _, .nilp => some false
    | _, _ => none)
  | some (.slice _) => (match x, y with
    | .nils, .nils => some true
    | .sl _ _ _ _, .nils => some false
    | .slr _ _ _ _, .nils => some false
    | .sle _ _ _ _ _, .nils => some false
    | _, _ => none)
  | some (.map _ _) => (match x, y with
    | .nilm, .nilm => some true
    | .map _, .nilm => some false
    | _, _ => none)
  | some (.interface _) => (match x, y with
    | .nili, .nili => (match lit with | true => some true | false => none)
    | .iface _ _, .nili => some false
    | _, _ => none)
  | some (.func _ _ _) => (match x, y with
    | .nilf, .nilf => some true
    | .fn _ _ _, .nilf => some false
    | _, _ => none)
  | _ => none
noncomputable def eqV (P : Program) (lit : Bool) (t : TypeId) (x y : V) : Option Bx :=
  match x with
  | .agg a => (match y with
    | .agg b => (match isAggV P t && !(P.eqGuardType P.depth t) with
      | true => eqTV P 20 t a b
      | false => none)
    | _ => none)
  | .bool _ => (match undV P t with | some .bool => eqX x y | _ => none)
  | .sbool _ => none
  | .str _ => eqX x y
  | .ystr _ => eqX x y
  | .int _ _ => eqX x y
  | .sint _ _ => eqX x y
  | _ => match nilV P lit t x y with
    | some b => some (.lit b)
    | none => none
noncomputable def ckO (c : Option VS) : Option V → Option V
  | some v => (match c with
    | some c => (match ckS c v with | true => some v | false => none)
    | none => none)
  | none => none
noncomputable def binV (P : Program) (lit : Bool) (op : BinOp) (t : TypeId) (x y : V) : Option V :=
  match op with
  | .add => (match x, y with
    | .str a, .str b => (match Nat.ble (a.length + b.length) 1000000 with | true => ckO (vsOfV P t) (some (.str (a ++ b))) | false => none)
    | _, _ => ckO (vsOfV P t) (arithV .add .i64 x y))
  | .sub => ckO (vsOfV P t) (arithV .sub .i64 x y)
  | .mul => ckO (vsOfV P t) (arithV .mul .i64 x y)
  | .and => ckO (vsOfV P t) (arithV .and .i64 x y)
  | .or => ckO (vsOfV P t) (arithV .or .i64 x y)
  | .xor => ckO (vsOfV P t) (arithV .xor .i64 x y)
  | .andNot => ckO (vsOfV P t) (arithV .andNot .i64 x y)
  | .quo => (match y with
    | .int _ n => (match intB n 0 with
      | true => none
      | false => ckO (vsOfV P t) (arithV .quo .i64 x y))
    | _ => none)
  | .rem => (match y with
    | .int _ n => (match intB n 0 with
      | true => none
      | false => ckO (vsOfV P t) (arithV .rem .i64 x y))
    | _ => none)
  | .shl => (match y with
    | .int _ (.ofNat n) => (match x with
      | .int k a => ckO (vsOfV P t) (some (.int k (arithI .shl k a (.ofNat n))))
      | .sint k a => ckO (vsOfV P t) (some (.sint k (.bin .shl k a (.lit (.ofNat n)))))
      | _ => none)
    | _ => none)
  | .shr => (match y with
    | .int _ (.ofNat n) => (match x with
      | .int k a => ckO (vsOfV P t) (some (.int k (arithI .shr k a (.ofNat n))))
      | .sint k a => ckO (vsOfV P t) (some (.sint k (.bin .shr k a (.lit (.ofNat n)))))
      | _ => none)
    | _ => none)
  | .eql => (match eqV P lit t x y with | some b => some (boolV b) | none => none)
  | .neq => (match eqV P lit t x y with | some b => some (boolV (notX b)) | none => none)
  | .lss => cmpV .lss x y
  | .leq => cmpV .leq x y
  | .gtr => cmpV .gtr x y
  | .geq => cmpV .geq x y
noncomputable def fillV (place : Nat → Option (Nat × Nat)) (cells : List V) : List (Nat × V) → Option (List V)
  | [] => some cells
  | (i, v) :: rest =>
    match place i with
    | none => none
    | some (off, size) => match Nat.beq v.cells.length size && Nat.ble (off + size) cells.length with
      | true => fillV place (cells.take off ++ (v.cells ++ cells.drop (off + size))) rest
      | false => none
noncomputable def rdParts (N : Nat) (E : Tr V) : List (Nat × Operand) → Option (List (Nat × V))
  | [] => some []
  | (i, x) :: l => match rdV N E x with
    | some v => match rdParts N E l with
      | some r => some ((i, v) :: r)
      | none => none
    | none => none
noncomputable def zeroL (P : Program) (t : TypeId) : Option (List V) :=
  match infoV P t with
  | some it => match it.zero with
    | some z => ofCells z.cells.toList
    | none => none
  | none => none
noncomputable def placesV (P : Program) (t : TypeId) : Option (List (Nat × Nat)) :=
  match undV P t with
  | some (.struct fs) => fs.toList.mapM fun f => (infoV P f.type).map fun i => (f.offset, i.size)
  | _ => none
noncomputable def buildV (P : Program) (t : TypeId) (parts : List (Nat × V)) : Option V :=
  match zeroL P t with
  | some z => match undV P t with
    | some (.struct _) => match placesV P t with
      | some pl => match fillV (fun i => pl[i]?) z parts with | some l => some (.agg l) | none => none
      | none => none
    | some (.array _ e) => match hasT P e with
      | true => (match fillV (fun i => some (i * sizeV P e, sizeV P e)) z parts with | some l => some (.agg l) | none => none)
      | false => none
    | _ => none
  | none => none
noncomputable def repV (z : List V) : Nat → List V
  | 0 => []
  | n + 1 => z ++ repV z n
/-- Cells, told by one that stands for most. -/
noncomputable def sameV : V → V → Bool
  | .int k a, .int k' b => kq k k' && intB a b
  | .bool a, .bool b => match a, b with | true, true => true | false, false => true | _, _ => false
  | .nilp, .nilp | .nils, .nils | .nilm, .nilm | .nilf, .nilf | .nili, .nili => true
  | _, _ => false
noncomputable def packT (d : V) : List V → Nat → Tr V → Tr V
  | [], _, t => t
  | v :: l, i, t => match sameV d v with
    | true => packT d l (Nat.succ i) t
    | false => packT d l (Nat.succ i) (t.put i v)
noncomputable def packO (t : TypeId) (l : List V) : O :=
  match l with
  | [] => .cells 0 t .nilp .nil
  | d :: r => .cells l.length t d (packT d r 1 .nil)
noncomputable def elemOf (P : Program) (t : TypeId) : Option TypeId := match undV P t with | some (.slice e) => (match hasT P e with | true => some e | false => none) | _ => none
def bytesV (s : List UInt8) : List V := s.map fun b => .int .u8 (.ofNat b.toNat)
/-- The first cells of what is copied. -/
noncomputable def srcL (H : Hs) (z : Nat) : V → Nat → Option (List V)
  | .nils, 0 => some []
  | .sle _ _ _ _ _, 0 => some []
  | .sl b off len cap, n => H.cells b off (n * z)
  | .slr b off low len, n => H.cells b off (n * z)
  | .str s, n => (match Nat.beq z 1 with | true => some (bytesV (s.take n)) | false => none)
  | _, _ => none
noncomputable def lenV : V → Option Nat
  | .nils => some 0
  | .sle _ _ _ _ _ => some 0
  | .sl _ _ n _ => some n
  | .slr _ _ _ n => some n
  | .str s => some s.length
  | _ => none
/-- Rows of such elements may grow. -/
noncomputable def eOK (P : Program) (e : TypeId) : Bool := match infoV P e with
  | some i => (match i.zero with
    | some z => Nat.beq z.cells.size i.size && (Nat.ble 1 i.size && Nat.ble i.bytes 65536)
    | none => false)
  | none => false
noncomputable def roomB (H : Hs) : Bool := Nat.ble H.next 999999990
/-- How many cells of a row are known to be there: enough for so many. -/
noncomputable def fitsB (H : Hs) (b n : Nat) : Bool := match H.get b with
  | some (.row f _ z _) => Nat.ble (n * z) (H.val f b)
  | _ => false
noncomputable def appV (P : Program) (H : Hs) (t : TypeId) (base : V) (m : Nat) (news : List V) : Option (V × Hs) :=
  match elemOf P t with
  | none => none
  | some e =>
    match Nat.beq m 0 with
    | true => match base with
      | .nils => (match eOK P e with | true => some (.nils, H) | false => none)
      | .sl b off len cap => match Nat.ble len cap && eOK P e with | true => some (.sl b off len cap, H) | false => none
      | .slr b off low len => match fitsB H b (low + len) && eOK P e with | true => some (.slr b off low len, H) | false => none
      | _ => none
    | false => match Nat.beq news.length (m * sizeV P e) && (eOK P e && (roomB H && onesV news)) with
      | false => none
      | true => match base with
        | .nils => match Nat.ble m 1073741824 && Nat.ble (m * sizeV P e) 999999999 with
          | true => some (.slr H.next 0 0 m, H.newRow e (sizeV P e) (m * sizeV P e) news)
          | false => none
        | .sl b off len cap => match Nat.ble (len + m) cap with
          | true => match H.write b (off + len * sizeV P e) news with
            | some H' => some (.sl b off (len + m) cap, H')
            | none => none
          | false => match H.cells b off (len * sizeV P e), Nat.ble (len + m) 1073741824 && (Nat.ble cap 1073741824 && Nat.ble ((len + m) * sizeV P e) 999999999) with
            | some old, true => some (.slr H.next 0 0 (len + m), H.newRow e (sizeV P e) ((len + m) * sizeV P e) (old ++ news))
            | _, _ => none
        | .slr b 0 0 len => match H.get b with
          | some (.row f t' z' tr) => match Nat.ble (len * sizeV P e) (H.val f b) && (Nat.beq (sizeV P e) z' && (Nat.beq t' e && (Nat.ble (len + m) 1073741824 && Nat.ble ((len + m) * sizeV P e) 999999999))) with
            | true => some (.slr H.next 0 0 (len + m), H.grow f e (sizeV P e) (len * sizeV P e) ((len + m) * sizeV P e) (wrL news (len * sizeV P e) tr))
            | false => none
          | _ => none
        | .slr b off low len => match H.get b, H.cells b off (len * sizeV P e) with
          | some (.row f t' z' tr), some old => match Nat.beq off (low * sizeV P e) && (Nat.ble ((low + len) * sizeV P e) (H.val f b) && (Nat.beq (sizeV P e) z' && (Nat.beq t' e && (Nat.ble (low + len + m) 1073741824 && Nat.ble ((low + len + m) * sizeV P e) 999999999)))) with
            | true => some (.slr H.next 0 0 (len + m), H.growR f e (sizeV P e) ((len + m) * sizeV P e) (wrL (old ++ news) 0 .nil) [])
            | false => none
          | _, _ => none
        | _ => none
noncomputable def sliceV (P : Program) (H : Hs) (t : TypeId) (x : V) (l h m : Option V) : Option V :=
  let lo : Option Nat := match l with | none => some 0 | some v => natOf v
  match undV P t, x with
  | some .string, .str s => match m with
    | some _ => none
    | none => match lo, (match h with | none => some s.length | some v => natOf v) with
      | some l, some h => match Nat.ble l h && Nat.ble h s.length with
        | true => some (.str ((s.take h).drop l))
        | false => none
      | _, _ => none
  | some (.slice e), .nils => match lo, (match h with | none => some 0 | some v => natOf v), (match m with | none => some 0 | some v => natOf v) with
    | some 0, some 0, some 0 => (match hasT P e with | true => some .nils | false => none)
    | _, _, _ => none
  | some (.slice e), .sl b off len cap => match lo, (match h with | none => some len | some v => natOf v), (match m with | none => some cap | some v => natOf v) with
    | some l, some h, some m => match hasT P e && (Nat.ble l h && (Nat.ble h m && Nat.ble m cap)) with
      | true => some (.sl b (match Nat.beq m l with | true => off | false => off + l * sizeV P e) (h - l) (m - l))
      | false => none
    | _, _, _ => none
  | some (.slice e), .slr b off low len => match lo, (match h with | none => some len | some v => natOf v) with
    | some l, some h => match hasT P e && (Nat.ble l h && (Nat.ble h len && fitsB H b (low + len))) with
      | true => match m with
        | some v => match natOf v with
          | some m => match Nat.ble h m && Nat.ble m len with
            | true => some (.sl b (match Nat.beq m l with | true => off | false => off + l * sizeV P e) (h - l) (m - l))
            | false => none
          | none => none
        | none => match Nat.beq l 0 || Nat.ble (l + 1) len with
          | true => some (.slr b (off + l * sizeV P e) (low + l) (h - l))
          | false => some (.sle b off low len (sizeV P e))
      | false => none
    | _, _ => none
  | some (.slice e), .sle b off low len z => match lo, (match h with | none => some 0 | some v => natOf v), m with
    | some 0, some 0, none => (match hasT P e with | true => some (.sle b off low len z) | false => none)
    | _, _, _ => none
  | some (.array n e), .ptr b off => match lo, (match h with | none => some n | some v => natOf v), (match m with | none => some n | some v => natOf v) with
    | some l, some h, some m => match hasT P e && (Nat.ble l h && (Nat.ble h m && Nat.ble m n)) with
      | true => some (.sl b (match Nat.beq m l with | true => off | false => off + l * sizeV P e) (h - l) (m - l))
      | false => none
    | _, _, _ => none
  | _, _ => none
noncomputable def partV (P : Program) (t : TypeId) (cs : List V) (off : Nat) : Option V :=
  match undV P t with
  | some _ => match isAggV P t with
    | true => match Nat.ble (off + sizeV P t) cs.length with
      | true => some (.agg ((cs.drop off).take (sizeV P t)))
      | false => none
    | false => cs[off]?
  | none => none
/-- Keys are structs or arrays; a key is of its type's form. -/
noncomputable def keyV (P : Program) (kt : TypeId) : V → Option (List V)
  | .agg k => (match isAggV P kt && !(P.eqGuardType P.depth kt), eqTV P 20 kt k k with
    | true, some _ => some k
    | _, _ => none)
  | _ => none
noncomputable def findV (P : Program) (kt : TypeId) (k : List V) (H : Hs) : List (V × V) → Nat → Option (Option Nat × Hs)
  | [], _ => some (none, H)
  | e :: es, i => match e.1 with
    | .agg cs => (match eqTV P 20 kt k cs with
      | some b => (match askB H b with
        | some (true, H) => some (some i, H)
        | some (false, H) => findV P kt k H es (Nat.succ i)
        | none => none)
      | none => none)
    | _ => none
/-- All of them numbers or truth values: what is the same is the same bit by bit. -/
noncomputable def bitsB : List V → Bool
  | [] => true
  | v :: l => (match v with | .int _ _ => true | .sint _ _ => true | .bool _ => true | _ => false) && bitsB l
noncomputable def setNth (es : List (V × V)) (i : Nat) (v : V) : List (V × V) :=
  match es, i with
  | [], _ => []
  | e :: es, 0 => (e.1, v) :: es
  | e :: es, i + 1 => e :: setNth es i v
abbrev CallF := V → List V → Hs → Rs
noncomputable def okO (H : Hs) : Option V → Rs
  | some v => .ok v H
  | none => .no
noncomputable def okH : Option Hs → Rs
  | some H => .ok V.und H
  | none => .no
noncomputable def okP : Option (V × Hs) → Rs
  | some (v, H) => .ok v H
  | none => .no
noncomputable def ckR (c : Option VS) : Rs → Rs
  | .ok v H => match c with
    | some c => match ckS c v with | true => .ok v H | false => .no
    | none => .no
  | r => r
/-- What is appended: how many, their cells. -/
noncomputable def srcV (P : Program) (H : Hs) (e : TypeId) (d : TypeDesc) (x : V) : Option (Nat × List V) :=
  match d with
  | .slice _ => (match x with
    | .nils => some (0, [])
    | .sle _ _ _ _ _ => some (0, [])
    | .sl b off len _ => (match H.cells b off (len * sizeV P e) with | some l => some (len, l) | none => none)
    | .slr b off _ len => (match H.cells b off (len * sizeV P e) with | some l => some (len, l) | none => none)
    | _ => none)
  | .string => (match x with
    | .str s => (match Nat.beq (sizeV P e) 1 with | true => some (s.length, bytesV s) | false => none)
    | _ => none)
  | .int _ => (match natOf x with
    | some n => (match zeroL P e, Nat.ble n 1073741824 with
      | some z, true => some (n, repV z n)
      | _, _ => none)
    | none => none)
  | _ => none
/-- The lesser (mn) or the greater of two numbers: it is asked. -/
noncomputable def minV (mn : Bool) (x y : V) (H : Hs) : Rs :=
  match sxOf x, sxOf y with
  | some (k, a), some (k', b) => (match kq k k' with
    | true => (match askB H (match mn with | true => .cmp .lss b a | false => .cmp .lss a b) with
      | some (true, H) => .ok y H
      | some (false, H) => .ok x H
      | none => .no)
    | false => .no)
  | _, _ => .no
noncomputable def zerosB : List V → Bool
  | [] => true
  | v :: l => sameV (.int .u8 (.ofNat 0)) v && zerosB l
/-- Bytes of a row that is only looked at, from a place on, into zeros. -/
noncomputable def copyO (P : Program) (H : Hs) (e : TypeId) (n : Nat) (d : V) (b : Nat) (off : Sx) : Rs :=
  match H.get b, Nat.beq (sizeV P e) 1 with
  | some (.opq _ z _ li fs), true => (match Nat.beq z 1 && factB fs off false with
    | true => (match d with
      | .sl b' o _ _ => (match H.cells b' o n with
        | some old => (match zerosB old with
          | true => (match H.write b' o (atL li 1 off 0 n) with | some H => .ok (.sint .i64 (.rest li off n)) H | none => .no)
          | false => .no)
        | none => .no)
      | .slr b' o _ _ => (match H.cells b' o n with
        | some old => (match zerosB old with
          | true => (match H.write b' o (atL li 1 off 0 n) with | some H => .ok (.sint .i64 (.rest li off n)) H | none => .no)
          | false => .no)
        | none => .no)
      | _ => .no)
    | false => .no)
  | _, _ => .no
noncomputable def bltV (P : Program) (b : Builtin) (ts : List TypeId) (args : List V) (H : Hs) : Rs :=
  match b, args with
  | .len, [v] => (match ts with
    | [t] => (match undV P t with
      | some .string => (match v with
        | .str s => .ok (.int .i64 (.ofNat s.length)) H
        | .ystr s => .ok (.int .i64 (.ofNat s.length)) H
        | _ => .no)
      | some (.slice _) => (match v with
        | .nils => .ok (.int .i64 (.ofNat 0)) H
        | .sle _ _ _ _ _ => .ok (.int .i64 (.ofNat 0)) H
        | .sl _ _ n _ => .ok (.int .i64 (.ofNat n)) H
        | .slr _ _ _ n => .ok (.int .i64 (.ofNat n)) H
        | .slo b => (match H.get b with | some (.opq _ _ lc _ _) => .ok (.sint .i64 (.len lc)) H | _ => .no)
        | .se _ _ _ _ n => .ok (.int .i64 (.ofNat n)) H
        | _ => .no)
      | some (.array n _) => .ok (.int .i64 (.ofNat n)) H
      | some (.pointer e) => (match undV P e with | some (.array n _) => .ok (.int .i64 (.ofNat n)) H | _ => .no)
      | some (.map _ _) => (match v with
        | .nilm => .ok (.int .i64 (.ofNat 0)) H
        | .map b => (match H.get b with | some (.map es) => .ok (.int .i64 (.ofNat es.length)) H | _ => .no)
        | _ => .no)
      | _ => .no)
    | _ => .no)
  | .cap, [v] => (match ts with
    | [t] => (match undV P t with
      | some (.slice _) => (match v with
        | .nils => .ok (.int .i64 (.ofNat 0)) H
        | .sl _ _ _ c => .ok (.int .i64 (.ofNat c)) H
        | _ => .no)
      | _ => .no)
    | _ => .no)
  | .min, [x, y] => match x, y with
    | .int k a, .int k' b => (match kq k k' with | true => .ok (.int k (if b < a then b else a)) H | false => .no)
    | x, y => minV true x y H
  | .max, [x, y] => match x, y with
    | .int k a, .int k' b => (match kq k k' with | true => .ok (.int k (if a < b then b else a)) H | false => .no)
    | x, y => minV false x y H
  | .append, [s, x] => (match ts with
    | [t, t2] => (match elemOf P t, undV P t2 with
      | some e, some d => (match srcV P H e d x with
        | some (m, news) => okP (appV P H t s m news)
        | none => (match x, s, d with
          | .slo b, .nils, .slice _ => (match H.get b, eOK P e && roomB H with
            | some (.opq true z lc li _), true => (match Nat.beq (sizeV P e) z with | true => .ok (.slo H.next) (H.new (.opq true z lc li [])) | false => .no)
            | _, _ => .no)
          | _, _, _ => .no))
      | _, _ => .no)
    | _ => .no)
  | .copy, [d, s] => (match ts with
    | [t, _] => (match elemOf P t, lenV d, lenV s with
      | some e, some n, some m => (match srcL H (sizeV P e) s (Nat.min m n) with
        | some l => (match Nat.beq l.length (Nat.min m n * sizeV P e) && onesV l with
          | true => (match d with
            | .nils => .ok (.int .i64 (.ofNat (Nat.min m n))) H
            | .sl b off _ _ => (match H.write b off l with | some H => .ok (.int .i64 (.ofNat (Nat.min m n))) H | none => .no)
            | .slr b off _ _ => (match H.write b off l with | some H => .ok (.int .i64 (.ofNat (Nat.min m n))) H | none => .no)
            | _ => .no)
          | false => .no)
        | none => .no)
      | some e, some n, none => (match s with | .sv b off => copyO P H e n d b off | _ => .no)
      | _, _, _ => .no)
    | _ => .no)
  | _, _ => .no
noncomputable def opPick (P : Program) (N : Nat) (c a b : Operand) (call : CallF) (E : Tr V) (H : Hs) : Rs :=
  match rdV N E c with
    | some v => match bxOf v with
      | some b' => match askB H b' with
        | some (true, H) => okO H (rdV N E a)
        | some (false, H) => okO H (rdV N E b)
        | none => .no
      | none => .no
    | none => .no
noncomputable def opNilCheck (P : Program) (N : Nat) (x : Operand) (call : CallF) (E : Tr V) (H : Hs) : Rs :=
  match rdV N E x with
    | some .nilp | some .nili | some .nilf => .no
    | some (.pe b z off j) => (match elOK H b z off with | some _ => .ok (.pe b z off j) H | none => .no)
    | some v => .ok v H
    | none => .no
noncomputable def opLoad (P : Program) (N : Nat) (t : TypeId) (x : Operand) (call : CallF) (E : Tr V) (H : Hs) : Rs :=
  match rdV N E x with
    | some (.ptr b off) => okO H (ldV P H b off t)
    | some (.pe b z off j) => okO H (ldE P H b z off j t)
    | _ => .no
noncomputable def opStore (P : Program) (N : Nat) (t : TypeId) (x v : Operand) (call : CallF) (E : Tr V) (H : Hs) : Rs :=
  match rdV N E x, rdV N E v with
    | some (.ptr b off), some v => okH (stV P H b off t v)
    | _, _ => .no
noncomputable def opMapUpdate (P : Program) (N : Nat) (t : TypeId) (m k v : Operand) (call : CallF) (E : Tr V) (H : Hs) : Rs :=
  match rdV N E m, rdV N E k, rdV N E v with
    | some (.map b), some k, some v => match undV P t with
      | some (.map kt _) => match H.get b, keyV P kt k with
        | some (.map es), some kc => match findV P kt kc H es 0 with
          | some (some i, H) => (match es[i]? with
            | some e => (match V.beq k e.1 && bitsB kc with
              | true => .ok V.und (H.put b (.map (setNth es i v)))
              | false => .no)
            | none => .no)
          | some (none, H) => .ok V.und (H.put b (.map (es ++ [(k, v)])))
          | none => .no
        | _, _ => .no
      | _ => .no
    | _, _, _ => .no
noncomputable def mapEs (H : Hs) : V → Option (List (V × V))
  | .map b => (match H.get b with | some (.map es) => some es | _ => none)
  | .nilm => some []
  | _ => none
noncomputable def zeroV (P : Program) (t : TypeId) : Option V := match infoV P t with
  | some i => (match i.zero with | some z => V.of1 z | none => none)
  | none => none
noncomputable def opLookup (P : Program) (N : Nat) (ot t : TypeId) (m k : Operand) (ok : Bool) (call : CallF) (E : Tr V) (H : Hs) : Rs :=
  match rdV N E m, rdV N E k with
    | some m, some k => match undV P t with
      | some (.map kt et) => match keyV P kt k, mapEs H m, zeroV P et with
        | some kc, some es, some z => match findV P kt kc H es 0 with
          | some (some i, H) => (match es[i]? with
            | some e => ckR (vsOfV P ot) (.ok (match ok with | true => .tup [e.2, .bool true] | false => e.2) H)
            | none => .no)
          | some (none, H) => ckR (vsOfV P ot) (.ok (match ok with | true => .tup [z, .bool false] | false => z) H)
          | none => .no
        | _, _, _ => .no
      | _ => .no
    | _, _ => .no
noncomputable def opCall (P : Program) (N : Nat) (c : Call) (ot : TypeId) (call : CallF) (E : Tr V) (H : Hs) : Rs :=
  match c.callee with
    | .value f => match rdV N E f, rdVs N E c.args.toList with
      | some f, some args => ckR (vsOfV P ot) (call f args H)
      | _, _ => .no
    | .builtin b => match rdVs N E c.args.toList with
      | some args => ckR (vsOfV P ot) (bltV P b c.argTypes.toList args H)
      | none => .no
    | .invoke _ _ => .no
noncomputable def opMakeFunc (P : Program) (N : Nat) (fn : Fn) (first captured : Array Operand) (call : CallF) (E : Tr V) (H : Hs) : Rs :=
  match fn, rdVs N E first.toList, rdVs N E captured.toList with
    | .func f, some a, some b => .ok (.fn f a b) H
    | _, _, _ => .no
noncomputable def opBuild (P : Program) (N : Nat) (t : TypeId) (parts : Array (Nat × Operand)) (call : CallF) (E : Tr V) (H : Hs) : Rs :=
  match rdParts N E parts.toList with
    | some ps => okO H (buildV P t ps)
    | none => .no
noncomputable def opBuildSlice (P : Program) (N : Nat) (t : TypeId) (len : Nat) (parts : Array (Nat × Operand)) (call : CallF) (E : Tr V) (H : Hs) : Rs :=
  match rdParts N E parts.toList, elemOf P t, roomB H with
    | some ps, some e, true => (match Nat.beq len 0 with
      | true => (match ps with
        | [] => .ok (.sl H.next 0 0 0) (H.new (packO e []))
        | _ => .no)
      | false => (match zeroL P e, eOK P e && Nat.ble (len * sizeV P e) 65536 with
        | some z, true => (match fillV (fun i => some (i * sizeV P e, sizeV P e)) (repV z len) ps with
          | some l => .ok (.sl H.next 0 len len) (H.new (packO e l))
          | none => .no)
        | _, _ => .no))
    | _, _, _ => .no
noncomputable def litO : Operand → Bool
  | .const _ => true
  | _ => false
noncomputable def opBinOp (P : Program) (N : Nat) (op : BinOp) (t : TypeId) (x y : Operand) (call : CallF) (E : Tr V) (H : Hs) : Rs :=
  match rdV N E x, rdV N E y with
    | some x', some y' => okO H (binV P (litO x || litO y) op t x' y')
    | _, _ => .no
noncomputable def opUnOp (P : Program) (N : Nat) (op : UnOp) (x : Operand) (call : CallF) (E : Tr V) (H : Hs) : Rs :=
  match op, rdV N E x with
    | .not, some v => (match bxOf v with | some b => .ok (boolV (notX b)) H | none => .no)
    | .neg, some (.int k n) => .ok (.int k (arithI .sub k 0 n)) H
    | .xor, some (.int k n) => .ok (.int k (arithI .xor k (if k.signed then -1 else k.max) n)) H
    | _, _ => .no
noncomputable def opAlloc (P : Program) (N : Nat) (t : TypeId) (call : CallF) (E : Tr V) (H : Hs) : Rs :=
  match zeroL P t, roomB H with
    | some l, true => (match Nat.ble l.length 999999999 with | true => .ok (.ptr H.next 0) (H.new (packO t l)) | false => .no)
    | _, _ => .no
noncomputable def opBox (P : Program) (N : Nat) (t : TypeId) (x : Operand) (call : CallF) (E : Tr V) (H : Hs) : Rs :=
  match rdV N E x, roomB H with
    | some v, true => (match Nat.ble v.cells.length 999999999 with | true => .ok (.ptr H.next 0) (H.new (packO t v.cells)) | false => .no)
    | _, _ => .no
/-- Bytes as a string. -/
noncomputable def litB : V → Option UInt8
  | .int .u8 (.ofNat n) => some (UInt8.ofNat n)
  | _ => none
noncomputable def sx8 (v : V) : Option Sx := match sxOf v with
  | some (.u8, s) => some s
  | _ => none
noncomputable def strV (l : List V) : Option V := match mapO litB l with
  | some bs => some (.str bs)
  | none => match mapO sx8 l with
    | some xs => some (.ystr xs)
    | none => none
noncomputable def strO : Option (List V) → Option V
  | some l => strV l
  | none => none
noncomputable def ckV1 (c : Option V1) : Rs → Rs
  | .ok v H => (match c with
    | some c => (match ck1 c v with | true => .ok v H | false => .no)
    | none => .no)
  | r => r
noncomputable def opConvert (P : Program) (N : Nat) (s d : TypeId) (x : Operand) (call : CallF) (E : Tr V) (H : Hs) : Rs :=
  match undV P s, undV P d, rdV N E x with
    | some (.int _), some (.int k), some (.int _ n) => ckV1 (v1OfV P d) (.ok (.int k (k.wrap n)) H)
    | some (.int _), some (.int k), some (.sint _ a) => ckV1 (v1OfV P d) (.ok (sintV k (cvtS k a)) H)
    | some .string, some .string, some (.str s) => ckV1 (v1OfV P d) (.ok (.str s) H)
    | some (.slice e), some .string, some v => (match undV P e, v with
      | some (.int .u8), .nils => ckV1 (v1OfV P d) (.ok (.str []) H)
      | some (.int .u8), .sle _ _ _ _ _ => ckV1 (v1OfV P d) (.ok (.str []) H)
      | some (.int .u8), .sl b off len _ => ckV1 (v1OfV P d) (okO H (strO (H.cells b off len)))
      | some (.int .u8), .slr b off _ len => ckV1 (v1OfV P d) (okO H (strO (H.cells b off len)))
      | _, _ => .no)
    | _, _, _ => .no
noncomputable def opMakeInterface (P : Program) (N : Nat) (t : TypeId) (x : Operand) (call : CallF) (E : Tr V) (H : Hs) : Rs :=
  match rdV N E x, undV P t with
    | some v, some (.interface _) => .no
    | some v, some _ => .ok (.iface t v) H
    | _, _ => .no
noncomputable def opMakeSlice (P : Program) (N : Nat) (t : TypeId) (l c : Operand) (call : CallF) (E : Tr V) (H : Hs) : Rs :=
  match rdV N E l, rdV N E c with
    | some l, some c => match natOf l, natOf c, elemOf P t with
      | some l, some c, some e => match Nat.ble l c && (eOK P e && (roomB H && (Nat.ble c 1073741824 && Nat.ble (c * sizeV P e) 999999999))), zeroL P e with
        | true, some z => .ok (.sl H.next 0 l c) (H.new (packO e (repV z c)))
        | _, _ => .no
      | _, _, _ => .no
    | _, _ => .no
noncomputable def rdOpt (N : Nat) (E : Tr V) : Option Operand → Option (Option V)
  | none => some none
  | some a => match rdV N E a with
    | some v => some (some v)
    | none => none
noncomputable def askT (H : Hs) (b : Bx) : Option Hs := match askB H b with
  | some (true, H) => some H
  | _ => none
noncomputable def geX : Sx → Bx
  | .lit (.ofNat _) => .lit true
  | s => .cmp .geq s (.lit (.ofNat 0))
/-- A place in a row that is only looked at: asked, and kept in mind. -/
noncomputable def placeO (H : Hs) (b : Nat) (s : Sx) (st : Bool) : Option Hs := match H.get b with
  | some (.opq sm z lc li fs) => (match factB fs s st with
    | true => some H
    | false => (match askT H (geX s) with
      | some H => (match askT H (match st with | true => .cmp .lss s (.len lc) | false => .cmp .leq s (.len lc)) with
        | some H => some (H.put b (.opq sm z lc li ((s, st) :: fs)))
        | none => none)
      | none => none))
  | _ => none
noncomputable def sliceO (P : Program) (H : Hs) (ot t : TypeId) (b : Nat) (l h m : Option V) : Rs :=
  match undV P t, l, h, m with
  | some (.slice e), some lo, none, none => (match sxOf lo, H.get b with
    | some (_, s), some (.opq _ z _ _ _) => (match hasT P e && (Nat.beq (sizeV P e) 1 && Nat.beq z 1) with
      | true => (match placeO H b s false with
        | some H => ckR (vsOfV P ot) (.ok (.sv b s) H)
        | none => .no)
      | false => .no)
    | _, _ => .no)
  | _, _, _, _ => .no
noncomputable def sliceE (P : Program) (H : Hs) (ot t : TypeId) (b z : Nat) (off : Sx) (j : Nat) (l h m : Option V) : Rs :=
  match undV P t, l, h, m with
  | some (.array n e), none, none, none => (match hasT P e, elOK H b z off with
    | true, some _ => ckR (vsOfV P ot) (.ok (.se b z off j n) H)
    | _, _ => .no)
  | _, _, _, _ => .no
noncomputable def opSlice (P : Program) (N : Nat) (ot t : TypeId) (x : Operand) (l h m : Option Operand) (call : CallF) (E : Tr V) (H : Hs) : Rs :=
  match rdV N E x, rdOpt N E l, rdOpt N E h, rdOpt N E m with
    | some x, some l, some h, some m => (match x with
      | .slo b => sliceO P H ot t b l h m
      | .pe b z off j => sliceE P H ot t b z off j l h m
      | x => (match h, m with
        | none, some _ => .no
        | h, m => ckR (vsOfV P ot) (okO H (sliceV P H t x l h m))))
    | _, _, _, _ => .no
noncomputable def opFieldAddr (P : Program) (N : Nat) (t : TypeId) (x : Operand) (f : Nat) (call : CallF) (E : Tr V) (H : Hs) : Rs :=
  match rdV N E x, undV P t with
    | some (.ptr b off), some (.struct fs) => (match fs.toList[f]? with
      | some d => (match hasT P d.type && Nat.ble 1 (sizeV P d.type) with | true => .ok (.ptr b (Nat.add off d.offset)) H | false => .no)
      | none => .no)
    | _, _ => .no
noncomputable def opToArr (P : Program) (N : Nat) (t : TypeId) (x : Operand) (call : CallF) (E : Tr V) (H : Hs) : Rs :=
  match rdV N E x, undV P t with
    | some (.sl b off len _), some (.array n _) => (match Nat.ble n len with | true => .ok (.ptr b off) H | false => .no)
    | some (.slr b off _ len), some (.array n _) => (match Nat.ble n len with | true => .ok (.ptr b off) H | false => .no)
    | _, _ => .no
noncomputable def indexO (P : Program) (H : Hs) (t : TypeId) (b : Nat) (i : V) : Rs :=
  match undV P t, sxOf i, H.get b with
  | some (.slice e), some (_, s), some (.opq _ z _ _ _) => (match hasT P e && (Nat.beq (sizeV P e) z && Nat.ble 1 z) with
    | true => (match placeO H b s true with
      | some H => .ok (.pe b z s 0) H
      | none => .no)
    | false => .no)
  | _, _, _ => .no
noncomputable def indexE (P : Program) (H : Hs) (t : TypeId) (b z : Nat) (off : Sx) (j n : Nat) (i : V) : Rs :=
  match undV P t, natOf i with
  | some (.slice e), some i => (match hasT P e && (Nat.beq (sizeV P e) 1 && Nat.ble (Nat.succ i) n) with
    | true => (match elOK H b z off with | some _ => .ok (.pe b z off (Nat.add j i)) H | none => .no)
    | false => .no)
  | _, _ => .no
noncomputable def indexP (P : Program) (H : Hs) (t : TypeId) (b z : Nat) (off : Sx) (j : Nat) (i : V) : Rs :=
  match undV P t, natOf i with
  | some (.array n e), some i => (match hasT P e && (Nat.beq (sizeV P e) 1 && Nat.ble (Nat.succ i) n) with
    | true => (match elOK H b z off with | some _ => .ok (.pe b z off (Nat.add j i)) H | none => .no)
    | false => .no)
  | _, _ => .no
noncomputable def indexA (P : Program) (H : Hs) (t : TypeId) (x i : V) : Rs :=
  match natOf i with
      | some i => match undV P t, x with
        | some (.array n e), .ptr b off => (match hasT P e && Nat.ble (Nat.succ i) n with | true => .ok (.ptr b (Nat.add off (Nat.mul i (sizeV P e)))) H | false => .no)
        | some (.slice e), .sl b off len _ => (match hasT P e && Nat.ble (Nat.succ i) len with | true => .ok (.ptr b (Nat.add off (Nat.mul i (sizeV P e)))) H | false => .no)
        | some (.slice e), .slr b off _ len => (match hasT P e && Nat.ble (Nat.succ i) len with | true => .ok (.ptr b (Nat.add off (Nat.mul i (sizeV P e)))) H | false => .no)
        | _, _ => .no
      | none => .no
noncomputable def opIndexAddr (P : Program) (N : Nat) (t : TypeId) (x i : Operand) (call : CallF) (E : Tr V) (H : Hs) : Rs :=
  match rdV N E x, rdV N E i with
    | some x, some i => (match x with
      | .slo b => indexO P H t b i
      | .se b z off j n => indexE P H t b z off j n i
      | .pe b z off j => indexP P H t b z off j i
      | x => indexA P H t x i)
    | _, _ => .no
noncomputable def opField (P : Program) (N : Nat) (t : TypeId) (x : Operand) (f : Nat) (call : CallF) (E : Tr V) (H : Hs) : Rs :=
  match rdV N E x, undV P t with
    | some (.agg cs), some (.struct fs) => (match fs.toList[f]? with | some d => okO H (partV P d.type cs d.offset) | none => .no)
    | _, _ => .no
noncomputable def opIndex (P : Program) (N : Nat) (ot t : TypeId) (x i : Operand) (call : CallF) (E : Tr V) (H : Hs) : Rs :=
  match rdV N E x, rdV N E i with
    | some x, some i => match natOf i with
      | some i => match undV P t, x with
        | some (.array n e), .agg cs => (match hasT P e && Nat.ble (Nat.succ i) n with | true => ckR (vsOfV P ot) (okO H (partV P e cs (i * sizeV P e))) | false => .no)
        | some .string, .str s => (match s[i]? with | some b => ckR (vsOfV P ot) (.ok (.int .u8 (.ofNat b.toNat)) H) | none => .no)
        | _, _ => .no
      | none => .no
    | _, _ => .no
noncomputable def opExtract (P : Program) (N : Nat) (ot : TypeId) (t : Operand) (i : Nat) (call : CallF) (E : Tr V) (H : Hs) : Rs :=
  match rdV N E t with
    | some (.tup vs) => ckR (vsOfV P ot) (okO H (vs[i]?))
    | _ => .no
noncomputable def opTypeAssert (P : Program) (N : Nat) (ot : TypeId) (x : Operand) (t u : TypeId) (ok : Bool) (call : CallF) (E : Tr V) (H : Hs) : Rs :=
  match rdV N E x, undV P u with
    | some (.iface d v), some (.interface _) => .no
    | some (.iface d v), some _ => (match Nat.beq d u with | true => ckR (vsOfV P ot) (.ok (match ok with | true => .tup [v, .bool true] | false => v) H) | false => .no)
    | _, _ => .no
noncomputable def opPanic (P : Program) (N : Nat) (x : Operand) (call : CallF) (E : Tr V) (H : Hs) : Rs :=
  match rdV N E x with
    | some (.iface t v) => .pan (.iface t v) H
    | _ => .no
noncomputable def opMove (P : Program) (N : Nat) (x : Operand) (call : CallF) (E : Tr V) (H : Hs) : Rs := okO H (rdV N E x)
noncomputable def opMakeMap (call : CallF) (E : Tr V) (H : Hs) : Rs := match roomB H with | true => .ok (.map H.next) (H.new (.map [])) | false => .no
noncomputable def opNo (call : CallF) (E : Tr V) (H : Hs) : Rs := .no
/-- An operation, read once. -/
inductive OpW where
  | mk (f : CallF → Tr V → Hs → Rs)
noncomputable def decO (P : Program) (N : Nat) (o : Oper) : OpW :=
  match o.op with
  | .move x => .mk (opMove P N x)
  | .assign x => .mk (opMove P N x)
  | .pick c a b => .mk (opPick P N c a b)
  | .nilCheck x => .mk (opNilCheck P N x)
  | .load t x => .mk (opLoad P N t x)
  | .store t x v => .mk (opStore P N t x v)
  | .mapUpdate t m k v => .mk (opMapUpdate P N t m k v)
  | .lookup t m k ok => .mk (opLookup P N o.type t m k ok)
  | .call c => .mk (opCall P N c o.type)
  | .makeFunc fn first captured => .mk (opMakeFunc P N fn first captured)
  | .build t parts => .mk (opBuild P N t parts)
  | .buildSlice t len parts => .mk (opBuildSlice P N t len parts)
  | .binOp op t x y _ => .mk (opBinOp P N op t x y)
  | .unOp op _ x => .mk (opUnOp P N op x)
  | .alloc t => .mk (opAlloc P N t)
  | .box t x => .mk (opBox P N t x)
  | .convert s d x => .mk (opConvert P N s d x)
  | .makeInterface t x => .mk (opMakeInterface P N t x)
  | .makeMap t r => (match r with | none => .mk opMakeMap | some _ => .mk opNo)
  | .makeSlice t l c => .mk (opMakeSlice P N t l c)
  | .slice t x l h m => .mk (opSlice P N o.type t x l h m)
  | .fieldAddr t x f => .mk (opFieldAddr P N t x f)
  | .indexAddr t x i => .mk (opIndexAddr P N t x i)
  | .sliceToArrayPointer t x => .mk (opToArr P N t x)
  | .field t x f => .mk (opField P N t x f)
  | .index t x i => .mk (opIndex P N o.type t x i)
  | .extract t i => .mk (opExtract P N o.type t i)
  | .typeAssert x t u ok => .mk (opTypeAssert P N o.type x t u ok)
  | .panic x => .mk (opPanic P N x)
  | _ => .mk opNo
end Go.Proofs.YtcanicgpkbhhdaaGreatDoor.Rn

namespace Go.Proofs.YtcanicgpkbhhdaaGreatDoor.Rn
open Go Go.Proofs.YtcanicgpkbhhdaaGreatDoor.Sh
set_option linter.unusedVariables false
set_option linter.unusedSimpArgs false
inductive Ex where
  | normal | ret | exit (i : Nat) | goto (l : Nat) | pan (v : V) | panu (v : V)
inductive Df where
  | call (f : FuncId) (args : List V)
  | mark (b : Nat)
inductive Cr where
  | mk (x : Ex) (E : Tr V) (ds : List Df) (H : Hs)
  | no
abbrev KV := Tr V → List Df → Hs → Cr
noncomputable def setD (E : Tr V) (d : Option Tmp) (v : V) : Tr V := match d with | none => E | some d => E.put d v
/-! Operations, statements, read once: what Lean's kernel has reckoned of a text, it knows again. -/
inductive Gd where
  | none
  | tmp (d : Nat) (want : Bool)
  | bad
def gdOf (all : List Oper) (o : Oper) : Gd := match o.guard with
  | none => .none
  | some (j, w) => match dstOf all j with
    | some d => match Nat.ble d 999999999 with | true => .tmp d w | false => .bad
    | none => .bad
def dOK : Option Tmp → Bool
  | none => true
  | some d => Nat.ble d 999999999
noncomputable def deferV (N : Nat) (c : Call) (E : Tr V) : Option Df := match c.callee with
  | .value f => match rdV N E f, rdVs N E c.args.toList with
    | some (.fn g first cap), some args => some (.call g (first ++ (args ++ cap)))
    | _, _ => none
  | _ => none
inductive DW where
  | op (g : Gd) (f : CallF → Tr V → Hs → Rs) (d : Option Nat)
  | dfr (g : Gd) (f : Tr V → Option Df) (d : Option Nat)
noncomputable def opD (g : Gd) (d : Option Nat) : OpW → DW
  | .mk f => .op g f d
noncomputable def decD (P : Program) (N : Nat) (all : List Oper) (o : Oper) : DW := match dOK o.dst with
  | true => (match o.op with
    | .defer c => .dfr (gdOf all o) (deferV N c) o.dst
    | _ => opD (gdOf all o) o.dst (decO P N o))
  | false => .op .bad opNo none
noncomputable def decL (P : Program) (N : Nat) (all : List Oper) : List Oper → List DW
  | [] => []
  | o :: l => decD P N all o :: decL P N all l
noncomputable def askG (N : Nat) (g : Gd) (yes no : KV) : KV := match g with
  | .none => yes
  | .tmp d w => fun E ds H => match rdV N E (.tmp d) with
    | some v => match v with
      | .bool b => Bool.rec (Bool.rec yes no w E ds H) (Bool.rec no yes w E ds H) b
      | .sbool x => match askB H x with
        | some (b, H) => Bool.rec (Bool.rec yes no w (E.put d (.bool false)) ds H) (Bool.rec no yes w (E.put d (.bool true)) ds H) b
        | none => .no
      | _ => no E ds H
    | none => .no
  | .bad => fun _ _ _ => .no
/-- rd: within a round of a range over a function nothing panics and nothing is put off. -/
noncomputable def doV (call : CallF) (rd : Bool) (f : CallF → Tr V → Hs → Rs) (d : Option Nat) (k : KV) : KV := fun E ds H => match f call E H with
  | .ok v H => k (setD E d v) ds H
  | .pan v H => Bool.rec (.mk (.pan v) E ds H) .no rd
  | .no => .no
noncomputable def dfV (rd : Bool) (f : Tr V → Option Df) (d : Option Nat) (k : KV) : KV := fun E ds H => match f E with
  | some x => Bool.rec (k (setD E d V.und) (x :: ds) H) .no rd
  | none => .no
noncomputable def skV (d : Option Nat) (k : KV) : KV := fun E ds H => k (setD E d V.und) ds H
noncomputable def stepV (call : CallF) (N : Nat) (rd : Bool) (o : DW) (k : KV) : KV := match o with
  | .op g f d => askG N g (doV call rd f d k) (skV d k)
  | .dfr g f d => askG N g (dfV rd f d k) (skV d k)
noncomputable def opsV (call : CallF) (N : Nat) (rd : Bool) (l : List DW) : KV :=
  List.rec (motive := fun _ => KV) (fun E ds H => .mk .normal E ds H) (fun o _ k => stepV call N rd o k) l
/-! A region that draws its order is walked in one order: what is light as soon as it may, what is heavy in its turn, what only lays a block of constants ('floats': it waits for nothing, and may come at any time) last. What is light is looked at for its operands' kinds; what a load has told is asked again behind each heavy operation. -/
noncomputable def readyO (m : Nat) (o : Oper) : Bool := o.after.toList.all fun e => !(bindsAny e) || Nat.testBit m e.on
/-- What an operation lays, if it floats: the elements' type, the cells, the value (of the block's number). -/
noncomputable def layV (P : Program) (o : Oper) : Option (TypeId × List V × (Nat → V)) :=
  match o.op with
  | .alloc t => (match zeroL P t with
    | some l => (match Nat.ble l.length 999999999 with | true => some (t, l, fun n => .ptr n 0) | false => none)
    | none => none)
  | .buildSlice t len parts => (match rdParts 0 .nil parts.toList, elemOf P t with
    | some ps, some e => (match zeroL P e, eOK P e && (Nat.ble 1 len && Nat.ble (len * sizeV P e) 65536) with
      | some z, true => (match fillV (fun i => some (i * sizeV P e, sizeV P e)) (repV z len) ps with
        | some l => some (e, l, fun n => .sl n 0 len len)
        | none => none)
      | _, _ => none)
    | _, _ => none)
  | _ => none
def nilB {α : Type} : List α → Bool
  | [] => true
  | _ :: _ => false
noncomputable def floatB (P : Program) (ops : List Oper) (a : Nat) (o : Oper) : Bool :=
  Nat.beq a 0 && (o.guard.isNone && (o.dst.isSome && (nilB (looksL ops o) && (match layV P o with | some _ => true | none => false))))
/-- 0: light, 1: heavy, 2: it floats. -/
noncomputable def clsL (P : Program) (fl : Bool) (ops : List Oper) (an : List Nat) : List Oper → Nat → List Nat
  | [], _ => []
  | o :: l, i => (match lightB P o with | true => 0 | false => match fl && floatB P ops (an.getD i 0) o with | true => 2 | false => 1) :: clsL P fl ops an l (i + 1)
noncomputable def firstC (k m : Nat) : List Oper → List Nat → Nat → Option Nat
  | o :: l, c :: cl, i => (match !(Nat.testBit m i) && (Nat.beq c k && readyO m o) with
    | true => some i
    | false => firstC k m l cl (i + 1))
  | _, _, _ => none
noncomputable def ordGo (ops : List Oper) (cl : List Nat) : Nat → Nat → List Nat
  | 0, _ => []
  | f + 1, m => match firstC 0 m ops cl 0 with
    | some i => i :: ordGo ops cl f (m + 2 ^ i)
    | none => match firstC 1 m ops cl 0 with
      | some i => i :: ordGo ops cl f (m + 2 ^ i)
      | none => match firstC 2 m ops cl 0 with
        | some i => i :: ordGo ops cl f (m + 2 ^ i)
        | none => []
/-- May a be walked ahead of b? -/
noncomputable def pairW (ops : List Oper) (an cl : List Nat) (a b : Nat) : Bool :=
  !(Nat.beq a b) && (!(Nat.testBit (an.getD a 0) b) && (Nat.testBit (an.getD b 0) a ||
    ((Nat.beq (cl.getD a 1) 0 || Nat.beq (cl.getD b 1) 2) && (match ops[a]?, ops[b]? with | some x, some y => apartL ops x y | _, _ => false))))
noncomputable def chkW (ops : List Oper) (an cl ord : List Nat) : Bool :=
  edgesB ops ops.length && (Nat.beq ord.length ops.length && ((ord.all fun i => Nat.ble (i + 1) ops.length) && ((natsTo ops.length 0).all (fun i => ord.elem i) && pairsB (pairW ops an cl) ord)))
structure RcV where
  i : Nat
  f : CallF → Tr V → Hs → Rs
  E : Tr V
  v : V
noncomputable def oblV (call : CallF) (anc : Nat) (H : Hs) : List RcV → Bool
  | [] => true
  | r :: l => match Nat.testBit anc r.i with
    | true => oblV call anc H l
    | false => match r.f call r.E H with
      | .ok u _ => V.beq u r.v && oblV call anc H l
      | _ => false
inductive GW where
  | light (i : Nat) (load : Bool) (g : Gd) (lt : Tr V → Bool) (f : CallF → Tr V → Hs → Rs) (d : Option Nat)
  | heavy (anc : Nat) (g : Gd) (f : CallF → Tr V → Hs → Rs) (d : Option Nat)
  | float (t : TypeId) (l : List V) (mk : Nat → V) (d : Option Nat)
  | bad
abbrev KR := List RcV → KV
noncomputable def lightG (call : CallF) (i : Nat) (load : Bool) (lt : Tr V → Bool) (f : CallF → Tr V → Hs → Rs) (d : Option Nat) (k : KR) (rs : List RcV) : KV := fun E ds H => match lt E with
  | true => (match f call E H with
    | .ok v H => Bool.rec (k rs (setD E d v) ds H) (k (⟨i, f, E, v⟩ :: rs) (setD E d v) ds H) load
    | _ => .no)
  | false => .no
noncomputable def heavyG (call : CallF) (rd : Bool) (anc : Nat) (f : CallF → Tr V → Hs → Rs) (d : Option Nat) (k : KR) (rs : List RcV) : KV := fun E ds H => match f call E H with
  | .ok v H => (match oblV call anc H rs with
    | true => k rs (setD E d v) ds H
    | false => .no)
  | .pan v H => Bool.rec (.mk (.panu v) E ds H) .no rd
  | .no => .no
noncomputable def floatG (t : TypeId) (l : List V) (mk : Nat → V) (d : Option Nat) (k : KR) (rs : List RcV) : KV := fun E ds H => match roomB H with
  | true => k rs (setD E d (mk H.next)) ds (H.new (packO t l))
  | false => .no
noncomputable def drawG (call : CallF) (N : Nat) (rd : Bool) (l : List GW) : KR :=
  List.rec (motive := fun _ => KR) (fun _ E ds H => .mk .normal E ds H) (fun o _ k rs => match o with
    | .light i load g lt f d => askG N g (lightG call i load lt f d k rs) (skV d (k rs))
    | .heavy anc g f d => askG N g (heavyG call rd anc f d k rs) (skV d (k rs))
    | .float t l mk d => floatG t l mk d k rs
    | .bad => fun _ _ _ => .no) l
noncomputable def kindV : Option V → Nat
  | some (.int _ _) => 1
  | some (.sint _ _) => 1
  | some (.bool _) => 2
  | some (.sbool _) => 2
  | some (.str _) => 3
  | some (.ystr _) => 3
  | some (.agg _) => 4
  | some .nilp => 5
  | some (.ptr _ _) => 6
  | some (.gptr _ _) => 6
  | some .nils => 7
  | some (.sl _ _ _ _) => 8
  | some (.slr _ _ _ _) => 8
  | some (.slo _) => 8
  | some (.sle _ _ _ _ _) => 8
  | some (.se _ _ _ _ _) => 8
  | some (.sv _ _) => 8
  | some .nilm => 9
  | some (.map _) => 10
  | _ => 0
noncomputable def eqlB : BinOp → Bool
  | .eql => true
  | .neq => true
  | _ => false
/-- Is it light, at these operands? -/
noncomputable def ltV (N : Nat) (o : Oper) (E : Tr V) : Bool :=
  match o.op with
  | .move _ | .assign _ | .pick .. | .nilCheck _ | .build .. | .makeInterface .. | .makeFunc .. | .fieldAddr .. | .indexAddr .. | .field .. | .extract .. | .index .. | .slice .. | .load .. => true
  | .lookup _ _ x _ => match kindV (rdV N E x) with | 1 => true | 2 => true | 3 => true | _ => false
  | .binOp op _ x y _ => match kindV (rdV N E x), kindV (rdV N E y) with
    | 1, 1 => true
    | 2, 2 => true
    | 3, 3 => true
    | 4, 4 => eqlB op
    | 5, 5 => eqlB op
    | 6, 5 => eqlB op
    | 7, 7 => eqlB op
    | 8, 7 => eqlB op
    | 9, 9 => eqlB op
    | 10, 9 => eqlB op
    | _, _ => false
  | .unOp _ _ x => match kindV (rdV N E x) with | 1 => true | 2 => true | _ => false
  | .convert _ _ x => match kindV (rdV N E x) with | 1 => true | _ => false
  | .typeAssert x _ u _ => (match rdV N E x with | some (.iface d _) => Nat.beq d u | _ => false)
  | .call { callee := .builtin b, args, .. } => match b, args.toList with
    | .len, [x] => (match kindV (rdV N E x) with | 7 => true | 8 => true | 3 => true | 9 => true | 10 => true | _ => false)
    | .cap, [x] => (match kindV (rdV N E x) with | 7 => true | 8 => true | _ => false)
    | .min, [x, y] => (match kindV (rdV N E x), kindV (rdV N E y) with | 1, 1 => true | _, _ => false)
    | .max, [x, y] => (match kindV (rdV N E x), kindV (rdV N E y) with | 1, 1 => true | _, _ => false)
    | _, _ => false
  | _ => false
noncomputable def isDefer : Op → Bool
  | .defer _ => true
  | _ => false
noncomputable def opG (P : Program) (N : Nat) (fl : Bool) (ops : List Oper) (an : List Nat) (c i : Nat) (o : Oper) : OpW → GW
  | .mk f => match Nat.beq c 0 with
    | true => .light i (loadB o) (gdOf ops o) (ltV N o) f o.dst
    | false => match Nat.beq c 1 with
      | true => .heavy (match fl with | true => 0 | false => an.getD i 0) (gdOf ops o) f o.dst
      | false => match layV P o with
        | some (t, l, mk) => .float t l mk o.dst
        | none => .bad
noncomputable def pickG (P : Program) (N : Nat) (fl : Bool) (ops : List Oper) (an cl : List Nat) : List Nat → List GW
  | [] => []
  | i :: l => (match ops[i]? with
    | some o => (match dOK o.dst && !(isDefer o.op) with | true => opG P N fl ops an (cl.getD i 1) i o (decO P N o) | false => .bad)
    | none => .bad) :: pickG P N fl ops an cl l
noncomputable def iterV (f : Tr V → List Df → Hs → Cr) : Nat → Tr V → List Df → Hs → Cr
  | 0, _, _, _ => .no
  | n + 1, E, ds, H => match f E ds H with
    | .mk .normal E ds H => iterV f n E ds H
    | r => r
noncomputable def jumpX : Option Code → Option Ex
  | none => some .normal
  | some .ret => some .ret
  | some (.exit id) => some (.exit id)
  | some (.goto l) => some (.goto l)
  | _ => none
noncomputable def seqV (f g : KV) : KV := fun E ds H => match f E ds H with
  | .mk x E ds H => match x with
    | .normal => g E ds H
    | x => .mk x E ds H
  | .no => .no
noncomputable def condV (c : Tr V → Option V) (f g : KV) : KV := fun E ds H => match c E with
  | some v => match v with
    | .bool b => Bool.rec (g E ds H) (f E ds H) b
    | .sbool b => match askB H b with
      | some (true, H) => f E ds H
      | some (false, H) => g E ds H
      | none => .no
    | _ => .no
  | none => .no
noncomputable def blockV (id : Nat) (f : KV) : KV := fun E ds H => match f E ds H with
  | .mk x E ds H => match x with
    | .exit i => match Nat.beq i id with
      | true => .mk .normal E ds H
      | false => .mk (.exit i) E ds H
    | x => .mk x E ds H
  | .no => .no
noncomputable def scopeV (f : KV) : KV := fun E ds H => match f E ds H with
  | .mk x E ds H => match x with
    | .goto _ => .no
    | x => .mk x E ds H
  | .no => .no
noncomputable def fnO : Option V → Option V
  | some (.fn f a b) => some (.fn f a b)
  | _ => none
noncomputable def rngV (call : CallF) (N : Nat) (rd : Bool) (g : Tr V → Option V) (ps : List Tmp) (as_ body : Code) : KV := fun E ds H => match (match rd || !(roomB H) with | true => none | false => fnO (g E)) with
  | some g => match call g [.yld (H.next + 1)] ((H.new .mark).new (.loop N E ps as_ body (some none))) with
    | .ok _ H3 => match H3.get (H.next + 1) with
      | some (.loop _ _ _ _ _ (some pend)) => match jumpX pend with
        | some x => .mk x E (.mark H.next :: ds) (H3.put (H.next + 1) .gone)
        | none => .no
      | _ => .no
    | _ => .no
  | none => .no
inductive CW where
  | skip
  | reg (l : List DW)
  | drw (l : List GW)
  | seq (a b : CW)
  | cond (c : Tr V → Option V) (x y : CW)
  | block (id : Nat) (c : CW)
  | loop (c : CW)
  | exit (id : Nat)
  | goto (l : Nat)
  | ret
  | scope (c : CW)
  | rng (g : Tr V → Option V) (ps : List Tmp) (as_ body : Code)
  | bad
/-- The whole region: at first without floats. -/
noncomputable def tryG (P : Program) (N : Nat) (fl : Bool) (ops : List Oper) (an cl ord : List Nat) (other : CW) : CW := match chkW ops an cl ord with
  | true => .drw (pickG P N fl ops an cl ord)
  | false => other
noncomputable def flG (P : Program) (N : Nat) (fl : Bool) (ops : List Oper) (an cl : List Nat) (other : CW) : CW := tryG P N fl ops an cl (ordGo ops cl ops.length 0) other
noncomputable def decR (P : Program) (N : Nat) (ops : List Oper) (draw : Bool) : CW := match draw with
  | false => .reg (decL P N ops ops)
  | true => match P.follows .mixedOrders with
    | true => flG P N false ops (ancsGo [] ops) (clsL P false ops (ancsGo [] ops) ops 0) (flG P N true ops (ancsGo [] ops) (clsL P true ops (ancsGo [] ops) ops 0) .bad)
    | false => .bad
noncomputable def decC (P : Program) (N : Nat) : Code → CW
  | .skip => .skip
  | .region _ ops draw => decR P N ops.toList draw
  | .seq a b => .seq (decC P N a) (decC P N b)
  | .cond c x y => .cond (fun E => rdV N E c) (decC P N x) (decC P N y)
  | .block id c => .block id (decC P N c)
  | .loop c => .loop (decC P N c)
  | .exit id => .exit id
  | .label _ => .skip
  | .goto l => .goto l
  | .ret => .ret
  | .scope c => .scope (decC P N c)
  | .rangeFunc g ps as_ body => .rng (fun E => rdV N E g) ps.toList as_ body
  | .refuse _ => .bad
noncomputable def exC (call : CallF) (N lf : Nat) (rd : Bool) (c : CW) : KV :=
  CW.rec (motive := fun _ => KV) (fun E ds H => .mk .normal E ds H) (fun l => opsV call N rd l) (fun l => drawG call N rd l []) (fun _ _ f g => seqV f g) (fun c _ _ f g => condV c f g) (fun id _ f => blockV id f) (fun _ f => iterV f lf)
    (fun id E ds H => .mk (.exit id) E ds H) (fun l E ds H => .mk (.goto l) E ds H) (fun E ds H => .mk .ret E ds H) (fun _ f => scopeV f) (fun g ps as_ body => rngV call N rd g ps as_ body) (fun _ _ _ => .no) c
noncomputable def codeV (P : Program) (call : CallF) (N lf : Nat) (rd : Bool) (c : Code) : KV := exC call N lf rd (decC P N c)
noncomputable def gotoV (P : Program) (call : CallF) (N lf : Nat) (c : Code) : Nat → Cr → Cr
  | 0, _ => .no
  | n + 1, r => match r with
    | .mk (.goto l) E ds H => match findLabel c l with
      | some rest => gotoV P call N lf c n (codeV P call N lf false rest E ds H)
      | none => .no
    | r => r
noncomputable def bodyV (P : Program) (call : CallF) (N lf : Nat) (c : Code) (E : Tr V) (H : Hs) : Cr :=
  match c with
  | .scope c => gotoV P call N lf c lf (codeV P call N lf false c E [] H)
  | c => codeV P call N lf false c E [] H
noncomputable def envV : List V → Nat → Tr V → Tr V
  | [], _, E => E
  | v :: l, i, E => envV l (i + 1) (E.put i v)
noncomputable def resV (P : Program) (N : Nat) (E : Tr V) (H : Hs) : List ResultVar → Option (List V)
  | [] => some []
  | r :: l => match (match r with
      | .tmp t => rdV N E (.tmp t)
      | .cell a t => match rdV N E (.tmp a) with
        | some (.ptr b off) => ldV P H b off t
        | _ => none) with
    | some v => match resV P N E H l with
      | some r => some (v :: r)
      | none => none
    | none => none
noncomputable def tupV : List V → V
  | [v] => v
  | l => .tup l
/-- A deferred function, in a frame that returns or panics: what it leaves of the panic. -/
noncomputable def leftV : Cr → Option Hs
  | .mk .normal _ [] H => some H
  | .mk .ret _ [] H => some H
  | _ => none
noncomputable def plainD (P : Program) (call : CallF) (lf : Nat) (fn : Func) (c : Code) (args : List V) (m : Option V) (H : Hs) : Option (Option V × Hs) :=
  match leftV (codeV P call fn.ntmps lf false c (envV args 0 .nil) [] H) with
  | some H => some (m, H)
  | none => none
noncomputable def runD (P : Program) (call : CallF) (lf : Nat) (f : FuncId) (args : List V) (m : Option V) (H : Hs) : Option (Option V × Hs) :=
  match funcV P f with
  | some fn => match fn.results.toList, hasBodyB P f && (Nat.ble args.length fn.ntmps && Nat.ble fn.ntmps 1000000000) with
    | [], true => (match fn.body with
      | some c => (match c with
        | .seq (.region _ ops false) c1 => (match ops.toList with
          | [⟨some d, .call ⟨.builtin .recover, _, _⟩, _, _, _, none⟩, ⟨some d2, .assign (.tmp d'), _, _, _, none⟩] => (match Nat.beq d d' && (Nat.ble (Nat.succ d) fn.ntmps && Nat.ble d2 999999999) with
            | true => let v := (match m with | some v => v | none => V.nili)
              match leftV (codeV P call fn.ntmps lf false c1 (((envV args 0 .nil).put d v).put d2 v) [] H) with
              | some H => some (none, H)
              | none => none
            | false => none)
          | _ => plainD P call lf fn c args m H)
        | c => plainD P call lf fn c args m H)
      | none => none)
    | _, _ => none
  | none => none
noncomputable def leaveV (P : Program) (call : CallF) (lf : Nat) (fn : Func) (E : Option (Tr V)) : List Df → Option V → Hs → Rs
  | [], none, H => match E with
    | some E => (match resV P fn.ntmps E H fn.results.toList with
      | some l => .ok (tupV l) H
      | none => .no)
    | none => (match fn.results.toList with
      | [] => .ok (tupV []) H
      | _ => .no)
  | [], some v, H => .pan v H
  | .mark b :: ds, m, H => match H.get b with
    | some .mark => leaveV P call lf fn E ds m (H.put b .gone)
    | _ => .no
  | .call f args :: ds, m, H => match runD P call lf f args m H with
    | some (m, H) => leaveV P call lf fn E ds m H
    | none => .no
noncomputable def fnV (P : Program) (call : CallF) (lf : Nat) (fn : Func) (args : List V) (H : Hs) : Rs :=
  match fn.body, Nat.ble args.length fn.ntmps && Nat.ble fn.ntmps 1000000000 with
  | some c, true => match bodyV P call fn.ntmps lf c (envV args 0 .nil) H with
    | .mk x E ds H => match x with
      | .normal => leaveV P call lf fn (some E) ds none H
      | .ret => leaveV P call lf fn (some E) ds none H
      | .pan v => leaveV P call lf fn (some E) ds (some v) H
      | .panu v => leaveV P call lf fn none ds (some v) H
      | _ => .no
    | .no => .no
  | _, _ => .no
/-- Functions without a body: their numbers. -/
structure Xs where
  pure_ : List Nat
  add64 : Nat
  sub64 : Nat
  clones : List (Nat × Nat)
  sums : Nat → List V → Option (Bx × V × V)
noncomputable def extV (X : Xs) (f : Nat) (args : List V) (H : Hs) : Rs :=
  match args with
  | [.int _ (.ofNat a), .int _ (.ofNat b), .int _ (.ofNat c)] => match Nat.ble c 1 with
    | true => (match Nat.beq f X.add64 with
      | true => .ok (.tup [.int .u64 (.ofNat (Nat.mod (Nat.add (Nat.add a b) c) 18446744073709551616)), .int .u64 (.ofNat (Nat.div (Nat.add (Nat.add a b) c) 18446744073709551616))]) H
      | false => match Nat.beq f X.sub64 with
        | true => .ok (.tup [.int .u64 (.ofNat (Nat.mod (Nat.sub (Nat.sub (Nat.add a 18446744073709551616) b) c) 18446744073709551616)), .int .u64 (.ofNat (match Nat.ble (Nat.add b c) a with | true => 0 | false => 1))]) H
        | false => .no)
    | false => .no
  | _ => .no
noncomputable def bindV : List Tmp → List V → Tr V → Option (Tr V)
  | [], [], E => some E
  | p :: ps, v :: vs, E => match Nat.ble p 999999999 with | true => bindV ps vs (E.put p v) | false => none
  | _, _, _ => none
/-! What names no block; numbers brought into one form: so that Lean's kernel knows again what it has reckoned. -/
noncomputable def normN (n : Nat) (K : Nat → Rs) : Rs := Nat.rec (K 0) (fun k _ => K (Nat.succ k)) n
mutual
noncomputable def normV : V → (V → Rs) → Rs
  | .int k (.ofNat n), K => normN n fun n => match k with
    | .i8 => K (.int .i8 (.ofNat n)) | .i16 => K (.int .i16 (.ofNat n)) | .i32 => K (.int .i32 (.ofNat n)) | .i64 => K (.int .i64 (.ofNat n))
    | .u8 => K (.int .u8 (.ofNat n)) | .u16 => K (.int .u16 (.ofNat n)) | .u32 => K (.int .u32 (.ofNat n)) | .u64 => K (.int .u64 (.ofNat n))
  | .int k (.negSucc n), K => normN n fun n => K (.int k (.negSucc n))
  | .bool b, K => match b with | true => K (.bool true) | false => K (.bool false)
  | .agg cs, K => normL cs fun cs => K (.agg cs)
  | .fn f [] [], K => K (.fn f [] [])
  | _, _ => .no
noncomputable def normL : List V → (List V → Rs) → Rs
  | [], K => K []
  | v :: l, K => normV v fun v => normL l fun l => K (v :: l)
end
mutual
def V.flat : V → Bool
  | .bool _ | .sbool _ | .int _ _ | .sint _ _ | .str _ | .ystr _ | .nilp | .nils | .nilm | .nilf | .nili => true
  | .fn _ a b => V.flatL a && V.flatL b
  | .iface _ v => v.flat
  | .agg cs => V.flatL cs
  | .tup cs => V.flatL cs
  | _ => false
def V.flatL : List V → Bool
  | [] => true
  | v :: l => v.flat && V.flatL l
end
def H0 : Hs := ⟨0, .nil, .nil, []⟩
def memN : List Nat → Nat → Bool
  | [], _ => false
  | x :: l, y => match Nat.beq x y with | true => true | false => memN l y
noncomputable def memZ : List (Nat × Nat) → Nat → Option Nat
  | [], _ => none
  | (f, z) :: l, g => match Nat.beq f g with | true => some z | false => memZ l g
noncomputable def backV (H : Hs) : Rs → Rs
  | .ok v _ => match v.flat with | true => .ok v H | false => .no
  | _ => .no
noncomputable def enterF (P : Program) (X : Xs) (call : CallF) (lf : Nat) (f : FuncId) (args : List V) (H : Hs) : Rs := match funcV P f with
  | some fn => match fn.body with
    | some _ => fnV P call lf fn args H
    | none => extV X f args H
  | none => .no
noncomputable def rdyL (H : Hs) (l : Nat) : Bool := match H.get l with
  | some (.loop _ _ _ _ _ (some none)) => true
  | _ => false
noncomputable def bsyL (H : Hs) (l : Nat) : Bool := match H.get l with
  | some (.loop _ _ _ _ _ none) => true
  | _ => false
noncomputable def stopV (l N : Nat) (E : Tr V) (ps : List Tmp) (as_ body : Code) : Cr → Rs
  | .mk x _ [] H3 => match bsyL H3 l with
    | true => (match x with
      | .normal => .ok (.bool true) (H3.put l (.loop N E ps as_ body (some none)))
      | .ret => .ok (.bool false) (H3.put l (.loop N E ps as_ body (some (some .ret))))
      | .exit id => .ok (.bool false) (H3.put l (.loop N E ps as_ body (some (some (.exit id)))))
      | _ => .no)
    | false => .no
  | _ => .no
noncomputable def roundV (P : Program) (call : CallF) (lf : Nat) (l N : Nat) (E : Tr V) (ps : List Tmp) (as_ body : Code) (args : List V) (H : Hs) : Rs := match bindV ps args E with
  | some E1 => match codeV P call N lf true as_ E1 [] H with
    | .mk .normal E2 [] H2 => match rdyL H2 l with
      | true => stopV l N E ps as_ body (codeV P call N lf true body E2 [] (H2.put l (.loop N E ps as_ body none)))
      | false => .no
    | _ => .no
  | none => .no
/-- pu: functions that ask for no memory and leave none: they are reckoned by themselves. -/
noncomputable def callV (P : Program) (X : Xs) (lf : Nat) : Nat → CallF
  | 0 => fun _ _ _ => .no
  | n + 1 => fun g args H => match g with
    | .fn f first cap => match X.sums f (first ++ (args ++ cap)) with
      | some (b, r1, r2) => (match r1.flat && r2.flat, askB H b with
        | true, some (true, H) => .ok r1 H
        | true, some (false, H) => .ok r2 H
        | _, _ => .no)
      | none => match memN X.pure_ f with
        | true => normL (first ++ (args ++ cap)) fun args => backV H (enterF P X (callV P X lf n) lf f args H0)
        | false => match memZ X.clones f, first ++ (args ++ cap) with
          | some z, [.slo b] => (match H.get b, roomB H with
            | some (.opq true z' lc li _), true => (match Nat.beq z' z with | true => .ok (.slo H.next) (H.new (.opq true z lc li [])) | false => .no)
            | _, _ => .no)
          | _, l => enterF P X (callV P X lf n) lf f l H
    | .yld l => match H.get l with
      | some (.loop N E ps as_ body (some none)) => roundV P (callV P X lf n) lf l N E ps as_ body args H
      | _ => .no
    | _ => .no
end Go.Proofs.YtcanicgpkbhhdaaGreatDoor.Rn

namespace Go.Proofs.YtcanicgpkbhhdaaGreatDoor.Rn
open Go Go.RowKit Go.Proofs.YtcanicgpkbhhdaaGreatDoor.Sh
set_option linter.unusedVariables false
set_option linter.unusedSimpArgs false
/-! ### A block as it lies -/
def EnvOK (c : Cx) (n : Nat) (E : Tr V) (e : Env) : Prop := ∀ i, i < 1000000000 → (∃ v, E.get i = some v ∧ v.lt n ∧ e i = v.den c) ∨ (E.get i = none ∧ e i = undef)
theorem EnvOK.agr {c c' : Cx} {n m : Nat} {E : Tr V} {e : Env} (h : EnvOK c n E e) (ha : Agr n c c') (hm : n ≤ m) : EnvOK c' m E e := fun i hi => by
  rcases h i hi with ⟨v, h1, h2, h3⟩ | h1
  · exact .inl ⟨v, h1, V.lt_mono hm v h2, by rw [V.agr ha v h2]; exact h3⟩
  · exact .inr h1
def O.lt (n : Nat) : O → Prop
  | .cells m _ d tr => ∀ i, i < m → (cellOf d tr i).lt n
  | .row f _ _ tr => f < n ∧ ∀ i, i < 1000000000 → ∀ v, tr.get i = some v → v.lt n
  | .map es => ∀ e ∈ es, e.1.lt n ∧ e.2.lt n
  | _ => True
theorem O.lt_mono {n m : Nat} (h : n ≤ m) {o : O} (k : o.lt n) : o.lt m := by
  cases o with
  | cells _ _ d tr => exact fun i hi => V.lt_mono h _ (k i hi)
  | row _ _ _ tr => exact ⟨Nat.lt_of_lt_of_le k.1 h, fun i hi v hv => V.lt_mono h _ (k.2 i hi v hv)⟩
  | map es => exact fun e he => ⟨V.lt_mono h _ (k e he).1, V.lt_mono h _ (k e he).2⟩
  | _ => trivial
def loopAt (c : Cx) (w : World) (b : Nat) : Option (Option Code) → Prop
  | none => w.heap[c.ρ b]? = some (loopObj (c.lp b) .busy none)
  | some none => w.heap[c.ρ b]? = some (loopObj (c.lp b) .ready none)
  | some (some j) => w.heap[c.ρ b]? = some (loopObj (c.lp b) .done (some j))
/-- What a record of a range over a function holds. -/
def LoopTie (c : Cx) (b N : Nat) (E : Tr V) (ps : List Tmp) (as_ body : Code) : Prop :=
  N ≤ 1000000000 ∧ (c.lp b).params = ps.toArray ∧ (c.lp b).assign = as_ ∧ (c.lp b).body = body ∧ ∃ e, EnvOK c b E e ∧ Rel N e [] { tmps := (c.lp b).tmps, defers := [] }
theorem LoopTie.agr {c c' : Cx} {b N n : Nat} {E : Tr V} {ps : List Tmp} {as_ body : Code} (h : LoopTie c b N E ps as_ body) (ha : Agr n c c') (hb : b < n) : LoopTie c' b N E ps as_ body := by
  obtain ⟨h1, h2, h3, h4, e, h5, h6⟩ := h
  unfold LoopTie
  rw [ha.lp b hb]
  exact ⟨h1, h2, h3, h4, e, h5.agr (ha.cut (Nat.le_of_lt hb)) (Nat.le_refl _), h6⟩
/-- v: how many of a row's cells are known. -/
def O.at_ (c : Cx) (w : World) (v b : Nat) : O → Prop
  | .cells n t d tr => n < 1000000000 ∧ ∃ arr : Array Value, w.heap[c.ρ b]? = some (.cells arr t (0, 0)) ∧ (arr.size = n ∧ c.ω b = 0) ∧ ∀ i, i < n → arr[i]? = some ((cellOf d tr i).den c)
  | .row _ t z tr => v < 1000000000 ∧ ∃ arr : Array Value, w.heap[c.ρ b]? = some (.cells arr t (0, 0)) ∧ arr.size = c.ω b + c.κ b * z ∧ c.κ b ≤ maxLen ∧ v ≤ c.κ b * z ∧ 0 < z ∧ ∀ i, i < v → ∃ x, tr.get i = some x ∧ arr[c.ω b + i]? = some (x.den c)
  | .opq sm z lc li fs => 0 < z ∧ Sees w z (c.sv b).1 (c.sv b).2.1 (c.sv b).2.2 (u8s (c.lists li)) ∧ (c.sv b).2.1 = (c.lists lc).length ∧ (sm = true → (c.lists lc).length ≤ 1073741824) ∧ ∀ p ∈ fs, 0 ≤ p.1.den c ∧ p.1.den c ≤ ((c.lists lc).length : Int) ∧ (p.2 = true → p.1.den c < ((c.lists lc).length : Int))
  | .map es => ∃ (ms : Array MapEntry) (ck : Nat), w.heap[c.ρ b]? = some (.map ms ck) ∧ ms.toList.map (fun e => (e.key, e.val)) = es.map fun e => (e.1.den c, e.2.den c)
  | .mark => w.heap[c.ρ b]? = some (.deferred (some []))
  | .gone => True
  | .loop N E ps as_ body st => loopAt c w b st ∧ LoopTie c b N E ps as_ body
/-- The blocks that it speaks of. -/
def O.foot (c : Cx) (b : Nat) : O → Nat → Prop
  | .opq _ _ _ li _, k => c.lists li ≠ [] ∧ ∃ a, (c.sv b).1 = some a ∧ k = a.block
  | .gone, _ => False
  | _, k => k = c.ρ b
def O.own : O → Prop
  | .opq _ _ _ _ _ => False
  | .gone => False
  | _ => True
def O.fam : O → Option Nat
  | .row f _ _ _ => some f
  | _ => none
noncomputable def Hs.valO (H : Hs) (b : Nat) (o : O) : Nat := match o with | .row f _ _ _ => H.val f b | _ => 0
/-- A range over a function: what its yield does. -/
def YieldOK (P : Program) (c : Cx) (b : Nat) (Rd : Nat → Loop → List Value → World → (Value → World → Prop) → Prop) : Prop :=
  ∀ (args : List Value) (w : World) (F : Value → World → Prop), Rd (c.ρ b) (c.lp b) args w F → callVal P (.func (.yield (c.ρ b)) #[] #[]) args.toArray w F
/-- Against what it is told: a world, the blocks of it that may be turned, those that are looked at. -/
structure Bs where
  w : World
  S : Nat → Prop
  I : Nat → Prop
/-- May a block be spoken of? -/
def Bs.in_ (B : Bs) (own : Prop) (k : Nat) : Prop := B.w.heap.size ≤ k ∨ B.S k ∨ (¬ own ∧ B.I k)
structure Rep (c : Cx) (w0 : Bs) (w : World) (H : Hs) : Prop where
  bl : Ext w0.S w0.w w
  lt : ∀ b o, b < 1000000000 → H.get b = some o → b < H.next ∧ o.lt H.next
  at_ : ∀ b o, b < H.next → H.get b = some o → o.at_ c w (H.valO b o) b
  inn : ∀ b o, b < H.next → H.get b = some o → ∀ k, o.foot c b k → w0.in_ o.own k
  ap : ∀ b b' o o', b < H.next → b' < H.next → H.get b = some o → H.get b' = some o' → b ≠ b' → o.own → ∀ k, k = c.ρ b → o'.foot c b' k → o.fam ≠ none ∧ o.fam = o'.fam ∧ (c.ω b = c.ω b' ∨ H.valO b o = 0 ∨ H.valO b' o' = 0)
  exp : ∀ p ∈ H.exp, p.1.den c = p.2
  sz : H.next < 1000000000
theorem O.at_.agr {c c' : Cx} {w : World} {v b : Nat} {o : O} {n : Nat} (h : o.at_ c w v b) (ha : Agr n c c') (hb : b < n) (ho : o.lt n) : o.at_ c' w v b := by
  cases o with
  | cells m t d tr =>
    obtain ⟨h0, arr, h1, h2, h3⟩ := h
    exact ⟨h0, arr, by rw [ha.ρ b hb]; exact h1, ⟨h2.1, (ha.ω b hb).trans h2.2⟩, fun i hi => by rw [V.agr ha _ (ho i hi)]; exact h3 i hi⟩
  | row f t z tr =>
    obtain ⟨h0, arr, h1, h2, h3, h4, h5, h6⟩ := h
    refine ⟨h0, arr, by rw [ha.ρ b hb]; exact h1, by rw [ha.κ b hb, ha.ω b hb]; exact h2, by rw [ha.κ b hb]; exact h3, by rw [ha.κ b hb]; exact h4, h5, fun i hi => ?_⟩
    obtain ⟨x, h7, h8⟩ := h6 i hi
    exact ⟨x, h7, by rw [V.agr ha _ (ho.2 i (by omega) x h7), ha.ω b hb]; exact h8⟩
  | opq sm z lc li fs =>
    obtain ⟨h0, h1, h2, h3, h4⟩ := h
    refine ⟨h0, ?_, ?_, ?_, fun p hp => ?_⟩
    · rw [ha.sv b hb, ha.lists]; exact h1
    · rw [ha.sv b hb, ha.lists]; exact h2
    · rw [ha.lists]; exact h3
    · rw [ha.lists, Sx.agr ha]; exact h4 p hp
  | map es =>
    obtain ⟨ms, ck, h1, h2⟩ := h
    refine ⟨ms, ck, by rw [ha.ρ b hb]; exact h1, by rw [h2]; exact List.map_congr_left fun e he => by rw [V.agr ha _ (ho e he).1, V.agr ha _ (ho e he).2]⟩
  | mark => show _ = _; rw [ha.ρ b hb]; exact h
  | gone => trivial
  | loop N E ps as_ body st =>
    obtain ⟨h, ht⟩ := h
    refine ⟨?_, ht.agr ha hb⟩
    unfold loopAt at *
    rw [ha.ρ b hb, ha.lp b hb]
    exact h
theorem O.foot_agr {c c' : Cx} {b k n : Nat} {o : O} (ha : Agr n c c') (hb : b < n) : o.foot c' b k ↔ o.foot c b k := by
  cases o <;> simp only [O.foot, ha.ρ b hb, ha.sv b hb, ha.lists]
/-- What stands where nothing was turned. -/
theorem O.at_.keep {c : Cx} {w w' : World} {v b : Nat} {o : O} (h : o.at_ c w v b) (hk : ∀ k, o.foot c b k → w'.heap[k]? = w.heap[k]?) : o.at_ c w' v b := by
  cases o with
  | cells m t d tr => obtain ⟨h0, arr, h1, h2⟩ := h; exact ⟨h0, arr, (hk _ rfl).trans h1, h2⟩
  | row f t z tr => obtain ⟨h0, arr, h1, h2⟩ := h; exact ⟨h0, arr, (hk _ rfl).trans h1, h2⟩
  | opq sm z lc li fs =>
    obtain ⟨h0, h2, hs⟩ := h
    refine ⟨h0, ⟨h2.len, h2.le, fun j u hj => ?_⟩, hs⟩
    obtain ⟨a, ha, hc⟩ := h2.at_ j u hj
    refine ⟨a, ha, ?_⟩
    rw [← hc]
    simp only [World.cell?, blockAdd]
    rw [hk a.block ⟨fun e => by rw [e] at hj; simp [u8s] at hj, a, ha, rfl⟩]
  | map es => obtain ⟨ms, ck, h1, h2⟩ := h; exact ⟨ms, ck, (hk _ rfl).trans h1, h2⟩
  | mark => exact (hk _ rfl).trans h
  | gone => trivial
  | loop N E ps as_ body st =>
    obtain ⟨h, ht⟩ := h
    have e : w'.heap[c.ρ b]? = w.heap[c.ρ b]? := hk _ rfl
    refine ⟨?_, ht⟩
    unfold loopAt at *
    rw [e]
    exact h
theorem O.at_.cut {c : Cx} {w : World} {v v' b : Nat} {o : O} (h : o.at_ c w v b) (hv : v' ≤ v) : o.at_ c w v' b := by
  cases o with
  | row f t z tr =>
    obtain ⟨h0, arr, h1, h2, h3, h4, h5, h6⟩ := h
    exact ⟨by omega, arr, h1, h2, h3, by omega, h5, fun i hi => h6 i (by omega)⟩
  | _ => exact h
theorem O.own_foot {c : Cx} {b k : Nat} {o : O} (h : o.own) : o.foot c b k ↔ k = c.ρ b := by
  cases o <;> first | exact h.elim | rfl
theorem O.at_.foot_lt {c : Cx} {w : World} {v b k : Nat} {o : O} (h : o.at_ c w v b) (hk : o.foot c b k) : k < w.heap.size := by
  have key : ∀ {x : Obj} {k : Nat}, w.heap[k]? = some x → k < w.heap.size := fun {x k} hx => by
    by_cases hb : k < w.heap.size
    · exact hb
    · rw [Array.getElem?_eq_none (Nat.le_of_not_lt hb)] at hx; cases hx
  cases o with
  | cells m t d tr => obtain ⟨h0, arr, h1, _⟩ := h; cases hk; exact key h1
  | row f t z tr => obtain ⟨h0, arr, h1, _⟩ := h; cases hk; exact key h1
  | opq sm z lc li fs =>
    obtain ⟨hz, h2, hs⟩ := h
    obtain ⟨h0, a, h3, rfl⟩ := hk
    rw [h3] at h2
    have hl := h2.len
    rw [u8s_len] at hl
    have hp : 0 < (c.lists li).length := List.length_pos_iff.2 h0
    obtain ⟨a', ha', hlt⟩ := h2.addr hz (by rcases Nat.eq_zero_or_pos (c.sv b).2.1 with e | e; (rw [e] at hl; omega); exact e)
    cases ha'
    exact hlt
  | map es => obtain ⟨ms, ck, h1, _⟩ := h; cases hk; exact key h1
  | mark => cases hk; exact key h
  | gone => exact hk.elim
  | loop N E ps as_ body st =>
    obtain ⟨h, ht⟩ := h
    cases hk
    unfold loopAt at h
    split at h <;> exact key h
/-- A name more. -/
def Cx.addO (c : Cx) (n r o k : Nat) : Cx := { c with ρ := fun b => if b = n then r else c.ρ b, ω := fun b => if b = n then o else c.ω b, κ := fun b => if b = n then k else c.κ b }
theorem Cx.addO_agr (c : Cx) (n r o k : Nat) : Agr n c (c.addO n r o k) :=
  ⟨fun b hb => by simp only [Cx.addO]; rw [if_neg (by omega)], fun b hb => by simp only [Cx.addO]; rw [if_neg (by omega)], fun b hb => by simp only [Cx.addO]; rw [if_neg (by omega)], rfl, rfl, rfl, fun _ _ => rfl, fun _ _ => rfl, fun _ _ => rfl⟩
theorem Cx.addO_ρ (c : Cx) (n r o k : Nat) : (c.addO n r o k).ρ n = r := by simp [Cx.addO]
theorem Cx.addO_ω (c : Cx) (n r o k : Nat) : (c.addO n r o k).ω n = o := by simp [Cx.addO]
theorem Cx.addO_κ (c : Cx) (n r o k : Nat) : (c.addO n r o k).κ n = k := by simp [Cx.addO]
def Cx.add (c : Cx) (n r k : Nat) : Cx := c.addO n r 0 k
theorem Cx.add_agr (c : Cx) (n r k : Nat) : Agr n c (c.add n r k) := c.addO_agr n r 0 k
theorem Cx.add_ρ (c : Cx) (n r k : Nat) : (c.add n r k).ρ n = r := c.addO_ρ n r 0 k
theorem Cx.add_ω (c : Cx) (n r k : Nat) : (c.add n r k).ω n = 0 := c.addO_ω n r 0 k
theorem Cx.add_κ (c : Cx) (n r k : Nat) : (c.add n r k).κ n = k := c.addO_κ n r 0 k
/-- One name more: of a block that nobody spoke of, or of a row's own. -/
theorem Rep.growG {c c' : Cx} {w0 : Bs} {w w' : World} {H H' : Hs} {o : O} (h : Rep c w0 w H) (ha : Agr H.next c c') (hb : Bl w w') (hn : H'.next = H.next + 1) (hz : H.next + 1 < 1000000000) (ht : H'.tr = H.tr.put H.next o) (he : H'.exp = H.exp)
    (hv : ∀ b o, b < H.next → H.get b = some o → H'.valO b o ≤ H.valO b o) (hl : o.lt (H.next + 1)) (hat : o.at_ c' w' (H'.valO H.next o) H.next) (hnew : ∀ k, o.foot c' H.next k → w.heap.size ≤ k ∨ ∀ u ou, u < H.next → H.get u = some ou → ou.foot c u k → o.fam ≠ none ∧ o.fam = ou.fam ∧ (c'.ω H.next = c.ω u ∨ H'.valO H.next o = 0 ∨ H'.valO u ou = 0)) (hown : ∀ k, o.foot c' H.next k → w0.in_ o.own k) : Rep c' w0 w' H' := by
  have hget : ∀ b, b < 1000000000 → H'.get b = if b = H.next then some o else H.get b := fun b hb => by
    show H'.tr.get b = _
    rw [ht, Tr.get_put _ _ (by omega) hb]
    rfl
  have hsz := h.bl.size
  refine ⟨h.bl.trans (Ext.of_bl (S := fun _ => False) hb) fun _ _ h => h.elim, fun b o' hb9 ho => ?_, fun b o' hb9 ho => ?_, fun b o' hb9 ho k hk => ?_, fun b b' o1 o2 hb1 hb2 h1 h2 hne hw k hk1 hk2 => ?_, fun p hp => ?_, by omega⟩
  · rw [hget b hb9] at ho
    split at ho
    · rename_i e; cases ho; subst e; rw [hn]; exact ⟨by omega, hl⟩
    · obtain ⟨g1, g2⟩ := h.lt b o' hb9 ho
      rw [hn]; exact ⟨by omega, O.lt_mono (by omega) g2⟩
  · rw [hget b (by omega)] at ho
    split at ho
    · rename_i e; cases ho; subst e; exact hat
    · have hbn : b < H.next := by omega
      have g := h.at_ b o' hbn ho
      have g2 := (h.lt b o' (by omega) ho).2
      refine ((g.cut (hv b o' hbn ho)).keep fun k hk => hb.block k (g.foot_lt hk)).agr ha hbn g2
  · rw [hget b (by omega)] at ho
    split at ho
    · rename_i e; cases ho; subst e; exact hown k hk
    · have hbn : b < H.next := by omega
      exact h.inn b o' hbn ho k ((O.foot_agr ha hbn).1 hk)
  · rw [hget b (by omega)] at h1
    rw [hget b' (by omega)] at h2
    split at h1
    · rename_i e; cases h1; subst e
      split at h2
      · rename_i e2; exact absurd e2.symm hne
      · have hbn : b' < H.next := by omega
        have hf2 := (O.foot_agr ha hbn).1 hk2
        have g := (h.at_ b' o2 hbn h2).foot_lt hf2
        rcases hnew k ((O.own_foot hw).2 hk1) with h3 | h3
        · omega
        · have h4 := h3 b' o2 hbn h2 hf2
          rw [ha.ω b' hbn]
          exact h4
    · have hbn : b < H.next := by omega
      split at h2
      · rename_i e2; cases h2; subst e2
        have hf2 : o1.foot c b k := (O.own_foot hw).2 (by rw [hk1, ha.ρ b hbn])
        have g := (h.at_ b o1 hbn h1).foot_lt hf2
        rcases hnew k hk2 with h3 | h3
        · omega
        · have h4 := h3 b o1 hbn h1 hf2
          rw [← h4.2.1, ha.ω b hbn]
          refine ⟨h4.1, rfl, ?_⟩
          rcases h4.2.2 with g | g | g
          · exact .inl g.symm
          · exact .inr (.inr g)
          · exact .inr (.inl g)
      · have hbn2 : b' < H.next := by omega
        have g := h.ap b b' o1 o2 hbn hbn2 h1 h2 hne hw k (by rw [hk1, ha.ρ b hbn]) ((O.foot_agr ha hbn2).1 hk2)
        have v1 := hv b o1 hbn h1
        have v2 := hv b' o2 hbn2 h2
        rw [ha.ω b hbn, ha.ω b' hbn2]
        exact ⟨g.1, g.2.1, g.2.2.imp id (Or.imp (by omega) (by omega))⟩
  · rw [he] at hp
    rw [Bx.agr ha]
    exact h.exp p hp
/-- One block more, that nobody spoke of. -/
theorem Rep.grow1 {c c' : Cx} {w0 : Bs} {w w' : World} {H H' : Hs} {o : O} (h : Rep c w0 w H) (ha : Agr H.next c c') (hb : Bl w w') (hn : H'.next = H.next + 1) (hz : H.next + 1 < 1000000000) (ht : H'.tr = H.tr.put H.next o) (he : H'.exp = H.exp)
    (hv : ∀ b o, b < H.next → H.get b = some o → H'.valO b o ≤ H.valO b o) (hl : o.lt (H.next + 1)) (hat : o.at_ c' w' (H'.valO H.next o) H.next) (hnew : ∀ k, o.foot c' H.next k → w.heap.size ≤ k) (hown : o.own → w.heap.size ≤ c'.ρ H.next) : Rep c' w0 w' H' :=
  h.growG ha hb hn hz ht he hv hl hat (fun k hk => .inl (hnew k hk)) fun k hk => .inl (Nat.le_trans h.bl.size (hnew k hk))
theorem Rep.own_in {c : Cx} {w0 : Bs} {w : World} {H : Hs} {b : Nat} {o : O} (h : Rep c w0 w H) (hb : b < H.next) (ho : H.get b = some o) (hw : o.own) : w0.w.heap.size ≤ c.ρ b ∨ w0.S (c.ρ b) := by
  rcases h.inn b o hb ho _ ((O.own_foot hw).2 rfl) with h1 | h1 | h1
  · exact .inl h1
  · exact .inr h1
  · exact absurd hw h1.1
/-- One block turned; those that share it are told anew. -/
theorem Rep.chg {c : Cx} {w0 : Bs} {w w' : World} {H H' : Hs} {b : Nat} {o o' : O} (h : Rep c w0 w H) (hb : b < H.next) (ho : H.get b = some o) (hw : o.own) (he : Ext (· = c.ρ b) w w') (hn : H'.next = H.next) (ht : H'.tr = H.tr.put b o') (hx : H'.exp = H.exp)
    (hs : (o'.own ∧ o'.fam = o.fam ∧ H'.valO b o' ≤ H.valO b o) ∨ o' = .gone) (hl : o'.lt H.next) (hat : o'.at_ c w' (H'.valO b o') b)
    (hoth : ∀ u ou, u < H.next → u ≠ b → H.get u = some ou → H'.valO u ou ≤ H.valO u ou ∧ (ou.foot c u (c.ρ b) → ou.at_ c w' (H'.valO u ou) u)) : Rep c w0 w' H' := by
  have hz := h.sz
  have hget : ∀ u, u < 1000000000 → H'.get u = if u = b then some o' else H.get u := fun u hu => by
    show H'.tr.get u = _
    rw [ht, Tr.get_put _ _ (by omega) hu]
    rfl
  have hnew := h.own_in hb ho hw
  refine ⟨?_, fun u ou hu9 hu => ?_, fun u ou hu9 hu => ?_, fun u ou hu9 hu k hk => ?_, fun u u' o1 o2 hb1 hb2 h1 h2 hne hw1 k hk1 hk2 => ?_, fun p hp => h.exp p (by rw [hx] at hp; exact hp), by omega⟩
  · refine h.bl.trans he fun k hk h' => ?_
    subst h'
    rcases hnew with h1 | h1
    · omega
    · exact h1
  · rw [hget u hu9] at hu
    split at hu
    · rename_i e; cases hu; subst e; rw [hn]; exact ⟨hb, hl⟩
    · rw [hn]; exact h.lt u ou hu9 hu
  · rw [hget u (by omega)] at hu
    split at hu
    · rename_i e; cases hu; subst e; exact hat
    · rename_i hub
      obtain ⟨g1, g2⟩ := hoth u ou (by omega) hub hu
      by_cases hf : ou.foot c u (c.ρ b)
      · exact g2 hf
      · have g := h.at_ u ou (by omega) hu
        refine (g.cut g1).keep fun k hk => he.block k (g.foot_lt hk) fun e => hf (e ▸ hk)
  · rw [hget u (by omega)] at hu
    split at hu
    · rename_i e
      cases hu
      subst e
      rcases hs with hs | hs
      · have hk3 := (O.own_foot hs.1).1 hk
        subst hk3
        rcases hnew with h1 | h1
        · exact .inl h1
        · exact .inr (.inl h1)
      · subst hs; exact hk.elim
    · exact h.inn u ou (by omega) hu k hk
  · rw [hget u (by omega)] at h1
    rw [hget u' (by omega)] at h2
    split at h1
    · rename_i e; cases h1; subst e
      split at h2
      · rename_i e2; exact absurd e2.symm hne
      · have g := h.ap u u' o o2 hb (by omega) ho h2 hne hw k hk1 hk2
        have v2 := (hoth u' o2 (by omega) (fun e => hne e.symm) h2).1
        rcases hs with hs | hs
        · rw [hs.2.1]
          have v1 := hs.2.2
          exact ⟨g.1, g.2.1, g.2.2.imp id (Or.imp (by omega) (by omega))⟩
        · subst hs; exact hw1.elim
    · rename_i hub
      split at h2
      · rename_i e2; cases h2; subst e2
        rcases hs with hs | hs
        · have hk3 := (O.own_foot hs.1).1 hk2
          have g := h.ap u' u o o1 hb (by omega) ho h1 (fun e => hne e.symm) hw k hk3 ((O.own_foot hw1).2 hk1)
          have v1 := hs.2.2
          have v2 := (hoth u o1 (by omega) hub h1).1
          rw [hs.2.1, ← g.2.1]
          refine ⟨g.1, rfl, ?_⟩
          rcases g.2.2 with g | g | g
          · exact .inl g.symm
          · exact .inr (.inr (by omega))
          · exact .inr (.inl (by omega))
        · subst hs; exact hk2.elim
      · rename_i hub2
        have g := h.ap u u' o1 o2 (by omega) (by omega) h1 h2 hne hw1 k hk1 hk2
        have v1 := (hoth u o1 (by omega) hub h1).1
        have v2 := (hoth u' o2 (by omega) hub2 h2).1
        exact ⟨g.1, g.2.1, g.2.2.imp id (Or.imp (by omega) (by omega))⟩
/-- The same, of a block that nobody shares. -/
theorem Rep.chg1 {c : Cx} {w0 : Bs} {w w' : World} {H : Hs} {b : Nat} {o o' : O} (h : Rep c w0 w H) (hb : b < H.next) (ho : H.get b = some o) (hw : o.own) (hf : o.fam = none) (he : Ext (· = c.ρ b) w w')
    (hs : (o'.own ∧ o'.fam = none) ∨ o' = .gone) (hl : o'.lt H.next) (hat : o'.at_ c w' 0 b) : Rep c w0 w' (H.put b o') := by
  have hv : ∀ o' : O, o'.fam = none → (H.put b o').valO b o' = 0 := fun o' h' => by cases o' <;> first | rfl | cases h'
  refine h.chg (o' := o') (H' := H.put b o') hb ho hw he rfl rfl rfl (hs.imp (fun h' => ⟨h'.1, by rw [h'.2, hf], by rw [hv o' h'.2]; exact Nat.zero_le _⟩) id) hl ?_ fun u ou hu hub hou => ⟨?_, fun hft => ?_⟩
  · rw [hv o' (hs.elim (·.2) fun e => by subst e; rfl)]
    exact hat
  · cases ou <;> exact Nat.le_refl _
  · exact absurd hf (h.ap b u o ou hb hu ho hou (fun e => hub e.symm) hw _ rfl hft).1
/-- Only what is asked goes on. -/
theorem Rep.ask {c : Cx} {w0 : Bs} {w : World} {H : Hs} {r : List (Bx × Bool)} (h : Rep c w0 w H) (hr : ∀ p ∈ r, p ∈ H.exp) : Rep c w0 w ⟨H.next, H.tr, H.fam, r⟩ :=
  ⟨h.bl, h.lt, fun b o hb ho => by
    have := h.at_ b o hb ho
    cases o <;> exact this, h.inn, fun b b' o o' hb hb' ho ho' hne hw k hk hf => by
    have := h.ap b b' o o' hb hb' ho ho' hne hw k hk hf
    cases o <;> cases o' <;> exact this, fun p hp => h.exp p (hr p hp), h.sz⟩
/-- More is known of a row that is only looked at. -/
theorem Rep.tell {c : Cx} {w0 : Bs} {w : World} {H : Hs} {b z lc li : Nat} {sm : Bool} {fs fs' : List (Sx × Bool)} (h : Rep c w0 w H) (hb : b < H.next) (ho : H.get b = some (.opq sm z lc li fs)) (hf : ∀ p ∈ fs', 0 ≤ p.1.den c ∧ p.1.den c ≤ ((c.lists lc).length : Int) ∧ (p.2 = true → p.1.den c < ((c.lists lc).length : Int))) : Rep c w0 w (H.put b (.opq sm z lc li fs')) := by
  have hz := h.sz
  have hget : ∀ u, u < 1000000000 → (H.put b (.opq sm z lc li fs')).get u = if u = b then some (.opq sm z lc li fs') else H.get u := fun u hu => by
    show (H.tr.put b _).get u = _
    rw [Tr.get_put _ _ (by omega) hu]
    rfl
  have hat : (O.opq sm z lc li fs).at_ c w 0 b := h.at_ b _ hb ho
  have hv : ∀ u ou, (H.put b (.opq sm z lc li fs')).valO u ou = H.valO u ou := fun u ou => by cases ou <;> rfl
  refine ⟨h.bl, fun u ou hu9 hu => ?_, fun u ou hu9 hu => ?_, fun u ou hu9 hu k hk => ?_, fun u u' o1 o2 hb1 hb2 h1 h2 hne hw k hk1 hk2 => ?_, h.exp, h.sz⟩
  · rw [hget u hu9] at hu
    split at hu
    · rename_i e; cases hu; rw [e]; exact ⟨hb, trivial⟩
    · exact h.lt u ou hu9 hu
  · have hu9 : u < H.next := hu9
    rw [hget u (by omega)] at hu
    rw [hv]
    split at hu
    · rename_i e; cases hu; rw [e]
      exact ⟨hat.1, hat.2.1, hat.2.2.1, hat.2.2.2.1, hf⟩
    · exact h.at_ u ou hu9 hu
  · have hu9 : u < H.next := hu9
    rw [hget u (by omega)] at hu
    split at hu
    · rename_i e; cases hu; subst e; exact h.inn u _ hb ho k hk
    · exact h.inn u ou hu9 hu k hk
  · have hb1 : u < H.next := hb1
    have hb2 : u' < H.next := hb2
    rw [hget u (by omega)] at h1
    rw [hget u' (by omega)] at h2
    rw [hv, hv]
    split at h1
    · cases h1; exact hw.elim
    · split at h2
      · rename_i e; cases h2; subst e
        have q := h.ap u u' o1 _ hb1 hb h1 ho hne hw k hk1 hk2
        exact q
      · exact h.ap u u' o1 o2 hb1 hb2 h1 h2 hne hw k hk1 hk2
/-- The world drew. -/
theorem Rep.world {c : Cx} {w0 : Bs} {w w' : World} {H : Hs} (h : Rep c w0 w H) (hb : Bl w w') : Rep c w0 w' H :=
  ⟨h.bl.trans (Ext.of_bl (S := fun _ => False) hb) fun _ _ h => h.elim, h.lt, fun b o hbn ho => (h.at_ b o hbn ho).keep fun k hk => hb.block k ((h.at_ b o hbn ho).foot_lt hk), h.inn, h.ap, h.exp, h.sz⟩
/-! Told against what lies there now: what is not spoken of stays. -/
def ownS (c : Cx) (H : Hs) (k : Nat) : Prop := ∃ b o, b < H.next ∧ H.get b = some o ∧ o.own ∧ k = c.ρ b
def footS (c : Cx) (H : Hs) (k : Nat) : Prop := ∃ b o, b < H.next ∧ H.get b = some o ∧ o.foot c b k
def Bs.at_ (c : Cx) (H : Hs) (w : World) : Bs := ⟨w, ownS c H, footS c H⟩
theorem Rep.rebase {c : Cx} {w0 : Bs} {w : World} {H : Hs} (h : Rep c w0 w H) : Rep c (Bs.at_ c H w) w H :=
  ⟨Ext.refl w, h.lt, h.at_, fun b o hb ho k hk => by
    by_cases ho' : o.own
    · exact .inr (.inl ⟨b, o, hb, ho, ho', (O.own_foot ho').1 hk⟩)
    · exact .inr (.inr ⟨ho', b, o, hb, ho, hk⟩), h.ap, h.exp, h.sz⟩
theorem Rep.back {c c' : Cx} {w0 : Bs} {w w' : World} {H H' : Hs} (h : Rep c w0 w H) (k : Rep c' (Bs.at_ c H w) w' H') : Rep c' w0 w' H' := by
  have hsz := h.bl.size
  refine ⟨h.bl.trans k.bl fun i hi hS => ?_, k.lt, k.at_, fun b o hb ho i hi => ?_, k.ap, k.exp, k.sz⟩
  · obtain ⟨b, o, h1, h2, h3, rfl⟩ := hS
    rcases h.own_in h1 h2 h3 with g | g
    · omega
    · exact g
  · rcases k.inn b o hb ho i hi with g | ⟨b', o', h1, h2, h3, rfl⟩ | ⟨g, b', o', h1, h2, h3⟩
    · exact .inl (Nat.le_trans hsz g)
    · rcases h.own_in h1 h2 h3 with g | g
      · exact .inl g
      · exact .inr (.inl g)
    · rcases h.inn b' o' h1 h2 i h3 with g' | g' | g'
      · exact .inl g'
      · exact .inr (.inl g')
      · exact .inr (.inr ⟨g, g'.2⟩)
theorem opB_eq {o o' : BinOp} (h : Nat.beq (opB o) (opB o') = true) : o = o' := by cases o <;> cases o' <;> first | rfl | (simp [opB] at h)
theorem kB_eq {k k' : IntKind} (h : Nat.beq (kB k) (kB k') = true) : k = k' := by cases k <;> cases k' <;> first | rfl | (simp [kB] at h)
theorem intB_eq {i j : Int} (h : intB i j = true) : i = j := by cases i <;> cases j <;> simp [intB] at h <;> rw [h]
theorem Sx.beq_eq : ∀ {a b : Sx}, a.beq b = true → a = b
  | .var i, b, h => by cases b <;> simp [Sx.beq] at h; rw [h]
  | .lit i, b, h => by
    cases b with
    | lit j => rw [intB_eq h]
    | _ => simp [Sx.beq] at h
  | .len i, b, h => by cases b <;> simp [Sx.beq] at h; rw [h]
  | .bin o k x y, b, h => by
    cases b with
    | bin o' k' x' y' =>
      simp only [Sx.beq, Bool.and_eq_true] at h
      obtain ⟨h1, h2, h3, h4⟩ := h
      rw [opB_eq h1, kB_eq h2, Sx.beq_eq h3, Sx.beq_eq h4]
    | _ => simp [Sx.beq] at h
  | .cvt k x, b, h => by
    cases b with
    | cvt k' x' =>
      simp only [Sx.beq, Bool.and_eq_true] at h
      rw [kB_eq h.1, Sx.beq_eq h.2]
    | _ => simp [Sx.beq] at h
  | .byt l z x j, b, h => by
    cases b with
    | byt l' z' x' j' =>
      simp only [Sx.beq, Bool.and_eq_true] at h
      rw [Nat.eq_of_beq_eq_true h.1, Nat.eq_of_beq_eq_true h.2.1, Nat.eq_of_beq_eq_true h.2.2.1, Sx.beq_eq h.2.2.2]
    | _ => simp [Sx.beq] at h
  | .rest l x n, b, h => by
    cases b with
    | rest l' x' n' =>
      simp only [Sx.beq, Bool.and_eq_true] at h
      rw [Nat.eq_of_beq_eq_true h.1, Nat.eq_of_beq_eq_true h.2.1, Sx.beq_eq h.2.2]
    | _ => simp [Sx.beq] at h
theorem Bx.beq_eq : ∀ {a b : Bx}, a.beq b = true → a = b
  | .var i, b, h => by cases b <;> simp [Bx.beq] at h; rw [h]
  | .lit i, b, h => by
    cases b with
    | lit j => cases i <;> cases j <;> first | rfl | (simp [Bx.beq] at h)
    | _ => simp [Bx.beq] at h
  | .cmp o x y, b, h => by
    cases b with
    | cmp o' x' y' =>
      simp only [Bx.beq, Bool.and_eq_true] at h
      obtain ⟨h1, h3, h4⟩ := h
      rw [opB_eq h1, Sx.beq_eq h3, Sx.beq_eq h4]
    | _ => simp [Bx.beq] at h
  | .not x, b, h => by
    cases b with
    | not x' => rw [Bx.beq_eq (a := x) (b := x') h]
    | _ => simp [Bx.beq] at h
  | .and x y, b, h => by
    cases b with
    | and x' y' =>
      simp only [Bx.beq, Bool.and_eq_true] at h
      rw [Bx.beq_eq h.1, Bx.beq_eq h.2]
    | _ => simp [Bx.beq] at h
  | .b8 x y, b, h => by
    cases b with
    | b8 x' y' =>
      simp only [Bx.beq, Bool.and_eq_true] at h
      rw [Sx.beq_eq h.1, Sx.beq_eq h.2]
    | _ => simp [Bx.beq] at h
/-- What is asked is so. -/
theorem askB_ok {c : Cx} {w0 : Bs} {w : World} {H H' : Hs} {x : Bx} {b : Bool} (h : Rep c w0 w H) (hx : askB H x = some (b, H')) : x.den c = b ∧ Rep c w0 w H' ∧ H'.next = H.next := by
  have key : (match H.exp with | (y, o) :: r => (match y.beq x with | true => some (o, (⟨H.next, H.tr, H.fam, r⟩ : Hs)) | false => none) | [] => none) = some (b, H') → x.den c = b ∧ Rep c w0 w H' ∧ H'.next = H.next := fun hx => by
    cases he : H.exp with
    | nil => rw [he] at hx; cases hx
    | cons p r =>
      obtain ⟨y, o⟩ := p
      rw [he] at hx
      simp only at hx
      cases hq : y.beq x with
      | false => rw [hq] at hx; cases hx
      | true =>
        rw [hq] at hx
        simp only [Option.some.injEq, Prod.mk.injEq] at hx
        obtain ⟨rfl, rfl⟩ := hx
        have := h.exp (y, o) (by rw [he]; exact List.mem_cons_self)
        rw [← Bx.beq_eq hq]
        exact ⟨this, h.ask fun p hp => by rw [he]; exact List.mem_cons_of_mem _ hp, rfl⟩
  cases x with
  | lit v => simp only [askB, Option.some.injEq, Prod.mk.injEq] at hx; obtain ⟨rfl, rfl⟩ := hx; exact ⟨rfl, h, rfl⟩
  | _ => exact key hx
end Go.Proofs.YtcanicgpkbhhdaaGreatDoor.Rn

namespace Go.Proofs.YtcanicgpkbhhdaaGreatDoor.Sh
open Go Go.RowKit
set_option linter.unusedVariables false
set_option linter.unusedSimpArgs false
theorem madeRep (z : Value) (n : Nat) : madeCells #[z] n = (List.replicate n z).toArray := by
  unfold madeCells
  apply Array.ext
  · simp
  · intro i h1 h2
    have hm : i % 1 = 0 := Nat.mod_one i
    simp [hm]
section
variable {P : Program} {Z : Nat → Prop} {w0 w : World} {L M : List Ent}
/-- make(t, n, n). -/
theorem makeN {t e by' n : Nat} {z : Value} {k1 k2 : IntKind} {F : Value → World → Prop} (h : Hp Z w0 w L) (ht : P.underlying t = some (.slice e)) (hi : (P.info? e).map (fun i => (i.zero, i.size, i.bytes)) = some (some z, 1, by')) (hz : z.cells = #[z]) (hn : n ≤ 1073741824) (hb : by' ≤ 65536)
    (kk : ∀ w', Hp Z w0 w' (.own w.heap.size (List.replicate n z).toArray e :: L) → Bl w w' → F (.slice (some ⟨w.heap.size, 0, none⟩) n n) w') :
    semK P (Instr.makeSlice t (.int k1 (n : Int)) (.int k2 (n : Int))) w F := by
  obtain ⟨i, hi', hzz⟩ := Option.map_eq_some_iff.1 hi
  simp only [Prod.mk.injEq] at hzz
  obtain ⟨hz0, hs, hbb⟩ := hzz
  have hm : maxLen = 9223372036854775807 := rfl
  have hbn : i.bytes * n ≤ 65536 * 1073741824 := Nat.mul_le_mul (by omega) hn
  have hb1 : (i.bytes : Int) * (n : Int) ≤ 281474976710656 := by
    have h : ((i.bytes * n : Nat) : Int) ≤ 281474976710656 := by omega
    rwa [Int.natCast_mul] at h
  have hr := run_make (P := P) w t e i z ht hi' hz0 k1 k2 n n (by omega) (by omega) hb1 (by omega)
  simp only [Int.toNat_natCast, hs, Nat.mul_one, hz, madeRep] at hr
  exact semK_of hr (kk _ (h.add ((Bl.refl w).alloc _) (Own.new w _ e) fun i hi => Nat.le_of_eq hi.symm) ((Bl.refl w).alloc _))
/-- copy into a block of one's own, from its first cell on, of what is read elsewhere: as many as both have. -/
theorem copyN {dT sT ty e : TypeId} {b n c m d : Nat} {cur : Array Value} {t : TypeId} {p : Option Addr} {xs : List Value} {F : Value → World → Prop} (h : Hp Z w0 w L)
    (hm : Pos L (.own b cur t) (.own b (xs.take n ++ cur.toList.drop (min m n)).toArray t) M) (hsee : Sees w 1 p m d xs) (ht : P.underlying dT = some (.slice e)) (hz : (P.info? e).map (·.size) = some 1)
    (hcur : n ≤ cur.size) (h1 : ∀ v ∈ xs, v.oneCell' = true)
    (kk : ∀ w', Hp Z w0 w' M → Ext (· = b) w w' → F (.int .i64 ((min m n : Nat) : Int)) w') :
    semK P (Builtin.copy_ #[dT, sT] ty #[.slice (some ⟨b, 0, none⟩) n c, .slice p m d]) w F := by
  have hown : Own w b cur t := h.all _ hm.mem
  have hlen := hsee.len
  rw [Nat.mul_one] at hlen
  have hg : ∀ k : Nat, goInt k = .int .i64 (k : Int) := fun k => rfl
  by_cases h0 : min m n = 0
  · have hr := run_copy_none (P := P) w dT sT ty e (some ⟨b, 0, none⟩) p n c m d ht hz h0
    have hx : xs.take n ++ cur.toList.drop (min m n) = cur.toList := by
      rw [h0, List.drop_zero]
      have : xs.take n = [] := List.length_eq_zero_iff.1 (by rw [List.length_take]; omega)
      rw [this]; rfl
    rw [hx] at hm
    refine semK_of hr ?_
    show F (.int .i64 0) w
    have := kk w (h.turn hm (Ext.refl w) (by show Own w b cur.toList.toArray t; simpa using hown) fun i hi => .inl hi) (Ext.refl w)
    rw [h0] at this
    exact this
  · obtain ⟨a, ha, _⟩ := hsee.addr (by omega) (by omega)
    subst ha
    have hl2 : (xs.take n).length = min m n := by rw [List.length_take, hlen]; omega
    have hr := run_copy_row (P := P) w dT sT ty e b 0 n c a m d cur t (xs.take n) ht hz hown (by rw [hl2])
      (fun j v hj => hsee.get rfl (by rw [List.getElem?_take] at hj; split at hj <;> first | exact hj | cases hj)) (by rw [hl2]; omega) (fun v hv => h1 v (List.mem_of_mem_take hv))
    simp only [List.take_zero, List.nil_append, Nat.zero_add, hl2] at hr
    refine semK_of hr ?_
    rw [hg]
    have hown' : Own (w.setRow b (xs.take n ++ cur.toList.drop (min m n)).toArray) b (xs.take n ++ cur.toList.drop (min m n)).toArray t := by
      unfold Own at hown ⊢
      simp only [World.setRow, Array.getElem?_modify, if_true, hown]
      rfl
    have hext : Ext (· = b) w (w.setRow b (xs.take n ++ cur.toList.drop (min m n)).toArray) :=
      ⟨rfl, rfl, rfl, by simp [World.setRow], fun k hk hb => by
        simp only [World.setRow, Array.getElem?_modify]
        rw [if_neg fun e => hb e.symm]⟩
    exact kk _ (h.turn hm hext hown' fun i hi => .inl hi) hext
/-- A block of one's own, read as a slice. -/
theorem Own.sees {w : World} {b n : Nat} {cs : List Value} {t : TypeId} (h : Own w b cs.toArray t) (hn : cs.length = n) : Sees w 1 (some ⟨b, 0, none⟩) n n cs :=
  ⟨by omega, Nat.le_refl _, fun j u hj => ⟨_, rfl, by rw [addG, h.cell]; simpa using hj⟩⟩
theorem u8s_one (l : List UInt8) : ∀ v ∈ u8s l, v.oneCell' = true := by
  intro v hv
  simp only [u8s, List.mem_map] at hv
  obtain ⟨b, _, rfl⟩ := hv
  rfl
theorem u8s_take (l : List UInt8) (n : Nat) : (u8s l).take n = u8s (l.take n) := by simp [u8s, List.map_take]
theorem u8s_drop (l : List UInt8) (n : Nat) : (u8s l).drop n = u8s (l.drop n) := by simp [u8s, List.map_drop]
class RowIn (L : List Ent) (p : Option Addr) (n c : Nat) (z : outParam Nat) (e : outParam TypeId) (xs : outParam (List Value)) (M : outParam (Ent → List Ent)) : Prop where
  pos : ∀ y, Pos L (.row z p n c e xs) y (M y)
instance (priority := high) rowHere {L : List Ent} {p : Option Addr} {n c z : Nat} {e : TypeId} {xs : List Value} : RowIn (.row z p n c e xs :: L) p n c z e xs (fun y => y :: L) := ⟨fun _ => .here⟩
instance (priority := low) rowThere {L : List Ent} {x : Ent} {p : Option Addr} {n c z : Nat} {e : TypeId} {xs : List Value} {M : Ent → List Ent} [h : RowIn L p n c z e xs M] : RowIn (x :: L) p n c z e xs (fun y => x :: M y) := ⟨fun y => .there (h.pos y)⟩
/-- append of a literal's block to a row of one's own. -/
theorem appH {t e ty b n c m d z by' : Nat} {zv : Value} {p : Option Addr} {xs : List Value} {cs : Array Value} {t' : TypeId} {N : Ent → List Ent} {F : Value → World → Prop} (h : Hp Z w0 w L) [hr : RowIn L p n c z e xs N] [hg : GetOwn L b cs t']
    (ht : P.underlying t = some (.slice e)) (hi : (P.info? e).map (fun i => (i.zero, i.size, i.bytes)) = some (some zv, z, by')) (hzv : zv.cells.size = z) (hz0 : Nat.ble 1 z = true) (hcs : cs.size = m * z) (h1 : onesB cs.toList = true) (hm : Nat.ble 1 m = true) (hn : n + m ≤ 1073741824) (hb : Nat.ble by' 65536 = true)
    (kk : ∀ g cap w', Hp Z w0 w' (N (.row z (some ⟨g, 0, none⟩) (n + m) cap e (xs ++ cs.toList))) → F (.slice (some ⟨g, 0, none⟩) (n + m) cap) w') :
    semK P (Builtin.append_ #[t, t] ty #[.slice p n c, .slice (some ⟨b, 0, none⟩) m d]) w F := by
  rw [Nat.ble_eq] at hz0 hm hb
  have hrow : RowZ w z (.slice p n c) e n xs := h.all _ (hr.pos (.row z p n c e xs)).mem
  have hown : Own w b cs t' := h.all _ hg.pos.mem
  refine appZ (news := cs.toList) hrow hz0 ht hi hzv (by simpa using hcs) (fun j u hj => by rw [addG, hown.cell]; simpa using hj) (onesB_all _ h1) hm hn hb fun g cap w' h2 he hor hlt => ?_
  refine kk g cap w' (h.turn (hr.pos _) he h2 fun i hi => ?_)
  have hi : i = g := by
    have hi : Blk (.slice (some ⟨g, 0, none⟩) (n + m) cap) i := hi
    unfold Blk at hi
    simp [Value.ownBlock] at hi
    exact hi.symm
  subst hi
  rcases hor with h3 | h3
  · exact .inl h3
  · exact .inr (by omega)
theorem Hp.rowNil (h : Hp Z w0 w L) (z : Nat) (e : TypeId) : Hp Z w0 w (.row z none 0 0 e [] :: L) :=
  h.add (Bl.refl w) (RowZ.nil w z e) fun i hi => by
    have hi : Blk (.slice none 0 0) i := hi
    unfold Blk at hi
    simp [Value.ownBlock] at hi
theorem Pos.less {x y : Ent} (h : Pos L x y M) (hp : L.Pairwise Apart) (hm : ∀ k, y.mine k → x.mine k) (hf : ∀ k, y.foot k → x.foot k) : M.Pairwise Apart ∧ ∀ z ∈ M, z = y ∨ z ∈ L := by
  have key : ∀ z, Apart x z → Apart y z := fun z ha k => ⟨fun m => (ha k).1 (hm k m), fun f => (ha k).2 (hf k f)⟩
  refine ⟨?_, h.cases'⟩
  induction h with
  | @here L x y =>
    rw [List.pairwise_cons] at hp
    exact List.pairwise_cons.2 ⟨fun z hz => key z (hp.1 z hz), hp.2⟩
  | @there L M x y z h ih =>
    rw [List.pairwise_cons] at hp
    refine List.pairwise_cons.2 ⟨fun u hu => ?_, ih hp.2 hm hf key⟩
    rcases h.cases' u hu with h1 | h1
    · subst h1; exact (key z (hp.1 x h.mem).symm).symm
    · exact hp.1 u h1
theorem Hp.less {x y : Ent} (h : Hp Z w0 w L) (hp : Pos L x y M) (hy : y.at_ w) (hm : ∀ k, y.mine k → x.mine k) (hf : ∀ k, y.foot k → x.foot k) : Hp Z w0 w M := by
  obtain ⟨p1, p2⟩ := hp.less h.apart hm hf
  refine ⟨h.ext, fun z hz => ?_, p1, fun z hz k hk => ?_⟩
  · rcases p2 z hz with h1 | h1
    · subst h1; exact hy
    · exact h.all z h1
  · rcases p2 z hz with h1 | h1
    · subst h1; exact h.may x hp.mem k (hm k hk)
    · exact h.may z h1 k hk
/-- A slice that is read, cut at its front. -/
theorem Hp.dropSee {z n c x : Nat} {p : Option Addr} {xs : List Value} (h : Hp Z w0 w (.see z p n c xs :: L)) (hx : x ≤ n) : Hp Z w0 w (.see z (if c = x then p else p.map (·.add (x * z))) (n - x) (c - x) (xs.drop (x * z)) :: L) := by
  have hs : Sees w z p n c xs := h.all _ List.mem_cons_self
  refine h.less (.here) (hs.drop hx) (fun k hk => hk) fun k hk => ?_
  obtain ⟨h0, a, ha, rfl⟩ := hk
  have hl : 0 < xs.length := by rw [List.length_drop] at h0; omega
  split at ha
  · exact ⟨hl, a, ha, rfl⟩
  · cases p with
    | none => cases ha
    | some b => simp at ha; subst ha; exact ⟨hl, b, rfl, blockAdd b _⟩
end
end Go.Proofs.YtcanicgpkbhhdaaGreatDoor.Sh

namespace Go.Proofs.YtcanicgpkbhhdaaGreatDoor.Sh
open Go Go.RowKit
set_option linter.unusedVariables false
set_option linter.unusedSimpArgs false
def mines (L : List Ent) : Nat → Prop := fun k => ∃ x ∈ L, x.mine k
section
variable {P : Program} {Z : Nat → Prop} {w0 w : World} {L M : List Ent}
/-- A callee's view: what it may turn is what these entries own. -/
theorem Hp.sub {L2 : List Ent} (h : Hp Z w0 w (L ++ L2)) : Hp (mines L) w w L :=
  ⟨Ext.refl w, fun x hx => h.all x (List.mem_append_left _ hx), (List.pairwise_append.1 h.apart).1, fun x hx k hk => .inl ⟨x, hx, hk⟩⟩
theorem Hp.sub0 (h : Hp Z w0 w L) : Hp (mines L) w w L :=
  ⟨Ext.refl w, h.all, h.apart, fun x hx k hk => .inl ⟨x, hx, hk⟩⟩
theorem Hp.mines_may (h : Hp Z w0 w L) {k : Nat} (hk : mines L k) : Z k ∨ w0.heap.size ≤ k := let ⟨x, hx, hk⟩ := hk; h.may x hx k hk
theorem Hp.back0 {w' : World} (h : Hp Z w0 w L) (h' : Hp (mines L) w w' M) : Hp Z w0 w' M :=
  ⟨h.ext.trans h'.ext fun k hk hm => by
      rcases h.mines_may hm with h1 | h1
      · exact h1
      · omega, h'.all, h'.apart, fun x hx k hk => by
      rcases h'.may x hx k hk with h1 | h1
      · exact h.mines_may h1
      · exact .inr (Nat.le_trans h.ext.size h1)⟩
/-- Back from a callee: the others are as they were. -/
theorem Hp.back {w' : World} {L2 : List Ent} (h : Hp Z w0 w (L ++ L2)) (h' : Hp (mines L) w w' M) (hf : ∀ x ∈ M, ∀ k, x.foot k → (∃ y ∈ L, y.foot k) ∨ w.heap.size ≤ k) : Hp Z w0 w' (M ++ L2) := by
  obtain ⟨p1, p2, p3⟩ := List.pairwise_append.1 h.apart
  have hm : ∀ k, mines L k → Z k ∨ w0.heap.size ≤ k := fun k ⟨x, hx, hk⟩ => h.may x (List.mem_append_left _ hx) k hk
  refine ⟨h.ext.trans h'.ext fun k hk hq => ?_, fun x hx => ?_, List.pairwise_append.2 ⟨h'.apart, p2, fun x hx y hy k => ⟨fun h1 h2 => ?_, fun h1 h2 => ?_⟩⟩, fun x hx k hk => ?_⟩
  · rcases hm k hq with h1 | h1
    · exact h1
    · omega
  · rcases List.mem_append.1 hx with hx | hx
    · exact h'.all x hx
    · exact (h.all x (List.mem_append_right _ hx)).ext h'.ext fun i hi ⟨y, hy, hm⟩ => (p3 y hy x hx i).1 hm hi
  · rcases h'.may x hx k h1 with ⟨z, hz, hzk⟩ | hk
    · exact (p3 z hz y hy k).1 hzk h2
    · exact absurd ((h.all y (List.mem_append_right _ hy)).lt h2) (by omega)
  · rcases hf x hx k h1 with ⟨z, hz, hzk⟩ | hk
    · exact (p3 z hz y hy k).2 hzk h2
    · exact absurd ((h.all y (List.mem_append_right _ hy)).lt (Ent.foot_of_mine h2)) (by omega)
  · rcases List.mem_append.1 hx with hx | hx
    · rcases h'.may x hx k hk with h1 | h1
      · exact hm k h1
      · exact .inr (Nat.le_trans h.ext.size h1)
    · exact h.may x (List.mem_append_right _ hx) k hk
/-- Fewer entries. -/
theorem Hp.sublist (h : Hp Z w0 w L) (hs : M.Sublist L) : Hp Z w0 w M :=
  ⟨h.ext, fun x hx => h.all x (hs.subset hx), h.apart.sublist hs, fun x hx => h.may x (hs.subset hx)⟩
/-- The entries in another order. -/
theorem Hp.perm (h : Hp Z w0 w L) (hs : L.Perm M) : Hp Z w0 w M :=
  ⟨h.ext, fun x hx => h.all x (hs.symm.subset hx), hs.pairwise h.apart fun h => h.symm, fun x hx => h.may x (hs.symm.subset hx)⟩
theorem Hp.wider {Z' : Nat → Prop} (h : Hp Z w0 w L) (hz : ∀ k, Z k → Z' k) : Hp Z' w0 w L :=
  ⟨h.ext.mono fun k _ hk => hz k hk, h.all, h.apart, fun x hx k hk => (h.may x hx k hk).imp (hz k) id⟩
/-- What is read only, told of a world: one more entry, if nobody's own. -/
theorem Hp.know {x : Ent} (h : Hp Z w0 w L) (hx : x.at_ w) (hm : ∀ k, ¬ x.mine k) (ha : ∀ y ∈ L, ∀ k, y.mine k → ¬ x.foot k) : Hp Z w0 w (x :: L) :=
  ⟨h.ext, fun y hy => by rcases List.mem_cons.1 hy with h1 | h1; subst h1; exact hx; exact h.all y h1,
    List.pairwise_cons.2 ⟨fun y hy k => ⟨fun h1 => (hm k h1).elim, fun h1 h2 => ha y hy k h2 h1⟩, h.apart⟩,
    fun y hy k hk => by rcases List.mem_cons.1 hy with h1 | h1; subst h1; exact (hm k hk).elim; exact h.may y h1 k hk⟩
theorem Hp.objE {b : Nat} {o : Obj} (h : Hp Z w0 w L) (hm : Pos L (.obj b o) (.obj b o) L) : w.heap[b]? = some o := h.all (.obj b o) hm.mem
theorem Hp.putE {b : Nat} {o o' : Obj} (h : Hp Z w0 w L) (hm : Pos L (.obj b o) (.obj b o') M) : Hp Z w0 (w.putObj b o') M := by
  have ho : w.heap[b]? = some o := h.all (.obj b o) hm.mem
  have hb : b < w.heap.size := by
    by_cases hb : b < w.heap.size
    · exact hb
    · rw [Array.getElem?_eq_none (Nat.le_of_not_lt hb)] at ho; cases ho
  exact h.turn hm ⟨rfl, rfl, rfl, by simp [World.putObj], fun k hk hb => World.putObj_heap_other hb⟩ (World.putObj_heap_same hb) fun i hi => .inl hi
end
class GetObj (L : List Ent) (b : Nat) (o : outParam Obj) : Prop where
  pos : Pos L (.obj b o) (.obj b o) L
instance (priority := high) objHere {L : List Ent} {b : Nat} {o : Obj} : GetObj (.obj b o :: L) b o := ⟨.here⟩
instance (priority := low) objThere {L : List Ent} {x : Ent} {b : Nat} {o : Obj} [h : GetObj L b o] : GetObj (x :: L) b o := ⟨.there h.pos⟩
class SetObj (L : List Ent) (b : Nat) (o' : Obj) (o : outParam Obj) (M : outParam (List Ent)) : Prop where
  pos : Pos L (.obj b o) (.obj b o') M
instance (priority := high) setObjHere {L : List Ent} {b : Nat} {o o' : Obj} : SetObj (.obj b o :: L) b o' o (.obj b o' :: L) := ⟨.here⟩
instance (priority := low) setObjThere {L M : List Ent} {x : Ent} {b : Nat} {o o' : Obj} [h : SetObj L b o' o M] : SetObj (x :: L) b o' o (x :: M) := ⟨.there h.pos⟩
section
variable {P : Program} {Z : Nat → Prop} {w0 w : World} {L M : List Ent}
theorem wReady {l : Nat} {r : Loop} {o : Obj} {p : Prop} (h : Hp Z w0 w L) [hm : GetObj L l o] (ho : o = loopObj r .ready none) (k : p) : readyA w l r p := by
  subst ho; exact ⟨h.objE hm.pos, k⟩
theorem wPut {l : Nat} {o o' : Obj} {F : World → Prop} (h : Hp Z w0 w L) [hm : SetObj L l o' o M] (k : ∀ w', Hp Z w0 w' M → F w') : putK w l o' F := k _ (h.putE hm.pos)
theorem wStop {l : Nat} {r : Loop} {o : Obj} {F : Value → World → Prop} (h : Hp Z w0 w L) [hm : SetObj L l (loopObj r .ready none) o M] (ho : o = loopObj r .busy none) (k : ∀ w', Hp Z w0 w' M → F (.bool true) w') : stopA l r none F w := by
  subst ho; exact ⟨h.all _ hm.pos.mem, k _ (h.putE hm.pos)⟩
theorem wBreak {l : Nat} {r : Loop} {o : Obj} {j : Code} {F : Value → World → Prop} (h : Hp Z w0 w L) [hm : SetObj L l (loopObj r .done (some j)) o M] (ho : o = loopObj r .busy none) (k : ∀ w', Hp Z w0 w' M → F (.bool false) w') : stopA l r (some j) F w := by
  subst ho; exact ⟨h.all _ hm.pos.mem, k _ (h.putE hm.pos)⟩
theorem wEnd {l : Nat} {r : Loop} {o : Obj} {st : LoopState} {pe : Option Code} {F : Option Code → World → Prop} (h : Hp Z w0 w L) [hm : SetObj L l (loopObj r .exhausted pe) o M] (ho : o = loopObj r st pe) (hs : st ≠ .busy) (k : ∀ w', Hp Z w0 w' M → F pe w') : endA l r w F := by
  subst ho; exact ⟨st, pe, h.all _ hm.pos.mem, hs, k _ (h.putE hm.pos)⟩
theorem wMark {D : Nat} {o : Obj} {as_ : Array Value} {F : World → Prop} (h : Hp Z w0 w L) [hm : SetObj L D (.deferred none) o M] (ho : o = .deferred (some [])) (k : ∀ w', Hp Z w0 w' M → F w') : marksA [{ target := .collected D, args := as_ }] w F := by
  subst ho
  exact ⟨h.all _ hm.pos.mem, k _ (h.putE hm.pos)⟩
theorem Hp.mark (h : Hp Z w0 w L) (r : Loop) : Hp Z w0 ((w.alloc (.deferred (some []))).alloc (loopObj r .ready none)) (.obj (w.heap.size + 1) (loopObj r .ready none) :: .obj w.heap.size (.deferred (some [])) :: L) := by
  have h1 : Hp Z w0 (w.alloc (.deferred (some []))) (.obj w.heap.size (.deferred (some [])) :: L) :=
    h.add (x := .obj w.heap.size (.deferred (some []))) ((Bl.refl w).alloc _) (by show (w.heap.push _)[w.heap.size]? = _; simp) fun i hi => Nat.le_of_eq hi.symm
  have hsz := size_alloc w (.deferred (some []))
  have := h1.add (x := .obj (w.heap.size + 1) (loopObj r .ready none)) ((Bl.refl _).alloc (loopObj r .ready none)) (by
    show ((w.alloc (.deferred (some []))).heap.push _)[w.heap.size + 1]? = _
    rw [← hsz]; exact Array.getElem?_push_size) fun i hi => by rw [hsz]; exact Nat.le_of_eq hi.symm
  exact this
/-! ### Elements -/
theorem ixSl {t e z : Nat} {a : Addr} {n c : Nat} {k : IntKind} {i : Int} {F : Value → World → Prop} (ht : P.underlying t = some (.slice e)) (hz : (P.info? e).map (·.size) = some z) (h0 : 0 ≤ i) (h1 : i < (n : Int))
    (kk : F (.pointer (some (a.add (i.toNat * z)))) w) : semK P (Instr.indexAt t (.slice (some a) n c) (.int k i)) w F := ixS ht hz h0 h1 kk
/-- An element of a slice that is read: its address, and what its cells tell. -/
theorem ixSee {t e z n c : Nat} {p : Option Addr} {xs : List Value} {k : IntKind} {i : Int} {F : Value → World → Prop} (hs : Sees w z p n c xs) (hz0 : 0 < z) (ht : P.underlying t = some (.slice e)) (hz : (P.info? e).map (·.size) = some z) (h0 : 0 ≤ i) (h1 : i < (n : Int))
    (kk : ∀ ad : Addr, (∀ (j : Nat) (u : Value), j < z → xs[i.toNat * z + j]? = some u → w.cell? (ad.add j) = some u) → F (.pointer (some ad)) w) : semK P (Instr.indexAt t (.slice p n c) (.int k i)) w F := by
  obtain ⟨a, rfl, _⟩ := hs.addr hz0 (by omega)
  refine ixS ht hz h0 h1 (kk _ fun j u hj hu => ?_)
  rw [addAdd]
  exact hs.get rfl hu
/-- The same, of one cell; it is loaded at once. -/
theorem rdSee {t e n c : Nat} {p : Option Addr} {xs : List Value} {k : IntKind} {i : Int} {F : Value → World → Prop} (hs : Sees w 1 p n c xs) (ht : P.underlying t = some (.slice e)) (hz : (P.info? e).map (·.size) = some 1) (h0 : 0 ≤ i) (h1 : i < (n : Int))
    (kk : ∀ u, xs[i.toNat]? = some u → F u w) : semK P (Instr.indexAt t (.slice p n c) (.int k i)) w fun v1 w1 => asA v1 fun ad => ldK P w1 ad fun v2 => F v2 w1 := by
  have hl := hs.len
  have hi : i.toNat < xs.length := by omega
  refine ixSee hs (by decide) ht hz h0 h1 fun ad had => ?_
  have := had 0 _ (by decide) (by rw [Nat.mul_one, Nat.add_zero]; exact List.getElem?_eq_getElem hi)
  rw [add_zero] at this
  exact ld this (kk _ (List.getElem?_eq_getElem hi))
/-- An element of a block of one's own (elements of one cell) written. -/
theorem wIxSt {t e b n c : Nat} {cs : List Value} {t' ty : TypeId} {v : Value} {k : IntKind} {i : Int} {F : World → Prop} (h : Hp Z w0 w L) (hm : Pos L (.own b cs.toArray t') (.own b (cs.set i.toNat v).toArray t') M) (hn : n ≤ cs.length) (ht : P.underlying t = some (.slice e)) (hz : (P.info? e).map (·.size) = some 1)
    (h0 : 0 ≤ i) (h1 : i < (n : Int)) (hz' : (P.info? ty).map (·.size) = some 1) (h1' : v.oneCell' = true) (hc : v.cells = #[v]) (kk : ∀ w', Hp Z w0 w' M → Ext (· = b) w w' → F w') :
    semK P (Instr.indexAt t (.slice (some ⟨b, 0, none⟩) n c) (.int k i)) w fun v1 w1 => asA v1 fun ad => semU P (Instr.storeAt ty (.pointer (some ad)) v) w1 F := by
  refine ixS ht hz h0 h1 ?_
  rw [asA_ptr, Nat.mul_one, addG]
  have : cs.toArray.setIfInBounds i.toNat v = (cs.set i.toNat v).toArray := by simp
  exact stH1 (i := i.toNat) (t := t') h (M := M) (cs := cs.toArray) (by rw [this]; exact hm) (by simp; omega) hz' h1' hc kk
end
theorem Pos.perm {L M : List Ent} {x y : Ent} (h : Pos L x y M) : ∃ R, L.Perm (x :: R) ∧ M.Perm (y :: R) := by
  induction h with
  | @here L x y => exact ⟨L, .refl _, .refl _⟩
  | @there L M x y z h ih =>
    obtain ⟨R, h1, h2⟩ := ih
    exact ⟨z :: R, (h1.cons z).trans (.swap x z R), (h2.cons z).trans (.swap y z R)⟩
section
variable {P : Program} {Z : Nat → Prop} {w0 w : World} {L M : List Ent}
/-- What is known beside goes into an entry that nobody owns. -/
theorem Hp.merge {s x y : Ent} (h : Hp Z w0 w (s :: L)) (hp : Pos L x y M) (hy : y.at_ w) (hm : ∀ k, ¬ y.mine k) (hf : ∀ k, y.foot k → x.foot k ∨ s.foot k) : Hp Z w0 w M := by
  obtain ⟨R, h1, h2⟩ := hp.perm
  have h3 : Hp Z w0 w (s :: x :: R) := h.perm (h1.cons s)
  have h4 : Hp Z w0 w R := h3.sublist ((List.sublist_cons_self x R).trans (List.sublist_cons_self s _))
  refine Hp.perm ?_ h2.symm
  refine h4.know hy hm fun z hz k hk hq => ?_
  have ha := h3.apart
  rw [List.pairwise_cons, List.pairwise_cons] at ha
  rcases hf k hq with h | h
  · exact (ha.2.1 z hz k).2 h hk
  · exact (ha.1 z (List.mem_cons_of_mem _ hz) k).2 h hk
/-- Something that is said of no memory. -/
abbrev pureE (p : Prop) : Ent := .fact None' fun _ => p
theorem Hp.pureI {p : Prop} (hp : p) (h : Hp Z w0 w L) : Hp Z w0 w (pureE p :: L) :=
  h.know (x := pureE p) ⟨hp, fun k hk => hk.elim, fun _ _ h _ => h⟩ (fun k hk => hk) fun y hy k hk hf => hf
theorem Hp.pureO {p : Prop} (h : Hp Z w0 w L) (hm : pureE p ∈ L) : p := (h.all _ hm : On None' (fun _ => p) w).holds
theorem Hp.tail {x : Ent} (h : Hp Z w0 w (x :: L)) : Hp Z w0 w L := h.sublist (List.sublist_cons_self x L)
theorem Hp.swap {x y : Ent} (h : Hp Z w0 w (x :: y :: L)) : Hp Z w0 w (y :: x :: L) := h.perm (.swap y x L)
theorem Hp.own {b : Nat} {cs : Array Value} {t : TypeId} (h : Hp Z w0 w L) (hm : Ent.own b cs t ∈ L) : Own w b cs t := h.all (.own b cs t) hm
theorem Hp.row {z n c : Nat} {p : Option Addr} {e : TypeId} {xs : List Value} (h : Hp Z w0 w L) (hm : Ent.row z p n c e xs ∈ L) : RowZ w z (.slice p n c) e n xs := h.all (.row z p n c e xs) hm
theorem Hp.on {S : Nat → Prop} {A : World → Prop} (h : Hp Z w0 w L) (hm : Ent.fact S A ∈ L) : On S A w := h.all (.fact S A) hm
theorem Hp.our {S : Nat → Prop} {A : World → Prop} (h : Hp Z w0 w L) (hm : Ent.ours S A ∈ L) : On S A w := h.all (.ours S A) hm
theorem Hp.rowNew {z n c : Nat} {p : Option Addr} {e : TypeId} {xs : List Value} (h : Hp None' w0 w L) (hm : Ent.row z p n c e xs ∈ L) : ∀ g, Blk (.slice p n c) g → w0.heap.size ≤ g := fun g hg => by
  rcases h.may _ hm g hg with h1 | h1
  · exact h1.elim
  · exact h1
end
section
variable {P : Program} {Z : Nat → Prop} {w0 w : World} {L M : List Ent}
/-- Several new entries at once. -/
theorem Hp.adds {w' : World} (h : Hp Z w0 w L) (k : Bl w w') (hx : ∀ x ∈ M, x.at_ w') (hf : ∀ x ∈ M, ∀ i, x.foot i → w.heap.size ≤ i) (hp : M.Pairwise Apart) : Hp Z w0 w' (M ++ L) := by
  have h' := h.bl k
  refine ⟨h'.ext, fun y hy => ?_, List.pairwise_append.2 ⟨hp, h.apart, fun x hx y hy i => ?_⟩, fun y hy i hi => ?_⟩
  · rcases List.mem_append.1 hy with h1 | h1
    · exact hx y h1
    · exact h'.all y h1
  · have := fun hi => (h.all y hy).lt (k := i) hi
    exact ⟨fun h1 h2 => absurd (this h2) (by have := hf x hx i (Ent.foot_of_mine h1); omega), fun h1 h2 => absurd (this (Ent.foot_of_mine h2)) (by have := hf x hx i h1; omega)⟩
  · rcases List.mem_append.1 hy with h1 | h1
    · exact .inr (Nat.le_trans h.ext.size (hf y h1 i (Ent.foot_of_mine hi)))
    · exact h.may y h1 i hi
theorem apartOwn {b b' : Nat} {cs cs' : Array Value} {t t' : TypeId} (h : b ≠ b') : Apart (.own b cs t) (.own b' cs' t') := fun k => ⟨fun h1 h2 => h (h1.symm.trans h2), fun h1 h2 => h (h1.symm.trans h2)⟩
/-- What a callee that turned nothing hands back: entries of its own, all new. -/
theorem Hp.take {w' : World} (h : Hp Z w0 w L) (h' : Hp None' w w' M) (hf : ∀ x ∈ M, ∀ i, x.foot i → w.heap.size ≤ i) : Hp Z w0 w' (M ++ L) := h.adds h'.done h'.all hf h'.apart
end
/-- A block of one's own, and what the list is with another entry in its place. -/
class OwnM (L : List Ent) (b : Nat) (cs : outParam (Array Value)) (t : outParam TypeId) (M : outParam (Ent → List Ent)) : Prop where
  ex : ∃ R, L.Perm (.own b cs t :: R) ∧ ∀ y, (M y).Perm (y :: R)
instance (priority := high) ownMHere {L : List Ent} {b : Nat} {cs : Array Value} {t : TypeId} : OwnM (.own b cs t :: L) b cs t (fun y => y :: L) := ⟨L, .refl _, fun _ => .refl _⟩
instance (priority := low) ownMThere {L : List Ent} {x : Ent} {b : Nat} {cs : Array Value} {t : TypeId} {M : Ent → List Ent} [h : OwnM L b cs t M] : OwnM (x :: L) b cs t (fun y => x :: M y) :=
  let ⟨R, h1, h2⟩ := h.ex
  ⟨x :: R, (h1.cons x).trans (.swap _ x R), fun y => ((h2 y).cons x).trans (.swap y x R)⟩
theorem OwnM.two {L : List Ent} {b : Nat} {cs : Array Value} {t : TypeId} {M : Ent → List Ent} (h : OwnM L b cs t M) {s : Ent} (hs : s ∈ L) (hne : s ≠ .own b cs t) : ∃ R, L.Perm (.own b cs t :: s :: R) ∧ ∀ y, (M y).Perm (y :: s :: R) := by
  obtain ⟨R, h1, h2⟩ := h.ex
  have hR : s ∈ R := by
    rcases List.mem_cons.1 (h1.subset hs) with h | h
    · exact absurd h hne
    · exact h
  obtain ⟨A, B, rfl⟩ := List.append_of_mem hR
  exact ⟨A ++ B, h1.trans (List.perm_middle.cons _), fun y => (h2 y).trans (List.perm_middle.cons y)⟩
/-- An entry taken out of the list. -/
inductive Pick : List Ent → Ent → List Ent → Prop
  | here {L x} : Pick (x :: L) x L
  | there {L R x y} : Pick L x R → Pick (y :: L) x (y :: R)
theorem Pick.perm {L R : List Ent} {x : Ent} (h : Pick L x R) : L.Perm (x :: R) := by
  induction h with
  | here => exact .refl _
  | there h ih => exact (ih.cons _).trans (.swap _ _ _)
theorem Hp.front {Z : Nat → Prop} {w0 w : World} {L R : List Ent} {x : Ent} (h : Hp Z w0 w L) (hp : Pick L x R) : Hp Z w0 w (x :: R) := h.perm hp.perm
section
variable {P : Program} {Z : Nat → Prop} {w0 w : World} {L M : List Ent}
theorem wLdAA {b i j : Nat} {v : Value} {F : Value → Prop} (h : Hp Z w0 w L) [hm : LdOwn L b (i + j) v] (k : F v) : ldK P w (Addr.add (Addr.add ⟨b, 0, none⟩ i) j) F := by rw [addAdd, addG]; exact wLd h k
/-- A block that is only read, told as one's own. -/
theorem Hp.start1 {pb : Nat} {cs : Array Value} {t : TypeId} (h : Own w pb cs t) : Hp (fun k => k = pb) w w [.own pb cs t] :=
  ⟨Ext.refl w, fun x hx => by simp only [List.mem_singleton] at hx; subst hx; exact h, List.pairwise_singleton _ _, fun x hx k hk => by simp only [List.mem_singleton] at hx; subst hx; exact .inl hk⟩
theorem Hp.done1 {pb : Nat} {cs : Array Value} {t : TypeId} (h : Hp (fun k => k = pb) w0 w L) (ho : Own w0 pb cs t) (hm : Ent.own pb cs t ∈ L) : Bl w0 w :=
  ⟨h.ext.os, h.ext.tape, h.ext.output, h.ext.size, fun k hk => by
    by_cases hp : k = pb
    · subst hp
      exact (h.own hm : w.heap[k]? = _).trans (ho : w0.heap[k]? = _).symm
    · exact h.ext.block k hk hp⟩
end
end Go.Proofs.YtcanicgpkbhhdaaGreatDoor.Sh

namespace Go.Proofs.YtcanicgpkbhhdaaGreatDoor.Sh
open Go Go.RowKit
set_option linter.unusedVariables false
set_option linter.unusedSimpArgs false
/-- n times the cells. -/
def repC (z : List Value) : Nat → List Value
  | 0 => []
  | n + 1 => z ++ repC z n
theorem repC_len (z : List Value) : ∀ n, (repC z n).length = n * z.length
  | 0 => by simp [repC]
  | n + 1 => by simp [repC, repC_len z n, Nat.succ_mul]; omega
theorem repC_get (z : List Value) (hz : 0 < z.length) : ∀ (n i : Nat), i < n * z.length → (repC z n)[i]? = z[i % z.length]?
  | 0, i, h => by simp at h
  | n + 1, i, h => by
    rw [repC]
    by_cases hi : i < z.length
    · rw [List.getElem?_append_left hi, Nat.mod_eq_of_lt hi]
    · rw [List.getElem?_append_right (by omega), repC_get z hz n _ (by rw [Nat.succ_mul] at h; omega), ← Nat.mod_eq_sub_mod (by omega)]
theorem madeC (z : Array Value) (hz : 0 < z.size) (n : Nat) : madeCells z (n * z.size) = (repC z.toList n).toArray := by
  apply Array.ext'
  apply List.ext_getElem?
  intro i
  by_cases hi : i < n * z.size
  · have h1 := repC_get z.toList (by simpa using hz) n i (by simpa using hi)
    have hm : i % z.size < z.size := Nat.mod_lt _ hz
    simp only [List.getElem?_toArray] at *
    rw [show (madeCells z (n * z.size)).toList[i]? = some (z[i % z.size]!) by simp [madeCells, hi]]
    rw [h1]
    simp [hm]
  · rw [List.getElem?_eq_none (by simp [size_madeCells]; omega), List.getElem?_eq_none (by simp [repC_len]; omega)]
section
variable {P : Program} {Z : Nat → Prop} {w0 w : World} {L M : List Ent}
theorem makeZ {t e by' n z : Nat} {zv : Value} {k1 k2 : IntKind} {F : Value → World → Prop} (h : Hp Z w0 w L) (ht : P.underlying t = some (.slice e)) (hi : (P.info? e).map (fun i => (i.zero, i.size, i.bytes)) = some (some zv, z, by')) (hz : zv.cells.size = z) (hz0 : Nat.ble 1 z = true) (hn : n ≤ 1073741824) (hb : Nat.ble by' 65536 = true)
    (kk : ∀ w', Hp Z w0 w' (.own w.heap.size (repC zv.cells.toList n).toArray e :: L) → Bl w w' → F (.slice (some ⟨w.heap.size, 0, none⟩) n n) w') :
    semK P (Instr.makeSlice t (.int k1 (n : Int)) (.int k2 (n : Int))) w F := by
  rw [Nat.ble_eq] at hz0 hb
  obtain ⟨i, hi', hzz⟩ := Option.map_eq_some_iff.1 hi
  simp only [Prod.mk.injEq] at hzz
  obtain ⟨hz1, hs, hbb⟩ := hzz
  have hm : maxLen = 9223372036854775807 := rfl
  have hbn : i.bytes * n ≤ 65536 * 1073741824 := Nat.mul_le_mul (by omega) hn
  have hb1 : (i.bytes : Int) * (n : Int) ≤ 281474976710656 := by
    have h : ((i.bytes * n : Nat) : Int) ≤ 281474976710656 := by omega
    rwa [Int.natCast_mul] at h
  have hr := run_make (P := P) w t e i zv ht hi' hz1 k1 k2 n n (by omega) (by omega) hb1 (by omega)
  simp only [Int.toNat_natCast, hs] at hr
  rw [← hz, madeC _ (by omega)] at hr
  exact semK_of hr (kk _ (h.add ((Bl.refl w).alloc _) (Own.new w _ e) fun i hi => Nat.le_of_eq hi.symm) ((Bl.refl w).alloc _))
/-- Cells written from a place on. -/
def putC : List Value → Nat → List Value → List Value
  | cs, _, [] => cs
  | cs, o, v :: vs => putC (cs.set o v) (o + 1) vs
theorem Own.setCells {b : Nat} {t : TypeId} : ∀ (vs cs : List Value) (o : Nat) (w : World), Own w b cs.toArray t → o + vs.length ≤ cs.length → Own (w.setCells b o vs) b (putC cs o vs).toArray t
  | [], cs, o, w, h, _ => h
  | v :: vs, cs, o, w, h, hl => by
    simp only [List.length_cons] at hl
    have h1 := (setO (v := v) (i := o) h (by simp; omega)).1
    rw [World.setCells, putC]
    refine Own.setCells vs (cs.set o v) (o + 1) _ ?_ (by rw [List.length_set]; omega)
    simpa using h1
theorem heap_setCells {b : Nat} : ∀ (vs : List Value) (o : Nat) (w : World), Ext (fun k => k = b) w (w.setCells b o vs)
  | [], o, w => Ext.refl w
  | v :: vs, o, w => by
    rw [World.setCells]
    refine Ext.trans (S' := fun k => k = b) ?_ (heap_setCells vs (o + 1) _) fun k _ h => h
    exact ⟨rfl, rfl, rfl, by simp [World.setCell], fun k hk hb => Below.heap_setCell _ _ _ _ hb⟩
/-- An element of several cells written in a block of one's own. -/
theorem stMid {b o : Nat} {cs vs : List Value} {t ty : TypeId} {F : World → Prop} (h : Hp Z w0 w L) (hm : Pos L (.own b cs.toArray t) (.own b (putC cs o vs).toArray t) M) (hl : o + vs.length ≤ cs.length) (hz : (P.info? ty).map (·.size) = some vs.length) (h1 : onesB vs = true)
    (k : ∀ w', Hp Z w0 w' M → Ext (· = b) w w' → F w') : semU P (Instr.storeAt ty (.pointer (some ⟨b, o, none⟩)) (.agg vs.toArray)) w F := by
  have ho : Own w b cs.toArray t := h.all _ hm.mem
  have hr := run_storeAt_mid (P := P) w b o ty vs.toArray (fun j hj => ⟨by
    rw [ho.cell]; simp at hj; simp; omega, ho.frozen⟩) (by simpa using hz) (by
    rw [Array.all_eq_true]; intro i hi; exact onesB_all _ h1 _ (by simp))
  have he := heap_setCells (b := b) vs o w
  refine semU_of hr (k _ (h.turn hm he ?_ fun i hi => .inl hi) he)
  exact Own.setCells vs cs o w ho hl
end
/-- make(t, 0, n) of elements of several cells: a row. -/
theorem makeRZ {P : Program} {Z : Nat → Prop} {w0 w : World} {L : List Ent} {t e by' n z : Nat} {zv : Value} {F : Value → World → Prop} (h : Hp Z w0 w L) (ht : P.underlying t = some (.slice e)) (hi : (P.info? e).map (fun i => (i.zero, i.size, i.bytes)) = some (some zv, z, by')) (hz : zv.cells.size = z) (hz0 : Nat.ble 1 z = true) (hzz : Nat.ble z 1000 = true) (hn : n ≤ 1073741824) (hb : Nat.ble by' 65536 = true)
    (kk : ∀ w', Hp Z w0 w' (.row z (some ⟨w.heap.size, 0, none⟩) 0 n e [] :: L) → F (.slice (some ⟨w.heap.size, 0, none⟩) 0 n) w') :
    semK P (Instr.makeSlice t (.int .i64 0) (.int .i64 (n : Int))) w F := by
  rw [Nat.ble_eq] at hz0 hb hzz
  obtain ⟨i, hi', hq⟩ := Option.map_eq_some_iff.1 hi
  simp only [Prod.mk.injEq] at hq
  obtain ⟨hz1, hs, hbb⟩ := hq
  have hm : maxLen = 9223372036854775807 := rfl
  have hbn : i.bytes * n ≤ 65536 * 1073741824 := Nat.mul_le_mul (by omega) hn
  have hb1 : (i.bytes : Int) * (n : Int) ≤ 281474976710656 := by
    have h : ((i.bytes * n : Nat) : Int) ≤ 281474976710656 := by omega
    rwa [Int.natCast_mul] at h
  have hr := run_make (P := P) w t e i zv ht hi' hz1 .i64 .i64 0 n (by omega) (by omega) hb1 (by omega)
  simp only [Int.toNat_natCast, Int.toNat_zero, hs] at hr
  have hnz : n * z ≤ 1073741824 * 1000 := Nat.mul_le_mul hn hzz
  refine semK_of hr (kk _ (h.add ((Bl.refl w).alloc _) (x := .row z (some ⟨w.heap.size, 0, none⟩) 0 n e []) ?_ fun i hi => ?_))
  · exact ⟨by simp, .inr ⟨w.heap.size, n, madeCells zv.cells (n * z), rfl, Nat.zero_le _, Own.new _ _ _, Nat.zero_le _, by omega, by rw [size_madeCells], by simp⟩⟩
  · have hi : Blk (.slice (some ⟨w.heap.size, 0, none⟩) 0 n) i := hi
    unfold Blk at hi; simp [Value.ownBlock] at hi; omega
end Go.Proofs.YtcanicgpkbhhdaaGreatDoor.Sh

namespace Go.Proofs.YtcanicgpkbhhdaaGreatDoor.Rn
open Go Go.RowKit Go.Proofs.YtcanicgpkbhhdaaGreatDoor.Sh
set_option linter.unusedVariables false
set_option linter.unusedSimpArgs false
theorem rdL_ok {f : Nat → Option V} : ∀ {n i : Nat} {l : List V}, rdL f n i = some l → l.length = n ∧ ∀ j v, l[j]? = some v → f (i + j) = some v
  | 0, i, l, h => by simp only [rdL, Option.some.injEq] at h; subst h; simp
  | n + 1, i, l, h => by
    rw [rdL] at h
    cases hf : f i with
    | none => rw [hf] at h; cases h
    | some x =>
      rw [hf] at h
      simp only at h
      cases hr : rdL f n (i + 1) with
      | none => rw [hr] at h; cases h
      | some r =>
        rw [hr] at h
        simp only [Option.some.injEq] at h
        subst h
        obtain ⟨h1, h2⟩ := rdL_ok hr
        refine ⟨by simp [h1], fun j v hj => ?_⟩
        cases j with
        | zero => simp only [List.getElem?_cons_zero, Option.some.injEq] at hj; subst hj; exact hf
        | succ j =>
          rw [List.getElem?_cons_succ] at hj
          have := h2 j v hj
          rw [show i + (j + 1) = i + 1 + j by omega]
          exact this
theorem wrL_get : ∀ {vs : List V} {o : Nat} {tr : Tr V} {i : Nat}, o + vs.length ≤ 1000000000 → i < 1000000000 → (wrL vs o tr).get i = if o ≤ i ∧ i < o + vs.length then vs[i - o]? else tr.get i
  | [], o, tr, i, ho, hi => by
    simp only [wrL, List.length_nil]
    rw [if_neg (by omega)]
  | v :: vs, o, tr, i, ho, hi => by
    simp only [List.length_cons] at ho
    rw [wrL, wrL_get (by omega) hi, Tr.get_put _ _ (by omega) hi, List.length_cons]
    by_cases h1 : o + 1 ≤ i ∧ i < o + 1 + vs.length
    · rw [if_pos h1, if_pos (by omega), show i - o = (i - (o + 1)) + 1 by omega, List.getElem?_cons_succ]
    · rw [if_neg h1]
      by_cases h2 : i = o
      · rw [if_pos h2, if_pos (by omega), h2, Nat.sub_self]; rfl
      · rw [if_neg h2, if_neg (by omega)]
theorem putC_get : ∀ {vs cs : List Value} {o i : Nat}, o + vs.length ≤ cs.length → (putC cs o vs)[i]? = if o ≤ i ∧ i < o + vs.length then vs[i - o]? else cs[i]?
  | [], cs, o, i, h => by
    simp only [putC, List.length_nil]
    rw [if_neg (by omega)]
  | v :: vs, cs, o, i, h => by
    simp only [List.length_cons] at h
    rw [putC, putC_get (by rw [List.length_set]; omega), List.length_cons]
    by_cases h1 : o + 1 ≤ i ∧ i < o + 1 + vs.length
    · rw [if_pos h1, if_pos (by omega), show i - o = (i - (o + 1)) + 1 by omega, List.getElem?_cons_succ]
    · rw [if_neg h1, List.getElem?_set]
      by_cases h2 : o = i
      · rw [if_pos h2, if_pos (by omega), if_pos (by omega)]; subst h2; rw [Nat.sub_self]; rfl
      · rw [if_neg h2, if_neg (by omega)]
theorem putC_len : ∀ {vs cs : List Value} {o : Nat}, (putC cs o vs).length = cs.length
  | [], cs, o => rfl
  | v :: vs, cs, o => by rw [putC, putC_len, List.length_set]
theorem denL_len (c : Cx) (l : List V) : (V.denL c l).length = l.length := by rw [denL_map, List.length_map]
theorem denL_get (c : Cx) (l : List V) (i : Nat) : (V.denL c l)[i]? = (l[i]?).map (V.den c) := by rw [denL_map, List.getElem?_map]
section
variable {c : Cx} {w0 : Bs} {w : World} {H : Hs}
theorem Hs.valO_row (f : Nat) {b t z : Nat} {tr : Tr V} : H.valO b (.row f t z tr) = H.val f b := rfl
/-- Cells read. -/
theorem Rep.cells {b off n : Nat} {l : List V} (h : Rep c w0 w H) (hb : b < H.next) (hc : H.cells b off n = some l) : l.length = n ∧ ∀ j v, l[j]? = some v → w.cell? ⟨c.ρ b, c.ω b + off + j, none⟩ = some (v.den c) ∧ v.lt H.next := by
  have hsz := h.sz
  have key : ∀ {arr : Array Value} {t i : Nat} {x : Value}, w.heap[c.ρ b]? = some (.cells arr t (0, 0)) → arr[i]? = some x → w.cell? ⟨c.ρ b, i, none⟩ = some x := fun {arr t i x} h1 h2 => by
    simp only [World.cell?, h1]
    simpa using h2
  unfold Hs.cells at hc
  cases ho : H.get b with
  | none => rw [ho] at hc; cases hc
  | some o =>
    rw [ho] at hc
    have hat := h.at_ b o hb ho
    have hlt := (h.lt b o (by omega) ho).2
    cases o with
    | cells m t d tr =>
      simp only at hc
      cases hle : Nat.ble (off + n) m with
      | false => rw [hle] at hc; cases hc
      | true =>
        rw [hle] at hc
        have hle : off + n ≤ m := by rw [Nat.ble_eq] at hle; exact hle
        obtain ⟨h1, h2⟩ := rdL_ok hc
        obtain ⟨_, arr, g1, g2, g3⟩ := hat
        refine ⟨h1, fun j v hj => ?_⟩
        have hjl := (List.getElem?_eq_some_iff.1 hj).1
        have h3 := h2 j v hj
        simp only [Option.some.injEq] at h3
        subst h3
        refine ⟨?_, hlt _ (by omega)⟩
        rw [g2.2, Nat.zero_add]
        exact key g1 (g3 _ (by omega))
    | row f t z tr =>
      simp only at hc
      cases hle : Nat.ble (off + n) (H.val f b) with
      | false => rw [hle] at hc; cases hc
      | true =>
        rw [hle] at hc
        have hle : off + n ≤ H.val f b := by rw [Nat.ble_eq] at hle; exact hle
        obtain ⟨h1, h2⟩ := rdL_ok hc
        obtain ⟨h0, arr, g1, g2, g3, g4, g5, g6⟩ := hat
        simp only [Hs.valO_row] at h0 g4 g6
        refine ⟨h1, fun j v hj => ?_⟩
        have hjl := (List.getElem?_eq_some_iff.1 hj).1
        have h3 := h2 j v hj
        obtain ⟨x, h4, h5⟩ := g6 (off + j) (by omega)
        rw [h3] at h4
        cases h4
        rw [Nat.add_assoc]
        exact ⟨key g1 h5, hlt.2 _ (by omega) _ h3⟩
    | _ => cases hc
theorem look_cut {b m : Nat} : ∀ {l : List (Nat × Nat)} {u : Nat}, look (cutL b m l) u = if u = b then look l u else min (look l u) m
  | [], u => by simp [cutL, look]
  | (x, n) :: l, u => by
    rw [cutL]
    cases h1 : Nat.beq x b with
    | true =>
      simp only [look]
      cases h2 : Nat.beq x u with
      | true => rw [if_pos ((Nat.eq_of_beq_eq_true h2).symm.trans (Nat.eq_of_beq_eq_true h1))]
      | false => simp only [look_cut]
    | false =>
      simp only [look]
      cases h2 : Nat.beq x u with
      | true =>
        have e1 := Nat.eq_of_beq_eq_true h2
        have : u ≠ b := fun e => by rw [e1, e, Nat.beq_refl] at h1; cases h1
        rw [if_neg this]
      | false => simp only [look_cut]
theorem val_fam (H : Hs) {f b : Nat} : H.val f b = look (famOf H f) b := by
  unfold Hs.val famOf
  cases H.fam.get f <;> rfl
/-- Cells written. -/
theorem Rep.write {b off : Nat} {vs : List V} {H' : Hs} (h : Rep c w0 w H) (hb : b < H.next) (hw : H.write b off vs = some H') (hl : V.ltL H.next vs) :
    Rep c w0 (w.setCells (c.ρ b) (c.ω b + off) (V.denL c vs)) H' ∧ H'.next = H.next ∧ ∀ j, j < vs.length → (∃ u, w.cell? ⟨c.ρ b, c.ω b + off + j, none⟩ = some u) ∧ w.frozen? ⟨c.ρ b, c.ω b + off + j, none⟩ = false := by
  have hsz := h.sz
  rw [ltL_iff] at hl
  have he := heap_setCells (b := c.ρ b) (V.denL c vs) (c.ω b + off) w
  unfold Hs.write at hw
  cases ho : H.get b with
  | none => rw [ho] at hw; cases hw
  | some o =>
    rw [ho] at hw
    have hat := h.at_ b o hb ho
    have hlt := (h.lt b o (by omega) ho).2
    have fin : ∀ {arr : Array Value} {t : Nat}, Own w (c.ρ b) arr t → c.ω b + off + vs.length ≤ arr.size → ∀ j, j < vs.length → (∃ u, w.cell? ⟨c.ρ b, c.ω b + off + j, none⟩ = some u) ∧ w.frozen? ⟨c.ρ b, c.ω b + off + j, none⟩ = false := fun {arr t} hown hle j hj =>
      ⟨⟨arr[c.ω b + off + j], by rw [hown.cell]; exact Array.getElem?_eq_getElem (by omega)⟩, hown.frozen⟩
    cases o with
    | cells m t d tr =>
      simp only at hw
      cases hle : Nat.ble (off + vs.length) m with
      | false => rw [hle] at hw; cases hw
      | true =>
        rw [hle] at hw
        simp only [Option.some.injEq] at hw
        subst hw
        have hle : off + vs.length ≤ m := by rw [Nat.ble_eq] at hle; exact hle
        obtain ⟨hm, arr, g1, ⟨g2, gω⟩, g3⟩ := hat
        rw [gω, Nat.zero_add] at he fin ⊢
        have hown : Own w (c.ρ b) arr.toList.toArray t := by rw [Array.toArray_toList]; exact g1
        have ho2 := hown.setCells (V.denL c vs) _ off w (by rw [denL_len]; simp; omega)
        refine ⟨h.chg1 hb ho trivial rfl he (.inl ⟨trivial, rfl⟩) ?_ ?_, rfl, fin (arr := arr) (by simpa using hown) (by omega)⟩
        · intro i hi
          unfold cellOf
          rw [wrL_get (by omega) (by omega)]
          by_cases hr : off ≤ i ∧ i < off + vs.length
          · rw [if_pos hr, List.getElem?_eq_getElem (by omega)]
            exact hl _ (List.getElem_mem _)
          · rw [if_neg hr]
            exact hlt i hi
        · refine ⟨hm, _, ho2, ⟨by simp [putC_len]; omega, gω⟩, fun i hi => ?_⟩
          rw [List.getElem?_toArray, putC_get (by rw [denL_len]; simp; omega), denL_len]
          unfold cellOf
          rw [wrL_get (by omega) (by omega)]
          by_cases hr : off ≤ i ∧ i < off + vs.length
          · rw [if_pos hr, if_pos hr, denL_get, List.getElem?_eq_getElem (by omega)]
            rfl
          · rw [if_neg hr, if_neg hr]
            have := g3 i hi
            unfold cellOf at this
            simpa using this
    | row f t z tr =>
      simp only at hw
      cases hle : Nat.ble (off + vs.length) (H.val f b) with
      | false => rw [hle] at hw; cases hw
      | true =>
        rw [hle] at hw
        simp only [Option.some.injEq] at hw
        subst hw
        have hle : off + vs.length ≤ H.val f b := by rw [Nat.ble_eq] at hle; exact hle
        obtain ⟨h0, arr, g1, g2, g3, g4, g5, g6⟩ := hat
        simp only [Hs.valO_row] at h0 g4 g6
        have hf9 : f < 1000000000 := hlt.1 |> fun h => by omega
        have hown : Own w (c.ρ b) arr.toList.toArray t := by rw [Array.toArray_toList]; exact g1
        have ho2 := hown.setCells (V.denL c vs) _ (c.ω b + off) w (by rw [denL_len]; simp; omega)
        have hval : ∀ (u g : Nat), g < 1000000000 → Hs.val ⟨H.next, H.tr.put b (.row f t z (wrL vs off tr)), H.fam.put f (cutL b off (famOf H f)), H.exp⟩ g u = if g = f then (if u = b then H.val f u else min (H.val f u) off) else H.val g u := fun u g hg => by
          rw [val_fam]
          unfold famOf
          simp only
          rw [Tr.get_put _ _ hf9 hg]
          by_cases hgf : g = f
          · rw [if_pos hgf, if_pos hgf]
            simp only
            rw [look_cut, val_fam H (f := f) (b := u)]
            rfl
          · rw [if_neg hgf, if_neg hgf, val_fam H (f := g) (b := u)]
            rfl
        refine ⟨h.chg (o' := .row f t z (wrL vs off tr)) hb ho trivial he rfl rfl rfl (.inl ⟨trivial, rfl, by rw [Hs.valO_row, hval b f hf9, if_pos rfl, if_pos rfl]; exact Nat.le_refl _⟩) ⟨hlt.1, fun i hi v hv => ?_⟩ ?_ fun u ou hu hub hou => ?_, rfl, fin (arr := arr) (by rw [Array.toArray_toList] at hown; exact hown) (by omega)⟩
        · rw [wrL_get (by omega) hi] at hv
          by_cases hr : off ≤ i ∧ i < off + vs.length
          · rw [if_pos hr] at hv
            exact hl _ (List.mem_of_getElem? hv)
          · rw [if_neg hr] at hv
            exact hlt.2 i hi v hv
        · rw [Hs.valO_row, hval b f hf9, if_pos rfl, if_pos rfl]
          refine ⟨h0, _, ho2, by simp [putC_len]; omega, g3, g4, g5, fun i hi => ?_⟩
          rw [wrL_get (by omega) (by omega), List.getElem?_toArray, putC_get (by rw [denL_len]; simp; omega), denL_len]
          by_cases hr : off ≤ i ∧ i < off + vs.length
          · rw [if_pos hr, if_pos (by omega), denL_get, show c.ω b + i - (c.ω b + off) = i - off by omega, List.getElem?_eq_getElem (by omega)]
            exact ⟨_, rfl, rfl⟩
          · rw [if_neg hr, if_neg (by omega)]
            obtain ⟨x, h5, h6⟩ := g6 i hi
            exact ⟨x, h5, by simpa using h6⟩
        · have hlu := (h.lt u ou (by omega) hou).2
          have hatu := h.at_ u ou hu hou
          refine ⟨?_, fun hft => ?_⟩
          · cases ou with
            | row f' t' z' tr' =>
              rw [Hs.valO_row, Hs.valO_row, hval u f' (by have := hlu.1; omega)]
              split
              · rename_i e
                subst e
                first | exact Nat.min_le_left _ _ | (rw [if_neg hub]; exact Nat.min_le_left _ _)
              · exact Nat.le_refl _
            | _ => exact Nat.le_refl _
          · obtain ⟨q1, q2, q3⟩ := h.ap b u _ ou hb hu ho hou (fun e => hub e.symm) trivial _ rfl hft
            cases ou with
            | row f' t' z' tr' =>
              simp only [O.fam, Option.some.injEq] at q2
              subst q2
              simp only [Hs.valO_row] at q3
              have hru : c.ρ b = c.ρ u := hft
              obtain ⟨p0, arr', p1, p2, p3, p4, p5, p6⟩ := hatu
              rw [← hru, g1] at p1
              simp only [Option.some.injEq, Obj.cells.injEq] at p1
              obtain ⟨rfl, rfl, _⟩ := p1
              simp only [Hs.valO_row] at p0 p4 p6
              rw [Hs.valO_row, hval u f hf9, if_pos rfl, if_neg hub]
              refine ⟨by omega, _, by rw [← hru]; exact ho2, by simp [putC_len]; omega, p3, by omega, p5, fun i hi => ?_⟩
              have hmin : i < H.val f u ∧ i < off := Nat.lt_min.1 hi
              obtain ⟨x, h5, h6⟩ := p6 i hmin.1
              refine ⟨x, h5, ?_⟩
              have hω : c.ω b = c.ω u := by
                rcases q3 with q | q | q
                · exact q
                · have : off + vs.length ≤ 0 := by omega
                  omega
                · omega
              rw [List.getElem?_toArray, putC_get (by rw [denL_len]; simp; omega), denL_len, if_neg (by omega)]
              simpa using h6
            | _ => cases q2
    | _ => cases hw
end
end Go.Proofs.YtcanicgpkbhhdaaGreatDoor.Rn

namespace Go.Proofs.YtcanicgpkbhhdaaGreatDoor.Rn
open Go Go.RowKit Go.Proofs.YtcanicgpkbhhdaaGreatDoor.Sh
set_option linter.unusedVariables false
set_option linter.unusedSimpArgs false
theorem sameV_eq {a b : V} (h : sameV a b = true) : a = b := by
  cases a <;> cases b <;> first | rfl | (simp [sameV] at h; done) | skip
  · rename_i x y; cases x <;> cases y <;> first | rfl | (simp [sameV] at h)
  · rename_i k x k' y
    simp only [sameV, Bool.and_eq_true, kq] at h
    rw [kB_eq h.1, intB_eq h.2]
theorem packT_get {d : V} : ∀ {l : List V} {i : Nat} {tr : Tr V} {j : Nat}, i + l.length ≤ 1000000000 → j < 1000000000 → (∀ k, i ≤ k → k < 1000000000 → tr.get k = none) →
    cellOf d (packT d l i tr) j = if i ≤ j ∧ j < i + l.length then (l[j - i]?).getD d else cellOf d tr j
  | [], i, tr, j, hl, hj, h0 => by
    simp only [packT, List.length_nil]
    rw [if_neg (by omega)]
  | v :: l, i, tr, j, hl, hj, h0 => by
    simp only [List.length_cons] at hl
    rw [packT, List.length_cons]
    cases hs : sameV d v with
    | true =>
      have hd := sameV_eq hs
      simp only
      rw [packT_get (by omega) hj fun k hk hk9 => h0 k (by omega) hk9]
      by_cases h1 : i + 1 ≤ j ∧ j < i + 1 + l.length
      · rw [if_pos h1, if_pos (by omega), show j - i = (j - (i + 1)) + 1 by omega, List.getElem?_cons_succ]
      · rw [if_neg h1]
        by_cases h2 : j = i
        · subst h2
          rw [if_pos (by omega), Nat.sub_self]
          unfold cellOf
          rw [h0 j (Nat.le_refl _) hj]
          exact hd
        · rw [if_neg (by omega)]
    | false =>
      simp only
      rw [packT_get (by omega) hj fun k hk hk9 => by rw [Tr.get_put _ _ (by omega) hk9, if_neg (by omega)]; exact h0 k (by omega) hk9]
      by_cases h1 : i + 1 ≤ j ∧ j < i + 1 + l.length
      · rw [if_pos h1, if_pos (by omega), show j - i = (j - (i + 1)) + 1 by omega, List.getElem?_cons_succ]
      · rw [if_neg h1]
        have hp : cellOf d (tr.put i v) j = if j = i then v else cellOf d tr j := by
          unfold cellOf
          rw [Tr.get_put _ _ (by omega) hj]
          by_cases h2 : j = i
          · rw [if_pos h2, if_pos h2]
          · rw [if_neg h2, if_neg h2]
        rw [hp]
        by_cases h2 : j = i
        · subst h2
          rw [if_pos rfl, if_pos ⟨by omega, by omega⟩, Nat.sub_self]
          rfl
        · rw [if_neg h2, if_neg (by omega)]
theorem packO_get {t : TypeId} {l : List V} (hl : l.length < 1000000000) : ∃ d tr, packO t l = .cells l.length t d tr ∧ ∀ j, j < l.length → l[j]? = some (cellOf d tr j) := by
  cases l with
  | nil => exact ⟨.nilp, .nil, rfl, fun j hj => by simp at hj⟩
  | cons d r =>
    simp only [List.length_cons] at hl
    refine ⟨d, packT d r 1 .nil, rfl, fun j hj => ?_⟩
    simp only [List.length_cons] at hj
    rw [packT_get (by omega) (by omega) fun k _ _ => Tr.get_nil k]
    cases j with
    | zero => rw [if_neg (by omega)]; rfl
    | succ j =>
      rw [if_pos (by omega), List.getElem?_cons_succ, Nat.add_sub_cancel, List.getElem?_eq_getElem (by omega)]
      rfl
section
variable {c : Cx} {w0 : Bs} {w : World} {H : Hs}
/-- A block of one's own. -/
theorem Rep.alloc {t : TypeId} {l : List V} (h : Rep c w0 w H) (hz : H.next + 1 < 1000000000) (hl : V.ltL H.next l) (hn : l.length < 1000000000) :
    Rep (c.add H.next w.heap.size 0) w0 (w.alloc (.cells (V.denL c l).toArray t)) (H.new (packO t l)) := by
  obtain ⟨d, tr, hp, hg⟩ := packO_get (t := t) hn
  have ha := c.add_agr H.next w.heap.size 0
  rw [ltL_iff] at hl
  rw [hp]
  have hcell : ∀ j, j < l.length → (cellOf d tr j).lt H.next ∧ (V.denL c l)[j]? = some ((cellOf d tr j).den c) := fun j hj => by
    have := hg j hj
    exact ⟨hl _ (List.mem_of_getElem? this), by rw [denL_get, this]; rfl⟩
  refine h.grow1 (o := .cells l.length t d tr) ha ((Bl.refl w).alloc _) rfl hz rfl rfl (fun b o _ _ => ?_) (fun i hi => V.lt_mono (by omega) _ (hcell i hi).1) ⟨hn, (V.denL c l).toArray, ?_, ⟨by simp [denL_len], Cx.add_ω _ _ _ _⟩, fun i hi => ?_⟩ (fun k hk => ?_) fun _ => ?_
  · cases o <;> exact Nat.le_refl _
  · rw [Cx.add_ρ]
    exact Own.new w _ t
  · rw [List.getElem?_toArray, (hcell i hi).2, V.agr ha _ (hcell i hi).1]
  · have hk : k = (c.add H.next w.heap.size 0).ρ H.next := hk
    rw [hk, Cx.add_ρ]
    exact Nat.le_refl _
  · rw [Cx.add_ρ]
    exact Nat.le_refl _
end
end Go.Proofs.YtcanicgpkbhhdaaGreatDoor.Rn
