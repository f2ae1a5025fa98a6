/- Words for worlds: a block that is wholly known (Own), a world that differs in some blocks alone (Ext), addresses of elements, stores. No condition. -/
import Derived.Test.YtalhnoelkglgiaaSh6
import Derived.Laws.Tables
import Derived.Laws.Entries
import Derived.Laws.Strings
namespace Go.Proofs.Ytalhnoelkglgiaa.Sh
open Go Go.RowKit
set_option linter.unusedVariables false
set_option linter.unusedSimpArgs false

/-! ### Operations -/
theorem semK_of {P : Program} {s : Sem Value} {w w' : World} {v : Value} {F : Value → World → Prop} (h : s.run P w = .ok v w') (k : F v w') : semK P s w F := by
  unfold semK; rw [Sem.wp_iff_run, h]; exact k
theorem semU_of {P : Program} {s : Sem Unit} {w w' : World} {F : World → Prop} (h : s.run P w = .ok () w') (k : F w') : semU P s w F := by
  unfold semU; rw [Sem.wp_iff_run, h]; exact k
theorem run_sizeOf {P : Program} {w : World} {t : TypeId} {n : Nat} (h : (P.info? t).map (·.size) = some n) : (sizeOf t).run P w = .ok n w := by
  cases hi : P.info? t with
  | none => simp [hi] at h
  | some i => simp [hi] at h; simp [sizeOf, typeInfo, hi, h]
/-- An element's address: of a slice. -/
theorem ixS {P : Program} {w : World} {t e : TypeId} {z : Nat} {a : Addr} {l c : Nat} {k : IntKind} {i : Int} {F : Value → World → Prop} (ht : P.underlying t = some (.slice e)) (hz : (P.info? e).map (·.size) = some z)
    (h0 : 0 ≤ i) (h1 : i < (l : Int)) (kk : F (.pointer (some (a.add (i.toNat * z)))) w) : semK P (Instr.indexAt t (.slice (some a) l c) (.int k i)) w F := by
  have he : P.elem t = e := by simp [Program.elem, ht]
  refine semK_of (run_indexAt_slice (P := P) w t a l c k i (by rw [he]; exact ht) |>.trans ?_) kk
  rw [if_pos ⟨h0, h1⟩, he, run_sizeOf hz]; rfl
/-- An element's address: of an array. -/
theorem ixA {P : Program} {w : World} {t e : TypeId} {n z : Nat} {a : Addr} {k : IntKind} {i : Int} {F : Value → World → Prop} (ht : P.underlying t = some (.array n e)) (hz : (P.info? e).map (·.size) = some z)
    (h0 : 0 ≤ i) (h1 : i < (n : Int)) (kk : F (.pointer (some (a.add (i.toNat * z)))) w) : semK P (Instr.indexAt t (.pointer (some a)) (.int k i)) w F := by
  have he : P.elem t = e := by simp [Program.elem, ht]
  have hn : P.arrayLen t = n := by simp [Program.arrayLen, ht]
  refine semK_of (run_indexAt_array (P := P) w t a k i (by rw [he, hn]; exact ht) |>.trans ?_) kk
  rw [hn, if_pos ⟨h0, h1⟩, he, run_sizeOf hz]; rfl
/-- A byte of a string. -/
theorem ixStr {P : Program} {w : World} {t : TypeId} {s : ByteArray} {k : IntKind} {i : Int} {F : Value → World → Prop} (ht : P.underlying t = some .string) (h0 : 0 ≤ i) (h1 : i < (s.size : Int))
    (kk : F (.int .u8 (s[i.toNat]'(by omega)).toNat) w) : semK P (Instr.index t (.string s) (.int k i)) w F := by
  refine semK_of (run_index_string (P := P) w t s k i ht |>.trans ?_) kk
  rw [dif_pos ⟨h0, h1⟩]

/-! ### Blocks -/
def Own (w : World) (b : Nat) (cs : Array Value) (t : TypeId) : Prop := w.heap[b]? = some (.cells cs t (0, 0))
/-- Those blocks aside, the world is as it was; blocks may have come. -/
structure Ext (S : Nat → Prop) (w w' : World) : Prop where
  os : w'.os = w.os
  tape : w'.tape = w.tape
  output : w'.output = w.output
  size : w.heap.size ≤ w'.heap.size
  block : ∀ k, k < w.heap.size → ¬ S k → w'.heap[k]? = w.heap[k]?
def None' : Nat → Prop := fun _ => False
theorem Ext.refl {S : Nat → Prop} (w : World) : Ext S w w := ⟨rfl, rfl, rfl, Nat.le_refl _, fun _ _ _ => rfl⟩
theorem Ext.of_bl {S : Nat → Prop} {w w' : World} (h : Bl w w') : Ext S w w' := ⟨h.os, h.tape, h.output, h.size, fun k hk _ => h.block k hk⟩
theorem Ext.bl {S : Nat → Prop} {w w' : World} (h : Ext S w w') (hS : ∀ k, k < w.heap.size → ¬ S k) : Bl w w' := ⟨h.os, h.tape, h.output, h.size, fun k hk => h.block k hk (hS k hk)⟩
theorem Ext.mono {S S' : Nat → Prop} {w w' : World} (h : Ext S w w') (hS : ∀ k, k < w.heap.size → S k → S' k) : Ext S' w w' := ⟨h.os, h.tape, h.output, h.size, fun k hk hn => h.block k hk fun hs => hn (hS k hk hs)⟩
theorem Ext.trans {S S' : Nat → Prop} {a b c : World} (h : Ext S a b) (k : Ext S' b c) (hS : ∀ k, k < a.heap.size → S' k → S k) : Ext S a c :=
  ⟨k.os.trans h.os, k.tape.trans h.tape, k.output.trans h.output, Nat.le_trans h.size k.size, fun i hi hn => (k.block i (Nat.lt_of_lt_of_le hi h.size) fun hs => hn (hS i hi hs)).trans (h.block i hi hn)⟩
theorem Ext.alloc {S : Nat → Prop} {a w : World} (h : Ext S a w) (o : Obj) : Ext S a (w.alloc o) :=
  h.trans (S' := S) ⟨rfl, rfl, rfl, by simp, fun k hk _ => Below.heap_alloc _ _ _ hk⟩ fun _ _ h => h
theorem Ext.drew {S : Nat → Prop} {a w : World} (h : Ext S a w) : Ext S a w.drew := ⟨h.os, h.tape, h.output, h.size, h.block⟩
theorem size_alloc (w : World) (o : Obj) : (w.alloc o).heap.size = w.heap.size + 1 := by
  show (w.heap.push o).size = _
  simp
theorem Own.lt {w : World} {b : Nat} {cs : Array Value} {t : TypeId} (h : Own w b cs t) : b < w.heap.size := by
  by_cases hb : b < w.heap.size
  · exact hb
  · unfold Own at h; rw [Array.getElem?_eq_none (Nat.le_of_not_lt hb)] at h; cases h
theorem Own.ext {S : Nat → Prop} {w w' : World} {b : Nat} {cs : Array Value} {t : TypeId} (h : Own w b cs t) (k : Ext S w w') (hb : ¬ S b) : Own w' b cs t := (k.block b h.lt hb).trans h
theorem Own.bl {w w' : World} {b : Nat} {cs : Array Value} {t : TypeId} (h : Own w b cs t) (k : Bl w w') : Own w' b cs t := (k.block b h.lt).trans h
theorem Own.new (w : World) (cs : Array Value) (t : TypeId) : Own (w.alloc (.cells cs t)) w.heap.size cs t := by
  show (w.heap.push _)[w.heap.size]? = _
  simp
theorem Own.alloc {w : World} {b : Nat} {cs : Array Value} {t : TypeId} (h : Own w b cs t) (o : Obj) : Own (w.alloc o) b cs t := (Below.heap_alloc w o b h.lt).trans h
theorem Own.drew {w : World} {b : Nat} {cs : Array Value} {t : TypeId} (h : Own w b cs t) : Own w.drew b cs t := h
theorem Own.cell {w : World} {b i : Nat} {cs : Array Value} {t : TypeId} (h : Own w b cs t) : w.cell? ⟨b, i, none⟩ = cs[i]? := by
  unfold Own at h
  simp only [World.cell?]
  rw [h]; rfl
theorem Own.frozen {w : World} {b i : Nat} {cs : Array Value} {t : TypeId} (h : Own w b cs t) : w.frozen? ⟨b, i, none⟩ = false := by
  unfold Own at h
  simp only [World.frozen?]
  rw [h]
  simp
theorem ldO {P : Program} {w : World} {b i : Nat} {cs : Array Value} {t : TypeId} {v : Value} {F : Value → Prop} (h : Own w b cs t) (hv : cs[i]? = some v) (k : F v) : ldK P w ⟨b, i, none⟩ F := ld (h.cell.trans hv) k
/-- One cell written. -/
theorem setO {w : World} {b i : Nat} {cs : Array Value} {t : TypeId} {v : Value} (h : Own w b cs t) (hi : i < cs.size) : Own (w.setCell ⟨b, i, none⟩ v) b (cs.set i v) t ∧ Ext (· = b) w (w.setCell ⟨b, i, none⟩ v) := by
  constructor
  · unfold Own at h ⊢
    simp only [World.setCell, Array.getElem?_modify]
    simp only [if_true]
    rw [h]
    simp [Array.setIfInBounds, hi]
  · exact ⟨rfl, rfl, rfl, by simp [World.setCell], fun k hk hb => Below.heap_setCell _ _ _ _ hb⟩
theorem stO {P : Program} {w : World} {b i : Nat} {cs : Array Value} {t ty : TypeId} {v : Value} {F : World → Prop} (h : Own w b cs t) (hi : i < cs.size) (hz : (P.info? ty).map (·.size) = some 1) (h1 : v.oneCell' = true) (hc : v.cells = #[v])
    (k : ∀ w', Own w' b (cs.set i v) t → Ext (· = b) w w' → F w') : semU P (Instr.storeAt ty (.pointer (some ⟨b, i, none⟩)) v) w F := by
  obtain ⟨g1, g2⟩ := setO (v := v) h hi
  refine semU_of (w' := w.setCell ⟨b, i, none⟩ v) ?_ (k _ g1 g2)
  have hcell : w.cell? ⟨b, i, none⟩ = some cs[i] := by rw [h.cell]; simp [hi]
  have hs : (store ⟨b, i, none⟩ v .plain).run P w = .ok () (w.setCell ⟨b, i, none⟩ v) := by
    rw [run_store P w _ _ _ h1]
    simp only [stored, hcell, h.frozen]
    rfl
  simp [Instr.storeAt, Instr.sureAddr, storeVar, run_sizeOf hz, hc, storeCells, hs, Addr.add]
/-- The whole block written. -/
theorem stAll {P : Program} {w : World} {b : Nat} {cs vs : Array Value} {t ty : TypeId} {F : World → Prop} (h : Own w b cs t) (hz : (P.info? ty).map (·.size) = some vs.size) (hs : cs.size = vs.size) (h1 : vs.all (·.oneCell') = true)
    (k : ∀ w', Own w' b vs t → Ext (· = b) w w' → F w') : semU P (Instr.storeAt ty (.pointer (some ⟨b, 0, none⟩)) (.agg vs)) w F := by
  refine semU_of (w' := w.setRow b vs) ?_ (k _ ?_ ?_)
  · simp only [Instr.storeAt, Instr.sureAddr, Sem.run_bind, Sem.run_pure, Result.andThen_ok]
    exact run_storeVar_row w b t ty cs vs h hz hs h1
  · unfold Own at h ⊢
    simp only [World.setRow, Array.getElem?_modify, if_true, h]
    rfl
  · refine ⟨rfl, rfl, rfl, by simp [World.setRow], fun k hk hb => ?_⟩
    simp only [World.setRow, Array.getElem?_modify]
    rw [if_neg fun e => hb e.symm]
/-- Four numbers. -/
theorem Own.w4 {w : World} {b : Nat} {t : TypeId} {x0 x1 x2 x3 : Int} (h : Own w b #[.int .u64 x0, .int .u64 x1, .int .u64 x2, .int .u64 x3] t) : W4 w b x0 x1 x2 x3 :=
  ⟨by rw [h.cell]; rfl, by rw [h.cell]; rfl, by rw [h.cell]; rfl, by rw [h.cell]; rfl⟩
end Go.Proofs.Ytalhnoelkglgiaa.Sh
