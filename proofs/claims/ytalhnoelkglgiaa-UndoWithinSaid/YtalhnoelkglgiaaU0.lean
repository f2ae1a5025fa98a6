/- The table: what lies in memory, and what New, Get, Len, Marks answer. No condition. -/
import Derived.Test.YtalhnoelkglgiaaW0
import Derived.Test.YtalhnoelkglgiaaShM
namespace Go.Proofs.Ytalhnoelkglgiaa.W
open Go Go.Proofs.Ytalhnoelkglgiaa.Sh Go.RowKit
set_option linter.unusedVariables false
set_option maxRecDepth 100000
variable {w : World} {K : Value → World → Prop}

/-- How a key is put back. -/
inductive Un where
  | set (k v : Int)
  | del (k : Int)
/-- A function value that does it; its boxes lie in G. -/
def UnAt (w : World) (G : Nat → Prop) (tb : Nat) : Un → Value → Prop
  | .set k v, f => ∃ bv bt bk, f = .func (.func 35) #[] #[.pointer (some ⟨bv, 0, none⟩), .pointer (some ⟨bt, 0, none⟩), .pointer (some ⟨bk, 0, none⟩)] ∧ G bv ∧ G bt ∧ G bk ∧
      Own w bv #[.int .i64 v] 3 ∧ Own w bt #[.pointer (some ⟨tb, 0, none⟩)] 23 ∧ Own w bk #[.int .i64 k] 3
  | .del k, f => ∃ bt bk, f = .func (.func 36) #[] #[.pointer (some ⟨bt, 0, none⟩), .pointer (some ⟨bk, 0, none⟩)] ∧ G bt ∧ G bk ∧ Own w bt #[.pointer (some ⟨tb, 0, none⟩)] 23 ∧ Own w bk #[.int .i64 k] 3
theorem UnAt.ext {S G : Nat → Prop} {w w' : World} {tb : Nat} {u : Un} {f : Value} (h : UnAt w G tb u f) (k : Ext S w w') (hs : ∀ b, G b → ¬ S b) : UnAt w' G tb u f := by
  cases u with
  | set a b =>
    obtain ⟨bv, bt, bk, h1, g1, g2, g3, o1, o2, o3⟩ := h
    exact ⟨bv, bt, bk, h1, g1, g2, g3, o1.ext k (hs _ g1), o2.ext k (hs _ g2), o3.ext k (hs _ g3)⟩
  | del a =>
    obtain ⟨bt, bk, h1, g2, g3, o2, o3⟩ := h
    exact ⟨bt, bk, h1, g2, g3, o2.ext k (hs _ g2), o3.ext k (hs _ g3)⟩
theorem UnAt.mono {G G' : Nat → Prop} {w : World} {tb : Nat} {u : Un} {f : Value} (h : UnAt w G tb u f) (hg : ∀ b, G b → G' b) : UnAt w G' tb u f := by
  cases u with
  | set a b =>
    obtain ⟨bv, bt, bk, h1, g1, g2, g3, o⟩ := h
    exact ⟨bv, bt, bk, h1, hg _ g1, hg _ g2, hg _ g3, o⟩
  | del a =>
    obtain ⟨bt, bk, h1, g2, g3, o⟩ := h
    exact ⟨bt, bk, h1, hg _ g2, hg _ g3, o⟩

def nums (ms : List Nat) : List Value := ms.map fun (m : Nat) => Value.int .i64 (m : Int)
/-- A table in memory: its struct in block tb, its map in mb, its changes and its marks in two rows; the boxes of its changes in G. -/
structure TabD (w : World) (G : Nat → Prop) (tb mb c : Nat) (bp kp : Option Addr) (bc kc : Nat) (cells : List Value) (E : List E3) (B : List Un) (ms : List Nat) : Prop where
  own : Own w tb #[.map (some mb), .slice bp B.length bc, .slice kp ms.length kc] 58
  map : IMap w mb E c
  back : Row w (.slice bp B.length bc) 1 B.length cells
  marks : Row w (.slice kp ms.length kc) 3 ms.length (nums ms)
  uns : ∀ (j : Nat) (u : Un), B[j]? = some u → ∃ f, cells[j]? = some f ∧ UnAt w G tb u f
  n1 : tb ≠ mb
  n2 : ¬ Blk (.slice bp B.length bc) tb ∧ ¬ Blk (.slice bp B.length bc) mb
  n3 : ¬ Blk (.slice kp ms.length kc) tb ∧ ¬ Blk (.slice kp ms.length kc) mb
  n4 : ∀ g, Blk (.slice bp B.length bc) g → ¬ Blk (.slice kp ms.length kc) g
  n5 : ∀ b, G b → b ≠ tb ∧ b ≠ mb ∧ ¬ Blk (.slice bp B.length bc) b ∧ ¬ Blk (.slice kp ms.length kc) b
  n6 : ∀ b, G b → b < w.heap.size
/-- All blocks of a table. -/
def Foot (G : Nat → Prop) (tb mb : Nat) (bp kp : Option Addr) : Nat → Prop := fun k => k = tb ∨ k = mb ∨ (bp.map (·.block) = some k) ∨ (kp.map (·.block) = some k) ∨ G k
def Tab (w : World) (F : Nat → Prop) (tb : Nat) (E : List E3) (B : List Un) (ms : List Nat) : Prop :=
  ∃ G mb c bp kp bc kc cells, TabD w G tb mb c bp kp bc kc cells E B ms ∧ ∀ k, Foot G tb mb bp kp k → F k

section
variable {F G : Nat → Prop} {tb mb c bc kc : Nat} {bp kp : Option Addr} {cells : List Value} {E : List E3} {B : List Un} {ms : List Nat}
theorem blk_slice {p : Option Addr} {n c k : Nat} : Blk (.slice p n c) k ↔ p.map (·.block) = some k := by
  cases p <;> simp [Blk, Value.ownBlock]
theorem TabD.ext {S : Nat → Prop} {w' : World} (h : TabD w G tb mb c bp kp bc kc cells E B ms) (k : Ext S w w') (hs : ∀ b, Foot G tb mb bp kp b → ¬ S b) : TabD w' G tb mb c bp kp bc kc cells E B ms :=
  ⟨h.own.ext k (hs _ (.inl rfl)), h.map.ext k (hs _ (.inr (.inl rfl))), h.back.ext k fun g hg => hs _ (.inr (.inr (.inl (blk_slice.1 hg)))), h.marks.ext k fun g hg => hs _ (.inr (.inr (.inr (.inl (blk_slice.1 hg))))),
    fun j u hu => let ⟨f, hf, hu⟩ := h.uns j u hu; ⟨f, hf, hu.ext k fun b hb => hs _ (.inr (.inr (.inr (.inr hb))))⟩, h.n1, h.n2, h.n3, h.n4, h.n5, fun b hb => Nat.lt_of_lt_of_le (h.n6 b hb) k.size⟩
theorem TabD.lt (h : TabD w G tb mb c bp kp bc kc cells E B ms) : ∀ b, Foot G tb mb bp kp b → b < w.heap.size := by
  rintro b (rfl | rfl | hb | hb | hb)
  · exact h.own.lt
  · exact h.map.block
  · exact h.back.lt (blk_slice.2 hb)
  · exact h.marks.lt (blk_slice.2 hb)
  · exact h.n6 b hb
theorem Tab.ext {S : Nat → Prop} {w' : World} (h : Tab w F tb E B ms) (k : Ext S w w') (hs : ∀ b, F b → ¬ S b) : Tab w' F tb E B ms := by
  obtain ⟨G, mb, c, bp, kp, bc, kc, cells, h, hf⟩ := h
  exact ⟨G, mb, c, bp, kp, bc, kc, cells, h.ext k fun b hb => hs b (hf b hb), hf⟩
theorem Tab.bl {w' : World} (h : Tab w F tb E B ms) (k : Bl w w') : Tab w' F tb E B ms := h.ext (S := None') (Ext.of_bl k) fun _ _ h => h

/-! ### What is asked -/
theorem u55 : Try.prog.underlying 55 = some (.map 3 3) := by kernel_rfl
theorem u3 : Try.prog.underlying 3 = some (.int .i64) := by kernel_rfl
theorem z3 (w : World) : (zeroValue 3).run Try.prog w = .ok (.int .i64 0) w := by
  have : (Try.prog.info? 3).map (·.zero) = some (some (.int .i64 0)) := by kernel_rfl
  cases hi : Try.prog.info? 3 with
  | none => rw [hi] at this; cases this
  | some i => rw [hi] at this; simp at this; simp [zeroValue, typeInfo, hi, this, Result.andThen]
theorem optP_of {α : Type} {a : α} {F : α → Prop} (k : F a) : optP (some a) F := k
theorem asM_of {p : Option Nat} {F : Option Nat → Prop} (k : F p) : asM (.map p) F := k
theorem asL_of {p : Option Addr} {l c : Nat} {F : Option Addr → Nat → Nat → Prop} (k : F p l c) : asL (.slice p l c) F := k
theorem t2 {k : IntKind} {n : Int} {b : Bool} {F : Int → Bool → Prop} (h : F n b) : asT (.tuple #[.int k n, .bool b]) fun t0 => asHd t0 fun a t1 => asI k a fun n => asHd t1 fun b t2 => asB b fun m => asEnd t2 (F n m) :=
  show asI k (.int k n) fun n => asB (.bool b) fun m => F n m from asI_of h
theorem t0 {p : Prop} (h : p) : asT (.tuple #[]) fun t => asEnd t p := h

theorem new (k : ∀ w' F tb, Tab w' F tb [] [] [] → (∀ x, F x → w.heap.size ≤ x) → Bl w w' → K (.pointer (some ⟨tb, 0, none⟩)) w') : CallV Try.prog 10 #[] w K := by
  refine call10 w K ?_
  unfold F10
  have b1 : Bl w (w.alloc (.map #[] 0)) := (Bl.refl w).alloc _
  have h1 := IMap.new w
  have b2 := b1.alloc (.cells #[.map (some w.heap.size), .slice none 0 0, .slice none 0 0] 58)
  have hs := size_alloc w (.map #[] 0)
  refine k _ (fun x => w.heap.size ≤ x) _ ⟨fun _ => False, w.heap.size, 0, none, none, 0, 0, [], ⟨Own.new _ _ _, h1.bl ((Bl.refl _).alloc _), Row.nil _ _, Row.nil _ _, (fun j u h => by cases j <;> cases h), (by omega), ?_, ?_, ?_, (fun b h => False.elim h), (fun b h => False.elim h)⟩, ?_⟩ (fun _ h => h) b2
  · exact ⟨fun h => (by cases h), fun h => (by cases h)⟩
  · exact ⟨fun h => (by cases h), fun h => (by cases h)⟩
  · exact fun g h => (by cases h)
  · rintro x (rfl | rfl | h | h | h)
    · omega
    · exact Nat.le_refl _
    · cases h
    · cases h
    · exact h.elim
theorem get {key : Int} (h : Tab w F tb E B ms) (k : K (.tuple #[.int .i64 ((lkE E key).getD 0), .bool (lkE E key).isSome]) w) : CallV Try.prog 17 #[.pointer (some ⟨tb, 0, none⟩), .int .i64 key] w K := by
  obtain ⟨G, mb, c, bp, kp, bc, kc, cells, h, hf⟩ := h
  refine call17 _ key w K ?_
  unfold F17
  exact optP_of (ldO h.own rfl (asM_of (lookupI h.map u55 u3 (t2 k) z3)))
theorem len (h : Tab w F tb E B ms) (k : K (.int .i64 (E.length : Int)) w) : CallV Try.prog 22 #[.pointer (some ⟨tb, 0, none⟩)] w K := by
  obtain ⟨G, mb, c, bp, kp, bc, kc, cells, h, hf⟩ := h
  refine call22 _ w K ?_
  unfold F22
  exact optP_of (ldO h.own rfl (asM_of (lenI h.map u55 (asI_of k))))
theorem marks (h : Tab w F tb E B ms) (k : K (.int .i64 (ms.length : Int)) w) : CallV Try.prog 14 #[.pointer (some ⟨tb, 0, none⟩)] w K := by
  obtain ⟨G, mb, c, bp, kp, bc, kc, cells, h, hf⟩ := h
  refine call14 _ w K ?_
  unfold F14
  exact optP_of (ldO (i := 2) h.own rfl (asL_of k))
end
end Go.Proofs.Ytalhnoelkglgiaa.W
