/- The table: Forget; a step (do). No condition. -/
import Derived.Test.YtalhnoelkglgiaaU7
namespace Go.Proofs.Ytalhnoelkglgiaa.W
open Go Go.Proofs.Ytalhnoelkglgiaa.Sh Go.RowKit
set_option linter.unusedVariables false
set_option linter.unusedSimpArgs false
set_option maxRecDepth 100000
variable {w : World} {K : Value → World → Prop}
variable {F G : Nat → Prop} {tb mb c bc kc : Nat} {bp kp : Option Addr} {cells : List Value} {E : List E3} {B : List Un} {ms : List Nat}

theorem TabD.cutM {a : Nat} {w' : World} (h : TabD w G tb mb c bp kp bc kc cells E B ms) (ha : a ≤ ms.length) (own' : Own w' tb #[.map (some mb), .slice bp B.length bc, .slice kp a kc] 58) (e : Ext (· = tb) w w') : TabD w' G tb mb c bp kp bc kc cells E B (ms.take a) := by
  have l2 : (ms.take a).length = a := by rw [List.length_take]; omega
  have same2 : ∀ m x, Blk (.slice kp m kc) x ↔ Blk (.slice kp ms.length kc) x := fun m x => by rw [blk_slice, blk_slice]
  refine ⟨by rw [l2]; exact own', h.map.ext e fun x => h.n1 x.symm, h.back.ext e fun x hx y => h.n2.1 (y ▸ hx), ?_, fun j u hu => let ⟨f, h5, h6⟩ := h.uns j u hu; ⟨f, h5, h6.ext e fun b hb => (h.n5 b hb).1⟩, h.n1, h.n2, ?_, ?_, ?_, fun b hb => Nat.lt_of_lt_of_le (h.n6 b hb) e.size⟩
  · rw [l2]
    have := (h.marks.cut ha).ext e fun x hx y => h.n3.1 (by rw [same2] at hx; exact y ▸ hx)
    have hnm : nums (ms.take a) = (nums ms).take a := by simp [nums, List.map_take]
    rw [hnm]; exact this
  · rw [l2]; exact ⟨fun hb => h.n3.1 ((same2 _ _).1 hb), fun hb => h.n3.2 ((same2 _ _).1 hb)⟩
  · rw [l2]; exact fun g hg hg2 => h.n4 g hg ((same2 _ _).1 hg2)
  · rw [l2]; exact fun b hb => ⟨(h.n5 b hb).1, (h.n5 b hb).2.1, (h.n5 b hb).2.2.1, fun y => (h.n5 b hb).2.2.2 ((same2 _ _).1 y)⟩

theorem forgetOk {a : Nat} (h : Tab w F tb E B ms) (ha : a < ms.length) (k : ∀ w', Tab w' F tb E (if a = 0 then [] else B) (ms.take a) → Ext F w w' → K (.int .i64 0) w') : CallV Try.prog 21 #[.pointer (some ⟨tb, 0, none⟩), .int .i64 (a : Int)] w K := by
  obtain ⟨G, mb, c, bp, kp, bc, kc, cells, h, hf⟩ := h
  refine call21 _ _ w K ?_
  unfold F21
  refine ifD (fun hx => by omega) fun _ => optP_of (ldO (i := 2) h.own rfl (asL_of (ifD (fun hx => by omega) fun _ => ?_)))
  unfold J21_0
  have hbl : B.length ≤ bc := by rcases h.back.form with ⟨e, _⟩ | ⟨g, cap, e, hc⟩ <;> simp at e <;> omega
  have hml : ms.length ≤ kc := by rcases h.marks.form with ⟨e, _⟩ | ⟨g, cap, e, hc⟩ <;> simp at e <;> omega
  refine optP_of (ldO (i := 2) h.own rfl (asL_of (cutTo u29 s3 (by omega) (by omega) hml (asL_of (optP_of ?_)))))
  refine stO (i := 2) (b := tb) h.own (by simp) (by kernel_rfl) rfl rfl fun w2 own2 e2 => ?_
  have h2 := h.cutM (a := a) (by omega) (by simpa using own2) e2
  have e2f : Ext F w w2 := e2.mono fun x _ hx => hf x (.inl hx)
  refine ifE (fun h0 => ?_) fun h0 => ?_
  · have ha0 : a = 0 := by omega
    subst ha0
    refine optP_of (ldO (i := 1) h2.own rfl (asL_of (wipeAll h2.back u56 z1 rfl rfl fun w3 hr3 e3 => t0 ?_)))
    have own3 : Own w3 tb _ 58 := h2.own.ext e3 h2.n2.1
    refine optP_of (ldO (i := 1) own3 rfl (asL_of (cutTo u56 s1 (by decide) (by omega) hbl (asL_of (optP_of ?_)))))
    refine stO (i := 1) (b := tb) own3 (by simp) (by kernel_rfl) rfl rfl fun w4 own4 e4 => ?_
    have e24 : Ext F w w4 := (e2f.trans e3 fun x _ hx => hf x (.inr (.inr (.inl (blk_slice.1 hx))))).trans e4 fun x _ hx => hf x (.inl hx)
    have same : ∀ m x, Blk (.slice bp m bc) x ↔ Blk (.slice bp B.length bc) x := fun m x => by rw [blk_slice, blk_slice]
    refine k w4 ⟨G, mb, c, bp, kp, bc, kc, [], ⟨by simpa using own4, (h2.map.ext e3 h2.n2.2).ext e4 fun x => h2.n1 x.symm, ?_, (h2.marks.ext e3 fun x hx hx2 => h2.n4 x hx2 hx).ext e4 fun x hx y => h2.n3.1 (y ▸ hx), (fun j u hu => by cases j <;> cases hu), h2.n1, ?_, h2.n3, ?_, ?_, fun b hb => ?_⟩, hf⟩ e24
    · have := (hr3.cut (x := 0) (by omega)).ext e4 fun x hx y => h2.n2.1 (by rw [same] at hx; exact y ▸ hx)
      simpa using this
    · exact ⟨fun hb => h2.n2.1 ((same _ _).1 hb), fun hb => h2.n2.2 ((same _ _).1 hb)⟩
    · exact fun g hg hg2 => h2.n4 g ((same _ _).1 hg) hg2
    · exact fun b hb => ⟨(h2.n5 b hb).1, (h2.n5 b hb).2.1, fun e => (h2.n5 b hb).2.2.1 ((same _ _).1 e), (h2.n5 b hb).2.2.2⟩
    · have q1 := h2.n6 b hb
      have q2 := e3.size
      have q3 := e4.size
      omega
  · refine k w2 ?_ e2f
    rw [if_neg (by omega)]
    exact ⟨G, mb, c, bp, kp, bc, kc, cells, h2, hf⟩
theorem forgetNot {x : Int} (h : Tab w F tb E B ms) (hx : x < 0 ∨ (ms.length : Int) ≤ x) (k : K (.int .i64 30) w) : CallV Try.prog 21 #[.pointer (some ⟨tb, 0, none⟩), .int .i64 x] w K := by
  obtain ⟨G, mb, c, bp, kp, bc, kc, cells, h, hf⟩ := h
  refine call21 _ _ w K ?_
  unfold F21
  exact ifD (fun _ => k) fun _ => optP_of (ldO (i := 2) h.own rfl (asL_of (ifD (fun _ => k) fun _ => by omega)))

/-! ### Histories -/
/-- What a table is worth to its user: what a key has, the changes kept, the marks. -/
structure Hist where
  M : Int → Option Int
  B : List Un
  ms : List Nat
/-- The marks lie in order, within the changes. -/
def Hist.ok (s : Hist) : Prop := s.ms.Pairwise (· ≤ ·) ∧ (∀ n ∈ s.ms, n ≤ s.B.length) ∧ (s.ms = [] → s.B = [])
end Go.Proofs.Ytalhnoelkglgiaa.W
