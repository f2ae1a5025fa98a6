/- The table: Mark, Back. No condition. -/
import Derived.Test.YtalhnoelkglgiaaU2
namespace Go.Proofs.Ytalhnoelkglgiaa.W
open Go Go.Proofs.Ytalhnoelkglgiaa.Sh Go.RowKit
set_option linter.unusedVariables false
set_option maxRecDepth 100000
variable {w : World} {K : Value → World → Prop}
variable {F G : Nat → Prop} {tb mb c bc kc : Nat} {bp kp : Option Addr} {cells : List Value} {E : List E3} {B : List Un} {ms : List Nat}
theorem u29 : Try.prog.underlying 29 = some (.slice 3) := by kernel_rfl
theorem i3 : (Try.prog.info? 3).map (fun i => (i.zero, i.size, i.bytes)) = some (some (.int .i64 0), 1, 8) := by kernel_rfl
theorem s3 : (Try.prog.info? 3).map (·.size) = some 1 := by kernel_rfl
theorem s1 : (Try.prog.info? 1).map (·.size) = some 1 := by kernel_rfl
theorem z1 (w : World) : (zeroValue 1).run Try.prog w = .ok .nilFunc w := by
  have : (Try.prog.info? 1).map (·.zero) = some (some .nilFunc) := by kernel_rfl
  cases hi : Try.prog.info? 1 with
  | none => rw [hi] at this; cases this
  | some i => rw [hi] at this; simp at this; simp [zeroValue, typeInfo, hi, this, Result.andThen]

theorem mark (h : Tab w F tb E B ms) (hB : B.length < 1073741823) (hm : ms.length < 1073741823) (k : ∀ w' F', Tab w' F' tb E B (ms ++ [B.length]) → (∀ x, F' x → F x ∨ w.heap.size ≤ x) → Ext F w w' → K (.int .i64 (ms.length : Int)) w') :
    CallV Try.prog 15 #[.pointer (some ⟨tb, 0, none⟩)] w K := by
  obtain ⟨G, mb, c, bp, kp, bc, kc, cells, h, hf⟩ := h
  refine call15 _ w K ?_
  unfold F15 drewK
  have hd : Bl w w.drew := (Bl.refl w).drew
  have h1 := h.ext (S := None') (Ext.of_bl hd) fun _ _ h => h
  refine optP_of (ldO (i := 2) h1.own rfl (asL_of (optP_of (ldO (i := 1) h1.own rfl (asL_of (alO fun w2 o2 b2 sz2 => ?_))))))
  have h2 := h1.ext (S := None') (Ext.of_bl b2) fun _ _ h => h
  refine ⟨ldO (i := 2) h2.own rfl (asL_of rfl), ?_⟩
  refine app1 h2.marks o2 u29 i3 rfl rfl (by omega) (by decide) fun g cap w3 hr3 e3 hg hglt => asL_of (optP_of ?_)
  have own3 : Own w3 tb _ 58 := h2.own.ext e3 h2.n3.1
  refine stO (i := 2) (b := tb) own3 (by simp) (by kernel_rfl) rfl rfl fun w4 own4 e4 => optP_of (ldO (i := 2) own4 rfl (asL_of ?_))
  have hgn : g ≠ tb ∧ g ≠ mb ∧ (∀ x, Blk (.slice bp B.length bc) x → x ≠ g) ∧ ∀ b, G b → b ≠ g := by
    rcases hg with hg | hg
    · exact ⟨fun e => h2.n3.1 (e ▸ hg), fun e => h2.n3.2 (e ▸ hg), fun x hx e => h2.n4 x hx (e ▸ hg), fun b hb e => (h2.n5 b hb).2.2.2 (e ▸ hg)⟩
    · have l1 := h2.own.lt
      have l2 := h2.map.block
      exact ⟨by omega, by omega, fun x hx => by have := h2.back.lt hx; omega, fun b hb => by have := h2.n6 b hb; omega⟩
  have e34 : Ext (Foot G tb mb bp kp) w2 w4 := (e3.mono (S' := Foot G tb mb bp kp) fun k _ hk => .inr (.inr (.inr (.inl (blk_slice.1 hk))))).trans e4 fun k _ hk => .inl hk
  have hlen : (ms ++ [B.length]).length = ms.length + 1 := by simp
  rw [show IntKind.wrap .i64 (((ms.length + 1 : Nat) : Int) - 1) = (ms.length : Int) by rw [i64w (by omega) (by omega)]; omega]
  refine k w4 (fun x => F x ∨ w.heap.size ≤ x) ⟨G, mb, c, bp, some ⟨g, 0, none⟩, bc, cap, cells, ⟨?_, ?_, ?_, ?_, ?_, h.n1, h.n2, ?_, ?_, ?_, ?_⟩, ?_⟩ (fun x hx => hx) ?_
  · rw [hlen]; exact own4
  · exact (h2.map.ext e3 h2.n3.2).ext e4 fun e => h.n1 e.symm
  · exact (h2.back.ext e3 fun x hx => h2.n4 x hx).ext e4 fun x hx e => h2.n2.1 (e ▸ hx)
  · rw [hlen]
    have : nums (ms ++ [B.length]) = nums ms ++ [.int .i64 (B.length : Int)] := by simp [nums]
    rw [this]
    exact hr3.ext e4 fun x hx e => hgn.1 (by rw [blk_some] at hx; omega)
  · intro j u hu
    obtain ⟨f, h5, h6⟩ := h2.uns j u hu
    exact ⟨f, h5, (h6.ext e3 fun b hb => (h2.n5 b hb).2.2.2).ext e4 fun b hb => (h2.n5 b hb).1⟩
  · exact ⟨fun hb => hgn.1 (blk_some.1 hb), fun hb => hgn.2.1 (blk_some.1 hb)⟩
  · exact fun x hx hx2 => hgn.2.2.1 x hx (blk_some.1 hx2).symm
  · exact fun b hb => ⟨(h.n5 b hb).1, (h.n5 b hb).2.1, (h.n5 b hb).2.2.1, fun e => hgn.2.2.2 b hb (blk_some.1 e).symm⟩
  · exact fun b hb => Nat.lt_of_lt_of_le (h2.n6 b hb) e34.size
  · rintro x (hx | hx | hx | hx | hx)
    · exact .inl (hf x (.inl hx))
    · exact .inl (hf x (.inr (.inl hx)))
    · exact .inl (hf x (.inr (.inr (.inl hx))))
    · simp only [Option.map_some, Option.some.injEq] at hx
      subst hx
      rcases hg with hg | hg
      · exact .inl (hf g (.inr (.inr (.inr (.inl (blk_slice.1 hg))))))
      · have hz : w.drew.heap.size = w.heap.size := rfl
        exact .inr (by omega)
    · exact .inl (hf x (.inr (.inr (.inr (.inr hx)))))
  · exact ((Ext.of_bl (S := F) (hd.trans b2)).trans e34 fun x _ hx => hf x hx)

def undone (l : List Un) (M : Int → Option Int) : Int → Option Int := l.foldr (fun u M => u.app M) M
theorem undone_snoc (l : List Un) (u : Un) (M : Int → Option Int) : undone (l ++ [u]) M = undone l (u.app M) := by simp [undone]

theorem back_end {a n : Nat} (h : TabD w G tb mb c bp kp bc kc cells E B ms) (hn : n ≤ B.length) (ha : a ≤ ms.length) (k : ∀ w', TabD w' G tb mb c bp kp bc kc (cells.take n) E (B.take n) (ms.take a) → Ext (Foot G tb mb bp kp) w w' → K (.int .i64 0) w') :
    J18_1 K (some ⟨tb, 0, none⟩) a n w := by
  unfold J18_1
  have hbl : B.length ≤ bc := by rcases h.back.form with ⟨e, _⟩ | ⟨g, cap, e, hc⟩ <;> simp at e <;> omega
  have hml : ms.length ≤ kc := by rcases h.marks.form with ⟨e, _⟩ | ⟨g, cap, e, hc⟩ <;> simp at e <;> omega
  refine optP_of (ldO (i := 1) h.own rfl (asL_of (wipe h.back hn u56 s1 z1 rfl rfl fun w2 hr2 e2 => t0 ?_)))
  have own2 : Own w2 tb _ 58 := h.own.ext e2 h.n2.1
  have mk2 := h.marks.ext e2 fun x hx hx2 => h.n4 x hx2 hx
  refine optP_of (ldO (i := 1) own2 rfl (asL_of (cutTo u56 s1 (by omega) (by omega) hbl (asL_of (optP_of ?_)))))
  refine stO (i := 1) (b := tb) own2 (by simp) (by kernel_rfl) rfl rfl fun w4 own4 e4 => ?_
  refine optP_of (ldO (i := 2) own4 rfl (asL_of (cutTo u29 s3 (by omega) (by omega) hml (asL_of (optP_of ?_)))))
  refine stO (i := 2) (b := tb) own4 (by simp) (by kernel_rfl) rfl rfl fun w6 own6 e6 => ?_
  have e46 : Ext (· = tb) w2 w6 := e4.trans e6 fun _ _ h => h
  have e26 : Ext (Foot G tb mb bp kp) w w6 := (e2.mono (S' := Foot G tb mb bp kp) fun k _ hk => .inr (.inr (.inl (blk_slice.1 hk)))).trans e46 fun k _ hk => .inl hk
  have l1 : (B.take n).length = n := by rw [List.length_take]; omega
  have l2 : (ms.take a).length = a := by rw [List.length_take]; omega
  have hcl := h.back.len
  have same : ∀ m x, Blk (.slice bp m bc) x ↔ Blk (.slice bp B.length bc) x := fun m x => by rw [blk_slice, blk_slice]
  have same2 : ∀ m x, Blk (.slice kp m kc) x ↔ Blk (.slice kp ms.length kc) x := fun m x => by rw [blk_slice, blk_slice]
  refine k w6 ⟨?_, ?_, ?_, ?_, ?_, h.n1, ?_, ?_, ?_, ?_, ?_⟩ e26
  · rw [l1, l2]; simpa using own6
  · exact (h.map.ext e2 h.n2.2).ext e46 fun e => h.n1 e.symm
  · rw [l1]
    have := (hr2.cut hn).ext e46 fun x hx e => h.n2.1 (by rw [same] at hx; exact e ▸ hx)
    rw [List.take_append_of_le_length (by rw [List.length_take]; omega), List.take_take, Nat.min_self] at this
    exact this
  · rw [l2]
    have := (mk2.cut ha).ext e46 fun x hx e => h.n3.1 (by rw [same2] at hx; exact e ▸ hx)
    have hnm : nums (ms.take a) = (nums ms).take a := by simp [nums, List.map_take]
    rw [hnm]; exact this
  · intro j u hu
    have hj : j < n := by have := (List.getElem?_eq_some_iff.1 hu).1; omega
    rw [List.getElem?_take, if_pos hj] at hu
    obtain ⟨f, h5, h6⟩ := h.uns j u hu
    refine ⟨f, by rw [List.getElem?_take, if_pos hj]; exact h5, (h6.ext e2 fun b hb => (h.n5 b hb).2.2.1).ext e46 fun b hb => (h.n5 b hb).1⟩
  · rw [l1]; exact ⟨fun hb => h.n2.1 ((same _ _).1 hb), fun hb => h.n2.2 ((same _ _).1 hb)⟩
  · rw [l2]; exact ⟨fun hb => h.n3.1 ((same2 _ _).1 hb), fun hb => h.n3.2 ((same2 _ _).1 hb)⟩
  · rw [l1, l2]; exact fun g hg hg2 => h.n4 g ((same _ _).1 hg) ((same2 _ _).1 hg2)
  · rw [l1, l2]; exact fun b hb => ⟨(h.n5 b hb).1, (h.n5 b hb).2.1, fun e => (h.n5 b hb).2.2.1 ((same _ _).1 e), fun e => (h.n5 b hb).2.2.2 ((same2 _ _).1 e)⟩
  · exact fun b hb => Nat.lt_of_lt_of_le (h.n6 b hb) e26.size
end Go.Proofs.Ytalhnoelkglgiaa.W
