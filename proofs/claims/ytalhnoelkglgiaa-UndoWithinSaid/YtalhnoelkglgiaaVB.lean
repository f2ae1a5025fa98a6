/- All, and what it hands back, ranged over. No condition. -/
import Derived.Test.YtalhnoelkglgiaaV5
import Derived.Test.YtalhnoelkglgiaaW4
import Derived.Test.YtalhnoelkglgiaaShY
import Derived.Laws.OwnMore
namespace Go.Proofs.Ytalhnoelkglgiaa.W
open Go Go.Proofs.Ytalhnoelkglgiaa.Sh Go.RowKit
set_option linter.unusedVariables false
set_option linter.unusedSimpArgs false
set_option maxRecDepth 100000
variable {w w' w0 : World} {K : Value → World → Prop} {Z V F G : Nat → Prop} {tb N : Nat} {s : Hist}
theorem lookupI0 {P : Program} {t kt et mb c : Nat} {E : List E3} {k : Int} {F : Value → World → Prop} (h : IMap w mb E c) (ht : P.underlying t = some (.map kt et)) (hk : P.underlying kt = some (.int .i64)) (kk : F (.int .i64 ((lkE E k).getD 0)) w)
    (hz : ∀ w, (zeroValue et).run P w = .ok (.int .i64 0) w) : semK P (Instr.lookup t (.map (some mb)) (.int .i64 k) false) w F := by
  refine semK_of ?_ kk
  have hf := MapKept.run_findKey (P := P) (w := w) hk (findNow_eq k E 0)
  have hp := pos_look k E 0
  simp only [Instr.lookup, Sem.run_bind, run_underlying ht, Result.andThen_ok, MapKept.run_getObj_map h.heap, Sem.run_pure, MapKept.run_checkKey hk (show MapKept.IsKey (.int .i64) (.int .i64 k) from rfl)]
  rw [hf]
  simp only [Result.andThen_ok]
  cases hq : posE E k 0 with
  | none =>
    rw [hq] at hp
    cases hl : lkE E k with
    | none => simp [Sem.run_bind, hz, Result.andThen]
    | some v => rw [hl] at hp; cases hp
  | some y =>
    obtain ⟨i, u⟩ := y
    rw [hq] at hp
    cases hl : lkE E k with
    | none => rw [hl] at hp; cases hp
    | some v =>
      rw [hl] at hp
      simp only [Option.map_some, Option.some.injEq] at hp
      subst hp
      simp [Sem.run_bind, Result.andThen]
theorem makeF {P : Program} {t e by' n : Nat} {z : Value} {F : Value → World → Prop} (ht : P.underlying t = some (.slice e)) (hi : (P.info? e).map (fun i => (i.zero, i.size, i.bytes)) = some (some z, 1, by')) (hz : z.cells = #[z]) (hn : n ≤ 16777216) (hb : by' ≤ 65536)
    (kk : ∀ w' xs, Row w' (.slice (some ⟨w.heap.size, 0, none⟩) n n) e n xs → Bl w w' → w.heap.size < w'.heap.size → F (.slice (some ⟨w.heap.size, 0, none⟩) n n) w') :
    semK P (Instr.makeSlice t (.int .i64 (n : Int)) (.int .i64 (n : Int))) w F := by
  cases hinf : P.info? e with
  | none => rw [hinf] at hi; cases hi
  | some i =>
    rw [hinf] at hi
    simp only [Option.map_some, Option.some.injEq, Prod.mk.injEq] at hi
    obtain ⟨hz0, hs, hby⟩ := hi
    have hm : maxLen = 9223372036854775807 := rfl
    obtain ⟨w', hr, h2, h3⟩ := run_makeSlice_full (P := P) w 0 t e i z 1 ht hinf hz0 hs .i64 .i64 n (by omega) (by rw [hby]; exact Nat.le_trans (Nat.mul_le_mul hb hn) (by decide)) (by omega) (Nat.zero_le _)
    refine semK_of hr (kk w' _ h2 ⟨h3.os, h3.tape, h3.output, h3.size, fun k hk => h3.block k hk (by simp)⟩ ?_)
    have := Row.lt (w := w') (v := .slice (some ⟨w.heap.size, 0, none⟩) n n) (g := w.heap.size) h2 (blk_some.2 rfl)
    exact this
/-- What All took down: two boxes, two rows. -/
structure AllAt (w : World) (S : Nat → Prop) (x5 x6 g1 g2 c1 c2 : Nat) (ks vs : List Int) : Prop where
  o5 : Own w x5 #[.slice (some ⟨g1, 0, none⟩) ks.length c1] 29
  o6 : Own w x6 #[.slice (some ⟨g2, 0, none⟩) ks.length c2] 29
  r1 : Row w (.slice (some ⟨g1, 0, none⟩) ks.length c1) 3 ks.length (ints ks)
  r2 : Row w (.slice (some ⟨g2, 0, none⟩) ks.length c2) 3 ks.length (ints vs)
  at_ : S x5 ∧ S x6 ∧ S g1 ∧ S g2
theorem AllAt.ext {S T : Nat → Prop} {x5 x6 g1 g2 c1 c2 : Nat} {ks vs : List Int} (h : AllAt w S x5 x6 g1 g2 c1 c2 ks vs) (e : Ext T w w') (hs : ∀ b, S b → ¬ T b) : AllAt w' S x5 x6 g1 g2 c1 c2 ks vs :=
  ⟨h.o5.ext e (hs _ h.at_.1), h.o6.ext e (hs _ h.at_.2.1), h.r1.ext e fun b hb => by rw [blk_some] at hb; subst hb; exact hs _ h.at_.2.2.1, h.r2.ext e fun b hb => by rw [blk_some] at hb; subst hb; exact hs _ h.at_.2.2.2, h.at_⟩
theorem tAll (h : Tb w Z tb s N) (hN : N < 1000000) (kk : ∀ w' x5 x6 g1 g2 c1 c2 ks, IsKeys s.M ks → AllAt w' (fun b => w.heap.size ≤ b ∧ b < w'.heap.size) x5 x6 g1 g2 c1 c2 ks (valsOf s.M ks) → Bl w w' → K (.func (.func 34) #[] #[.pointer (some ⟨x5, 0, none⟩), .pointer (some ⟨x6, 0, none⟩)]) w') :
    CallV Try.prog 29 #[.pointer (some ⟨tb, 0, none⟩), .func (.func 27) #[] #[]] w K := by
  refine call29 _ _ w K ?_
  unfold F29
  refine tKeys h (by omega) fun w1 g cap ks hks hkl hr hg b1 => asL_of (alO fun w2 o2 b2 s2 => stO (i := 0) o2 (by simp) (by kernel_rfl) rfl rfl fun w3 o3 e3 => ldO (i := 0) o3 rfl (asL_of (makeF u29 i3 rfl (by omega) (by decide) fun w4 xs hv4 b4 s4 => asL_of (alO fun w5 o5 b5 s5 => stO (i := 0) o5 (by simp) (by kernel_rfl) rfl rfl fun w6 o6 e6 => ?_))))
  have z1 := b1.size
  have z2 := b2.size
  have z3 := e3.size
  have z4 := b4.size
  have z5 := b5.size
  have z6 := e6.size
  have lg := hr.lt (blk_some.2 rfl)
  have o36 : Own w6 w1.heap.size _ 29 := ((o3.bl b4).bl b5).ext e6 (by omega)
  have b06 : Bl w w6 := ((((((Ext.of_bl (S := fun x => w.heap.size ≤ x) (b1.trans b2)).trans e3 fun _ _ h => by omega).trans (Ext.of_bl (S := fun x => w.heap.size ≤ x) (b4.trans b5)) fun _ _ h => h).trans e6 fun _ _ h => by omega))).bl fun x hx h => by omega
  have hr6 : Row w6 (.slice (some ⟨g, 0, none⟩) ks.length cap) 3 ks.length (ints ks) := ((((hr.bl b2).ext e3 fun b hb e => by rw [blk_some] at hb; omega).bl b4).bl b5).ext e6 fun b hb e => by rw [blk_some] at hb; omega
  have hv6 := (hv4.bl b5).ext e6 fun b hb e => by rw [blk_some] at hb; omega
  refine ldO (i := 0) o36 rfl (asL_of ?_)
  obtain ⟨F, h0⟩ := h
  have hvl : (valsOf s.M ks).length = ks.length := by simp [valsOf]
  have hxl : xs.length = ks.length := by have := hv4.len; exact this
  have loop : ∀ (m i : Nat) (w' : World), i + m = ks.length → Ext (· = w3.heap.size) w6 w' → Row w' (.slice (some ⟨w3.heap.size, 0, none⟩) ks.length ks.length) 3 ks.length (ints ((valsOf s.M ks).take i) ++ xs.drop i) →
      L29_1 K (m + 1) (some ⟨tb, 0, none⟩) ⟨w1.heap.size, 0, none⟩ ⟨w4.heap.size, 0, none⟩ (some ⟨g, 0, none⟩) ks.length cap (ks.length : Int) (i : Int) w' := by
    intro m
    induction m with
    | zero =>
      intro i w' hi e hv
      simp only [L29_1]
      refine ifD (fun h => by omega) fun _ => ?_
      unfold J29_0
      have z7 := e.size
      have hi' : i = ks.length := by omega
      subst hi'
      rw [List.take_of_length_le (by omega), List.drop_of_length_le (by omega), List.append_nil] at hv
      refine kk w' w1.heap.size w4.heap.size g w3.heap.size cap ks.length ks hks ⟨o36.ext e (by omega), o6.ext e (by omega), hr6.ext e fun b hb ee => by rw [blk_some] at hb; omega, hv, ⟨by omega, by omega⟩, ⟨by omega, by omega⟩, ⟨by omega, by omega⟩, ⟨by omega, by omega⟩⟩ ?_
      exact ((Ext.of_bl (S := fun x => w.heap.size ≤ x) b06).trans e fun _ _ h => by omega).bl fun x hx h => by omega
    | succ m ih =>
      intro i w' hi e hv
      rw [L29_1]
      simp only []
      have hlt : i < ks.length := by omega
      refine ifD (fun _ => ?_) fun h => by omega
      have hr' := hr6.ext e fun b hb ee => by rw [blk_some] at hb; omega
      refine rowAtF hr' (ints_at hlt) ?_
      unfold drewK
      have e' := e.drew
      have hv' := hv.drew
      have o6' : Own w'.drew w4.heap.size _ 29 := o6.ext e' (by omega)
      refine ldO (i := 0) o6' rfl (asL_of (optP_of ?_))
      obtain ⟨E, ⟨G, mb, c, bp, kp, bc, kc, cells, hd, hf⟩, hlk, _⟩ := (h0.t.bl b06).ext e' fun b hb ee => by have := (h0.lF b hb).2; omega
      refine ldO (i := 0) hd.own rfl (asM_of (lookupI0 hd.map u55 u3 (asI_of ?_) W.z3))
      refine ixS (z := 1) u29 s3 (by omega) (by omega) (show asA (.pointer (some _)) _ from ?_)
      rw [addAt, hlk, i1w i (by omega)]
      refine stR hv' (by omega) (by kernel_rfl) rfl rfl fun w2 hv2 e2 => ?_
      refine ih (i + 1) w2 (by omega) (e'.trans e2 fun _ _ h => h) ?_
      have hset : (ints ((valsOf s.M ks).take i) ++ xs.drop i).set i (.int .i64 ((s.M ks[i]).getD 0)) = ints ((valsOf s.M ks).take (i + 1)) ++ xs.drop (i + 1) := by
        have hl : (ints ((valsOf s.M ks).take i)).length = i := by simp [ints]; omega
        have hv : (valsOf s.M ks)[i]'(by omega) = (s.M ks[i]).getD 0 := by simp [valsOf]
        rw [List.set_append_right _ _ (by omega), hl, Nat.sub_self, List.drop_eq_getElem_cons (show i < xs.length by omega), List.set_cons_zero, List.take_succ_eq_append_getElem (by omega), hv]
        simp [ints]
      rw [← hset]; exact hv2
  refine ⟨ks.length + 1, loop ks.length 0 w6 (by omega) (Ext.refl _) ?_⟩
  simpa [ints] using hv6
theorem eg34 : ∀ args w, (callFunc 34 args).run Try.prog w = .ok (.enter 34 args) w := enters_of Try.func34 (by kernel_rfl) rfl
end Go.Proofs.Ytalhnoelkglgiaa.W
