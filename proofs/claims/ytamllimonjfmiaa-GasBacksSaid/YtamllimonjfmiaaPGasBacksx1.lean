-- PRINTED BY print.sh 35421559b90ae4d0a3588c463048766b98c2df88dd9212a6774a882060cdf62d: not written by this session
import Derived.Test.YtamllimonjfmiaaPGasBacksx0
namespace Go.Proofs.Ytamllimonjfmiaa.PGasBacks
open Go.RowKit Go.Proofs.YtamllimonjfmiaaW.PrintWords Go.Proofs.YtamllimonjfmiaaW.PrintLast Go.Proofs.YtamllimonjfmiaaW.PrintMore
attribute [local go_sem] max2_int min2_int max_two min_two max_three min_three max_four min_four   -- for this text's walks alone
set_option linter.unusedVariables false
set_option linter.unusedSimpArgs false

/-! ### gas_Back: function 11 -/
def gas_Back.f (a0 : Int) (a1 : Int) (a2 : Int) : Option (Int) := if a1 > a0 then (some 0) else (some (mn (IntKind.u64.wrap (Int.tdiv (IntKind.u64.wrap (a0 - a1)) 5)) (IntKind.u64.wrap (mx a2 0))))
set_option maxHeartbeats 8000000 in
set_option maxRecDepth 100000 in
theorem gas_Back.calls (a0 : Int) (a1 : Int) (a2 : Int) (r : Int) (w : World) (h : gas_Back.f a0 a1 a2 = some r) :
    Calls Try.prog 11 #[.int .u64 a0, .int .u64 a1, .int .i64 a2] w fun e w' => e = .returned (.int .u64 r) ∧ Below w.heap.size w w' := by
  have HB := Aside0.mk (Below.refl w.heap.size w)
  have H : (if a1 > a0 then (some 0) else (some (mn (IntKind.u64.wrap (Int.tdiv (IntKind.u64.wrap (a0 - a1)) 5)) (IntKind.u64.wrap (mx a2 0))))) = some r := h
  clear h
  by_cases c4 : a1 > a0
  · rw [if_pos c4] at H
    have c4b0 : decide (a0 < a1) = true := decide_eq_true c4
    clear c4
    obtain rfl := Option.some.inj H
    go_enter Try.func11, Try.ntmps11
    go_wp2
    go_ret
    exact ⟨by first | rfl | (simp [errW_none, errW_some] <;> rfl) | (simp [*, errW_none, errW_some] <;> rfl), by repeat (first | (with_reducible first | exact HB.out | apply below_alloc | apply pw_below_drewN | apply below_drew1) | exact HB.out)⟩
  · rw [if_neg c4] at H
    have c4b0 : decide (a0 < a1) = false := decide_eq_false c4
    clear c4
    obtain ⟨ji5, hji5⟩ : ∃ j_ : Int, (mx a2 0) = j_ := ⟨_, rfl⟩
    replace H : (some (mn (IntKind.u64.wrap (Int.tdiv (IntKind.u64.wrap (a0 - a1)) 5)) (IntKind.u64.wrap (ji5)))) = some r := by first | (rw [hji5] at H; exact H) | (simp only [hji5] at H ⊢; exact H)
    (try (have hji5l : 0 ≤ ji5 := by (rw [← hji5]; unfold mx; (repeat' split) <;> omega)))
    (try (have hji5m : 0 ≤ ji5 := by omega))
    have hji5_ : (if a2 < 0 then 0 else a2) = ji5 := hji5
    obtain ⟨ji6, hji6⟩ : ∃ j_ : Int, (mn (IntKind.u64.wrap (Int.tdiv (IntKind.u64.wrap (a0 - a1)) 5)) (IntKind.u64.wrap (ji5))) = j_ := ⟨_, rfl⟩
    replace H : (some ji6) = some r := by first | (rw [hji6] at H; exact H) | (simp only [hji6] at H ⊢; exact H)
    have hji6_ : (if (IntKind.u64.wrap (ji5)) < (IntKind.u64.wrap (Int.tdiv (IntKind.u64.wrap (a0 - a1)) 5)) then (IntKind.u64.wrap (ji5)) else (IntKind.u64.wrap (Int.tdiv (IntKind.u64.wrap (a0 - a1)) 5))) = ji6 := hji6
    obtain rfl := Option.some.inj H
    go_enter Try.func11, Try.ntmps11
    go_wp2
    go_ret
    exact ⟨by first | rfl | (simp [errW_none, errW_some] <;> rfl) | (simp only [← hji5, ← hji6]; first | rfl | (simp [errW_none, errW_some] <;> rfl)) | (simp [*, errW_none, errW_some] <;> rfl), by repeat (first | (with_reducible first | exact HB.out | apply below_alloc | apply pw_below_drewN | apply below_drew1) | exact HB.out)⟩

/-! ### vouchref10_Back: function 12 -/
def vouchref10_Back.j0 : Nat → Int → Int → Int → Bool → Option (Int)
  | 0, _, _, _, _ => none
  | k + 1, x0, x1, x2, x14 => if x14 = true then (some 0) else (if (IntKind.u64.wrap (x2)) < (IntKind.u64.wrap (Int.tdiv (IntKind.u64.wrap (x0 - x1)) 5)) then (some (IntKind.u64.wrap (x2))) else (some (IntKind.u64.wrap (Int.tdiv (IntKind.u64.wrap (x0 - x1)) 5))))
def vouchref10_Back.f (k : Nat) (a0 : Int) (a1 : Int) (a2 : Int) : Option (Int) := if a1 > a0 then (vouchref10_Back.j0 k a0 a1 a2 true) else (vouchref10_Back.j0 k a0 a1 a2 (decide (a2 < 0)))
theorem vouchref10_Back.mono_l : ∀ k, (∀ y0 y1 y2 y3, LeO (vouchref10_Back.j0 k y0 y1 y2 y3) (vouchref10_Back.j0 (k + 1) y0 y1 y2 y3))
  | 0 => fun _ _ _ _ r h => by simp [vouchref10_Back.j0] at h
  | k + 1 => by
    have ih0 := vouchref10_Back.mono_l k
    · intro y0 y1 y2 y3
      unfold vouchref10_Back.j0
      repeat' first
      | (with_reducible exact ih0 _ _ _ _)
      | (with_reducible exact LeO.refl _)
      | (with_reducible exact LeO.none _)
      | (with_reducible refine LeO.ite ?_ ?_)
      | (with_reducible refine LeO.bind ?_ (fun _ => ?_))
      | exact ih0 _ _ _ _
      | exact LeO.none _
      | refine LeO.ite ?_ ?_
      | refine LeO.bind ?_ (fun _ => ?_)
theorem vouchref10_Back.mono : ∀ a0 a1 a2 k, LeO (vouchref10_Back.f k a0 a1 a2) (vouchref10_Back.f (k + 1) a0 a1 a2) := by
  intro a0 a1 a2 k
  have ih0 := vouchref10_Back.mono_l k
  unfold vouchref10_Back.f
  repeat' first
      | (with_reducible exact ih0 _ _ _ _)
      | (with_reducible exact LeO.refl _)
      | (with_reducible exact LeO.none _)
      | (with_reducible refine LeO.ite ?_ ?_)
      | (with_reducible refine LeO.bind ?_ (fun _ => ?_))
      | exact ih0 _ _ _ _
      | exact LeO.none _
      | refine LeO.ite ?_ ?_
      | refine LeO.bind ?_ (fun _ => ?_)
set_option maxHeartbeats 8000000 in
set_option maxRecDepth 100000 in
theorem vouchref10_Back.calls (k : Nat) (a0 : Int) (a1 : Int) (a2 : Int) (r : Int) (w : World) (h : vouchref10_Back.f k a0 a1 a2 = some r) :
    Calls Try.prog 12 #[.int .u64 a0, .int .u64 a1, .int .i64 a2] w fun e w' => e = .returned (.int .u64 r) ∧ Drawn0 w w' := by
  have H : (if a1 > a0 then (vouchref10_Back.j0 k a0 a1 a2 true) else (vouchref10_Back.j0 k a0 a1 a2 (decide (a2 < 0)))) = some r := h
  clear h
  have HC4 := Aside0.mk H
  clear H
  go_enter Try.func12, Try.ntmps12
  go_upto_region 1 with (fail)
  go_cut [14] (fun v14 wc => ∃ (kq : Nat) (x14_3 : Bool), v14 = .bool x14_3 ∧ Aside0 (vouchref10_Back.j0 kq a0 a1 a2 x14_3 = some r) ∧ Aside0 (kq ≤ k) ∧ Drawn0 w wc)
  case first =>
    have H := HC4.out
    clear HC4
    by_cases c5 : a1 > a0
    · rw [if_pos c5] at H
      have c5b0 : decide (a0 < a1) = true := decide_eq_true c5
      clear c5
      (first | rw [c5b0] | (simp only [i64_w, i32_w]; rw [c5b0]) | skip)
      have H' := Aside0.mk H
      clear H
      go_wp2
      go_meet
      case rel => exact ⟨_, (true), (by first | rfl | (simp; done) | (simp [*]; done)), H', ⟨by first | omega | exact Nat.le_refl _⟩, by repeat (first | exact Drawn0.refl _ | apply Drawn0.step)⟩
    · rw [if_neg c5] at H
      have c5b0 : decide (a0 < a1) = false := decide_eq_false c5
      clear c5
      (first | rw [c5b0] | (simp only [i64_w, i32_w]; rw [c5b0]) | skip)
      have H' := Aside0.mk H
      clear H
      go_wp2
      go_meet
      case rel => exact ⟨_, (decide (a2 < 0)), (by first | rfl | (simp; done) | (simp [*]; done)), H', ⟨by first | omega | exact Nat.le_refl _⟩, by repeat (first | exact Drawn0.refl _ | apply Drawn0.step)⟩
  case rest =>
    clear HC4
    try clear c1
    try clear p2
    try clear c5
    try clear c5b0
    obtain ⟨kq, x14_3, rfl, HA, HJ3, ⟨mc3, rfl⟩⟩ := hcut
    cases kq with
    | zero => exact absurd HA.out (by simp [vouchref10_Back.j0])
    | succ kj3 =>
      have H := HA.out
      clear HA
      simp only [vouchref10_Back.j0] at H
      by_cases c6 : x14_3 = true
      · subst c6
        have H1 : (some 0) = some r := by rw [if_pos rfl] at H; exact H
        clear H
        have H := H1
        clear H1
        obtain rfl := Option.some.inj H
        go_wp2
        go_ret
        exact ⟨by first | rfl | (simp; done) | (simp [*]; done), by repeat (first | exact Drawn0.refl _ | apply Drawn0.step)⟩
      · replace c6 := Bool.eq_false_iff.mpr c6
        subst c6
        have H1 : (if (IntKind.u64.wrap (a2)) < (IntKind.u64.wrap (Int.tdiv (IntKind.u64.wrap (a0 - a1)) 5)) then (some (IntKind.u64.wrap (a2))) else (some (IntKind.u64.wrap (Int.tdiv (IntKind.u64.wrap (a0 - a1)) 5)))) = some r := by rw [if_neg (show ¬ (false = true) by decide)] at H; exact H
        clear H
        have H := H1
        clear H1
        by_cases c7 : (IntKind.u64.wrap (a2)) < (IntKind.u64.wrap (Int.tdiv (IntKind.u64.wrap (a0 - a1)) 5))
        · rw [if_pos c7] at H
          have c7b0 : decide ((IntKind.u64.wrap (a2)) < (IntKind.u64.wrap (Int.tdiv (IntKind.u64.wrap (a0 - a1)) 5))) = true := decide_eq_true c7
          clear c7
          obtain rfl := Option.some.inj H
          go_wp2
          go_ret
          exact ⟨by first | rfl | (simp; done) | (simp [*]; done), by repeat (first | exact Drawn0.refl _ | apply Drawn0.step)⟩
        · rw [if_neg c7] at H
          have c7b0 : decide ((IntKind.u64.wrap (a2)) < (IntKind.u64.wrap (Int.tdiv (IntKind.u64.wrap (a0 - a1)) 5))) = false := decide_eq_false c7
          clear c7
          obtain rfl := Option.some.inj H
          go_wp2
          go_ret
          exact ⟨by first | rfl | (simp; done) | (simp [*]; done), by repeat (first | exact Drawn0.refl _ | apply Drawn0.step)⟩

/-! ### vouchlaw10_GasBacks: function 3 -/
def vouchlaw10_GasBacks.f (k : Nat) (a0 : Int) (a1 : Int) (a2 : Int) : Option (Bool) := (gas_Back.f a0 a1 a2).bind fun t101 => ((gas_Back.f 100 1 50).bind fun t102 => ((vouchref10_Back.f k a0 a1 a2).bind fun t103 => (if t101 = t103 then (some (t102 == 19)) else (some false))))
theorem vouchlaw10_GasBacks.mono : ∀ a0 a1 a2 k, LeO (vouchlaw10_GasBacks.f k a0 a1 a2) (vouchlaw10_GasBacks.f (k + 1) a0 a1 a2) := by
  intro a0 a1 a2 k
  unfold vouchlaw10_GasBacks.f
  repeat' first
      | (with_reducible exact vouchref10_Back.mono _ _ _ _)
      | (with_reducible exact LeO.refl _)
      | (with_reducible exact LeO.none _)
      | (with_reducible refine LeO.ite ?_ ?_)
      | (with_reducible refine LeO.bind ?_ (fun _ => ?_))
      | exact vouchref10_Back.mono _ _ _ _
      | exact LeO.none _
      | refine LeO.ite ?_ ?_
      | refine LeO.bind ?_ (fun _ => ?_)
set_option maxHeartbeats 8000000 in
set_option maxRecDepth 100000 in
theorem vouchlaw10_GasBacks.calls (k : Nat) (a0 : Int) (a1 : Int) (a2 : Int) (r : Bool) (w : World) (h : vouchlaw10_GasBacks.f k a0 a1 a2 = some r) :
    Calls Try.prog 3 #[.int .u64 a0, .int .u64 a1, .int .i64 a2] w fun e w' => e = .returned (.bool r) ∧ Below w.heap.size w w' := by
  have HB := Aside0.mk (Below.refl w.heap.size w)
  have H : ((gas_Back.f a0 a1 a2).bind fun t101 => ((gas_Back.f 100 1 50).bind fun t102 => ((vouchref10_Back.f k a0 a1 a2).bind fun t103 => (if t101 = t103 then (some (t102 == 19)) else (some false))))) = some r := h
  clear h
  replace H := Option.bind_eq_some_iff.mp H
  obtain ⟨t101, A40, H⟩ := H
  replace H : ((gas_Back.f 100 1 50).bind fun t102 => ((vouchref10_Back.f k a0 a1 a2).bind fun t103 => (if t101 = t103 then (some (t102 == 19)) else (some false)))) = some r := H
  have A4 := Aside0.mk A40
  clear A40
  replace H := Option.bind_eq_some_iff.mp H
  obtain ⟨t102, A50, H⟩ := H
  replace H : ((vouchref10_Back.f k a0 a1 a2).bind fun t103 => (if t101 = t103 then (some (t102 == 19)) else (some false))) = some r := H
  have A5 := Aside0.mk A50
  clear A50
  replace H := Option.bind_eq_some_iff.mp H
  obtain ⟨t103, A60, H⟩ := H
  replace H : (if t101 = t103 then (some (t102 == 19)) else (some false)) = some r := H
  have A6 := Aside0.mk A60
  clear A60
  by_cases c7 : t101 = t103
  · rw [if_pos c7] at H
    have c7b0 : (t101 == t103) = true := beq_iff_eq.mpr c7
    have c7b1 : (t101 != t103) = false := bne_eq_false_iff_eq.mpr c7
    clear c7
    obtain rfl := Option.some.inj H
    go_enter Try.func3, Try.ntmps3
    go_wp2_with (first | ((with_reducible refine gate_callee (f := 11) rfl ?_); refine goesL_ (some 12) rfl rfl Try.func11 (by kernel_rfl) rfl #[.int .u64 a0, .int .u64 a1, .int .i64 a2] rfl (by (try simp only [List.map_toArray, List.map_cons, List.map_nil]); first | done | rfl | (simp only [List.length_drop, List.length_take]; rfl)) ?_; (with_reducible refine (gas_Back.calls a0 a1 a2 t101 _ A4.out).mono ?_); rintro e w8 ⟨rfl, hb⟩; refine ⟨_, rfl, ?_⟩; have n0_ := Aside0.mk (below_step (by repeat (first | (with_reducible first | exact HB.out | apply below_alloc | apply pw_below_drewN | apply below_drew1) | exact HB.out)) hb); clear HB; have HB := n0_; clear n0_; (try clear hb); (try clear hb2); (try clear hk); (try clear hi)) | ((with_reducible refine gate_callee (f := 11) rfl ?_); refine goesL_ (some 13) rfl rfl Try.func11 (by kernel_rfl) rfl #[.int .u64 100, .int .u64 1, .int .i64 50] rfl (by (try simp only [List.map_toArray, List.map_cons, List.map_nil]); first | done | rfl | (simp only [List.length_drop, List.length_take]; rfl)) ?_; (with_reducible refine (gas_Back.calls 100 1 50 t102 _ A5.out).mono ?_); rintro e w9 ⟨rfl, hb⟩; refine ⟨_, rfl, ?_⟩; have n0_ := Aside0.mk (below_step (by repeat (first | (with_reducible first | exact HB.out | apply below_alloc | apply pw_below_drewN | apply below_drew1) | exact HB.out)) hb); clear HB; have HB := n0_; clear n0_; (try clear hb); (try clear hb2); (try clear hk); (try clear hi)) | ((with_reducible refine gate_callee (f := 12) rfl ?_); refine goesL_ (some 18) rfl rfl Try.func12 (by kernel_rfl) rfl #[.int .u64 a0, .int .u64 a1, .int .i64 a2] rfl (by (try simp only [List.map_toArray, List.map_cons, List.map_nil]); first | done | rfl | (simp only [List.length_drop, List.length_take]; rfl)) ?_; (with_reducible refine (vouchref10_Back.calls k a0 a1 a2 t103 _ A6.out).mono ?_); rintro e w' ⟨rfl, ⟨nd, rfl⟩⟩; refine ⟨_, rfl, ?_⟩))
    go_ret
    exact ⟨by first | rfl | (simp [errW_none, errW_some] <;> rfl) | (simp [*, errW_none, errW_some] <;> rfl), by repeat (first | (with_reducible first | exact HB.out | apply below_alloc | apply pw_below_drewN | apply below_drew1) | exact HB.out)⟩
  · rw [if_neg c7] at H
    have c7b0 : (t101 == t103) = false := beq_eq_false_iff_ne.mpr c7
    have c7b1 : (t101 != t103) = true := bne_iff_ne.mpr c7
    obtain rfl := Option.some.inj H
    go_enter Try.func3, Try.ntmps3
    go_wp2_with (first | ((with_reducible refine gate_callee (f := 11) rfl ?_); refine goesL_ (some 12) rfl rfl Try.func11 (by kernel_rfl) rfl #[.int .u64 a0, .int .u64 a1, .int .i64 a2] rfl (by (try simp only [List.map_toArray, List.map_cons, List.map_nil]); first | done | rfl | (simp only [List.length_drop, List.length_take]; rfl)) ?_; (with_reducible refine (gas_Back.calls a0 a1 a2 t101 _ A4.out).mono ?_); rintro e w10 ⟨rfl, hb⟩; refine ⟨_, rfl, ?_⟩; have n0_ := Aside0.mk (below_step (by repeat (first | (with_reducible first | exact HB.out | apply below_alloc | apply pw_below_drewN | apply below_drew1) | exact HB.out)) hb); clear HB; have HB := n0_; clear n0_; (try clear hb); (try clear hb2); (try clear hk); (try clear hi)) | ((with_reducible refine gate_callee (f := 11) rfl ?_); refine goesL_ (some 13) rfl rfl Try.func11 (by kernel_rfl) rfl #[.int .u64 100, .int .u64 1, .int .i64 50] rfl (by (try simp only [List.map_toArray, List.map_cons, List.map_nil]); first | done | rfl | (simp only [List.length_drop, List.length_take]; rfl)) ?_; (with_reducible refine (gas_Back.calls 100 1 50 t102 _ A5.out).mono ?_); rintro e w11 ⟨rfl, hb⟩; refine ⟨_, rfl, ?_⟩; have n0_ := Aside0.mk (below_step (by repeat (first | (with_reducible first | exact HB.out | apply below_alloc | apply pw_below_drewN | apply below_drew1) | exact HB.out)) hb); clear HB; have HB := n0_; clear n0_; (try clear hb); (try clear hb2); (try clear hk); (try clear hi)) | ((with_reducible refine gate_callee (f := 12) rfl ?_); refine goesL_ (some 18) rfl rfl Try.func12 (by kernel_rfl) rfl #[.int .u64 a0, .int .u64 a1, .int .i64 a2] rfl (by (try simp only [List.map_toArray, List.map_cons, List.map_nil]); first | done | rfl | (simp only [List.length_drop, List.length_take]; rfl)) ?_; (with_reducible refine (vouchref10_Back.calls k a0 a1 a2 t103 _ A6.out).mono ?_); rintro e w' ⟨rfl, ⟨nd, rfl⟩⟩; refine ⟨_, rfl, ?_⟩))
    go_ret
    exact ⟨by first | rfl | (simp [errW_none, errW_some] <;> rfl) | (simp [*, errW_none, errW_some] <;> rfl), by repeat (first | (with_reducible first | exact HB.out | apply below_alloc | apply pw_below_drewN | apply below_drew1) | exact HB.out)⟩

/-- THE ONE PURE STATEMENT of vouchlaw10_GasBacks: yours. -/
def vouchlaw10_GasBacks.Pure : Prop := ∀ (a0 : Int) (a1 : Int) (a2 : Int), (Lit.int .u64 a0).wf = true → (Lit.int .u64 a1).wf = true → (Lit.int .i64 a2).wf = true → ∃ k, vouchlaw10_GasBacks.f k a0 a1 a2 = some true
theorem vouchlaw10_GasBacks.walk (P : vouchlaw10_GasBacks.Pure) (a0 : Int) (a1 : Int) (a2 : Int) (w : World) (w0 : (Lit.int .u64 a0).wf = true) (w1 : (Lit.int .u64 a1).wf = true) (w2 : (Lit.int .i64 a2).wf = true) :
    Calls Try.prog 3 #[.int .u64 a0, .int .u64 a1, .int .i64 a2] w fun e w' => e = .returned (.bool true) ∧ Below w.heap.size w w' := by
  obtain ⟨k, h⟩ := P a0 a1 a2 w0 w1 w2
  refine (vouchlaw10_GasBacks.calls k a0 a1 a2 true w h).mono ?_
  rintro e w' ⟨rfl, hd⟩
  exact ⟨rfl, hd⟩

end Go.Proofs.Ytamllimonjfmiaa.PGasBacks
