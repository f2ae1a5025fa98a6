/- The functions of this text, as the layer Sh reckons them out (printed by shp.py, a program of ours): for each the predicate F, and that it suffices for a call. No condition. -/
import Derived.Test.YtalhnoelkglgiaaSh5
import Derived.Test.YtalhnoelkglgiaaProg
namespace Go.Proofs.Ytalhnoelkglgiaa.W
open Go Go.Proofs.Ytalhnoelkglgiaa.Sh
set_option linter.unusedVariables false
set_option maxRecDepth 100000

/-! 11 vouch/vouchlaw3.do -/
def F11 (a0 : Option Addr) (a1_0 : Int) (a1_1 : Bool) (a1_2 : Int) (a1_3 : Int) (w : World) (R : Value → World → Prop) : Prop :=
  allocK w (.cells #[(.int .i64 a1_0), (.bool a1_1), (.int .i64 a1_2), (.int .i64 a1_3)] 27) fun w1 => ldK Try.prog w1 ⟨w.heap.size, 0, none⟩ fun v1 => asI .i64 v1 fun n1 => ifB ((n1 : Int) == 1) (ldK Try.prog w1 ⟨w.heap.size, 2, none⟩ fun v2 => asI .i64 v2 fun n2 => ldK Try.prog w1 ⟨w.heap.size, 3, none⟩ fun v3 => asI .i64 v3 fun n3 => CallV Try.prog 12 #[(.pointer a0), (.int .i64 n2), (.int .i64 n3)] w1 fun v4 w2 => asT v4 fun t1_0 => asEnd t1_0 (R (.tuple #[]) w2)) (ifB ((n1 : Int) == 2) (ldK Try.prog w1 ⟨w.heap.size, 2, none⟩ fun v5 => asI .i64 v5 fun n4 => CallV Try.prog 16 #[(.pointer a0), (.int .i64 n4)] w1 fun v6 w3 => asB v6 fun b1 => R (.tuple #[]) w3) (ifB ((n1 : Int) == 3) (CallV Try.prog 15 #[(.pointer a0)] w1 fun v7 w4 => asI .i64 v7 fun n5 => R (.tuple #[]) w4) (ifB ((n1 : Int) == 4) (ldK Try.prog w1 ⟨w.heap.size, 2, none⟩ fun v8 => asI .i64 v8 fun n6 => CallV Try.prog 18 #[(.pointer a0), (.int .i64 n6)] w1 fun v9 w5 => asI .i64 v9 fun n7 => R (.tuple #[]) w5) (ifB ((n1 : Int) == 5) (ldK Try.prog w1 ⟨w.heap.size, 2, none⟩ fun v10 => asI .i64 v10 fun n8 => CallV Try.prog 21 #[(.pointer a0), (.int .i64 n8)] w1 fun v11 w6 => asI .i64 v11 fun n9 => R (.tuple #[]) w6) (R (.tuple #[]) w1)))))
def A11 (R : Value → World → Prop) : Ann := .no
theorem sides11 (R : Value → World → Prop) : fnSides Try.prog Try.f11 (A11 R) R := by
  trivial
theorem call11 (a0 : Option Addr) (a1_0 : Int) (a1_1 : Bool) (a1_2 : Int) (a1_3 : Int) (w : World) (R : Value → World → Prop) (h : F11 a0 a1_0 a1_1 a1_2 a1_3 w R) : CallV Try.prog 11 #[(.pointer a0), (.agg #[(.int .i64 a1_0), (.bool a1_1), (.int .i64 a1_2), (.int .i64 a1_3)])] w R :=
  callV_of (fn := Try.f11) (an := A11 R) (args := [(.pointer a0), (.agg #[(.int .i64 a1_0), (.bool a1_1), (.int .i64 a1_2), (.int .i64 a1_3)])]) Try.func11 rfl (sides11 R) (Eq.mp (by kernel_rfl) h)

/-! 13 vouch/vouchlaw3.seen -/
def J13_0 (R : Value → World → Prop) (x2 : Addr) (x3 : Addr) (w : World) : Prop :=
  ldK Try.prog w x3 fun v1 => asL v1 fun l1p l1l l1c => ldK Try.prog w (Addr.add x3 1) fun v2 => asL v2 fun l2p l2l l2c => semU Try.prog (Instr.storeAt 31 (.pointer (some x2)) (.agg #[(.slice l1p l1l l1c), (.slice l2p l2l l2c)])) w fun w1 => ldK Try.prog w1 x2 fun v3 => asL v3 fun l3p l3l l3c => ldK Try.prog w1 (Addr.add x2 1) fun v4 => asL v4 fun l4p l4l l4c => R (.agg #[(.slice l3p l3l l3c), (.slice l4p l4l l4c)]) w1
def L13_1 (R : Value → World → Prop) : Nat → Option Addr → Addr → Addr → Option Addr → Nat → Nat → Int → World → Prop
  | 0 => fun _ _ _ _ _ _ _ _ => False
  | k + 1 => fun x0 x2 x3 x4p x4l x4c x5 w => ifB (decide ((x5 : Int) < (x4l : Nat))) (semK Try.prog (Instr.indexAt 29 (.slice x4p x4l x4c) (.int .i64 x5)) w fun v1 w1 => asA v1 fun ad1 => ldK Try.prog w1 ad1 fun v2 => asI .i64 v2 fun n1 => CallV Try.prog 17 #[(.pointer x0), (.int .i64 n1)] w1 fun v3 w2 => asT v3 fun t1_0 => asHd t1_0 fun t1_0x t1_1 => asI .i64 t1_0x fun n2 => asHd t1_1 fun t1_1x t1_2 => asB t1_1x fun b1 => asEnd t1_2 (drewK w2 fun w3 => ldK Try.prog w3 x3 fun v4 => asL v4 fun l1p l1l l1c => semK Try.prog (Instr.indexAt 29 (.slice x4p x4l x4c) (.int .i64 x5)) w3 fun v5 w4 => asA v5 fun ad2 => ldK Try.prog w3 ad2 fun v6 => asI .i64 v6 fun n3 => allocK w3 (.cells #[(.int .i64 n3)] 3) fun w5 => (ldK Try.prog w5 x3 fun v7 => asL v7 fun l2p l2l l2c => ((.slice l2p l2l l2c) : Value) = (.slice l1p l1l l1c)) ∧ (semK Try.prog (Builtin.append_ #[29, 29] 29 #[(.slice l1p l1l l1c), (.slice (some ⟨w3.heap.size, 0, none⟩) 1 1)]) w5 fun v8 w6 => asL v8 fun l3p l3l l3c => semU Try.prog (Instr.storeAt 29 (.pointer (some x3)) (.slice l3p l3l l3c)) w6 fun w7 => ldK Try.prog w7 (Addr.add x3 1) fun v9 => asL v9 fun l4p l4l l4c => allocK w7 (.cells #[(.int .i64 n2)] 3) fun w8 => semK Try.prog (Builtin.append_ #[29, 29] 29 #[(.slice l4p l4l l4c), (.slice (some ⟨w7.heap.size, 0, none⟩) 1 1)]) w8 fun v10 w9 => asL v10 fun l5p l5l l5c => semU Try.prog (Instr.storeAt 29 (.pointer (some (Addr.add x3 1))) (.slice l5p l5l l5c)) w9 fun w10 => L13_1 R k x0 x2 x3 x4p x4l x4c (IntKind.wrap .i64 (x5 + 1)) w10))) (J13_0 R x2 x3 w)
def F13 (a0 : Option Addr) (w : World) (R : Value → World → Prop) : Prop :=
  allocK w (.cells #[(.slice none 0 0), (.slice none 0 0)] 31) fun w1 => allocK w1 (.cells #[(.slice none 0 0), (.slice none 0 0)] 31) fun w2 => CallV Try.prog 23 #[(.pointer a0), (.func (.func 27) #[] #[])] w2 fun v1 w3 => asL v1 fun l1p l1l l1c => ∃ m, L13_1 R m a0 ⟨w.heap.size, 0, none⟩ ⟨w1.heap.size, 0, none⟩ l1p l1l l1c 0 w3
def A13 (R : Value → World → Prop) : Ann := (.seq .no (.seq .no (.seq .no (.join (fun e ds w => nilD ds (asA (e 2) fun x2 => asA (e 3) fun x3 => J13_0 R x2 x3 w)) (.seq .no (.block (.loop (fun m e ds w => nilD ds (asP (e 0) fun x0 => asA (e 2) fun x2 => asA (e 3) fun x3 => asL (e 4) fun x4p x4l x4c => asI .i64 (e 5) fun x5 => L13_1 R m x0 x2 x3 x4p x4l x4c x5 w)) (fun kL13_1 => (.seq .no (.seq (.block (.seq .no (.seq (.draw [0, 1, 2, 3, 4, 5, 6, 7, 8, 9]) .no))) .no)))))) .no))))
theorem sides13 (R : Value → World → Prop) : fnSides Try.prog Try.f13 (A13 R) R := by
  refine And.intro ?_ ?_
  ·
    exact trivial
  ·
    refine And.intro ?_ ?_
    ·
      exact trivial
    ·
      refine And.intro ?_ ?_
      ·
        exact trivial
      ·
        refine And.intro ?_ (And.intro ?_ ?_)
        ·
          intro e ds w h
          have hn := nilD_elim h
          clear h
          obtain ⟨rfl, h⟩ := hn
          obtain ⟨x2, z2, h⟩ := asA_elim h
          obtain ⟨x3, z3, h⟩ := asA_elim h
          have he : (put (put e (some 2) (.pointer (some x2))) (some 3) (.pointer (some x3))) = e := by rw [put_id z2, put_id z3]
          rw [← he]
          clear he
          exact Eq.mp (by kernel_rfl) h
        ·
          refine And.intro ?_ ?_
          ·
            exact trivial
          ·
            refine And.intro ?_ (And.intro ?_ ?_)
            ·
              intro e ds w h
              have hn := nilD_elim h
              clear h
              obtain ⟨rfl, h⟩ := hn
              obtain ⟨x0, z0, h⟩ := asP_elim h
              obtain ⟨x2, z2, h⟩ := asA_elim h
              obtain ⟨x3, z3, h⟩ := asA_elim h
              obtain ⟨x4p, x4l, x4c, z4, h⟩ := asL_elim h
              obtain ⟨x5, z5, h⟩ := asI_elim h
              exact h
            ·
              intro kL13_1 e ds w h
              have hn := nilD_elim h
              clear h
              obtain ⟨rfl, h⟩ := hn
              obtain ⟨x0, z0, h⟩ := asP_elim h
              obtain ⟨x2, z2, h⟩ := asA_elim h
              obtain ⟨x3, z3, h⟩ := asA_elim h
              obtain ⟨x4p, x4l, x4c, z4, h⟩ := asL_elim h
              obtain ⟨x5, z5, h⟩ := asI_elim h
              have he : (put (put (put (put (put e (some 0) (.pointer x0)) (some 2) (.pointer (some x2))) (some 3) (.pointer (some x3))) (some 4) (.slice x4p x4l x4c)) (some 5) (.int .i64 x5)) = e := by rw [put_id z0, put_id z2, put_id z3, put_id z4, put_id z5]
              rw [← he]
              clear he
              exact Eq.mp (by kernel_rfl) h
            ·
              intro kL13_1
              refine And.intro ?_ ?_
              ·
                exact trivial
              ·
                refine And.intro ?_ ?_
                ·
                  refine And.intro ?_ ?_
                  ·
                    exact trivial
                  ·
                    refine And.intro ?_ ?_
                    ·
                      exact trivial
                    ·
                      exact trivial
                ·
                  exact trivial
        ·
          exact trivial
theorem call13 (a0 : Option Addr) (w : World) (R : Value → World → Prop) (h : F13 a0 w R) : CallV Try.prog 13 #[(.pointer a0)] w R :=
  callV_of (fn := Try.f13) (an := A13 R) (args := [(.pointer a0)]) Try.func13 rfl (sides13 R) (Eq.mp (by kernel_rfl) h)

/-! 19 vouch/vouchlaw3.tells -/
def J19_2 (R : Value → World → Prop) (C_L19_1 : Option Addr → Addr → Int → World → Prop) (x0 : Option Addr) (x3 : Addr) (x5 : Int) (w : World) : Prop :=
  C_L19_1 x0 x3 (IntKind.wrap .i64 (x5 + 1)) w
def J19_3 (R : Value → World → Prop) (C_L19_1 : Option Addr → Addr → Int → World → Prop) (x0 : Option Addr) (x3 : Addr) (x5 : Int) (x67 : Bool) (w : World) : Prop :=
  ifB x67 (R (.bool false) w) (J19_2 R C_L19_1 x0 x3 x5 w)
def L19_1 (R : Value → World → Prop) : Nat → Option Addr → Addr → Int → World → Prop
  | 0 => fun _ _ _ _ => False
  | k + 1 => fun x0 x3 x5 w => ldK Try.prog w x3 fun v1 => asL v1 fun l1p l1l l1c => ifB (decide ((x5 : Int) < (l1l : Nat))) (ldK Try.prog w x3 fun v2 => asL v2 fun l2p l2l l2c => semK Try.prog (Instr.indexAt 29 (.slice l2p l2l l2c) (.int .i64 x5)) w fun v3 w1 => asA v3 fun ad1 => ldK Try.prog w1 ad1 fun v4 => asI .i64 v4 fun n1 => CallV Try.prog 17 #[(.pointer x0), (.int .i64 n1)] w1 fun v5 w2 => asT v5 fun t1_0 => asHd t1_0 fun t1_0x t1_1 => asI .i64 t1_0x fun n2 => asHd t1_1 fun t1_1x t1_2 => asB t1_1x fun b1 => asEnd t1_2 (drewK w2 fun w3 => ifB (!b1) (J19_3 R (L19_1 R k) x0 x3 x5 true w3) (ldK Try.prog w3 (Addr.add x3 1) fun v6 => asL v6 fun l3p l3l l3c => semK Try.prog (Instr.indexAt 29 (.slice l3p l3l l3c) (.int .i64 x5)) w3 fun v7 w4 => asA v7 fun ad2 => ldK Try.prog w3 ad2 fun v8 => asI .i64 v8 fun n3 => ifB ((n2 : Int) != n3) (J19_3 R (L19_1 R k) x0 x3 x5 true w3) (ifB (decide ((x5 : Int) > 0)) (ldK Try.prog w3 x3 fun v9 => asL v9 fun l4p l4l l4c => semK Try.prog (Instr.indexAt 29 (.slice l4p l4l l4c) (.int .i64 (IntKind.wrap .i64 (x5 - 1)))) w3 fun v10 w5 => asA v10 fun ad3 => ldK Try.prog w3 ad3 fun v11 => asI .i64 v11 fun n4 => ldK Try.prog w3 x3 fun v12 => asL v12 fun l5p l5l l5c => semK Try.prog (Instr.indexAt 29 (.slice l5p l5l l5c) (.int .i64 x5)) w3 fun v13 w6 => asA v13 fun ad4 => ldK Try.prog w3 ad4 fun v14 => asI .i64 v14 fun n5 => J19_3 R (L19_1 R k) x0 x3 x5 (decide ((n4 : Int) ≥ n5)) w3) (J19_3 R (L19_1 R k) x0 x3 x5 false w3))))) (R (.bool true) w)
def J19_0 (R : Value → World → Prop) (x0 : Option Addr) (x3 : Addr) (w : World) : Prop :=
  ∃ m, L19_1 R m x0 x3 0 w
def F19 (a0 : Option Addr) (a1_0p : Option Addr) (a1_0l : Nat) (a1_0c : Nat) (a1_1p : Option Addr) (a1_1l : Nat) (a1_1c : Nat) (w : World) (R : Value → World → Prop) : Prop :=
  allocK w (.cells #[(.slice a1_0p a1_0l a1_0c), (.slice a1_1p a1_1l a1_1c)] 31) fun w1 => drewK w1 fun w2 => ldK Try.prog w2 ⟨w.heap.size, 0, none⟩ fun v1 => asL v1 fun l1p l1l l1c => CallV Try.prog 22 #[(.pointer a0)] w2 fun v2 w3 => asI .i64 v2 fun n1 => (ldK Try.prog w3 ⟨w.heap.size, 0, none⟩ fun v3 => asL v3 fun l2p l2l l2c => ((.slice l2p l2l l2c) : Value) = (.slice l1p l1l l1c)) ∧ ((((.int .i64 (l1l : Nat)) : Value) = (.int .i64 (l1l : Nat))) ∧ (ifB ((n1 : Int) != (l1l : Nat)) (R (.bool false) w3) (ldK Try.prog w3 ⟨w.heap.size, 0, none⟩ fun v4 => asL v4 fun l3p l3l l3c => CallV Try.prog 23 #[(.pointer a0), (.func (.func 27) #[] #[])] w3 fun v5 w4 => asL v5 fun l4p l4l l4c => (ldK Try.prog w4 ⟨w.heap.size, 0, none⟩ fun v6 => asL v6 fun l5p l5l l5c => ((.slice l5p l5l l5c) : Value) = (.slice l3p l3l l3c)) ∧ (CallV Try.prog 28 #[(.slice l4p l4l l4c), (.slice l3p l3l l3c)] w4 fun v7 w5 => asB v7 fun b1 => ifB (!b1) (R (.bool false) w5) (J19_0 R a0 ⟨w.heap.size, 0, none⟩ w5)))))
def A19 (R : Value → World → Prop) : Ann := (.seq .no (.join (fun e ds w => nilD ds (asP (e 0) fun x0 => asA (e 3) fun x3 => J19_0 R x0 x3 w)) (.seq (.draw [0, 2, 3, 4, 1, 5, 6, 7, 9, 10, 8, 11, 12, 13]) .no) (.seq (.seq .no (.block (.loop (fun m e ds w => nilD ds (asP (e 0) fun x0 => asA (e 3) fun x3 => asI .i64 (e 5) fun x5 => L19_1 R m x0 x3 x5 w)) (fun kL19_1 => (.seq .no (.join (fun e ds w => nilD ds (asP (e 0) fun x0 => asA (e 3) fun x3 => asI .i64 (e 5) fun x5 => J19_2 R (L19_1 R kL19_1) x0 x3 x5 w)) (.block (.seq .no (.join (fun e ds w => nilD ds (asP (e 0) fun x0 => asA (e 3) fun x3 => asI .i64 (e 5) fun x5 => asB (e 67) fun x67 => J19_3 R (L19_1 R kL19_1) x0 x3 x5 x67 w)) (.draw [0, 1, 2, 3, 4, 5, 6, 7, 8, 9, 10, 11, 12, 13, 14, 15, 16, 17, 18, 19, 20, 21, 22, 23, 24, 25, 26, 27, 28]) .no))) .no)))))) .no)))
theorem sides19 (R : Value → World → Prop) : fnSides Try.prog Try.f19 (A19 R) R := by
  refine And.intro ?_ ?_
  ·
    exact trivial
  ·
    refine And.intro ?_ (And.intro ?_ ?_)
    ·
      intro e ds w h
      have hn := nilD_elim h
      clear h
      obtain ⟨rfl, h⟩ := hn
      obtain ⟨x0, z0, h⟩ := asP_elim h
      obtain ⟨x3, z3, h⟩ := asA_elim h
      have he : (put (put e (some 0) (.pointer x0)) (some 3) (.pointer (some x3))) = e := by rw [put_id z0, put_id z3]
      rw [← he]
      clear he
      exact Eq.mp (by kernel_rfl) h
    ·
      refine And.intro ?_ ?_
      ·
        exact trivial
      ·
        exact trivial
    ·
      refine And.intro ?_ ?_
      ·
        refine And.intro ?_ ?_
        ·
          exact trivial
        ·
          refine And.intro ?_ (And.intro ?_ ?_)
          ·
            intro e ds w h
            have hn := nilD_elim h
            clear h
            obtain ⟨rfl, h⟩ := hn
            obtain ⟨x0, z0, h⟩ := asP_elim h
            obtain ⟨x3, z3, h⟩ := asA_elim h
            obtain ⟨x5, z5, h⟩ := asI_elim h
            exact h
          ·
            intro kL19_1 e ds w h
            have hn := nilD_elim h
            clear h
            obtain ⟨rfl, h⟩ := hn
            obtain ⟨x0, z0, h⟩ := asP_elim h
            obtain ⟨x3, z3, h⟩ := asA_elim h
            obtain ⟨x5, z5, h⟩ := asI_elim h
            have he : (put (put (put e (some 0) (.pointer x0)) (some 3) (.pointer (some x3))) (some 5) (.int .i64 x5)) = e := by rw [put_id z0, put_id z3, put_id z5]
            rw [← he]
            clear he
            exact Eq.mp (by kernel_rfl) h
          ·
            intro kL19_1
            refine And.intro ?_ ?_
            ·
              exact trivial
            ·
              refine And.intro ?_ (And.intro ?_ ?_)
              ·
                intro e ds w h
                have hn := nilD_elim h
                clear h
                obtain ⟨rfl, h⟩ := hn
                obtain ⟨x0, z0, h⟩ := asP_elim h
                obtain ⟨x3, z3, h⟩ := asA_elim h
                obtain ⟨x5, z5, h⟩ := asI_elim h
                have he : (put (put (put e (some 0) (.pointer x0)) (some 3) (.pointer (some x3))) (some 5) (.int .i64 x5)) = e := by rw [put_id z0, put_id z3, put_id z5]
                rw [← he]
                clear he
                exact Eq.mp (by kernel_rfl) h
              ·
                refine And.intro ?_ ?_
                ·
                  exact trivial
                ·
                  refine And.intro ?_ (And.intro ?_ ?_)
                  ·
                    intro e ds w h
                    have hn := nilD_elim h
                    clear h
                    obtain ⟨rfl, h⟩ := hn
                    obtain ⟨x0, z0, h⟩ := asP_elim h
                    obtain ⟨x3, z3, h⟩ := asA_elim h
                    obtain ⟨x5, z5, h⟩ := asI_elim h
                    obtain ⟨x67, z67, h⟩ := asB_elim h
                    have he : (put (put (put (put e (some 0) (.pointer x0)) (some 3) (.pointer (some x3))) (some 5) (.int .i64 x5)) (some 67) (.bool x67)) = e := by rw [put_id z0, put_id z3, put_id z5, put_id z67]
                    rw [← he]
                    clear he
                    exact Eq.mp (by kernel_rfl) h
                  ·
                    exact trivial
                  ·
                    exact trivial
              ·
                exact trivial
      ·
        exact trivial
theorem call19 (a0 : Option Addr) (a1_0p : Option Addr) (a1_0l : Nat) (a1_0c : Nat) (a1_1p : Option Addr) (a1_1l : Nat) (a1_1c : Nat) (w : World) (R : Value → World → Prop) (h : F19 a0 a1_0p a1_0l a1_0c a1_1p a1_1l a1_1c w R) : CallV Try.prog 19 #[(.pointer a0), (.agg #[(.slice a1_0p a1_0l a1_0c), (.slice a1_1p a1_1l a1_1c)])] w R :=
  callV_of (fn := Try.f19) (an := A19 R) (args := [(.pointer a0), (.agg #[(.slice a1_0p a1_0l a1_0c), (.slice a1_1p a1_1l a1_1c)])]) Try.func19 rfl (sides19 R) (Eq.mp (by kernel_rfl) h)

/-! 26 vouch/vouchlaw3.once -/
def J26_0 (R : Value → World → Prop) (x5 : Int) (w : World) : Prop :=
  R (.bool ((x5 : Int) == 1)) w
def L26_1 (R : Value → World → Prop) : Nat → Option Addr → Nat → Nat → Int → Int → Int → World → Prop
  | 0 => fun _ _ _ _ _ _ _ => False
  | k + 1 => fun x0p x0l x0c x1 x5 x6 w => ifB (decide ((x6 : Int) < (x0l : Nat))) (semK Try.prog (Instr.indexAt 29 (.slice x0p x0l x0c) (.int .i64 x6)) w fun v1 w1 => asA v1 fun ad1 => ldK Try.prog w1 ad1 fun v2 => asI .i64 v2 fun n1 => ifB ((n1 : Int) == x1) (L26_1 R k x0p x0l x0c x1 (IntKind.wrap .i64 (x5 + 1)) (IntKind.wrap .i64 (x6 + 1)) w1) (L26_1 R k x0p x0l x0c x1 x5 (IntKind.wrap .i64 (x6 + 1)) w1)) (J26_0 R x5 w)
def F26 (a0p : Option Addr) (a0l : Nat) (a0c : Nat) (a1 : Int) (w : World) (R : Value → World → Prop) : Prop :=
  ∃ m, L26_1 R m a0p a0l a0c a1 0 0 w
def A26 (R : Value → World → Prop) : Ann := (.seq .no (.seq .no (.join (fun e ds w => nilD ds (asI .i64 (e 5) fun x5 => J26_0 R x5 w)) (.seq .no (.block (.loop (fun m e ds w => nilD ds (asL (e 0) fun x0p x0l x0c => asI .i64 (e 1) fun x1 => asI .i64 (e 5) fun x5 => asI .i64 (e 6) fun x6 => L26_1 R m x0p x0l x0c x1 x5 x6 w)) (fun kL26_1 => .no)))) .no)))
theorem sides26 (R : Value → World → Prop) : fnSides Try.prog Try.f26 (A26 R) R := by
  refine And.intro ?_ ?_
  ·
    exact trivial
  ·
    refine And.intro ?_ ?_
    ·
      exact trivial
    ·
      refine And.intro ?_ (And.intro ?_ ?_)
      ·
        intro e ds w h
        have hn := nilD_elim h
        clear h
        obtain ⟨rfl, h⟩ := hn
        obtain ⟨x5, z5, h⟩ := asI_elim h
        have he : (put e (some 5) (.int .i64 x5)) = e := by rw [put_id z5]
        rw [← he]
        clear he
        exact Eq.mp (by kernel_rfl) h
      ·
        refine And.intro ?_ ?_
        ·
          exact trivial
        ·
          refine And.intro ?_ (And.intro ?_ ?_)
          ·
            intro e ds w h
            have hn := nilD_elim h
            clear h
            obtain ⟨rfl, h⟩ := hn
            obtain ⟨x0p, x0l, x0c, z0, h⟩ := asL_elim h
            obtain ⟨x1, z1, h⟩ := asI_elim h
            obtain ⟨x5, z5, h⟩ := asI_elim h
            obtain ⟨x6, z6, h⟩ := asI_elim h
            exact h
          ·
            intro kL26_1 e ds w h
            have hn := nilD_elim h
            clear h
            obtain ⟨rfl, h⟩ := hn
            obtain ⟨x0p, x0l, x0c, z0, h⟩ := asL_elim h
            obtain ⟨x1, z1, h⟩ := asI_elim h
            obtain ⟨x5, z5, h⟩ := asI_elim h
            obtain ⟨x6, z6, h⟩ := asI_elim h
            have he : (put (put (put (put e (some 0) (.slice x0p x0l x0c)) (some 1) (.int .i64 x1)) (some 5) (.int .i64 x5)) (some 6) (.int .i64 x6)) = e := by rw [put_id z0, put_id z1, put_id z5, put_id z6]
            rw [← he]
            clear he
            exact Eq.mp (by kernel_rfl) h
          ·
            intro kL26_1
            exact trivial
      ·
        exact trivial
theorem call26 (a0p : Option Addr) (a0l : Nat) (a0c : Nat) (a1 : Int) (w : World) (R : Value → World → Prop) (h : F26 a0p a0l a0c a1 w R) : CallV Try.prog 26 #[(.slice a0p a0l a0c), (.int .i64 a1)] w R :=
  callV_of (fn := Try.f26) (an := A26 R) (args := [(.slice a0p a0l a0c), (.int .i64 a1)]) Try.func26 rfl (sides26 R) (Eq.mp (by kernel_rfl) h)

/-! 28 vouch/vouchlaw3.sameInts -/
def L28_0 (R : Value → World → Prop) : Nat → Option Addr → Nat → Nat → Option Addr → Nat → Nat → Int → World → Prop
  | 0 => fun _ _ _ _ _ _ _ _ => False
  | k + 1 => fun x0p x0l x0c x1p x1l x1c x5 w => ifB (decide ((x5 : Int) < (x0l : Nat))) (drewK w fun w1 => semK Try.prog (Instr.indexAt 29 (.slice x0p x0l x0c) (.int .i64 x5)) w1 fun v1 w2 => asA v1 fun ad1 => ldK Try.prog w1 ad1 fun v2 => asI .i64 v2 fun n1 => semK Try.prog (Instr.indexAt 29 (.slice x1p x1l x1c) (.int .i64 x5)) w1 fun v3 w3 => asA v3 fun ad2 => ldK Try.prog w1 ad2 fun v4 => asI .i64 v4 fun n2 => ifB ((n1 : Int) != n2) (R (.bool false) w1) (L28_0 R k x0p x0l x0c x1p x1l x1c (IntKind.wrap .i64 (x5 + 1)) w1)) (R (.bool true) w)
def F28 (a0p : Option Addr) (a0l : Nat) (a0c : Nat) (a1p : Option Addr) (a1l : Nat) (a1c : Nat) (w : World) (R : Value → World → Prop) : Prop :=
  ifB (((a0l : Nat) : Int) != (a1l : Nat)) (R (.bool false) w) (∃ m, L28_0 R m a0p a0l a0c a1p a1l a1c 0 w)
def A28 (R : Value → World → Prop) : Ann := (.seq .no (.seq .no (.seq (.seq .no (.block (.loop (fun m e ds w => nilD ds (asL (e 0) fun x0p x0l x0c => asL (e 1) fun x1p x1l x1c => asI .i64 (e 5) fun x5 => L28_0 R m x0p x0l x0c x1p x1l x1c x5 w)) (fun kL28_0 => (.seq .no (.seq (.block (.seq (.draw [0, 1, 2, 3, 4, 5, 6, 7, 8]) .no)) .no)))))) .no)))
theorem sides28 (R : Value → World → Prop) : fnSides Try.prog Try.f28 (A28 R) R := by
  refine And.intro ?_ ?_
  ·
    exact trivial
  ·
    refine And.intro ?_ ?_
    ·
      exact trivial
    ·
      refine And.intro ?_ ?_
      ·
        refine And.intro ?_ ?_
        ·
          exact trivial
        ·
          refine And.intro ?_ (And.intro ?_ ?_)
          ·
            intro e ds w h
            have hn := nilD_elim h
            clear h
            obtain ⟨rfl, h⟩ := hn
            obtain ⟨x0p, x0l, x0c, z0, h⟩ := asL_elim h
            obtain ⟨x1p, x1l, x1c, z1, h⟩ := asL_elim h
            obtain ⟨x5, z5, h⟩ := asI_elim h
            exact h
          ·
            intro kL28_0 e ds w h
            have hn := nilD_elim h
            clear h
            obtain ⟨rfl, h⟩ := hn
            obtain ⟨x0p, x0l, x0c, z0, h⟩ := asL_elim h
            obtain ⟨x1p, x1l, x1c, z1, h⟩ := asL_elim h
            obtain ⟨x5, z5, h⟩ := asI_elim h
            have he : (put (put (put e (some 0) (.slice x0p x0l x0c)) (some 1) (.slice x1p x1l x1c)) (some 5) (.int .i64 x5)) = e := by rw [put_id z0, put_id z1, put_id z5]
            rw [← he]
            clear he
            exact Eq.mp (by kernel_rfl) h
          ·
            intro kL28_0
            refine And.intro ?_ ?_
            ·
              exact trivial
            ·
              refine And.intro ?_ ?_
              ·
                refine And.intro ?_ ?_
                ·
                  exact trivial
                ·
                  exact trivial
              ·
                exact trivial
      ·
        exact trivial
theorem call28 (a0p : Option Addr) (a0l : Nat) (a0c : Nat) (a1p : Option Addr) (a1l : Nat) (a1c : Nat) (w : World) (R : Value → World → Prop) (h : F28 a0p a0l a0c a1p a1l a1c w R) : CallV Try.prog 28 #[(.slice a0p a0l a0c), (.slice a1p a1l a1c)] w R :=
  callV_of (fn := Try.f28) (an := A28 R) (args := [(.slice a0p a0l a0c), (.slice a1p a1l a1c)]) Try.func28 rfl (sides28 R) (Eq.mp (by kernel_rfl) h)

/-! 20 vouch/vouchlaw3.awake -/
def J20_0 (R : Value → World → Prop) (x1 : Addr) (w : World) : Prop :=
  ldK Try.prog w (Addr.add x1 1) fun v1 => asP v1 fun p1 => optP p1 fun ad1 => ldK Try.prog w ad1 fun v2 => asL v2 fun l1p l1l l1c => R (.bool (((l1l : Nat) : Int) == 1)) w
def L20_1 (R : Value → World → Prop) : Nat → Addr → Addr → Int → World → Prop
  | 0 => fun _ _ _ _ => False
  | k + 1 => fun x1 x2 x3 w => ifB (decide ((x3 : Int) < 9)) (drewK w fun w1 => ldK Try.prog w1 x1 fun v1 => asP v1 fun p1 => ldK Try.prog w1 (Addr.add x1 1) fun v2 => asP v2 fun p2 => semK Try.prog (Instr.indexAt 64 (.pointer (some x2)) (.int .i64 x3)) w1 fun v3 w2 => asA v3 fun ad1 => ldK Try.prog w1 ad1 fun v4 => asI .i64 v4 fun n1 => ldK Try.prog w1 (Addr.add ad1 1) fun v5 => asB v5 fun b1 => ldK Try.prog w1 (Addr.add ad1 2) fun v6 => asI .i64 v6 fun n2 => ldK Try.prog w1 (Addr.add ad1 3) fun v7 => asI .i64 v7 fun n3 => CallV Try.prog 32 #[(.agg #[(.pointer p1), (.pointer p2)]), (.agg #[(.int .i64 n1), (.bool b1), (.int .i64 n2), (.int .i64 n3)])] w1 fun v8 w3 => asB v8 fun b2 => ifB (!b2) (R (.bool false) w3) (L20_1 R k x1 x2 (IntKind.wrap .i64 (x3 + 1)) w3)) (J20_0 R x1 w)
def F20 (w : World) (R : Value → World → Prop) : Prop :=
  CallV Try.prog 31 #[] w fun v1 w1 => asG v1 fun q1_0 => asHd q1_0 fun q1_0x q1_1 => asP q1_0x fun p1 => asHd q1_1 fun q1_1x q1_2 => asP q1_1x fun p2 => asEnd q1_2 (allocK w1 (.cells #[(.pointer none), (.pointer none)] 62) fun w2 => semU Try.prog (Instr.storeAt 62 (.pointer (some ⟨w1.heap.size, 0, none⟩)) (.agg #[(.pointer p1), (.pointer p2)])) w2 fun w3 => ldK Try.prog w3 ⟨w1.heap.size, 0, none⟩ fun v2 => asP v2 fun p3 => ifB (Option.isNone p3) (R (.bool false) w3) (allocK w3 (.cells #[(.int .i64 0), (.bool false), (.int .i64 0), (.int .i64 0), (.int .i64 0), (.bool false), (.int .i64 0), (.int .i64 0), (.int .i64 0), (.bool false), (.int .i64 0), (.int .i64 0), (.int .i64 0), (.bool false), (.int .i64 0), (.int .i64 0), (.int .i64 0), (.bool false), (.int .i64 0), (.int .i64 0), (.int .i64 0), (.bool false), (.int .i64 0), (.int .i64 0), (.int .i64 0), (.bool false), (.int .i64 0), (.int .i64 0), (.int .i64 0), (.bool false), (.int .i64 0), (.int .i64 0), (.int .i64 0), (.bool false), (.int .i64 0), (.int .i64 0)] 64) fun w4 => semU Try.prog (Instr.storeAt 64 (.pointer (some ⟨w3.heap.size, 0, none⟩)) (.agg #[(.int .i64 1), (.bool false), (.int .i64 1), (.int .i64 10), (.int .i64 3), (.bool false), (.int .i64 0), (.int .i64 0), (.int .i64 1), (.bool false), (.int .i64 1), (.int .i64 11), (.int .i64 1), (.bool false), (.int .i64 0), (.int .i64 5), (.int .i64 7), (.bool false), (.int .i64 0), (.int .i64 0), (.int .i64 4), (.bool false), (.int .i64 0), (.int .i64 0), (.int .i64 6), (.bool false), (.int .i64 1), (.int .i64 0), (.int .i64 7), (.bool false), (.int .i64 0), (.int .i64 0), (.int .i64 8), (.bool false), (.int .i64 0), (.int .i64 0)])) w4 fun w5 => ∃ m, L20_1 R m ⟨w1.heap.size, 0, none⟩ ⟨w3.heap.size, 0, none⟩ 0 w5))
def A20 (R : Value → World → Prop) : Ann := (.seq .no (.seq .no (.seq .no (.seq .no (.join (fun e ds w => nilD ds (asA (e 1) fun x1 => J20_0 R x1 w)) (.seq .no (.block (.loop (fun m e ds w => nilD ds (asA (e 1) fun x1 => asA (e 2) fun x2 => asI .i64 (e 3) fun x3 => L20_1 R m x1 x2 x3 w)) (fun kL20_1 => (.seq .no (.seq (.block (.seq (.draw [0, 1, 2, 3, 4, 5]) .no)) .no)))))) .no)))))
theorem sides20 (R : Value → World → Prop) : fnSides Try.prog Try.f20 (A20 R) R := by
  refine And.intro ?_ ?_
  ·
    exact trivial
  ·
    refine And.intro ?_ ?_
    ·
      exact trivial
    ·
      refine And.intro ?_ ?_
      ·
        exact trivial
      ·
        refine And.intro ?_ ?_
        ·
          exact trivial
        ·
          refine And.intro ?_ (And.intro ?_ ?_)
          ·
            intro e ds w h
            have hn := nilD_elim h
            clear h
            obtain ⟨rfl, h⟩ := hn
            obtain ⟨x1, z1, h⟩ := asA_elim h
            have he : (put e (some 1) (.pointer (some x1))) = e := by rw [put_id z1]
            rw [← he]
            clear he
            exact Eq.mp (by kernel_rfl) h
          ·
            refine And.intro ?_ ?_
            ·
              exact trivial
            ·
              refine And.intro ?_ (And.intro ?_ ?_)
              ·
                intro e ds w h
                have hn := nilD_elim h
                clear h
                obtain ⟨rfl, h⟩ := hn
                obtain ⟨x1, z1, h⟩ := asA_elim h
                obtain ⟨x2, z2, h⟩ := asA_elim h
                obtain ⟨x3, z3, h⟩ := asI_elim h
                exact h
              ·
                intro kL20_1 e ds w h
                have hn := nilD_elim h
                clear h
                obtain ⟨rfl, h⟩ := hn
                obtain ⟨x1, z1, h⟩ := asA_elim h
                obtain ⟨x2, z2, h⟩ := asA_elim h
                obtain ⟨x3, z3, h⟩ := asI_elim h
                have he : (put (put (put e (some 1) (.pointer (some x1))) (some 2) (.pointer (some x2))) (some 3) (.int .i64 x3)) = e := by rw [put_id z1, put_id z2, put_id z3]
                rw [← he]
                clear he
                exact Eq.mp (by kernel_rfl) h
              ·
                intro kL20_1
                refine And.intro ?_ ?_
                ·
                  exact trivial
                ·
                  refine And.intro ?_ ?_
                  ·
                    refine And.intro ?_ ?_
                    ·
                      exact trivial
                    ·
                      exact trivial
                  ·
                    exact trivial
          ·
            exact trivial
theorem call20 (w : World) (R : Value → World → Prop) (h : F20 w R) : CallV Try.prog 20 #[] w R :=
  callV_of (fn := Try.f20) (an := A20 R) (args := []) Try.func20 rfl (sides20 R) (Eq.mp (by kernel_rfl) h)

/-! 31 vouch/vouchlaw3.made -/
def F31 (w : World) (R : Value → World → Prop) : Prop :=
  allocK w (.cells #[(.pointer none), (.pointer none)] 62) fun w1 => CallV Try.prog 10 #[] w1 fun v1 w2 => asP v1 fun p1 => CallV Try.prog 37 #[] w2 fun v2 w3 => asP v2 fun p2 => semU Try.prog (Instr.storeAt 62 (.pointer (some ⟨w.heap.size, 0, none⟩)) (.agg #[(.pointer p1), (.pointer p2)])) w3 fun w4 => ldK Try.prog w4 ⟨w.heap.size, 0, none⟩ fun v3 => asP v3 fun p3 => ldK Try.prog w4 ⟨w.heap.size, 1, none⟩ fun v4 => asP v4 fun p4 => R (.agg #[(.pointer p3), (.pointer p4)]) w4
def A31 (R : Value → World → Prop) : Ann := .no
theorem sides31 (R : Value → World → Prop) : fnSides Try.prog Try.f31 (A31 R) R := by
  trivial
theorem call31 (w : World) (R : Value → World → Prop) (h : F31 w R) : CallV Try.prog 31 #[] w R :=
  callV_of (fn := Try.f31) (an := A31 R) (args := []) Try.func31 rfl (sides31 R) (Eq.mp (by kernel_rfl) h)

/-! 32 vouch/vouchlaw3.step -/
def F32 (a0_0 : Option Addr) (a0_1 : Option Addr) (a1_0 : Int) (a1_1 : Bool) (a1_2 : Int) (a1_3 : Int) (w : World) (R : Value → World → Prop) : Prop :=
  allocK w (.cells #[(.pointer a0_0), (.pointer a0_1)] 62) fun w1 => allocK w1 (.cells #[(.int .i64 a1_0), (.bool a1_1), (.int .i64 a1_2), (.int .i64 a1_3)] 27) fun w2 => ldK Try.prog w2 ⟨w1.heap.size, 0, none⟩ fun v1 => asI .i64 v1 fun n1 => ifB (decide ((n1 : Int) ≤ 5)) (ldK Try.prog w2 ⟨w.heap.size, 0, none⟩ fun v2 => asP v2 fun p1 => ldK Try.prog w2 ⟨w.heap.size, 1, none⟩ fun v3 => asP v3 fun p2 => ldK Try.prog w2 ⟨w1.heap.size, 0, none⟩ fun v4 => asI .i64 v4 fun n2 => ldK Try.prog w2 ⟨w1.heap.size, 1, none⟩ fun v5 => asB v5 fun b1 => ldK Try.prog w2 ⟨w1.heap.size, 2, none⟩ fun v6 => asI .i64 v6 fun n3 => ldK Try.prog w2 ⟨w1.heap.size, 3, none⟩ fun v7 => asI .i64 v7 fun n4 => CallV Try.prog 38 #[(.agg #[(.pointer p1), (.pointer p2)]), (.agg #[(.int .i64 n2), (.bool b1), (.int .i64 n3), (.int .i64 n4)])] w2 fun v8 w3 => asB v8 fun b2 => R (.bool b2) w3) (ldK Try.prog w2 ⟨w.heap.size, 0, none⟩ fun v9 => asP v9 fun p3 => ldK Try.prog w2 ⟨w.heap.size, 1, none⟩ fun v10 => asP v10 fun p4 => ldK Try.prog w2 ⟨w1.heap.size, 0, none⟩ fun v11 => asI .i64 v11 fun n5 => ldK Try.prog w2 ⟨w1.heap.size, 1, none⟩ fun v12 => asB v12 fun b3 => ldK Try.prog w2 ⟨w1.heap.size, 2, none⟩ fun v13 => asI .i64 v13 fun n6 => ldK Try.prog w2 ⟨w1.heap.size, 3, none⟩ fun v14 => asI .i64 v14 fun n7 => CallV Try.prog 39 #[(.agg #[(.pointer p3), (.pointer p4)]), (.agg #[(.int .i64 n5), (.bool b3), (.int .i64 n6), (.int .i64 n7)])] w2 fun v15 w4 => asB v15 fun b4 => R (.bool b4) w4)
def A32 (R : Value → World → Prop) : Ann := .no
theorem sides32 (R : Value → World → Prop) : fnSides Try.prog Try.f32 (A32 R) R := by
  trivial
theorem call32 (a0_0 : Option Addr) (a0_1 : Option Addr) (a1_0 : Int) (a1_1 : Bool) (a1_2 : Int) (a1_3 : Int) (w : World) (R : Value → World → Prop) (h : F32 a0_0 a0_1 a1_0 a1_1 a1_2 a1_3 w R) : CallV Try.prog 32 #[(.agg #[(.pointer a0_0), (.pointer a0_1)]), (.agg #[(.int .i64 a1_0), (.bool a1_1), (.int .i64 a1_2), (.int .i64 a1_3)])] w R :=
  callV_of (fn := Try.f32) (an := A32 R) (args := [(.agg #[(.pointer a0_0), (.pointer a0_1)]), (.agg #[(.int .i64 a1_0), (.bool a1_1), (.int .i64 a1_2), (.int .i64 a1_3)])]) Try.func32 rfl (sides32 R) (Eq.mp (by kernel_rfl) h)

/-! 38 vouch/vouchlaw3.moved -/
def F38 (a0_0 : Option Addr) (a0_1 : Option Addr) (a1_0 : Int) (a1_1 : Bool) (a1_2 : Int) (a1_3 : Int) (w : World) (R : Value → World → Prop) : Prop :=
  allocK w (.cells #[(.pointer a0_0), (.pointer a0_1)] 62) fun w1 => allocK w1 (.cells #[(.int .i64 a1_0), (.bool a1_1), (.int .i64 a1_2), (.int .i64 a1_3)] 27) fun w2 => ldK Try.prog w2 ⟨w1.heap.size, 0, none⟩ fun v1 => asI .i64 v1 fun n1 => ifB ((n1 : Int) == 1) (ldK Try.prog w2 ⟨w.heap.size, 0, none⟩ fun v2 => asP v2 fun p1 => ldK Try.prog w2 ⟨w1.heap.size, 2, none⟩ fun v3 => asI .i64 v3 fun n2 => ldK Try.prog w2 ⟨w1.heap.size, 3, none⟩ fun v4 => asI .i64 v4 fun n3 => CallV Try.prog 12 #[(.pointer p1), (.int .i64 n2), (.int .i64 n3)] w2 fun v5 w3 => asT v5 fun t1_0 => asEnd t1_0 (ldK Try.prog w3 ⟨w.heap.size, 1, none⟩ fun v6 => asP v6 fun p2 => ldK Try.prog w3 ⟨w1.heap.size, 2, none⟩ fun v7 => asI .i64 v7 fun n4 => ldK Try.prog w3 ⟨w1.heap.size, 3, none⟩ fun v8 => asI .i64 v8 fun n5 => CallV Try.prog 42 #[(.pointer p2), (.int .i64 n4), (.int .i64 n5)] w3 fun v9 w4 => asT v9 fun t2_0 => asEnd t2_0 (R (.bool true) w4))) (ifB ((n1 : Int) == 2) (drewK w2 fun w5 => ldK Try.prog w5 ⟨w.heap.size, 0, none⟩ fun v10 => asP v10 fun p3 => ldK Try.prog w5 ⟨w1.heap.size, 2, none⟩ fun v11 => asI .i64 v11 fun n6 => ldK Try.prog w5 ⟨w.heap.size, 1, none⟩ fun v12 => asP v12 fun p4 => ldK Try.prog w5 ⟨w1.heap.size, 2, none⟩ fun v13 => asI .i64 v13 fun n7 => CallV Try.prog 16 #[(.pointer p3), (.int .i64 n6)] w5 fun v14 w6 => asB v14 fun b1 => (ldK Try.prog w6 ⟨w.heap.size, 1, none⟩ fun v15 => asP v15 fun p5 => ((.pointer p5) : Value) = (.pointer p4)) ∧ ((ldK Try.prog w6 ⟨w1.heap.size, 2, none⟩ fun v16 => asI .i64 v16 fun n8 => ((.int .i64 n8) : Value) = (.int .i64 n7)) ∧ (CallV Try.prog 43 #[(.pointer p4), (.int .i64 n7)] w6 fun v17 w7 => asB v17 fun b2 => R (.bool (b1 == b2)) w7))) (ifB ((n1 : Int) == 3) (drewK w2 fun w8 => ldK Try.prog w8 ⟨w.heap.size, 0, none⟩ fun v18 => asP v18 fun p6 => ldK Try.prog w8 ⟨w.heap.size, 1, none⟩ fun v19 => asP v19 fun p7 => CallV Try.prog 15 #[(.pointer p6)] w8 fun v20 w9 => asI .i64 v20 fun n9 => (ldK Try.prog w9 ⟨w.heap.size, 1, none⟩ fun v21 => asP v21 fun p8 => ((.pointer p8) : Value) = (.pointer p7)) ∧ (CallV Try.prog 44 #[(.pointer p7)] w9 fun v22 w10 => asI .i64 v22 fun n10 => R (.bool ((n9 : Int) == n10)) w10)) (ifB ((n1 : Int) == 4) (drewK w2 fun w11 => ldK Try.prog w11 ⟨w.heap.size, 0, none⟩ fun v23 => asP v23 fun p9 => ldK Try.prog w11 ⟨w1.heap.size, 2, none⟩ fun v24 => asI .i64 v24 fun n11 => ldK Try.prog w11 ⟨w.heap.size, 1, none⟩ fun v25 => asP v25 fun p10 => ldK Try.prog w11 ⟨w1.heap.size, 2, none⟩ fun v26 => asI .i64 v26 fun n12 => CallV Try.prog 18 #[(.pointer p9), (.int .i64 n11)] w11 fun v27 w12 => asI .i64 v27 fun n13 => (ldK Try.prog w12 ⟨w.heap.size, 1, none⟩ fun v28 => asP v28 fun p11 => ((.pointer p11) : Value) = (.pointer p10)) ∧ ((ldK Try.prog w12 ⟨w1.heap.size, 2, none⟩ fun v29 => asI .i64 v29 fun n14 => ((.int .i64 n14) : Value) = (.int .i64 n12)) ∧ (CallV Try.prog 45 #[(.pointer p10), (.int .i64 n12)] w12 fun v30 w13 => asI .i64 v30 fun n15 => R (.bool ((n13 : Int) == n15)) w13))) (ifB ((n1 : Int) == 5) (drewK w2 fun w14 => ldK Try.prog w14 ⟨w.heap.size, 0, none⟩ fun v31 => asP v31 fun p12 => ldK Try.prog w14 ⟨w1.heap.size, 2, none⟩ fun v32 => asI .i64 v32 fun n16 => ldK Try.prog w14 ⟨w.heap.size, 1, none⟩ fun v33 => asP v33 fun p13 => ldK Try.prog w14 ⟨w1.heap.size, 2, none⟩ fun v34 => asI .i64 v34 fun n17 => CallV Try.prog 21 #[(.pointer p12), (.int .i64 n16)] w14 fun v35 w15 => asI .i64 v35 fun n18 => (ldK Try.prog w15 ⟨w.heap.size, 1, none⟩ fun v36 => asP v36 fun p14 => ((.pointer p14) : Value) = (.pointer p13)) ∧ ((ldK Try.prog w15 ⟨w1.heap.size, 2, none⟩ fun v37 => asI .i64 v37 fun n19 => ((.int .i64 n19) : Value) = (.int .i64 n17)) ∧ (CallV Try.prog 46 #[(.pointer p13), (.int .i64 n17)] w15 fun v38 w16 => asI .i64 v38 fun n20 => R (.bool ((n18 : Int) == n20)) w16))) (R (.bool true) w2)))))
def A38 (R : Value → World → Prop) : Ann := (.seq .no (.seq (.seq .no (.block (.seq .no (.cond .no (.seq .no (.cond (.seq (.draw [0, 1, 2, 3, 5, 6, 7, 8, 4, 9, 10, 11]) .no) (.seq .no (.cond (.seq (.draw [0, 1, 3, 4, 2, 5, 6, 7]) .no) (.seq .no (.cond (.seq (.draw [0, 1, 2, 3, 5, 6, 7, 8, 4, 9, 10, 11]) .no) (.seq .no (.cond (.seq (.draw [0, 1, 2, 3, 5, 6, 7, 8, 4, 9, 10, 11]) .no) .no)))))))))))) .no))
theorem sides38 (R : Value → World → Prop) : fnSides Try.prog Try.f38 (A38 R) R := by
  refine And.intro ?_ ?_
  ·
    exact trivial
  ·
    refine And.intro ?_ ?_
    ·
      refine And.intro ?_ ?_
      ·
        exact trivial
      ·
        refine And.intro ?_ ?_
        ·
          exact trivial
        ·
          refine And.intro ?_ ?_
          ·
            exact trivial
          ·
            refine And.intro ?_ ?_
            ·
              exact trivial
            ·
              refine And.intro ?_ ?_
              ·
                refine And.intro ?_ ?_
                ·
                  exact trivial
                ·
                  exact trivial
              ·
                refine And.intro ?_ ?_
                ·
                  exact trivial
                ·
                  refine And.intro ?_ ?_
                  ·
                    refine And.intro ?_ ?_
                    ·
                      exact trivial
                    ·
                      exact trivial
                  ·
                    refine And.intro ?_ ?_
                    ·
                      exact trivial
                    ·
                      refine And.intro ?_ ?_
                      ·
                        refine And.intro ?_ ?_
                        ·
                          exact trivial
                        ·
                          exact trivial
                      ·
                        refine And.intro ?_ ?_
                        ·
                          exact trivial
                        ·
                          refine And.intro ?_ ?_
                          ·
                            refine And.intro ?_ ?_
                            ·
                              exact trivial
                            ·
                              exact trivial
                          ·
                            exact trivial
    ·
      exact trivial
theorem call38 (a0_0 : Option Addr) (a0_1 : Option Addr) (a1_0 : Int) (a1_1 : Bool) (a1_2 : Int) (a1_3 : Int) (w : World) (R : Value → World → Prop) (h : F38 a0_0 a0_1 a1_0 a1_1 a1_2 a1_3 w R) : CallV Try.prog 38 #[(.agg #[(.pointer a0_0), (.pointer a0_1)]), (.agg #[(.int .i64 a1_0), (.bool a1_1), (.int .i64 a1_2), (.int .i64 a1_3)])] w R :=
  callV_of (fn := Try.f38) (an := A38 R) (args := [(.agg #[(.pointer a0_0), (.pointer a0_1)]), (.agg #[(.int .i64 a1_0), (.bool a1_1), (.int .i64 a1_2), (.int .i64 a1_3)])]) Try.func38 rfl (sides38 R) (Eq.mp (by kernel_rfl) h)

/-! 39 vouch/vouchlaw3.asked -/
def J39_1 (R : Value → World → Prop) (C_L39_0 : Addr → Option Addr → Nat → Nat → Option Addr → Nat → Nat → Int → World → Prop) (x2 : Addr) (x5p : Option Addr) (x5l : Nat) (x5c : Nat) (x10p : Option Addr) (x10l : Nat) (x10c : Nat) (x11 : Int) (w : World) : Prop :=
  semK Try.prog (Instr.indexAt 29 (.slice x10p x10l x10c) (.int .i64 x11)) w fun v1 w1 => asA v1 fun ad1 => semU Try.prog (Instr.storeAt 3 (.pointer (some ad1)) (.int .i64 (-7))) w1 fun w2 => C_L39_0 x2 x5p x5l x5c x10p x10l x10c (IntKind.wrap .i64 (x11 + 1)) w2
def L39_0 (R : Value → World → Prop) : Nat → Addr → Option Addr → Nat → Nat → Option Addr → Nat → Nat → Int → World → Prop
  | 0 => fun _ _ _ _ _ _ _ _ _ => False
  | k + 1 => fun x2 x5p x5l x5c x10p x10l x10c x11 w => ifB (decide ((x11 : Int) < (x10l : Nat))) (drewK w fun w1 => ldK Try.prog w1 x2 fun v1 => asP v1 fun p1 => semK Try.prog (Instr.indexAt 29 (.slice x10p x10l x10c) (.int .i64 x11)) w1 fun v2 w2 => asA v2 fun ad1 => ldK Try.prog w1 ad1 fun v3 => asI .i64 v3 fun n1 => CallV Try.prog 17 #[(.pointer p1), (.int .i64 n1)] w1 fun v4 w3 => asT v4 fun t1_0 => asHd t1_0 fun t1_0x t1_1 => asI .i64 t1_0x fun n2 => asHd t1_1 fun t1_1x t1_2 => asB t1_1x fun b1 => asEnd t1_2 (drewK w3 fun w4 => semK Try.prog (Instr.indexAt 29 (.slice x10p x10l x10c) (.int .i64 x11)) w4 fun v5 w5 => asA v5 fun ad2 => ldK Try.prog w4 ad2 fun v6 => asI .i64 v6 fun n3 => semK Try.prog (Instr.indexAt 66 (.slice x5p x5l x5c) (.int .i64 x11)) w4 fun v7 w6 => asA v7 fun ad3 => ldK Try.prog w4 ad3 fun v8 => asI .i64 v8 fun n4 => ifB ((n3 : Int) != n4) (R (.bool false) w4) (ifB (!b1) (R (.bool false) w4) (semK Try.prog (Instr.indexAt 66 (.slice x5p x5l x5c) (.int .i64 x11)) w4 fun v9 w7 => asA v9 fun ad4 => ldK Try.prog w4 (Addr.add ad4 1) fun v10 => asI .i64 v10 fun n5 => ifB ((n2 : Int) != n5) (R (.bool false) w4) (J39_1 R (L39_0 R k) x2 x5p x5l x5c x10p x10l x10c x11 w4))))) (R (.bool true) w)
def F39 (a0_0 : Option Addr) (a0_1 : Option Addr) (a1_0 : Int) (a1_1 : Bool) (a1_2 : Int) (a1_3 : Int) (w : World) (R : Value → World → Prop) : Prop :=
  allocK w (.cells #[(.pointer a0_0), (.pointer a0_1)] 62) fun w1 => allocK w1 (.cells #[(.int .i64 a1_0), (.bool a1_1), (.int .i64 a1_2), (.int .i64 a1_3)] 27) fun w2 => ldK Try.prog w2 ⟨w.heap.size, 1, none⟩ fun v1 => asP v1 fun p1 => CallV Try.prog 47 #[(.pointer p1)] w2 fun v2 w3 => asL v2 fun l1p l1l l1c => ldK Try.prog w3 ⟨w1.heap.size, 0, none⟩ fun v3 => asI .i64 v3 fun n1 => ifB ((n1 : Int) == 6) (ldK Try.prog w3 ⟨w.heap.size, 0, none⟩ fun v4 => asP v4 fun p2 => ldK Try.prog w3 ⟨w1.heap.size, 2, none⟩ fun v5 => asI .i64 v5 fun n2 => CallV Try.prog 17 #[(.pointer p2), (.int .i64 n2)] w3 fun v6 w4 => asT v6 fun t1_0 => asHd t1_0 fun t1_0x t1_1 => asI .i64 t1_0x fun n3 => asHd t1_1 fun t1_1x t1_2 => asB t1_1x fun b1 => asEnd t1_2 (ldK Try.prog w4 ⟨w.heap.size, 1, none⟩ fun v7 => asP v7 fun p3 => ldK Try.prog w4 ⟨w1.heap.size, 2, none⟩ fun v8 => asI .i64 v8 fun n4 => CallV Try.prog 48 #[(.pointer p3), (.int .i64 n4)] w4 fun v9 w5 => asT v9 fun t2_0 => asHd t2_0 fun t2_0x t2_1 => asI .i64 t2_0x fun n5 => asHd t2_1 fun t2_1x t2_2 => asB t2_1x fun b2 => asEnd t2_2 (ifB ((n3 : Int) == n5) (R (.bool (b1 == b2)) w5) (R (.bool false) w5)))) (ifB ((n1 : Int) == 8) (drewK w3 fun w6 => ldK Try.prog w6 ⟨w.heap.size, 0, none⟩ fun v10 => asP v10 fun p4 => CallV Try.prog 22 #[(.pointer p4)] w6 fun v11 w7 => asI .i64 v11 fun n6 => (((.int .i64 (l1l : Nat)) : Value) = (.int .i64 (l1l : Nat))) ∧ (ifB ((n6 : Int) == (l1l : Nat)) (ldK Try.prog w7 ⟨w.heap.size, 0, none⟩ fun v12 => asP v12 fun p5 => ldK Try.prog w7 ⟨w.heap.size, 1, none⟩ fun v13 => asP v13 fun p6 => CallV Try.prog 14 #[(.pointer p5)] w7 fun v14 w8 => asI .i64 v14 fun n7 => (ldK Try.prog w8 ⟨w.heap.size, 1, none⟩ fun v15 => asP v15 fun p7 => ((.pointer p7) : Value) = (.pointer p6)) ∧ (CallV Try.prog 49 #[(.pointer p6)] w8 fun v16 w9 => asI .i64 v16 fun n8 => R (.bool ((n7 : Int) == n8)) w9)) (R (.bool false) w7))) (ifB ((n1 : Int) == 7) (ldK Try.prog w3 ⟨w.heap.size, 0, none⟩ fun v17 => asP v17 fun p8 => CallV Try.prog 23 #[(.pointer p8), (.func (.func 27) #[] #[])] w3 fun v18 w10 => asL v18 fun l2p l2l l2c => ifB (((l2l : Nat) : Int) != (l1l : Nat)) (R (.bool false) w10) (∃ m, L39_0 R m ⟨w.heap.size, 0, none⟩ l1p l1l l1c l2p l2l l2c 0 w10)) (R (.bool true) w3)))
def A39 (R : Value → World → Prop) : Ann := (.seq .no (.seq .no (.seq (.seq .no (.block (.seq .no (.cond .no (.seq .no (.cond (.seq (.draw [0, 1, 3, 4, 2, 5, 6, 7, 8, 10, 11, 9, 12, 13, 14, 15]) .no) (.seq .no (.cond (.seq .no (.seq .no (.seq .no (.block (.loop (fun m e ds w => nilD ds (asA (e 2) fun x2 => asL (e 5) fun x5p x5l x5c => asL (e 10) fun x10p x10l x10c => asI .i64 (e 11) fun x11 => L39_0 R m x2 x5p x5l x5c x10p x10l x10c x11 w)) (fun kL39_0 => (.seq .no (.seq (.block (.seq (.draw [0, 1, 2, 3, 4, 5, 6, 7, 8, 9, 10, 11]) (.join (fun e ds w => nilD ds (asA (e 2) fun x2 => asL (e 5) fun x5p x5l x5c => asL (e 10) fun x10p x10l x10c => asI .i64 (e 11) fun x11 => J39_1 R (L39_0 R kL39_0) x2 x5p x5l x5c x10p x10l x10c x11 w)) (.seq (.draw [0, 1, 2, 3, 4, 5, 6, 7, 8, 9, 10, 11, 12, 13, 14, 15, 16, 17, 18, 19, 20, 21, 22]) .no) .no))) .no)))))))) .no)))))))) .no)))
theorem sides39 (R : Value → World → Prop) : fnSides Try.prog Try.f39 (A39 R) R := by
  refine And.intro ?_ ?_
  ·
    exact trivial
  ·
    refine And.intro ?_ ?_
    ·
      exact trivial
    ·
      refine And.intro ?_ ?_
      ·
        refine And.intro ?_ ?_
        ·
          exact trivial
        ·
          refine And.intro ?_ ?_
          ·
            exact trivial
          ·
            refine And.intro ?_ ?_
            ·
              exact trivial
            ·
              refine And.intro ?_ ?_
              ·
                exact trivial
              ·
                refine And.intro ?_ ?_
                ·
                  refine And.intro ?_ ?_
                  ·
                    exact trivial
                  ·
                    exact trivial
                ·
                  refine And.intro ?_ ?_
                  ·
                    exact trivial
                  ·
                    refine And.intro ?_ ?_
                    ·
                      refine And.intro ?_ ?_
                      ·
                        exact trivial
                      ·
                        refine And.intro ?_ ?_
                        ·
                          exact trivial
                        ·
                          refine And.intro ?_ ?_
                          ·
                            exact trivial
                          ·
                            refine And.intro ?_ (And.intro ?_ ?_)
                            ·
                              intro e ds w h
                              have hn := nilD_elim h
                              clear h
                              obtain ⟨rfl, h⟩ := hn
                              obtain ⟨x2, z2, h⟩ := asA_elim h
                              obtain ⟨x5p, x5l, x5c, z5, h⟩ := asL_elim h
                              obtain ⟨x10p, x10l, x10c, z10, h⟩ := asL_elim h
                              obtain ⟨x11, z11, h⟩ := asI_elim h
                              exact h
                            ·
                              intro kL39_0 e ds w h
                              have hn := nilD_elim h
                              clear h
                              obtain ⟨rfl, h⟩ := hn
                              obtain ⟨x2, z2, h⟩ := asA_elim h
                              obtain ⟨x5p, x5l, x5c, z5, h⟩ := asL_elim h
                              obtain ⟨x10p, x10l, x10c, z10, h⟩ := asL_elim h
                              obtain ⟨x11, z11, h⟩ := asI_elim h
                              have he : (put (put (put (put e (some 2) (.pointer (some x2))) (some 5) (.slice x5p x5l x5c)) (some 10) (.slice x10p x10l x10c)) (some 11) (.int .i64 x11)) = e := by rw [put_id z2, put_id z5, put_id z10, put_id z11]
                              rw [← he]
                              clear he
                              exact Eq.mp (by kernel_rfl) h
                            ·
                              intro kL39_0
                              refine And.intro ?_ ?_
                              ·
                                exact trivial
                              ·
                                refine And.intro ?_ ?_
                                ·
                                  refine And.intro ?_ ?_
                                  ·
                                    exact trivial
                                  ·
                                    refine And.intro ?_ (And.intro ?_ ?_)
                                    ·
                                      intro e ds w h
                                      have hn := nilD_elim h
                                      clear h
                                      obtain ⟨rfl, h⟩ := hn
                                      obtain ⟨x2, z2, h⟩ := asA_elim h
                                      obtain ⟨x5p, x5l, x5c, z5, h⟩ := asL_elim h
                                      obtain ⟨x10p, x10l, x10c, z10, h⟩ := asL_elim h
                                      obtain ⟨x11, z11, h⟩ := asI_elim h
                                      have he : (put (put (put (put e (some 2) (.pointer (some x2))) (some 5) (.slice x5p x5l x5c)) (some 10) (.slice x10p x10l x10c)) (some 11) (.int .i64 x11)) = e := by rw [put_id z2, put_id z5, put_id z10, put_id z11]
                                      rw [← he]
                                      clear he
                                      exact Eq.mp (by kernel_rfl) h
                                    ·
                                      refine And.intro ?_ ?_
                                      ·
                                        exact trivial
                                      ·
                                        exact trivial
                                    ·
                                      exact trivial
                                ·
                                  exact trivial
                    ·
                      exact trivial
      ·
        exact trivial
theorem call39 (a0_0 : Option Addr) (a0_1 : Option Addr) (a1_0 : Int) (a1_1 : Bool) (a1_2 : Int) (a1_3 : Int) (w : World) (R : Value → World → Prop) (h : F39 a0_0 a0_1 a1_0 a1_1 a1_2 a1_3 w R) : CallV Try.prog 39 #[(.agg #[(.pointer a0_0), (.pointer a0_1)]), (.agg #[(.int .i64 a1_0), (.bool a1_1), (.int .i64 a1_2), (.int .i64 a1_3)])] w R :=
  callV_of (fn := Try.f39) (an := A39 R) (args := [(.agg #[(.pointer a0_0), (.pointer a0_1)]), (.agg #[(.int .i64 a1_0), (.bool a1_1), (.int .i64 a1_2), (.int .i64 a1_3)])]) Try.func39 rfl (sides39 R) (Eq.mp (by kernel_rfl) h)

/-! 37 vouch/vouchref3.New -/
def F37 (w : World) (R : Value → World → Prop) : Prop :=
  allocK w (.cells #[(.slice none 0 0), (.slice none 0 0)] 69) fun w1 => R (.pointer (some ⟨w.heap.size, 0, none⟩)) w1
def A37 (R : Value → World → Prop) : Ann := .no
theorem sides37 (R : Value → World → Prop) : fnSides Try.prog Try.f37 (A37 R) R := by
  trivial
theorem call37 (w : World) (R : Value → World → Prop) (h : F37 w R) : CallV Try.prog 37 #[] w R :=
  callV_of (fn := Try.f37) (an := A37 R) (args := []) Try.func37 rfl (sides37 R) (Eq.mp (by kernel_rfl) h)

/-! 42 (*vouch/vouchref3.Table).Set -/
def J42_0 (R : Value → World → Prop) (x0 : Option Addr) (x6 : Int) (x7p : Option Addr) (x7l : Nat) (x7c : Nat) (w : World) : Prop :=
  optP x0 fun ad1 => ldK Try.prog w ad1 fun v1 => asL v1 fun l1p l1l l1c => semK Try.prog (Instr.sliceAt 66 (.slice l1p l1l l1c) (some (.int .i64 x6)) none none) w fun v2 w1 => asL v2 fun l2p l2l l2c => semK Try.prog (Builtin.append_ #[66, 66] 66 #[(.slice x7p x7l x7c), (.slice l2p l2l l2c)]) w1 fun v3 w2 => asL v3 fun l3p l3l l3c => optP x0 fun ad2 => semU Try.prog (Instr.storeAt 66 (.pointer (some ad2)) (.slice l3p l3l l3c)) w2 fun w3 => R (.tuple #[]) w3
def F42 (a0 : Option Addr) (a1 : Int) (a2 : Int) (w : World) (R : Value → World → Prop) : Prop :=
  optP a0 fun ad1 => ldK Try.prog w ad1 fun v1 => asL v1 fun l1p l1l l1c => CallV Try.prog 60 #[(.slice l1p l1l l1c), (.int .i64 a1)] w fun v2 w1 => asI .i64 v2 fun n1 => optP a0 fun ad2 => ldK Try.prog w1 ad2 fun v3 => asL v3 fun l2p l2l l2c => semK Try.prog (Instr.sliceAt 66 (.slice l2p l2l l2c) none (some (.int .i64 n1)) none) w1 fun v4 w2 => asL v4 fun l3p l3l l3c => semK Try.prog (Builtin.append_ #[66, 66] 66 #[(.slice none 0 0), (.slice l3p l3l l3c)]) w2 fun v5 w3 => asL v5 fun l4p l4l l4c => allocK w3 (.cells #[(.int .i64 a1), (.int .i64 a2)] 77) fun w4 => semK Try.prog (Builtin.append_ #[66, 66] 66 #[(.slice l4p l4l l4c), (.slice (some ⟨w3.heap.size, 0, none⟩) 1 1)]) w4 fun v6 w5 => asL v6 fun l5p l5l l5c => optP a0 fun ad3 => ldK Try.prog w5 ad3 fun v7 => asL v7 fun l6p l6l l6c => ifB (decide ((n1 : Int) < (l6l : Nat))) (optP a0 fun ad4 => ldK Try.prog w5 ad4 fun v8 => asL v8 fun l7p l7l l7c => semK Try.prog (Instr.indexAt 66 (.slice l7p l7l l7c) (.int .i64 n1)) w5 fun v9 w6 => asA v9 fun ad5 => ldK Try.prog w6 ad5 fun v10 => asI .i64 v10 fun n2 => ifB ((n2 : Int) == a1) (J42_0 R a0 (IntKind.wrap .i64 (n1 + 1)) l5p l5l l5c w6) (J42_0 R a0 n1 l5p l5l l5c w6)) (J42_0 R a0 n1 l5p l5l l5c w5)
def A42 (R : Value → World → Prop) : Ann := (.seq .no (.seq .no (.seq .no (.seq .no (.join (fun e ds w => nilD ds (asP (e 0) fun x0 => asI .i64 (e 6) fun x6 => asL (e 7) fun x7p x7l x7c => J42_0 R x0 x6 x7p x7l x7c w)) .no .no)))))
theorem sides42 (R : Value → World → Prop) : fnSides Try.prog Try.f42 (A42 R) R := by
  refine And.intro ?_ ?_
  ·
    exact trivial
  ·
    refine And.intro ?_ ?_
    ·
      exact trivial
    ·
      refine And.intro ?_ ?_
      ·
        exact trivial
      ·
        refine And.intro ?_ ?_
        ·
          exact trivial
        ·
          refine And.intro ?_ (And.intro ?_ ?_)
          ·
            intro e ds w h
            have hn := nilD_elim h
            clear h
            obtain ⟨rfl, h⟩ := hn
            obtain ⟨x0, z0, h⟩ := asP_elim h
            obtain ⟨x6, z6, h⟩ := asI_elim h
            obtain ⟨x7p, x7l, x7c, z7, h⟩ := asL_elim h
            have he : (put (put (put e (some 0) (.pointer x0)) (some 6) (.int .i64 x6)) (some 7) (.slice x7p x7l x7c)) = e := by rw [put_id z0, put_id z6, put_id z7]
            rw [← he]
            clear he
            exact Eq.mp (by kernel_rfl) h
          ·
            exact trivial
          ·
            exact trivial
theorem call42 (a0 : Option Addr) (a1 : Int) (a2 : Int) (w : World) (R : Value → World → Prop) (h : F42 a0 a1 a2 w R) : CallV Try.prog 42 #[(.pointer a0), (.int .i64 a1), (.int .i64 a2)] w R :=
  callV_of (fn := Try.f42) (an := A42 R) (args := [(.pointer a0), (.int .i64 a1), (.int .i64 a2)]) Try.func42 rfl (sides42 R) (Eq.mp (by kernel_rfl) h)

/-! 43 (*vouch/vouchref3.Table).Delete -/
def J43_0 (R : Value → World → Prop) (x0 : Option Addr) (x5 : Int) (w : World) : Prop :=
  optP x0 fun ad1 => ldK Try.prog w ad1 fun v1 => asL v1 fun l1p l1l l1c => semK Try.prog (Instr.sliceAt 66 (.slice l1p l1l l1c) none (some (.int .i64 x5)) none) w fun v2 w1 => asL v2 fun l2p l2l l2c => semK Try.prog (Builtin.append_ #[66, 66] 66 #[(.slice none 0 0), (.slice l2p l2l l2c)]) w1 fun v3 w2 => asL v3 fun l3p l3l l3c => optP x0 fun ad2 => ldK Try.prog w2 ad2 fun v4 => asL v4 fun l4p l4l l4c => semK Try.prog (Instr.sliceAt 66 (.slice l4p l4l l4c) (some (.int .i64 (IntKind.wrap .i64 (x5 + 1)))) none none) w2 fun v5 w3 => asL v5 fun l5p l5l l5c => semK Try.prog (Builtin.append_ #[66, 66] 66 #[(.slice l3p l3l l3c), (.slice l5p l5l l5c)]) w3 fun v6 w4 => asL v6 fun l6p l6l l6c => optP x0 fun ad3 => semU Try.prog (Instr.storeAt 66 (.pointer (some ad3)) (.slice l6p l6l l6c)) w4 fun w5 => R (.bool true) w5
def F43 (a0 : Option Addr) (a1 : Int) (w : World) (R : Value → World → Prop) : Prop :=
  optP a0 fun ad1 => ldK Try.prog w ad1 fun v1 => asL v1 fun l1p l1l l1c => CallV Try.prog 60 #[(.slice l1p l1l l1c), (.int .i64 a1)] w fun v2 w1 => asI .i64 v2 fun n1 => optP a0 fun ad2 => ldK Try.prog w1 ad2 fun v3 => asL v3 fun l2p l2l l2c => ifB ((n1 : Int) == (l2l : Nat)) (R (.bool false) w1) (optP a0 fun ad3 => ldK Try.prog w1 ad3 fun v4 => asL v4 fun l3p l3l l3c => semK Try.prog (Instr.indexAt 66 (.slice l3p l3l l3c) (.int .i64 n1)) w1 fun v5 w2 => asA v5 fun ad4 => ldK Try.prog w2 ad4 fun v6 => asI .i64 v6 fun n2 => ifB ((n2 : Int) != a1) (R (.bool false) w2) (J43_0 R a0 n1 w2))
def A43 (R : Value → World → Prop) : Ann := (.seq .no (.seq .no (.join (fun e ds w => nilD ds (asP (e 0) fun x0 => asI .i64 (e 5) fun x5 => J43_0 R x0 x5 w)) .no .no)))
theorem sides43 (R : Value → World → Prop) : fnSides Try.prog Try.f43 (A43 R) R := by
  refine And.intro ?_ ?_
  ·
    exact trivial
  ·
    refine And.intro ?_ ?_
    ·
      exact trivial
    ·
      refine And.intro ?_ (And.intro ?_ ?_)
      ·
        intro e ds w h
        have hn := nilD_elim h
        clear h
        obtain ⟨rfl, h⟩ := hn
        obtain ⟨x0, z0, h⟩ := asP_elim h
        obtain ⟨x5, z5, h⟩ := asI_elim h
        have he : (put (put e (some 0) (.pointer x0)) (some 5) (.int .i64 x5)) = e := by rw [put_id z0, put_id z5]
        rw [← he]
        clear he
        exact Eq.mp (by kernel_rfl) h
      ·
        exact trivial
      ·
        exact trivial
theorem call43 (a0 : Option Addr) (a1 : Int) (w : World) (R : Value → World → Prop) (h : F43 a0 a1 w R) : CallV Try.prog 43 #[(.pointer a0), (.int .i64 a1)] w R :=
  callV_of (fn := Try.f43) (an := A43 R) (args := [(.pointer a0), (.int .i64 a1)]) Try.func43 rfl (sides43 R) (Eq.mp (by kernel_rfl) h)

/-! 44 (*vouch/vouchref3.Table).Mark -/
def F44 (a0 : Option Addr) (w : World) (R : Value → World → Prop) : Prop :=
  drewK w fun w1 => optP a0 fun ad1 => ldK Try.prog w1 (Addr.add ad1 1) fun v1 => asL v1 fun l1p l1l l1c => optP a0 fun ad2 => ldK Try.prog w1 ad2 fun v2 => asL v2 fun l2p l2l l2c => CallV Try.prog 61 #[(.slice l2p l2l l2c)] w1 fun v3 w2 => asL v3 fun l3p l3l l3c => (ldK Try.prog w2 (Addr.add ad1 1) fun v4 => asL v4 fun l4p l4l l4c => ((.slice l4p l4l l4c) : Value) = (.slice l1p l1l l1c)) ∧ (allocK w2 (.cells #[(.slice l3p l3l l3c)] 66) fun w3 => (ldK Try.prog w3 (Addr.add ad1 1) fun v5 => asL v5 fun l5p l5l l5c => ((.slice l5p l5l l5c) : Value) = (.slice l1p l1l l1c)) ∧ (semK Try.prog (Builtin.append_ #[67, 67] 67 #[(.slice l1p l1l l1c), (.slice (some ⟨w2.heap.size, 0, none⟩) 1 1)]) w3 fun v6 w4 => asL v6 fun l6p l6l l6c => optP a0 fun ad3 => semU Try.prog (Instr.storeAt 67 (.pointer (some (Addr.add ad3 1))) (.slice l6p l6l l6c)) w4 fun w5 => optP a0 fun ad4 => ldK Try.prog w5 (Addr.add ad4 1) fun v7 => asL v7 fun l7p l7l l7c => R (.int .i64 (IntKind.wrap .i64 ((l7l : Nat) - 1))) w5))
def A44 (R : Value → World → Prop) : Ann := (.seq .no (.seq (.draw [0, 1, 2, 3, 4, 5, 6, 7, 8, 9, 10, 11, 12, 13, 14]) .no))
theorem sides44 (R : Value → World → Prop) : fnSides Try.prog Try.f44 (A44 R) R := by
  refine And.intro ?_ ?_
  ·
    exact trivial
  ·
    refine And.intro ?_ ?_
    ·
      exact trivial
    ·
      exact trivial
theorem call44 (a0 : Option Addr) (w : World) (R : Value → World → Prop) (h : F44 a0 w R) : CallV Try.prog 44 #[(.pointer a0)] w R :=
  callV_of (fn := Try.f44) (an := A44 R) (args := [(.pointer a0)]) Try.func44 rfl (sides44 R) (Eq.mp (by kernel_rfl) h)

/-! 45 (*vouch/vouchref3.Table).Back -/
def J45_0 (R : Value → World → Prop) (x0 : Option Addr) (x1 : Int) (w : World) : Prop :=
  optP x0 fun ad1 => ldK Try.prog w (Addr.add ad1 1) fun v1 => asL v1 fun l1p l1l l1c => semK Try.prog (Instr.indexAt 67 (.slice l1p l1l l1c) (.int .i64 x1)) w fun v2 w1 => asA v2 fun ad2 => ldK Try.prog w1 ad2 fun v3 => asL v3 fun l2p l2l l2c => optP x0 fun ad3 => semU Try.prog (Instr.storeAt 66 (.pointer (some ad3)) (.slice l2p l2l l2c)) w1 fun w2 => optP x0 fun ad4 => ldK Try.prog w2 (Addr.add ad4 1) fun v4 => asL v4 fun l3p l3l l3c => semK Try.prog (Instr.sliceAt 67 (.slice l3p l3l l3c) none (some (.int .i64 x1)) none) w2 fun v5 w3 => asL v5 fun l4p l4l l4c => optP x0 fun ad5 => semU Try.prog (Instr.storeAt 67 (.pointer (some (Addr.add ad5 1))) (.slice l4p l4l l4c)) w3 fun w4 => R (.int .i64 0) w4
def F45 (a0 : Option Addr) (a1 : Int) (w : World) (R : Value → World → Prop) : Prop :=
  ifB (decide ((a1 : Int) < 0)) (R (.int .i64 30) w) (optP a0 fun ad1 => ldK Try.prog w (Addr.add ad1 1) fun v1 => asL v1 fun l1p l1l l1c => ifB (decide ((a1 : Int) ≥ (l1l : Nat))) (R (.int .i64 30) w) (J45_0 R a0 a1 w))
def A45 (R : Value → World → Prop) : Ann := (.seq .no (.join (fun e ds w => nilD ds (asP (e 0) fun x0 => asI .i64 (e 1) fun x1 => J45_0 R x0 x1 w)) .no .no))
theorem sides45 (R : Value → World → Prop) : fnSides Try.prog Try.f45 (A45 R) R := by
  refine And.intro ?_ ?_
  ·
    exact trivial
  ·
    refine And.intro ?_ (And.intro ?_ ?_)
    ·
      intro e ds w h
      have hn := nilD_elim h
      clear h
      obtain ⟨rfl, h⟩ := hn
      obtain ⟨x0, z0, h⟩ := asP_elim h
      obtain ⟨x1, z1, h⟩ := asI_elim h
      have he : (put (put e (some 0) (.pointer x0)) (some 1) (.int .i64 x1)) = e := by rw [put_id z0, put_id z1]
      rw [← he]
      clear he
      exact Eq.mp (by kernel_rfl) h
    ·
      exact trivial
    ·
      exact trivial
theorem call45 (a0 : Option Addr) (a1 : Int) (w : World) (R : Value → World → Prop) (h : F45 a0 a1 w R) : CallV Try.prog 45 #[(.pointer a0), (.int .i64 a1)] w R :=
  callV_of (fn := Try.f45) (an := A45 R) (args := [(.pointer a0), (.int .i64 a1)]) Try.func45 rfl (sides45 R) (Eq.mp (by kernel_rfl) h)

/-! 46 (*vouch/vouchref3.Table).Forget -/
def J46_0 (R : Value → World → Prop) (x0 : Option Addr) (x1 : Int) (w : World) : Prop :=
  optP x0 fun ad1 => ldK Try.prog w (Addr.add ad1 1) fun v1 => asL v1 fun l1p l1l l1c => semK Try.prog (Instr.sliceAt 67 (.slice l1p l1l l1c) none (some (.int .i64 x1)) none) w fun v2 w1 => asL v2 fun l2p l2l l2c => optP x0 fun ad2 => semU Try.prog (Instr.storeAt 67 (.pointer (some (Addr.add ad2 1))) (.slice l2p l2l l2c)) w1 fun w2 => R (.int .i64 0) w2
def F46 (a0 : Option Addr) (a1 : Int) (w : World) (R : Value → World → Prop) : Prop :=
  ifB (decide ((a1 : Int) < 0)) (R (.int .i64 30) w) (optP a0 fun ad1 => ldK Try.prog w (Addr.add ad1 1) fun v1 => asL v1 fun l1p l1l l1c => ifB (decide ((a1 : Int) ≥ (l1l : Nat))) (R (.int .i64 30) w) (J46_0 R a0 a1 w))
def A46 (R : Value → World → Prop) : Ann := (.seq .no (.join (fun e ds w => nilD ds (asP (e 0) fun x0 => asI .i64 (e 1) fun x1 => J46_0 R x0 x1 w)) .no .no))
theorem sides46 (R : Value → World → Prop) : fnSides Try.prog Try.f46 (A46 R) R := by
  refine And.intro ?_ ?_
  ·
    exact trivial
  ·
    refine And.intro ?_ (And.intro ?_ ?_)
    ·
      intro e ds w h
      have hn := nilD_elim h
      clear h
      obtain ⟨rfl, h⟩ := hn
      obtain ⟨x0, z0, h⟩ := asP_elim h
      obtain ⟨x1, z1, h⟩ := asI_elim h
      have he : (put (put e (some 0) (.pointer x0)) (some 1) (.int .i64 x1)) = e := by rw [put_id z0, put_id z1]
      rw [← he]
      clear he
      exact Eq.mp (by kernel_rfl) h
    ·
      exact trivial
    ·
      exact trivial
theorem call46 (a0 : Option Addr) (a1 : Int) (w : World) (R : Value → World → Prop) (h : F46 a0 a1 w R) : CallV Try.prog 46 #[(.pointer a0), (.int .i64 a1)] w R :=
  callV_of (fn := Try.f46) (an := A46 R) (args := [(.pointer a0), (.int .i64 a1)]) Try.func46 rfl (sides46 R) (Eq.mp (by kernel_rfl) h)

/-! 47 (*vouch/vouchref3.Table).Pairs -/
def F47 (a0 : Option Addr) (w : World) (R : Value → World → Prop) : Prop :=
  optP a0 fun ad1 => ldK Try.prog w ad1 fun v1 => asL v1 fun l1p l1l l1c => CallV Try.prog 61 #[(.slice l1p l1l l1c)] w fun v2 w1 => asL v2 fun l2p l2l l2c => R (.slice l2p l2l l2c) w1
def A47 (R : Value → World → Prop) : Ann := .no
theorem sides47 (R : Value → World → Prop) : fnSides Try.prog Try.f47 (A47 R) R := by
  trivial
theorem call47 (a0 : Option Addr) (w : World) (R : Value → World → Prop) (h : F47 a0 w R) : CallV Try.prog 47 #[(.pointer a0)] w R :=
  callV_of (fn := Try.f47) (an := A47 R) (args := [(.pointer a0)]) Try.func47 rfl (sides47 R) (Eq.mp (by kernel_rfl) h)

/-! 48 (*vouch/vouchref3.Table).Get -/
def J48_0 (R : Value → World → Prop) (x0 : Option Addr) (x6 : Int) (w : World) : Prop :=
  optP x0 fun ad1 => ldK Try.prog w ad1 fun v1 => asL v1 fun l1p l1l l1c => semK Try.prog (Instr.indexAt 66 (.slice l1p l1l l1c) (.int .i64 x6)) w fun v2 w1 => asA v2 fun ad2 => ldK Try.prog w1 (Addr.add ad2 1) fun v3 => asI .i64 v3 fun n1 => R (.tuple #[(.int .i64 n1), (.bool true)]) w1
def F48 (a0 : Option Addr) (a1 : Int) (w : World) (R : Value → World → Prop) : Prop :=
  optP a0 fun ad1 => ldK Try.prog w ad1 fun v1 => asL v1 fun l1p l1l l1c => CallV Try.prog 60 #[(.slice l1p l1l l1c), (.int .i64 a1)] w fun v2 w1 => asI .i64 v2 fun n1 => optP a0 fun ad2 => ldK Try.prog w1 ad2 fun v3 => asL v3 fun l2p l2l l2c => ifB ((n1 : Int) == (l2l : Nat)) (R (.tuple #[(.int .i64 0), (.bool false)]) w1) (optP a0 fun ad3 => ldK Try.prog w1 ad3 fun v4 => asL v4 fun l3p l3l l3c => semK Try.prog (Instr.indexAt 66 (.slice l3p l3l l3c) (.int .i64 n1)) w1 fun v5 w2 => asA v5 fun ad4 => ldK Try.prog w2 ad4 fun v6 => asI .i64 v6 fun n2 => ifB ((n2 : Int) != a1) (R (.tuple #[(.int .i64 0), (.bool false)]) w2) (J48_0 R a0 n1 w2))
def A48 (R : Value → World → Prop) : Ann := (.seq .no (.seq .no (.join (fun e ds w => nilD ds (asP (e 0) fun x0 => asI .i64 (e 6) fun x6 => J48_0 R x0 x6 w)) .no .no)))
theorem sides48 (R : Value → World → Prop) : fnSides Try.prog Try.f48 (A48 R) R := by
  refine And.intro ?_ ?_
  ·
    exact trivial
  ·
    refine And.intro ?_ ?_
    ·
      exact trivial
    ·
      refine And.intro ?_ (And.intro ?_ ?_)
      ·
        intro e ds w h
        have hn := nilD_elim h
        clear h
        obtain ⟨rfl, h⟩ := hn
        obtain ⟨x0, z0, h⟩ := asP_elim h
        obtain ⟨x6, z6, h⟩ := asI_elim h
        have he : (put (put e (some 0) (.pointer x0)) (some 6) (.int .i64 x6)) = e := by rw [put_id z0, put_id z6]
        rw [← he]
        clear he
        exact Eq.mp (by kernel_rfl) h
      ·
        exact trivial
      ·
        exact trivial
theorem call48 (a0 : Option Addr) (a1 : Int) (w : World) (R : Value → World → Prop) (h : F48 a0 a1 w R) : CallV Try.prog 48 #[(.pointer a0), (.int .i64 a1)] w R :=
  callV_of (fn := Try.f48) (an := A48 R) (args := [(.pointer a0), (.int .i64 a1)]) Try.func48 rfl (sides48 R) (Eq.mp (by kernel_rfl) h)

/-! 49 (*vouch/vouchref3.Table).Marks -/
def F49 (a0 : Option Addr) (w : World) (R : Value → World → Prop) : Prop :=
  optP a0 fun ad1 => ldK Try.prog w (Addr.add ad1 1) fun v1 => asL v1 fun l1p l1l l1c => R (.int .i64 (l1l : Nat)) w
def A49 (R : Value → World → Prop) : Ann := .no
theorem sides49 (R : Value → World → Prop) : fnSides Try.prog Try.f49 (A49 R) R := by
  trivial
theorem call49 (a0 : Option Addr) (w : World) (R : Value → World → Prop) (h : F49 a0 w R) : CallV Try.prog 49 #[(.pointer a0)] w R :=
  callV_of (fn := Try.f49) (an := A49 R) (args := [(.pointer a0)]) Try.func49 rfl (sides49 R) (Eq.mp (by kernel_rfl) h)

/-! 60 vouch/vouchref3.place -/
def L60_0 (R : Value → World → Prop) : Nat → Option Addr → Nat → Nat → Int → Int → World → Prop
  | 0 => fun _ _ _ _ _ _ => False
  | k + 1 => fun x0p x0l x0c x1 x5 w => ifB (decide ((x5 : Int) < (x0l : Nat))) (semK Try.prog (Instr.indexAt 66 (.slice x0p x0l x0c) (.int .i64 x5)) w fun v1 w1 => asA v1 fun ad1 => ldK Try.prog w1 ad1 fun v2 => asI .i64 v2 fun n1 => ifB (decide ((n1 : Int) < x1)) (L60_0 R k x0p x0l x0c x1 (IntKind.wrap .i64 (x5 + 1)) w1) (R (.int .i64 x5) w1)) (R (.int .i64 x5) w)
def F60 (a0p : Option Addr) (a0l : Nat) (a0c : Nat) (a1 : Int) (w : World) (R : Value → World → Prop) : Prop :=
  ∃ m, L60_0 R m a0p a0l a0c a1 0 w
def A60 (R : Value → World → Prop) : Ann := (.seq .no (.seq .no (.seq (.block (.loop (fun m e ds w => nilD ds (asL (e 0) fun x0p x0l x0c => asI .i64 (e 1) fun x1 => asI .i64 (e 5) fun x5 => L60_0 R m x0p x0l x0c x1 x5 w)) (fun kL60_0 => .no))) .no)))
theorem sides60 (R : Value → World → Prop) : fnSides Try.prog Try.f60 (A60 R) R := by
  refine And.intro ?_ ?_
  ·
    exact trivial
  ·
    refine And.intro ?_ ?_
    ·
      exact trivial
    ·
      refine And.intro ?_ ?_
      ·
        refine And.intro ?_ (And.intro ?_ ?_)
        ·
          intro e ds w h
          have hn := nilD_elim h
          clear h
          obtain ⟨rfl, h⟩ := hn
          obtain ⟨x0p, x0l, x0c, z0, h⟩ := asL_elim h
          obtain ⟨x1, z1, h⟩ := asI_elim h
          obtain ⟨x5, z5, h⟩ := asI_elim h
          exact h
        ·
          intro kL60_0 e ds w h
          have hn := nilD_elim h
          clear h
          obtain ⟨rfl, h⟩ := hn
          obtain ⟨x0p, x0l, x0c, z0, h⟩ := asL_elim h
          obtain ⟨x1, z1, h⟩ := asI_elim h
          obtain ⟨x5, z5, h⟩ := asI_elim h
          have he : (put (put (put e (some 0) (.slice x0p x0l x0c)) (some 1) (.int .i64 x1)) (some 5) (.int .i64 x5)) = e := by rw [put_id z0, put_id z1, put_id z5]
          rw [← he]
          clear he
          exact Eq.mp (by kernel_rfl) h
        ·
          intro kL60_0
          exact trivial
      ·
        exact trivial
theorem call60 (a0p : Option Addr) (a0l : Nat) (a0c : Nat) (a1 : Int) (w : World) (R : Value → World → Prop) (h : F60 a0p a0l a0c a1 w R) : CallV Try.prog 60 #[(.slice a0p a0l a0c), (.int .i64 a1)] w R :=
  callV_of (fn := Try.f60) (an := A60 R) (args := [(.slice a0p a0l a0c), (.int .i64 a1)]) Try.func60 rfl (sides60 R) (Eq.mp (by kernel_rfl) h)

/-! 61 vouch/vouchref3.Copied -/
def F61 (a0p : Option Addr) (a0l : Nat) (a0c : Nat) (w : World) (R : Value → World → Prop) : Prop :=
  semK Try.prog (Builtin.append_ #[66, 66] 66 #[(.slice none 0 0), (.slice a0p a0l a0c)]) w fun v1 w1 => asL v1 fun l1p l1l l1c => R (.slice l1p l1l l1c) w1
def A61 (R : Value → World → Prop) : Ann := .no
theorem sides61 (R : Value → World → Prop) : fnSides Try.prog Try.f61 (A61 R) R := by
  trivial
theorem call61 (a0p : Option Addr) (a0l : Nat) (a0c : Nat) (w : World) (R : Value → World → Prop) (h : F61 a0p a0l a0c w R) : CallV Try.prog 61 #[(.slice a0p a0l a0c)] w R :=
  callV_of (fn := Try.f61) (an := A61 R) (args := [(.slice a0p a0l a0c)]) Try.func61 rfl (sides61 R) (Eq.mp (by kernel_rfl) h)

/-! 29 (*vouch/undo.Table[int, int]).All -/
def J29_0 (R : Value → World → Prop) (x5 : Addr) (x6 : Addr) (w : World) : Prop :=
  R (.func (.func 34) #[] #[(.pointer (some x5)), (.pointer (some x6))]) w
def L29_1 (R : Value → World → Prop) : Nat → Option Addr → Addr → Addr → Option Addr → Nat → Nat → Int → Int → World → Prop
  | 0 => fun _ _ _ _ _ _ _ _ _ => False
  | k + 1 => fun x0 x5 x6 x15p x15l x15c x16 x17 w => ifB (decide ((x17 : Int) < x16)) (semK Try.prog (Instr.indexAt 29 (.slice x15p x15l x15c) (.int .i64 x17)) w fun v1 w1 => asA v1 fun ad1 => ldK Try.prog w1 ad1 fun v2 => asI .i64 v2 fun n1 => drewK w1 fun w2 => ldK Try.prog w2 x6 fun v3 => asL v3 fun l1p l1l l1c => optP x0 fun ad2 => ldK Try.prog w2 ad2 fun v4 => asM v4 fun m1 => semK Try.prog (Instr.lookup 55 (.map m1) (.int .i64 n1) false) w2 fun v5 w3 => asI .i64 v5 fun n2 => semK Try.prog (Instr.indexAt 29 (.slice l1p l1l l1c) (.int .i64 x17)) w2 fun v6 w4 => asA v6 fun ad3 => semU Try.prog (Instr.storeAt 3 (.pointer (some ad3)) (.int .i64 n2)) w2 fun w5 => L29_1 R k x0 x5 x6 x15p x15l x15c x16 (IntKind.wrap .i64 (x17 + 1)) w5) (J29_0 R x5 x6 w)
def F29 (a0 : Option Addr) (a1 : Value) (w : World) (R : Value → World → Prop) : Prop :=
  CallV Try.prog 23 #[(.pointer a0), a1] w fun v1 w1 => asL v1 fun l1p l1l l1c => allocK w1 (.cells #[(.slice none 0 0)] 29) fun w2 => semU Try.prog (Instr.storeAt 29 (.pointer (some ⟨w1.heap.size, 0, none⟩)) (.slice l1p l1l l1c)) w2 fun w3 => ldK Try.prog w3 ⟨w1.heap.size, 0, none⟩ fun v2 => asL v2 fun l2p l2l l2c => semK Try.prog (Instr.makeSlice 29 (.int .i64 (l2l : Nat)) (.int .i64 (l2l : Nat))) w3 fun v3 w4 => asL v3 fun l3p l3l l3c => allocK w4 (.cells #[(.slice none 0 0)] 29) fun w5 => semU Try.prog (Instr.storeAt 29 (.pointer (some ⟨w4.heap.size, 0, none⟩)) (.slice l3p l3l l3c)) w5 fun w6 => ldK Try.prog w6 ⟨w1.heap.size, 0, none⟩ fun v4 => asL v4 fun l4p l4l l4c => ∃ m, L29_1 R m a0 ⟨w1.heap.size, 0, none⟩ ⟨w4.heap.size, 0, none⟩ l4p l4l l4c (l4l : Nat) 0 w6
def A29 (R : Value → World → Prop) : Ann := (.seq .no (.seq .no (.seq .no (.join (fun e ds w => nilD ds (asA (e 5) fun x5 => asA (e 6) fun x6 => J29_0 R x5 x6 w)) (.seq .no (.block (.loop (fun m e ds w => nilD ds (asP (e 0) fun x0 => asA (e 5) fun x5 => asA (e 6) fun x6 => asL (e 15) fun x15p x15l x15c => asI .i64 (e 16) fun x16 => asI .i64 (e 17) fun x17 => L29_1 R m x0 x5 x6 x15p x15l x15c x16 x17 w)) (fun kL29_1 => (.seq .no (.seq .no (.seq (.block (.seq .no (.draw [0, 1, 2, 3, 4, 5, 6, 7, 8, 9]))) .no))))))) .no))))
theorem sides29 (R : Value → World → Prop) : fnSides Try.prog Try.f29 (A29 R) R := by
  refine And.intro ?_ ?_
  ·
    exact trivial
  ·
    refine And.intro ?_ ?_
    ·
      exact trivial
    ·
      refine And.intro ?_ ?_
      ·
        exact trivial
      ·
        refine And.intro ?_ (And.intro ?_ ?_)
        ·
          intro e ds w h
          have hn := nilD_elim h
          clear h
          obtain ⟨rfl, h⟩ := hn
          obtain ⟨x5, z5, h⟩ := asA_elim h
          obtain ⟨x6, z6, h⟩ := asA_elim h
          have he : (put (put e (some 5) (.pointer (some x5))) (some 6) (.pointer (some x6))) = e := by rw [put_id z5, put_id z6]
          rw [← he]
          clear he
          exact Eq.mp (by kernel_rfl) h
        ·
          refine And.intro ?_ ?_
          ·
            exact trivial
          ·
            refine And.intro ?_ (And.intro ?_ ?_)
            ·
              intro e ds w h
              have hn := nilD_elim h
              clear h
              obtain ⟨rfl, h⟩ := hn
              obtain ⟨x0, z0, h⟩ := asP_elim h
              obtain ⟨x5, z5, h⟩ := asA_elim h
              obtain ⟨x6, z6, h⟩ := asA_elim h
              obtain ⟨x15p, x15l, x15c, z15, h⟩ := asL_elim h
              obtain ⟨x16, z16, h⟩ := asI_elim h
              obtain ⟨x17, z17, h⟩ := asI_elim h
              exact h
            ·
              intro kL29_1 e ds w h
              have hn := nilD_elim h
              clear h
              obtain ⟨rfl, h⟩ := hn
              obtain ⟨x0, z0, h⟩ := asP_elim h
              obtain ⟨x5, z5, h⟩ := asA_elim h
              obtain ⟨x6, z6, h⟩ := asA_elim h
              obtain ⟨x15p, x15l, x15c, z15, h⟩ := asL_elim h
              obtain ⟨x16, z16, h⟩ := asI_elim h
              obtain ⟨x17, z17, h⟩ := asI_elim h
              have he : (put (put (put (put (put (put e (some 0) (.pointer x0)) (some 5) (.pointer (some x5))) (some 6) (.pointer (some x6))) (some 15) (.slice x15p x15l x15c)) (some 16) (.int .i64 x16)) (some 17) (.int .i64 x17)) = e := by rw [put_id z0, put_id z5, put_id z6, put_id z15, put_id z16, put_id z17]
              rw [← he]
              clear he
              exact Eq.mp (by kernel_rfl) h
            ·
              intro kL29_1
              refine And.intro ?_ ?_
              ·
                exact trivial
              ·
                refine And.intro ?_ ?_
                ·
                  exact trivial
                ·
                  refine And.intro ?_ ?_
                  ·
                    refine And.intro ?_ ?_
                    ·
                      exact trivial
                    ·
                      exact trivial
                  ·
                    exact trivial
        ·
          exact trivial
theorem call29 (a0 : Option Addr) (a1 : Value) (w : World) (R : Value → World → Prop) (h : F29 a0 a1 w R) : CallV Try.prog 29 #[(.pointer a0), a1] w R :=
  callV_of (fn := Try.f29) (an := A29 R) (args := [(.pointer a0), a1]) Try.func29 rfl (sides29 R) (Eq.mp (by kernel_rfl) h)

/-! 34 (*vouch/undo.Table[int, int]).All$1 -/
def L34_0 (R : Value → World → Prop) : Nat → Value → Addr → Option Addr → Nat → Nat → Int → Int → World → Prop
  | 0 => fun _ _ _ _ _ _ _ _ => False
  | k + 1 => fun x0 x2 x6p x6l x6c x7 x8 w => ifB (decide ((x8 : Int) < x7)) (semK Try.prog (Instr.indexAt 29 (.slice x6p x6l x6c) (.int .i64 x8)) w fun v1 w1 => asA v1 fun ad1 => ldK Try.prog w1 ad1 fun v2 => asI .i64 v2 fun n1 => ldK Try.prog w1 x2 fun v3 => asL v3 fun l1p l1l l1c => semK Try.prog (Instr.indexAt 29 (.slice l1p l1l l1c) (.int .i64 x8)) w1 fun v4 w2 => asA v4 fun ad2 => ldK Try.prog w2 ad2 fun v5 => asI .i64 v5 fun n2 => callVal Try.prog x0 #[(.int .i64 n1), (.int .i64 n2)] w2 fun v6 w3 => asB v6 fun b1 => ifB (!b1) (R (.tuple #[]) w3) (L34_0 R k x0 x2 x6p x6l x6c x7 (IntKind.wrap .i64 (x8 + 1)) w3)) (R (.tuple #[]) w)
def F34 (a0 : Value) (a1 : Addr) (a2 : Addr) (w : World) (R : Value → World → Prop) : Prop :=
  ldK Try.prog w a1 fun v1 => asL v1 fun l1p l1l l1c => ∃ m, L34_0 R m a0 a2 l1p l1l l1c (l1l : Nat) 0 w
def A34 (R : Value → World → Prop) : Ann := (.seq .no (.block (.loop (fun m e ds w => nilD ds (asAny (e 0) fun x0 => asA (e 2) fun x2 => asL (e 6) fun x6p x6l x6c => asI .i64 (e 7) fun x7 => asI .i64 (e 8) fun x8 => L34_0 R m x0 x2 x6p x6l x6c x7 x8 w)) (fun kL34_0 => .no))))
theorem sides34 (R : Value → World → Prop) : fnSides Try.prog Try.f34 (A34 R) R := by
  refine And.intro ?_ ?_
  ·
    exact trivial
  ·
    refine And.intro ?_ (And.intro ?_ ?_)
    ·
      intro e ds w h
      have hn := nilD_elim h
      clear h
      obtain ⟨rfl, h⟩ := hn
      obtain ⟨x0, z0, h⟩ := asAny_elim h
      obtain ⟨x2, z2, h⟩ := asA_elim h
      obtain ⟨x6p, x6l, x6c, z6, h⟩ := asL_elim h
      obtain ⟨x7, z7, h⟩ := asI_elim h
      obtain ⟨x8, z8, h⟩ := asI_elim h
      exact h
    ·
      intro kL34_0 e ds w h
      have hn := nilD_elim h
      clear h
      obtain ⟨rfl, h⟩ := hn
      obtain ⟨x0, z0, h⟩ := asAny_elim h
      obtain ⟨x2, z2, h⟩ := asA_elim h
      obtain ⟨x6p, x6l, x6c, z6, h⟩ := asL_elim h
      obtain ⟨x7, z7, h⟩ := asI_elim h
      obtain ⟨x8, z8, h⟩ := asI_elim h
      have he : (put (put (put (put (put e (some 0) x0) (some 2) (.pointer (some x2))) (some 6) (.slice x6p x6l x6c)) (some 7) (.int .i64 x7)) (some 8) (.int .i64 x8)) = e := by rw [put_id z0, put_id z2, put_id z6, put_id z7, put_id z8]
      rw [← he]
      clear he
      exact Eq.mp (by kernel_rfl) h
    ·
      intro kL34_0
      exact trivial
theorem call34 (a0 : Value) (a1 : Addr) (a2 : Addr) (w : World) (R : Value → World → Prop) (h : F34 a0 a1 a2 w R) : CallV Try.prog 34 #[a0, (.pointer (some a1)), (.pointer (some a2))] w R :=
  callV_of (fn := Try.f34) (an := A34 R) (args := [a0, (.pointer (some a1)), (.pointer (some a2))]) Try.func34 rfl (sides34 R) (Eq.mp (by kernel_rfl) h)
end Go.Proofs.Ytalhnoelkglgiaa.W
