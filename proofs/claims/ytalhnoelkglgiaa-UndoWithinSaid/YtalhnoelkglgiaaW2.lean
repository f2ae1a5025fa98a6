/- The functions of this text, as the layer Sh reckons them out (printed by shp.py, a program of ours): for each the predicate F, and that it suffices for a call. No condition. -/
import Derived.Test.YtalhnoelkglgiaaSh5
import Derived.Test.YtalhnoelkglgiaaProg
namespace Go.Proofs.Ytalhnoelkglgiaa.W
open Go Go.Proofs.Ytalhnoelkglgiaa.Sh
set_option linter.unusedVariables false
set_option maxRecDepth 100000

/-! 3 vouch/vouchlaw3.UndoBack -/
def J3_9 (R : Value → World → Prop) (C_L3_4 : Option Addr → Addr → Int → Addr → Int → World → Prop) (C_L3_8 : Option Addr → Addr → Int → Addr → Int → Int → Option Addr → Nat → Nat → Int → World → Prop) (x7 : Option Addr) (x9 : Addr) (x10 : Int) (x11 : Addr) (x12 : Int) (x13 : Int) (x14p : Option Addr) (x14l : Nat) (x14c : Nat) (x15 : Int) (w : World) : Prop :=
  C_L3_8 x7 x9 x10 x11 x12 x13 x14p x14l x14c (IntKind.wrap .i64 (x15 + 1)) w
def J3_10 (R : Value → World → Prop) (C_L3_4 : Option Addr → Addr → Int → Addr → Int → World → Prop) (C_L3_8 : Option Addr → Addr → Int → Addr → Int → Int → Option Addr → Nat → Nat → Int → World → Prop) (x7 : Option Addr) (x9 : Addr) (x10 : Int) (x11 : Addr) (x12 : Int) (x13 : Int) (x14p : Option Addr) (x14l : Nat) (x14c : Nat) (x15 : Int) (x16 : Addr) (w : World) : Prop :=
  ldK Try.prog w x16 fun v1 => asI .i64 v1 fun n1 => ldK Try.prog w (Addr.add x16 1) fun v2 => asB v2 fun b1 => ldK Try.prog w (Addr.add x16 2) fun v3 => asI .i64 v3 fun n2 => ldK Try.prog w (Addr.add x16 3) fun v4 => asI .i64 v4 fun n3 => CallV Try.prog 11 #[(.pointer x7), (.agg #[(.int .i64 n1), (.bool b1), (.int .i64 n2), (.int .i64 n3)])] w fun v5 w1 => asT v5 fun t1_0 => asEnd t1_0 (J3_9 R C_L3_4 C_L3_8 x7 x9 x10 x11 x12 x13 x14p x14l x14c x15 w1)
def J3_11 (R : Value → World → Prop) (C_L3_4 : Option Addr → Addr → Int → Addr → Int → World → Prop) (C_L3_8 : Option Addr → Addr → Int → Addr → Int → Int → Option Addr → Nat → Nat → Int → World → Prop) (x7 : Option Addr) (x9 : Addr) (x10 : Int) (x11 : Addr) (x12 : Int) (x13 : Int) (x14p : Option Addr) (x14l : Nat) (x14c : Nat) (x15 : Int) (x16 : Addr) (x98 : Bool) (w : World) : Prop :=
  ifB x98 (ldK Try.prog w (Addr.add x16 2) fun v1 => asI .i64 v1 fun n1 => semU Try.prog (Instr.storeAt 3 (.pointer (some (Addr.add x16 2))) (.int .i64 (IntKind.wrap .i64 ((IntKind.wrap .i64 (x13 + 1)) + (bitI .and .i64 n1 3))))) w fun w1 => J3_10 R C_L3_4 C_L3_8 x7 x9 x10 x11 x12 x13 x14p x14l x14c x15 x16 w1) (J3_10 R C_L3_4 C_L3_8 x7 x9 x10 x11 x12 x13 x14p x14l x14c x15 x16 w)
def J3_5 (R : Value → World → Prop) (C_L3_4 : Option Addr → Addr → Int → Addr → Int → World → Prop) (x7 : Option Addr) (x9 : Addr) (x10 : Int) (x11 : Addr) (x12 : Int) (w : World) : Prop :=
  C_L3_4 x7 x9 x10 x11 (IntKind.wrap .i64 (x12 + 1)) w
def J3_12 (R : Value → World → Prop) (C_L3_4 : Option Addr → Addr → Int → Addr → Int → World → Prop) (x7 : Option Addr) (x9 : Addr) (x10 : Int) (x11 : Addr) (x12 : Int) (x150 : Bool) (w : World) : Prop :=
  ifB x150 (R (.bool false) w) (J3_5 R C_L3_4 x7 x9 x10 x11 x12 w)
def J3_7 (R : Value → World → Prop) (C_L3_4 : Option Addr → Addr → Int → Addr → Int → World → Prop) (x7 : Option Addr) (x9 : Addr) (x10 : Int) (x11 : Addr) (x12 : Int) (x13 : Int) (w : World) : Prop :=
  CallV Try.prog 16 #[(.pointer x7), (.int .i64 7)] w fun v1 w1 => asB v1 fun b1 => CallV Try.prog 17 #[(.pointer x7), (.int .i64 7)] w1 fun v2 w2 => asT v2 fun t1_0 => asHd t1_0 fun t1_0x t1_1 => asI .i64 t1_0x fun n1 => asHd t1_1 fun t1_1x t1_2 => asB t1_1x fun b2 => asEnd t1_2 (ifB b2 (J3_12 R C_L3_4 x7 x9 x10 x11 x12 true w2) (ifB ((n1 : Int) != 0) (J3_12 R C_L3_4 x7 x9 x10 x11 x12 true w2) (CallV Try.prog 14 #[(.pointer x7)] w2 fun v3 w3 => asI .i64 v3 fun n2 => ifB (decide ((n2 : Int) ≤ x13)) (J3_12 R C_L3_4 x7 x9 x10 x11 x12 true w3) (CallV Try.prog 18 #[(.pointer x7), (.int .i64 x13)] w3 fun v4 w4 => asI .i64 v4 fun n3 => ifB ((n3 : Int) != 0) (J3_12 R C_L3_4 x7 x9 x10 x11 x12 true w4) (CallV Try.prog 14 #[(.pointer x7)] w4 fun v5 w5 => asI .i64 v5 fun n4 => ifB ((n4 : Int) != x13) (J3_12 R C_L3_4 x7 x9 x10 x11 x12 true w5) (CallV Try.prog 18 #[(.pointer x7), (.int .i64 x13)] w5 fun v6 w6 => asI .i64 v6 fun n5 => ifB ((n5 : Int) != 30) (J3_12 R C_L3_4 x7 x9 x10 x11 x12 true w6) (ldK Try.prog w6 x9 fun v7 => asL v7 fun l1p l1l l1c => ldK Try.prog w6 (Addr.add x9 1) fun v8 => asL v8 fun l2p l2l l2c => CallV Try.prog 19 #[(.pointer x7), (.agg #[(.slice l1p l1l l1c), (.slice l2p l2l l2c)])] w6 fun v9 w7 => asB v9 fun b3 => J3_12 R C_L3_4 x7 x9 x10 x11 x12 (!b3) w7)))))))
def L3_8 (R : Value → World → Prop) (C_L3_4 : Option Addr → Addr → Int → Addr → Int → World → Prop) : Nat → Option Addr → Addr → Int → Addr → Int → Int → Option Addr → Nat → Nat → Int → World → Prop
  | 0 => fun _ _ _ _ _ _ _ _ _ _ _ => False
  | k + 1 => fun x7 x9 x10 x11 x12 x13 x14p x14l x14c x15 w => ifB (decide ((x15 : Int) < (x14l : Nat))) (semK Try.prog (Instr.indexAt 22 (.slice x14p x14l x14c) (.int .i64 x15)) w fun v1 w1 => asA v1 fun ad1 => ldK Try.prog w1 ad1 fun v2 => asI .i64 v2 fun n1 => ldK Try.prog w1 (Addr.add ad1 1) fun v3 => asB v3 fun b1 => ldK Try.prog w1 (Addr.add ad1 2) fun v4 => asI .i64 v4 fun n2 => ldK Try.prog w1 (Addr.add ad1 3) fun v5 => asI .i64 v5 fun n3 => allocK w1 (.cells #[(.int .i64 0), (.bool false), (.int .i64 0), (.int .i64 0)] 27) fun w2 => semU Try.prog (Instr.storeAt 27 (.pointer (some ⟨w1.heap.size, 0, none⟩)) (.agg #[(.int .i64 n1), (.bool b1), (.int .i64 n2), (.int .i64 n3)])) w2 fun w3 => ldK Try.prog w3 ⟨w1.heap.size, 0, none⟩ fun v6 => asI .i64 v6 fun n4 => ifB ((n4 : Int) == 4) (ldK Try.prog w3 ⟨w1.heap.size, 2, none⟩ fun v7 => asI .i64 v7 fun n5 => J3_11 R C_L3_4 (L3_8 R C_L3_4 k) x7 x9 x10 x11 x12 x13 x14p x14l x14c x15 ⟨w1.heap.size, 0, none⟩ (decide ((n5 : Int) ≤ x13)) w3) (ldK Try.prog w3 ⟨w1.heap.size, 0, none⟩ fun v8 => asI .i64 v8 fun n6 => ifB ((n6 : Int) == 5) (ldK Try.prog w3 ⟨w1.heap.size, 2, none⟩ fun v9 => asI .i64 v9 fun n7 => J3_11 R C_L3_4 (L3_8 R C_L3_4 k) x7 x9 x10 x11 x12 x13 x14p x14l x14c x15 ⟨w1.heap.size, 0, none⟩ (decide ((n7 : Int) ≤ x13)) w3) (J3_11 R C_L3_4 (L3_8 R C_L3_4 k) x7 x9 x10 x11 x12 x13 x14p x14l x14c x15 ⟨w1.heap.size, 0, none⟩ false w3))) (J3_7 R C_L3_4 x7 x9 x10 x11 x12 x13 w)
def J3_6 (R : Value → World → Prop) (C_L3_4 : Option Addr → Addr → Int → Addr → Int → World → Prop) (x7 : Option Addr) (x9 : Addr) (x10 : Int) (x11 : Addr) (x12 : Int) (x13 : Int) (w : World) : Prop :=
  semK Try.prog (Instr.indexAt 34 (.pointer (some x11)) (.int .i64 x12)) w fun v1 w1 => asA v1 fun ad1 => ldK Try.prog w1 ad1 fun v2 => asL v2 fun l1p l1l l1c => ∃ m, L3_8 R C_L3_4 m x7 x9 x10 x11 x12 x13 l1p l1l l1c 0 w1
def J3_3 (R : Value → World → Prop) (w : World) : Prop :=
  CallV Try.prog 20 #[] w fun v1 w1 => asB v1 fun b1 => R (.bool b1) w1
def L3_4 (R : Value → World → Prop) : Nat → Option Addr → Addr → Int → Addr → Int → World → Prop
  | 0 => fun _ _ _ _ _ _ => False
  | k + 1 => fun x7 x9 x10 x11 x12 w => ifB (decide ((x12 : Int) < 2)) (CallV Try.prog 15 #[(.pointer x7)] w fun v1 w1 => asI .i64 v1 fun n1 => ifB ((n1 : Int) != x10) (R (.bool false) w1) (CallV Try.prog 14 #[(.pointer x7)] w1 fun v2 w2 => asI .i64 v2 fun n2 => ifB ((n2 : Int) != (IntKind.wrap .i64 (x10 + 1))) (R (.bool false) w2) (J3_6 R (L3_4 R k) x7 x9 x10 x11 x12 n1 w2))) (J3_3 R w)
def J3_1 (R : Value → World → Prop) (x1p : Option Addr) (x1l : Nat) (x1c : Nat) (x2p : Option Addr) (x2l : Nat) (x2c : Nat) (x7 : Option Addr) (w : World) : Prop :=
  CallV Try.prog 12 #[(.pointer x7), (.int .i64 7), (.int .i64 7)] w fun v1 w1 => asT v1 fun t1_0 => asEnd t1_0 (CallV Try.prog 13 #[(.pointer x7)] w1 fun v2 w2 => asG v2 fun q1_0 => asHd q1_0 fun q1_0x q1_1 => asL q1_0x fun l1p l1l l1c => asHd q1_1 fun q1_1x q1_2 => asL q1_1x fun l2p l2l l2c => asEnd q1_2 (allocK w2 (.cells #[(.slice none 0 0), (.slice none 0 0)] 31) fun w3 => semU Try.prog (Instr.storeAt 31 (.pointer (some ⟨w2.heap.size, 0, none⟩)) (.agg #[(.slice l1p l1l l1c), (.slice l2p l2l l2c)])) w3 fun w4 => CallV Try.prog 14 #[(.pointer x7)] w4 fun v3 w5 => asI .i64 v3 fun n1 => allocK w5 (.cells #[(.slice none 0 0), (.slice none 0 0)] 34) fun w6 => semU Try.prog (Instr.storeAt 34 (.pointer (some ⟨w5.heap.size, 0, none⟩)) (.agg #[(.slice x1p x1l x1c), (.slice x2p x2l x2c)])) w6 fun w7 => ∃ m, L3_4 R m x7 ⟨w2.heap.size, 0, none⟩ n1 ⟨w5.heap.size, 0, none⟩ 0 w7))
def L3_2 (R : Value → World → Prop) : Nat → Option Addr → Nat → Nat → Option Addr → Nat → Nat → Option Addr → Nat → Nat → Option Addr → Int → World → Prop
  | 0 => fun _ _ _ _ _ _ _ _ _ _ _ _ => False
  | k + 1 => fun x0p x0l x0c x1p x1l x1c x2p x2l x2c x7 x8 w => ifB (decide ((x8 : Int) < (x0l : Nat))) (semK Try.prog (Instr.indexAt 22 (.slice x0p x0l x0c) (.int .i64 x8)) w fun v1 w1 => asA v1 fun ad1 => ldK Try.prog w1 ad1 fun v2 => asI .i64 v2 fun n1 => ldK Try.prog w1 (Addr.add ad1 1) fun v3 => asB v3 fun b1 => ldK Try.prog w1 (Addr.add ad1 2) fun v4 => asI .i64 v4 fun n2 => ldK Try.prog w1 (Addr.add ad1 3) fun v5 => asI .i64 v5 fun n3 => CallV Try.prog 11 #[(.pointer x7), (.agg #[(.int .i64 n1), (.bool b1), (.int .i64 n2), (.int .i64 n3)])] w1 fun v6 w2 => asT v6 fun t1_0 => asEnd t1_0 (L3_2 R k x0p x0l x0c x1p x1l x1c x2p x2l x2c x7 (IntKind.wrap .i64 (x8 + 1)) w2)) (J3_1 R x1p x1l x1c x2p x2l x2c x7 w)
def J3_0 (R : Value → World → Prop) (x0p : Option Addr) (x0l : Nat) (x0c : Nat) (x1p : Option Addr) (x1l : Nat) (x1c : Nat) (x2p : Option Addr) (x2l : Nat) (x2c : Nat) (w : World) : Prop :=
  CallV Try.prog 10 #[] w fun v1 w1 => asP v1 fun p1 => ifB (Option.isNone p1) (R (.bool false) w1) (∃ m, L3_2 R m x0p x0l x0c x1p x1l x1c x2p x2l x2c p1 0 w1)
def F3 (a0p : Option Addr) (a0l : Nat) (a0c : Nat) (a1p : Option Addr) (a1l : Nat) (a1c : Nat) (a2p : Option Addr) (a2l : Nat) (a2c : Nat) (w : World) (R : Value → World → Prop) : Prop :=
  ifB (decide (((a0l : Nat) : Int) > 2048)) (R (.bool true) w) (ifB (decide (((a1l : Nat) : Int) > 2048)) (R (.bool true) w) (ifB (decide (((a2l : Nat) : Int) > 2048)) (R (.bool true) w) (J3_0 R a0p a0l a0c a1p a1l a1c a2p a2l a2c w)))
def A3 (R : Value → World → Prop) : Ann := (.seq .no (.join (fun e ds w => nilD ds (asL (e 0) fun x0p x0l x0c => asL (e 1) fun x1p x1l x1c => asL (e 2) fun x2p x2l x2c => J3_0 R x0p x0l x0c x1p x1l x1c x2p x2l x2c w)) .no (.seq .no (.seq .no (.join (fun e ds w => nilD ds (asL (e 1) fun x1p x1l x1c => asL (e 2) fun x2p x2l x2c => asP (e 7) fun x7 => J3_1 R x1p x1l x1c x2p x2l x2c x7 w)) (.seq .no (.block (.loop (fun m e ds w => nilD ds (asL (e 0) fun x0p x0l x0c => asL (e 1) fun x1p x1l x1c => asL (e 2) fun x2p x2l x2c => asP (e 7) fun x7 => asI .i64 (e 8) fun x8 => L3_2 R m x0p x0l x0c x1p x1l x1c x2p x2l x2c x7 x8 w)) (fun kL3_2 => .no)))) (.seq .no (.seq .no (.seq .no (.seq .no (.join (fun e ds w => nilD ds (J3_3 R w)) (.seq .no (.block (.loop (fun m e ds w => nilD ds (asP (e 7) fun x7 => asA (e 9) fun x9 => asI .i64 (e 10) fun x10 => asA (e 11) fun x11 => asI .i64 (e 12) fun x12 => L3_4 R m x7 x9 x10 x11 x12 w)) (fun kL3_4 => (.seq .no (.join (fun e ds w => nilD ds (asP (e 7) fun x7 => asA (e 9) fun x9 => asI .i64 (e 10) fun x10 => asA (e 11) fun x11 => asI .i64 (e 12) fun x12 => J3_5 R (L3_4 R kL3_4) x7 x9 x10 x11 x12 w)) (.block (.seq .no (.join (fun e ds w => nilD ds (asP (e 7) fun x7 => asA (e 9) fun x9 => asI .i64 (e 10) fun x10 => asA (e 11) fun x11 => asI .i64 (e 12) fun x12 => asI .i64 (e 13) fun x13 => J3_6 R (L3_4 R kL3_4) x7 x9 x10 x11 x12 x13 w)) .no (.seq .no (.join (fun e ds w => nilD ds (asP (e 7) fun x7 => asA (e 9) fun x9 => asI .i64 (e 10) fun x10 => asA (e 11) fun x11 => asI .i64 (e 12) fun x12 => asI .i64 (e 13) fun x13 => J3_7 R (L3_4 R kL3_4) x7 x9 x10 x11 x12 x13 w)) (.seq .no (.block (.loop (fun m e ds w => nilD ds (asP (e 7) fun x7 => asA (e 9) fun x9 => asI .i64 (e 10) fun x10 => asA (e 11) fun x11 => asI .i64 (e 12) fun x12 => asI .i64 (e 13) fun x13 => asL (e 14) fun x14p x14l x14c => asI .i64 (e 15) fun x15 => L3_8 R (L3_4 R kL3_4) m x7 x9 x10 x11 x12 x13 x14p x14l x14c x15 w)) (fun kL3_8 => (.seq .no (.join (fun e ds w => nilD ds (asP (e 7) fun x7 => asA (e 9) fun x9 => asI .i64 (e 10) fun x10 => asA (e 11) fun x11 => asI .i64 (e 12) fun x12 => asI .i64 (e 13) fun x13 => asL (e 14) fun x14p x14l x14c => asI .i64 (e 15) fun x15 => J3_9 R (L3_4 R kL3_4) (L3_8 R (L3_4 R kL3_4) kL3_8) x7 x9 x10 x11 x12 x13 x14p x14l x14c x15 w)) (.block (.seq .no (.join (fun e ds w => nilD ds (asP (e 7) fun x7 => asA (e 9) fun x9 => asI .i64 (e 10) fun x10 => asA (e 11) fun x11 => asI .i64 (e 12) fun x12 => asI .i64 (e 13) fun x13 => asL (e 14) fun x14p x14l x14c => asI .i64 (e 15) fun x15 => asA (e 16) fun x16 => J3_10 R (L3_4 R kL3_4) (L3_8 R (L3_4 R kL3_4) kL3_8) x7 x9 x10 x11 x12 x13 x14p x14l x14c x15 x16 w)) (.join (fun e ds w => nilD ds (asP (e 7) fun x7 => asA (e 9) fun x9 => asI .i64 (e 10) fun x10 => asA (e 11) fun x11 => asI .i64 (e 12) fun x12 => asI .i64 (e 13) fun x13 => asL (e 14) fun x14p x14l x14c => asI .i64 (e 15) fun x15 => asA (e 16) fun x16 => asB (e 98) fun x98 => J3_11 R (L3_4 R kL3_4) (L3_8 R (L3_4 R kL3_4) kL3_8) x7 x9 x10 x11 x12 x13 x14p x14l x14c x15 x16 x98 w)) .no .no) .no))) .no)))))) (.seq .no (.seq .no (.join (fun e ds w => nilD ds (asP (e 7) fun x7 => asA (e 9) fun x9 => asI .i64 (e 10) fun x10 => asA (e 11) fun x11 => asI .i64 (e 12) fun x12 => asB (e 150) fun x150 => J3_12 R (L3_4 R kL3_4) x7 x9 x10 x11 x12 x150 w)) .no .no)))))))) .no)))))) .no))))))))))
theorem sides3 (R : Value → World → Prop) : fnSides Try.prog Try.f3 (A3 R) R := by
  refine And.intro ?_ ?_
  ·
    exact trivial
  ·
    refine And.intro ?_ (And.intro ?_ ?_)
    ·
      intro e ds w h
      have hn := nilD_elim h
      clear h
      obtain ⟨rfl, h⟩ := hn
      obtain ⟨x0p, x0l, x0c, z0, h⟩ := asL_elim h
      obtain ⟨x1p, x1l, x1c, z1, h⟩ := asL_elim h
      obtain ⟨x2p, x2l, x2c, z2, h⟩ := asL_elim h
      have he : (put (put (put e (some 0) (.slice x0p x0l x0c)) (some 1) (.slice x1p x1l x1c)) (some 2) (.slice x2p x2l x2c)) = e := by rw [put_id z0, put_id z1, put_id z2]
      rw [← he]
      clear he
      exact Eq.mp (by kernel_rfl) h
    ·
      exact trivial
    ·
      refine And.intro ?_ ?_
      ·
        exact trivial
      ·
        refine And.intro ?_ ?_
        ·
          exact trivial
        ·
          refine And.intro ?_ (And.intro ?_ ?_)
          ·
            intro e ds w h
            have hn := nilD_elim h
            clear h
            obtain ⟨rfl, h⟩ := hn
            obtain ⟨x1p, x1l, x1c, z1, h⟩ := asL_elim h
            obtain ⟨x2p, x2l, x2c, z2, h⟩ := asL_elim h
            obtain ⟨x7, z7, h⟩ := asP_elim h
            have he : (put (put (put e (some 1) (.slice x1p x1l x1c)) (some 2) (.slice x2p x2l x2c)) (some 7) (.pointer x7)) = e := by rw [put_id z1, put_id z2, put_id z7]
            rw [← he]
            clear he
            exact Eq.mp (by kernel_rfl) h
          ·
            refine And.intro ?_ ?_
            ·
              exact trivial
            ·
              refine And.intro ?_ (And.intro ?_ ?_)
              ·
                intro e ds w h
                have hn := nilD_elim h
                clear h
                obtain ⟨rfl, h⟩ := hn
                obtain ⟨x0p, x0l, x0c, z0, h⟩ := asL_elim h
                obtain ⟨x1p, x1l, x1c, z1, h⟩ := asL_elim h
                obtain ⟨x2p, x2l, x2c, z2, h⟩ := asL_elim h
                obtain ⟨x7, z7, h⟩ := asP_elim h
                obtain ⟨x8, z8, h⟩ := asI_elim h
                exact h
              ·
                intro kL3_2 e ds w h
                have hn := nilD_elim h
                clear h
                obtain ⟨rfl, h⟩ := hn
                obtain ⟨x0p, x0l, x0c, z0, h⟩ := asL_elim h
                obtain ⟨x1p, x1l, x1c, z1, h⟩ := asL_elim h
                obtain ⟨x2p, x2l, x2c, z2, h⟩ := asL_elim h
                obtain ⟨x7, z7, h⟩ := asP_elim h
                obtain ⟨x8, z8, h⟩ := asI_elim h
                have he : (put (put (put (put (put e (some 0) (.slice x0p x0l x0c)) (some 1) (.slice x1p x1l x1c)) (some 2) (.slice x2p x2l x2c)) (some 7) (.pointer x7)) (some 8) (.int .i64 x8)) = e := by rw [put_id z0, put_id z1, put_id z2, put_id z7, put_id z8]
                rw [← he]
                clear he
                exact Eq.mp (by kernel_rfl) h
              ·
                intro kL3_2
                exact trivial
          ·
            refine And.intro ?_ ?_
            ·
              exact trivial
            ·
              refine And.intro ?_ ?_
              ·
                exact trivial
              ·
                refine And.intro ?_ ?_
                ·
                  exact trivial
                ·
                  refine And.intro ?_ ?_
                  ·
                    exact trivial
                  ·
                    refine And.intro ?_ (And.intro ?_ ?_)
                    ·
                      intro e ds w h
                      have hn := nilD_elim h
                      clear h
                      obtain ⟨rfl, h⟩ := hn
                      exact Eq.mp (by kernel_rfl) h
                    ·
                      refine And.intro ?_ ?_
                      ·
                        exact trivial
                      ·
                        refine And.intro ?_ (And.intro ?_ ?_)
                        ·
                          intro e ds w h
                          have hn := nilD_elim h
                          clear h
                          obtain ⟨rfl, h⟩ := hn
                          obtain ⟨x7, z7, h⟩ := asP_elim h
                          obtain ⟨x9, z9, h⟩ := asA_elim h
                          obtain ⟨x10, z10, h⟩ := asI_elim h
                          obtain ⟨x11, z11, h⟩ := asA_elim h
                          obtain ⟨x12, z12, h⟩ := asI_elim h
                          exact h
                        ·
                          intro kL3_4 e ds w h
                          have hn := nilD_elim h
                          clear h
                          obtain ⟨rfl, h⟩ := hn
                          obtain ⟨x7, z7, h⟩ := asP_elim h
                          obtain ⟨x9, z9, h⟩ := asA_elim h
                          obtain ⟨x10, z10, h⟩ := asI_elim h
                          obtain ⟨x11, z11, h⟩ := asA_elim h
                          obtain ⟨x12, z12, h⟩ := asI_elim h
                          have he : (put (put (put (put (put e (some 7) (.pointer x7)) (some 9) (.pointer (some x9))) (some 10) (.int .i64 x10)) (some 11) (.pointer (some x11))) (some 12) (.int .i64 x12)) = e := by rw [put_id z7, put_id z9, put_id z10, put_id z11, put_id z12]
                          rw [← he]
                          clear he
                          exact Eq.mp (by kernel_rfl) h
                        ·
                          intro kL3_4
                          refine And.intro ?_ ?_
                          ·
                            exact trivial
                          ·
                            refine And.intro ?_ (And.intro ?_ ?_)
                            ·
                              intro e ds w h
                              have hn := nilD_elim h
                              clear h
                              obtain ⟨rfl, h⟩ := hn
                              obtain ⟨x7, z7, h⟩ := asP_elim h
                              obtain ⟨x9, z9, h⟩ := asA_elim h
                              obtain ⟨x10, z10, h⟩ := asI_elim h
                              obtain ⟨x11, z11, h⟩ := asA_elim h
                              obtain ⟨x12, z12, h⟩ := asI_elim h
                              have he : (put (put (put (put (put e (some 7) (.pointer x7)) (some 9) (.pointer (some x9))) (some 10) (.int .i64 x10)) (some 11) (.pointer (some x11))) (some 12) (.int .i64 x12)) = e := by rw [put_id z7, put_id z9, put_id z10, put_id z11, put_id z12]
                              rw [← he]
                              clear he
                              exact Eq.mp (by kernel_rfl) h
                            ·
                              refine And.intro ?_ ?_
                              ·
                                exact trivial
                              ·
                                refine And.intro ?_ (And.intro ?_ ?_)
                                ·
                                  intro e ds w h
                                  have hn := nilD_elim h
                                  clear h
                                  obtain ⟨rfl, h⟩ := hn
                                  obtain ⟨x7, z7, h⟩ := asP_elim h
                                  obtain ⟨x9, z9, h⟩ := asA_elim h
                                  obtain ⟨x10, z10, h⟩ := asI_elim h
                                  obtain ⟨x11, z11, h⟩ := asA_elim h
                                  obtain ⟨x12, z12, h⟩ := asI_elim h
                                  obtain ⟨x13, z13, h⟩ := asI_elim h
                                  have he : (put (put (put (put (put (put e (some 7) (.pointer x7)) (some 9) (.pointer (some x9))) (some 10) (.int .i64 x10)) (some 11) (.pointer (some x11))) (some 12) (.int .i64 x12)) (some 13) (.int .i64 x13)) = e := by rw [put_id z7, put_id z9, put_id z10, put_id z11, put_id z12, put_id z13]
                                  rw [← he]
                                  clear he
                                  exact Eq.mp (by kernel_rfl) h
                                ·
                                  exact trivial
                                ·
                                  refine And.intro ?_ ?_
                                  ·
                                    exact trivial
                                  ·
                                    refine And.intro ?_ (And.intro ?_ ?_)
                                    ·
                                      intro e ds w h
                                      have hn := nilD_elim h
                                      clear h
                                      obtain ⟨rfl, h⟩ := hn
                                      obtain ⟨x7, z7, h⟩ := asP_elim h
                                      obtain ⟨x9, z9, h⟩ := asA_elim h
                                      obtain ⟨x10, z10, h⟩ := asI_elim h
                                      obtain ⟨x11, z11, h⟩ := asA_elim h
                                      obtain ⟨x12, z12, h⟩ := asI_elim h
                                      obtain ⟨x13, z13, h⟩ := asI_elim h
                                      have he : (put (put (put (put (put (put e (some 7) (.pointer x7)) (some 9) (.pointer (some x9))) (some 10) (.int .i64 x10)) (some 11) (.pointer (some x11))) (some 12) (.int .i64 x12)) (some 13) (.int .i64 x13)) = e := by rw [put_id z7, put_id z9, put_id z10, put_id z11, put_id z12, put_id z13]
                                      rw [← he]
                                      clear he
                                      exact Eq.mp (by kernel_rfl) h
                                    ·
                                      refine And.intro ?_ ?_
                                      ·
                                        exact trivial
                                      ·
                                        refine And.intro ?_ (And.intro ?_ ?_)
                                        ·
                                          intro e ds w h
                                          have hn := nilD_elim h
                                          clear h
                                          obtain ⟨rfl, h⟩ := hn
                                          obtain ⟨x7, z7, h⟩ := asP_elim h
                                          obtain ⟨x9, z9, h⟩ := asA_elim h
                                          obtain ⟨x10, z10, h⟩ := asI_elim h
                                          obtain ⟨x11, z11, h⟩ := asA_elim h
                                          obtain ⟨x12, z12, h⟩ := asI_elim h
                                          obtain ⟨x13, z13, h⟩ := asI_elim h
                                          obtain ⟨x14p, x14l, x14c, z14, h⟩ := asL_elim h
                                          obtain ⟨x15, z15, h⟩ := asI_elim h
                                          exact h
                                        ·
                                          intro kL3_8 e ds w h
                                          have hn := nilD_elim h
                                          clear h
                                          obtain ⟨rfl, h⟩ := hn
                                          obtain ⟨x7, z7, h⟩ := asP_elim h
                                          obtain ⟨x9, z9, h⟩ := asA_elim h
                                          obtain ⟨x10, z10, h⟩ := asI_elim h
                                          obtain ⟨x11, z11, h⟩ := asA_elim h
                                          obtain ⟨x12, z12, h⟩ := asI_elim h
                                          obtain ⟨x13, z13, h⟩ := asI_elim h
                                          obtain ⟨x14p, x14l, x14c, z14, h⟩ := asL_elim h
                                          obtain ⟨x15, z15, h⟩ := asI_elim h
                                          have he : (put (put (put (put (put (put (put (put e (some 7) (.pointer x7)) (some 9) (.pointer (some x9))) (some 10) (.int .i64 x10)) (some 11) (.pointer (some x11))) (some 12) (.int .i64 x12)) (some 13) (.int .i64 x13)) (some 14) (.slice x14p x14l x14c)) (some 15) (.int .i64 x15)) = e := by rw [put_id z7, put_id z9, put_id z10, put_id z11, put_id z12, put_id z13, put_id z14, put_id z15]
                                          rw [← he]
                                          clear he
                                          exact Eq.mp (by kernel_rfl) h
                                        ·
                                          intro kL3_8
                                          refine And.intro ?_ ?_
                                          ·
                                            exact trivial
                                          ·
                                            refine And.intro ?_ (And.intro ?_ ?_)
                                            ·
                                              intro e ds w h
                                              have hn := nilD_elim h
                                              clear h
                                              obtain ⟨rfl, h⟩ := hn
                                              obtain ⟨x7, z7, h⟩ := asP_elim h
                                              obtain ⟨x9, z9, h⟩ := asA_elim h
                                              obtain ⟨x10, z10, h⟩ := asI_elim h
                                              obtain ⟨x11, z11, h⟩ := asA_elim h
                                              obtain ⟨x12, z12, h⟩ := asI_elim h
                                              obtain ⟨x13, z13, h⟩ := asI_elim h
                                              obtain ⟨x14p, x14l, x14c, z14, h⟩ := asL_elim h
                                              obtain ⟨x15, z15, h⟩ := asI_elim h
                                              have he : (put (put (put (put (put (put (put (put e (some 7) (.pointer x7)) (some 9) (.pointer (some x9))) (some 10) (.int .i64 x10)) (some 11) (.pointer (some x11))) (some 12) (.int .i64 x12)) (some 13) (.int .i64 x13)) (some 14) (.slice x14p x14l x14c)) (some 15) (.int .i64 x15)) = e := by rw [put_id z7, put_id z9, put_id z10, put_id z11, put_id z12, put_id z13, put_id z14, put_id z15]
                                              rw [← he]
                                              clear he
                                              exact Eq.mp (by kernel_rfl) h
                                            ·
                                              refine And.intro ?_ ?_
                                              ·
                                                exact trivial
                                              ·
                                                refine And.intro ?_ (And.intro ?_ ?_)
                                                ·
                                                  intro e ds w h
                                                  have hn := nilD_elim h
                                                  clear h
                                                  obtain ⟨rfl, h⟩ := hn
                                                  obtain ⟨x7, z7, h⟩ := asP_elim h
                                                  obtain ⟨x9, z9, h⟩ := asA_elim h
                                                  obtain ⟨x10, z10, h⟩ := asI_elim h
                                                  obtain ⟨x11, z11, h⟩ := asA_elim h
                                                  obtain ⟨x12, z12, h⟩ := asI_elim h
                                                  obtain ⟨x13, z13, h⟩ := asI_elim h
                                                  obtain ⟨x14p, x14l, x14c, z14, h⟩ := asL_elim h
                                                  obtain ⟨x15, z15, h⟩ := asI_elim h
                                                  obtain ⟨x16, z16, h⟩ := asA_elim h
                                                  have he : (put (put (put (put (put (put (put (put (put e (some 7) (.pointer x7)) (some 9) (.pointer (some x9))) (some 10) (.int .i64 x10)) (some 11) (.pointer (some x11))) (some 12) (.int .i64 x12)) (some 13) (.int .i64 x13)) (some 14) (.slice x14p x14l x14c)) (some 15) (.int .i64 x15)) (some 16) (.pointer (some x16))) = e := by rw [put_id z7, put_id z9, put_id z10, put_id z11, put_id z12, put_id z13, put_id z14, put_id z15, put_id z16]
                                                  rw [← he]
                                                  clear he
                                                  exact Eq.mp (by kernel_rfl) h
                                                ·
                                                  refine And.intro ?_ (And.intro ?_ ?_)
                                                  ·
                                                    intro e ds w h
                                                    have hn := nilD_elim h
                                                    clear h
                                                    obtain ⟨rfl, h⟩ := hn
                                                    obtain ⟨x7, z7, h⟩ := asP_elim h
                                                    obtain ⟨x9, z9, h⟩ := asA_elim h
                                                    obtain ⟨x10, z10, h⟩ := asI_elim h
                                                    obtain ⟨x11, z11, h⟩ := asA_elim h
                                                    obtain ⟨x12, z12, h⟩ := asI_elim h
                                                    obtain ⟨x13, z13, h⟩ := asI_elim h
                                                    obtain ⟨x14p, x14l, x14c, z14, h⟩ := asL_elim h
                                                    obtain ⟨x15, z15, h⟩ := asI_elim h
                                                    obtain ⟨x16, z16, h⟩ := asA_elim h
                                                    obtain ⟨x98, z98, h⟩ := asB_elim h
                                                    have he : (put (put (put (put (put (put (put (put (put (put e (some 7) (.pointer x7)) (some 9) (.pointer (some x9))) (some 10) (.int .i64 x10)) (some 11) (.pointer (some x11))) (some 12) (.int .i64 x12)) (some 13) (.int .i64 x13)) (some 14) (.slice x14p x14l x14c)) (some 15) (.int .i64 x15)) (some 16) (.pointer (some x16))) (some 98) (.bool x98)) = e := by rw [put_id z7, put_id z9, put_id z10, put_id z11, put_id z12, put_id z13, put_id z14, put_id z15, put_id z16, put_id z98]
                                                    rw [← he]
                                                    clear he
                                                    exact Eq.mp (by kernel_rfl) h
                                                  ·
                                                    exact trivial
                                                  ·
                                                    exact trivial
                                                ·
                                                  exact trivial
                                            ·
                                              exact trivial
                                    ·
                                      refine And.intro ?_ ?_
                                      ·
                                        exact trivial
                                      ·
                                        refine And.intro ?_ ?_
                                        ·
                                          exact trivial
                                        ·
                                          refine And.intro ?_ (And.intro ?_ ?_)
                                          ·
                                            intro e ds w h
                                            have hn := nilD_elim h
                                            clear h
                                            obtain ⟨rfl, h⟩ := hn
                                            obtain ⟨x7, z7, h⟩ := asP_elim h
                                            obtain ⟨x9, z9, h⟩ := asA_elim h
                                            obtain ⟨x10, z10, h⟩ := asI_elim h
                                            obtain ⟨x11, z11, h⟩ := asA_elim h
                                            obtain ⟨x12, z12, h⟩ := asI_elim h
                                            obtain ⟨x150, z150, h⟩ := asB_elim h
                                            have he : (put (put (put (put (put (put e (some 7) (.pointer x7)) (some 9) (.pointer (some x9))) (some 10) (.int .i64 x10)) (some 11) (.pointer (some x11))) (some 12) (.int .i64 x12)) (some 150) (.bool x150)) = e := by rw [put_id z7, put_id z9, put_id z10, put_id z11, put_id z12, put_id z150]
                                            rw [← he]
                                            clear he
                                            exact Eq.mp (by kernel_rfl) h
                                          ·
                                            exact trivial
                                          ·
                                            exact trivial
                            ·
                              exact trivial
                    ·
                      exact trivial
theorem call3 (a0p : Option Addr) (a0l : Nat) (a0c : Nat) (a1p : Option Addr) (a1l : Nat) (a1c : Nat) (a2p : Option Addr) (a2l : Nat) (a2c : Nat) (w : World) (R : Value → World → Prop) (h : F3 a0p a0l a0c a1p a1l a1c a2p a2l a2c w R) : CallV Try.prog 3 #[(.slice a0p a0l a0c), (.slice a1p a1l a1c), (.slice a2p a2l a2c)] w R :=
  callV_of (fn := Try.f3) (an := A3 R) (args := [(.slice a0p a0l a0c), (.slice a1p a1l a1c), (.slice a2p a2l a2c)]) Try.func3 rfl (sides3 R) (Eq.mp (by kernel_rfl) h)

/-! 4 vouch/vouchlaw3.UndoForgets -/
def J4_6 (R : Value → World → Prop) (C_L4_5 : Option Addr → Nat → Nat → Option Addr → Nat → Nat → Option Addr → Option Addr → Int → Int → World → Prop) (x1p : Option Addr) (x1l : Nat) (x1c : Nat) (x2p : Option Addr) (x2l : Nat) (x2c : Nat) (x7 : Option Addr) (x8 : Option Addr) (x10 : Int) (x11 : Int) (w : World) : Prop :=
  C_L4_5 x1p x1l x1c x2p x2l x2c x7 x8 x10 (IntKind.wrap .i64 (x11 + 1)) w
def J4_7 (R : Value → World → Prop) (C_L4_5 : Option Addr → Nat → Nat → Option Addr → Nat → Nat → Option Addr → Option Addr → Int → Int → World → Prop) (x1p : Option Addr) (x1l : Nat) (x1c : Nat) (x2p : Option Addr) (x2l : Nat) (x2c : Nat) (x7 : Option Addr) (x8 : Option Addr) (x10 : Int) (x11 : Int) (x12 : Addr) (w : World) : Prop :=
  ldK Try.prog w x12 fun v1 => asI .i64 v1 fun n1 => ifB ((n1 : Int) == 3) (CallV Try.prog 15 #[(.pointer x7)] w fun v2 w1 => asI .i64 v2 fun n2 => J4_6 R C_L4_5 x1p x1l x1c x2p x2l x2c x7 x8 x10 x11 w1) (J4_6 R C_L4_5 x1p x1l x1c x2p x2l x2c x7 x8 x10 x11 w)
def J4_8 (R : Value → World → Prop) (C_L4_5 : Option Addr → Nat → Nat → Option Addr → Nat → Nat → Option Addr → Option Addr → Int → Int → World → Prop) (x1p : Option Addr) (x1l : Nat) (x1c : Nat) (x2p : Option Addr) (x2l : Nat) (x2c : Nat) (x7 : Option Addr) (x8 : Option Addr) (x10 : Int) (x11 : Int) (x12 : Addr) (x72 : Bool) (w : World) : Prop :=
  ifB x72 (ldK Try.prog w x12 fun v1 => asI .i64 v1 fun n1 => ldK Try.prog w (Addr.add x12 1) fun v2 => asB v2 fun b1 => ldK Try.prog w (Addr.add x12 2) fun v3 => asI .i64 v3 fun n2 => ldK Try.prog w (Addr.add x12 3) fun v4 => asI .i64 v4 fun n3 => CallV Try.prog 11 #[(.pointer x7), (.agg #[(.int .i64 n1), (.bool b1), (.int .i64 n2), (.int .i64 n3)])] w fun v5 w1 => asT v5 fun t1_0 => asEnd t1_0 (ldK Try.prog w1 x12 fun v6 => asI .i64 v6 fun n4 => ldK Try.prog w1 (Addr.add x12 1) fun v7 => asB v7 fun b2 => ldK Try.prog w1 (Addr.add x12 2) fun v8 => asI .i64 v8 fun n5 => ldK Try.prog w1 (Addr.add x12 3) fun v9 => asI .i64 v9 fun n6 => CallV Try.prog 11 #[(.pointer x8), (.agg #[(.int .i64 n4), (.bool b2), (.int .i64 n5), (.int .i64 n6)])] w1 fun v10 w2 => asT v10 fun t2_0 => asEnd t2_0 (J4_7 R C_L4_5 x1p x1l x1c x2p x2l x2c x7 x8 x10 x11 x12 w2))) (J4_7 R C_L4_5 x1p x1l x1c x2p x2l x2c x7 x8 x10 x11 x12 w)
def J4_11 (R : Value → World → Prop) (x7 : Option Addr) (x8 : Option Addr) (w : World) : Prop :=
  CallV Try.prog 13 #[(.pointer x8)] w fun v1 w1 => asG v1 fun q1_0 => asHd q1_0 fun q1_0x q1_1 => asL q1_0x fun l1p l1l l1c => asHd q1_1 fun q1_1x q1_2 => asL q1_1x fun l2p l2l l2c => asEnd q1_2 (CallV Try.prog 19 #[(.pointer x7), (.agg #[(.slice l1p l1l l1c), (.slice l2p l2l l2c)])] w1 fun v2 w2 => asB v2 fun b1 => ifB b1 (CallV Try.prog 13 #[(.pointer x7)] w2 fun v3 w3 => asG v3 fun q2_0 => asHd q2_0 fun q2_0x q2_1 => asL q2_0x fun l3p l3l l3c => asHd q2_1 fun q2_1x q2_2 => asL q2_1x fun l4p l4l l4c => asEnd q2_2 (CallV Try.prog 19 #[(.pointer x8), (.agg #[(.slice l3p l3l l3c), (.slice l4p l4l l4c)])] w3 fun v4 w4 => asB v4 fun b2 => ifB b2 (CallV Try.prog 20 #[] w4 fun v5 w5 => asB v5 fun b3 => R (.bool b3) w5) (R (.bool false) w4))) (R (.bool false) w2))
def L4_12 (R : Value → World → Prop) : Nat → Option Addr → Nat → Nat → Option Addr → Option Addr → Int → World → Prop
  | 0 => fun _ _ _ _ _ _ _ => False
  | k + 1 => fun x2p x2l x2c x7 x8 x13 w => ifB (decide ((x13 : Int) < (x2l : Nat))) (semK Try.prog (Instr.indexAt 22 (.slice x2p x2l x2c) (.int .i64 x13)) w fun v1 w1 => asA v1 fun ad1 => ldK Try.prog w1 ad1 fun v2 => asI .i64 v2 fun n1 => ldK Try.prog w1 (Addr.add ad1 1) fun v3 => asB v3 fun b1 => ldK Try.prog w1 (Addr.add ad1 2) fun v4 => asI .i64 v4 fun n2 => ldK Try.prog w1 (Addr.add ad1 3) fun v5 => asI .i64 v5 fun n3 => CallV Try.prog 11 #[(.pointer x7), (.agg #[(.int .i64 n1), (.bool b1), (.int .i64 n2), (.int .i64 n3)])] w1 fun v6 w2 => asT v6 fun t1_0 => asEnd t1_0 (semK Try.prog (Instr.indexAt 22 (.slice x2p x2l x2c) (.int .i64 x13)) w2 fun v7 w3 => asA v7 fun ad2 => ldK Try.prog w3 ad2 fun v8 => asI .i64 v8 fun n4 => ldK Try.prog w3 (Addr.add ad2 1) fun v9 => asB v9 fun b2 => ldK Try.prog w3 (Addr.add ad2 2) fun v10 => asI .i64 v10 fun n5 => ldK Try.prog w3 (Addr.add ad2 3) fun v11 => asI .i64 v11 fun n6 => CallV Try.prog 11 #[(.pointer x8), (.agg #[(.int .i64 n4), (.bool b2), (.int .i64 n5), (.int .i64 n6)])] w3 fun v12 w4 => asT v12 fun t2_0 => asEnd t2_0 (CallV Try.prog 14 #[(.pointer x7)] w4 fun v13 w5 => asI .i64 v13 fun n7 => CallV Try.prog 14 #[(.pointer x8)] w5 fun v14 w6 => asI .i64 v14 fun n8 => ifB ((n7 : Int) != n8) (R (.bool false) w6) (CallV Try.prog 22 #[(.pointer x7)] w6 fun v15 w7 => asI .i64 v15 fun n9 => CallV Try.prog 22 #[(.pointer x8)] w7 fun v16 w8 => asI .i64 v16 fun n10 => ifB ((n9 : Int) != n10) (R (.bool false) w8) (L4_12 R k x2p x2l x2c x7 x8 (IntKind.wrap .i64 (x13 + 1)) w8))))) (J4_11 R x7 x8 w)
def J4_9 (R : Value → World → Prop) (x2p : Option Addr) (x2l : Nat) (x2c : Nat) (x7 : Option Addr) (x8 : Option Addr) (w : World) : Prop :=
  ∃ m, L4_12 R m x2p x2l x2c x7 x8 0 w
def J4_10 (R : Value → World → Prop) (x2p : Option Addr) (x2l : Nat) (x2c : Nat) (x7 : Option Addr) (x8 : Option Addr) (x105 : Bool) (w : World) : Prop :=
  ifB x105 (R (.bool false) w) (J4_9 R x2p x2l x2c x7 x8 w)
def J4_4 (R : Value → World → Prop) (x2p : Option Addr) (x2l : Nat) (x2c : Nat) (x7 : Option Addr) (x8 : Option Addr) (x10 : Int) (w : World) : Prop :=
  CallV Try.prog 21 #[(.pointer x7), (.int .i64 x10)] w fun v1 w1 => asI .i64 v1 fun n1 => ifB ((n1 : Int) != 0) (J4_10 R x2p x2l x2c x7 x8 true w1) (CallV Try.prog 14 #[(.pointer x7)] w1 fun v2 w2 => asI .i64 v2 fun n2 => ifB ((n2 : Int) != x10) (J4_10 R x2p x2l x2c x7 x8 true w2) (CallV Try.prog 14 #[(.pointer x8)] w2 fun v3 w3 => asI .i64 v3 fun n3 => ifB ((n3 : Int) != x10) (J4_10 R x2p x2l x2c x7 x8 true w3) (CallV Try.prog 21 #[(.pointer x7), (.int .i64 x10)] w3 fun v4 w4 => asI .i64 v4 fun n4 => J4_10 R x2p x2l x2c x7 x8 ((n4 : Int) != 30) w4)))
def L4_5 (R : Value → World → Prop) : Nat → Option Addr → Nat → Nat → Option Addr → Nat → Nat → Option Addr → Option Addr → Int → Int → World → Prop
  | 0 => fun _ _ _ _ _ _ _ _ _ _ _ => False
  | k + 1 => fun x1p x1l x1c x2p x2l x2c x7 x8 x10 x11 w => ifB (decide ((x11 : Int) < (x1l : Nat))) (semK Try.prog (Instr.indexAt 22 (.slice x1p x1l x1c) (.int .i64 x11)) w fun v1 w1 => asA v1 fun ad1 => ldK Try.prog w1 ad1 fun v2 => asI .i64 v2 fun n1 => ldK Try.prog w1 (Addr.add ad1 1) fun v3 => asB v3 fun b1 => ldK Try.prog w1 (Addr.add ad1 2) fun v4 => asI .i64 v4 fun n2 => ldK Try.prog w1 (Addr.add ad1 3) fun v5 => asI .i64 v5 fun n3 => allocK w1 (.cells #[(.int .i64 0), (.bool false), (.int .i64 0), (.int .i64 0)] 27) fun w2 => semU Try.prog (Instr.storeAt 27 (.pointer (some ⟨w1.heap.size, 0, none⟩)) (.agg #[(.int .i64 n1), (.bool b1), (.int .i64 n2), (.int .i64 n3)])) w2 fun w3 => ldK Try.prog w3 ⟨w1.heap.size, 0, none⟩ fun v6 => asI .i64 v6 fun n4 => ifB ((n4 : Int) == 1) (J4_8 R (L4_5 R k) x1p x1l x1c x2p x2l x2c x7 x8 x10 x11 ⟨w1.heap.size, 0, none⟩ true w3) (ldK Try.prog w3 ⟨w1.heap.size, 0, none⟩ fun v7 => asI .i64 v7 fun n5 => J4_8 R (L4_5 R k) x1p x1l x1c x2p x2l x2c x7 x8 x10 x11 ⟨w1.heap.size, 0, none⟩ ((n5 : Int) == 2) w3)) (J4_4 R x2p x2l x2c x7 x8 x10 w)
def J4_2 (R : Value → World → Prop) (x1p : Option Addr) (x1l : Nat) (x1c : Nat) (x2p : Option Addr) (x2l : Nat) (x2c : Nat) (x7 : Option Addr) (x8 : Option Addr) (w : World) : Prop :=
  CallV Try.prog 15 #[(.pointer x7)] w fun v1 w1 => asI .i64 v1 fun n1 => ∃ m, L4_5 R m x1p x1l x1c x2p x2l x2c x7 x8 n1 0 w1
def L4_3 (R : Value → World → Prop) : Nat → Option Addr → Nat → Nat → Option Addr → Nat → Nat → Option Addr → Nat → Nat → Option Addr → Option Addr → Int → World → Prop
  | 0 => fun _ _ _ _ _ _ _ _ _ _ _ _ _ => False
  | k + 1 => fun x0p x0l x0c x1p x1l x1c x2p x2l x2c x7 x8 x9 w => ifB (decide ((x9 : Int) < (x0l : Nat))) (semK Try.prog (Instr.indexAt 22 (.slice x0p x0l x0c) (.int .i64 x9)) w fun v1 w1 => asA v1 fun ad1 => ldK Try.prog w1 ad1 fun v2 => asI .i64 v2 fun n1 => ldK Try.prog w1 (Addr.add ad1 1) fun v3 => asB v3 fun b1 => ldK Try.prog w1 (Addr.add ad1 2) fun v4 => asI .i64 v4 fun n2 => ldK Try.prog w1 (Addr.add ad1 3) fun v5 => asI .i64 v5 fun n3 => CallV Try.prog 11 #[(.pointer x7), (.agg #[(.int .i64 n1), (.bool b1), (.int .i64 n2), (.int .i64 n3)])] w1 fun v6 w2 => asT v6 fun t1_0 => asEnd t1_0 (semK Try.prog (Instr.indexAt 22 (.slice x0p x0l x0c) (.int .i64 x9)) w2 fun v7 w3 => asA v7 fun ad2 => ldK Try.prog w3 ad2 fun v8 => asI .i64 v8 fun n4 => ldK Try.prog w3 (Addr.add ad2 1) fun v9 => asB v9 fun b2 => ldK Try.prog w3 (Addr.add ad2 2) fun v10 => asI .i64 v10 fun n5 => ldK Try.prog w3 (Addr.add ad2 3) fun v11 => asI .i64 v11 fun n6 => CallV Try.prog 11 #[(.pointer x8), (.agg #[(.int .i64 n4), (.bool b2), (.int .i64 n5), (.int .i64 n6)])] w3 fun v12 w4 => asT v12 fun t2_0 => asEnd t2_0 (L4_3 R k x0p x0l x0c x1p x1l x1c x2p x2l x2c x7 x8 (IntKind.wrap .i64 (x9 + 1)) w4))) (J4_2 R x1p x1l x1c x2p x2l x2c x7 x8 w)
def J4_1 (R : Value → World → Prop) (x0p : Option Addr) (x0l : Nat) (x0c : Nat) (x1p : Option Addr) (x1l : Nat) (x1c : Nat) (x2p : Option Addr) (x2l : Nat) (x2c : Nat) (x7 : Option Addr) (x8 : Option Addr) (w : World) : Prop :=
  ∃ m, L4_3 R m x0p x0l x0c x1p x1l x1c x2p x2l x2c x7 x8 0 w
def J4_0 (R : Value → World → Prop) (x0p : Option Addr) (x0l : Nat) (x0c : Nat) (x1p : Option Addr) (x1l : Nat) (x1c : Nat) (x2p : Option Addr) (x2l : Nat) (x2c : Nat) (w : World) : Prop :=
  CallV Try.prog 10 #[] w fun v1 w1 => asP v1 fun p1 => CallV Try.prog 10 #[] w1 fun v2 w2 => asP v2 fun p2 => ifB (Option.isNone p1) (R (.bool false) w2) (ifB (Option.isNone p2) (R (.bool false) w2) (J4_1 R x0p x0l x0c x1p x1l x1c x2p x2l x2c p1 p2 w2))
def F4 (a0p : Option Addr) (a0l : Nat) (a0c : Nat) (a1p : Option Addr) (a1l : Nat) (a1c : Nat) (a2p : Option Addr) (a2l : Nat) (a2c : Nat) (w : World) (R : Value → World → Prop) : Prop :=
  ifB (decide (((a0l : Nat) : Int) > 2048)) (R (.bool true) w) (ifB (decide (((a1l : Nat) : Int) > 2048)) (R (.bool true) w) (ifB (decide (((a2l : Nat) : Int) > 2048)) (R (.bool true) w) (J4_0 R a0p a0l a0c a1p a1l a1c a2p a2l a2c w)))
def A4 (R : Value → World → Prop) : Ann := (.seq .no (.join (fun e ds w => nilD ds (asL (e 0) fun x0p x0l x0c => asL (e 1) fun x1p x1l x1c => asL (e 2) fun x2p x2l x2c => J4_0 R x0p x0l x0c x1p x1l x1c x2p x2l x2c w)) .no (.seq .no (.seq .no (.join (fun e ds w => nilD ds (asL (e 0) fun x0p x0l x0c => asL (e 1) fun x1p x1l x1c => asL (e 2) fun x2p x2l x2c => asP (e 7) fun x7 => asP (e 8) fun x8 => J4_1 R x0p x0l x0c x1p x1l x1c x2p x2l x2c x7 x8 w)) .no (.join (fun e ds w => nilD ds (asL (e 1) fun x1p x1l x1c => asL (e 2) fun x2p x2l x2c => asP (e 7) fun x7 => asP (e 8) fun x8 => J4_2 R x1p x1l x1c x2p x2l x2c x7 x8 w)) (.seq .no (.block (.loop (fun m e ds w => nilD ds (asL (e 0) fun x0p x0l x0c => asL (e 1) fun x1p x1l x1c => asL (e 2) fun x2p x2l x2c => asP (e 7) fun x7 => asP (e 8) fun x8 => asI .i64 (e 9) fun x9 => L4_3 R m x0p x0l x0c x1p x1l x1c x2p x2l x2c x7 x8 x9 w)) (fun kL4_3 => .no)))) (.seq .no (.join (fun e ds w => nilD ds (asL (e 2) fun x2p x2l x2c => asP (e 7) fun x7 => asP (e 8) fun x8 => asI .i64 (e 10) fun x10 => J4_4 R x2p x2l x2c x7 x8 x10 w)) (.seq .no (.block (.loop (fun m e ds w => nilD ds (asL (e 1) fun x1p x1l x1c => asL (e 2) fun x2p x2l x2c => asP (e 7) fun x7 => asP (e 8) fun x8 => asI .i64 (e 10) fun x10 => asI .i64 (e 11) fun x11 => L4_5 R m x1p x1l x1c x2p x2l x2c x7 x8 x10 x11 w)) (fun kL4_5 => (.seq .no (.join (fun e ds w => nilD ds (asL (e 1) fun x1p x1l x1c => asL (e 2) fun x2p x2l x2c => asP (e 7) fun x7 => asP (e 8) fun x8 => asI .i64 (e 10) fun x10 => asI .i64 (e 11) fun x11 => J4_6 R (L4_5 R kL4_5) x1p x1l x1c x2p x2l x2c x7 x8 x10 x11 w)) (.block (.seq .no (.join (fun e ds w => nilD ds (asL (e 1) fun x1p x1l x1c => asL (e 2) fun x2p x2l x2c => asP (e 7) fun x7 => asP (e 8) fun x8 => asI .i64 (e 10) fun x10 => asI .i64 (e 11) fun x11 => asA (e 12) fun x12 => J4_7 R (L4_5 R kL4_5) x1p x1l x1c x2p x2l x2c x7 x8 x10 x11 x12 w)) (.join (fun e ds w => nilD ds (asL (e 1) fun x1p x1l x1c => asL (e 2) fun x2p x2l x2c => asP (e 7) fun x7 => asP (e 8) fun x8 => asI .i64 (e 10) fun x10 => asI .i64 (e 11) fun x11 => asA (e 12) fun x12 => asB (e 72) fun x72 => J4_8 R (L4_5 R kL4_5) x1p x1l x1c x2p x2l x2c x7 x8 x10 x11 x12 x72 w)) .no .no) .no))) .no)))))) (.join (fun e ds w => nilD ds (asL (e 2) fun x2p x2l x2c => asP (e 7) fun x7 => asP (e 8) fun x8 => J4_9 R x2p x2l x2c x7 x8 w)) (.join (fun e ds w => nilD ds (asL (e 2) fun x2p x2l x2c => asP (e 7) fun x7 => asP (e 8) fun x8 => asB (e 105) fun x105 => J4_10 R x2p x2l x2c x7 x8 x105 w)) .no .no) (.join (fun e ds w => nilD ds (asP (e 7) fun x7 => asP (e 8) fun x8 => J4_11 R x7 x8 w)) (.seq .no (.block (.loop (fun m e ds w => nilD ds (asL (e 2) fun x2p x2l x2c => asP (e 7) fun x7 => asP (e 8) fun x8 => asI .i64 (e 13) fun x13 => L4_12 R m x2p x2l x2c x7 x8 x13 w)) (fun kL4_12 => .no)))) .no))))))))))
theorem sides4 (R : Value → World → Prop) : fnSides Try.prog Try.f4 (A4 R) R := by
  refine And.intro ?_ ?_
  ·
    exact trivial
  ·
    refine And.intro ?_ (And.intro ?_ ?_)
    ·
      intro e ds w h
      have hn := nilD_elim h
      clear h
      obtain ⟨rfl, h⟩ := hn
      obtain ⟨x0p, x0l, x0c, z0, h⟩ := asL_elim h
      obtain ⟨x1p, x1l, x1c, z1, h⟩ := asL_elim h
      obtain ⟨x2p, x2l, x2c, z2, h⟩ := asL_elim h
      have he : (put (put (put e (some 0) (.slice x0p x0l x0c)) (some 1) (.slice x1p x1l x1c)) (some 2) (.slice x2p x2l x2c)) = e := by rw [put_id z0, put_id z1, put_id z2]
      rw [← he]
      clear he
      exact Eq.mp (by kernel_rfl) h
    ·
      exact trivial
    ·
      refine And.intro ?_ ?_
      ·
        exact trivial
      ·
        refine And.intro ?_ ?_
        ·
          exact trivial
        ·
          refine And.intro ?_ (And.intro ?_ ?_)
          ·
            intro e ds w h
            have hn := nilD_elim h
            clear h
            obtain ⟨rfl, h⟩ := hn
            obtain ⟨x0p, x0l, x0c, z0, h⟩ := asL_elim h
            obtain ⟨x1p, x1l, x1c, z1, h⟩ := asL_elim h
            obtain ⟨x2p, x2l, x2c, z2, h⟩ := asL_elim h
            obtain ⟨x7, z7, h⟩ := asP_elim h
            obtain ⟨x8, z8, h⟩ := asP_elim h
            have he : (put (put (put (put (put e (some 0) (.slice x0p x0l x0c)) (some 1) (.slice x1p x1l x1c)) (some 2) (.slice x2p x2l x2c)) (some 7) (.pointer x7)) (some 8) (.pointer x8)) = e := by rw [put_id z0, put_id z1, put_id z2, put_id z7, put_id z8]
            rw [← he]
            clear he
            exact Eq.mp (by kernel_rfl) h
          ·
            exact trivial
          ·
            refine And.intro ?_ (And.intro ?_ ?_)
            ·
              intro e ds w h
              have hn := nilD_elim h
              clear h
              obtain ⟨rfl, h⟩ := hn
              obtain ⟨x1p, x1l, x1c, z1, h⟩ := asL_elim h
              obtain ⟨x2p, x2l, x2c, z2, h⟩ := asL_elim h
              obtain ⟨x7, z7, h⟩ := asP_elim h
              obtain ⟨x8, z8, h⟩ := asP_elim h
              have he : (put (put (put (put e (some 1) (.slice x1p x1l x1c)) (some 2) (.slice x2p x2l x2c)) (some 7) (.pointer x7)) (some 8) (.pointer x8)) = e := by rw [put_id z1, put_id z2, put_id z7, put_id z8]
              rw [← he]
              clear he
              exact Eq.mp (by kernel_rfl) h
            ·
              refine And.intro ?_ ?_
              ·
                exact trivial
              ·
                refine And.intro ?_ (And.intro ?_ ?_)
                ·
                  intro e ds w h
                  have hn := nilD_elim h
                  clear h
                  obtain ⟨rfl, h⟩ := hn
                  obtain ⟨x0p, x0l, x0c, z0, h⟩ := asL_elim h
                  obtain ⟨x1p, x1l, x1c, z1, h⟩ := asL_elim h
                  obtain ⟨x2p, x2l, x2c, z2, h⟩ := asL_elim h
                  obtain ⟨x7, z7, h⟩ := asP_elim h
                  obtain ⟨x8, z8, h⟩ := asP_elim h
                  obtain ⟨x9, z9, h⟩ := asI_elim h
                  exact h
                ·
                  intro kL4_3 e ds w h
                  have hn := nilD_elim h
                  clear h
                  obtain ⟨rfl, h⟩ := hn
                  obtain ⟨x0p, x0l, x0c, z0, h⟩ := asL_elim h
                  obtain ⟨x1p, x1l, x1c, z1, h⟩ := asL_elim h
                  obtain ⟨x2p, x2l, x2c, z2, h⟩ := asL_elim h
                  obtain ⟨x7, z7, h⟩ := asP_elim h
                  obtain ⟨x8, z8, h⟩ := asP_elim h
                  obtain ⟨x9, z9, h⟩ := asI_elim h
                  have he : (put (put (put (put (put (put e (some 0) (.slice x0p x0l x0c)) (some 1) (.slice x1p x1l x1c)) (some 2) (.slice x2p x2l x2c)) (some 7) (.pointer x7)) (some 8) (.pointer x8)) (some 9) (.int .i64 x9)) = e := by rw [put_id z0, put_id z1, put_id z2, put_id z7, put_id z8, put_id z9]
                  rw [← he]
                  clear he
                  exact Eq.mp (by kernel_rfl) h
                ·
                  intro kL4_3
                  exact trivial
            ·
              refine And.intro ?_ ?_
              ·
                exact trivial
              ·
                refine And.intro ?_ (And.intro ?_ ?_)
                ·
                  intro e ds w h
                  have hn := nilD_elim h
                  clear h
                  obtain ⟨rfl, h⟩ := hn
                  obtain ⟨x2p, x2l, x2c, z2, h⟩ := asL_elim h
                  obtain ⟨x7, z7, h⟩ := asP_elim h
                  obtain ⟨x8, z8, h⟩ := asP_elim h
                  obtain ⟨x10, z10, h⟩ := asI_elim h
                  have he : (put (put (put (put e (some 2) (.slice x2p x2l x2c)) (some 7) (.pointer x7)) (some 8) (.pointer x8)) (some 10) (.int .i64 x10)) = e := by rw [put_id z2, put_id z7, put_id z8, put_id z10]
                  rw [← he]
                  clear he
                  exact Eq.mp (by kernel_rfl) h
                ·
                  refine And.intro ?_ ?_
                  ·
                    exact trivial
                  ·
                    refine And.intro ?_ (And.intro ?_ ?_)
                    ·
                      intro e ds w h
                      have hn := nilD_elim h
                      clear h
                      obtain ⟨rfl, h⟩ := hn
                      obtain ⟨x1p, x1l, x1c, z1, h⟩ := asL_elim h
                      obtain ⟨x2p, x2l, x2c, z2, h⟩ := asL_elim h
                      obtain ⟨x7, z7, h⟩ := asP_elim h
                      obtain ⟨x8, z8, h⟩ := asP_elim h
                      obtain ⟨x10, z10, h⟩ := asI_elim h
                      obtain ⟨x11, z11, h⟩ := asI_elim h
                      exact h
                    ·
                      intro kL4_5 e ds w h
                      have hn := nilD_elim h
                      clear h
                      obtain ⟨rfl, h⟩ := hn
                      obtain ⟨x1p, x1l, x1c, z1, h⟩ := asL_elim h
                      obtain ⟨x2p, x2l, x2c, z2, h⟩ := asL_elim h
                      obtain ⟨x7, z7, h⟩ := asP_elim h
                      obtain ⟨x8, z8, h⟩ := asP_elim h
                      obtain ⟨x10, z10, h⟩ := asI_elim h
                      obtain ⟨x11, z11, h⟩ := asI_elim h
                      have he : (put (put (put (put (put (put e (some 1) (.slice x1p x1l x1c)) (some 2) (.slice x2p x2l x2c)) (some 7) (.pointer x7)) (some 8) (.pointer x8)) (some 10) (.int .i64 x10)) (some 11) (.int .i64 x11)) = e := by rw [put_id z1, put_id z2, put_id z7, put_id z8, put_id z10, put_id z11]
                      rw [← he]
                      clear he
                      exact Eq.mp (by kernel_rfl) h
                    ·
                      intro kL4_5
                      refine And.intro ?_ ?_
                      ·
                        exact trivial
                      ·
                        refine And.intro ?_ (And.intro ?_ ?_)
                        ·
                          intro e ds w h
                          have hn := nilD_elim h
                          clear h
                          obtain ⟨rfl, h⟩ := hn
                          obtain ⟨x1p, x1l, x1c, z1, h⟩ := asL_elim h
                          obtain ⟨x2p, x2l, x2c, z2, h⟩ := asL_elim h
                          obtain ⟨x7, z7, h⟩ := asP_elim h
                          obtain ⟨x8, z8, h⟩ := asP_elim h
                          obtain ⟨x10, z10, h⟩ := asI_elim h
                          obtain ⟨x11, z11, h⟩ := asI_elim h
                          have he : (put (put (put (put (put (put e (some 1) (.slice x1p x1l x1c)) (some 2) (.slice x2p x2l x2c)) (some 7) (.pointer x7)) (some 8) (.pointer x8)) (some 10) (.int .i64 x10)) (some 11) (.int .i64 x11)) = e := by rw [put_id z1, put_id z2, put_id z7, put_id z8, put_id z10, put_id z11]
                          rw [← he]
                          clear he
                          exact Eq.mp (by kernel_rfl) h
                        ·
                          refine And.intro ?_ ?_
                          ·
                            exact trivial
                          ·
                            refine And.intro ?_ (And.intro ?_ ?_)
                            ·
                              intro e ds w h
                              have hn := nilD_elim h
                              clear h
                              obtain ⟨rfl, h⟩ := hn
                              obtain ⟨x1p, x1l, x1c, z1, h⟩ := asL_elim h
                              obtain ⟨x2p, x2l, x2c, z2, h⟩ := asL_elim h
                              obtain ⟨x7, z7, h⟩ := asP_elim h
                              obtain ⟨x8, z8, h⟩ := asP_elim h
                              obtain ⟨x10, z10, h⟩ := asI_elim h
                              obtain ⟨x11, z11, h⟩ := asI_elim h
                              obtain ⟨x12, z12, h⟩ := asA_elim h
                              have he : (put (put (put (put (put (put (put e (some 1) (.slice x1p x1l x1c)) (some 2) (.slice x2p x2l x2c)) (some 7) (.pointer x7)) (some 8) (.pointer x8)) (some 10) (.int .i64 x10)) (some 11) (.int .i64 x11)) (some 12) (.pointer (some x12))) = e := by rw [put_id z1, put_id z2, put_id z7, put_id z8, put_id z10, put_id z11, put_id z12]
                              rw [← he]
                              clear he
                              exact Eq.mp (by kernel_rfl) h
                            ·
                              refine And.intro ?_ (And.intro ?_ ?_)
                              ·
                                intro e ds w h
                                have hn := nilD_elim h
                                clear h
                                obtain ⟨rfl, h⟩ := hn
                                obtain ⟨x1p, x1l, x1c, z1, h⟩ := asL_elim h
                                obtain ⟨x2p, x2l, x2c, z2, h⟩ := asL_elim h
                                obtain ⟨x7, z7, h⟩ := asP_elim h
                                obtain ⟨x8, z8, h⟩ := asP_elim h
                                obtain ⟨x10, z10, h⟩ := asI_elim h
                                obtain ⟨x11, z11, h⟩ := asI_elim h
                                obtain ⟨x12, z12, h⟩ := asA_elim h
                                obtain ⟨x72, z72, h⟩ := asB_elim h
                                have he : (put (put (put (put (put (put (put (put e (some 1) (.slice x1p x1l x1c)) (some 2) (.slice x2p x2l x2c)) (some 7) (.pointer x7)) (some 8) (.pointer x8)) (some 10) (.int .i64 x10)) (some 11) (.int .i64 x11)) (some 12) (.pointer (some x12))) (some 72) (.bool x72)) = e := by rw [put_id z1, put_id z2, put_id z7, put_id z8, put_id z10, put_id z11, put_id z12, put_id z72]
                                rw [← he]
                                clear he
                                exact Eq.mp (by kernel_rfl) h
                              ·
                                exact trivial
                              ·
                                exact trivial
                            ·
                              exact trivial
                        ·
                          exact trivial
                ·
                  refine And.intro ?_ (And.intro ?_ ?_)
                  ·
                    intro e ds w h
                    have hn := nilD_elim h
                    clear h
                    obtain ⟨rfl, h⟩ := hn
                    obtain ⟨x2p, x2l, x2c, z2, h⟩ := asL_elim h
                    obtain ⟨x7, z7, h⟩ := asP_elim h
                    obtain ⟨x8, z8, h⟩ := asP_elim h
                    have he : (put (put (put e (some 2) (.slice x2p x2l x2c)) (some 7) (.pointer x7)) (some 8) (.pointer x8)) = e := by rw [put_id z2, put_id z7, put_id z8]
                    rw [← he]
                    clear he
                    exact Eq.mp (by kernel_rfl) h
                  ·
                    refine And.intro ?_ (And.intro ?_ ?_)
                    ·
                      intro e ds w h
                      have hn := nilD_elim h
                      clear h
                      obtain ⟨rfl, h⟩ := hn
                      obtain ⟨x2p, x2l, x2c, z2, h⟩ := asL_elim h
                      obtain ⟨x7, z7, h⟩ := asP_elim h
                      obtain ⟨x8, z8, h⟩ := asP_elim h
                      obtain ⟨x105, z105, h⟩ := asB_elim h
                      have he : (put (put (put (put e (some 2) (.slice x2p x2l x2c)) (some 7) (.pointer x7)) (some 8) (.pointer x8)) (some 105) (.bool x105)) = e := by rw [put_id z2, put_id z7, put_id z8, put_id z105]
                      rw [← he]
                      clear he
                      exact Eq.mp (by kernel_rfl) h
                    ·
                      exact trivial
                    ·
                      exact trivial
                  ·
                    refine And.intro ?_ (And.intro ?_ ?_)
                    ·
                      intro e ds w h
                      have hn := nilD_elim h
                      clear h
                      obtain ⟨rfl, h⟩ := hn
                      obtain ⟨x7, z7, h⟩ := asP_elim h
                      obtain ⟨x8, z8, h⟩ := asP_elim h
                      have he : (put (put e (some 7) (.pointer x7)) (some 8) (.pointer x8)) = e := by rw [put_id z7, put_id z8]
                      rw [← he]
                      clear he
                      exact Eq.mp (by kernel_rfl) h
                    ·
                      refine And.intro ?_ ?_
                      ·
                        exact trivial
                      ·
                        refine And.intro ?_ (And.intro ?_ ?_)
                        ·
                          intro e ds w h
                          have hn := nilD_elim h
                          clear h
                          obtain ⟨rfl, h⟩ := hn
                          obtain ⟨x2p, x2l, x2c, z2, h⟩ := asL_elim h
                          obtain ⟨x7, z7, h⟩ := asP_elim h
                          obtain ⟨x8, z8, h⟩ := asP_elim h
                          obtain ⟨x13, z13, h⟩ := asI_elim h
                          exact h
                        ·
                          intro kL4_12 e ds w h
                          have hn := nilD_elim h
                          clear h
                          obtain ⟨rfl, h⟩ := hn
                          obtain ⟨x2p, x2l, x2c, z2, h⟩ := asL_elim h
                          obtain ⟨x7, z7, h⟩ := asP_elim h
                          obtain ⟨x8, z8, h⟩ := asP_elim h
                          obtain ⟨x13, z13, h⟩ := asI_elim h
                          have he : (put (put (put (put e (some 2) (.slice x2p x2l x2c)) (some 7) (.pointer x7)) (some 8) (.pointer x8)) (some 13) (.int .i64 x13)) = e := by rw [put_id z2, put_id z7, put_id z8, put_id z13]
                          rw [← he]
                          clear he
                          exact Eq.mp (by kernel_rfl) h
                        ·
                          intro kL4_12
                          exact trivial
                    ·
                      exact trivial
theorem call4 (a0p : Option Addr) (a0l : Nat) (a0c : Nat) (a1p : Option Addr) (a1l : Nat) (a1c : Nat) (a2p : Option Addr) (a2l : Nat) (a2c : Nat) (w : World) (R : Value → World → Prop) (h : F4 a0p a0l a0c a1p a1l a1c a2p a2l a2c w R) : CallV Try.prog 4 #[(.slice a0p a0l a0c), (.slice a1p a1l a1c), (.slice a2p a2l a2c)] w R :=
  callV_of (fn := Try.f4) (an := A4 R) (args := [(.slice a0p a0l a0c), (.slice a1p a1l a1c), (.slice a2p a2l a2c)]) Try.func4 rfl (sides4 R) (Eq.mp (by kernel_rfl) h)

/-! 5 vouch/vouchlaw3.UndoSets -/
def J5_7 (R : Value → World → Prop) (x18 : Int) (x19 : Bool) (w : World) : Prop :=
  ifB (!x19) (ifB ((x18 : Int) == 0) (CallV Try.prog 20 #[] w fun v1 w1 => asB v1 fun b1 => R (.bool b1) w1) (R (.bool false) w)) (R (.bool false) w)
def L5_8 (R : Value → World → Prop) : Nat → Int → Option Addr → Addr → Int → Bool → Int → World → Prop
  | 0 => fun _ _ _ _ _ _ _ => False
  | k + 1 => fun x1 x7 x9 x18 x19 x20 w => ldK Try.prog w x9 fun v1 => asL v1 fun l1p l1l l1c => ifB (decide ((x20 : Int) < (l1l : Nat))) (ldK Try.prog w x9 fun v2 => asL v2 fun l2p l2l l2c => semK Try.prog (Instr.indexAt 29 (.slice l2p l2l l2c) (.int .i64 x20)) w fun v3 w1 => asA v3 fun ad1 => ldK Try.prog w1 ad1 fun v4 => asI .i64 v4 fun n1 => CallV Try.prog 17 #[(.pointer x7), (.int .i64 n1)] w1 fun v5 w2 => asT v5 fun t1_0 => asHd t1_0 fun t1_0x t1_1 => asI .i64 t1_0x fun n2 => asHd t1_1 fun t1_1x t1_2 => asB t1_1x fun b1 => asEnd t1_2 (ldK Try.prog w2 x9 fun v6 => asL v6 fun l3p l3l l3c => semK Try.prog (Instr.indexAt 29 (.slice l3p l3l l3c) (.int .i64 x20)) w2 fun v7 w3 => asA v7 fun ad2 => ldK Try.prog w3 ad2 fun v8 => asI .i64 v8 fun n3 => ifB (!(b1 == ((n3 : Int) != x1))) (R (.bool false) w3) (ifB b1 (ldK Try.prog w3 (Addr.add x9 1) fun v9 => asL v9 fun l4p l4l l4c => semK Try.prog (Instr.indexAt 29 (.slice l4p l4l l4c) (.int .i64 x20)) w3 fun v10 w4 => asA v10 fun ad3 => ldK Try.prog w4 ad3 fun v11 => asI .i64 v11 fun n4 => ifB ((n2 : Int) != n4) (R (.bool false) w4) (L5_8 R k x1 x7 x9 x18 x19 (IntKind.wrap .i64 (x20 + 1)) w4)) (L5_8 R k x1 x7 x9 x18 x19 (IntKind.wrap .i64 (x20 + 1)) w3)))) (J5_7 R x18 x19 w)
def J5_6 (R : Value → World → Prop) (x1 : Int) (x7 : Option Addr) (x9 : Addr) (w : World) : Prop :=
  CallV Try.prog 17 #[(.pointer x7), (.int .i64 x1)] w fun v1 w1 => asT v1 fun t1_0 => asHd t1_0 fun t1_0x t1_1 => asI .i64 t1_0x fun n1 => asHd t1_1 fun t1_1x t1_2 => asB t1_1x fun b1 => asEnd t1_2 (∃ m, L5_8 R m x1 x7 x9 n1 b1 0 w1)
def J5_4 (R : Value → World → Prop) (x1 : Int) (x7 : Option Addr) (x9 : Addr) (x14 : Int) (w : World) : Prop :=
  CallV Try.prog 16 #[(.pointer x7), (.int .i64 x1)] w fun v1 w1 => asB v1 fun b1 => ifB (!b1) (R (.bool false) w1) (CallV Try.prog 16 #[(.pointer x7), (.int .i64 x1)] w1 fun v2 w2 => asB v2 fun b2 => ifB b2 (R (.bool false) w2) (CallV Try.prog 22 #[(.pointer x7)] w2 fun v3 w3 => asI .i64 v3 fun n1 => ifB ((n1 : Int) != (IntKind.wrap .i64 (x14 - 1))) (R (.bool false) w3) (J5_6 R x1 x7 x9 w3)))
def L5_5 (R : Value → World → Prop) : Nat → Int → Option Addr → Addr → Int → Int → World → Prop
  | 0 => fun _ _ _ _ _ _ => False
  | k + 1 => fun x1 x7 x9 x14 x15 w => ldK Try.prog w x9 fun v1 => asL v1 fun l1p l1l l1c => ifB (decide ((x15 : Int) < (l1l : Nat))) (ldK Try.prog w x9 fun v2 => asL v2 fun l2p l2l l2c => semK Try.prog (Instr.indexAt 29 (.slice l2p l2l l2c) (.int .i64 x15)) w fun v3 w1 => asA v3 fun ad1 => ldK Try.prog w1 ad1 fun v4 => asI .i64 v4 fun n1 => CallV Try.prog 17 #[(.pointer x7), (.int .i64 n1)] w1 fun v5 w2 => asT v5 fun t1_0 => asHd t1_0 fun t1_0x t1_1 => asI .i64 t1_0x fun n2 => asHd t1_1 fun t1_1x t1_2 => asB t1_1x fun b1 => asEnd t1_2 (ifB (!b1) (R (.bool false) w2) (ldK Try.prog w2 x9 fun v6 => asL v6 fun l3p l3l l3c => semK Try.prog (Instr.indexAt 29 (.slice l3p l3l l3c) (.int .i64 x15)) w2 fun v7 w3 => asA v7 fun ad2 => ldK Try.prog w3 ad2 fun v8 => asI .i64 v8 fun n3 => ifB ((n3 : Int) != x1) (ldK Try.prog w3 (Addr.add x9 1) fun v9 => asL v9 fun l4p l4l l4c => semK Try.prog (Instr.indexAt 29 (.slice l4p l4l l4c) (.int .i64 x15)) w3 fun v10 w4 => asA v10 fun ad3 => ldK Try.prog w4 ad3 fun v11 => asI .i64 v11 fun n4 => ifB ((n2 : Int) != n4) (R (.bool false) w4) (L5_5 R k x1 x7 x9 x14 (IntKind.wrap .i64 (x15 + 1)) w4)) (L5_5 R k x1 x7 x9 x14 (IntKind.wrap .i64 (x15 + 1)) w3)))) (J5_4 R x1 x7 x9 x14 w)
def J5_3 (R : Value → World → Prop) (x1 : Int) (x7 : Option Addr) (x9 : Addr) (x14 : Int) (w : World) : Prop :=
  ∃ m, L5_5 R m x1 x7 x9 x14 0 w
def J5_2 (R : Value → World → Prop) (x1 : Int) (x2 : Int) (x7 : Option Addr) (x9 : Addr) (x12 : Int) (x13 : Bool) (x14 : Int) (w : World) : Prop :=
  ifB (!x13) (R (.bool false) w) (ifB ((x12 : Int) != x2) (R (.bool false) w) (CallV Try.prog 22 #[(.pointer x7)] w fun v1 w1 => asI .i64 v1 fun n1 => ifB ((n1 : Int) != x14) (R (.bool false) w1) (J5_3 R x1 x7 x9 x14 w1)))
def J5_0 (R : Value → World → Prop) (x1 : Int) (x2 : Int) (x7 : Option Addr) (w : World) : Prop :=
  CallV Try.prog 13 #[(.pointer x7)] w fun v1 w1 => asG v1 fun q1_0 => asHd q1_0 fun q1_0x q1_1 => asL q1_0x fun l1p l1l l1c => asHd q1_1 fun q1_1x q1_2 => asL q1_1x fun l2p l2l l2c => asEnd q1_2 (allocK w1 (.cells #[(.slice none 0 0), (.slice none 0 0)] 31) fun w2 => semU Try.prog (Instr.storeAt 31 (.pointer (some ⟨w1.heap.size, 0, none⟩)) (.agg #[(.slice l1p l1l l1c), (.slice l2p l2l l2c)])) w2 fun w3 => CallV Try.prog 17 #[(.pointer x7), (.int .i64 x1)] w3 fun v2 w4 => asT v2 fun t1_0 => asHd t1_0 fun t1_0x t1_1 => asI .i64 t1_0x fun n1 => asHd t1_1 fun t1_1x t1_2 => asB t1_1x fun b1 => asEnd t1_2 (CallV Try.prog 12 #[(.pointer x7), (.int .i64 x1), (.int .i64 x2)] w4 fun v3 w5 => asT v3 fun t2_0 => asEnd t2_0 (CallV Try.prog 17 #[(.pointer x7), (.int .i64 x1)] w5 fun v4 w6 => asT v4 fun t3_0 => asHd t3_0 fun t3_0x t3_1 => asI .i64 t3_0x fun n2 => asHd t3_1 fun t3_1x t3_2 => asB t3_1x fun b2 => asEnd t3_2 (ldK Try.prog w6 ⟨w1.heap.size, 0, none⟩ fun v5 => asL v5 fun l3p l3l l3c => ifB (!b1) (J5_2 R x1 x2 x7 ⟨w1.heap.size, 0, none⟩ n2 b2 (IntKind.wrap .i64 ((l3l : Nat) + 1)) w6) (J5_2 R x1 x2 x7 ⟨w1.heap.size, 0, none⟩ n2 b2 (l3l : Nat) w6)))))
def L5_1 (R : Value → World → Prop) : Nat → Option Addr → Nat → Nat → Int → Int → Option Addr → Int → World → Prop
  | 0 => fun _ _ _ _ _ _ _ _ => False
  | k + 1 => fun x0p x0l x0c x1 x2 x7 x8 w => ifB (decide ((x8 : Int) < (x0l : Nat))) (semK Try.prog (Instr.indexAt 22 (.slice x0p x0l x0c) (.int .i64 x8)) w fun v1 w1 => asA v1 fun ad1 => ldK Try.prog w1 ad1 fun v2 => asI .i64 v2 fun n1 => ldK Try.prog w1 (Addr.add ad1 1) fun v3 => asB v3 fun b1 => ldK Try.prog w1 (Addr.add ad1 2) fun v4 => asI .i64 v4 fun n2 => ldK Try.prog w1 (Addr.add ad1 3) fun v5 => asI .i64 v5 fun n3 => CallV Try.prog 11 #[(.pointer x7), (.agg #[(.int .i64 n1), (.bool b1), (.int .i64 n2), (.int .i64 n3)])] w1 fun v6 w2 => asT v6 fun t1_0 => asEnd t1_0 (L5_1 R k x0p x0l x0c x1 x2 x7 (IntKind.wrap .i64 (x8 + 1)) w2)) (J5_0 R x1 x2 x7 w)
def F5 (a0p : Option Addr) (a0l : Nat) (a0c : Nat) (a1 : Int) (a2 : Int) (w : World) (R : Value → World → Prop) : Prop :=
  ifB (decide (((a0l : Nat) : Int) > 2048)) (R (.bool true) w) (CallV Try.prog 10 #[] w fun v1 w1 => asP v1 fun p1 => ifB (Option.isNone p1) (R (.bool false) w1) (∃ m, L5_1 R m a0p a0l a0c a1 a2 p1 0 w1))
def A5 (R : Value → World → Prop) : Ann := (.seq .no (.seq .no (.seq .no (.seq .no (.join (fun e ds w => nilD ds (asI .i64 (e 1) fun x1 => asI .i64 (e 2) fun x2 => asP (e 7) fun x7 => J5_0 R x1 x2 x7 w)) (.seq .no (.block (.loop (fun m e ds w => nilD ds (asL (e 0) fun x0p x0l x0c => asI .i64 (e 1) fun x1 => asI .i64 (e 2) fun x2 => asP (e 7) fun x7 => asI .i64 (e 8) fun x8 => L5_1 R m x0p x0l x0c x1 x2 x7 x8 w)) (fun kL5_1 => .no)))) (.seq .no (.seq .no (.seq .no (.seq .no (.seq .no (.join (fun e ds w => nilD ds (asI .i64 (e 1) fun x1 => asI .i64 (e 2) fun x2 => asP (e 7) fun x7 => asA (e 9) fun x9 => asI .i64 (e 12) fun x12 => asB (e 13) fun x13 => asI .i64 (e 14) fun x14 => J5_2 R x1 x2 x7 x9 x12 x13 x14 w)) .no (.join (fun e ds w => nilD ds (asI .i64 (e 1) fun x1 => asP (e 7) fun x7 => asA (e 9) fun x9 => asI .i64 (e 14) fun x14 => J5_3 R x1 x7 x9 x14 w)) .no (.join (fun e ds w => nilD ds (asI .i64 (e 1) fun x1 => asP (e 7) fun x7 => asA (e 9) fun x9 => asI .i64 (e 14) fun x14 => J5_4 R x1 x7 x9 x14 w)) (.seq .no (.block (.loop (fun m e ds w => nilD ds (asI .i64 (e 1) fun x1 => asP (e 7) fun x7 => asA (e 9) fun x9 => asI .i64 (e 14) fun x14 => asI .i64 (e 15) fun x15 => L5_5 R m x1 x7 x9 x14 x15 w)) (fun kL5_5 => .no)))) (.join (fun e ds w => nilD ds (asI .i64 (e 1) fun x1 => asP (e 7) fun x7 => asA (e 9) fun x9 => J5_6 R x1 x7 x9 w)) .no (.seq .no (.join (fun e ds w => nilD ds (asI .i64 (e 18) fun x18 => asB (e 19) fun x19 => J5_7 R x18 x19 w)) (.seq .no (.block (.loop (fun m e ds w => nilD ds (asI .i64 (e 1) fun x1 => asP (e 7) fun x7 => asA (e 9) fun x9 => asI .i64 (e 18) fun x18 => asB (e 19) fun x19 => asI .i64 (e 20) fun x20 => L5_8 R m x1 x7 x9 x18 x19 x20 w)) (fun kL5_8 => .no)))) .no))))))))))))))))
theorem sides5 (R : Value → World → Prop) : fnSides Try.prog Try.f5 (A5 R) R := by
  refine And.intro ?_ ?_
  ·
    exact trivial
  ·
    refine And.intro ?_ ?_
    ·
      exact trivial
    ·
      refine And.intro ?_ ?_
      ·
        exact trivial
      ·
        refine And.intro ?_ ?_
        ·
          exact trivial
        ·
          refine And.intro ?_ (And.intro ?_ ?_)
          ·
            intro e ds w h
            have hn := nilD_elim h
            clear h
            obtain ⟨rfl, h⟩ := hn
            obtain ⟨x1, z1, h⟩ := asI_elim h
            obtain ⟨x2, z2, h⟩ := asI_elim h
            obtain ⟨x7, z7, h⟩ := asP_elim h
            have he : (put (put (put e (some 1) (.int .i64 x1)) (some 2) (.int .i64 x2)) (some 7) (.pointer x7)) = e := by rw [put_id z1, put_id z2, put_id z7]
            rw [← he]
            clear he
            exact Eq.mp (by kernel_rfl) h
          ·
            refine And.intro ?_ ?_
            ·
              exact trivial
            ·
              refine And.intro ?_ (And.intro ?_ ?_)
              ·
                intro e ds w h
                have hn := nilD_elim h
                clear h
                obtain ⟨rfl, h⟩ := hn
                obtain ⟨x0p, x0l, x0c, z0, h⟩ := asL_elim h
                obtain ⟨x1, z1, h⟩ := asI_elim h
                obtain ⟨x2, z2, h⟩ := asI_elim h
                obtain ⟨x7, z7, h⟩ := asP_elim h
                obtain ⟨x8, z8, h⟩ := asI_elim h
                exact h
              ·
                intro kL5_1 e ds w h
                have hn := nilD_elim h
                clear h
                obtain ⟨rfl, h⟩ := hn
                obtain ⟨x0p, x0l, x0c, z0, h⟩ := asL_elim h
                obtain ⟨x1, z1, h⟩ := asI_elim h
                obtain ⟨x2, z2, h⟩ := asI_elim h
                obtain ⟨x7, z7, h⟩ := asP_elim h
                obtain ⟨x8, z8, h⟩ := asI_elim h
                have he : (put (put (put (put (put e (some 0) (.slice x0p x0l x0c)) (some 1) (.int .i64 x1)) (some 2) (.int .i64 x2)) (some 7) (.pointer x7)) (some 8) (.int .i64 x8)) = e := by rw [put_id z0, put_id z1, put_id z2, put_id z7, put_id z8]
                rw [← he]
                clear he
                exact Eq.mp (by kernel_rfl) h
              ·
                intro kL5_1
                exact trivial
          ·
            refine And.intro ?_ ?_
            ·
              exact trivial
            ·
              refine And.intro ?_ ?_
              ·
                exact trivial
              ·
                refine And.intro ?_ ?_
                ·
                  exact trivial
                ·
                  refine And.intro ?_ ?_
                  ·
                    exact trivial
                  ·
                    refine And.intro ?_ ?_
                    ·
                      exact trivial
                    ·
                      refine And.intro ?_ (And.intro ?_ ?_)
                      ·
                        intro e ds w h
                        have hn := nilD_elim h
                        clear h
                        obtain ⟨rfl, h⟩ := hn
                        obtain ⟨x1, z1, h⟩ := asI_elim h
                        obtain ⟨x2, z2, h⟩ := asI_elim h
                        obtain ⟨x7, z7, h⟩ := asP_elim h
                        obtain ⟨x9, z9, h⟩ := asA_elim h
                        obtain ⟨x12, z12, h⟩ := asI_elim h
                        obtain ⟨x13, z13, h⟩ := asB_elim h
                        obtain ⟨x14, z14, h⟩ := asI_elim h
                        have he : (put (put (put (put (put (put (put e (some 1) (.int .i64 x1)) (some 2) (.int .i64 x2)) (some 7) (.pointer x7)) (some 9) (.pointer (some x9))) (some 12) (.int .i64 x12)) (some 13) (.bool x13)) (some 14) (.int .i64 x14)) = e := by rw [put_id z1, put_id z2, put_id z7, put_id z9, put_id z12, put_id z13, put_id z14]
                        rw [← he]
                        clear he
                        exact Eq.mp (by kernel_rfl) h
                      ·
                        exact trivial
                      ·
                        refine And.intro ?_ (And.intro ?_ ?_)
                        ·
                          intro e ds w h
                          have hn := nilD_elim h
                          clear h
                          obtain ⟨rfl, h⟩ := hn
                          obtain ⟨x1, z1, h⟩ := asI_elim h
                          obtain ⟨x7, z7, h⟩ := asP_elim h
                          obtain ⟨x9, z9, h⟩ := asA_elim h
                          obtain ⟨x14, z14, h⟩ := asI_elim h
                          have he : (put (put (put (put e (some 1) (.int .i64 x1)) (some 7) (.pointer x7)) (some 9) (.pointer (some x9))) (some 14) (.int .i64 x14)) = e := by rw [put_id z1, put_id z7, put_id z9, put_id z14]
                          rw [← he]
                          clear he
                          exact Eq.mp (by kernel_rfl) h
                        ·
                          exact trivial
                        ·
                          refine And.intro ?_ (And.intro ?_ ?_)
                          ·
                            intro e ds w h
                            have hn := nilD_elim h
                            clear h
                            obtain ⟨rfl, h⟩ := hn
                            obtain ⟨x1, z1, h⟩ := asI_elim h
                            obtain ⟨x7, z7, h⟩ := asP_elim h
                            obtain ⟨x9, z9, h⟩ := asA_elim h
                            obtain ⟨x14, z14, h⟩ := asI_elim h
                            have he : (put (put (put (put e (some 1) (.int .i64 x1)) (some 7) (.pointer x7)) (some 9) (.pointer (some x9))) (some 14) (.int .i64 x14)) = e := by rw [put_id z1, put_id z7, put_id z9, put_id z14]
                            rw [← he]
                            clear he
                            exact Eq.mp (by kernel_rfl) h
                          ·
                            refine And.intro ?_ ?_
                            ·
                              exact trivial
                            ·
                              refine And.intro ?_ (And.intro ?_ ?_)
                              ·
                                intro e ds w h
                                have hn := nilD_elim h
                                clear h
                                obtain ⟨rfl, h⟩ := hn
                                obtain ⟨x1, z1, h⟩ := asI_elim h
                                obtain ⟨x7, z7, h⟩ := asP_elim h
                                obtain ⟨x9, z9, h⟩ := asA_elim h
                                obtain ⟨x14, z14, h⟩ := asI_elim h
                                obtain ⟨x15, z15, h⟩ := asI_elim h
                                exact h
                              ·
                                intro kL5_5 e ds w h
                                have hn := nilD_elim h
                                clear h
                                obtain ⟨rfl, h⟩ := hn
                                obtain ⟨x1, z1, h⟩ := asI_elim h
                                obtain ⟨x7, z7, h⟩ := asP_elim h
                                obtain ⟨x9, z9, h⟩ := asA_elim h
                                obtain ⟨x14, z14, h⟩ := asI_elim h
                                obtain ⟨x15, z15, h⟩ := asI_elim h
                                have he : (put (put (put (put (put e (some 1) (.int .i64 x1)) (some 7) (.pointer x7)) (some 9) (.pointer (some x9))) (some 14) (.int .i64 x14)) (some 15) (.int .i64 x15)) = e := by rw [put_id z1, put_id z7, put_id z9, put_id z14, put_id z15]
                                rw [← he]
                                clear he
                                exact Eq.mp (by kernel_rfl) h
                              ·
                                intro kL5_5
                                exact trivial
                          ·
                            refine And.intro ?_ (And.intro ?_ ?_)
                            ·
                              intro e ds w h
                              have hn := nilD_elim h
                              clear h
                              obtain ⟨rfl, h⟩ := hn
                              obtain ⟨x1, z1, h⟩ := asI_elim h
                              obtain ⟨x7, z7, h⟩ := asP_elim h
                              obtain ⟨x9, z9, h⟩ := asA_elim h
                              have he : (put (put (put e (some 1) (.int .i64 x1)) (some 7) (.pointer x7)) (some 9) (.pointer (some x9))) = e := by rw [put_id z1, put_id z7, put_id z9]
                              rw [← he]
                              clear he
                              exact Eq.mp (by kernel_rfl) h
                            ·
                              exact trivial
                            ·
                              refine And.intro ?_ ?_
                              ·
                                exact trivial
                              ·
                                refine And.intro ?_ (And.intro ?_ ?_)
                                ·
                                  intro e ds w h
                                  have hn := nilD_elim h
                                  clear h
                                  obtain ⟨rfl, h⟩ := hn
                                  obtain ⟨x18, z18, h⟩ := asI_elim h
                                  obtain ⟨x19, z19, h⟩ := asB_elim h
                                  have he : (put (put e (some 18) (.int .i64 x18)) (some 19) (.bool x19)) = e := by rw [put_id z18, put_id z19]
                                  rw [← he]
                                  clear he
                                  exact Eq.mp (by kernel_rfl) h
                                ·
                                  refine And.intro ?_ ?_
                                  ·
                                    exact trivial
                                  ·
                                    refine And.intro ?_ (And.intro ?_ ?_)
                                    ·
                                      intro e ds w h
                                      have hn := nilD_elim h
                                      clear h
                                      obtain ⟨rfl, h⟩ := hn
                                      obtain ⟨x1, z1, h⟩ := asI_elim h
                                      obtain ⟨x7, z7, h⟩ := asP_elim h
                                      obtain ⟨x9, z9, h⟩ := asA_elim h
                                      obtain ⟨x18, z18, h⟩ := asI_elim h
                                      obtain ⟨x19, z19, h⟩ := asB_elim h
                                      obtain ⟨x20, z20, h⟩ := asI_elim h
                                      exact h
                                    ·
                                      intro kL5_8 e ds w h
                                      have hn := nilD_elim h
                                      clear h
                                      obtain ⟨rfl, h⟩ := hn
                                      obtain ⟨x1, z1, h⟩ := asI_elim h
                                      obtain ⟨x7, z7, h⟩ := asP_elim h
                                      obtain ⟨x9, z9, h⟩ := asA_elim h
                                      obtain ⟨x18, z18, h⟩ := asI_elim h
                                      obtain ⟨x19, z19, h⟩ := asB_elim h
                                      obtain ⟨x20, z20, h⟩ := asI_elim h
                                      have he : (put (put (put (put (put (put e (some 1) (.int .i64 x1)) (some 7) (.pointer x7)) (some 9) (.pointer (some x9))) (some 18) (.int .i64 x18)) (some 19) (.bool x19)) (some 20) (.int .i64 x20)) = e := by rw [put_id z1, put_id z7, put_id z9, put_id z18, put_id z19, put_id z20]
                                      rw [← he]
                                      clear he
                                      exact Eq.mp (by kernel_rfl) h
                                    ·
                                      intro kL5_8
                                      exact trivial
                                ·
                                  exact trivial
theorem call5 (a0p : Option Addr) (a0l : Nat) (a0c : Nat) (a1 : Int) (a2 : Int) (w : World) (R : Value → World → Prop) (h : F5 a0p a0l a0c a1 a2 w R) : CallV Try.prog 5 #[(.slice a0p a0l a0c), (.int .i64 a1), (.int .i64 a2)] w R :=
  callV_of (fn := Try.f5) (an := A5 R) (args := [(.slice a0p a0l a0c), (.int .i64 a1), (.int .i64 a2)]) Try.func5 rfl (sides5 R) (Eq.mp (by kernel_rfl) h)

/-! 6 vouch/vouchlaw3.UndoOrders -/
def J6_3 (R : Value → World → Prop) (x3 : Option Addr) (x5 : Addr) (w : World) : Prop :=
  ldK Try.prog w x5 fun v1 => asL v1 fun l1p l1l l1c => ldK Try.prog w (Addr.add x5 1) fun v2 => asL v2 fun l2p l2l l2c => CallV Try.prog 19 #[(.pointer x3), (.agg #[(.slice l1p l1l l1c), (.slice l2p l2l l2c)])] w fun v3 w1 => asB v3 fun b1 => ifB b1 (CallV Try.prog 20 #[] w1 fun v4 w2 => asB v4 fun b2 => R (.bool b2) w2) (R (.bool false) w1)
def L6_4 (R : Value → World → Prop) : Nat → Option Addr → Addr → Option Addr → Nat → Nat → Option Addr → Nat → Nat → Option Addr → Nat → Nat → Int → Int → World → Prop
  | 0 => fun _ _ _ _ _ _ _ _ _ _ _ _ _ _ => False
  | k + 1 => fun x3 x5 x6p x6l x6c x7p x7l x7c x8p x8l x8c x9 x10 w => ifB (decide ((x10 : Int) < x9)) (drewK w fun w1 => semK Try.prog (Instr.indexAt 29 (.slice x6p x6l x6c) (.int .i64 x10)) w1 fun v1 w2 => asA v1 fun ad1 => ldK Try.prog w1 ad1 fun v2 => asI .i64 v2 fun n1 => ldK Try.prog w1 x5 fun v3 => asL v3 fun l1p l1l l1c => semK Try.prog (Instr.indexAt 29 (.slice l1p l1l l1c) (.int .i64 (IntKind.wrap .i64 ((IntKind.wrap .i64 (x9 - 1)) - x10)))) w1 fun v4 w3 => asA v4 fun ad2 => ldK Try.prog w1 ad2 fun v5 => asI .i64 v5 fun n2 => ifB ((n1 : Int) != n2) (R (.bool false) w1) (ldK Try.prog w1 x5 fun v6 => asL v6 fun l2p l2l l2c => semK Try.prog (Instr.indexAt 29 (.slice l2p l2l l2c) (.int .i64 x10)) w1 fun v7 w4 => asA v7 fun ad3 => ldK Try.prog w1 ad3 fun v8 => asI .i64 v8 fun n3 => CallV Try.prog 26 #[(.slice x7p x7l x7c), (.int .i64 n3)] w1 fun v9 w5 => asB v9 fun b1 => ifB (!b1) (R (.bool false) w5) (ldK Try.prog w5 x5 fun v10 => asL v10 fun l3p l3l l3c => semK Try.prog (Instr.indexAt 29 (.slice l3p l3l l3c) (.int .i64 x10)) w5 fun v11 w6 => asA v11 fun ad4 => ldK Try.prog w5 ad4 fun v12 => asI .i64 v12 fun n4 => CallV Try.prog 26 #[(.slice x8p x8l x8c), (.int .i64 n4)] w5 fun v13 w7 => asB v13 fun b2 => ifB (!b2) (R (.bool false) w7) (L6_4 R k x3 x5 x6p x6l x6c x7p x7l x7c x8p x8l x8c x9 (IntKind.wrap .i64 (x10 + 1)) w7)))) (J6_3 R x3 x5 w)
def J6_2 (R : Value → World → Prop) (x3 : Option Addr) (x5 : Addr) (x6p : Option Addr) (x6l : Nat) (x6c : Nat) (x7p : Option Addr) (x7l : Nat) (x7c : Nat) (x8p : Option Addr) (x8l : Nat) (x8c : Nat) (x9 : Int) (w : World) : Prop :=
  ∃ m, L6_4 R m x3 x5 x6p x6l x6c x7p x7l x7c x8p x8l x8c x9 0 w
def J6_0 (R : Value → World → Prop) (x3 : Option Addr) (w : World) : Prop :=
  CallV Try.prog 13 #[(.pointer x3)] w fun v1 w1 => asG v1 fun q1_0 => asHd q1_0 fun q1_0x q1_1 => asL q1_0x fun l1p l1l l1c => asHd q1_1 fun q1_1x q1_2 => asL q1_1x fun l2p l2l l2c => asEnd q1_2 (allocK w1 (.cells #[(.slice none 0 0), (.slice none 0 0)] 31) fun w2 => semU Try.prog (Instr.storeAt 31 (.pointer (some ⟨w1.heap.size, 0, none⟩)) (.agg #[(.slice l1p l1l l1c), (.slice l2p l2l l2c)])) w2 fun w3 => CallV Try.prog 23 #[(.pointer x3), (.func (.func 24) #[] #[])] w3 fun v2 w4 => asL v2 fun l3p l3l l3c => CallV Try.prog 23 #[(.pointer x3), (.func (.func 25) #[] #[])] w4 fun v3 w5 => asL v3 fun l4p l4l l4c => CallV Try.prog 23 #[(.pointer x3), .nilFunc] w5 fun v4 w6 => asL v4 fun l5p l5l l5c => ldK Try.prog w6 ⟨w1.heap.size, 0, none⟩ fun v5 => asL v5 fun l6p l6l l6c => ifB (((l3l : Nat) : Int) != (l6l : Nat)) (R (.bool false) w6) (ifB (((l4l : Nat) : Int) != (l6l : Nat)) (R (.bool false) w6) (ifB (((l5l : Nat) : Int) != (l6l : Nat)) (R (.bool false) w6) (J6_2 R x3 ⟨w1.heap.size, 0, none⟩ l3p l3l l3c l4p l4l l4c l5p l5l l5c (l6l : Nat) w6))))
def L6_1 (R : Value → World → Prop) : Nat → Option Addr → Nat → Nat → Option Addr → Int → World → Prop
  | 0 => fun _ _ _ _ _ _ => False
  | k + 1 => fun x0p x0l x0c x3 x4 w => ifB (decide ((x4 : Int) < (x0l : Nat))) (semK Try.prog (Instr.indexAt 22 (.slice x0p x0l x0c) (.int .i64 x4)) w fun v1 w1 => asA v1 fun ad1 => ldK Try.prog w1 ad1 fun v2 => asI .i64 v2 fun n1 => ldK Try.prog w1 (Addr.add ad1 1) fun v3 => asB v3 fun b1 => ldK Try.prog w1 (Addr.add ad1 2) fun v4 => asI .i64 v4 fun n2 => ldK Try.prog w1 (Addr.add ad1 3) fun v5 => asI .i64 v5 fun n3 => CallV Try.prog 11 #[(.pointer x3), (.agg #[(.int .i64 n1), (.bool b1), (.int .i64 n2), (.int .i64 n3)])] w1 fun v6 w2 => asT v6 fun t1_0 => asEnd t1_0 (L6_1 R k x0p x0l x0c x3 (IntKind.wrap .i64 (x4 + 1)) w2)) (J6_0 R x3 w)
def F6 (a0p : Option Addr) (a0l : Nat) (a0c : Nat) (w : World) (R : Value → World → Prop) : Prop :=
  ifB (decide (((a0l : Nat) : Int) > 2048)) (R (.bool true) w) (CallV Try.prog 10 #[] w fun v1 w1 => asP v1 fun p1 => ifB (Option.isNone p1) (R (.bool false) w1) (CallV Try.prog 12 #[(.pointer p1), (.int .i64 3), (.int .i64 3)] w1 fun v2 w2 => asT v2 fun t1_0 => asEnd t1_0 (∃ m, L6_1 R m a0p a0l a0c p1 0 w2)))
def A6 (R : Value → World → Prop) : Ann := (.seq .no (.seq .no (.seq .no (.seq .no (.seq .no (.join (fun e ds w => nilD ds (asP (e 3) fun x3 => J6_0 R x3 w)) (.seq .no (.block (.loop (fun m e ds w => nilD ds (asL (e 0) fun x0p x0l x0c => asP (e 3) fun x3 => asI .i64 (e 4) fun x4 => L6_1 R m x0p x0l x0c x3 x4 w)) (fun kL6_1 => .no)))) (.seq .no (.seq .no (.seq .no (.seq .no (.seq .no (.join (fun e ds w => nilD ds (asP (e 3) fun x3 => asA (e 5) fun x5 => asL (e 6) fun x6p x6l x6c => asL (e 7) fun x7p x7l x7c => asL (e 8) fun x8p x8l x8c => asI .i64 (e 9) fun x9 => J6_2 R x3 x5 x6p x6l x6c x7p x7l x7c x8p x8l x8c x9 w)) .no (.join (fun e ds w => nilD ds (asP (e 3) fun x3 => asA (e 5) fun x5 => J6_3 R x3 x5 w)) (.seq .no (.block (.loop (fun m e ds w => nilD ds (asP (e 3) fun x3 => asA (e 5) fun x5 => asL (e 6) fun x6p x6l x6c => asL (e 7) fun x7p x7l x7c => asL (e 8) fun x8p x8l x8c => asI .i64 (e 9) fun x9 => asI .i64 (e 10) fun x10 => L6_4 R m x3 x5 x6p x6l x6c x7p x7l x7c x8p x8l x8c x9 x10 w)) (fun kL6_4 => (.seq .no (.seq (.block (.seq (.draw [0, 1, 2, 3, 4, 5, 6, 7, 8, 9, 10, 11, 12, 13, 14, 15, 16, 17, 18, 19, 20, 21, 22, 23, 24, 25, 26, 27, 28, 29, 30, 31, 32]) .no)) .no)))))) .no)))))))))))))
theorem sides6 (R : Value → World → Prop) : fnSides Try.prog Try.f6 (A6 R) R := by
  refine And.intro ?_ ?_
  ·
    exact trivial
  ·
    refine And.intro ?_ ?_
    ·
      exact trivial
    ·
      refine And.intro ?_ ?_
      ·
        exact trivial
      ·
        refine And.intro ?_ ?_
        ·
          exact trivial
        ·
          refine And.intro ?_ ?_
          ·
            exact trivial
          ·
            refine And.intro ?_ (And.intro ?_ ?_)
            ·
              intro e ds w h
              have hn := nilD_elim h
              clear h
              obtain ⟨rfl, h⟩ := hn
              obtain ⟨x3, z3, h⟩ := asP_elim h
              have he : (put e (some 3) (.pointer x3)) = e := by rw [put_id z3]
              rw [← he]
              clear he
              exact Eq.mp (by kernel_rfl) h
            ·
              refine And.intro ?_ ?_
              ·
                exact trivial
              ·
                refine And.intro ?_ (And.intro ?_ ?_)
                ·
                  intro e ds w h
                  have hn := nilD_elim h
                  clear h
                  obtain ⟨rfl, h⟩ := hn
                  obtain ⟨x0p, x0l, x0c, z0, h⟩ := asL_elim h
                  obtain ⟨x3, z3, h⟩ := asP_elim h
                  obtain ⟨x4, z4, h⟩ := asI_elim h
                  exact h
                ·
                  intro kL6_1 e ds w h
                  have hn := nilD_elim h
                  clear h
                  obtain ⟨rfl, h⟩ := hn
                  obtain ⟨x0p, x0l, x0c, z0, h⟩ := asL_elim h
                  obtain ⟨x3, z3, h⟩ := asP_elim h
                  obtain ⟨x4, z4, h⟩ := asI_elim h
                  have he : (put (put (put e (some 0) (.slice x0p x0l x0c)) (some 3) (.pointer x3)) (some 4) (.int .i64 x4)) = e := by rw [put_id z0, put_id z3, put_id z4]
                  rw [← he]
                  clear he
                  exact Eq.mp (by kernel_rfl) h
                ·
                  intro kL6_1
                  exact trivial
            ·
              refine And.intro ?_ ?_
              ·
                exact trivial
              ·
                refine And.intro ?_ ?_
                ·
                  exact trivial
                ·
                  refine And.intro ?_ ?_
                  ·
                    exact trivial
                  ·
                    refine And.intro ?_ ?_
                    ·
                      exact trivial
                    ·
                      refine And.intro ?_ ?_
                      ·
                        exact trivial
                      ·
                        refine And.intro ?_ (And.intro ?_ ?_)
                        ·
                          intro e ds w h
                          have hn := nilD_elim h
                          clear h
                          obtain ⟨rfl, h⟩ := hn
                          obtain ⟨x3, z3, h⟩ := asP_elim h
                          obtain ⟨x5, z5, h⟩ := asA_elim h
                          obtain ⟨x6p, x6l, x6c, z6, h⟩ := asL_elim h
                          obtain ⟨x7p, x7l, x7c, z7, h⟩ := asL_elim h
                          obtain ⟨x8p, x8l, x8c, z8, h⟩ := asL_elim h
                          obtain ⟨x9, z9, h⟩ := asI_elim h
                          have he : (put (put (put (put (put (put e (some 3) (.pointer x3)) (some 5) (.pointer (some x5))) (some 6) (.slice x6p x6l x6c)) (some 7) (.slice x7p x7l x7c)) (some 8) (.slice x8p x8l x8c)) (some 9) (.int .i64 x9)) = e := by rw [put_id z3, put_id z5, put_id z6, put_id z7, put_id z8, put_id z9]
                          rw [← he]
                          clear he
                          exact Eq.mp (by kernel_rfl) h
                        ·
                          exact trivial
                        ·
                          refine And.intro ?_ (And.intro ?_ ?_)
                          ·
                            intro e ds w h
                            have hn := nilD_elim h
                            clear h
                            obtain ⟨rfl, h⟩ := hn
                            obtain ⟨x3, z3, h⟩ := asP_elim h
                            obtain ⟨x5, z5, h⟩ := asA_elim h
                            have he : (put (put e (some 3) (.pointer x3)) (some 5) (.pointer (some x5))) = e := by rw [put_id z3, put_id z5]
                            rw [← he]
                            clear he
                            exact Eq.mp (by kernel_rfl) h
                          ·
                            refine And.intro ?_ ?_
                            ·
                              exact trivial
                            ·
                              refine And.intro ?_ (And.intro ?_ ?_)
                              ·
                                intro e ds w h
                                have hn := nilD_elim h
                                clear h
                                obtain ⟨rfl, h⟩ := hn
                                obtain ⟨x3, z3, h⟩ := asP_elim h
                                obtain ⟨x5, z5, h⟩ := asA_elim h
                                obtain ⟨x6p, x6l, x6c, z6, h⟩ := asL_elim h
                                obtain ⟨x7p, x7l, x7c, z7, h⟩ := asL_elim h
                                obtain ⟨x8p, x8l, x8c, z8, h⟩ := asL_elim h
                                obtain ⟨x9, z9, h⟩ := asI_elim h
                                obtain ⟨x10, z10, h⟩ := asI_elim h
                                exact h
                              ·
                                intro kL6_4 e ds w h
                                have hn := nilD_elim h
                                clear h
                                obtain ⟨rfl, h⟩ := hn
                                obtain ⟨x3, z3, h⟩ := asP_elim h
                                obtain ⟨x5, z5, h⟩ := asA_elim h
                                obtain ⟨x6p, x6l, x6c, z6, h⟩ := asL_elim h
                                obtain ⟨x7p, x7l, x7c, z7, h⟩ := asL_elim h
                                obtain ⟨x8p, x8l, x8c, z8, h⟩ := asL_elim h
                                obtain ⟨x9, z9, h⟩ := asI_elim h
                                obtain ⟨x10, z10, h⟩ := asI_elim h
                                have he : (put (put (put (put (put (put (put e (some 3) (.pointer x3)) (some 5) (.pointer (some x5))) (some 6) (.slice x6p x6l x6c)) (some 7) (.slice x7p x7l x7c)) (some 8) (.slice x8p x8l x8c)) (some 9) (.int .i64 x9)) (some 10) (.int .i64 x10)) = e := by rw [put_id z3, put_id z5, put_id z6, put_id z7, put_id z8, put_id z9, put_id z10]
                                rw [← he]
                                clear he
                                exact Eq.mp (by kernel_rfl) h
                              ·
                                intro kL6_4
                                refine And.intro ?_ ?_
                                ·
                                  exact trivial
                                ·
                                  refine And.intro ?_ ?_
                                  ·
                                    refine And.intro ?_ ?_
                                    ·
                                      exact trivial
                                    ·
                                      exact trivial
                                  ·
                                    exact trivial
                          ·
                            exact trivial
theorem call6 (a0p : Option Addr) (a0l : Nat) (a0c : Nat) (w : World) (R : Value → World → Prop) (h : F6 a0p a0l a0c w R) : CallV Try.prog 6 #[(.slice a0p a0l a0c)] w R :=
  callV_of (fn := Try.f6) (an := A6 R) (args := [(.slice a0p a0l a0c)]) Try.func6 rfl (sides6 R) (Eq.mp (by kernel_rfl) h)

/-! 7 vouch/vouchlaw3.UndoOwn -/
def J7_3 (R : Value → World → Prop) (C_L7_2 : Option Addr → Nat → Nat → Option Addr → Option Addr → Option Addr → Nat → Nat → Int → World → Prop) (x0p : Option Addr) (x0l : Nat) (x0c : Nat) (x3 : Option Addr) (x4 : Option Addr) (x5p : Option Addr) (x5l : Nat) (x5c : Nat) (x6 : Int) (w : World) : Prop :=
  semK Try.prog (Instr.indexAt 22 (.slice x0p x0l x0c) (.int .i64 x6)) w fun v1 w1 => asA v1 fun ad1 => ldK Try.prog w1 ad1 fun v2 => asI .i64 v2 fun n1 => ldK Try.prog w1 (Addr.add ad1 1) fun v3 => asB v3 fun b1 => ldK Try.prog w1 (Addr.add ad1 2) fun v4 => asI .i64 v4 fun n2 => ldK Try.prog w1 (Addr.add ad1 3) fun v5 => asI .i64 v5 fun n3 => CallV Try.prog 11 #[(.pointer x3), (.agg #[(.int .i64 n1), (.bool b1), (.int .i64 n2), (.int .i64 n3)])] w1 fun v6 w2 => asT v6 fun t1_0 => asEnd t1_0 (CallV Try.prog 23 #[(.pointer x3), (.func (.func 27) #[] #[])] w2 fun v7 w3 => asL v7 fun l1p l1l l1c => CallV Try.prog 23 #[(.pointer x3), (.func (.func 27) #[] #[])] w3 fun v8 w4 => asL v8 fun l2p l2l l2c => CallV Try.prog 23 #[(.pointer x4), (.func (.func 27) #[] #[])] w4 fun v9 w5 => asL v9 fun l3p l3l l3c => allocK w5 (.cells #[(.slice l1p l1l l1c), (.slice l2p l2l l2c), (.slice l3p l3l l3c)] 29) fun w6 => semK Try.prog (Builtin.append_ #[48, 48] 48 #[(.slice x5p x5l x5c), (.slice (some ⟨w5.heap.size, 0, none⟩) 3 3)]) w6 fun v10 w7 => asL v10 fun l4p l4l l4c => drewK w7 fun w8 => semK Try.prog (Instr.indexAt 48 (.slice l4p l4l l4c) (.int .i64 (IntKind.wrap .i64 ((l4l : Nat) - 1)))) w8 fun v11 w9 => asA v11 fun ad2 => ldK Try.prog w8 ad2 fun v12 => asL v12 fun l5p l5l l5c => allocK w8 (.cells #[(.int .i64 4)] 3) fun w10 => (((.int .i64 (l4l : Nat)) : Value) = (.int .i64 (l4l : Nat))) ∧ ((ldK Try.prog w10 ad2 fun v13 => asL v13 fun l6p l6l l6c => ((.slice l6p l6l l6c) : Value) = (.slice l5p l5l l5c)) ∧ (CallV Try.prog 28 #[(.slice l5p l5l l5c), (.slice (some ⟨w8.heap.size, 0, none⟩) 1 1)] w10 fun v14 w11 => asB v14 fun b2 => ifB (!b2) (R (.bool false) w11) (semK Try.prog (Instr.indexAt 48 (.slice l4p l4l l4c) (.int .i64 (IntKind.wrap .i64 ((l4l : Nat) - 2)))) w11 fun v15 w12 => asA v15 fun ad3 => ldK Try.prog w11 ad3 fun v16 => asL v16 fun l7p l7l l7c => semK Try.prog (Instr.indexAt 48 (.slice l4p l4l l4c) (.int .i64 (IntKind.wrap .i64 ((l4l : Nat) - 3)))) w11 fun v17 w13 => asA v17 fun ad4 => ldK Try.prog w11 ad4 fun v18 => asL v18 fun l8p l8l l8c => CallV Try.prog 28 #[(.slice l7p l7l l7c), (.slice l8p l8l l8c)] w11 fun v19 w14 => asB v19 fun b3 => ifB (!b3) (R (.bool false) w14) (C_L7_2 x0p x0l x0c x3 x4 l4p l4l l4c (IntKind.wrap .i64 (x6 + 1)) w14)))))
def J7_6 (R : Value → World → Prop) (C_L7_5 : Option Addr → Option Addr → Option Addr → Nat → Nat → Addr → Int → World → Prop) (x3 : Option Addr) (x4 : Option Addr) (x5p : Option Addr) (x5l : Nat) (x5c : Nat) (x7 : Addr) (x8 : Int) (w : World) : Prop :=
  C_L7_5 x3 x4 x5p x5l x5c x7 (IntKind.wrap .i64 (x8 + 1)) w
def L7_7 (R : Value → World → Prop) (C_L7_5 : Option Addr → Option Addr → Option Addr → Nat → Nat → Addr → Int → World → Prop) : Nat → Option Addr → Option Addr → Option Addr → Nat → Nat → Addr → Int → Int → World → Prop
  | 0 => fun _ _ _ _ _ _ _ _ _ => False
  | k + 1 => fun x3 x4 x5p x5l x5c x7 x8 x9 w => semK Try.prog (Instr.indexAt 48 (.slice x5p x5l x5c) (.int .i64 x8)) w fun v1 w1 => asA v1 fun ad1 => ldK Try.prog w1 ad1 fun v2 => asL v2 fun l1p l1l l1c => ifB (decide ((x9 : Int) < (l1l : Nat))) (semK Try.prog (Instr.indexAt 48 (.slice x5p x5l x5c) (.int .i64 x8)) w1 fun v3 w2 => asA v3 fun ad2 => ldK Try.prog w2 ad2 fun v4 => asL v4 fun l2p l2l l2c => semK Try.prog (Instr.indexAt 29 (.slice l2p l2l l2c) (.int .i64 x9)) w2 fun v5 w3 => asA v5 fun ad3 => semU Try.prog (Instr.storeAt 3 (.pointer (some ad3)) (.int .i64 (IntKind.wrap .i64 ((-100000) - x8)))) w3 fun w4 => L7_7 R C_L7_5 k x3 x4 x5p x5l x5c x7 x8 (IntKind.wrap .i64 (x9 + 1)) w4) (J7_6 R C_L7_5 x3 x4 x5p x5l x5c x7 x8 w1)
def J7_10 (R : Value → World → Prop) (C_L7_9 : Option Addr → Option Addr → Option Addr → Nat → Nat → Addr → Option Addr → Nat → Nat → Int → World → Prop) (x3 : Option Addr) (x4 : Option Addr) (x5p : Option Addr) (x5l : Nat) (x5c : Nat) (x7 : Addr) (x10p : Option Addr) (x10l : Nat) (x10c : Nat) (x11 : Int) (w : World) : Prop :=
  C_L7_9 x3 x4 x5p x5l x5c x7 x10p x10l x10c (IntKind.wrap .i64 (x11 + 1)) w
def J7_11 (R : Value → World → Prop) (C_L7_9 : Option Addr → Option Addr → Option Addr → Nat → Nat → Addr → Option Addr → Nat → Nat → Int → World → Prop) (x3 : Option Addr) (x4 : Option Addr) (x5p : Option Addr) (x5l : Nat) (x5c : Nat) (x7 : Addr) (x10p : Option Addr) (x10l : Nat) (x10c : Nat) (x11 : Int) (x12p : Option Addr) (x12l : Nat) (x12c : Nat) (w : World) : Prop :=
  allocK w (.cells #[(.slice x12p x12l x12c)] 29) fun w1 => semK Try.prog (Builtin.append_ #[48, 48] 48 #[(.slice x10p x10l x10c), (.slice (some ⟨w.heap.size, 0, none⟩) 1 1)]) w1 fun v1 w2 => asL v1 fun l1p l1l l1c => J7_10 R C_L7_9 x3 x4 x5p x5l x5c x7 l1p l1l l1c x11 w2
def L7_12 (R : Value → World → Prop) (C_L7_9 : Option Addr → Option Addr → Option Addr → Nat → Nat → Addr → Option Addr → Nat → Nat → Int → World → Prop) : Nat → Option Addr → Option Addr → Option Addr → Nat → Nat → Addr → Option Addr → Nat → Nat → Int → Option Addr → Nat → Nat → Int → World → Prop
  | 0 => fun _ _ _ _ _ _ _ _ _ _ _ _ _ _ _ => False
  | k + 1 => fun x3 x4 x5p x5l x5c x7 x10p x10l x10c x11 x12p x12l x12c x13 w => ifB (decide ((x13 : Int) < 70)) (allocK w (.cells #[(.int .i64 (IntKind.wrap .i64 ((-100000) - x11)))] 3) fun w1 => semK Try.prog (Builtin.append_ #[29, 29] 29 #[(.slice x12p x12l x12c), (.slice (some ⟨w.heap.size, 0, none⟩) 1 1)]) w1 fun v1 w2 => asL v1 fun l1p l1l l1c => L7_12 R C_L7_9 k x3 x4 x5p x5l x5c x7 x10p x10l x10c x11 l1p l1l l1c (IntKind.wrap .i64 (x13 + 1)) w2) (J7_11 R C_L7_9 x3 x4 x5p x5l x5c x7 x10p x10l x10c x11 x12p x12l x12c w)
def J7_15 (R : Value → World → Prop) (C_L7_14 : Option Addr → Option Addr → Option Addr → Nat → Nat → Addr → Option Addr → Nat → Nat → Int → World → Prop) (x3 : Option Addr) (x4 : Option Addr) (x5p : Option Addr) (x5l : Nat) (x5c : Nat) (x7 : Addr) (x10p : Option Addr) (x10l : Nat) (x10c : Nat) (x14 : Int) (w : World) : Prop :=
  C_L7_14 x3 x4 x5p x5l x5c x7 x10p x10l x10c (IntKind.wrap .i64 (x14 + 1)) w
def L7_16 (R : Value → World → Prop) (C_L7_14 : Option Addr → Option Addr → Option Addr → Nat → Nat → Addr → Option Addr → Nat → Nat → Int → World → Prop) : Nat → Option Addr → Option Addr → Option Addr → Nat → Nat → Addr → Option Addr → Nat → Nat → Int → Int → World → Prop
  | 0 => fun _ _ _ _ _ _ _ _ _ _ _ _ => False
  | k + 1 => fun x3 x4 x5p x5l x5c x7 x10p x10l x10c x14 x15 w => semK Try.prog (Instr.indexAt 48 (.slice x10p x10l x10c) (.int .i64 x14)) w fun v1 w1 => asA v1 fun ad1 => ldK Try.prog w1 ad1 fun v2 => asL v2 fun l1p l1l l1c => ifB (decide ((x15 : Int) < (l1l : Nat))) (semK Try.prog (Instr.indexAt 48 (.slice x10p x10l x10c) (.int .i64 x14)) w1 fun v3 w2 => asA v3 fun ad2 => ldK Try.prog w2 ad2 fun v4 => asL v4 fun l2p l2l l2c => semK Try.prog (Instr.indexAt 29 (.slice l2p l2l l2c) (.int .i64 x15)) w2 fun v5 w3 => asA v5 fun ad3 => ldK Try.prog w3 ad3 fun v6 => asI .i64 v6 fun n1 => ifB ((n1 : Int) != (IntKind.wrap .i64 ((-100000) - x14))) (R (.bool false) w3) (semK Try.prog (Instr.indexAt 48 (.slice x5p x5l x5c) (.int .i64 x14)) w3 fun v7 w4 => asA v7 fun ad4 => ldK Try.prog w4 ad4 fun v8 => asL v8 fun l3p l3l l3c => ifB (decide ((x15 : Int) < (l3l : Nat))) (semK Try.prog (Instr.indexAt 48 (.slice x5p x5l x5c) (.int .i64 x14)) w4 fun v9 w5 => asA v9 fun ad5 => ldK Try.prog w5 ad5 fun v10 => asL v10 fun l4p l4l l4c => semK Try.prog (Instr.indexAt 29 (.slice l4p l4l l4c) (.int .i64 x15)) w5 fun v11 w6 => asA v11 fun ad6 => ldK Try.prog w6 ad6 fun v12 => asI .i64 v12 fun n2 => ifB ((n2 : Int) != (IntKind.wrap .i64 ((-100000) - x14))) (R (.bool false) w6) (L7_16 R C_L7_14 k x3 x4 x5p x5l x5c x7 x10p x10l x10c x14 (IntKind.wrap .i64 (x15 + 1)) w6)) (L7_16 R C_L7_14 k x3 x4 x5p x5l x5c x7 x10p x10l x10c x14 (IntKind.wrap .i64 (x15 + 1)) w4))) (J7_15 R C_L7_14 x3 x4 x5p x5l x5c x7 x10p x10l x10c x14 w1)
def J7_13 (R : Value → World → Prop) (x3 : Option Addr) (x4 : Option Addr) (x7 : Addr) (w : World) : Prop :=
  ldK Try.prog w x7 fun v1 => asL v1 fun l1p l1l l1c => ldK Try.prog w (Addr.add x7 1) fun v2 => asL v2 fun l2p l2l l2c => CallV Try.prog 19 #[(.pointer x3), (.agg #[(.slice l1p l1l l1c), (.slice l2p l2l l2c)])] w fun v3 w1 => asB v3 fun b1 => ifB b1 (allocK w1 (.cells #[(.int .i64 4)] 3) fun w2 => allocK w2 (.cells #[(.int .i64 4)] 3) fun w3 => CallV Try.prog 19 #[(.pointer x4), (.agg #[(.slice (some ⟨w1.heap.size, 0, none⟩) 1 1), (.slice (some ⟨w2.heap.size, 0, none⟩) 1 1)])] w3 fun v4 w4 => asB v4 fun b2 => ifB b2 (CallV Try.prog 20 #[] w4 fun v5 w5 => asB v5 fun b3 => R (.bool b3) w5) (R (.bool false) w4)) (R (.bool false) w1)
def L7_14 (R : Value → World → Prop) : Nat → Option Addr → Option Addr → Option Addr → Nat → Nat → Addr → Option Addr → Nat → Nat → Int → World → Prop
  | 0 => fun _ _ _ _ _ _ _ _ _ _ _ => False
  | k + 1 => fun x3 x4 x5p x5l x5c x7 x10p x10l x10c x14 w => ifB (decide ((x14 : Int) < (x10l : Nat))) (∃ m, L7_16 R (L7_14 R k) m x3 x4 x5p x5l x5c x7 x10p x10l x10c x14 0 w) (J7_13 R x3 x4 x7 w)
def J7_8 (R : Value → World → Prop) (x3 : Option Addr) (x4 : Option Addr) (x5p : Option Addr) (x5l : Nat) (x5c : Nat) (x7 : Addr) (x10p : Option Addr) (x10l : Nat) (x10c : Nat) (w : World) : Prop :=
  ∃ m, L7_14 R m x3 x4 x5p x5l x5c x7 x10p x10l x10c 0 w
def L7_9 (R : Value → World → Prop) : Nat → Option Addr → Option Addr → Option Addr → Nat → Nat → Addr → Option Addr → Nat → Nat → Int → World → Prop
  | 0 => fun _ _ _ _ _ _ _ _ _ _ _ => False
  | k + 1 => fun x3 x4 x5p x5l x5c x7 x10p x10l x10c x11 w => ifB (decide ((x11 : Int) < (x5l : Nat))) (semK Try.prog (Instr.indexAt 48 (.slice x5p x5l x5c) (.int .i64 x11)) w fun v1 w1 => asA v1 fun ad1 => ldK Try.prog w1 ad1 fun v2 => asL v2 fun l1p l1l l1c => ∃ m, L7_12 R (L7_9 R k) m x3 x4 x5p x5l x5c x7 x10p x10l x10c x11 l1p l1l l1c 0 w1) (J7_8 R x3 x4 x5p x5l x5c x7 x10p x10l x10c w)
def J7_4 (R : Value → World → Prop) (x3 : Option Addr) (x4 : Option Addr) (x5p : Option Addr) (x5l : Nat) (x5c : Nat) (x7 : Addr) (w : World) : Prop :=
  ∃ m, L7_9 R m x3 x4 x5p x5l x5c x7 none 0 0 0 w
def L7_5 (R : Value → World → Prop) : Nat → Option Addr → Option Addr → Option Addr → Nat → Nat → Addr → Int → World → Prop
  | 0 => fun _ _ _ _ _ _ _ _ => False
  | k + 1 => fun x3 x4 x5p x5l x5c x7 x8 w => ifB (decide ((x8 : Int) < (x5l : Nat))) (∃ m, L7_7 R (L7_5 R k) m x3 x4 x5p x5l x5c x7 x8 0 w) (J7_4 R x3 x4 x5p x5l x5c x7 w)
def J7_1 (R : Value → World → Prop) (x3 : Option Addr) (x4 : Option Addr) (x5p : Option Addr) (x5l : Nat) (x5c : Nat) (w : World) : Prop :=
  CallV Try.prog 13 #[(.pointer x3)] w fun v1 w1 => asG v1 fun q1_0 => asHd q1_0 fun q1_0x q1_1 => asL q1_0x fun l1p l1l l1c => asHd q1_1 fun q1_1x q1_2 => asL q1_1x fun l2p l2l l2c => asEnd q1_2 (allocK w1 (.cells #[(.slice none 0 0), (.slice none 0 0)] 31) fun w2 => semU Try.prog (Instr.storeAt 31 (.pointer (some ⟨w1.heap.size, 0, none⟩)) (.agg #[(.slice l1p l1l l1c), (.slice l2p l2l l2c)])) w2 fun w3 => CallV Try.prog 23 #[(.pointer x3), (.func (.func 27) #[] #[])] w3 fun v2 w4 => asL v2 fun l3p l3l l3c => CallV Try.prog 23 #[(.pointer x4), (.func (.func 27) #[] #[])] w4 fun v3 w5 => asL v3 fun l4p l4l l4c => allocK w5 (.cells #[(.slice l3p l3l l3c), (.slice l4p l4l l4c)] 29) fun w6 => semK Try.prog (Builtin.append_ #[48, 48] 48 #[(.slice x5p x5l x5c), (.slice (some ⟨w5.heap.size, 0, none⟩) 2 2)]) w6 fun v4 w7 => asL v4 fun l5p l5l l5c => drewK w7 fun w8 => semK Try.prog (Instr.indexAt 48 (.slice l5p l5l l5c) (.int .i64 (IntKind.wrap .i64 ((l5l : Nat) - 2)))) w8 fun v5 w9 => asA v5 fun ad1 => ldK Try.prog w8 ad1 fun v6 => asL v6 fun l6p l6l l6c => ldK Try.prog w8 ⟨w1.heap.size, 0, none⟩ fun v7 => asL v7 fun l7p l7l l7c => CallV Try.prog 28 #[(.slice l6p l6l l6c), (.slice l7p l7l l7c)] w8 fun v8 w10 => asB v8 fun b1 => ifB (!b1) (R (.bool false) w10) (∃ m, L7_5 R m x3 x4 l5p l5l l5c ⟨w1.heap.size, 0, none⟩ 0 w10))
def L7_2 (R : Value → World → Prop) : Nat → Option Addr → Nat → Nat → Option Addr → Option Addr → Option Addr → Nat → Nat → Int → World → Prop
  | 0 => fun _ _ _ _ _ _ _ _ _ _ => False
  | k + 1 => fun x0p x0l x0c x3 x4 x5p x5l x5c x6 w => ifB (decide ((x6 : Int) < (x0l : Nat))) (ifB (decide ((x6 : Int) < 60)) (J7_3 R (L7_2 R k) x0p x0l x0c x3 x4 x5p x5l x5c x6 w) (J7_1 R x3 x4 x5p x5l x5c w)) (J7_1 R x3 x4 x5p x5l x5c w)
def J7_0 (R : Value → World → Prop) (x0p : Option Addr) (x0l : Nat) (x0c : Nat) (x3 : Option Addr) (x4 : Option Addr) (w : World) : Prop :=
  CallV Try.prog 12 #[(.pointer x3), (.int .i64 3), (.int .i64 3)] w fun v1 w1 => asT v1 fun t1_0 => asEnd t1_0 (CallV Try.prog 12 #[(.pointer x4), (.int .i64 4), (.int .i64 4)] w1 fun v2 w2 => asT v2 fun t2_0 => asEnd t2_0 (∃ m, L7_2 R m x0p x0l x0c x3 x4 none 0 0 0 w2))
def F7 (a0p : Option Addr) (a0l : Nat) (a0c : Nat) (w : World) (R : Value → World → Prop) : Prop :=
  CallV Try.prog 10 #[] w fun v1 w1 => asP v1 fun p1 => CallV Try.prog 10 #[] w1 fun v2 w2 => asP v2 fun p2 => ifB (Option.isNone p1) (R (.bool false) w2) (ifB (Option.isNone p2) (R (.bool false) w2) (J7_0 R a0p a0l a0c p1 p2 w2))
def A7 (R : Value → World → Prop) : Ann := (.seq .no (.seq .no (.seq .no (.join (fun e ds w => nilD ds (asL (e 0) fun x0p x0l x0c => asP (e 3) fun x3 => asP (e 4) fun x4 => J7_0 R x0p x0l x0c x3 x4 w)) .no (.seq .no (.seq .no (.seq .no (.join (fun e ds w => nilD ds (asP (e 3) fun x3 => asP (e 4) fun x4 => asL (e 5) fun x5p x5l x5c => J7_1 R x3 x4 x5p x5l x5c w)) (.seq .no (.block (.loop (fun m e ds w => nilD ds (asL (e 0) fun x0p x0l x0c => asP (e 3) fun x3 => asP (e 4) fun x4 => asL (e 5) fun x5p x5l x5c => asI .i64 (e 6) fun x6 => L7_2 R m x0p x0l x0c x3 x4 x5p x5l x5c x6 w)) (fun kL7_2 => (.join (fun e ds w => nilD ds (asL (e 0) fun x0p x0l x0c => asP (e 3) fun x3 => asP (e 4) fun x4 => asL (e 5) fun x5p x5l x5c => asI .i64 (e 6) fun x6 => J7_3 R (L7_2 R kL7_2) x0p x0l x0c x3 x4 x5p x5l x5c x6 w)) .no (.seq (.block (.seq .no (.seq .no (.seq (.draw [0, 1, 2, 3, 4, 5, 6, 7, 8, 9, 10, 11, 12, 13, 14, 15, 16, 17, 18, 19, 20, 21, 22, 23, 24]) .no)))) .no)))))) (.seq .no (.seq .no (.seq (.seq (.draw [0, 1, 2, 3, 4, 5, 6, 7, 8, 9]) .no) (.join (fun e ds w => nilD ds (asP (e 3) fun x3 => asP (e 4) fun x4 => asL (e 5) fun x5p x5l x5c => asA (e 7) fun x7 => J7_4 R x3 x4 x5p x5l x5c x7 w)) (.seq .no (.block (.loop (fun m e ds w => nilD ds (asP (e 3) fun x3 => asP (e 4) fun x4 => asL (e 5) fun x5p x5l x5c => asA (e 7) fun x7 => asI .i64 (e 8) fun x8 => L7_5 R m x3 x4 x5p x5l x5c x7 x8 w)) (fun kL7_5 => (.seq .no (.join (fun e ds w => nilD ds (asP (e 3) fun x3 => asP (e 4) fun x4 => asL (e 5) fun x5p x5l x5c => asA (e 7) fun x7 => asI .i64 (e 8) fun x8 => J7_6 R (L7_5 R kL7_5) x3 x4 x5p x5l x5c x7 x8 w)) (.block (.seq .no (.block (.loop (fun m e ds w => nilD ds (asP (e 3) fun x3 => asP (e 4) fun x4 => asL (e 5) fun x5p x5l x5c => asA (e 7) fun x7 => asI .i64 (e 8) fun x8 => asI .i64 (e 9) fun x9 => L7_7 R (L7_5 R kL7_5) m x3 x4 x5p x5l x5c x7 x8 x9 w)) (fun kL7_7 => .no))))) .no)))))) (.seq .no (.join (fun e ds w => nilD ds (asP (e 3) fun x3 => asP (e 4) fun x4 => asL (e 5) fun x5p x5l x5c => asA (e 7) fun x7 => asL (e 10) fun x10p x10l x10c => J7_8 R x3 x4 x5p x5l x5c x7 x10p x10l x10c w)) (.seq .no (.block (.loop (fun m e ds w => nilD ds (asP (e 3) fun x3 => asP (e 4) fun x4 => asL (e 5) fun x5p x5l x5c => asA (e 7) fun x7 => asL (e 10) fun x10p x10l x10c => asI .i64 (e 11) fun x11 => L7_9 R m x3 x4 x5p x5l x5c x7 x10p x10l x10c x11 w)) (fun kL7_9 => (.seq .no (.join (fun e ds w => nilD ds (asP (e 3) fun x3 => asP (e 4) fun x4 => asL (e 5) fun x5p x5l x5c => asA (e 7) fun x7 => asL (e 10) fun x10p x10l x10c => asI .i64 (e 11) fun x11 => J7_10 R (L7_9 R kL7_9) x3 x4 x5p x5l x5c x7 x10p x10l x10c x11 w)) (.block (.seq .no (.join (fun e ds w => nilD ds (asP (e 3) fun x3 => asP (e 4) fun x4 => asL (e 5) fun x5p x5l x5c => asA (e 7) fun x7 => asL (e 10) fun x10p x10l x10c => asI .i64 (e 11) fun x11 => asL (e 12) fun x12p x12l x12c => J7_11 R (L7_9 R kL7_9) x3 x4 x5p x5l x5c x7 x10p x10l x10c x11 x12p x12l x12c w)) (.seq .no (.block (.loop (fun m e ds w => nilD ds (asP (e 3) fun x3 => asP (e 4) fun x4 => asL (e 5) fun x5p x5l x5c => asA (e 7) fun x7 => asL (e 10) fun x10p x10l x10c => asI .i64 (e 11) fun x11 => asL (e 12) fun x12p x12l x12c => asI .i64 (e 13) fun x13 => L7_12 R (L7_9 R kL7_9) m x3 x4 x5p x5l x5c x7 x10p x10l x10c x11 x12p x12l x12c x13 w)) (fun kL7_12 => .no)))) .no))) .no)))))) (.join (fun e ds w => nilD ds (asP (e 3) fun x3 => asP (e 4) fun x4 => asA (e 7) fun x7 => J7_13 R x3 x4 x7 w)) (.seq .no (.block (.loop (fun m e ds w => nilD ds (asP (e 3) fun x3 => asP (e 4) fun x4 => asL (e 5) fun x5p x5l x5c => asA (e 7) fun x7 => asL (e 10) fun x10p x10l x10c => asI .i64 (e 14) fun x14 => L7_14 R m x3 x4 x5p x5l x5c x7 x10p x10l x10c x14 w)) (fun kL7_14 => (.seq .no (.join (fun e ds w => nilD ds (asP (e 3) fun x3 => asP (e 4) fun x4 => asL (e 5) fun x5p x5l x5c => asA (e 7) fun x7 => asL (e 10) fun x10p x10l x10c => asI .i64 (e 14) fun x14 => J7_15 R (L7_14 R kL7_14) x3 x4 x5p x5l x5c x7 x10p x10l x10c x14 w)) (.block (.seq .no (.block (.loop (fun m e ds w => nilD ds (asP (e 3) fun x3 => asP (e 4) fun x4 => asL (e 5) fun x5p x5l x5c => asA (e 7) fun x7 => asL (e 10) fun x10p x10l x10c => asI .i64 (e 14) fun x14 => asI .i64 (e 15) fun x15 => L7_16 R (L7_14 R kL7_14) m x3 x4 x5p x5l x5c x7 x10p x10l x10c x14 x15 w)) (fun kL7_16 => .no))))) .no)))))) .no)))))))))))))))
theorem sides7 (R : Value → World → Prop) : fnSides Try.prog Try.f7 (A7 R) R := by
  refine And.intro ?_ ?_
  ·
    exact trivial
  ·
    refine And.intro ?_ ?_
    ·
      exact trivial
    ·
      refine And.intro ?_ ?_
      ·
        exact trivial
      ·
        refine And.intro ?_ (And.intro ?_ ?_)
        ·
          intro e ds w h
          have hn := nilD_elim h
          clear h
          obtain ⟨rfl, h⟩ := hn
          obtain ⟨x0p, x0l, x0c, z0, h⟩ := asL_elim h
          obtain ⟨x3, z3, h⟩ := asP_elim h
          obtain ⟨x4, z4, h⟩ := asP_elim h
          have he : (put (put (put e (some 0) (.slice x0p x0l x0c)) (some 3) (.pointer x3)) (some 4) (.pointer x4)) = e := by rw [put_id z0, put_id z3, put_id z4]
          rw [← he]
          clear he
          exact Eq.mp (by kernel_rfl) h
        ·
          exact trivial
        ·
          refine And.intro ?_ ?_
          ·
            exact trivial
          ·
            refine And.intro ?_ ?_
            ·
              exact trivial
            ·
              refine And.intro ?_ ?_
              ·
                exact trivial
              ·
                refine And.intro ?_ (And.intro ?_ ?_)
                ·
                  intro e ds w h
                  have hn := nilD_elim h
                  clear h
                  obtain ⟨rfl, h⟩ := hn
                  obtain ⟨x3, z3, h⟩ := asP_elim h
                  obtain ⟨x4, z4, h⟩ := asP_elim h
                  obtain ⟨x5p, x5l, x5c, z5, h⟩ := asL_elim h
                  have he : (put (put (put e (some 3) (.pointer x3)) (some 4) (.pointer x4)) (some 5) (.slice x5p x5l x5c)) = e := by rw [put_id z3, put_id z4, put_id z5]
                  rw [← he]
                  clear he
                  exact Eq.mp (by kernel_rfl) h
                ·
                  refine And.intro ?_ ?_
                  ·
                    exact trivial
                  ·
                    refine And.intro ?_ (And.intro ?_ ?_)
                    ·
                      intro e ds w h
                      have hn := nilD_elim h
                      clear h
                      obtain ⟨rfl, h⟩ := hn
                      obtain ⟨x0p, x0l, x0c, z0, h⟩ := asL_elim h
                      obtain ⟨x3, z3, h⟩ := asP_elim h
                      obtain ⟨x4, z4, h⟩ := asP_elim h
                      obtain ⟨x5p, x5l, x5c, z5, h⟩ := asL_elim h
                      obtain ⟨x6, z6, h⟩ := asI_elim h
                      exact h
                    ·
                      intro kL7_2 e ds w h
                      have hn := nilD_elim h
                      clear h
                      obtain ⟨rfl, h⟩ := hn
                      obtain ⟨x0p, x0l, x0c, z0, h⟩ := asL_elim h
                      obtain ⟨x3, z3, h⟩ := asP_elim h
                      obtain ⟨x4, z4, h⟩ := asP_elim h
                      obtain ⟨x5p, x5l, x5c, z5, h⟩ := asL_elim h
                      obtain ⟨x6, z6, h⟩ := asI_elim h
                      have he : (put (put (put (put (put e (some 0) (.slice x0p x0l x0c)) (some 3) (.pointer x3)) (some 4) (.pointer x4)) (some 5) (.slice x5p x5l x5c)) (some 6) (.int .i64 x6)) = e := by rw [put_id z0, put_id z3, put_id z4, put_id z5, put_id z6]
                      rw [← he]
                      clear he
                      exact Eq.mp (by kernel_rfl) h
                    ·
                      intro kL7_2
                      refine And.intro ?_ (And.intro ?_ ?_)
                      ·
                        intro e ds w h
                        have hn := nilD_elim h
                        clear h
                        obtain ⟨rfl, h⟩ := hn
                        obtain ⟨x0p, x0l, x0c, z0, h⟩ := asL_elim h
                        obtain ⟨x3, z3, h⟩ := asP_elim h
                        obtain ⟨x4, z4, h⟩ := asP_elim h
                        obtain ⟨x5p, x5l, x5c, z5, h⟩ := asL_elim h
                        obtain ⟨x6, z6, h⟩ := asI_elim h
                        have he : (put (put (put (put (put e (some 0) (.slice x0p x0l x0c)) (some 3) (.pointer x3)) (some 4) (.pointer x4)) (some 5) (.slice x5p x5l x5c)) (some 6) (.int .i64 x6)) = e := by rw [put_id z0, put_id z3, put_id z4, put_id z5, put_id z6]
                        rw [← he]
                        clear he
                        exact Eq.mp (by kernel_rfl) h
                      ·
                        exact trivial
                      ·
                        refine And.intro ?_ ?_
                        ·
                          refine And.intro ?_ ?_
                          ·
                            exact trivial
                          ·
                            refine And.intro ?_ ?_
                            ·
                              exact trivial
                            ·
                              refine And.intro ?_ ?_
                              ·
                                exact trivial
                              ·
                                exact trivial
                        ·
                          exact trivial
                ·
                  refine And.intro ?_ ?_
                  ·
                    exact trivial
                  ·
                    refine And.intro ?_ ?_
                    ·
                      exact trivial
                    ·
                      refine And.intro ?_ ?_
                      ·
                        refine And.intro ?_ ?_
                        ·
                          exact trivial
                        ·
                          exact trivial
                      ·
                        refine And.intro ?_ (And.intro ?_ ?_)
                        ·
                          intro e ds w h
                          have hn := nilD_elim h
                          clear h
                          obtain ⟨rfl, h⟩ := hn
                          obtain ⟨x3, z3, h⟩ := asP_elim h
                          obtain ⟨x4, z4, h⟩ := asP_elim h
                          obtain ⟨x5p, x5l, x5c, z5, h⟩ := asL_elim h
                          obtain ⟨x7, z7, h⟩ := asA_elim h
                          have he : (put (put (put (put e (some 3) (.pointer x3)) (some 4) (.pointer x4)) (some 5) (.slice x5p x5l x5c)) (some 7) (.pointer (some x7))) = e := by rw [put_id z3, put_id z4, put_id z5, put_id z7]
                          rw [← he]
                          clear he
                          exact Eq.mp (by kernel_rfl) h
                        ·
                          refine And.intro ?_ ?_
                          ·
                            exact trivial
                          ·
                            refine And.intro ?_ (And.intro ?_ ?_)
                            ·
                              intro e ds w h
                              have hn := nilD_elim h
                              clear h
                              obtain ⟨rfl, h⟩ := hn
                              obtain ⟨x3, z3, h⟩ := asP_elim h
                              obtain ⟨x4, z4, h⟩ := asP_elim h
                              obtain ⟨x5p, x5l, x5c, z5, h⟩ := asL_elim h
                              obtain ⟨x7, z7, h⟩ := asA_elim h
                              obtain ⟨x8, z8, h⟩ := asI_elim h
                              exact h
                            ·
                              intro kL7_5 e ds w h
                              have hn := nilD_elim h
                              clear h
                              obtain ⟨rfl, h⟩ := hn
                              obtain ⟨x3, z3, h⟩ := asP_elim h
                              obtain ⟨x4, z4, h⟩ := asP_elim h
                              obtain ⟨x5p, x5l, x5c, z5, h⟩ := asL_elim h
                              obtain ⟨x7, z7, h⟩ := asA_elim h
                              obtain ⟨x8, z8, h⟩ := asI_elim h
                              have he : (put (put (put (put (put e (some 3) (.pointer x3)) (some 4) (.pointer x4)) (some 5) (.slice x5p x5l x5c)) (some 7) (.pointer (some x7))) (some 8) (.int .i64 x8)) = e := by rw [put_id z3, put_id z4, put_id z5, put_id z7, put_id z8]
                              rw [← he]
                              clear he
                              exact Eq.mp (by kernel_rfl) h
                            ·
                              intro kL7_5
                              refine And.intro ?_ ?_
                              ·
                                exact trivial
                              ·
                                refine And.intro ?_ (And.intro ?_ ?_)
                                ·
                                  intro e ds w h
                                  have hn := nilD_elim h
                                  clear h
                                  obtain ⟨rfl, h⟩ := hn
                                  obtain ⟨x3, z3, h⟩ := asP_elim h
                                  obtain ⟨x4, z4, h⟩ := asP_elim h
                                  obtain ⟨x5p, x5l, x5c, z5, h⟩ := asL_elim h
                                  obtain ⟨x7, z7, h⟩ := asA_elim h
                                  obtain ⟨x8, z8, h⟩ := asI_elim h
                                  have he : (put (put (put (put (put e (some 3) (.pointer x3)) (some 4) (.pointer x4)) (some 5) (.slice x5p x5l x5c)) (some 7) (.pointer (some x7))) (some 8) (.int .i64 x8)) = e := by rw [put_id z3, put_id z4, put_id z5, put_id z7, put_id z8]
                                  rw [← he]
                                  clear he
                                  exact Eq.mp (by kernel_rfl) h
                                ·
                                  refine And.intro ?_ ?_
                                  ·
                                    exact trivial
                                  ·
                                    refine And.intro ?_ (And.intro ?_ ?_)
                                    ·
                                      intro e ds w h
                                      have hn := nilD_elim h
                                      clear h
                                      obtain ⟨rfl, h⟩ := hn
                                      obtain ⟨x3, z3, h⟩ := asP_elim h
                                      obtain ⟨x4, z4, h⟩ := asP_elim h
                                      obtain ⟨x5p, x5l, x5c, z5, h⟩ := asL_elim h
                                      obtain ⟨x7, z7, h⟩ := asA_elim h
                                      obtain ⟨x8, z8, h⟩ := asI_elim h
                                      obtain ⟨x9, z9, h⟩ := asI_elim h
                                      exact h
                                    ·
                                      intro kL7_7 e ds w h
                                      have hn := nilD_elim h
                                      clear h
                                      obtain ⟨rfl, h⟩ := hn
                                      obtain ⟨x3, z3, h⟩ := asP_elim h
                                      obtain ⟨x4, z4, h⟩ := asP_elim h
                                      obtain ⟨x5p, x5l, x5c, z5, h⟩ := asL_elim h
                                      obtain ⟨x7, z7, h⟩ := asA_elim h
                                      obtain ⟨x8, z8, h⟩ := asI_elim h
                                      obtain ⟨x9, z9, h⟩ := asI_elim h
                                      have he : (put (put (put (put (put (put e (some 3) (.pointer x3)) (some 4) (.pointer x4)) (some 5) (.slice x5p x5l x5c)) (some 7) (.pointer (some x7))) (some 8) (.int .i64 x8)) (some 9) (.int .i64 x9)) = e := by rw [put_id z3, put_id z4, put_id z5, put_id z7, put_id z8, put_id z9]
                                      rw [← he]
                                      clear he
                                      exact Eq.mp (by kernel_rfl) h
                                    ·
                                      intro kL7_7
                                      exact trivial
                                ·
                                  exact trivial
                        ·
                          refine And.intro ?_ ?_
                          ·
                            exact trivial
                          ·
                            refine And.intro ?_ (And.intro ?_ ?_)
                            ·
                              intro e ds w h
                              have hn := nilD_elim h
                              clear h
                              obtain ⟨rfl, h⟩ := hn
                              obtain ⟨x3, z3, h⟩ := asP_elim h
                              obtain ⟨x4, z4, h⟩ := asP_elim h
                              obtain ⟨x5p, x5l, x5c, z5, h⟩ := asL_elim h
                              obtain ⟨x7, z7, h⟩ := asA_elim h
                              obtain ⟨x10p, x10l, x10c, z10, h⟩ := asL_elim h
                              have he : (put (put (put (put (put e (some 3) (.pointer x3)) (some 4) (.pointer x4)) (some 5) (.slice x5p x5l x5c)) (some 7) (.pointer (some x7))) (some 10) (.slice x10p x10l x10c)) = e := by rw [put_id z3, put_id z4, put_id z5, put_id z7, put_id z10]
                              rw [← he]
                              clear he
                              exact Eq.mp (by kernel_rfl) h
                            ·
                              refine And.intro ?_ ?_
                              ·
                                exact trivial
                              ·
                                refine And.intro ?_ (And.intro ?_ ?_)
                                ·
                                  intro e ds w h
                                  have hn := nilD_elim h
                                  clear h
                                  obtain ⟨rfl, h⟩ := hn
                                  obtain ⟨x3, z3, h⟩ := asP_elim h
                                  obtain ⟨x4, z4, h⟩ := asP_elim h
                                  obtain ⟨x5p, x5l, x5c, z5, h⟩ := asL_elim h
                                  obtain ⟨x7, z7, h⟩ := asA_elim h
                                  obtain ⟨x10p, x10l, x10c, z10, h⟩ := asL_elim h
                                  obtain ⟨x11, z11, h⟩ := asI_elim h
                                  exact h
                                ·
                                  intro kL7_9 e ds w h
                                  have hn := nilD_elim h
                                  clear h
                                  obtain ⟨rfl, h⟩ := hn
                                  obtain ⟨x3, z3, h⟩ := asP_elim h
                                  obtain ⟨x4, z4, h⟩ := asP_elim h
                                  obtain ⟨x5p, x5l, x5c, z5, h⟩ := asL_elim h
                                  obtain ⟨x7, z7, h⟩ := asA_elim h
                                  obtain ⟨x10p, x10l, x10c, z10, h⟩ := asL_elim h
                                  obtain ⟨x11, z11, h⟩ := asI_elim h
                                  have he : (put (put (put (put (put (put e (some 3) (.pointer x3)) (some 4) (.pointer x4)) (some 5) (.slice x5p x5l x5c)) (some 7) (.pointer (some x7))) (some 10) (.slice x10p x10l x10c)) (some 11) (.int .i64 x11)) = e := by rw [put_id z3, put_id z4, put_id z5, put_id z7, put_id z10, put_id z11]
                                  rw [← he]
                                  clear he
                                  exact Eq.mp (by kernel_rfl) h
                                ·
                                  intro kL7_9
                                  refine And.intro ?_ ?_
                                  ·
                                    exact trivial
                                  ·
                                    refine And.intro ?_ (And.intro ?_ ?_)
                                    ·
                                      intro e ds w h
                                      have hn := nilD_elim h
                                      clear h
                                      obtain ⟨rfl, h⟩ := hn
                                      obtain ⟨x3, z3, h⟩ := asP_elim h
                                      obtain ⟨x4, z4, h⟩ := asP_elim h
                                      obtain ⟨x5p, x5l, x5c, z5, h⟩ := asL_elim h
                                      obtain ⟨x7, z7, h⟩ := asA_elim h
                                      obtain ⟨x10p, x10l, x10c, z10, h⟩ := asL_elim h
                                      obtain ⟨x11, z11, h⟩ := asI_elim h
                                      have he : (put (put (put (put (put (put e (some 3) (.pointer x3)) (some 4) (.pointer x4)) (some 5) (.slice x5p x5l x5c)) (some 7) (.pointer (some x7))) (some 10) (.slice x10p x10l x10c)) (some 11) (.int .i64 x11)) = e := by rw [put_id z3, put_id z4, put_id z5, put_id z7, put_id z10, put_id z11]
                                      rw [← he]
                                      clear he
                                      exact Eq.mp (by kernel_rfl) h
                                    ·
                                      refine And.intro ?_ ?_
                                      ·
                                        exact trivial
                                      ·
                                        refine And.intro ?_ (And.intro ?_ ?_)
                                        ·
                                          intro e ds w h
                                          have hn := nilD_elim h
                                          clear h
                                          obtain ⟨rfl, h⟩ := hn
                                          obtain ⟨x3, z3, h⟩ := asP_elim h
                                          obtain ⟨x4, z4, h⟩ := asP_elim h
                                          obtain ⟨x5p, x5l, x5c, z5, h⟩ := asL_elim h
                                          obtain ⟨x7, z7, h⟩ := asA_elim h
                                          obtain ⟨x10p, x10l, x10c, z10, h⟩ := asL_elim h
                                          obtain ⟨x11, z11, h⟩ := asI_elim h
                                          obtain ⟨x12p, x12l, x12c, z12, h⟩ := asL_elim h
                                          have he : (put (put (put (put (put (put (put e (some 3) (.pointer x3)) (some 4) (.pointer x4)) (some 5) (.slice x5p x5l x5c)) (some 7) (.pointer (some x7))) (some 10) (.slice x10p x10l x10c)) (some 11) (.int .i64 x11)) (some 12) (.slice x12p x12l x12c)) = e := by rw [put_id z3, put_id z4, put_id z5, put_id z7, put_id z10, put_id z11, put_id z12]
                                          rw [← he]
                                          clear he
                                          exact Eq.mp (by kernel_rfl) h
                                        ·
                                          refine And.intro ?_ ?_
                                          ·
                                            exact trivial
                                          ·
                                            refine And.intro ?_ (And.intro ?_ ?_)
                                            ·
                                              intro e ds w h
                                              have hn := nilD_elim h
                                              clear h
                                              obtain ⟨rfl, h⟩ := hn
                                              obtain ⟨x3, z3, h⟩ := asP_elim h
                                              obtain ⟨x4, z4, h⟩ := asP_elim h
                                              obtain ⟨x5p, x5l, x5c, z5, h⟩ := asL_elim h
                                              obtain ⟨x7, z7, h⟩ := asA_elim h
                                              obtain ⟨x10p, x10l, x10c, z10, h⟩ := asL_elim h
                                              obtain ⟨x11, z11, h⟩ := asI_elim h
                                              obtain ⟨x12p, x12l, x12c, z12, h⟩ := asL_elim h
                                              obtain ⟨x13, z13, h⟩ := asI_elim h
                                              exact h
                                            ·
                                              intro kL7_12 e ds w h
                                              have hn := nilD_elim h
                                              clear h
                                              obtain ⟨rfl, h⟩ := hn
                                              obtain ⟨x3, z3, h⟩ := asP_elim h
                                              obtain ⟨x4, z4, h⟩ := asP_elim h
                                              obtain ⟨x5p, x5l, x5c, z5, h⟩ := asL_elim h
                                              obtain ⟨x7, z7, h⟩ := asA_elim h
                                              obtain ⟨x10p, x10l, x10c, z10, h⟩ := asL_elim h
                                              obtain ⟨x11, z11, h⟩ := asI_elim h
                                              obtain ⟨x12p, x12l, x12c, z12, h⟩ := asL_elim h
                                              obtain ⟨x13, z13, h⟩ := asI_elim h
                                              have he : (put (put (put (put (put (put (put (put e (some 3) (.pointer x3)) (some 4) (.pointer x4)) (some 5) (.slice x5p x5l x5c)) (some 7) (.pointer (some x7))) (some 10) (.slice x10p x10l x10c)) (some 11) (.int .i64 x11)) (some 12) (.slice x12p x12l x12c)) (some 13) (.int .i64 x13)) = e := by rw [put_id z3, put_id z4, put_id z5, put_id z7, put_id z10, put_id z11, put_id z12, put_id z13]
                                              rw [← he]
                                              clear he
                                              exact Eq.mp (by kernel_rfl) h
                                            ·
                                              intro kL7_12
                                              exact trivial
                                        ·
                                          exact trivial
                                    ·
                                      exact trivial
                            ·
                              refine And.intro ?_ (And.intro ?_ ?_)
                              ·
                                intro e ds w h
                                have hn := nilD_elim h
                                clear h
                                obtain ⟨rfl, h⟩ := hn
                                obtain ⟨x3, z3, h⟩ := asP_elim h
                                obtain ⟨x4, z4, h⟩ := asP_elim h
                                obtain ⟨x7, z7, h⟩ := asA_elim h
                                have he : (put (put (put e (some 3) (.pointer x3)) (some 4) (.pointer x4)) (some 7) (.pointer (some x7))) = e := by rw [put_id z3, put_id z4, put_id z7]
                                rw [← he]
                                clear he
                                exact Eq.mp (by kernel_rfl) h
                              ·
                                refine And.intro ?_ ?_
                                ·
                                  exact trivial
                                ·
                                  refine And.intro ?_ (And.intro ?_ ?_)
                                  ·
                                    intro e ds w h
                                    have hn := nilD_elim h
                                    clear h
                                    obtain ⟨rfl, h⟩ := hn
                                    obtain ⟨x3, z3, h⟩ := asP_elim h
                                    obtain ⟨x4, z4, h⟩ := asP_elim h
                                    obtain ⟨x5p, x5l, x5c, z5, h⟩ := asL_elim h
                                    obtain ⟨x7, z7, h⟩ := asA_elim h
                                    obtain ⟨x10p, x10l, x10c, z10, h⟩ := asL_elim h
                                    obtain ⟨x14, z14, h⟩ := asI_elim h
                                    exact h
                                  ·
                                    intro kL7_14 e ds w h
                                    have hn := nilD_elim h
                                    clear h
                                    obtain ⟨rfl, h⟩ := hn
                                    obtain ⟨x3, z3, h⟩ := asP_elim h
                                    obtain ⟨x4, z4, h⟩ := asP_elim h
                                    obtain ⟨x5p, x5l, x5c, z5, h⟩ := asL_elim h
                                    obtain ⟨x7, z7, h⟩ := asA_elim h
                                    obtain ⟨x10p, x10l, x10c, z10, h⟩ := asL_elim h
                                    obtain ⟨x14, z14, h⟩ := asI_elim h
                                    have he : (put (put (put (put (put (put e (some 3) (.pointer x3)) (some 4) (.pointer x4)) (some 5) (.slice x5p x5l x5c)) (some 7) (.pointer (some x7))) (some 10) (.slice x10p x10l x10c)) (some 14) (.int .i64 x14)) = e := by rw [put_id z3, put_id z4, put_id z5, put_id z7, put_id z10, put_id z14]
                                    rw [← he]
                                    clear he
                                    exact Eq.mp (by kernel_rfl) h
                                  ·
                                    intro kL7_14
                                    refine And.intro ?_ ?_
                                    ·
                                      exact trivial
                                    ·
                                      refine And.intro ?_ (And.intro ?_ ?_)
                                      ·
                                        intro e ds w h
                                        have hn := nilD_elim h
                                        clear h
                                        obtain ⟨rfl, h⟩ := hn
                                        obtain ⟨x3, z3, h⟩ := asP_elim h
                                        obtain ⟨x4, z4, h⟩ := asP_elim h
                                        obtain ⟨x5p, x5l, x5c, z5, h⟩ := asL_elim h
                                        obtain ⟨x7, z7, h⟩ := asA_elim h
                                        obtain ⟨x10p, x10l, x10c, z10, h⟩ := asL_elim h
                                        obtain ⟨x14, z14, h⟩ := asI_elim h
                                        have he : (put (put (put (put (put (put e (some 3) (.pointer x3)) (some 4) (.pointer x4)) (some 5) (.slice x5p x5l x5c)) (some 7) (.pointer (some x7))) (some 10) (.slice x10p x10l x10c)) (some 14) (.int .i64 x14)) = e := by rw [put_id z3, put_id z4, put_id z5, put_id z7, put_id z10, put_id z14]
                                        rw [← he]
                                        clear he
                                        exact Eq.mp (by kernel_rfl) h
                                      ·
                                        refine And.intro ?_ ?_
                                        ·
                                          exact trivial
                                        ·
                                          refine And.intro ?_ (And.intro ?_ ?_)
                                          ·
                                            intro e ds w h
                                            have hn := nilD_elim h
                                            clear h
                                            obtain ⟨rfl, h⟩ := hn
                                            obtain ⟨x3, z3, h⟩ := asP_elim h
                                            obtain ⟨x4, z4, h⟩ := asP_elim h
                                            obtain ⟨x5p, x5l, x5c, z5, h⟩ := asL_elim h
                                            obtain ⟨x7, z7, h⟩ := asA_elim h
                                            obtain ⟨x10p, x10l, x10c, z10, h⟩ := asL_elim h
                                            obtain ⟨x14, z14, h⟩ := asI_elim h
                                            obtain ⟨x15, z15, h⟩ := asI_elim h
                                            exact h
                                          ·
                                            intro kL7_16 e ds w h
                                            have hn := nilD_elim h
                                            clear h
                                            obtain ⟨rfl, h⟩ := hn
                                            obtain ⟨x3, z3, h⟩ := asP_elim h
                                            obtain ⟨x4, z4, h⟩ := asP_elim h
                                            obtain ⟨x5p, x5l, x5c, z5, h⟩ := asL_elim h
                                            obtain ⟨x7, z7, h⟩ := asA_elim h
                                            obtain ⟨x10p, x10l, x10c, z10, h⟩ := asL_elim h
                                            obtain ⟨x14, z14, h⟩ := asI_elim h
                                            obtain ⟨x15, z15, h⟩ := asI_elim h
                                            have he : (put (put (put (put (put (put (put e (some 3) (.pointer x3)) (some 4) (.pointer x4)) (some 5) (.slice x5p x5l x5c)) (some 7) (.pointer (some x7))) (some 10) (.slice x10p x10l x10c)) (some 14) (.int .i64 x14)) (some 15) (.int .i64 x15)) = e := by rw [put_id z3, put_id z4, put_id z5, put_id z7, put_id z10, put_id z14, put_id z15]
                                            rw [← he]
                                            clear he
                                            exact Eq.mp (by kernel_rfl) h
                                          ·
                                            intro kL7_16
                                            exact trivial
                                      ·
                                        exact trivial
                              ·
                                exact trivial
theorem call7 (a0p : Option Addr) (a0l : Nat) (a0c : Nat) (w : World) (R : Value → World → Prop) (h : F7 a0p a0l a0c w R) : CallV Try.prog 7 #[(.slice a0p a0l a0c)] w R :=
  callV_of (fn := Try.f7) (an := A7 R) (args := [(.slice a0p a0l a0c)]) Try.func7 rfl (sides7 R) (Eq.mp (by kernel_rfl) h)

/-! 8 vouch/vouchlaw3.UndoMany -/
def J8_4 (R : Value → World → Prop) (x5 : Option Addr) (x8 : Option Addr) (w : World) : Prop :=
  CallV Try.prog 13 #[(.pointer x8)] w fun v1 w1 => asG v1 fun q1_0 => asHd q1_0 fun q1_0x q1_1 => asL q1_0x fun l1p l1l l1c => asHd q1_1 fun q1_1x q1_2 => asL q1_1x fun l2p l2l l2c => asEnd q1_2 (CallV Try.prog 19 #[(.pointer x5), (.agg #[(.slice l1p l1l l1c), (.slice l2p l2l l2c)])] w1 fun v2 w2 => asB v2 fun b1 => ifB b1 (CallV Try.prog 20 #[] w2 fun v3 w3 => asB v3 fun b2 => R (.bool b2) w3) (R (.bool false) w2))
def J8_5 (R : Value → World → Prop) (x5 : Option Addr) (x8 : Option Addr) (x75 : Bool) (w : World) : Prop :=
  ifB x75 (R (.bool false) w) (J8_4 R x5 x8 w)
def J8_2 (R : Value → World → Prop) (x0 : Int) (x5 : Option Addr) (x7 : Addr) (x8 : Option Addr) (x9 : Int) (w : World) : Prop :=
  CallV Try.prog 18 #[(.pointer x5), (.int .i64 x0)] w fun v1 w1 => asI .i64 v1 fun n1 => ifB ((n1 : Int) != 30) (J8_5 R x5 x8 true w1) (ldK Try.prog w1 x7 fun v2 => asL v2 fun l1p l1l l1c => ldK Try.prog w1 (Addr.add x7 1) fun v3 => asL v3 fun l2p l2l l2c => CallV Try.prog 19 #[(.pointer x5), (.agg #[(.slice l1p l1l l1c), (.slice l2p l2l l2c)])] w1 fun v4 w2 => asB v4 fun b1 => ifB (!b1) (J8_5 R x5 x8 true w2) (CallV Try.prog 18 #[(.pointer x5), (.int .i64 x9)] w2 fun v5 w3 => asI .i64 v5 fun n2 => ifB ((n2 : Int) != 0) (J8_5 R x5 x8 true w3) (CallV Try.prog 14 #[(.pointer x5)] w3 fun v6 w4 => asI .i64 v6 fun n3 => J8_5 R x5 x8 ((n3 : Int) != x9) w4)))
def L8_3 (R : Value → World → Prop) : Nat → Int → Option Addr → Addr → Option Addr → Int → Int → World → Prop
  | 0 => fun _ _ _ _ _ _ _ => False
  | k + 1 => fun x0 x5 x7 x8 x9 x10 w => ifB (decide ((x10 : Int) ≤ x9)) (ifB (decide ((x0 : Int) = 0)) False (CallV Try.prog 12 #[(.pointer x8), (.int .i64 (Int.tmod (IntKind.wrap .i64 (x10 * 7)) x0)), (.int .i64 x10)] w fun v1 w1 => asT v1 fun t1_0 => asEnd t1_0 (L8_3 R k x0 x5 x7 x8 x9 (IntKind.wrap .i64 (x10 + 1)) w1))) (J8_2 R x0 x5 x7 x8 x9 w)
def J8_0 (R : Value → World → Prop) (x0 : Int) (x1 : Int) (x5 : Option Addr) (w : World) : Prop :=
  CallV Try.prog 13 #[(.pointer x5)] w fun v1 w1 => asG v1 fun q1_0 => asHd q1_0 fun q1_0x q1_1 => asL q1_0x fun l1p l1l l1c => asHd q1_1 fun q1_1x q1_2 => asL q1_1x fun l2p l2l l2c => asEnd q1_2 (allocK w1 (.cells #[(.slice none 0 0), (.slice none 0 0)] 31) fun w2 => semU Try.prog (Instr.storeAt 31 (.pointer (some ⟨w1.heap.size, 0, none⟩)) (.agg #[(.slice l1p l1l l1c), (.slice l2p l2l l2c)])) w2 fun w3 => CallV Try.prog 10 #[] w3 fun v2 w4 => asP v2 fun p1 => ifB (Option.isNone p1) (R (.bool false) w4) (ifB (decide ((x0 : Int) = 0)) False (∃ m, L8_3 R m x0 x5 ⟨w1.heap.size, 0, none⟩ p1 (Int.tmod (bitI .and .i64 x1 1023) x0) 0 w4)))
def L8_1 (R : Value → World → Prop) : Nat → Int → Int → Option Addr → Int → World → Prop
  | 0 => fun _ _ _ _ _ => False
  | k + 1 => fun x0 x1 x5 x6 w => ifB (decide ((x6 : Int) < x0)) (ifB (decide ((x0 : Int) = 0)) False (CallV Try.prog 12 #[(.pointer x5), (.int .i64 (Int.tmod (IntKind.wrap .i64 (x6 * 7)) x0)), (.int .i64 x6)] w fun v1 w1 => asT v1 fun t1_0 => asEnd t1_0 (CallV Try.prog 15 #[(.pointer x5)] w1 fun v2 w2 => asI .i64 v2 fun n1 => ifB ((n1 : Int) != x6) (R (.bool false) w2) (L8_1 R k x0 x1 x5 (IntKind.wrap .i64 (x6 + 1)) w2)))) (J8_0 R x0 x1 x5 w)
def F8 (a0 : Int) (a1 : Int) (w : World) (R : Value → World → Prop) : Prop :=
  CallV Try.prog 10 #[] w fun v1 w1 => asP v1 fun p1 => ifB (Option.isNone p1) (R (.bool false) w1) (∃ m, L8_1 R m (IntKind.wrap .i64 (1 + (bitI .and .i64 a0 1023))) a1 p1 0 w1)
def A8 (R : Value → World → Prop) : Ann := (.seq .no (.seq .no (.seq .no (.seq .no (.join (fun e ds w => nilD ds (asI .i64 (e 0) fun x0 => asI .i64 (e 1) fun x1 => asP (e 5) fun x5 => J8_0 R x0 x1 x5 w)) (.seq .no (.block (.loop (fun m e ds w => nilD ds (asI .i64 (e 0) fun x0 => asI .i64 (e 1) fun x1 => asP (e 5) fun x5 => asI .i64 (e 6) fun x6 => L8_1 R m x0 x1 x5 x6 w)) (fun kL8_1 => .no)))) (.seq .no (.seq .no (.seq .no (.seq .no (.join (fun e ds w => nilD ds (asI .i64 (e 0) fun x0 => asP (e 5) fun x5 => asA (e 7) fun x7 => asP (e 8) fun x8 => asI .i64 (e 9) fun x9 => J8_2 R x0 x5 x7 x8 x9 w)) (.seq .no (.block (.loop (fun m e ds w => nilD ds (asI .i64 (e 0) fun x0 => asP (e 5) fun x5 => asA (e 7) fun x7 => asP (e 8) fun x8 => asI .i64 (e 9) fun x9 => asI .i64 (e 10) fun x10 => L8_3 R m x0 x5 x7 x8 x9 x10 w)) (fun kL8_3 => .no)))) (.join (fun e ds w => nilD ds (asP (e 5) fun x5 => asP (e 8) fun x8 => J8_4 R x5 x8 w)) (.join (fun e ds w => nilD ds (asP (e 5) fun x5 => asP (e 8) fun x8 => asB (e 75) fun x75 => J8_5 R x5 x8 x75 w)) .no .no) .no)))))))))))
theorem sides8 (R : Value → World → Prop) : fnSides Try.prog Try.f8 (A8 R) R := by
  refine And.intro ?_ ?_
  ·
    exact trivial
  ·
    refine And.intro ?_ ?_
    ·
      exact trivial
    ·
      refine And.intro ?_ ?_
      ·
        exact trivial
      ·
        refine And.intro ?_ ?_
        ·
          exact trivial
        ·
          refine And.intro ?_ (And.intro ?_ ?_)
          ·
            intro e ds w h
            have hn := nilD_elim h
            clear h
            obtain ⟨rfl, h⟩ := hn
            obtain ⟨x0, z0, h⟩ := asI_elim h
            obtain ⟨x1, z1, h⟩ := asI_elim h
            obtain ⟨x5, z5, h⟩ := asP_elim h
            have he : (put (put (put e (some 0) (.int .i64 x0)) (some 1) (.int .i64 x1)) (some 5) (.pointer x5)) = e := by rw [put_id z0, put_id z1, put_id z5]
            rw [← he]
            clear he
            exact Eq.mp (by kernel_rfl) h
          ·
            refine And.intro ?_ ?_
            ·
              exact trivial
            ·
              refine And.intro ?_ (And.intro ?_ ?_)
              ·
                intro e ds w h
                have hn := nilD_elim h
                clear h
                obtain ⟨rfl, h⟩ := hn
                obtain ⟨x0, z0, h⟩ := asI_elim h
                obtain ⟨x1, z1, h⟩ := asI_elim h
                obtain ⟨x5, z5, h⟩ := asP_elim h
                obtain ⟨x6, z6, h⟩ := asI_elim h
                exact h
              ·
                intro kL8_1 e ds w h
                have hn := nilD_elim h
                clear h
                obtain ⟨rfl, h⟩ := hn
                obtain ⟨x0, z0, h⟩ := asI_elim h
                obtain ⟨x1, z1, h⟩ := asI_elim h
                obtain ⟨x5, z5, h⟩ := asP_elim h
                obtain ⟨x6, z6, h⟩ := asI_elim h
                have he : (put (put (put (put e (some 0) (.int .i64 x0)) (some 1) (.int .i64 x1)) (some 5) (.pointer x5)) (some 6) (.int .i64 x6)) = e := by rw [put_id z0, put_id z1, put_id z5, put_id z6]
                rw [← he]
                clear he
                exact Eq.mp (by kernel_rfl) h
              ·
                intro kL8_1
                exact trivial
          ·
            refine And.intro ?_ ?_
            ·
              exact trivial
            ·
              refine And.intro ?_ ?_
              ·
                exact trivial
              ·
                refine And.intro ?_ ?_
                ·
                  exact trivial
                ·
                  refine And.intro ?_ ?_
                  ·
                    exact trivial
                  ·
                    refine And.intro ?_ (And.intro ?_ ?_)
                    ·
                      intro e ds w h
                      have hn := nilD_elim h
                      clear h
                      obtain ⟨rfl, h⟩ := hn
                      obtain ⟨x0, z0, h⟩ := asI_elim h
                      obtain ⟨x5, z5, h⟩ := asP_elim h
                      obtain ⟨x7, z7, h⟩ := asA_elim h
                      obtain ⟨x8, z8, h⟩ := asP_elim h
                      obtain ⟨x9, z9, h⟩ := asI_elim h
                      have he : (put (put (put (put (put e (some 0) (.int .i64 x0)) (some 5) (.pointer x5)) (some 7) (.pointer (some x7))) (some 8) (.pointer x8)) (some 9) (.int .i64 x9)) = e := by rw [put_id z0, put_id z5, put_id z7, put_id z8, put_id z9]
                      rw [← he]
                      clear he
                      exact Eq.mp (by kernel_rfl) h
                    ·
                      refine And.intro ?_ ?_
                      ·
                        exact trivial
                      ·
                        refine And.intro ?_ (And.intro ?_ ?_)
                        ·
                          intro e ds w h
                          have hn := nilD_elim h
                          clear h
                          obtain ⟨rfl, h⟩ := hn
                          obtain ⟨x0, z0, h⟩ := asI_elim h
                          obtain ⟨x5, z5, h⟩ := asP_elim h
                          obtain ⟨x7, z7, h⟩ := asA_elim h
                          obtain ⟨x8, z8, h⟩ := asP_elim h
                          obtain ⟨x9, z9, h⟩ := asI_elim h
                          obtain ⟨x10, z10, h⟩ := asI_elim h
                          exact h
                        ·
                          intro kL8_3 e ds w h
                          have hn := nilD_elim h
                          clear h
                          obtain ⟨rfl, h⟩ := hn
                          obtain ⟨x0, z0, h⟩ := asI_elim h
                          obtain ⟨x5, z5, h⟩ := asP_elim h
                          obtain ⟨x7, z7, h⟩ := asA_elim h
                          obtain ⟨x8, z8, h⟩ := asP_elim h
                          obtain ⟨x9, z9, h⟩ := asI_elim h
                          obtain ⟨x10, z10, h⟩ := asI_elim h
                          have he : (put (put (put (put (put (put e (some 0) (.int .i64 x0)) (some 5) (.pointer x5)) (some 7) (.pointer (some x7))) (some 8) (.pointer x8)) (some 9) (.int .i64 x9)) (some 10) (.int .i64 x10)) = e := by rw [put_id z0, put_id z5, put_id z7, put_id z8, put_id z9, put_id z10]
                          rw [← he]
                          clear he
                          exact Eq.mp (by kernel_rfl) h
                        ·
                          intro kL8_3
                          exact trivial
                    ·
                      refine And.intro ?_ (And.intro ?_ ?_)
                      ·
                        intro e ds w h
                        have hn := nilD_elim h
                        clear h
                        obtain ⟨rfl, h⟩ := hn
                        obtain ⟨x5, z5, h⟩ := asP_elim h
                        obtain ⟨x8, z8, h⟩ := asP_elim h
                        have he : (put (put e (some 5) (.pointer x5)) (some 8) (.pointer x8)) = e := by rw [put_id z5, put_id z8]
                        rw [← he]
                        clear he
                        exact Eq.mp (by kernel_rfl) h
                      ·
                        refine And.intro ?_ (And.intro ?_ ?_)
                        ·
                          intro e ds w h
                          have hn := nilD_elim h
                          clear h
                          obtain ⟨rfl, h⟩ := hn
                          obtain ⟨x5, z5, h⟩ := asP_elim h
                          obtain ⟨x8, z8, h⟩ := asP_elim h
                          obtain ⟨x75, z75, h⟩ := asB_elim h
                          have he : (put (put (put e (some 5) (.pointer x5)) (some 8) (.pointer x8)) (some 75) (.bool x75)) = e := by rw [put_id z5, put_id z8, put_id z75]
                          rw [← he]
                          clear he
                          exact Eq.mp (by kernel_rfl) h
                        ·
                          exact trivial
                        ·
                          exact trivial
                      ·
                        exact trivial
theorem call8 (a0 : Int) (a1 : Int) (w : World) (R : Value → World → Prop) (h : F8 a0 a1 w R) : CallV Try.prog 8 #[(.int .i64 a0), (.int .i64 a1)] w R :=
  callV_of (fn := Try.f8) (an := A8 R) (args := [(.int .i64 a0), (.int .i64 a1)]) Try.func8 rfl (sides8 R) (Eq.mp (by kernel_rfl) h)
end Go.Proofs.Ytalhnoelkglgiaa.W
