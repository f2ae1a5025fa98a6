/- The functions of this text, as the layer Sh reckons them out (printed by shp.py, a program of ours): for each the predicate F, and that it suffices for a call. No condition. -/
import Derived.Test.YtalhnoelkglgiaaSh5
import Derived.Test.YtalhnoelkglgiaaProg
namespace Go.Proofs.Ytalhnoelkglgiaa.W
open Go Go.Proofs.Ytalhnoelkglgiaa.Sh
set_option linter.unusedVariables false
set_option maxRecDepth 100000

/-! 9 vouch/vouchlaw3.UndoWithin -/
def J9_13 (R : Value → World → Prop) (l : Nat) (r : Loop) (x15 : Addr) (w : World) : Prop :=
  ldK Try.prog w x15 fun v1 => asI .i64 v1 fun n1 => semU Try.prog (Instr.storeAt 3 (.pointer (some x15)) (.int .i64 (IntKind.wrap .i64 (n1 + 1)))) w fun w1 => stopA l r none R w1
def J9_14 (R : Value → World → Prop) (l : Nat) (r : Loop) (x15 : Addr) (x118 : Bool) (w : World) : Prop :=
  ifB x118 (stopA l r (some (.exit 6)) R w) (J9_13 R l r x15 w)
def B9_12 (R : Value → World → Prop) (l : Nat) (r : Loop) (x9 : Addr) (x12 : Addr) (x15 : Addr) (args : List Value) (w : World) : Prop :=
  readyA w l r (asHd args fun y0 ys0 => asI .i64 y0 fun n1 => asHd ys0 fun y1 ys1 => asI .i64 y1 fun n2 => asEnd ys1 (readyA w l r (putK w l (loopObj r .busy none) fun w1 => ldK Try.prog w1 x12 fun v1 => asI .i64 v1 fun n3 => ifB (decide ((n3 : Int) > 2)) (J9_14 R l r x15 true w1) (ldK Try.prog w1 x15 fun v2 => asI .i64 v2 fun n4 => ldK Try.prog w1 x9 fun v3 => asL v3 fun l1p l1l l1c => ifB (decide ((n4 : Int) ≥ (l1l : Nat))) (J9_14 R l r x15 true w1) (ldK Try.prog w1 x9 fun v4 => asL v4 fun l2p l2l l2c => ldK Try.prog w1 x15 fun v5 => asI .i64 v5 fun n5 => semK Try.prog (Instr.indexAt 29 (.slice l2p l2l l2c) (.int .i64 n5)) w1 fun v6 w2 => asA v6 fun ad1 => ldK Try.prog w2 ad1 fun v7 => asI .i64 v7 fun n6 => ifB ((n1 : Int) != n6) (J9_14 R l r x15 true w2) (ldK Try.prog w2 (Addr.add x9 1) fun v8 => asL v8 fun l3p l3l l3c => ldK Try.prog w2 x15 fun v9 => asI .i64 v9 fun n7 => semK Try.prog (Instr.indexAt 29 (.slice l3p l3l l3c) (.int .i64 n7)) w2 fun v10 w3 => asA v10 fun ad2 => ldK Try.prog w3 ad2 fun v11 => asI .i64 v11 fun n8 => J9_14 R l r x15 ((n2 : Int) != n8) w3))))))
def J9_15 (R : Value → World → Prop) (l : Nat) (r : Loop) (x5 : Addr) (x11 : Addr) (x12 : Addr) (w : World) : Prop :=
  ldK Try.prog w x12 fun v1 => asI .i64 v1 fun n1 => semU Try.prog (Instr.storeAt 3 (.pointer (some x12)) (.int .i64 (IntKind.wrap .i64 (n1 + 1)))) w fun w1 => ldK Try.prog w1 x12 fun v2 => asI .i64 v2 fun n2 => ldK Try.prog w1 x5 fun v3 => asI .i64 v3 fun n3 => ifB ((n2 : Int) == n3) (ldK Try.prog w1 x11 fun v4 => asI .i64 v4 fun n4 => ifB ((n4 : Int) == 0) (stopA l r (some (.exit 4)) R w1) (stopA l r none R w1)) (stopA l r none R w1)
def J9_11 (R : Value → World → Prop) (l : Nat) (r : Loop) (x5 : Addr) (x6 : Addr) (x9 : Addr) (x11 : Addr) (x12 : Addr) (x15 : Addr) (w : World) : Prop :=
  ldK Try.prog w x12 fun v1 => asI .i64 v1 fun n1 => ifB (decide ((n1 : Int) ≤ 2)) (ldK Try.prog w x15 fun v2 => asI .i64 v2 fun n2 => ldK Try.prog w x9 fun v3 => asL v3 fun l1p l1l l1c => ifB ((n2 : Int) != (l1l : Nat)) (semU Try.prog (Instr.storeAt 4 (.pointer (some x6)) (.bool false)) w fun w1 => stopA l r (some .ret) R w1) (J9_15 R l r x5 x11 x12 w)) (J9_15 R l r x5 x11 x12 w)
def J9_10 (R : Value → World → Prop) (l : Nat) (r : Loop) (x5 : Addr) (x6 : Addr) (x9 : Addr) (x10 : Addr) (x11 : Addr) (x12 : Addr) (w : World) : Prop :=
  allocK w (.cells #[(.int .i64 0)] 3) fun w1 => semU Try.prog (Instr.storeAt 3 (.pointer (some ⟨w.heap.size, 0, none⟩)) (.int .i64 0)) w1 fun w2 => ldK Try.prog w2 x10 fun v1 => entN l w2 fun lz1 rz1 waz1 => yieldA Try.prog lz1 (fun args wy F => B9_12 F lz1 rz1 x9 x12 ⟨w.heap.size, 0, none⟩ args wy) (enterV Try.prog v1 #[.func (.yield lz1) #[] #[]] waz1 fun _ wbz1 => endA lz1 rz1 wbz1 fun pe wcz1 => jumpP pe wcz1 (fun wdz1 => J9_11 R l r x5 x6 x9 x11 x12 ⟨w.heap.size, 0, none⟩ wdz1) (fun wdz1 => stopA l r (some .ret) R wdz1) (fun jd wdz1 => cond (Nat.beq jd 6) (J9_11 R l r x5 x6 x9 x11 x12 ⟨w.heap.size, 0, none⟩ wdz1) (cond (Nat.beq jd 5) (stopA l r none R wdz1) (stopA l r (some (.exit jd)) R wdz1))) (fun jt wdz1 => stopA l r (some (.goto jt)) R wdz1))
def J9_8 (R : Value → World → Prop) (l : Nat) (r : Loop) (x4 : Addr) (x5 : Addr) (x6 : Addr) (x7 : Addr) (x9 : Addr) (x10 : Addr) (x11 : Addr) (x12 : Addr) (w : World) : Prop :=
  ldK Try.prog w x12 fun v1 => asI .i64 v1 fun n1 => ldK Try.prog w x4 fun v2 => asL v2 fun l1p l1l l1c => ifB (decide ((n1 : Int) < (l1l : Nat))) (drewK w fun w1 => ldK Try.prog w1 x7 fun v3 => asP v3 fun p1 => ldK Try.prog w1 x4 fun v4 => asL v4 fun l2p l2l l2c => ldK Try.prog w1 x12 fun v5 => asI .i64 v5 fun n2 => semK Try.prog (Instr.indexAt 22 (.slice l2p l2l l2c) (.int .i64 n2)) w1 fun v6 w2 => asA v6 fun ad1 => ldK Try.prog w1 ad1 fun v7 => asI .i64 v7 fun n3 => ldK Try.prog w1 (Addr.add ad1 1) fun v8 => asB v8 fun b1 => ldK Try.prog w1 (Addr.add ad1 2) fun v9 => asI .i64 v9 fun n4 => ldK Try.prog w1 (Addr.add ad1 3) fun v10 => asI .i64 v10 fun n5 => CallV Try.prog 11 #[(.pointer p1), (.agg #[(.int .i64 n3), (.bool b1), (.int .i64 n4), (.int .i64 n5)])] w1 fun v11 w3 => asT v11 fun t1_0 => asEnd t1_0 (J9_10 R l r x5 x6 x9 x10 x11 x12 w3)) (J9_10 R l r x5 x6 x9 x10 x11 x12 w)
def J9_9 (R : Value → World → Prop) (l : Nat) (r : Loop) (x4 : Addr) (x5 : Addr) (x6 : Addr) (x7 : Addr) (x9 : Addr) (x10 : Addr) (x11 : Addr) (x12 : Addr) (x78 : Bool) (w : World) : Prop :=
  ifB x78 (semU Try.prog (Instr.storeAt 4 (.pointer (some x6)) (.bool false)) w fun w1 => stopA l r (some .ret) R w1) (J9_8 R l r x4 x5 x6 x7 x9 x10 x11 x12 w)
def B9_7 (R : Value → World → Prop) (l : Nat) (r : Loop) (x4 : Addr) (x5 : Addr) (x6 : Addr) (x7 : Addr) (x9 : Addr) (x10 : Addr) (x11 : Addr) (x12 : Addr) (args : List Value) (w : World) : Prop :=
  readyA w l r (asHd args fun y0 ys0 => asI .i64 y0 fun n1 => asHd ys0 fun y1 ys1 => asI .i64 y1 fun n2 => asEnd ys1 (readyA w l r (putK w l (loopObj r .busy none) fun w1 => ldK Try.prog w1 x12 fun v1 => asI .i64 v1 fun n3 => ldK Try.prog w1 x9 fun v2 => asL v2 fun l1p l1l l1c => ifB (decide ((n3 : Int) ≥ (l1l : Nat))) (J9_9 R l r x4 x5 x6 x7 x9 x10 x11 x12 true w1) (ldK Try.prog w1 x9 fun v3 => asL v3 fun l2p l2l l2c => ldK Try.prog w1 x12 fun v4 => asI .i64 v4 fun n4 => semK Try.prog (Instr.indexAt 29 (.slice l2p l2l l2c) (.int .i64 n4)) w1 fun v5 w2 => asA v5 fun ad1 => ldK Try.prog w2 ad1 fun v6 => asI .i64 v6 fun n5 => ifB ((n1 : Int) != n5) (J9_9 R l r x4 x5 x6 x7 x9 x10 x11 x12 true w2) (ldK Try.prog w2 (Addr.add x9 1) fun v7 => asL v7 fun l3p l3l l3c => ldK Try.prog w2 x12 fun v8 => asI .i64 v8 fun n6 => semK Try.prog (Instr.indexAt 29 (.slice l3p l3l l3c) (.int .i64 n6)) w2 fun v9 w3 => asA v9 fun ad2 => ldK Try.prog w3 ad2 fun v10 => asI .i64 v10 fun n7 => J9_9 R l r x4 x5 x6 x7 x9 x10 x11 x12 ((n2 : Int) != n7) w3)))))
def J9_5 (R : Value → World → Prop) (C_L9_4 : Addr → Addr → Addr → Addr → Addr → Addr → Addr → List Deferred → World → Prop) (x4 : Addr) (x5 : Addr) (x6 : Addr) (x7 : Addr) (x9 : Addr) (x10 : Addr) (x11 : Addr) (ds : List Deferred) (w : World) : Prop :=
  ldK Try.prog w x11 fun v1 => asI .i64 v1 fun n1 => allocK w (.cells #[(.int .i64 0)] 3) fun w1 => semU Try.prog (Instr.storeAt 3 (.pointer (some ⟨w.heap.size, 0, none⟩)) (.int .i64 n1)) w1 fun w2 => ldK Try.prog w2 ⟨w.heap.size, 0, none⟩ fun v2 => asI .i64 v2 fun n2 => semU Try.prog (Instr.storeAt 3 (.pointer (some ⟨w.heap.size, 0, none⟩)) (.int .i64 (IntKind.wrap .i64 (n2 + 1)))) w2 fun w3 => C_L9_4 x4 x5 x6 x7 x9 x10 ⟨w.heap.size, 0, none⟩ ds w3
def J9_16 (R : Value → World → Prop) (C_L9_4 : Addr → Addr → Addr → Addr → Addr → Addr → Addr → List Deferred → World → Prop) (x4 : Addr) (x5 : Addr) (x6 : Addr) (x7 : Addr) (x9 : Addr) (x10 : Addr) (x11 : Addr) (x152 : Bool) (ds : List Deferred) (w : World) : Prop :=
  ifB x152 (semU Try.prog (Instr.storeAt 4 (.pointer (some x6)) (.bool false)) w fun w1 => marksA ds w1 fun w2 => ldK Try.prog w2 x6 fun v1 => asB v1 fun b1 => R (.bool b1) w2) (J9_5 R C_L9_4 x4 x5 x6 x7 x9 x10 x11 ds w)
def J9_6 (R : Value → World → Prop) (C_L9_4 : Addr → Addr → Addr → Addr → Addr → Addr → Addr → List Deferred → World → Prop) (x4 : Addr) (x5 : Addr) (x6 : Addr) (x7 : Addr) (x9 : Addr) (x10 : Addr) (x11 : Addr) (x12 : Addr) (ds : List Deferred) (w : World) : Prop :=
  ldK Try.prog w x12 fun v1 => asI .i64 v1 fun n1 => ldK Try.prog w x9 fun v2 => asL v2 fun l1p l1l l1c => ifB ((n1 : Int) != (l1l : Nat)) (ldK Try.prog w x11 fun v3 => asI .i64 v3 fun n2 => ifB (decide ((n2 : Int) > 0)) (J9_16 R C_L9_4 x4 x5 x6 x7 x9 x10 x11 true ds w) (ldK Try.prog w x12 fun v4 => asI .i64 v4 fun n3 => ldK Try.prog w x5 fun v5 => asI .i64 v5 fun n4 => J9_16 R C_L9_4 x4 x5 x6 x7 x9 x10 x11 ((n3 : Int) != n4) ds w)) (J9_16 R C_L9_4 x4 x5 x6 x7 x9 x10 x11 false ds w)
def J9_3 (R : Value → World → Prop) (x6 : Addr) (ds : List Deferred) (w : World) : Prop :=
  CallV Try.prog 20 #[] w fun v1 w1 => asB v1 fun b1 => semU Try.prog (Instr.storeAt 4 (.pointer (some x6)) (.bool b1)) w1 fun w2 => marksA ds w2 fun w3 => ldK Try.prog w3 x6 fun v2 => asB v2 fun b2 => R (.bool b2) w3
def L9_4 (R : Value → World → Prop) : Nat → Addr → Addr → Addr → Addr → Addr → Addr → Addr → List Deferred → World → Prop
  | 0 => fun _ _ _ _ _ _ _ _ _ => False
  | k + 1 => fun x4 x5 x6 x7 x9 x10 x11 ds w => ldK Try.prog w x11 fun v1 => asI .i64 v1 fun n1 => ifB (decide ((n1 : Int) < 3)) (allocK w (.cells #[(.int .i64 0)] 3) fun w1 => semU Try.prog (Instr.storeAt 3 (.pointer (some ⟨w.heap.size, 0, none⟩)) (.int .i64 0)) w1 fun w2 => ldK Try.prog w2 x10 fun v2 => entO w2 fun lz1 rz1 mkz1 waz1 => yieldA Try.prog lz1 (fun args wy F => B9_7 F lz1 rz1 x4 x5 x6 x7 x9 x10 x11 ⟨w.heap.size, 0, none⟩ args wy) (enterV Try.prog v2 #[.func (.yield lz1) #[] #[]] waz1 fun _ wbz1 => endA lz1 rz1 wbz1 fun pe wcz1 => jumpP pe wcz1 (fun wdz1 => J9_6 R (L9_4 R k) x4 x5 x6 x7 x9 x10 x11 ⟨w.heap.size, 0, none⟩ (mkz1 ++ ds) wdz1) (fun wdz1 => marksA (mkz1 ++ ds) wdz1 fun w3 => ldK Try.prog w3 x6 fun v3 => asB v3 fun b1 => R (.bool b1) w3) (fun jd wdz1 => cond (Nat.beq jd 4) (J9_6 R (L9_4 R k) x4 x5 x6 x7 x9 x10 x11 ⟨w.heap.size, 0, none⟩ (mkz1 ++ ds) wdz1) (cond (Nat.beq jd 3) (J9_5 R (L9_4 R k) x4 x5 x6 x7 x9 x10 x11 (mkz1 ++ ds) wdz1) (cond (Nat.beq jd 2) (J9_3 R x6 (mkz1 ++ ds) wdz1) (False)))) (fun jt wdz1 => False))) (J9_3 R x6 ds w)
def J9_1 (R : Value → World → Prop) (x4 : Addr) (x5 : Addr) (x6 : Addr) (x7 : Addr) (ds : List Deferred) (w : World) : Prop :=
  ldK Try.prog w x7 fun v1 => asP v1 fun p1 => CallV Try.prog 12 #[(.pointer p1), (.int .i64 1), (.int .i64 1)] w fun v2 w1 => asT v2 fun t1_0 => asEnd t1_0 (ldK Try.prog w1 x7 fun v3 => asP v3 fun p2 => CallV Try.prog 13 #[(.pointer p2)] w1 fun v4 w2 => asG v4 fun q1_0 => asHd q1_0 fun q1_0x q1_1 => asL q1_0x fun l1p l1l l1c => asHd q1_1 fun q1_1x q1_2 => asL q1_1x fun l2p l2l l2c => asEnd q1_2 (allocK w2 (.cells #[(.slice none 0 0), (.slice none 0 0)] 31) fun w3 => semU Try.prog (Instr.storeAt 31 (.pointer (some ⟨w2.heap.size, 0, none⟩)) (.agg #[(.slice l1p l1l l1c), (.slice l2p l2l l2c)])) w3 fun w4 => ldK Try.prog w4 x7 fun v5 => asP v5 fun p3 => CallV Try.prog 29 #[(.pointer p3), (.func (.func 27) #[] #[])] w4 fun v6 w5 => allocK w5 (.cells #[.nilFunc] 52) fun w6 => semU Try.prog (Instr.storeAt 52 (.pointer (some ⟨w5.heap.size, 0, none⟩)) v6) w6 fun w7 => ldK Try.prog w7 ⟨w5.heap.size, 0, none⟩ fun v7 => semK Try.prog (do eqGuard .eql 52 (.tmp 47) (.const .nilFunc) v7 .nilFunc; binOp .eql 52 v7 .nilFunc) w7 fun v8 w8 => asB v8 fun b1 => ifB b1 (semU Try.prog (Instr.storeAt 4 (.pointer (some x6)) (.bool false)) w8 fun w9 => marksA ds w9 fun w10 => ldK Try.prog w10 x6 fun v9 => asB v9 fun b2 => R (.bool b2) w10) (allocK w8 (.cells #[(.int .i64 0)] 3) fun w11 => semU Try.prog (Instr.storeAt 3 (.pointer (some ⟨w8.heap.size, 0, none⟩)) (.int .i64 0)) w11 fun w12 => ∃ m, L9_4 R m x4 x5 x6 x7 ⟨w2.heap.size, 0, none⟩ ⟨w5.heap.size, 0, none⟩ ⟨w8.heap.size, 0, none⟩ ds w12)))
def L9_2 (R : Value → World → Prop) : Nat → Option Addr → Nat → Nat → Addr → Addr → Addr → Addr → Int → List Deferred → World → Prop
  | 0 => fun _ _ _ _ _ _ _ _ _ _ => False
  | k + 1 => fun x0p x0l x0c x4 x5 x6 x7 x8 ds w => ifB (decide ((x8 : Int) < (x0l : Nat))) (drewK w fun w1 => ldK Try.prog w1 x7 fun v1 => asP v1 fun p1 => semK Try.prog (Instr.indexAt 22 (.slice x0p x0l x0c) (.int .i64 x8)) w1 fun v2 w2 => asA v2 fun ad1 => ldK Try.prog w1 ad1 fun v3 => asI .i64 v3 fun n1 => ldK Try.prog w1 (Addr.add ad1 1) fun v4 => asB v4 fun b1 => ldK Try.prog w1 (Addr.add ad1 2) fun v5 => asI .i64 v5 fun n2 => ldK Try.prog w1 (Addr.add ad1 3) fun v6 => asI .i64 v6 fun n3 => CallV Try.prog 11 #[(.pointer p1), (.agg #[(.int .i64 n1), (.bool b1), (.int .i64 n2), (.int .i64 n3)])] w1 fun v7 w3 => asT v7 fun t1_0 => asEnd t1_0 (L9_2 R k x0p x0l x0c x4 x5 x6 x7 (IntKind.wrap .i64 (x8 + 1)) ds w3)) (J9_1 R x4 x5 x6 x7 ds w)
def J9_0 (R : Value → World → Prop) (x0p : Option Addr) (x0l : Nat) (x0c : Nat) (x4 : Addr) (x5 : Addr) (x6 : Addr) (ds : List Deferred) (w : World) : Prop :=
  CallV Try.prog 10 #[] w fun v1 w1 => asP v1 fun p1 => allocK w1 (.cells #[(.pointer none)] 23) fun w2 => semU Try.prog (Instr.storeAt 23 (.pointer (some ⟨w1.heap.size, 0, none⟩)) (.pointer p1)) w2 fun w3 => ldK Try.prog w3 ⟨w1.heap.size, 0, none⟩ fun v2 => asP v2 fun p2 => ifB (Option.isNone p2) (semU Try.prog (Instr.storeAt 4 (.pointer (some x6)) (.bool false)) w3 fun w4 => marksA ds w4 fun w5 => ldK Try.prog w5 x6 fun v3 => asB v3 fun b1 => R (.bool b1) w5) (∃ m, L9_2 R m x0p x0l x0c x4 x5 x6 ⟨w1.heap.size, 0, none⟩ 0 ds w3)
def F9 (a0p : Option Addr) (a0l : Nat) (a0c : Nat) (a1p : Option Addr) (a1l : Nat) (a1c : Nat) (a2 : Int) (w : World) (R : Value → World → Prop) : Prop :=
  allocK w (.cells #[(.slice a1p a1l a1c)] 22) fun w1 => allocK w1 (.cells #[(.int .i64 a2)] 3) fun w2 => allocK w2 (.cells #[(.bool false)] 4) fun w3 => ifB (decide (((a0l : Nat) : Int) > 2048)) (semU Try.prog (Instr.storeAt 4 (.pointer (some ⟨w2.heap.size, 0, none⟩)) (.bool true)) w3 fun w4 => ldK Try.prog w4 ⟨w2.heap.size, 0, none⟩ fun v1 => asB v1 fun b1 => R (.bool b1) w4) (ldK Try.prog w3 ⟨w.heap.size, 0, none⟩ fun v2 => asL v2 fun l1p l1l l1c => ifB (decide (((l1l : Nat) : Int) > 2048)) (semU Try.prog (Instr.storeAt 4 (.pointer (some ⟨w2.heap.size, 0, none⟩)) (.bool true)) w3 fun w5 => ldK Try.prog w5 ⟨w2.heap.size, 0, none⟩ fun v3 => asB v3 fun b2 => R (.bool b2) w5) (J9_0 R a0p a0l a0c ⟨w.heap.size, 0, none⟩ ⟨w1.heap.size, 0, none⟩ ⟨w2.heap.size, 0, none⟩ ([]) w3))
def A9 (R : Value → World → Prop) : Ann := (.seq .no (.join (fun e ds w => asL (e 0) fun x0p x0l x0c => asA (e 4) fun x4 => asA (e 5) fun x5 => asA (e 6) fun x6 => J9_0 R x0p x0l x0c x4 x5 x6 ds w) .no (.seq .no (.seq .no (.join (fun e ds w => asA (e 4) fun x4 => asA (e 5) fun x5 => asA (e 6) fun x6 => asA (e 7) fun x7 => J9_1 R x4 x5 x6 x7 ds w) (.seq .no (.block (.loop (fun m e ds w => asL (e 0) fun x0p x0l x0c => asA (e 4) fun x4 => asA (e 5) fun x5 => asA (e 6) fun x6 => asA (e 7) fun x7 => asI .i64 (e 8) fun x8 => L9_2 R m x0p x0l x0c x4 x5 x6 x7 x8 ds w) (fun kL9_2 => (.seq .no (.seq (.block (.draw [0, 1, 2, 3, 4, 5])) .no)))))) (.seq .no (.seq .no (.seq .no (.seq .no (.join (fun e ds w => asA (e 6) fun x6 => J9_3 R x6 ds w) (.seq .no (.block (.loop (fun m e ds w => asA (e 4) fun x4 => asA (e 5) fun x5 => asA (e 6) fun x6 => asA (e 7) fun x7 => asA (e 9) fun x9 => asA (e 10) fun x10 => asA (e 11) fun x11 => L9_4 R m x4 x5 x6 x7 x9 x10 x11 ds w) (fun kL9_4 => (.seq .no (.join (fun e ds w => asA (e 4) fun x4 => asA (e 5) fun x5 => asA (e 6) fun x6 => asA (e 7) fun x7 => asA (e 9) fun x9 => asA (e 10) fun x10 => asA (e 11) fun x11 => J9_5 R (L9_4 R kL9_4) x4 x5 x6 x7 x9 x10 x11 ds w) (.block (.seq .no (.join (fun e ds w => asA (e 4) fun x4 => asA (e 5) fun x5 => asA (e 6) fun x6 => asA (e 7) fun x7 => asA (e 9) fun x9 => asA (e 10) fun x10 => asA (e 11) fun x11 => asA (e 12) fun x12 => J9_6 R (L9_4 R kL9_4) x4 x5 x6 x7 x9 x10 x11 x12 ds w) (.seq .no (.block (.rng [.one (.i .i64), .one (.i .i64)] (fun l7 r7 F7 => .no) (fun l7 r7 F7 => (.block (.join (fun e ds w => nilD ds (asA (e 4) fun x4 => asA (e 5) fun x5 => asA (e 6) fun x6 => asA (e 7) fun x7 => asA (e 9) fun x9 => asA (e 10) fun x10 => asA (e 11) fun x11 => asA (e 12) fun x12 => J9_8 F7 l7 r7 x4 x5 x6 x7 x9 x10 x11 x12 w)) (.join (fun e ds w => nilD ds (asA (e 4) fun x4 => asA (e 5) fun x5 => asA (e 6) fun x6 => asA (e 7) fun x7 => asA (e 9) fun x9 => asA (e 10) fun x10 => asA (e 11) fun x11 => asA (e 12) fun x12 => asB (e 78) fun x78 => J9_9 F7 l7 r7 x4 x5 x6 x7 x9 x10 x11 x12 x78 w)) .no .no) (.join (fun e ds w => nilD ds (asA (e 5) fun x5 => asA (e 6) fun x6 => asA (e 9) fun x9 => asA (e 10) fun x10 => asA (e 11) fun x11 => asA (e 12) fun x12 => J9_10 F7 l7 r7 x5 x6 x9 x10 x11 x12 w)) (.seq .no (.cond (.draw [0, 1, 2, 3, 4, 5]) .no)) (.seq .no (.join (fun e ds w => nilD ds (asA (e 5) fun x5 => asA (e 6) fun x6 => asA (e 9) fun x9 => asA (e 11) fun x11 => asA (e 12) fun x12 => asA (e 15) fun x15 => J9_11 F7 l7 r7 x5 x6 x9 x11 x12 x15 w)) (.seq .no (.block (.rng [.one (.i .i64), .one (.i .i64)] (fun l12 r12 F12 => .no) (fun l12 r12 F12 => (.block (.join (fun e ds w => nilD ds (asA (e 15) fun x15 => J9_13 F12 l12 r12 x15 w)) (.join (fun e ds w => nilD ds (asA (e 15) fun x15 => asB (e 118) fun x118 => J9_14 F12 l12 r12 x15 x118 w)) .no .no) .no)))))) (.join (fun e ds w => nilD ds (asA (e 5) fun x5 => asA (e 11) fun x11 => asA (e 12) fun x12 => J9_15 F7 l7 r7 x5 x11 x12 w)) .no .no)))))))))) (.join (fun e ds w => asA (e 4) fun x4 => asA (e 5) fun x5 => asA (e 6) fun x6 => asA (e 7) fun x7 => asA (e 9) fun x9 => asA (e 10) fun x10 => asA (e 11) fun x11 => asB (e 152) fun x152 => J9_16 R (L9_4 R kL9_4) x4 x5 x6 x7 x9 x10 x11 x152 ds w) .no .no)))) .no)))))) .no))))))))))
theorem sides9 (R : Value → World → Prop) : fnSides Try.prog Try.f9 (A9 R) R := by
  refine And.intro ?_ ?_
  ·
    exact trivial
  ·
    refine And.intro ?_ (And.intro ?_ ?_)
    ·
      intro e ds w h
      obtain ⟨x0p, x0l, x0c, z0, h⟩ := asL_elim h
      obtain ⟨x4, z4, h⟩ := asA_elim h
      obtain ⟨x5, z5, h⟩ := asA_elim h
      obtain ⟨x6, z6, h⟩ := asA_elim h
      have he : (put (put (put (put e (some 0) (.slice x0p x0l x0c)) (some 4) (.pointer (some x4))) (some 5) (.pointer (some x5))) (some 6) (.pointer (some x6))) = e := by rw [put_id z0, put_id z4, put_id z5, put_id z6]
      rw [← he]
      clear he
      exact Eq.mp (by kernel_rfl) h
    ·
      exact trivial
    ·
      refine And.intro ?_ ?_
      ·
        exact trivial
      ·
        refine And.intro ?_ ?_
        ·
          exact trivial
        ·
          refine And.intro ?_ (And.intro ?_ ?_)
          ·
            intro e ds w h
            obtain ⟨x4, z4, h⟩ := asA_elim h
            obtain ⟨x5, z5, h⟩ := asA_elim h
            obtain ⟨x6, z6, h⟩ := asA_elim h
            obtain ⟨x7, z7, h⟩ := asA_elim h
            have he : (put (put (put (put e (some 4) (.pointer (some x4))) (some 5) (.pointer (some x5))) (some 6) (.pointer (some x6))) (some 7) (.pointer (some x7))) = e := by rw [put_id z4, put_id z5, put_id z6, put_id z7]
            rw [← he]
            clear he
            exact Eq.mp (by kernel_rfl) h
          ·
            refine And.intro ?_ ?_
            ·
              exact trivial
            ·
              refine And.intro ?_ (And.intro ?_ ?_)
              ·
                intro e ds w h
                obtain ⟨x0p, x0l, x0c, z0, h⟩ := asL_elim h
                obtain ⟨x4, z4, h⟩ := asA_elim h
                obtain ⟨x5, z5, h⟩ := asA_elim h
                obtain ⟨x6, z6, h⟩ := asA_elim h
                obtain ⟨x7, z7, h⟩ := asA_elim h
                obtain ⟨x8, z8, h⟩ := asI_elim h
                exact h
              ·
                intro kL9_2 e ds w h
                obtain ⟨x0p, x0l, x0c, z0, h⟩ := asL_elim h
                obtain ⟨x4, z4, h⟩ := asA_elim h
                obtain ⟨x5, z5, h⟩ := asA_elim h
                obtain ⟨x6, z6, h⟩ := asA_elim h
                obtain ⟨x7, z7, h⟩ := asA_elim h
                obtain ⟨x8, z8, h⟩ := asI_elim h
                have he : (put (put (put (put (put (put e (some 0) (.slice x0p x0l x0c)) (some 4) (.pointer (some x4))) (some 5) (.pointer (some x5))) (some 6) (.pointer (some x6))) (some 7) (.pointer (some x7))) (some 8) (.int .i64 x8)) = e := by rw [put_id z0, put_id z4, put_id z5, put_id z6, put_id z7, put_id z8]
                rw [← he]
                clear he
                exact Eq.mp (by kernel_rfl) h
              ·
                intro kL9_2
                refine And.intro ?_ ?_
                ·
                  exact trivial
                ·
                  refine And.intro ?_ ?_
                  ·
                    exact trivial
                  ·
                    exact trivial
          ·
            refine And.intro ?_ ?_
            ·
              exact trivial
            ·
              refine And.intro ?_ ?_
              ·
                exact trivial
              ·
                refine And.intro ?_ ?_
                ·
                  exact trivial
                ·
                  refine And.intro ?_ ?_
                  ·
                    exact trivial
                  ·
                    refine And.intro ?_ (And.intro ?_ ?_)
                    ·
                      intro e ds w h
                      obtain ⟨x6, z6, h⟩ := asA_elim h
                      have he : (put e (some 6) (.pointer (some x6))) = e := by rw [put_id z6]
                      rw [← he]
                      clear he
                      exact Eq.mp (by kernel_rfl) h
                    ·
                      refine And.intro ?_ ?_
                      ·
                        exact trivial
                      ·
                        refine And.intro ?_ (And.intro ?_ ?_)
                        ·
                          intro e ds w h
                          obtain ⟨x4, z4, h⟩ := asA_elim h
                          obtain ⟨x5, z5, h⟩ := asA_elim h
                          obtain ⟨x6, z6, h⟩ := asA_elim h
                          obtain ⟨x7, z7, h⟩ := asA_elim h
                          obtain ⟨x9, z9, h⟩ := asA_elim h
                          obtain ⟨x10, z10, h⟩ := asA_elim h
                          obtain ⟨x11, z11, h⟩ := asA_elim h
                          exact h
                        ·
                          intro kL9_4 e ds w h
                          obtain ⟨x4, z4, h⟩ := asA_elim h
                          obtain ⟨x5, z5, h⟩ := asA_elim h
                          obtain ⟨x6, z6, h⟩ := asA_elim h
                          obtain ⟨x7, z7, h⟩ := asA_elim h
                          obtain ⟨x9, z9, h⟩ := asA_elim h
                          obtain ⟨x10, z10, h⟩ := asA_elim h
                          obtain ⟨x11, z11, h⟩ := asA_elim h
                          have he : (put (put (put (put (put (put (put e (some 4) (.pointer (some x4))) (some 5) (.pointer (some x5))) (some 6) (.pointer (some x6))) (some 7) (.pointer (some x7))) (some 9) (.pointer (some x9))) (some 10) (.pointer (some x10))) (some 11) (.pointer (some x11))) = e := by rw [put_id z4, put_id z5, put_id z6, put_id z7, put_id z9, put_id z10, put_id z11]
                          rw [← he]
                          clear he
                          exact Eq.mp (by kernel_rfl) h
                        ·
                          intro kL9_4
                          refine And.intro ?_ ?_
                          ·
                            exact trivial
                          ·
                            refine And.intro ?_ (And.intro ?_ ?_)
                            ·
                              intro e ds w h
                              obtain ⟨x4, z4, h⟩ := asA_elim h
                              obtain ⟨x5, z5, h⟩ := asA_elim h
                              obtain ⟨x6, z6, h⟩ := asA_elim h
                              obtain ⟨x7, z7, h⟩ := asA_elim h
                              obtain ⟨x9, z9, h⟩ := asA_elim h
                              obtain ⟨x10, z10, h⟩ := asA_elim h
                              obtain ⟨x11, z11, h⟩ := asA_elim h
                              have he : (put (put (put (put (put (put (put e (some 4) (.pointer (some x4))) (some 5) (.pointer (some x5))) (some 6) (.pointer (some x6))) (some 7) (.pointer (some x7))) (some 9) (.pointer (some x9))) (some 10) (.pointer (some x10))) (some 11) (.pointer (some x11))) = e := by rw [put_id z4, put_id z5, put_id z6, put_id z7, put_id z9, put_id z10, put_id z11]
                              rw [← he]
                              clear he
                              exact Eq.mp (by kernel_rfl) h
                            ·
                              refine And.intro ?_ ?_
                              ·
                                exact trivial
                              ·
                                refine And.intro ?_ (And.intro ?_ ?_)
                                ·
                                  intro e ds w h
                                  obtain ⟨x4, z4, h⟩ := asA_elim h
                                  obtain ⟨x5, z5, h⟩ := asA_elim h
                                  obtain ⟨x6, z6, h⟩ := asA_elim h
                                  obtain ⟨x7, z7, h⟩ := asA_elim h
                                  obtain ⟨x9, z9, h⟩ := asA_elim h
                                  obtain ⟨x10, z10, h⟩ := asA_elim h
                                  obtain ⟨x11, z11, h⟩ := asA_elim h
                                  obtain ⟨x12, z12, h⟩ := asA_elim h
                                  have he : (put (put (put (put (put (put (put (put e (some 4) (.pointer (some x4))) (some 5) (.pointer (some x5))) (some 6) (.pointer (some x6))) (some 7) (.pointer (some x7))) (some 9) (.pointer (some x9))) (some 10) (.pointer (some x10))) (some 11) (.pointer (some x11))) (some 12) (.pointer (some x12))) = e := by rw [put_id z4, put_id z5, put_id z6, put_id z7, put_id z9, put_id z10, put_id z11, put_id z12]
                                  rw [← he]
                                  clear he
                                  exact Eq.mp (by kernel_rfl) h
                                ·
                                  refine And.intro ?_ ?_
                                  ·
                                    exact trivial
                                  ·
                                    intro l7 r7 F7
                                    refine And.intro ?_ ?_
                                    ·
                                      exact trivial
                                    ·
                                      refine And.intro ?_ (And.intro ?_ ?_)
                                      ·
                                        intro e ds w h
                                        have hn := nilD_elim h
                                        clear h
                                        obtain ⟨rfl, h⟩ := hn
                                        obtain ⟨x4, z4, h⟩ := asA_elim h
                                        obtain ⟨x5, z5, h⟩ := asA_elim h
                                        obtain ⟨x6, z6, h⟩ := asA_elim h
                                        obtain ⟨x7, z7, h⟩ := asA_elim h
                                        obtain ⟨x9, z9, h⟩ := asA_elim h
                                        obtain ⟨x10, z10, h⟩ := asA_elim h
                                        obtain ⟨x11, z11, h⟩ := asA_elim h
                                        obtain ⟨x12, z12, h⟩ := asA_elim h
                                        have he : (put (put (put (put (put (put (put (put e (some 4) (.pointer (some x4))) (some 5) (.pointer (some x5))) (some 6) (.pointer (some x6))) (some 7) (.pointer (some x7))) (some 9) (.pointer (some x9))) (some 10) (.pointer (some x10))) (some 11) (.pointer (some x11))) (some 12) (.pointer (some x12))) = e := by rw [put_id z4, put_id z5, put_id z6, put_id z7, put_id z9, put_id z10, put_id z11, put_id z12]
                                        rw [← he]
                                        clear he
                                        exact Eq.mp (by kernel_rfl) h
                                      ·
                                        refine And.intro ?_ (And.intro ?_ ?_)
                                        ·
                                          intro e ds w h
                                          have hn := nilD_elim h
                                          clear h
                                          obtain ⟨rfl, h⟩ := hn
                                          obtain ⟨x4, z4, h⟩ := asA_elim h
                                          obtain ⟨x5, z5, h⟩ := asA_elim h
                                          obtain ⟨x6, z6, h⟩ := asA_elim h
                                          obtain ⟨x7, z7, h⟩ := asA_elim h
                                          obtain ⟨x9, z9, h⟩ := asA_elim h
                                          obtain ⟨x10, z10, h⟩ := asA_elim h
                                          obtain ⟨x11, z11, h⟩ := asA_elim h
                                          obtain ⟨x12, z12, h⟩ := asA_elim h
                                          obtain ⟨x78, z78, h⟩ := asB_elim h
                                          have he : (put (put (put (put (put (put (put (put (put e (some 4) (.pointer (some x4))) (some 5) (.pointer (some x5))) (some 6) (.pointer (some x6))) (some 7) (.pointer (some x7))) (some 9) (.pointer (some x9))) (some 10) (.pointer (some x10))) (some 11) (.pointer (some x11))) (some 12) (.pointer (some x12))) (some 78) (.bool x78)) = e := by rw [put_id z4, put_id z5, put_id z6, put_id z7, put_id z9, put_id z10, put_id z11, put_id z12, put_id z78]
                                          rw [← he]
                                          clear he
                                          exact Eq.mp (by kernel_rfl) h
                                        ·
                                          exact trivial
                                        ·
                                          exact trivial
                                      ·
                                        refine And.intro ?_ (And.intro ?_ ?_)
                                        ·
                                          intro e ds w h
                                          have hn := nilD_elim h
                                          clear h
                                          obtain ⟨rfl, h⟩ := hn
                                          obtain ⟨x5, z5, h⟩ := asA_elim h
                                          obtain ⟨x6, z6, h⟩ := asA_elim h
                                          obtain ⟨x9, z9, h⟩ := asA_elim h
                                          obtain ⟨x10, z10, h⟩ := asA_elim h
                                          obtain ⟨x11, z11, h⟩ := asA_elim h
                                          obtain ⟨x12, z12, h⟩ := asA_elim h
                                          have he : (put (put (put (put (put (put e (some 5) (.pointer (some x5))) (some 6) (.pointer (some x6))) (some 9) (.pointer (some x9))) (some 10) (.pointer (some x10))) (some 11) (.pointer (some x11))) (some 12) (.pointer (some x12))) = e := by rw [put_id z5, put_id z6, put_id z9, put_id z10, put_id z11, put_id z12]
                                          rw [← he]
                                          clear he
                                          exact Eq.mp (by kernel_rfl) h
                                        ·
                                          refine And.intro ?_ ?_
                                          ·
                                            exact trivial
                                          ·
                                            refine And.intro ?_ ?_
                                            ·
                                              exact trivial
                                            ·
                                              exact trivial
                                        ·
                                          refine And.intro ?_ ?_
                                          ·
                                            exact trivial
                                          ·
                                            refine And.intro ?_ (And.intro ?_ ?_)
                                            ·
                                              intro e ds w h
                                              have hn := nilD_elim h
                                              clear h
                                              obtain ⟨rfl, h⟩ := hn
                                              obtain ⟨x5, z5, h⟩ := asA_elim h
                                              obtain ⟨x6, z6, h⟩ := asA_elim h
                                              obtain ⟨x9, z9, h⟩ := asA_elim h
                                              obtain ⟨x11, z11, h⟩ := asA_elim h
                                              obtain ⟨x12, z12, h⟩ := asA_elim h
                                              obtain ⟨x15, z15, h⟩ := asA_elim h
                                              have he : (put (put (put (put (put (put e (some 5) (.pointer (some x5))) (some 6) (.pointer (some x6))) (some 9) (.pointer (some x9))) (some 11) (.pointer (some x11))) (some 12) (.pointer (some x12))) (some 15) (.pointer (some x15))) = e := by rw [put_id z5, put_id z6, put_id z9, put_id z11, put_id z12, put_id z15]
                                              rw [← he]
                                              clear he
                                              exact Eq.mp (by kernel_rfl) h
                                            ·
                                              refine And.intro ?_ ?_
                                              ·
                                                exact trivial
                                              ·
                                                intro l12 r12 F12
                                                refine And.intro ?_ ?_
                                                ·
                                                  exact trivial
                                                ·
                                                  refine And.intro ?_ (And.intro ?_ ?_)
                                                  ·
                                                    intro e ds w h
                                                    have hn := nilD_elim h
                                                    clear h
                                                    obtain ⟨rfl, h⟩ := hn
                                                    obtain ⟨x15, z15, h⟩ := asA_elim h
                                                    have he : (put e (some 15) (.pointer (some x15))) = e := by rw [put_id z15]
                                                    rw [← he]
                                                    clear he
                                                    exact Eq.mp (by kernel_rfl) h
                                                  ·
                                                    refine And.intro ?_ (And.intro ?_ ?_)
                                                    ·
                                                      intro e ds w h
                                                      have hn := nilD_elim h
                                                      clear h
                                                      obtain ⟨rfl, h⟩ := hn
                                                      obtain ⟨x15, z15, h⟩ := asA_elim h
                                                      obtain ⟨x118, z118, h⟩ := asB_elim h
                                                      have he : (put (put e (some 15) (.pointer (some x15))) (some 118) (.bool x118)) = e := by rw [put_id z15, put_id z118]
                                                      rw [← he]
                                                      clear he
                                                      exact Eq.mp (by kernel_rfl) h
                                                    ·
                                                      exact trivial
                                                    ·
                                                      exact trivial
                                                  ·
                                                    exact trivial
                                            ·
                                              refine And.intro ?_ (And.intro ?_ ?_)
                                              ·
                                                intro e ds w h
                                                have hn := nilD_elim h
                                                clear h
                                                obtain ⟨rfl, h⟩ := hn
                                                obtain ⟨x5, z5, h⟩ := asA_elim h
                                                obtain ⟨x11, z11, h⟩ := asA_elim h
                                                obtain ⟨x12, z12, h⟩ := asA_elim h
                                                have he : (put (put (put e (some 5) (.pointer (some x5))) (some 11) (.pointer (some x11))) (some 12) (.pointer (some x12))) = e := by rw [put_id z5, put_id z11, put_id z12]
                                                rw [← he]
                                                clear he
                                                exact Eq.mp (by kernel_rfl) h
                                              ·
                                                exact trivial
                                              ·
                                                exact trivial
                                ·
                                  refine And.intro ?_ (And.intro ?_ ?_)
                                  ·
                                    intro e ds w h
                                    obtain ⟨x4, z4, h⟩ := asA_elim h
                                    obtain ⟨x5, z5, h⟩ := asA_elim h
                                    obtain ⟨x6, z6, h⟩ := asA_elim h
                                    obtain ⟨x7, z7, h⟩ := asA_elim h
                                    obtain ⟨x9, z9, h⟩ := asA_elim h
                                    obtain ⟨x10, z10, h⟩ := asA_elim h
                                    obtain ⟨x11, z11, h⟩ := asA_elim h
                                    obtain ⟨x152, z152, h⟩ := asB_elim h
                                    have he : (put (put (put (put (put (put (put (put e (some 4) (.pointer (some x4))) (some 5) (.pointer (some x5))) (some 6) (.pointer (some x6))) (some 7) (.pointer (some x7))) (some 9) (.pointer (some x9))) (some 10) (.pointer (some x10))) (some 11) (.pointer (some x11))) (some 152) (.bool x152)) = e := by rw [put_id z4, put_id z5, put_id z6, put_id z7, put_id z9, put_id z10, put_id z11, put_id z152]
                                    rw [← he]
                                    clear he
                                    exact Eq.mp (by kernel_rfl) h
                                  ·
                                    exact trivial
                                  ·
                                    exact trivial
                            ·
                              exact trivial
                    ·
                      exact trivial
theorem call9 (a0p : Option Addr) (a0l : Nat) (a0c : Nat) (a1p : Option Addr) (a1l : Nat) (a1c : Nat) (a2 : Int) (w : World) (R : Value → World → Prop) (h : F9 a0p a0l a0c a1p a1l a1c a2 w R) : CallV Try.prog 9 #[(.slice a0p a0l a0c), (.slice a1p a1l a1c), (.int .i64 a2)] w R :=
  callV_of (fn := Try.f9) (an := A9 R) (args := [(.slice a0p a0l a0c), (.slice a1p a1l a1c), (.int .i64 a2)]) Try.func9 rfl (sides9 R) (Eq.mp (by kernel_rfl) h)
end Go.Proofs.Ytalhnoelkglgiaa.W
