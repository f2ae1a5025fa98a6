/- The functions of this text, as the layer Sh reckons them out (printed by shp.py, a program of ours): for each the predicate F, and that it suffices for a call. No condition. -/
import Derived.Test.YtalhnoelkglgiaaSh5
import Derived.Test.YtalhnoelkglgiaaProg
namespace Go.Proofs.Ytalhnoelkglgiaa.W
open Go Go.Proofs.Ytalhnoelkglgiaa.Sh
set_option linter.unusedVariables false
set_option maxRecDepth 100000

/-! 10 vouch/undo.New[int,int] -/
def F10 (w : World) (R : Value → World → Prop) : Prop :=
  allocK w (.map #[] 0) fun w1 => allocK w1 (.cells #[(.map (some w.heap.size)), (.slice none 0 0), (.slice none 0 0)] 58) fun w2 => R (.pointer (some ⟨w1.heap.size, 0, none⟩)) w2
def A10 (R : Value → World → Prop) : Ann := .no
theorem sides10 (R : Value → World → Prop) : fnSides Try.prog Try.f10 (A10 R) R := by
  trivial
theorem call10 (w : World) (R : Value → World → Prop) (h : F10 w R) : CallV Try.prog 10 #[] w R :=
  callV_of (fn := Try.f10) (an := A10 R) (args := []) Try.func10 rfl (sides10 R) (Eq.mp (by kernel_rfl) h)

/-! 12 (*vouch/undo.Table[int, int]).Set -/
def F12 (a0 : Option Addr) (a1 : Int) (a2 : Int) (w : World) (R : Value → World → Prop) : Prop :=
  CallV Try.prog 30 #[(.pointer a0), (.int .i64 a1)] w fun v1 w1 => asT v1 fun t1_0 => asEnd t1_0 (optP a0 fun ad1 => ldK Try.prog w1 ad1 fun v2 => asM v2 fun m1 => semU Try.prog (Instr.mapUpdate 55 (.map m1) (.int .i64 a1) (.int .i64 a2)) w1 fun w2 => R (.tuple #[]) w2)
def A12 (R : Value → World → Prop) : Ann := .no
theorem sides12 (R : Value → World → Prop) : fnSides Try.prog Try.f12 (A12 R) R := by
  trivial
theorem call12 (a0 : Option Addr) (a1 : Int) (a2 : Int) (w : World) (R : Value → World → Prop) (h : F12 a0 a1 a2 w R) : CallV Try.prog 12 #[(.pointer a0), (.int .i64 a1), (.int .i64 a2)] w R :=
  callV_of (fn := Try.f12) (an := A12 R) (args := [(.pointer a0), (.int .i64 a1), (.int .i64 a2)]) Try.func12 rfl (sides12 R) (Eq.mp (by kernel_rfl) h)

/-! 14 (*vouch/undo.Table[int, int]).Marks -/
def F14 (a0 : Option Addr) (w : World) (R : Value → World → Prop) : Prop :=
  optP a0 fun ad1 => ldK Try.prog w (Addr.add ad1 2) fun v1 => asL v1 fun l1p l1l l1c => R (.int .i64 (l1l : Nat)) w
def A14 (R : Value → World → Prop) : Ann := .no
theorem sides14 (R : Value → World → Prop) : fnSides Try.prog Try.f14 (A14 R) R := by
  trivial
theorem call14 (a0 : Option Addr) (w : World) (R : Value → World → Prop) (h : F14 a0 w R) : CallV Try.prog 14 #[(.pointer a0)] w R :=
  callV_of (fn := Try.f14) (an := A14 R) (args := [(.pointer a0)]) Try.func14 rfl (sides14 R) (Eq.mp (by kernel_rfl) h)

/-! 15 (*vouch/undo.Table[int, int]).Mark -/
def F15 (a0 : Option Addr) (w : World) (R : Value → World → Prop) : Prop :=
  drewK w fun w1 => optP a0 fun ad1 => ldK Try.prog w1 (Addr.add ad1 2) fun v1 => asL v1 fun l1p l1l l1c => optP a0 fun ad2 => ldK Try.prog w1 (Addr.add ad2 1) fun v2 => asL v2 fun l2p l2l l2c => allocK w1 (.cells #[(.int .i64 (l2l : Nat))] 3) fun w2 => (ldK Try.prog w2 (Addr.add ad1 2) fun v3 => asL v3 fun l3p l3l l3c => ((.slice l3p l3l l3c) : Value) = (.slice l1p l1l l1c)) ∧ (semK Try.prog (Builtin.append_ #[29, 29] 29 #[(.slice l1p l1l l1c), (.slice (some ⟨w1.heap.size, 0, none⟩) 1 1)]) w2 fun v4 w3 => asL v4 fun l4p l4l l4c => optP a0 fun ad3 => semU Try.prog (Instr.storeAt 29 (.pointer (some (Addr.add ad3 2))) (.slice l4p l4l l4c)) w3 fun w4 => optP a0 fun ad4 => ldK Try.prog w4 (Addr.add ad4 2) fun v5 => asL v5 fun l5p l5l l5c => R (.int .i64 (IntKind.wrap .i64 ((l5l : Nat) - 1))) w4)
def A15 (R : Value → World → Prop) : Ann := (.seq .no (.seq (.draw [0, 1, 2, 3, 4, 5, 6, 7, 8, 9, 10, 11, 12, 13, 14]) .no))
theorem sides15 (R : Value → World → Prop) : fnSides Try.prog Try.f15 (A15 R) R := by
  refine And.intro ?_ ?_
  ·
    exact trivial
  ·
    refine And.intro ?_ ?_
    ·
      exact trivial
    ·
      exact trivial
theorem call15 (a0 : Option Addr) (w : World) (R : Value → World → Prop) (h : F15 a0 w R) : CallV Try.prog 15 #[(.pointer a0)] w R :=
  callV_of (fn := Try.f15) (an := A15 R) (args := [(.pointer a0)]) Try.func15 rfl (sides15 R) (Eq.mp (by kernel_rfl) h)

/-! 16 (*vouch/undo.Table[int, int]).Delete -/
def F16 (a0 : Option Addr) (a1 : Int) (w : World) (R : Value → World → Prop) : Prop :=
  optP a0 fun ad1 => ldK Try.prog w ad1 fun v1 => asM v1 fun m1 => semK Try.prog (Instr.lookup 55 (.map m1) (.int .i64 a1) true) w fun v2 w1 => asT v2 fun t1_0 => asHd t1_0 fun t1_0x t1_1 => asI .i64 t1_0x fun n1 => asHd t1_1 fun t1_1x t1_2 => asB t1_1x fun b1 => asEnd t1_2 (ifB (!b1) (R (.bool false) w1) (CallV Try.prog 30 #[(.pointer a0), (.int .i64 a1)] w1 fun v3 w2 => asT v3 fun t2_0 => asEnd t2_0 (optP a0 fun ad2 => ldK Try.prog w2 ad2 fun v4 => asM v4 fun m2 => semK Try.prog (Builtin.delete_ #[55, 3] 0 #[(.map m2), (.int .i64 a1)]) w2 fun v5 w3 => asT v5 fun t3_0 => asEnd t3_0 (R (.bool true) w3))))
def A16 (R : Value → World → Prop) : Ann := .no
theorem sides16 (R : Value → World → Prop) : fnSides Try.prog Try.f16 (A16 R) R := by
  trivial
theorem call16 (a0 : Option Addr) (a1 : Int) (w : World) (R : Value → World → Prop) (h : F16 a0 a1 w R) : CallV Try.prog 16 #[(.pointer a0), (.int .i64 a1)] w R :=
  callV_of (fn := Try.f16) (an := A16 R) (args := [(.pointer a0), (.int .i64 a1)]) Try.func16 rfl (sides16 R) (Eq.mp (by kernel_rfl) h)

/-! 17 (*vouch/undo.Table[int, int]).Get -/
def F17 (a0 : Option Addr) (a1 : Int) (w : World) (R : Value → World → Prop) : Prop :=
  optP a0 fun ad1 => ldK Try.prog w ad1 fun v1 => asM v1 fun m1 => semK Try.prog (Instr.lookup 55 (.map m1) (.int .i64 a1) true) w fun v2 w1 => asT v2 fun t1_0 => asHd t1_0 fun t1_0x t1_1 => asI .i64 t1_0x fun n1 => asHd t1_1 fun t1_1x t1_2 => asB t1_1x fun b1 => asEnd t1_2 (R (.tuple #[(.int .i64 n1), (.bool b1)]) w1)
def A17 (R : Value → World → Prop) : Ann := .no
theorem sides17 (R : Value → World → Prop) : fnSides Try.prog Try.f17 (A17 R) R := by
  trivial
theorem call17 (a0 : Option Addr) (a1 : Int) (w : World) (R : Value → World → Prop) (h : F17 a0 a1 w R) : CallV Try.prog 17 #[(.pointer a0), (.int .i64 a1)] w R :=
  callV_of (fn := Try.f17) (an := A17 R) (args := [(.pointer a0), (.int .i64 a1)]) Try.func17 rfl (sides17 R) (Eq.mp (by kernel_rfl) h)

/-! 18 (*vouch/undo.Table[int, int]).Back -/
def J18_1 (R : Value → World → Prop) (x0 : Option Addr) (x1 : Int) (x5 : Int) (w : World) : Prop :=
  optP x0 fun ad1 => ldK Try.prog w (Addr.add ad1 1) fun v1 => asL v1 fun l1p l1l l1c => semK Try.prog (Instr.sliceAt 56 (.slice l1p l1l l1c) (some (.int .i64 x5)) none none) w fun v2 w1 => asL v2 fun l2p l2l l2c => semK Try.prog (Builtin.clear_ #[56] 0 #[(.slice l2p l2l l2c)]) w1 fun v3 w2 => asT v3 fun t1_0 => asEnd t1_0 (optP x0 fun ad2 => ldK Try.prog w2 (Addr.add ad2 1) fun v4 => asL v4 fun l3p l3l l3c => semK Try.prog (Instr.sliceAt 56 (.slice l3p l3l l3c) none (some (.int .i64 x5)) none) w2 fun v5 w3 => asL v5 fun l4p l4l l4c => optP x0 fun ad3 => semU Try.prog (Instr.storeAt 56 (.pointer (some (Addr.add ad3 1))) (.slice l4p l4l l4c)) w3 fun w4 => optP x0 fun ad4 => ldK Try.prog w4 (Addr.add ad4 2) fun v6 => asL v6 fun l5p l5l l5c => semK Try.prog (Instr.sliceAt 29 (.slice l5p l5l l5c) none (some (.int .i64 x1)) none) w4 fun v7 w5 => asL v7 fun l6p l6l l6c => optP x0 fun ad5 => semU Try.prog (Instr.storeAt 29 (.pointer (some (Addr.add ad5 2))) (.slice l6p l6l l6c)) w5 fun w6 => R (.int .i64 0) w6)
def L18_2 (R : Value → World → Prop) : Nat → Option Addr → Int → Int → Int → World → Prop
  | 0 => fun _ _ _ _ _ => False
  | k + 1 => fun x0 x1 x5 x6 w => ifB (decide ((x6 : Int) ≥ x5)) (optP x0 fun ad1 => ldK Try.prog w (Addr.add ad1 1) fun v1 => asL v1 fun l1p l1l l1c => semK Try.prog (Instr.indexAt 56 (.slice l1p l1l l1c) (.int .i64 x6)) w fun v2 w1 => asA v2 fun ad2 => ldK Try.prog w1 ad2 fun v3 => callVal Try.prog v3 #[] w1 fun v4 w2 => asT v4 fun t1_0 => asEnd t1_0 (L18_2 R k x0 x1 x5 (IntKind.wrap .i64 (x6 - 1)) w2)) (J18_1 R x0 x1 x5 w)
def J18_0 (R : Value → World → Prop) (x0 : Option Addr) (x1 : Int) (w : World) : Prop :=
  optP x0 fun ad1 => ldK Try.prog w (Addr.add ad1 2) fun v1 => asL v1 fun l1p l1l l1c => semK Try.prog (Instr.indexAt 29 (.slice l1p l1l l1c) (.int .i64 x1)) w fun v2 w1 => asA v2 fun ad2 => ldK Try.prog w1 ad2 fun v3 => asI .i64 v3 fun n1 => optP x0 fun ad3 => ldK Try.prog w1 (Addr.add ad3 1) fun v4 => asL v4 fun l2p l2l l2c => ∃ m, L18_2 R m x0 x1 n1 (IntKind.wrap .i64 ((l2l : Nat) - 1)) w1
def F18 (a0 : Option Addr) (a1 : Int) (w : World) (R : Value → World → Prop) : Prop :=
  ifB (decide ((a1 : Int) < 0)) (R (.int .i64 30) w) (optP a0 fun ad1 => ldK Try.prog w (Addr.add ad1 2) fun v1 => asL v1 fun l1p l1l l1c => ifB (decide ((a1 : Int) ≥ (l1l : Nat))) (R (.int .i64 30) w) (J18_0 R a0 a1 w))
def A18 (R : Value → World → Prop) : Ann := (.seq .no (.join (fun e ds w => nilD ds (asP (e 0) fun x0 => asI .i64 (e 1) fun x1 => J18_0 R x0 x1 w)) .no (.seq .no (.join (fun e ds w => nilD ds (asP (e 0) fun x0 => asI .i64 (e 1) fun x1 => asI .i64 (e 5) fun x5 => J18_1 R x0 x1 x5 w)) (.seq .no (.block (.loop (fun m e ds w => nilD ds (asP (e 0) fun x0 => asI .i64 (e 1) fun x1 => asI .i64 (e 5) fun x5 => asI .i64 (e 6) fun x6 => L18_2 R m x0 x1 x5 x6 w)) (fun kL18_2 => .no)))) .no))))
theorem sides18 (R : Value → World → Prop) : fnSides Try.prog Try.f18 (A18 R) R := by
  refine And.intro ?_ ?_
  ·
    exact trivial
  ·
    refine And.intro ?_ (And.intro ?_ ?_)
    ·
      intro e ds w h
      have hn := nilD_elim h
      clear h
      obtain ⟨rfl, h⟩ := hn
      obtain ⟨x0, z0, h⟩ := asP_elim h
      obtain ⟨x1, z1, h⟩ := asI_elim h
      have he : (put (put e (some 0) (.pointer x0)) (some 1) (.int .i64 x1)) = e := by rw [put_id z0, put_id z1]
      rw [← he]
      clear he
      exact Eq.mp (by kernel_rfl) h
    ·
      exact trivial
    ·
      refine And.intro ?_ ?_
      ·
        exact trivial
      ·
        refine And.intro ?_ (And.intro ?_ ?_)
        ·
          intro e ds w h
          have hn := nilD_elim h
          clear h
          obtain ⟨rfl, h⟩ := hn
          obtain ⟨x0, z0, h⟩ := asP_elim h
          obtain ⟨x1, z1, h⟩ := asI_elim h
          obtain ⟨x5, z5, h⟩ := asI_elim h
          have he : (put (put (put e (some 0) (.pointer x0)) (some 1) (.int .i64 x1)) (some 5) (.int .i64 x5)) = e := by rw [put_id z0, put_id z1, put_id z5]
          rw [← he]
          clear he
          exact Eq.mp (by kernel_rfl) h
        ·
          refine And.intro ?_ ?_
          ·
            exact trivial
          ·
            refine And.intro ?_ (And.intro ?_ ?_)
            ·
              intro e ds w h
              have hn := nilD_elim h
              clear h
              obtain ⟨rfl, h⟩ := hn
              obtain ⟨x0, z0, h⟩ := asP_elim h
              obtain ⟨x1, z1, h⟩ := asI_elim h
              obtain ⟨x5, z5, h⟩ := asI_elim h
              obtain ⟨x6, z6, h⟩ := asI_elim h
              exact h
            ·
              intro kL18_2 e ds w h
              have hn := nilD_elim h
              clear h
              obtain ⟨rfl, h⟩ := hn
              obtain ⟨x0, z0, h⟩ := asP_elim h
              obtain ⟨x1, z1, h⟩ := asI_elim h
              obtain ⟨x5, z5, h⟩ := asI_elim h
              obtain ⟨x6, z6, h⟩ := asI_elim h
              have he : (put (put (put (put e (some 0) (.pointer x0)) (some 1) (.int .i64 x1)) (some 5) (.int .i64 x5)) (some 6) (.int .i64 x6)) = e := by rw [put_id z0, put_id z1, put_id z5, put_id z6]
              rw [← he]
              clear he
              exact Eq.mp (by kernel_rfl) h
            ·
              intro kL18_2
              exact trivial
        ·
          exact trivial
theorem call18 (a0 : Option Addr) (a1 : Int) (w : World) (R : Value → World → Prop) (h : F18 a0 a1 w R) : CallV Try.prog 18 #[(.pointer a0), (.int .i64 a1)] w R :=
  callV_of (fn := Try.f18) (an := A18 R) (args := [(.pointer a0), (.int .i64 a1)]) Try.func18 rfl (sides18 R) (Eq.mp (by kernel_rfl) h)

/-! 21 (*vouch/undo.Table[int, int]).Forget -/
def J21_0 (R : Value → World → Prop) (x0 : Option Addr) (x1 : Int) (w : World) : Prop :=
  optP x0 fun ad1 => ldK Try.prog w (Addr.add ad1 2) fun v1 => asL v1 fun l1p l1l l1c => semK Try.prog (Instr.sliceAt 29 (.slice l1p l1l l1c) none (some (.int .i64 x1)) none) w fun v2 w1 => asL v2 fun l2p l2l l2c => optP x0 fun ad2 => semU Try.prog (Instr.storeAt 29 (.pointer (some (Addr.add ad2 2))) (.slice l2p l2l l2c)) w1 fun w2 => ifB ((x1 : Int) == 0) (optP x0 fun ad3 => ldK Try.prog w2 (Addr.add ad3 1) fun v3 => asL v3 fun l3p l3l l3c => semK Try.prog (Builtin.clear_ #[56] 0 #[(.slice l3p l3l l3c)]) w2 fun v4 w3 => asT v4 fun t1_0 => asEnd t1_0 (optP x0 fun ad4 => ldK Try.prog w3 (Addr.add ad4 1) fun v5 => asL v5 fun l4p l4l l4c => semK Try.prog (Instr.sliceAt 56 (.slice l4p l4l l4c) none (some (.int .i64 0)) none) w3 fun v6 w4 => asL v6 fun l5p l5l l5c => optP x0 fun ad5 => semU Try.prog (Instr.storeAt 56 (.pointer (some (Addr.add ad5 1))) (.slice l5p l5l l5c)) w4 fun w5 => R (.int .i64 0) w5)) (R (.int .i64 0) w2)
def F21 (a0 : Option Addr) (a1 : Int) (w : World) (R : Value → World → Prop) : Prop :=
  ifB (decide ((a1 : Int) < 0)) (R (.int .i64 30) w) (optP a0 fun ad1 => ldK Try.prog w (Addr.add ad1 2) fun v1 => asL v1 fun l1p l1l l1c => ifB (decide ((a1 : Int) ≥ (l1l : Nat))) (R (.int .i64 30) w) (J21_0 R a0 a1 w))
def A21 (R : Value → World → Prop) : Ann := (.seq .no (.join (fun e ds w => nilD ds (asP (e 0) fun x0 => asI .i64 (e 1) fun x1 => J21_0 R x0 x1 w)) .no .no))
theorem sides21 (R : Value → World → Prop) : fnSides Try.prog Try.f21 (A21 R) R := by
  refine And.intro ?_ ?_
  ·
    exact trivial
  ·
    refine And.intro ?_ (And.intro ?_ ?_)
    ·
      intro e ds w h
      have hn := nilD_elim h
      clear h
      obtain ⟨rfl, h⟩ := hn
      obtain ⟨x0, z0, h⟩ := asP_elim h
      obtain ⟨x1, z1, h⟩ := asI_elim h
      have he : (put (put e (some 0) (.pointer x0)) (some 1) (.int .i64 x1)) = e := by rw [put_id z0, put_id z1]
      rw [← he]
      clear he
      exact Eq.mp (by kernel_rfl) h
    ·
      exact trivial
    ·
      exact trivial
theorem call21 (a0 : Option Addr) (a1 : Int) (w : World) (R : Value → World → Prop) (h : F21 a0 a1 w R) : CallV Try.prog 21 #[(.pointer a0), (.int .i64 a1)] w R :=
  callV_of (fn := Try.f21) (an := A21 R) (args := [(.pointer a0), (.int .i64 a1)]) Try.func21 rfl (sides21 R) (Eq.mp (by kernel_rfl) h)

/-! 22 (*vouch/undo.Table[int, int]).Len -/
def F22 (a0 : Option Addr) (w : World) (R : Value → World → Prop) : Prop :=
  optP a0 fun ad1 => ldK Try.prog w ad1 fun v1 => asM v1 fun m1 => semK Try.prog (Builtin.len_ #[55] 3 #[(.map m1)]) w fun v2 w1 => asI .i64 v2 fun n1 => R (.int .i64 n1) w1
def A22 (R : Value → World → Prop) : Ann := .no
theorem sides22 (R : Value → World → Prop) : fnSides Try.prog Try.f22 (A22 R) R := by
  trivial
theorem call22 (a0 : Option Addr) (w : World) (R : Value → World → Prop) (h : F22 a0 w R) : CallV Try.prog 22 #[(.pointer a0)] w R :=
  callV_of (fn := Try.f22) (an := A22 R) (args := [(.pointer a0)]) Try.func22 rfl (sides22 R) (Eq.mp (by kernel_rfl) h)

/-! 23 (*vouch/undo.Table[int, int]).Keys -/
def J23_0 (R : Value → World → Prop) (x1 : Value) (x5p : Option Addr) (x5l : Nat) (x5c : Nat) (w : World) : Prop :=
  semK Try.prog (do eqGuard .neq 45 (.tmp 26) (.const .nilFunc) x1 .nilFunc; binOp .neq 45 x1 .nilFunc) w fun v1 w1 => asB v1 fun b1 => ifB b1 (CallV Try.prog 33 #[(.slice x5p x5l x5c), x1] w1 fun v2 w2 => asT v2 fun t1_0 => asEnd t1_0 (R (.slice x5p x5l x5c) w2)) (R (.slice x5p x5l x5c) w1)
def L23_1 (R : Value → World → Prop) : Nat → Value → Option Addr → Nat → Nat → Addr → World → Prop
  | 0 => fun _ _ _ _ _ _ => False
  | k + 1 => fun x1 x5p x5l x5c x17 w => semK Try.prog (Instr.next (.pointer (some x17)) false 0) w fun v1 w1 => semK Try.prog (Instr.extract v1 0) w1 fun v2 w2 => asB v2 fun b1 => ifB b1 (semK Try.prog (Instr.entry (.pointer (some x17))) w2 fun v3 w3 => semK Try.prog (Instr.extract v3 0) w3 fun v4 w4 => asI .i64 v4 fun n1 => allocK w4 (.cells #[(.int .i64 n1)] 3) fun w5 => semK Try.prog (Builtin.append_ #[29, 29] 29 #[(.slice x5p x5l x5c), (.slice (some ⟨w4.heap.size, 0, none⟩) 1 1)]) w5 fun v5 w6 => asL v5 fun l1p l1l l1c => L23_1 R k x1 l1p l1l l1c x17 w6) (J23_0 R x1 x5p x5l x5c w2)
def F23 (a0 : Option Addr) (a1 : Value) (w : World) (R : Value → World → Prop) : Prop :=
  optP a0 fun ad1 => ldK Try.prog w ad1 fun v1 => asM v1 fun m1 => semK Try.prog (Builtin.len_ #[55] 3 #[(.map m1)]) w fun v2 w1 => asI .i64 v2 fun n1 => semK Try.prog (Instr.makeSlice 29 (.int .i64 0) (.int .i64 n1)) w1 fun v3 w2 => asL v3 fun l1p l1l l1c => optP a0 fun ad2 => ldK Try.prog w2 ad2 fun v4 => asM v4 fun m2 => semK Try.prog (Instr.range 55 (.map m2)) w2 fun v5 w3 => asA v5 fun ad3 => ∃ m, L23_1 R m a1 l1p l1l l1c ad3 w3
def A23 (R : Value → World → Prop) : Ann := (.seq .no (.seq .no (.join (fun e ds w => nilD ds (asAny (e 1) fun x1 => asL (e 5) fun x5p x5l x5c => J23_0 R x1 x5p x5l x5c w)) (.seq .no (.block (.loop (fun m e ds w => nilD ds (asAny (e 1) fun x1 => asL (e 5) fun x5p x5l x5c => asA (e 17) fun x17 => L23_1 R m x1 x5p x5l x5c x17 w)) (fun kL23_1 => .no)))) .no)))
theorem sides23 (R : Value → World → Prop) : fnSides Try.prog Try.f23 (A23 R) R := by
  refine And.intro ?_ ?_
  ·
    exact trivial
  ·
    refine And.intro ?_ ?_
    ·
      exact trivial
    ·
      refine And.intro ?_ (And.intro ?_ ?_)
      ·
        intro e ds w h
        have hn := nilD_elim h
        clear h
        obtain ⟨rfl, h⟩ := hn
        obtain ⟨x1, z1, h⟩ := asAny_elim h
        obtain ⟨x5p, x5l, x5c, z5, h⟩ := asL_elim h
        have he : (put (put e (some 1) x1) (some 5) (.slice x5p x5l x5c)) = e := by rw [put_id z1, put_id z5]
        rw [← he]
        clear he
        exact Eq.mp (by kernel_rfl) h
      ·
        refine And.intro ?_ ?_
        ·
          exact trivial
        ·
          refine And.intro ?_ (And.intro ?_ ?_)
          ·
            intro e ds w h
            have hn := nilD_elim h
            clear h
            obtain ⟨rfl, h⟩ := hn
            obtain ⟨x1, z1, h⟩ := asAny_elim h
            obtain ⟨x5p, x5l, x5c, z5, h⟩ := asL_elim h
            obtain ⟨x17, z17, h⟩ := asA_elim h
            exact h
          ·
            intro kL23_1 e ds w h
            have hn := nilD_elim h
            clear h
            obtain ⟨rfl, h⟩ := hn
            obtain ⟨x1, z1, h⟩ := asAny_elim h
            obtain ⟨x5p, x5l, x5c, z5, h⟩ := asL_elim h
            obtain ⟨x17, z17, h⟩ := asA_elim h
            have he : (put (put (put e (some 1) x1) (some 5) (.slice x5p x5l x5c)) (some 17) (.pointer (some x17))) = e := by rw [put_id z1, put_id z5, put_id z17]
            rw [← he]
            clear he
            exact Eq.mp (by kernel_rfl) h
          ·
            intro kL23_1
            exact trivial
      ·
        exact trivial
theorem call23 (a0 : Option Addr) (a1 : Value) (w : World) (R : Value → World → Prop) (h : F23 a0 a1 w R) : CallV Try.prog 23 #[(.pointer a0), a1] w R :=
  callV_of (fn := Try.f23) (an := A23 R) (args := [(.pointer a0), a1]) Try.func23 rfl (sides23 R) (Eq.mp (by kernel_rfl) h)

/-! 30 (*vouch/undo.Table[int, int]).note -/
def F30 (a0 : Option Addr) (a1 : Int) (w : World) (R : Value → World → Prop) : Prop :=
  allocK w (.cells #[(.pointer a0)] 23) fun w1 => allocK w1 (.cells #[(.int .i64 a1)] 3) fun w2 => ldK Try.prog w2 ⟨w.heap.size, 0, none⟩ fun v1 => asP v1 fun p1 => optP p1 fun ad1 => ldK Try.prog w2 (Addr.add ad1 2) fun v2 => asL v2 fun l1p l1l l1c => ifB (((l1l : Nat) : Int) == 0) (R (.tuple #[]) w2) (drewK w2 fun w3 => ldK Try.prog w3 ⟨w.heap.size, 0, none⟩ fun v3 => asP v3 fun p2 => optP p2 fun ad2 => ldK Try.prog w3 ad2 fun v4 => asM v4 fun m1 => ldK Try.prog w3 ⟨w1.heap.size, 0, none⟩ fun v5 => asI .i64 v5 fun n1 => semK Try.prog (Instr.lookup 55 (.map m1) (.int .i64 n1) true) w3 fun v6 w4 => asT v6 fun t1_0 => asHd t1_0 fun t1_0x t1_1 => asI .i64 t1_0x fun n2 => asHd t1_1 fun t1_1x t1_2 => asB t1_1x fun b1 => asEnd t1_2 (allocK w3 (.cells #[(.int .i64 0)] 3) fun w5 => (ldK Try.prog w5 ⟨w.heap.size, 0, none⟩ fun v7 => asP v7 fun p3 => ((.pointer p3) : Value) = (.pointer p2)) ∧ ((ldK Try.prog w5 ad2 fun v8 => asM v8 fun m2 => ((.map m2) : Value) = (.map m1)) ∧ ((ldK Try.prog w5 ⟨w1.heap.size, 0, none⟩ fun v9 => asI .i64 v9 fun n3 => ((.int .i64 n3) : Value) = (.int .i64 n1)) ∧ ((semK Try.prog (Instr.lookup 55 (.map m1) (.int .i64 n1) true) w5 fun v10 w6 => asT v10 fun t2_0 => asHd t2_0 fun t2_0x t2_1 => asI .i64 t2_0x fun n4 => asHd t2_1 fun t2_1x t2_2 => asB t2_1x fun b2 => asEnd t2_2 (((.tuple #[(.int .i64 n4), (.bool b2)]) : Value) = (.tuple #[(.int .i64 n2), (.bool b1)]))) ∧ (semU Try.prog (Instr.storeAt 3 (.pointer (some ⟨w3.heap.size, 0, none⟩)) (.int .i64 n2)) w5 fun w7 => ifB b1 (drewK w7 fun w8 => ldK Try.prog w8 ⟨w.heap.size, 0, none⟩ fun v11 => asP v11 fun p4 => ldK Try.prog w8 ⟨w.heap.size, 0, none⟩ fun v12 => asP v12 fun p5 => optP p5 fun ad3 => ldK Try.prog w8 (Addr.add ad3 1) fun v13 => asL v13 fun l2p l2l l2c => allocK w8 (.cells #[(.func (.func 35) #[] #[(.pointer (some ⟨w3.heap.size, 0, none⟩)), (.pointer (some ⟨w.heap.size, 0, none⟩)), (.pointer (some ⟨w1.heap.size, 0, none⟩))])] 1) fun w9 => (ldK Try.prog w9 ⟨w.heap.size, 0, none⟩ fun v14 => asP v14 fun p6 => ((.pointer p6) : Value) = (.pointer p4)) ∧ ((ldK Try.prog w9 ⟨w.heap.size, 0, none⟩ fun v15 => asP v15 fun p7 => ((.pointer p7) : Value) = (.pointer p5)) ∧ ((ldK Try.prog w9 (Addr.add ad3 1) fun v16 => asL v16 fun l3p l3l l3c => ((.slice l3p l3l l3c) : Value) = (.slice l2p l2l l2c)) ∧ (semK Try.prog (Builtin.append_ #[56, 56] 56 #[(.slice l2p l2l l2c), (.slice (some ⟨w8.heap.size, 0, none⟩) 1 1)]) w9 fun v17 w10 => asL v17 fun l4p l4l l4c => (ldK Try.prog w10 ⟨w.heap.size, 0, none⟩ fun v18 => asP v18 fun p8 => ((.pointer p8) : Value) = (.pointer p4)) ∧ (optP p4 fun ad4 => semU Try.prog (Instr.storeAt 56 (.pointer (some (Addr.add ad4 1))) (.slice l4p l4l l4c)) w10 fun w11 => R (.tuple #[]) w11))))) (drewK w7 fun w12 => ldK Try.prog w12 ⟨w.heap.size, 0, none⟩ fun v19 => asP v19 fun p9 => ldK Try.prog w12 ⟨w.heap.size, 0, none⟩ fun v20 => asP v20 fun p10 => optP p10 fun ad5 => ldK Try.prog w12 (Addr.add ad5 1) fun v21 => asL v21 fun l5p l5l l5c => allocK w12 (.cells #[(.func (.func 36) #[] #[(.pointer (some ⟨w.heap.size, 0, none⟩)), (.pointer (some ⟨w1.heap.size, 0, none⟩))])] 1) fun w13 => (ldK Try.prog w13 ⟨w.heap.size, 0, none⟩ fun v22 => asP v22 fun p11 => ((.pointer p11) : Value) = (.pointer p9)) ∧ ((ldK Try.prog w13 ⟨w.heap.size, 0, none⟩ fun v23 => asP v23 fun p12 => ((.pointer p12) : Value) = (.pointer p10)) ∧ ((ldK Try.prog w13 (Addr.add ad5 1) fun v24 => asL v24 fun l6p l6l l6c => ((.slice l6p l6l l6c) : Value) = (.slice l5p l5l l5c)) ∧ (semK Try.prog (Builtin.append_ #[56, 56] 56 #[(.slice l5p l5l l5c), (.slice (some ⟨w12.heap.size, 0, none⟩) 1 1)]) w13 fun v25 w14 => asL v25 fun l7p l7l l7c => (ldK Try.prog w14 ⟨w.heap.size, 0, none⟩ fun v26 => asP v26 fun p13 => ((.pointer p13) : Value) = (.pointer p9)) ∧ (optP p9 fun ad6 => semU Try.prog (Instr.storeAt 56 (.pointer (some (Addr.add ad6 1))) (.slice l7p l7l l7c)) w14 fun w15 => R (.tuple #[]) w15)))))))))))
def A30 (R : Value → World → Prop) : Ann := (.seq .no (.seq .no (.seq (.draw [0, 1, 2, 3, 4, 5, 6, 7, 8, 9, 10, 11]) (.seq .no (.cond (.draw [0, 1, 2, 3, 4, 5, 6, 7, 8, 9, 10]) (.draw [0, 1, 2, 3, 4, 5, 6, 7, 8, 9, 10]))))))
theorem sides30 (R : Value → World → Prop) : fnSides Try.prog Try.f30 (A30 R) R := by
  refine And.intro ?_ ?_
  ·
    exact trivial
  ·
    refine And.intro ?_ ?_
    ·
      exact trivial
    ·
      refine And.intro ?_ ?_
      ·
        exact trivial
      ·
        refine And.intro ?_ ?_
        ·
          exact trivial
        ·
          refine And.intro ?_ ?_
          ·
            exact trivial
          ·
            exact trivial
theorem call30 (a0 : Option Addr) (a1 : Int) (w : World) (R : Value → World → Prop) (h : F30 a0 a1 w R) : CallV Try.prog 30 #[(.pointer a0), (.int .i64 a1)] w R :=
  callV_of (fn := Try.f30) (an := A30 R) (args := [(.pointer a0), (.int .i64 a1)]) Try.func30 rfl (sides30 R) (Eq.mp (by kernel_rfl) h)

/-! 35 (*vouch/undo.Table[int, int]).note$1 -/
def F35 (a0 : Addr) (a1 : Addr) (a2 : Addr) (w : World) (R : Value → World → Prop) : Prop :=
  drewK w fun w1 => ldK Try.prog w1 a1 fun v1 => asP v1 fun p1 => optP p1 fun ad1 => ldK Try.prog w1 ad1 fun v2 => asM v2 fun m1 => ldK Try.prog w1 a2 fun v3 => asI .i64 v3 fun n1 => ldK Try.prog w1 a0 fun v4 => asI .i64 v4 fun n2 => semU Try.prog (Instr.mapUpdate 55 (.map m1) (.int .i64 n1) (.int .i64 n2)) w1 fun w2 => R (.tuple #[]) w2
def A35 (R : Value → World → Prop) : Ann := (.draw [0, 1, 2, 3, 4, 5, 6])
theorem sides35 (R : Value → World → Prop) : fnSides Try.prog Try.f35 (A35 R) R := by
  exact trivial
theorem call35 (a0 : Addr) (a1 : Addr) (a2 : Addr) (w : World) (R : Value → World → Prop) (h : F35 a0 a1 a2 w R) : CallV Try.prog 35 #[(.pointer (some a0)), (.pointer (some a1)), (.pointer (some a2))] w R :=
  callV_of (fn := Try.f35) (an := A35 R) (args := [(.pointer (some a0)), (.pointer (some a1)), (.pointer (some a2))]) Try.func35 rfl (sides35 R) (Eq.mp (by kernel_rfl) h)

/-! 36 (*vouch/undo.Table[int, int]).note$2 -/
def F36 (a0 : Addr) (a1 : Addr) (w : World) (R : Value → World → Prop) : Prop :=
  drewK w fun w1 => ldK Try.prog w1 a0 fun v1 => asP v1 fun p1 => optP p1 fun ad1 => ldK Try.prog w1 ad1 fun v2 => asM v2 fun m1 => ldK Try.prog w1 a1 fun v3 => asI .i64 v3 fun n1 => semK Try.prog (Builtin.delete_ #[55, 3] 0 #[(.map m1), (.int .i64 n1)]) w1 fun v4 w2 => asT v4 fun t1_0 => asEnd t1_0 (R (.tuple #[]) w2)
def A36 (R : Value → World → Prop) : Ann := (.draw [0, 1, 2, 3, 4, 5])
theorem sides36 (R : Value → World → Prop) : fnSides Try.prog Try.f36 (A36 R) R := by
  exact trivial
theorem call36 (a0 : Addr) (a1 : Addr) (w : World) (R : Value → World → Prop) (h : F36 a0 a1 w R) : CallV Try.prog 36 #[(.pointer (some a0)), (.pointer (some a1))] w R :=
  callV_of (fn := Try.f36) (an := A36 R) (args := [(.pointer (some a0)), (.pointer (some a1))]) Try.func36 rfl (sides36 R) (Eq.mp (by kernel_rfl) h)

/-! 24 vouch/vouchlaw3.falling -/
def F24 (a0 : Int) (a1 : Int) (w : World) (R : Value → World → Prop) : Prop :=
  CallV Try.prog 27 #[(.int .i64 a1), (.int .i64 a0)] w fun v1 w1 => asI .i64 v1 fun n1 => R (.int .i64 n1) w1
def A24 (R : Value → World → Prop) : Ann := .no
theorem sides24 (R : Value → World → Prop) : fnSides Try.prog Try.f24 (A24 R) R := by
  trivial
theorem call24 (a0 : Int) (a1 : Int) (w : World) (R : Value → World → Prop) (h : F24 a0 a1 w R) : CallV Try.prog 24 #[(.int .i64 a0), (.int .i64 a1)] w R :=
  callV_of (fn := Try.f24) (an := A24 R) (args := [(.int .i64 a0), (.int .i64 a1)]) Try.func24 rfl (sides24 R) (Eq.mp (by kernel_rfl) h)

/-! 25 vouch/vouchlaw3.flat -/
def F25 (a0 : Int) (a1 : Int) (w : World) (R : Value → World → Prop) : Prop :=
  R (.int .i64 0) w
def A25 (R : Value → World → Prop) : Ann := .no
theorem sides25 (R : Value → World → Prop) : fnSides Try.prog Try.f25 (A25 R) R := by
  trivial
theorem call25 (a0 : Int) (a1 : Int) (w : World) (R : Value → World → Prop) (h : F25 a0 a1 w R) : CallV Try.prog 25 #[(.int .i64 a0), (.int .i64 a1)] w R :=
  callV_of (fn := Try.f25) (an := A25 R) (args := [(.int .i64 a0), (.int .i64 a1)]) Try.func25 rfl (sides25 R) (Eq.mp (by kernel_rfl) h)

/-! 27 vouch/vouchlaw3.rising -/
def F27 (a0 : Int) (a1 : Int) (w : World) (R : Value → World → Prop) : Prop :=
  ifB (decide ((a0 : Int) < a1)) (R (.int .i64 (-1)) w) (ifB (decide ((a0 : Int) > a1)) (R (.int .i64 1) w) (R (.int .i64 0) w))
def A27 (R : Value → World → Prop) : Ann := .no
theorem sides27 (R : Value → World → Prop) : fnSides Try.prog Try.f27 (A27 R) R := by
  trivial
theorem call27 (a0 : Int) (a1 : Int) (w : World) (R : Value → World → Prop) (h : F27 a0 a1 w R) : CallV Try.prog 27 #[(.int .i64 a0), (.int .i64 a1)] w R :=
  callV_of (fn := Try.f27) (an := A27 R) (args := [(.int .i64 a0), (.int .i64 a1)]) Try.func27 rfl (sides27 R) (Eq.mp (by kernel_rfl) h)
end Go.Proofs.Ytalhnoelkglgiaa.W
