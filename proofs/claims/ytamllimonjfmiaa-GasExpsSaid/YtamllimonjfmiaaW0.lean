/- The functions of this text, as the layer Sh reckons them out (printed by shp.py, a program of ours): for each the predicate F, and that it suffices for a call. No condition. -/
import Derived.Test.YtamllimonjfmiaaSh5
import Derived.Test.YtamllimonjfmiaaProg
namespace Go.Proofs.Ytamllimonjfmiaa.W
open Go Go.Proofs.Ytamllimonjfmiaa.Sh
set_option linter.unusedVariables false
set_option maxRecDepth 100000

def str0 : ByteArray := ⟨#[0, 1, 2, 2, 3, 3, 3, 3, 4, 4, 4, 4, 4, 4, 4, 4, 5, 5, 5, 5, 5, 5, 5, 5, 5, 5, 5, 5, 5, 5, 5, 5, 6, 6, 6, 6, 6, 6, 6, 6, 6, 6, 6, 6, 6, 6, 6, 6, 6, 6, 6, 6, 6, 6, 6, 6, 6, 6, 6, 6, 6, 6, 6, 6, 7, 7, 7, 7, 7, 7, 7, 7, 7, 7, 7, 7, 7, 7, 7, 7, 7, 7, 7, 7, 7, 7, 7, 7, 7, 7, 7, 7, 7, 7, 7, 7, 7, 7, 7, 7, 7, 7, 7, 7, 7, 7, 7, 7, 7, 7, 7, 7, 7, 7, 7, 7, 7, 7, 7, 7, 7, 7, 7, 7, 7, 7, 7, 7, 8, 8, 8, 8, 8, 8, 8, 8, 8, 8, 8, 8, 8, 8, 8, 8, 8, 8, 8, 8, 8, 8, 8, 8, 8, 8, 8, 8, 8, 8, 8, 8, 8, 8, 8, 8, 8, 8, 8, 8, 8, 8, 8, 8, 8, 8, 8, 8, 8, 8, 8, 8, 8, 8, 8, 8, 8, 8, 8, 8, 8, 8, 8, 8, 8, 8, 8, 8, 8, 8, 8, 8, 8, 8, 8, 8, 8, 8, 8, 8, 8, 8, 8, 8, 8, 8, 8, 8, 8, 8, 8, 8, 8, 8, 8, 8, 8, 8, 8, 8, 8, 8, 8, 8, 8, 8, 8, 8, 8, 8, 8, 8, 8, 8, 8, 8, 8, 8, 8, 8, 8, 8, 8, 8, 8, 8, 8, 8]⟩
/-! 11 vouch/gas.Back -/
def F11 (a0 : Int) (a1 : Int) (a2 : Int) (w : World) (R : Value → World → Prop) : Prop :=
  ifB (decide ((a1 : Int) > a0)) (R (.int .u64 0) w) (R (.int .u64 (if (IntKind.wrap .u64 (if (0 : Int) > a2 then 0 else a2) : Int) < (IntKind.wrap .u64 (Int.tdiv (IntKind.wrap .u64 (a0 - a1)) 5)) then (IntKind.wrap .u64 (if (0 : Int) > a2 then 0 else a2)) else (IntKind.wrap .u64 (Int.tdiv (IntKind.wrap .u64 (a0 - a1)) 5)))) w)
def A11 (R : Value → World → Prop) : Ann := .no
theorem sides11 (R : Value → World → Prop) : fnSides Try.prog Try.f11 (A11 R) R := by
  trivial
theorem call11 (a0 : Int) (a1 : Int) (a2 : Int) (w : World) (R : Value → World → Prop) (h : F11 a0 a1 a2 w R) : CallV Try.prog 11 #[(.int .u64 a0), (.int .u64 a1), (.int .i64 a2)] w R :=
  callV_of (fn := Try.f11) (an := A11 R) (args := [(.int .u64 a0), (.int .u64 a1), (.int .i64 a2)]) Try.func11 rfl (sides11 R) (Eq.mp (by kernel_rfl) h)

/-! 12 vouch/vouchref10.Back -/
def J12_0 (R : Value → World → Prop) (x0 : Int) (x1 : Int) (x2 : Int) (w : World) : Prop :=
  ifB (decide ((IntKind.wrap .u64 x2 : Int) < (IntKind.wrap .u64 (Int.tdiv (IntKind.wrap .u64 (x0 - x1)) 5)))) (R (.int .u64 (IntKind.wrap .u64 x2)) w) (R (.int .u64 (IntKind.wrap .u64 (Int.tdiv (IntKind.wrap .u64 (x0 - x1)) 5))) w)
def F12 (a0 : Int) (a1 : Int) (a2 : Int) (w : World) (R : Value → World → Prop) : Prop :=
  ifB (decide ((a1 : Int) > a0)) (R (.int .u64 0) w) (ifB (decide ((a2 : Int) < 0)) (R (.int .u64 0) w) (J12_0 R a0 a1 a2 w))
def A12 (R : Value → World → Prop) : Ann := (.seq .no (.join (fun e ds w => nilD ds (asI .u64 (e 0) fun x0 => asI .u64 (e 1) fun x1 => asI .i64 (e 2) fun x2 => J12_0 R x0 x1 x2 w)) .no .no))
theorem sides12 (R : Value → World → Prop) : fnSides Try.prog Try.f12 (A12 R) R := by
  refine And.intro ?_ ?_
  ·
    exact trivial
  ·
    refine And.intro ?_ (And.intro ?_ ?_)
    ·
      intro e ds w h
      obtain ⟨rfl, h⟩ := nilD_elim h
      obtain ⟨x0, z0, h⟩ := asI_elim h
      obtain ⟨x1, z1, h⟩ := asI_elim h
      obtain ⟨x2, z2, h⟩ := asI_elim h
      have he : (put (put (put e (some 0) (.int .u64 x0)) (some 1) (.int .u64 x1)) (some 2) (.int .i64 x2)) = e := by rw [put_id z0, put_id z1, put_id z2]
      rw [← he]
      clear he
      exact Eq.mp (by kernel_rfl) h
    ·
      exact trivial
    ·
      exact trivial
theorem call12 (a0 : Int) (a1 : Int) (a2 : Int) (w : World) (R : Value → World → Prop) (h : F12 a0 a1 a2 w R) : CallV Try.prog 12 #[(.int .u64 a0), (.int .u64 a1), (.int .i64 a2)] w R :=
  callV_of (fn := Try.f12) (an := A12 R) (args := [(.int .u64 a0), (.int .u64 a1), (.int .i64 a2)]) Try.func12 rfl (sides12 R) (Eq.mp (by kernel_rfl) h)

/-! 13 vouch/gas.Pass -/
def F13 (a0 : Int) (w : World) (R : Value → World → Prop) : Prop :=
  ifB (decide ((a0 : Int) < (if (5000 : Int) > (IntKind.wrap .u64 (Int.tdiv a0 64)) then 5000 else (IntKind.wrap .u64 (Int.tdiv a0 64))))) (R (.tuple #[(.int .u64 0), (.bool false)]) w) (ifB (decide ((IntKind.wrap .u64 (a0 - (if (5000 : Int) > (IntKind.wrap .u64 (Int.tdiv a0 64)) then 5000 else (IntKind.wrap .u64 (Int.tdiv a0 64)))) : Int) < 2300)) (R (.tuple #[(.int .u64 0), (.bool false)]) w) (R (.tuple #[(.int .u64 (IntKind.wrap .u64 (a0 - (if (5000 : Int) > (IntKind.wrap .u64 (Int.tdiv a0 64)) then 5000 else (IntKind.wrap .u64 (Int.tdiv a0 64)))))), (.bool true)]) w))
def A13 (R : Value → World → Prop) : Ann := .no
theorem sides13 (R : Value → World → Prop) : fnSides Try.prog Try.f13 (A13 R) R := by
  trivial
theorem call13 (a0 : Int) (w : World) (R : Value → World → Prop) (h : F13 a0 w R) : CallV Try.prog 13 #[(.int .u64 a0)] w R :=
  callV_of (fn := Try.f13) (an := A13 R) (args := [(.int .u64 a0)]) Try.func13 rfl (sides13 R) (Eq.mp (by kernel_rfl) h)

/-! 14 vouch/vouchref10.Pass -/
def F14 (a0 : Int) (w : World) (R : Value → World → Prop) : Prop :=
  ifB (decide ((IntKind.wrap .u64 (Int.tdiv a0 64) : Int) < 5000)) (ifB (decide ((a0 : Int) < (IntKind.wrap .u64 (5000 + 2300)))) (R (.tuple #[(.int .u64 0), (.bool false)]) w) (R (.tuple #[(.int .u64 (IntKind.wrap .u64 (a0 - 5000))), (.bool true)]) w)) (ifB (decide ((a0 : Int) < (IntKind.wrap .u64 ((IntKind.wrap .u64 (Int.tdiv a0 64)) + 2300)))) (R (.tuple #[(.int .u64 0), (.bool false)]) w) (R (.tuple #[(.int .u64 (IntKind.wrap .u64 (a0 - (IntKind.wrap .u64 (Int.tdiv a0 64))))), (.bool true)]) w))
def A14 (R : Value → World → Prop) : Ann := .no
theorem sides14 (R : Value → World → Prop) : fnSides Try.prog Try.f14 (A14 R) R := by
  trivial
theorem call14 (a0 : Int) (w : World) (R : Value → World → Prop) (h : F14 a0 w R) : CallV Try.prog 14 #[(.int .u64 a0)] w R :=
  callV_of (fn := Try.f14) (an := A14 R) (args := [(.int .u64 a0)]) Try.func14 rfl (sides14 R) (Eq.mp (by kernel_rfl) h)

/-! 15 vouch/gas.Make -/
def F15 (a0 : Int) (w : World) (R : Value → World → Prop) : Prop :=
  R (.int .u64 (IntKind.wrap .u64 (a0 - (IntKind.wrap .u64 (Int.tdiv a0 64))))) w
def A15 (R : Value → World → Prop) : Ann := .no
theorem sides15 (R : Value → World → Prop) : fnSides Try.prog Try.f15 (A15 R) R := by
  trivial
theorem call15 (a0 : Int) (w : World) (R : Value → World → Prop) (h : F15 a0 w R) : CallV Try.prog 15 #[(.int .u64 a0)] w R :=
  callV_of (fn := Try.f15) (an := A15 R) (args := [(.int .u64 a0)]) Try.func15 rfl (sides15 R) (Eq.mp (by kernel_rfl) h)

/-! 16 vouch/vouchref10.Make -/
def F16 (a0 : Int) (w : World) (R : Value → World → Prop) : Prop :=
  R (.int .u64 (IntKind.wrap .u64 (a0 - (IntKind.wrap .u64 (Int.tdiv a0 64))))) w
def A16 (R : Value → World → Prop) : Ann := .no
theorem sides16 (R : Value → World → Prop) : fnSides Try.prog Try.f16 (A16 R) R := by
  trivial
theorem call16 (a0 : Int) (w : World) (R : Value → World → Prop) (h : F16 a0 w R) : CallV Try.prog 16 #[(.int .u64 a0)] w R :=
  callV_of (fn := Try.f16) (an := A16 R) (args := [(.int .u64 a0)]) Try.func16 rfl (sides16 R) (Eq.mp (by kernel_rfl) h)

/-! 17 vouch/gas.Words -/
def F17 (a0 : Int) (w : World) (R : Value → World → Prop) : Prop :=
  CallV Try.prog 37 #[(.int .i64 a0)] w fun v1 w1 => asI .i64 v1 fun n1 => R (.int .i64 (IntKind.wrap .i64 (Int.tdiv (IntKind.wrap .i64 (n1 + 31)) 32))) w1
def A17 (R : Value → World → Prop) : Ann := .no
theorem sides17 (R : Value → World → Prop) : fnSides Try.prog Try.f17 (A17 R) R := by
  trivial
theorem call17 (a0 : Int) (w : World) (R : Value → World → Prop) (h : F17 a0 w R) : CallV Try.prog 17 #[(.int .i64 a0)] w R :=
  callV_of (fn := Try.f17) (an := A17 R) (args := [(.int .i64 a0)]) Try.func17 rfl (sides17 R) (Eq.mp (by kernel_rfl) h)

/-! 37 vouch/gas.bound -/
def F37 (a0 : Int) (w : World) (R : Value → World → Prop) : Prop :=
  R (.int .i64 (if (2147483648 : Int) < (if (0 : Int) > a0 then 0 else a0) then 2147483648 else (if (0 : Int) > a0 then 0 else a0))) w
def A37 (R : Value → World → Prop) : Ann := .no
theorem sides37 (R : Value → World → Prop) : fnSides Try.prog Try.f37 (A37 R) R := by
  trivial
theorem call37 (a0 : Int) (w : World) (R : Value → World → Prop) (h : F37 a0 w R) : CallV Try.prog 37 #[(.int .i64 a0)] w R :=
  callV_of (fn := Try.f37) (an := A37 R) (args := [(.int .i64 a0)]) Try.func37 rfl (sides37 R) (Eq.mp (by kernel_rfl) h)

/-! 38 vouch/vouchref10.within -/
def F38 (a0 : Int) (w : World) (R : Value → World → Prop) : Prop :=
  ifB (decide ((a0 : Int) < 0)) (R (.int .i64 0) w) (ifB (decide ((a0 : Int) > 2147483648)) (R (.int .i64 2147483648) w) (R (.int .i64 a0) w))
def A38 (R : Value → World → Prop) : Ann := .no
theorem sides38 (R : Value → World → Prop) : fnSides Try.prog Try.f38 (A38 R) R := by
  trivial
theorem call38 (a0 : Int) (w : World) (R : Value → World → Prop) (h : F38 a0 w R) : CallV Try.prog 38 #[(.int .i64 a0)] w R :=
  callV_of (fn := Try.f38) (an := A38 R) (args := [(.int .i64 a0)]) Try.func38 rfl (sides38 R) (Eq.mp (by kernel_rfl) h)

/-! 29 vouch/gas.NewMeter -/
def F29 (a0 : Int) (w : World) (R : Value → World → Prop) : Prop :=
  allocK w (.cells #[(.int .u64 a0)] 48) fun w1 => R (.pointer (some ⟨w.heap.size, 0, none⟩)) w1
def A29 (R : Value → World → Prop) : Ann := .no
theorem sides29 (R : Value → World → Prop) : fnSides Try.prog Try.f29 (A29 R) R := by
  trivial
theorem call29 (a0 : Int) (w : World) (R : Value → World → Prop) (h : F29 a0 w R) : CallV Try.prog 29 #[(.int .u64 a0)] w R :=
  callV_of (fn := Try.f29) (an := A29 R) (args := [(.int .u64 a0)]) Try.func29 rfl (sides29 R) (Eq.mp (by kernel_rfl) h)

/-! 30 (*vouch/gas.Meter).Pay -/
def F30 (a0 : Option Addr) (a1 : Int) (w : World) (R : Value → World → Prop) : Prop :=
  optP a0 fun ad1 => ldK Try.prog w ad1 fun v1 => asI .u64 v1 fun n1 => ifB (decide ((a1 : Int) > n1)) (R (.bool false) w) (optP a0 fun ad2 => ldK Try.prog w ad2 fun v2 => asI .u64 v2 fun n2 => optP a0 fun ad3 => semU Try.prog (Instr.storeAt 22 (.pointer (some ad3)) (.int .u64 (IntKind.wrap .u64 (n2 - a1)))) w fun w1 => R (.bool true) w1)
def A30 (R : Value → World → Prop) : Ann := .no
theorem sides30 (R : Value → World → Prop) : fnSides Try.prog Try.f30 (A30 R) R := by
  trivial
theorem call30 (a0 : Option Addr) (a1 : Int) (w : World) (R : Value → World → Prop) (h : F30 a0 a1 w R) : CallV Try.prog 30 #[(.pointer a0), (.int .u64 a1)] w R :=
  callV_of (fn := Try.f30) (an := A30 R) (args := [(.pointer a0), (.int .u64 a1)]) Try.func30 rfl (sides30 R) (Eq.mp (by kernel_rfl) h)

/-! 31 (*vouch/gas.Meter).Gain -/
def F31 (a0 : Option Addr) (a1 : Int) (w : World) (R : Value → World → Prop) : Prop :=
  optP a0 fun ad1 => ldK Try.prog w ad1 fun v1 => asI .u64 v1 fun n1 => ifB (decide ((a1 : Int) > (IntKind.wrap .u64 (18446744073709551615 - n1)))) (R (.bool false) w) (optP a0 fun ad2 => ldK Try.prog w ad2 fun v2 => asI .u64 v2 fun n2 => optP a0 fun ad3 => semU Try.prog (Instr.storeAt 22 (.pointer (some ad3)) (.int .u64 (IntKind.wrap .u64 (n2 + a1)))) w fun w1 => R (.bool true) w1)
def A31 (R : Value → World → Prop) : Ann := .no
theorem sides31 (R : Value → World → Prop) : fnSides Try.prog Try.f31 (A31 R) R := by
  trivial
theorem call31 (a0 : Option Addr) (a1 : Int) (w : World) (R : Value → World → Prop) (h : F31 a0 a1 w R) : CallV Try.prog 31 #[(.pointer a0), (.int .u64 a1)] w R :=
  callV_of (fn := Try.f31) (an := A31 R) (args := [(.pointer a0), (.int .u64 a1)]) Try.func31 rfl (sides31 R) (Eq.mp (by kernel_rfl) h)

/-! 32 (*vouch/gas.Meter).Left -/
def F32 (a0 : Option Addr) (w : World) (R : Value → World → Prop) : Prop :=
  optP a0 fun ad1 => ldK Try.prog w ad1 fun v1 => asI .u64 v1 fun n1 => R (.int .u64 n1) w
def A32 (R : Value → World → Prop) : Ann := .no
theorem sides32 (R : Value → World → Prop) : fnSides Try.prog Try.f32 (A32 R) R := by
  trivial
theorem call32 (a0 : Option Addr) (w : World) (R : Value → World → Prop) (h : F32 a0 w R) : CallV Try.prog 32 #[(.pointer a0)] w R :=
  callV_of (fn := Try.f32) (an := A32 R) (args := [(.pointer a0)]) Try.func32 rfl (sides32 R) (Eq.mp (by kernel_rfl) h)

/-! 35 vouch/gas.Store -/
def J35_1 (R : Value → World → Prop) (x3 : Addr) (x5 : Addr) (x9 : Int) (w : World) : Prop :=
  ldK Try.prog w x5 fun v1 => asI .u64 v1 fun n1 => ldK Try.prog w (Addr.add x5 1) fun v2 => asI .u64 v2 fun n2 => ldK Try.prog w (Addr.add x5 2) fun v3 => asI .u64 v3 fun n3 => ldK Try.prog w (Addr.add x5 3) fun v4 => asI .u64 v4 fun n4 => ldK Try.prog w x3 fun v5 => asI .u64 v5 fun n5 => ldK Try.prog w (Addr.add x3 1) fun v6 => asI .u64 v6 fun n6 => ldK Try.prog w (Addr.add x3 2) fun v7 => asI .u64 v7 fun n7 => ldK Try.prog w (Addr.add x3 3) fun v8 => asI .u64 v8 fun n8 => ifB (((n1 : Int) == n5) && (((n2 : Int) == n6) && (((n3 : Int) == n7) && ((n4 : Int) == n8)))) (R (.tuple #[(.int .u64 0), (.int .i64 (IntKind.wrap .i64 (x9 + 2800)))]) w) (R (.tuple #[(.int .u64 0), (.int .i64 x9)]) w)
def J35_0 (R : Value → World → Prop) (x3 : Addr) (x5 : Addr) (x8 : Addr) (x9 : Int) (w : World) : Prop :=
  ldK Try.prog w x5 fun v1 => asI .u64 v1 fun n1 => ldK Try.prog w (Addr.add x5 1) fun v2 => asI .u64 v2 fun n2 => ldK Try.prog w (Addr.add x5 2) fun v3 => asI .u64 v3 fun n3 => ldK Try.prog w (Addr.add x5 3) fun v4 => asI .u64 v4 fun n4 => ldK Try.prog w x3 fun v5 => asI .u64 v5 fun n5 => ldK Try.prog w (Addr.add x3 1) fun v6 => asI .u64 v6 fun n6 => ldK Try.prog w (Addr.add x3 2) fun v7 => asI .u64 v7 fun n7 => ldK Try.prog w (Addr.add x3 3) fun v8 => asI .u64 v8 fun n8 => ifB (((n1 : Int) == n5) && (((n2 : Int) == n6) && (((n3 : Int) == n7) && ((n4 : Int) == n8)))) (ldK Try.prog w x3 fun v9 => asI .u64 v9 fun n9 => ldK Try.prog w (Addr.add x3 1) fun v10 => asI .u64 v10 fun n10 => ldK Try.prog w (Addr.add x3 2) fun v11 => asI .u64 v11 fun n11 => ldK Try.prog w (Addr.add x3 3) fun v12 => asI .u64 v12 fun n12 => ldK Try.prog w x8 fun v13 => asI .u64 v13 fun n13 => ldK Try.prog w (Addr.add x8 1) fun v14 => asI .u64 v14 fun n14 => ldK Try.prog w (Addr.add x8 2) fun v15 => asI .u64 v15 fun n15 => ldK Try.prog w (Addr.add x8 3) fun v16 => asI .u64 v16 fun n16 => ifB (((n9 : Int) == n13) && (((n10 : Int) == n14) && (((n11 : Int) == n15) && ((n12 : Int) == n16)))) (R (.tuple #[(.int .u64 0), (.int .i64 (IntKind.wrap .i64 ((IntKind.wrap .i64 (x9 + 17100)) + 2800)))]) w) (J35_1 R x3 x5 x9 w)) (J35_1 R x3 x5 x9 w)
def F35 (a0_0 : Int) (a0_1 : Int) (a0_2 : Int) (a0_3 : Int) (a1_0 : Int) (a1_1 : Int) (a1_2 : Int) (a1_3 : Int) (a2_0 : Int) (a2_1 : Int) (a2_2 : Int) (a2_3 : Int) (w : World) (R : Value → World → Prop) : Prop :=
  allocK w (.cells #[(.int .u64 a0_0), (.int .u64 a0_1), (.int .u64 a0_2), (.int .u64 a0_3)] 39) fun w1 => allocK w1 (.cells #[(.int .u64 a1_0), (.int .u64 a1_1), (.int .u64 a1_2), (.int .u64 a1_3)] 39) fun w2 => allocK w2 (.cells #[(.int .u64 a2_0), (.int .u64 a2_1), (.int .u64 a2_2), (.int .u64 a2_3)] 39) fun w3 => allocK w3 (.cells #[(.int .u64 0), (.int .u64 0), (.int .u64 0), (.int .u64 0)] 39) fun w4 => ldK Try.prog w4 ⟨w2.heap.size, 0, none⟩ fun v1 => asI .u64 v1 fun n1 => ldK Try.prog w4 ⟨w2.heap.size, 1, none⟩ fun v2 => asI .u64 v2 fun n2 => ldK Try.prog w4 ⟨w2.heap.size, 2, none⟩ fun v3 => asI .u64 v3 fun n3 => ldK Try.prog w4 ⟨w2.heap.size, 3, none⟩ fun v4 => asI .u64 v4 fun n4 => ldK Try.prog w4 ⟨w1.heap.size, 0, none⟩ fun v5 => asI .u64 v5 fun n5 => ldK Try.prog w4 ⟨w1.heap.size, 1, none⟩ fun v6 => asI .u64 v6 fun n6 => ldK Try.prog w4 ⟨w1.heap.size, 2, none⟩ fun v7 => asI .u64 v7 fun n7 => ldK Try.prog w4 ⟨w1.heap.size, 3, none⟩ fun v8 => asI .u64 v8 fun n8 => ifB (((n1 : Int) == n5) && (((n2 : Int) == n6) && (((n3 : Int) == n7) && ((n4 : Int) == n8)))) (R (.tuple #[(.int .u64 0), (.int .i64 0)]) w4) (ldK Try.prog w4 ⟨w1.heap.size, 0, none⟩ fun v9 => asI .u64 v9 fun n9 => ldK Try.prog w4 ⟨w1.heap.size, 1, none⟩ fun v10 => asI .u64 v10 fun n10 => ldK Try.prog w4 ⟨w1.heap.size, 2, none⟩ fun v11 => asI .u64 v11 fun n11 => ldK Try.prog w4 ⟨w1.heap.size, 3, none⟩ fun v12 => asI .u64 v12 fun n12 => ldK Try.prog w4 ⟨w.heap.size, 0, none⟩ fun v13 => asI .u64 v13 fun n13 => ldK Try.prog w4 ⟨w.heap.size, 1, none⟩ fun v14 => asI .u64 v14 fun n14 => ldK Try.prog w4 ⟨w.heap.size, 2, none⟩ fun v15 => asI .u64 v15 fun n15 => ldK Try.prog w4 ⟨w.heap.size, 3, none⟩ fun v16 => asI .u64 v16 fun n16 => ifB (((n9 : Int) == n13) && (((n10 : Int) == n14) && (((n11 : Int) == n15) && ((n12 : Int) == n16)))) (ldK Try.prog w4 ⟨w3.heap.size, 0, none⟩ fun v17 => asI .u64 v17 fun n17 => ldK Try.prog w4 ⟨w3.heap.size, 1, none⟩ fun v18 => asI .u64 v18 fun n18 => ldK Try.prog w4 ⟨w3.heap.size, 2, none⟩ fun v19 => asI .u64 v19 fun n19 => ldK Try.prog w4 ⟨w3.heap.size, 3, none⟩ fun v20 => asI .u64 v20 fun n20 => ldK Try.prog w4 ⟨w.heap.size, 0, none⟩ fun v21 => asI .u64 v21 fun n21 => ldK Try.prog w4 ⟨w.heap.size, 1, none⟩ fun v22 => asI .u64 v22 fun n22 => ldK Try.prog w4 ⟨w.heap.size, 2, none⟩ fun v23 => asI .u64 v23 fun n23 => ldK Try.prog w4 ⟨w.heap.size, 3, none⟩ fun v24 => asI .u64 v24 fun n24 => ifB (((n17 : Int) == n21) && (((n18 : Int) == n22) && (((n19 : Int) == n23) && ((n20 : Int) == n24)))) (R (.tuple #[(.int .u64 19900), (.int .i64 0)]) w4) (ldK Try.prog w4 ⟨w2.heap.size, 0, none⟩ fun v25 => asI .u64 v25 fun n25 => ldK Try.prog w4 ⟨w2.heap.size, 1, none⟩ fun v26 => asI .u64 v26 fun n26 => ldK Try.prog w4 ⟨w2.heap.size, 2, none⟩ fun v27 => asI .u64 v27 fun n27 => ldK Try.prog w4 ⟨w2.heap.size, 3, none⟩ fun v28 => asI .u64 v28 fun n28 => ifB (((n17 : Int) == n25) && (((n18 : Int) == n26) && (((n19 : Int) == n27) && ((n20 : Int) == n28)))) (R (.tuple #[(.int .u64 2800), (.int .i64 4800)]) w4) (R (.tuple #[(.int .u64 2800), (.int .i64 0)]) w4))) (ldK Try.prog w4 ⟨w.heap.size, 0, none⟩ fun v29 => asI .u64 v29 fun n29 => ldK Try.prog w4 ⟨w.heap.size, 1, none⟩ fun v30 => asI .u64 v30 fun n30 => ldK Try.prog w4 ⟨w.heap.size, 2, none⟩ fun v31 => asI .u64 v31 fun n31 => ldK Try.prog w4 ⟨w.heap.size, 3, none⟩ fun v32 => asI .u64 v32 fun n32 => ldK Try.prog w4 ⟨w3.heap.size, 0, none⟩ fun v33 => asI .u64 v33 fun n33 => ldK Try.prog w4 ⟨w3.heap.size, 1, none⟩ fun v34 => asI .u64 v34 fun n34 => ldK Try.prog w4 ⟨w3.heap.size, 2, none⟩ fun v35 => asI .u64 v35 fun n35 => ldK Try.prog w4 ⟨w3.heap.size, 3, none⟩ fun v36 => asI .u64 v36 fun n36 => ifB (!(((n29 : Int) == n33) && (((n30 : Int) == n34) && (((n31 : Int) == n35) && ((n32 : Int) == n36))))) (ldK Try.prog w4 ⟨w3.heap.size, 0, none⟩ fun v37 => asI .u64 v37 fun n37 => ldK Try.prog w4 ⟨w3.heap.size, 1, none⟩ fun v38 => asI .u64 v38 fun n38 => ldK Try.prog w4 ⟨w3.heap.size, 2, none⟩ fun v39 => asI .u64 v39 fun n39 => ldK Try.prog w4 ⟨w3.heap.size, 3, none⟩ fun v40 => asI .u64 v40 fun n40 => ldK Try.prog w4 ⟨w1.heap.size, 0, none⟩ fun v41 => asI .u64 v41 fun n41 => ldK Try.prog w4 ⟨w1.heap.size, 1, none⟩ fun v42 => asI .u64 v42 fun n42 => ldK Try.prog w4 ⟨w1.heap.size, 2, none⟩ fun v43 => asI .u64 v43 fun n43 => ldK Try.prog w4 ⟨w1.heap.size, 3, none⟩ fun v44 => asI .u64 v44 fun n44 => ifB (((n37 : Int) == n41) && (((n38 : Int) == n42) && (((n39 : Int) == n43) && ((n40 : Int) == n44)))) (J35_0 R ⟨w.heap.size, 0, none⟩ ⟨w2.heap.size, 0, none⟩ ⟨w3.heap.size, 0, none⟩ (-4800) w4) (ldK Try.prog w4 ⟨w2.heap.size, 0, none⟩ fun v45 => asI .u64 v45 fun n45 => ldK Try.prog w4 ⟨w2.heap.size, 1, none⟩ fun v46 => asI .u64 v46 fun n46 => ldK Try.prog w4 ⟨w2.heap.size, 2, none⟩ fun v47 => asI .u64 v47 fun n47 => ldK Try.prog w4 ⟨w2.heap.size, 3, none⟩ fun v48 => asI .u64 v48 fun n48 => ifB (((n37 : Int) == n45) && (((n38 : Int) == n46) && (((n39 : Int) == n47) && ((n40 : Int) == n48)))) (J35_0 R ⟨w.heap.size, 0, none⟩ ⟨w2.heap.size, 0, none⟩ ⟨w3.heap.size, 0, none⟩ 4800 w4) (J35_0 R ⟨w.heap.size, 0, none⟩ ⟨w2.heap.size, 0, none⟩ ⟨w3.heap.size, 0, none⟩ 0 w4))) (J35_0 R ⟨w.heap.size, 0, none⟩ ⟨w2.heap.size, 0, none⟩ ⟨w3.heap.size, 0, none⟩ 0 w4)))
def A35 (R : Value → World → Prop) : Ann := (.seq .no (.seq .no (.seq .no (.seq .no (.seq .no (.join (fun e ds w => nilD ds (asA (e 3) fun x3 => asA (e 5) fun x5 => asA (e 8) fun x8 => asI .i64 (e 9) fun x9 => J35_0 R x3 x5 x8 x9 w)) .no (.seq (.block (.seq (.block (.seq (.block (.seq (.join (fun e ds w => nilD ds (asA (e 3) fun x3 => asA (e 5) fun x5 => asI .i64 (e 9) fun x9 => J35_1 R x3 x5 x9 w)) .no .no) .no)) .no)) .no)) .no)))))))
theorem sides35 (R : Value → World → Prop) : fnSides Try.prog Try.f35 (A35 R) R := by
  refine And.intro ?_ ?_
  ·
    exact trivial
  ·
    refine And.intro ?_ ?_
    ·
      exact trivial
    ·
      refine And.intro ?_ ?_
      ·
        exact trivial
      ·
        refine And.intro ?_ ?_
        ·
          exact trivial
        ·
          refine And.intro ?_ ?_
          ·
            exact trivial
          ·
            refine And.intro ?_ (And.intro ?_ ?_)
            ·
              intro e ds w h
              obtain ⟨rfl, h⟩ := nilD_elim h
              obtain ⟨x3, z3, h⟩ := asA_elim h
              obtain ⟨x5, z5, h⟩ := asA_elim h
              obtain ⟨x8, z8, h⟩ := asA_elim h
              obtain ⟨x9, z9, h⟩ := asI_elim h
              have he : (put (put (put (put e (some 3) (.pointer (some x3))) (some 5) (.pointer (some x5))) (some 8) (.pointer (some x8))) (some 9) (.int .i64 x9)) = e := by rw [put_id z3, put_id z5, put_id z8, put_id z9]
              rw [← he]
              clear he
              exact Eq.mp (by kernel_rfl) h
            ·
              exact trivial
            ·
              refine And.intro ?_ ?_
              ·
                refine And.intro ?_ ?_
                ·
                  refine And.intro ?_ ?_
                  ·
                    refine And.intro ?_ ?_
                    ·
                      refine And.intro ?_ (And.intro ?_ ?_)
                      ·
                        intro e ds w h
                        obtain ⟨rfl, h⟩ := nilD_elim h
                        obtain ⟨x3, z3, h⟩ := asA_elim h
                        obtain ⟨x5, z5, h⟩ := asA_elim h
                        obtain ⟨x9, z9, h⟩ := asI_elim h
                        have he : (put (put (put e (some 3) (.pointer (some x3))) (some 5) (.pointer (some x5))) (some 9) (.int .i64 x9)) = e := by rw [put_id z3, put_id z5, put_id z9]
                        rw [← he]
                        clear he
                        exact Eq.mp (by kernel_rfl) h
                      ·
                        exact trivial
                      ·
                        exact trivial
                    ·
                      exact trivial
                  ·
                    exact trivial
                ·
                  exact trivial
              ·
                exact trivial
theorem call35 (a0_0 : Int) (a0_1 : Int) (a0_2 : Int) (a0_3 : Int) (a1_0 : Int) (a1_1 : Int) (a1_2 : Int) (a1_3 : Int) (a2_0 : Int) (a2_1 : Int) (a2_2 : Int) (a2_3 : Int) (w : World) (R : Value → World → Prop) (h : F35 a0_0 a0_1 a0_2 a0_3 a1_0 a1_1 a1_2 a1_3 a2_0 a2_1 a2_2 a2_3 w R) : CallV Try.prog 35 #[(.agg #[(.int .u64 a0_0), (.int .u64 a0_1), (.int .u64 a0_2), (.int .u64 a0_3)]), (.agg #[(.int .u64 a1_0), (.int .u64 a1_1), (.int .u64 a1_2), (.int .u64 a1_3)]), (.agg #[(.int .u64 a2_0), (.int .u64 a2_1), (.int .u64 a2_2), (.int .u64 a2_3)])] w R :=
  callV_of (fn := Try.f35) (an := A35 R) (args := [(.agg #[(.int .u64 a0_0), (.int .u64 a0_1), (.int .u64 a0_2), (.int .u64 a0_3)]), (.agg #[(.int .u64 a1_0), (.int .u64 a1_1), (.int .u64 a1_2), (.int .u64 a1_3)]), (.agg #[(.int .u64 a2_0), (.int .u64 a2_1), (.int .u64 a2_2), (.int .u64 a2_3)])]) Try.func35 rfl (sides35 R) (Eq.mp (by kernel_rfl) h)

/-! 39 vouch/word.Size -/
def F39 (a0_0 : Int) (a0_1 : Int) (a0_2 : Int) (a0_3 : Int) (w : World) (R : Value → World → Prop) : Prop :=
  allocK w (.cells #[(.int .u64 a0_0), (.int .u64 a0_1), (.int .u64 a0_2), (.int .u64 a0_3)] 39) fun w1 => ldK Try.prog w1 ⟨w.heap.size, 0, none⟩ fun v1 => asI .u64 v1 fun n1 => ldK Try.prog w1 ⟨w.heap.size, 1, none⟩ fun v2 => asI .u64 v2 fun n2 => ldK Try.prog w1 ⟨w.heap.size, 2, none⟩ fun v3 => asI .u64 v3 fun n3 => ldK Try.prog w1 ⟨w.heap.size, 3, none⟩ fun v4 => asI .u64 v4 fun n4 => CallV Try.prog 43 #[(.agg #[(.int .u64 n1), (.int .u64 n2), (.int .u64 n3), (.int .u64 n4)])] w1 fun v5 w2 => asI .i64 v5 fun n5 => R (.int .i64 (IntKind.wrap .i64 (Int.tdiv (IntKind.wrap .i64 (263 - n5)) 8))) w2
def A39 (R : Value → World → Prop) : Ann := .no
theorem sides39 (R : Value → World → Prop) : fnSides Try.prog Try.f39 (A39 R) R := by
  trivial
theorem call39 (a0_0 : Int) (a0_1 : Int) (a0_2 : Int) (a0_3 : Int) (w : World) (R : Value → World → Prop) (h : F39 a0_0 a0_1 a0_2 a0_3 w R) : CallV Try.prog 39 #[(.agg #[(.int .u64 a0_0), (.int .u64 a0_1), (.int .u64 a0_2), (.int .u64 a0_3)])] w R :=
  callV_of (fn := Try.f39) (an := A39 R) (args := [(.agg #[(.int .u64 a0_0), (.int .u64 a0_1), (.int .u64 a0_2), (.int .u64 a0_3)])]) Try.func39 rfl (sides39 R) (Eq.mp (by kernel_rfl) h)

/-! 40 vouch/vouchref10.same -/
def F40 (a0_0 : Int) (a0_1 : Int) (a0_2 : Int) (a0_3 : Int) (a1_0 : Int) (a1_1 : Int) (a1_2 : Int) (a1_3 : Int) (w : World) (R : Value → World → Prop) : Prop :=
  allocK w (.cells #[(.int .u64 a0_0), (.int .u64 a0_1), (.int .u64 a0_2), (.int .u64 a0_3)] 39) fun w1 => allocK w1 (.cells #[(.int .u64 a1_0), (.int .u64 a1_1), (.int .u64 a1_2), (.int .u64 a1_3)] 39) fun w2 => ldK Try.prog w2 ⟨w.heap.size, 0, none⟩ fun v1 => asI .u64 v1 fun n1 => ldK Try.prog w2 ⟨w1.heap.size, 0, none⟩ fun v2 => asI .u64 v2 fun n2 => ifB ((n1 : Int) == n2) (ldK Try.prog w2 ⟨w.heap.size, 1, none⟩ fun v3 => asI .u64 v3 fun n3 => ldK Try.prog w2 ⟨w1.heap.size, 1, none⟩ fun v4 => asI .u64 v4 fun n4 => ifB ((n3 : Int) == n4) (ldK Try.prog w2 ⟨w.heap.size, 2, none⟩ fun v5 => asI .u64 v5 fun n5 => ldK Try.prog w2 ⟨w1.heap.size, 2, none⟩ fun v6 => asI .u64 v6 fun n6 => ifB ((n5 : Int) == n6) (ldK Try.prog w2 ⟨w.heap.size, 3, none⟩ fun v7 => asI .u64 v7 fun n7 => ldK Try.prog w2 ⟨w1.heap.size, 3, none⟩ fun v8 => asI .u64 v8 fun n8 => R (.bool ((n7 : Int) == n8)) w2) (R (.bool false) w2)) (R (.bool false) w2)) (R (.bool false) w2)
def A40 (R : Value → World → Prop) : Ann := .no
theorem sides40 (R : Value → World → Prop) : fnSides Try.prog Try.f40 (A40 R) R := by
  trivial
theorem call40 (a0_0 : Int) (a0_1 : Int) (a0_2 : Int) (a0_3 : Int) (a1_0 : Int) (a1_1 : Int) (a1_2 : Int) (a1_3 : Int) (w : World) (R : Value → World → Prop) (h : F40 a0_0 a0_1 a0_2 a0_3 a1_0 a1_1 a1_2 a1_3 w R) : CallV Try.prog 40 #[(.agg #[(.int .u64 a0_0), (.int .u64 a0_1), (.int .u64 a0_2), (.int .u64 a0_3)]), (.agg #[(.int .u64 a1_0), (.int .u64 a1_1), (.int .u64 a1_2), (.int .u64 a1_3)])] w R :=
  callV_of (fn := Try.f40) (an := A40 R) (args := [(.agg #[(.int .u64 a0_0), (.int .u64 a0_1), (.int .u64 a0_2), (.int .u64 a0_3)]), (.agg #[(.int .u64 a1_0), (.int .u64 a1_1), (.int .u64 a1_2), (.int .u64 a1_3)])]) Try.func40 rfl (sides40 R) (Eq.mp (by kernel_rfl) h)

/-! 41 vouch/vouchref10.zero -/
def F41 (a0_0 : Int) (a0_1 : Int) (a0_2 : Int) (a0_3 : Int) (w : World) (R : Value → World → Prop) : Prop :=
  allocK w (.cells #[(.int .u64 a0_0), (.int .u64 a0_1), (.int .u64 a0_2), (.int .u64 a0_3)] 39) fun w1 => ldK Try.prog w1 ⟨w.heap.size, 0, none⟩ fun v1 => asI .u64 v1 fun n1 => ifB ((n1 : Int) == 0) (ldK Try.prog w1 ⟨w.heap.size, 1, none⟩ fun v2 => asI .u64 v2 fun n2 => ifB ((n2 : Int) == 0) (ldK Try.prog w1 ⟨w.heap.size, 2, none⟩ fun v3 => asI .u64 v3 fun n3 => ifB ((n3 : Int) == 0) (ldK Try.prog w1 ⟨w.heap.size, 3, none⟩ fun v4 => asI .u64 v4 fun n4 => R (.bool ((n4 : Int) == 0)) w1) (R (.bool false) w1)) (R (.bool false) w1)) (R (.bool false) w1)
def A41 (R : Value → World → Prop) : Ann := .no
theorem sides41 (R : Value → World → Prop) : fnSides Try.prog Try.f41 (A41 R) R := by
  trivial
theorem call41 (a0_0 : Int) (a0_1 : Int) (a0_2 : Int) (a0_3 : Int) (w : World) (R : Value → World → Prop) (h : F41 a0_0 a0_1 a0_2 a0_3 w R) : CallV Try.prog 41 #[(.agg #[(.int .u64 a0_0), (.int .u64 a0_1), (.int .u64 a0_2), (.int .u64 a0_3)])] w R :=
  callV_of (fn := Try.f41) (an := A41 R) (args := [(.agg #[(.int .u64 a0_0), (.int .u64 a0_1), (.int .u64 a0_2), (.int .u64 a0_3)])]) Try.func41 rfl (sides41 R) (Eq.mp (by kernel_rfl) h)

/-! 42 vouch/vouchref10.Stands -/
def F42 (a0_0 : Int) (a0_1 : Int) (a0_2 : Int) (a0_3 : Int) (a1_0 : Int) (a1_1 : Int) (a1_2 : Int) (a1_3 : Int) (w : World) (R : Value → World → Prop) : Prop :=
  allocK w (.cells #[(.int .u64 a0_0), (.int .u64 a0_1), (.int .u64 a0_2), (.int .u64 a0_3)] 39) fun w1 => allocK w1 (.cells #[(.int .u64 a1_0), (.int .u64 a1_1), (.int .u64 a1_2), (.int .u64 a1_3)] 39) fun w2 => ldK Try.prog w2 ⟨w.heap.size, 0, none⟩ fun v1 => asI .u64 v1 fun n1 => ldK Try.prog w2 ⟨w.heap.size, 1, none⟩ fun v2 => asI .u64 v2 fun n2 => ldK Try.prog w2 ⟨w.heap.size, 2, none⟩ fun v3 => asI .u64 v3 fun n3 => ldK Try.prog w2 ⟨w.heap.size, 3, none⟩ fun v4 => asI .u64 v4 fun n4 => ldK Try.prog w2 ⟨w1.heap.size, 0, none⟩ fun v5 => asI .u64 v5 fun n5 => ldK Try.prog w2 ⟨w1.heap.size, 1, none⟩ fun v6 => asI .u64 v6 fun n6 => ldK Try.prog w2 ⟨w1.heap.size, 2, none⟩ fun v7 => asI .u64 v7 fun n7 => ldK Try.prog w2 ⟨w1.heap.size, 3, none⟩ fun v8 => asI .u64 v8 fun n8 => CallV Try.prog 40 #[(.agg #[(.int .u64 n1), (.int .u64 n2), (.int .u64 n3), (.int .u64 n4)]), (.agg #[(.int .u64 n5), (.int .u64 n6), (.int .u64 n7), (.int .u64 n8)])] w2 fun v9 w3 => asB v9 fun b1 => ifB b1 (R (.int .i64 0) w3) (ldK Try.prog w3 ⟨w.heap.size, 0, none⟩ fun v10 => asI .u64 v10 fun n9 => ldK Try.prog w3 ⟨w.heap.size, 1, none⟩ fun v11 => asI .u64 v11 fun n10 => ldK Try.prog w3 ⟨w.heap.size, 2, none⟩ fun v12 => asI .u64 v12 fun n11 => ldK Try.prog w3 ⟨w.heap.size, 3, none⟩ fun v13 => asI .u64 v13 fun n12 => CallV Try.prog 41 #[(.agg #[(.int .u64 n9), (.int .u64 n10), (.int .u64 n11), (.int .u64 n12)])] w3 fun v14 w4 => asB v14 fun b2 => ifB b2 (R (.int .i64 19900) w4) (ldK Try.prog w4 ⟨w1.heap.size, 0, none⟩ fun v15 => asI .u64 v15 fun n13 => ldK Try.prog w4 ⟨w1.heap.size, 1, none⟩ fun v16 => asI .u64 v16 fun n14 => ldK Try.prog w4 ⟨w1.heap.size, 2, none⟩ fun v17 => asI .u64 v17 fun n15 => ldK Try.prog w4 ⟨w1.heap.size, 3, none⟩ fun v18 => asI .u64 v18 fun n16 => CallV Try.prog 41 #[(.agg #[(.int .u64 n13), (.int .u64 n14), (.int .u64 n15), (.int .u64 n16)])] w4 fun v19 w5 => asB v19 fun b3 => ifB b3 (R (.int .i64 (-2000)) w5) (R (.int .i64 2800) w5)))
def A42 (R : Value → World → Prop) : Ann := .no
theorem sides42 (R : Value → World → Prop) : fnSides Try.prog Try.f42 (A42 R) R := by
  trivial
theorem call42 (a0_0 : Int) (a0_1 : Int) (a0_2 : Int) (a0_3 : Int) (a1_0 : Int) (a1_1 : Int) (a1_2 : Int) (a1_3 : Int) (w : World) (R : Value → World → Prop) (h : F42 a0_0 a0_1 a0_2 a0_3 a1_0 a1_1 a1_2 a1_3 w R) : CallV Try.prog 42 #[(.agg #[(.int .u64 a0_0), (.int .u64 a0_1), (.int .u64 a0_2), (.int .u64 a0_3)]), (.agg #[(.int .u64 a1_0), (.int .u64 a1_1), (.int .u64 a1_2), (.int .u64 a1_3)])] w R :=
  callV_of (fn := Try.f42) (an := A42 R) (args := [(.agg #[(.int .u64 a0_0), (.int .u64 a0_1), (.int .u64 a0_2), (.int .u64 a0_3)]), (.agg #[(.int .u64 a1_0), (.int .u64 a1_1), (.int .u64 a1_2), (.int .u64 a1_3)])]) Try.func42 rfl (sides42 R) (Eq.mp (by kernel_rfl) h)

/-! 43 vouch/word.ahead -/
def L43_0 (R : Value → World → Prop) : Nat → Addr → Int → Int → World → Prop
  | 0 => fun _ _ _ _ => False
  | k + 1 => fun x1 x3 x4 w => ifB (decide ((x4 : Int) ≥ 0)) (semK Try.prog (Instr.indexAt 39 (.pointer (some x1)) (.int .i64 x4)) w fun v1 w1 => asA v1 fun ad1 => ldK Try.prog w1 ad1 fun v2 => asI .u64 v2 fun n1 => CallV Try.prog 44 #[(.int .u64 n1)] w1 fun v3 w2 => asI .i64 v3 fun n2 => ifB (decide ((n2 : Int) < 64)) (R (.int .i64 (IntKind.wrap .i64 (x3 + n2))) w2) (L43_0 R k x1 (IntKind.wrap .i64 (x3 + n2)) (IntKind.wrap .i64 (x4 - 1)) w2)) (R (.int .i64 x3) w)
def F43 (a0_0 : Int) (a0_1 : Int) (a0_2 : Int) (a0_3 : Int) (w : World) (R : Value → World → Prop) : Prop :=
  allocK w (.cells #[(.int .u64 a0_0), (.int .u64 a0_1), (.int .u64 a0_2), (.int .u64 a0_3)] 39) fun w1 => ∃ m, L43_0 R m ⟨w.heap.size, 0, none⟩ 0 3 w1
def A43 (R : Value → World → Prop) : Ann := (.seq .no (.seq .no (.seq (.seq .no (.block (.loop (fun m e ds w => nilD ds (asA (e 1) fun x1 => asI .i64 (e 3) fun x3 => asI .i64 (e 4) fun x4 => L43_0 R m x1 x3 x4 w)) (fun kL43_0 => .no)))) .no)))
theorem sides43 (R : Value → World → Prop) : fnSides Try.prog Try.f43 (A43 R) R := by
  refine And.intro ?_ ?_
  ·
    exact trivial
  ·
    refine And.intro ?_ ?_
    ·
      exact trivial
    ·
      refine And.intro ?_ ?_
      ·
        refine And.intro ?_ ?_
        ·
          exact trivial
        ·
          refine And.intro ?_ (And.intro ?_ ?_)
          ·
            intro e ds w h
            obtain ⟨rfl, h⟩ := nilD_elim h
            obtain ⟨x1, z1, h⟩ := asA_elim h
            obtain ⟨x3, z3, h⟩ := asI_elim h
            obtain ⟨x4, z4, h⟩ := asI_elim h
            exact h
          ·
            intro kL43_0 e ds w h
            obtain ⟨rfl, h⟩ := nilD_elim h
            obtain ⟨x1, z1, h⟩ := asA_elim h
            obtain ⟨x3, z3, h⟩ := asI_elim h
            obtain ⟨x4, z4, h⟩ := asI_elim h
            have he : (put (put (put e (some 1) (.pointer (some x1))) (some 3) (.int .i64 x3)) (some 4) (.int .i64 x4)) = e := by rw [put_id z1, put_id z3, put_id z4]
            rw [← he]
            clear he
            exact Eq.mp (by kernel_rfl) h
          ·
            intro kL43_0
            exact trivial
      ·
        exact trivial
theorem call43 (a0_0 : Int) (a0_1 : Int) (a0_2 : Int) (a0_3 : Int) (w : World) (R : Value → World → Prop) (h : F43 a0_0 a0_1 a0_2 a0_3 w R) : CallV Try.prog 43 #[(.agg #[(.int .u64 a0_0), (.int .u64 a0_1), (.int .u64 a0_2), (.int .u64 a0_3)])] w R :=
  callV_of (fn := Try.f43) (an := A43 R) (args := [(.agg #[(.int .u64 a0_0), (.int .u64 a0_1), (.int .u64 a0_2), (.int .u64 a0_3)])]) Try.func43 rfl (sides43 R) (Eq.mp (by kernel_rfl) h)

/-! 44 math/bits.LeadingZeros64 -/
def F44 (a0 : Int) (w : World) (R : Value → World → Prop) : Prop :=
  CallV Try.prog 45 #[(.int .u64 a0)] w fun v1 w1 => asI .i64 v1 fun n1 => R (.int .i64 (IntKind.wrap .i64 (64 - n1))) w1
def A44 (R : Value → World → Prop) : Ann := .no
theorem sides44 (R : Value → World → Prop) : fnSides Try.prog Try.f44 (A44 R) R := by
  trivial
theorem call44 (a0 : Int) (w : World) (R : Value → World → Prop) (h : F44 a0 w R) : CallV Try.prog 44 #[(.int .u64 a0)] w R :=
  callV_of (fn := Try.f44) (an := A44 R) (args := [(.int .u64 a0)]) Try.func44 rfl (sides44 R) (Eq.mp (by kernel_rfl) h)

/-! 45 math/bits.Len64 -/
def J45_1 (R : Value → World → Prop) (x0 : Int) (x2 : Int) (w : World) : Prop :=
  ifB (decide ((x0 : Int) ≥ 256)) (semK Try.prog (Instr.index 9 (.string str0) (.int .u8 (IntKind.wrap .u8 (Int.fdiv x0 (2 ^ (min (8 : Int).toNat 64)))))) w fun v1 w1 => asI .u8 v1 fun n1 => R (.int .i64 (IntKind.wrap .i64 ((IntKind.wrap .i64 (x2 + 8)) + (IntKind.wrap .i64 n1)))) w1) (semK Try.prog (Instr.index 9 (.string str0) (.int .u8 (IntKind.wrap .u8 x0))) w fun v2 w2 => asI .u8 v2 fun n2 => R (.int .i64 (IntKind.wrap .i64 (x2 + (IntKind.wrap .i64 n2)))) w2)
def J45_0 (R : Value → World → Prop) (x0 : Int) (x2 : Int) (w : World) : Prop :=
  ifB (decide ((x0 : Int) ≥ 65536)) (J45_1 R (Int.fdiv x0 (2 ^ (min (16 : Int).toNat 64))) (IntKind.wrap .i64 (x2 + 16)) w) (J45_1 R x0 x2 w)
def F45 (a0 : Int) (w : World) (R : Value → World → Prop) : Prop :=
  ifB (decide ((a0 : Int) ≥ 4294967296)) (J45_0 R (Int.fdiv a0 (2 ^ (min (32 : Int).toNat 64))) 32 w) (J45_0 R a0 0 w)
def A45 (R : Value → World → Prop) : Ann := (.seq .no (.join (fun e ds w => nilD ds (asI .u64 (e 0) fun x0 => asI .i64 (e 2) fun x2 => J45_0 R x0 x2 w)) .no (.join (fun e ds w => nilD ds (asI .u64 (e 0) fun x0 => asI .i64 (e 2) fun x2 => J45_1 R x0 x2 w)) .no .no)))
theorem sides45 (R : Value → World → Prop) : fnSides Try.prog Try.f45 (A45 R) R := by
  refine And.intro ?_ ?_
  ·
    exact trivial
  ·
    refine And.intro ?_ (And.intro ?_ ?_)
    ·
      intro e ds w h
      obtain ⟨rfl, h⟩ := nilD_elim h
      obtain ⟨x0, z0, h⟩ := asI_elim h
      obtain ⟨x2, z2, h⟩ := asI_elim h
      have he : (put (put e (some 0) (.int .u64 x0)) (some 2) (.int .i64 x2)) = e := by rw [put_id z0, put_id z2]
      rw [← he]
      clear he
      exact Eq.mp (by kernel_rfl) h
    ·
      exact trivial
    ·
      refine And.intro ?_ (And.intro ?_ ?_)
      ·
        intro e ds w h
        obtain ⟨rfl, h⟩ := nilD_elim h
        obtain ⟨x0, z0, h⟩ := asI_elim h
        obtain ⟨x2, z2, h⟩ := asI_elim h
        have he : (put (put e (some 0) (.int .u64 x0)) (some 2) (.int .i64 x2)) = e := by rw [put_id z0, put_id z2]
        rw [← he]
        clear he
        exact Eq.mp (by kernel_rfl) h
      ·
        exact trivial
      ·
        exact trivial
theorem call45 (a0 : Int) (w : World) (R : Value → World → Prop) (h : F45 a0 w R) : CallV Try.prog 45 #[(.int .u64 a0)] w R :=
  callV_of (fn := Try.f45) (an := A45 R) (args := [(.int .u64 a0)]) Try.func45 rfl (sides45 R) (Eq.mp (by kernel_rfl) h)

/-! 34 vouch/vouchref10.Exp -/
def J34_2 (R : Value → World → Prop) (C_L34_1 : Addr → Int → Int → World → Prop) (x1 : Addr) (x3 : Int) (x4 : Int) (w : World) : Prop :=
  C_L34_1 x1 x3 (IntKind.wrap .i64 (x4 + 1)) w
def J34_3 (R : Value → World → Prop) (C_L34_1 : Addr → Int → Int → World → Prop) (x1 : Addr) (x3 : Int) (x4 : Int) (x5 : Int) (w : World) : Prop :=
  ifB ((Int.tmod x5 256 : Int) != 0) (J34_2 R C_L34_1 x1 (IntKind.wrap .i64 (x4 + 1)) x4 w) (J34_2 R C_L34_1 x1 x3 x4 w)
def L34_4 (R : Value → World → Prop) (C_L34_1 : Addr → Int → Int → World → Prop) : Nat → Addr → Int → Int → Int → Int → World → Prop
  | 0 => fun _ _ _ _ _ _ => False
  | k + 1 => fun x1 x3 x4 x5 x6 w => ifB (decide ((x6 : Int) < (Int.tmod x4 8))) (L34_4 R C_L34_1 k x1 x3 x4 (IntKind.wrap .u64 (Int.tdiv x5 256)) (IntKind.wrap .i64 (x6 + 1)) w) (J34_3 R C_L34_1 x1 x3 x4 x5 w)
def J34_0 (R : Value → World → Prop) (x3 : Int) (w : World) : Prop :=
  R (.int .u64 (IntKind.wrap .u64 (IntKind.wrap .i64 (50 * x3)))) w
def L34_1 (R : Value → World → Prop) : Nat → Addr → Int → Int → World → Prop
  | 0 => fun _ _ _ _ => False
  | k + 1 => fun x1 x3 x4 w => ifB (decide ((x4 : Int) < 32)) (semK Try.prog (Instr.indexAt 39 (.pointer (some x1)) (.int .i64 (IntKind.wrap .i64 (Int.tdiv x4 8)))) w fun v1 w1 => asA v1 fun ad1 => ldK Try.prog w1 ad1 fun v2 => asI .u64 v2 fun n1 => ∃ m, L34_4 R (L34_1 R k) m x1 x3 x4 n1 0 w1) (J34_0 R x3 w)
def F34 (a0_0 : Int) (a0_1 : Int) (a0_2 : Int) (a0_3 : Int) (w : World) (R : Value → World → Prop) : Prop :=
  allocK w (.cells #[(.int .u64 a0_0), (.int .u64 a0_1), (.int .u64 a0_2), (.int .u64 a0_3)] 39) fun w1 => ∃ m, L34_1 R m ⟨w.heap.size, 0, none⟩ 0 0 w1
def A34 (R : Value → World → Prop) : Ann := (.seq .no (.seq .no (.join (fun e ds w => nilD ds (asI .i64 (e 3) fun x3 => J34_0 R x3 w)) (.seq .no (.block (.loop (fun m e ds w => nilD ds (asA (e 1) fun x1 => asI .i64 (e 3) fun x3 => asI .i64 (e 4) fun x4 => L34_1 R m x1 x3 x4 w)) (fun kL34_1 => (.seq .no (.join (fun e ds w => nilD ds (asA (e 1) fun x1 => asI .i64 (e 3) fun x3 => asI .i64 (e 4) fun x4 => J34_2 R (L34_1 R kL34_1) x1 x3 x4 w)) (.block (.seq .no (.join (fun e ds w => nilD ds (asA (e 1) fun x1 => asI .i64 (e 3) fun x3 => asI .i64 (e 4) fun x4 => asI .u64 (e 5) fun x5 => J34_3 R (L34_1 R kL34_1) x1 x3 x4 x5 w)) (.seq .no (.block (.loop (fun m e ds w => nilD ds (asA (e 1) fun x1 => asI .i64 (e 3) fun x3 => asI .i64 (e 4) fun x4 => asI .u64 (e 5) fun x5 => asI .i64 (e 6) fun x6 => L34_4 R (L34_1 R kL34_1) m x1 x3 x4 x5 x6 w)) (fun kL34_4 => .no)))) .no))) .no)))))) .no)))
theorem sides34 (R : Value → World → Prop) : fnSides Try.prog Try.f34 (A34 R) R := by
  refine And.intro ?_ ?_
  ·
    exact trivial
  ·
    refine And.intro ?_ ?_
    ·
      exact trivial
    ·
      refine And.intro ?_ (And.intro ?_ ?_)
      ·
        intro e ds w h
        obtain ⟨rfl, h⟩ := nilD_elim h
        obtain ⟨x3, z3, h⟩ := asI_elim h
        have he : (put e (some 3) (.int .i64 x3)) = e := by rw [put_id z3]
        rw [← he]
        clear he
        exact Eq.mp (by kernel_rfl) h
      ·
        refine And.intro ?_ ?_
        ·
          exact trivial
        ·
          refine And.intro ?_ (And.intro ?_ ?_)
          ·
            intro e ds w h
            obtain ⟨rfl, h⟩ := nilD_elim h
            obtain ⟨x1, z1, h⟩ := asA_elim h
            obtain ⟨x3, z3, h⟩ := asI_elim h
            obtain ⟨x4, z4, h⟩ := asI_elim h
            exact h
          ·
            intro kL34_1 e ds w h
            obtain ⟨rfl, h⟩ := nilD_elim h
            obtain ⟨x1, z1, h⟩ := asA_elim h
            obtain ⟨x3, z3, h⟩ := asI_elim h
            obtain ⟨x4, z4, h⟩ := asI_elim h
            have he : (put (put (put e (some 1) (.pointer (some x1))) (some 3) (.int .i64 x3)) (some 4) (.int .i64 x4)) = e := by rw [put_id z1, put_id z3, put_id z4]
            rw [← he]
            clear he
            exact Eq.mp (by kernel_rfl) h
          ·
            intro kL34_1
            refine And.intro ?_ ?_
            ·
              exact trivial
            ·
              refine And.intro ?_ (And.intro ?_ ?_)
              ·
                intro e ds w h
                obtain ⟨rfl, h⟩ := nilD_elim h
                obtain ⟨x1, z1, h⟩ := asA_elim h
                obtain ⟨x3, z3, h⟩ := asI_elim h
                obtain ⟨x4, z4, h⟩ := asI_elim h
                have he : (put (put (put e (some 1) (.pointer (some x1))) (some 3) (.int .i64 x3)) (some 4) (.int .i64 x4)) = e := by rw [put_id z1, put_id z3, put_id z4]
                rw [← he]
                clear he
                exact Eq.mp (by kernel_rfl) h
              ·
                refine And.intro ?_ ?_
                ·
                  exact trivial
                ·
                  refine And.intro ?_ (And.intro ?_ ?_)
                  ·
                    intro e ds w h
                    obtain ⟨rfl, h⟩ := nilD_elim h
                    obtain ⟨x1, z1, h⟩ := asA_elim h
                    obtain ⟨x3, z3, h⟩ := asI_elim h
                    obtain ⟨x4, z4, h⟩ := asI_elim h
                    obtain ⟨x5, z5, h⟩ := asI_elim h
                    have he : (put (put (put (put e (some 1) (.pointer (some x1))) (some 3) (.int .i64 x3)) (some 4) (.int .i64 x4)) (some 5) (.int .u64 x5)) = e := by rw [put_id z1, put_id z3, put_id z4, put_id z5]
                    rw [← he]
                    clear he
                    exact Eq.mp (by kernel_rfl) h
                  ·
                    refine And.intro ?_ ?_
                    ·
                      exact trivial
                    ·
                      refine And.intro ?_ (And.intro ?_ ?_)
                      ·
                        intro e ds w h
                        obtain ⟨rfl, h⟩ := nilD_elim h
                        obtain ⟨x1, z1, h⟩ := asA_elim h
                        obtain ⟨x3, z3, h⟩ := asI_elim h
                        obtain ⟨x4, z4, h⟩ := asI_elim h
                        obtain ⟨x5, z5, h⟩ := asI_elim h
                        obtain ⟨x6, z6, h⟩ := asI_elim h
                        exact h
                      ·
                        intro kL34_4 e ds w h
                        obtain ⟨rfl, h⟩ := nilD_elim h
                        obtain ⟨x1, z1, h⟩ := asA_elim h
                        obtain ⟨x3, z3, h⟩ := asI_elim h
                        obtain ⟨x4, z4, h⟩ := asI_elim h
                        obtain ⟨x5, z5, h⟩ := asI_elim h
                        obtain ⟨x6, z6, h⟩ := asI_elim h
                        have he : (put (put (put (put (put e (some 1) (.pointer (some x1))) (some 3) (.int .i64 x3)) (some 4) (.int .i64 x4)) (some 5) (.int .u64 x5)) (some 6) (.int .i64 x6)) = e := by rw [put_id z1, put_id z3, put_id z4, put_id z5, put_id z6]
                        rw [← he]
                        clear he
                        exact Eq.mp (by kernel_rfl) h
                      ·
                        intro kL34_4
                        exact trivial
                  ·
                    exact trivial
              ·
                exact trivial
      ·
        exact trivial
theorem call34 (a0_0 : Int) (a0_1 : Int) (a0_2 : Int) (a0_3 : Int) (w : World) (R : Value → World → Prop) (h : F34 a0_0 a0_1 a0_2 a0_3 w R) : CallV Try.prog 34 #[(.agg #[(.int .u64 a0_0), (.int .u64 a0_1), (.int .u64 a0_2), (.int .u64 a0_3)])] w R :=
  callV_of (fn := Try.f34) (an := A34 R) (args := [(.agg #[(.int .u64 a0_0), (.int .u64 a0_1), (.int .u64 a0_2), (.int .u64 a0_3)])]) Try.func34 rfl (sides34 R) (Eq.mp (by kernel_rfl) h)

/-! 33 vouch/gas.Exp -/
def F33 (a0_0 : Int) (a0_1 : Int) (a0_2 : Int) (a0_3 : Int) (w : World) (R : Value → World → Prop) : Prop :=
  allocK w (.cells #[(.int .u64 a0_0), (.int .u64 a0_1), (.int .u64 a0_2), (.int .u64 a0_3)] 39) fun w1 => ldK Try.prog w1 ⟨w.heap.size, 0, none⟩ fun v1 => asI .u64 v1 fun n1 => ldK Try.prog w1 ⟨w.heap.size, 1, none⟩ fun v2 => asI .u64 v2 fun n2 => ldK Try.prog w1 ⟨w.heap.size, 2, none⟩ fun v3 => asI .u64 v3 fun n3 => ldK Try.prog w1 ⟨w.heap.size, 3, none⟩ fun v4 => asI .u64 v4 fun n4 => CallV Try.prog 39 #[(.agg #[(.int .u64 n1), (.int .u64 n2), (.int .u64 n3), (.int .u64 n4)])] w1 fun v5 w2 => asI .i64 v5 fun n5 => R (.int .u64 (IntKind.wrap .u64 (50 * (IntKind.wrap .u64 n5)))) w2
def A33 (R : Value → World → Prop) : Ann := .no
theorem sides33 (R : Value → World → Prop) : fnSides Try.prog Try.f33 (A33 R) R := by
  trivial
theorem call33 (a0_0 : Int) (a0_1 : Int) (a0_2 : Int) (a0_3 : Int) (w : World) (R : Value → World → Prop) (h : F33 a0_0 a0_1 a0_2 a0_3 w R) : CallV Try.prog 33 #[(.agg #[(.int .u64 a0_0), (.int .u64 a0_1), (.int .u64 a0_2), (.int .u64 a0_3)])] w R :=
  callV_of (fn := Try.f33) (an := A33 R) (args := [(.agg #[(.int .u64 a0_0), (.int .u64 a0_1), (.int .u64 a0_2), (.int .u64 a0_3)])]) Try.func33 rfl (sides33 R) (Eq.mp (by kernel_rfl) h)

/-! 36 vouch/vouchref10.Store -/
def J36_0 (R : Value → World → Prop) (x3 : Addr) (x4 : Addr) (x5 : Addr) (x8 : Int) (w : World) : Prop :=
  drewK w fun w1 => ldK Try.prog w1 x3 fun v1 => asI .u64 v1 fun n1 => ldK Try.prog w1 (Addr.add x3 1) fun v2 => asI .u64 v2 fun n2 => ldK Try.prog w1 (Addr.add x3 2) fun v3 => asI .u64 v3 fun n3 => ldK Try.prog w1 (Addr.add x3 3) fun v4 => asI .u64 v4 fun n4 => ldK Try.prog w1 x4 fun v5 => asI .u64 v5 fun n5 => ldK Try.prog w1 (Addr.add x4 1) fun v6 => asI .u64 v6 fun n6 => ldK Try.prog w1 (Addr.add x4 2) fun v7 => asI .u64 v7 fun n7 => ldK Try.prog w1 (Addr.add x4 3) fun v8 => asI .u64 v8 fun n8 => ldK Try.prog w1 x3 fun v9 => asI .u64 v9 fun n9 => ldK Try.prog w1 (Addr.add x3 1) fun v10 => asI .u64 v10 fun n10 => ldK Try.prog w1 (Addr.add x3 2) fun v11 => asI .u64 v11 fun n11 => ldK Try.prog w1 (Addr.add x3 3) fun v12 => asI .u64 v12 fun n12 => ldK Try.prog w1 x5 fun v13 => asI .u64 v13 fun n13 => ldK Try.prog w1 (Addr.add x5 1) fun v14 => asI .u64 v14 fun n14 => ldK Try.prog w1 (Addr.add x5 2) fun v15 => asI .u64 v15 fun n15 => ldK Try.prog w1 (Addr.add x5 3) fun v16 => asI .u64 v16 fun n16 => CallV Try.prog 42 #[(.agg #[(.int .u64 n1), (.int .u64 n2), (.int .u64 n3), (.int .u64 n4)]), (.agg #[(.int .u64 n5), (.int .u64 n6), (.int .u64 n7), (.int .u64 n8)])] w1 fun v17 w2 => asI .i64 v17 fun n17 => (ldK Try.prog w2 x3 fun v18 => asI .u64 v18 fun n18 => ldK Try.prog w2 (Addr.add x3 1) fun v19 => asI .u64 v19 fun n19 => ldK Try.prog w2 (Addr.add x3 2) fun v20 => asI .u64 v20 fun n20 => ldK Try.prog w2 (Addr.add x3 3) fun v21 => asI .u64 v21 fun n21 => ((.agg #[(.int .u64 n18), (.int .u64 n19), (.int .u64 n20), (.int .u64 n21)]) : Value) = (.agg #[(.int .u64 n9), (.int .u64 n10), (.int .u64 n11), (.int .u64 n12)])) ∧ ((ldK Try.prog w2 x5 fun v22 => asI .u64 v22 fun n22 => ldK Try.prog w2 (Addr.add x5 1) fun v23 => asI .u64 v23 fun n23 => ldK Try.prog w2 (Addr.add x5 2) fun v24 => asI .u64 v24 fun n24 => ldK Try.prog w2 (Addr.add x5 3) fun v25 => asI .u64 v25 fun n25 => ((.agg #[(.int .u64 n22), (.int .u64 n23), (.int .u64 n24), (.int .u64 n25)]) : Value) = (.agg #[(.int .u64 n13), (.int .u64 n14), (.int .u64 n15), (.int .u64 n16)])) ∧ (CallV Try.prog 42 #[(.agg #[(.int .u64 n9), (.int .u64 n10), (.int .u64 n11), (.int .u64 n12)]), (.agg #[(.int .u64 n13), (.int .u64 n14), (.int .u64 n15), (.int .u64 n16)])] w2 fun v26 w3 => asI .i64 v26 fun n26 => R (.tuple #[(.int .u64 (IntKind.wrap .u64 x8)), (.int .i64 (IntKind.wrap .i64 ((IntKind.wrap .i64 (x8 + n17)) - n26)))]) w3))
def J36_1 (R : Value → World → Prop) (x3 : Addr) (x4 : Addr) (x5 : Addr) (x8 : Int) (x17 : Bool) (w : World) : Prop :=
  ifB x17 (ldK Try.prog w x3 fun v1 => asI .u64 v1 fun n1 => ldK Try.prog w (Addr.add x3 1) fun v2 => asI .u64 v2 fun n2 => ldK Try.prog w (Addr.add x3 2) fun v3 => asI .u64 v3 fun n3 => ldK Try.prog w (Addr.add x3 3) fun v4 => asI .u64 v4 fun n4 => CallV Try.prog 41 #[(.agg #[(.int .u64 n1), (.int .u64 n2), (.int .u64 n3), (.int .u64 n4)])] w fun v5 w1 => asB v5 fun b1 => ifB b1 (J36_0 R x3 x4 x5 19900 w1) (J36_0 R x3 x4 x5 2800 w1)) (J36_0 R x3 x4 x5 x8 w)
def F36 (a0_0 : Int) (a0_1 : Int) (a0_2 : Int) (a0_3 : Int) (a1_0 : Int) (a1_1 : Int) (a1_2 : Int) (a1_3 : Int) (a2_0 : Int) (a2_1 : Int) (a2_2 : Int) (a2_3 : Int) (w : World) (R : Value → World → Prop) : Prop :=
  allocK w (.cells #[(.int .u64 a0_0), (.int .u64 a0_1), (.int .u64 a0_2), (.int .u64 a0_3)] 39) fun w1 => allocK w1 (.cells #[(.int .u64 a1_0), (.int .u64 a1_1), (.int .u64 a1_2), (.int .u64 a1_3)] 39) fun w2 => allocK w2 (.cells #[(.int .u64 a2_0), (.int .u64 a2_1), (.int .u64 a2_2), (.int .u64 a2_3)] 39) fun w3 => ldK Try.prog w3 ⟨w.heap.size, 0, none⟩ fun v1 => asI .u64 v1 fun n1 => ldK Try.prog w3 ⟨w.heap.size, 1, none⟩ fun v2 => asI .u64 v2 fun n2 => ldK Try.prog w3 ⟨w.heap.size, 2, none⟩ fun v3 => asI .u64 v3 fun n3 => ldK Try.prog w3 ⟨w.heap.size, 3, none⟩ fun v4 => asI .u64 v4 fun n4 => ldK Try.prog w3 ⟨w1.heap.size, 0, none⟩ fun v5 => asI .u64 v5 fun n5 => ldK Try.prog w3 ⟨w1.heap.size, 1, none⟩ fun v6 => asI .u64 v6 fun n6 => ldK Try.prog w3 ⟨w1.heap.size, 2, none⟩ fun v7 => asI .u64 v7 fun n7 => ldK Try.prog w3 ⟨w1.heap.size, 3, none⟩ fun v8 => asI .u64 v8 fun n8 => CallV Try.prog 40 #[(.agg #[(.int .u64 n1), (.int .u64 n2), (.int .u64 n3), (.int .u64 n4)]), (.agg #[(.int .u64 n5), (.int .u64 n6), (.int .u64 n7), (.int .u64 n8)])] w3 fun v9 w4 => asB v9 fun b1 => ifB b1 (ldK Try.prog w4 ⟨w1.heap.size, 0, none⟩ fun v10 => asI .u64 v10 fun n9 => ldK Try.prog w4 ⟨w1.heap.size, 1, none⟩ fun v11 => asI .u64 v11 fun n10 => ldK Try.prog w4 ⟨w1.heap.size, 2, none⟩ fun v12 => asI .u64 v12 fun n11 => ldK Try.prog w4 ⟨w1.heap.size, 3, none⟩ fun v13 => asI .u64 v13 fun n12 => ldK Try.prog w4 ⟨w2.heap.size, 0, none⟩ fun v14 => asI .u64 v14 fun n13 => ldK Try.prog w4 ⟨w2.heap.size, 1, none⟩ fun v15 => asI .u64 v15 fun n14 => ldK Try.prog w4 ⟨w2.heap.size, 2, none⟩ fun v16 => asI .u64 v16 fun n15 => ldK Try.prog w4 ⟨w2.heap.size, 3, none⟩ fun v17 => asI .u64 v17 fun n16 => CallV Try.prog 40 #[(.agg #[(.int .u64 n9), (.int .u64 n10), (.int .u64 n11), (.int .u64 n12)]), (.agg #[(.int .u64 n13), (.int .u64 n14), (.int .u64 n15), (.int .u64 n16)])] w4 fun v18 w5 => asB v18 fun b2 => J36_1 R ⟨w.heap.size, 0, none⟩ ⟨w1.heap.size, 0, none⟩ ⟨w2.heap.size, 0, none⟩ 0 (!b2) w5) (J36_1 R ⟨w.heap.size, 0, none⟩ ⟨w1.heap.size, 0, none⟩ ⟨w2.heap.size, 0, none⟩ 0 false w4)
def A36 (R : Value → World → Prop) : Ann := (.seq .no (.seq .no (.join (fun e ds w => nilD ds (asA (e 3) fun x3 => asA (e 4) fun x4 => asA (e 5) fun x5 => asI .i64 (e 8) fun x8 => J36_0 R x3 x4 x5 x8 w)) (.join (fun e ds w => nilD ds (asA (e 3) fun x3 => asA (e 4) fun x4 => asA (e 5) fun x5 => asI .i64 (e 8) fun x8 => asB (e 17) fun x17 => J36_1 R x3 x4 x5 x8 x17 w)) .no .no) (.seq (.draw [0, 1, 2, 3, 4, 7, 8, 5, 6, 9, 10, 11, 12]) .no))))
theorem sides36 (R : Value → World → Prop) : fnSides Try.prog Try.f36 (A36 R) R := by
  refine And.intro ?_ ?_
  ·
    exact trivial
  ·
    refine And.intro ?_ ?_
    ·
      exact trivial
    ·
      refine And.intro ?_ (And.intro ?_ ?_)
      ·
        intro e ds w h
        obtain ⟨rfl, h⟩ := nilD_elim h
        obtain ⟨x3, z3, h⟩ := asA_elim h
        obtain ⟨x4, z4, h⟩ := asA_elim h
        obtain ⟨x5, z5, h⟩ := asA_elim h
        obtain ⟨x8, z8, h⟩ := asI_elim h
        have he : (put (put (put (put e (some 3) (.pointer (some x3))) (some 4) (.pointer (some x4))) (some 5) (.pointer (some x5))) (some 8) (.int .i64 x8)) = e := by rw [put_id z3, put_id z4, put_id z5, put_id z8]
        rw [← he]
        clear he
        exact Eq.mp (by kernel_rfl) h
      ·
        refine And.intro ?_ (And.intro ?_ ?_)
        ·
          intro e ds w h
          obtain ⟨rfl, h⟩ := nilD_elim h
          obtain ⟨x3, z3, h⟩ := asA_elim h
          obtain ⟨x4, z4, h⟩ := asA_elim h
          obtain ⟨x5, z5, h⟩ := asA_elim h
          obtain ⟨x8, z8, h⟩ := asI_elim h
          obtain ⟨x17, z17, h⟩ := asB_elim h
          have he : (put (put (put (put (put e (some 3) (.pointer (some x3))) (some 4) (.pointer (some x4))) (some 5) (.pointer (some x5))) (some 8) (.int .i64 x8)) (some 17) (.bool x17)) = e := by rw [put_id z3, put_id z4, put_id z5, put_id z8, put_id z17]
          rw [← he]
          clear he
          exact Eq.mp (by kernel_rfl) h
        ·
          exact trivial
        ·
          exact trivial
      ·
        refine And.intro ?_ ?_
        ·
          exact trivial
        ·
          exact trivial
theorem call36 (a0_0 : Int) (a0_1 : Int) (a0_2 : Int) (a0_3 : Int) (a1_0 : Int) (a1_1 : Int) (a1_2 : Int) (a1_3 : Int) (a2_0 : Int) (a2_1 : Int) (a2_2 : Int) (a2_3 : Int) (w : World) (R : Value → World → Prop) (h : F36 a0_0 a0_1 a0_2 a0_3 a1_0 a1_1 a1_2 a1_3 a2_0 a2_1 a2_2 a2_3 w R) : CallV Try.prog 36 #[(.agg #[(.int .u64 a0_0), (.int .u64 a0_1), (.int .u64 a0_2), (.int .u64 a0_3)]), (.agg #[(.int .u64 a1_0), (.int .u64 a1_1), (.int .u64 a1_2), (.int .u64 a1_3)]), (.agg #[(.int .u64 a2_0), (.int .u64 a2_1), (.int .u64 a2_2), (.int .u64 a2_3)])] w R :=
  callV_of (fn := Try.f36) (an := A36 R) (args := [(.agg #[(.int .u64 a0_0), (.int .u64 a0_1), (.int .u64 a0_2), (.int .u64 a0_3)]), (.agg #[(.int .u64 a1_0), (.int .u64 a1_1), (.int .u64 a1_2), (.int .u64 a1_3)]), (.agg #[(.int .u64 a2_0), (.int .u64 a2_1), (.int .u64 a2_2), (.int .u64 a2_3)])]) Try.func36 rfl (sides36 R) (Eq.mp (by kernel_rfl) h)

/-! 3 vouch/vouchlaw10.GasBacks -/
def F3 (a0 : Int) (a1 : Int) (a2 : Int) (w : World) (R : Value → World → Prop) : Prop :=
  CallV Try.prog 11 #[(.int .u64 a0), (.int .u64 a1), (.int .i64 a2)] w fun v1 w1 => asI .u64 v1 fun n1 => CallV Try.prog 11 #[(.int .u64 100), (.int .u64 1), (.int .i64 50)] w1 fun v2 w2 => asI .u64 v2 fun n2 => CallV Try.prog 12 #[(.int .u64 a0), (.int .u64 a1), (.int .i64 a2)] w2 fun v3 w3 => asI .u64 v3 fun n3 => ifB ((n1 : Int) == n3) (R (.bool ((n2 : Int) == 19)) w3) (R (.bool false) w3)
def A3 (R : Value → World → Prop) : Ann := .no
theorem sides3 (R : Value → World → Prop) : fnSides Try.prog Try.f3 (A3 R) R := by
  trivial
theorem call3 (a0 : Int) (a1 : Int) (a2 : Int) (w : World) (R : Value → World → Prop) (h : F3 a0 a1 a2 w R) : CallV Try.prog 3 #[(.int .u64 a0), (.int .u64 a1), (.int .i64 a2)] w R :=
  callV_of (fn := Try.f3) (an := A3 R) (args := [(.int .u64 a0), (.int .u64 a1), (.int .i64 a2)]) Try.func3 rfl (sides3 R) (Eq.mp (by kernel_rfl) h)

/-! 4 vouch/vouchlaw10.GasPasses -/
def F4 (a0 : Int) (w : World) (R : Value → World → Prop) : Prop :=
  CallV Try.prog 13 #[(.int .u64 a0)] w fun v1 w1 => asT v1 fun t1_0 => asHd t1_0 fun t1_0x t1_1 => asI .u64 t1_0x fun n1 => asHd t1_1 fun t1_1x t1_2 => asB t1_1x fun b1 => asEnd t1_2 (CallV Try.prog 14 #[(.int .u64 a0)] w1 fun v2 w2 => asT v2 fun t2_0 => asHd t2_0 fun t2_0x t2_1 => asI .u64 t2_0x fun n2 => asHd t2_1 fun t2_1x t2_2 => asB t2_1x fun b2 => asEnd t2_2 (CallV Try.prog 15 #[(.int .u64 a0)] w2 fun v3 w3 => asI .u64 v3 fun n3 => CallV Try.prog 13 #[(.int .u64 7300)] w3 fun v4 w4 => asT v4 fun t3_0 => asHd t3_0 fun t3_0x t3_1 => asI .u64 t3_0x fun n4 => asHd t3_1 fun t3_1x t3_2 => asB t3_1x fun b3 => asEnd t3_2 (ifB ((n1 : Int) == n2) (ifB (b1 == b2) (CallV Try.prog 16 #[(.int .u64 a0)] w4 fun v5 w5 => asI .u64 v5 fun n5 => ifB ((n3 : Int) == n5) (ifB ((n4 : Int) == 2300) (R (.bool b3) w5) (R (.bool false) w5)) (R (.bool false) w5)) (R (.bool false) w4)) (R (.bool false) w4))))
def A4 (R : Value → World → Prop) : Ann := .no
theorem sides4 (R : Value → World → Prop) : fnSides Try.prog Try.f4 (A4 R) R := by
  trivial
theorem call4 (a0 : Int) (w : World) (R : Value → World → Prop) (h : F4 a0 w R) : CallV Try.prog 4 #[(.int .u64 a0)] w R :=
  callV_of (fn := Try.f4) (an := A4 R) (args := [(.int .u64 a0)]) Try.func4 rfl (sides4 R) (Eq.mp (by kernel_rfl) h)

/-! 5 vouch/vouchlaw10.GasSizes -/
def F5 (a0 : Int) (w : World) (R : Value → World → Prop) : Prop :=
  CallV Try.prog 17 #[(.int .i64 a0)] w fun v1 w1 => asI .i64 v1 fun n1 => CallV Try.prog 18 #[(.int .i64 a0)] w1 fun v2 w2 => asI .u64 v2 fun n2 => CallV Try.prog 19 #[(.int .i64 a0)] w2 fun v3 w3 => asI .u64 v3 fun n3 => CallV Try.prog 20 #[(.int .i64 a0)] w3 fun v4 w4 => asI .u64 v4 fun n4 => CallV Try.prog 21 #[(.int .i64 a0)] w4 fun v5 w5 => asI .u64 v5 fun n5 => CallV Try.prog 22 #[(.int .i64 a0)] w5 fun v6 w6 => asI .u64 v6 fun n6 => CallV Try.prog 23 #[(.int .i64 a0)] w6 fun v7 w7 => asI .i64 v7 fun n7 => ifB ((n1 : Int) == n7) (CallV Try.prog 24 #[(.int .i64 a0)] w7 fun v8 w8 => asI .u64 v8 fun n8 => ifB ((n2 : Int) == n8) (CallV Try.prog 25 #[(.int .i64 a0)] w8 fun v9 w9 => asI .u64 v9 fun n9 => ifB ((n3 : Int) == n9) (CallV Try.prog 26 #[(.int .i64 a0)] w9 fun v10 w10 => asI .u64 v10 fun n10 => ifB ((n4 : Int) == n10) (CallV Try.prog 27 #[(.int .i64 a0)] w10 fun v11 w11 => asI .u64 v11 fun n11 => ifB ((n5 : Int) == n11) (CallV Try.prog 28 #[(.int .i64 a0)] w11 fun v12 w12 => asI .u64 v12 fun n12 => ifB ((n6 : Int) == n12) (CallV Try.prog 17 #[(.int .i64 33)] w12 fun v13 w13 => asI .i64 v13 fun n13 => ifB ((n13 : Int) == 2) (CallV Try.prog 18 #[(.int .i64 33)] w13 fun v14 w14 => asI .u64 v14 fun n14 => ifB ((n14 : Int) == 6) (CallV Try.prog 19 #[(.int .i64 33)] w14 fun v15 w15 => asI .u64 v15 fun n15 => ifB ((n15 : Int) == 12) (CallV Try.prog 20 #[(.int .i64 3)] w15 fun v16 w16 => asI .u64 v16 fun n16 => ifB ((n16 : Int) == 24) (CallV Try.prog 21 #[(.int .i64 2)] w16 fun v17 w17 => asI .u64 v17 fun n17 => ifB ((n17 : Int) == 400) (CallV Try.prog 22 #[(.int .i64 23)] w17 fun v18 w18 => asI .u64 v18 fun n18 => R (.bool ((n18 : Int) == 70)) w18) (R (.bool false) w17)) (R (.bool false) w16)) (R (.bool false) w15)) (R (.bool false) w14)) (R (.bool false) w13)) (R (.bool false) w12)) (R (.bool false) w11)) (R (.bool false) w10)) (R (.bool false) w9)) (R (.bool false) w8)) (R (.bool false) w7)
def A5 (R : Value → World → Prop) : Ann := .no
theorem sides5 (R : Value → World → Prop) : fnSides Try.prog Try.f5 (A5 R) R := by
  trivial
theorem call5 (a0 : Int) (w : World) (R : Value → World → Prop) (h : F5 a0 w R) : CallV Try.prog 5 #[(.int .i64 a0)] w R :=
  callV_of (fn := Try.f5) (an := A5 R) (args := [(.int .i64 a0)]) Try.func5 rfl (sides5 R) (Eq.mp (by kernel_rfl) h)

/-! 6 vouch/vouchlaw10.GasWhole -/
def J6_3 (R : Value → World → Prop) (C_L6_2 : Option Addr → Nat → Nat → Option Addr → Int → Int → World → Prop) (x1p : Option Addr) (x1l : Nat) (x1c : Nat) (x5 : Option Addr) (x6 : Int) (x7 : Int) (w : World) : Prop :=
  CallV Try.prog 32 #[(.pointer x5)] w fun v1 w1 => asI .u64 v1 fun n1 => ifB ((n1 : Int) != x6) (R (.bool false) w1) (C_L6_2 x1p x1l x1c x5 x6 (IntKind.wrap .i64 (x7 + 1)) w1)
def J6_1 (R : Value → World → Prop) (x5 : Option Addr) (x6 : Int) (w : World) : Prop :=
  CallV Try.prog 32 #[(.pointer x5)] w fun v1 w1 => asI .u64 v1 fun n1 => CallV Try.prog 30 #[(.pointer x5), (.int .u64 n1)] w1 fun v2 w2 => asB v2 fun b1 => CallV Try.prog 32 #[(.pointer x5)] w2 fun v3 w3 => asI .u64 v3 fun n2 => CallV Try.prog 30 #[(.pointer x5), (.int .u64 1)] w3 fun v4 w4 => asB v4 fun b2 => ifB ((n1 : Int) == x6) (ifB b1 (ifB ((n2 : Int) == 0) (R (.bool (!b2)) w4) (R (.bool false) w4)) (R (.bool false) w4)) (R (.bool false) w4)
def L6_2 (R : Value → World → Prop) : Nat → Option Addr → Nat → Nat → Option Addr → Int → Int → World → Prop
  | 0 => fun _ _ _ _ _ _ _ => False
  | k + 1 => fun x1p x1l x1c x5 x6 x7 w => ifB (decide ((x7 : Int) < (x1l : Nat))) (semK Try.prog (Instr.indexAt 32 (.slice x1p x1l x1c) (.int .i64 x7)) w fun v1 w1 => asA v1 fun ad1 => ldK Try.prog w1 ad1 fun v2 => asI .u64 v2 fun n1 => ifB ((Int.tmod n1 2 : Int) == 1) (CallV Try.prog 30 #[(.pointer x5), (.int .u64 n1)] w1 fun v3 w2 => asB v3 fun b1 => ifB (!(b1 == (decide ((n1 : Int) ≤ x6)))) (R (.bool false) w2) (ifB b1 (J6_3 R (L6_2 R k) x1p x1l x1c x5 (IntKind.wrap .u64 (x6 - n1)) x7 w2) (J6_3 R (L6_2 R k) x1p x1l x1c x5 x6 x7 w2))) (CallV Try.prog 31 #[(.pointer x5), (.int .u64 n1)] w1 fun v4 w3 => asB v4 fun b2 => ifB (!(b2 == (decide ((IntKind.wrap .u64 (x6 + n1) : Int) ≥ x6)))) (R (.bool false) w3) (ifB b2 (J6_3 R (L6_2 R k) x1p x1l x1c x5 (IntKind.wrap .u64 (x6 + n1)) x7 w3) (J6_3 R (L6_2 R k) x1p x1l x1c x5 x6 x7 w3)))) (J6_1 R x5 x6 w)
def J6_0 (R : Value → World → Prop) (x0 : Int) (x1p : Option Addr) (x1l : Nat) (x1c : Nat) (x5 : Option Addr) (w : World) : Prop :=
  ∃ m, L6_2 R m x1p x1l x1c x5 x0 0 w
def F6 (a0 : Int) (a1p : Option Addr) (a1l : Nat) (a1c : Nat) (w : World) (R : Value → World → Prop) : Prop :=
  CallV Try.prog 29 #[(.int .u64 a0)] w fun v1 w1 => asP v1 fun p1 => ifB (Option.isNone p1) (R (.bool (!(Option.isNone p1))) w1) (ifB (decide (((a1l : Nat) : Int) > 1048576)) (R (.bool (!(Option.isNone p1))) w1) (J6_0 R a0 a1p a1l a1c p1 w1))
def A6 (R : Value → World → Prop) : Ann := (.seq .no (.seq .no (.join (fun e ds w => nilD ds (asI .u64 (e 0) fun x0 => asL (e 1) fun x1p x1l x1c => asP (e 5) fun x5 => J6_0 R x0 x1p x1l x1c x5 w)) .no (.seq .no (.join (fun e ds w => nilD ds (asP (e 5) fun x5 => asI .u64 (e 6) fun x6 => J6_1 R x5 x6 w)) (.seq .no (.block (.loop (fun m e ds w => nilD ds (asL (e 1) fun x1p x1l x1c => asP (e 5) fun x5 => asI .u64 (e 6) fun x6 => asI .i64 (e 7) fun x7 => L6_2 R m x1p x1l x1c x5 x6 x7 w)) (fun kL6_2 => (.seq .no (.seq (.block (.seq .no (.join (fun e ds w => nilD ds (asL (e 1) fun x1p x1l x1c => asP (e 5) fun x5 => asI .u64 (e 6) fun x6 => asI .i64 (e 7) fun x7 => J6_3 R (L6_2 R kL6_2) x1p x1l x1c x5 x6 x7 w)) .no .no))) .no)))))) .no)))))
theorem sides6 (R : Value → World → Prop) : fnSides Try.prog Try.f6 (A6 R) R := by
  refine And.intro ?_ ?_
  ·
    exact trivial
  ·
    refine And.intro ?_ ?_
    ·
      exact trivial
    ·
      refine And.intro ?_ (And.intro ?_ ?_)
      ·
        intro e ds w h
        obtain ⟨rfl, h⟩ := nilD_elim h
        obtain ⟨x0, z0, h⟩ := asI_elim h
        obtain ⟨x1p, x1l, x1c, z1, h⟩ := asL_elim h
        obtain ⟨x5, z5, h⟩ := asP_elim h
        have he : (put (put (put e (some 0) (.int .u64 x0)) (some 1) (.slice x1p x1l x1c)) (some 5) (.pointer x5)) = e := by rw [put_id z0, put_id z1, put_id z5]
        rw [← he]
        clear he
        exact Eq.mp (by kernel_rfl) h
      ·
        exact trivial
      ·
        refine And.intro ?_ ?_
        ·
          exact trivial
        ·
          refine And.intro ?_ (And.intro ?_ ?_)
          ·
            intro e ds w h
            obtain ⟨rfl, h⟩ := nilD_elim h
            obtain ⟨x5, z5, h⟩ := asP_elim h
            obtain ⟨x6, z6, h⟩ := asI_elim h
            have he : (put (put e (some 5) (.pointer x5)) (some 6) (.int .u64 x6)) = e := by rw [put_id z5, put_id z6]
            rw [← he]
            clear he
            exact Eq.mp (by kernel_rfl) h
          ·
            refine And.intro ?_ ?_
            ·
              exact trivial
            ·
              refine And.intro ?_ (And.intro ?_ ?_)
              ·
                intro e ds w h
                obtain ⟨rfl, h⟩ := nilD_elim h
                obtain ⟨x1p, x1l, x1c, z1, h⟩ := asL_elim h
                obtain ⟨x5, z5, h⟩ := asP_elim h
                obtain ⟨x6, z6, h⟩ := asI_elim h
                obtain ⟨x7, z7, h⟩ := asI_elim h
                exact h
              ·
                intro kL6_2 e ds w h
                obtain ⟨rfl, h⟩ := nilD_elim h
                obtain ⟨x1p, x1l, x1c, z1, h⟩ := asL_elim h
                obtain ⟨x5, z5, h⟩ := asP_elim h
                obtain ⟨x6, z6, h⟩ := asI_elim h
                obtain ⟨x7, z7, h⟩ := asI_elim h
                have he : (put (put (put (put e (some 1) (.slice x1p x1l x1c)) (some 5) (.pointer x5)) (some 6) (.int .u64 x6)) (some 7) (.int .i64 x7)) = e := by rw [put_id z1, put_id z5, put_id z6, put_id z7]
                rw [← he]
                clear he
                exact Eq.mp (by kernel_rfl) h
              ·
                intro kL6_2
                refine And.intro ?_ ?_
                ·
                  exact trivial
                ·
                  refine And.intro ?_ ?_
                  ·
                    refine And.intro ?_ ?_
                    ·
                      exact trivial
                    ·
                      refine And.intro ?_ (And.intro ?_ ?_)
                      ·
                        intro e ds w h
                        obtain ⟨rfl, h⟩ := nilD_elim h
                        obtain ⟨x1p, x1l, x1c, z1, h⟩ := asL_elim h
                        obtain ⟨x5, z5, h⟩ := asP_elim h
                        obtain ⟨x6, z6, h⟩ := asI_elim h
                        obtain ⟨x7, z7, h⟩ := asI_elim h
                        have he : (put (put (put (put e (some 1) (.slice x1p x1l x1c)) (some 5) (.pointer x5)) (some 6) (.int .u64 x6)) (some 7) (.int .i64 x7)) = e := by rw [put_id z1, put_id z5, put_id z6, put_id z7]
                        rw [← he]
                        clear he
                        exact Eq.mp (by kernel_rfl) h
                      ·
                        exact trivial
                      ·
                        exact trivial
                  ·
                    exact trivial
          ·
            exact trivial
theorem call6 (a0 : Int) (a1p : Option Addr) (a1l : Nat) (a1c : Nat) (w : World) (R : Value → World → Prop) (h : F6 a0 a1p a1l a1c w R) : CallV Try.prog 6 #[(.int .u64 a0), (.slice a1p a1l a1c)] w R :=
  callV_of (fn := Try.f6) (an := A6 R) (args := [(.int .u64 a0), (.slice a1p a1l a1c)]) Try.func6 rfl (sides6 R) (Eq.mp (by kernel_rfl) h)

/-! 7 vouch/vouchlaw10.GasBounds -/
def J7_9 (R : Value → World → Prop) (x3 : Int) (x4 : Int) (w : World) : Prop :=
  CallV Try.prog 22 #[(.int .i64 x3)] w fun v1 w1 => asI .u64 v1 fun n1 => CallV Try.prog 22 #[(.int .i64 x4)] w1 fun v2 w2 => asI .u64 v2 fun n2 => ifB (decide ((n2 : Int) ≥ n1)) (R (.bool (decide ((IntKind.wrap .u64 (n2 - n1) : Int) ≥ (IntKind.wrap .u64 (IntKind.wrap .i64 (3 * (IntKind.wrap .i64 (x4 - x3)))))))) w2) (R (.bool false) w2)
def J7_8 (R : Value → World → Prop) (x3 : Int) (x4 : Int) (w : World) : Prop :=
  ifB (decide ((x3 : Int) < 0)) (R (.bool true) w) (ifB (decide ((x4 : Int) < x3)) (R (.bool true) w) (ifB (decide ((x4 : Int) > 2147483648)) (R (.bool true) w) (J7_9 R x3 x4 w)))
def J7_6 (R : Value → World → Prop) (x0 : Int) (x1 : Int) (x2 : Int) (x3 : Int) (x4 : Int) (x17 : Int) (w : World) : Prop :=
  ifB (decide ((x2 : Int) ≥ 0)) (ifB (decide ((IntKind.wrap .u64 x2 : Int) ≤ (IntKind.wrap .u64 (Int.tdiv (IntKind.wrap .u64 (x1 - x0)) 5)))) (ifB ((x17 : Int) != (IntKind.wrap .u64 x2)) (R (.bool false) w) (J7_8 R x3 x4 w)) (J7_8 R x3 x4 w)) (J7_8 R x3 x4 w)
def J7_7 (R : Value → World → Prop) (x0 : Int) (x1 : Int) (x2 : Int) (x3 : Int) (x4 : Int) (x17 : Int) (x154 : Bool) (w : World) : Prop :=
  ifB x154 (R (.bool false) w) (J7_6 R x0 x1 x2 x3 x4 x17 w)
def J7_5 (R : Value → World → Prop) (x0 : Int) (x1 : Int) (x2 : Int) (x3 : Int) (x4 : Int) (w : World) : Prop :=
  CallV Try.prog 11 #[(.int .u64 x1), (.int .u64 x0), (.int .i64 x2)] w fun v1 w1 => asI .u64 v1 fun n1 => CallV Try.prog 11 #[(.int .u64 x0), (.int .u64 x1), (.int .i64 x2)] w1 fun v2 w2 => asI .u64 v2 fun n2 => ifB (decide ((n1 : Int) > (IntKind.wrap .u64 (Int.tdiv (IntKind.wrap .u64 (x1 - x0)) 5)))) (J7_7 R x0 x1 x2 x3 x4 n1 true w2) (ifB (decide ((x2 : Int) < 0)) (ifB ((n1 : Int) != 0) (J7_7 R x0 x1 x2 x3 x4 n1 true w2) (ifB (decide ((x2 : Int) ≥ 0)) (ifB (decide ((n1 : Int) > (IntKind.wrap .u64 x2))) (J7_7 R x0 x1 x2 x3 x4 n1 true w2) (ifB (decide ((x0 : Int) < x1)) (J7_7 R x0 x1 x2 x3 x4 n1 ((n2 : Int) != 0) w2) (J7_7 R x0 x1 x2 x3 x4 n1 false w2))) (ifB (decide ((x0 : Int) < x1)) (J7_7 R x0 x1 x2 x3 x4 n1 ((n2 : Int) != 0) w2) (J7_7 R x0 x1 x2 x3 x4 n1 false w2)))) (ifB (decide ((x2 : Int) ≥ 0)) (ifB (decide ((n1 : Int) > (IntKind.wrap .u64 x2))) (J7_7 R x0 x1 x2 x3 x4 n1 true w2) (ifB (decide ((x0 : Int) < x1)) (J7_7 R x0 x1 x2 x3 x4 n1 ((n2 : Int) != 0) w2) (J7_7 R x0 x1 x2 x3 x4 n1 false w2))) (ifB (decide ((x0 : Int) < x1)) (J7_7 R x0 x1 x2 x3 x4 n1 ((n2 : Int) != 0) w2) (J7_7 R x0 x1 x2 x3 x4 n1 false w2))))
def J7_4 (R : Value → World → Prop) (x0 : Int) (x1 : Int) (x2 : Int) (x3 : Int) (x4 : Int) (w : World) : Prop :=
  CallV Try.prog 15 #[(.int .u64 x0)] w fun v1 w1 => asI .u64 v1 fun n1 => CallV Try.prog 15 #[(.int .u64 x1)] w1 fun v2 w2 => asI .u64 v2 fun n2 => ifB (decide ((n1 : Int) > n2)) (R (.bool false) w2) (ifB (decide ((n2 : Int) > x1)) (R (.bool false) w2) (ifB ((IntKind.wrap .u64 (x1 - n2) : Int) != (IntKind.wrap .u64 (Int.tdiv x1 64))) (R (.bool false) w2) (J7_5 R x0 x1 x2 x3 x4 w2)))
def J7_2 (R : Value → World → Prop) (x0 : Int) (x1 : Int) (x2 : Int) (x3 : Int) (x4 : Int) (x13 : Int) (x14 : Bool) (w : World) : Prop :=
  ifB (!x14) (ifB ((x13 : Int) != 0) (R (.bool false) w) (ifB (decide ((x1 : Int) ≥ 7300)) (R (.bool false) w) (J7_4 R x0 x1 x2 x3 x4 w))) (J7_4 R x0 x1 x2 x3 x4 w)
def J7_3 (R : Value → World → Prop) (x0 : Int) (x1 : Int) (x2 : Int) (x3 : Int) (x4 : Int) (x13 : Int) (x14 : Bool) (x83 : Bool) (w : World) : Prop :=
  ifB x83 (R (.bool false) w) (J7_2 R x0 x1 x2 x3 x4 x13 x14 w)
def J7_1 (R : Value → World → Prop) (x0 : Int) (x1 : Int) (x2 : Int) (x3 : Int) (x4 : Int) (x13 : Int) (x14 : Bool) (w : World) : Prop :=
  ifB x14 (ifB (decide ((x13 : Int) < 2300)) (J7_3 R x0 x1 x2 x3 x4 x13 x14 true w) (ifB (decide ((x1 : Int) < x13)) (J7_3 R x0 x1 x2 x3 x4 x13 x14 true w) (ifB (decide ((IntKind.wrap .u64 (x1 - x13) : Int) < 5000)) (J7_3 R x0 x1 x2 x3 x4 x13 x14 true w) (ifB (decide ((IntKind.wrap .u64 (x1 - x13) : Int) < (IntKind.wrap .u64 (Int.tdiv x1 64)))) (J7_3 R x0 x1 x2 x3 x4 x13 x14 true w) (ifB (decide ((IntKind.wrap .u64 (x1 - x13) : Int) > 5000)) (J7_3 R x0 x1 x2 x3 x4 x13 x14 (decide ((IntKind.wrap .u64 (x1 - x13) : Int) > (IntKind.wrap .u64 (Int.tdiv x1 64)))) w) (J7_3 R x0 x1 x2 x3 x4 x13 x14 false w)))))) (J7_3 R x0 x1 x2 x3 x4 x13 x14 false w)
def J7_0 (R : Value → World → Prop) (x0 : Int) (x1 : Int) (x2 : Int) (x3 : Int) (x4 : Int) (w : World) : Prop :=
  CallV Try.prog 13 #[(.int .u64 x0)] w fun v1 w1 => asT v1 fun t1_0 => asHd t1_0 fun t1_0x t1_1 => asI .u64 t1_0x fun n1 => asHd t1_1 fun t1_1x t1_2 => asB t1_1x fun b1 => asEnd t1_2 (CallV Try.prog 13 #[(.int .u64 x1)] w1 fun v2 w2 => asT v2 fun t2_0 => asHd t2_0 fun t2_0x t2_1 => asI .u64 t2_0x fun n2 => asHd t2_1 fun t2_1x t2_2 => asB t2_1x fun b2 => asEnd t2_2 (ifB (decide ((n1 : Int) > n2)) (R (.bool false) w2) (ifB b1 (ifB (!b2) (R (.bool false) w2) (J7_1 R x0 x1 x2 x3 x4 n2 b2 w2)) (J7_1 R x0 x1 x2 x3 x4 n2 b2 w2))))
def F7 (a0 : Int) (a1 : Int) (a2 : Int) (a3 : Int) (a4 : Int) (w : World) (R : Value → World → Prop) : Prop :=
  ifB (decide ((a0 : Int) > a1)) (J7_0 R a1 a0 a2 a3 a4 w) (J7_0 R a0 a1 a2 a3 a4 w)
def A7 (R : Value → World → Prop) : Ann := (.seq .no (.join (fun e ds w => nilD ds (asI .u64 (e 0) fun x0 => asI .u64 (e 1) fun x1 => asI .i64 (e 2) fun x2 => asI .i64 (e 3) fun x3 => asI .i64 (e 4) fun x4 => J7_0 R x0 x1 x2 x3 x4 w)) .no (.seq .no (.seq .no (.join (fun e ds w => nilD ds (asI .u64 (e 0) fun x0 => asI .u64 (e 1) fun x1 => asI .i64 (e 2) fun x2 => asI .i64 (e 3) fun x3 => asI .i64 (e 4) fun x4 => asI .u64 (e 13) fun x13 => asB (e 14) fun x14 => J7_1 R x0 x1 x2 x3 x4 x13 x14 w)) .no (.join (fun e ds w => nilD ds (asI .u64 (e 0) fun x0 => asI .u64 (e 1) fun x1 => asI .i64 (e 2) fun x2 => asI .i64 (e 3) fun x3 => asI .i64 (e 4) fun x4 => asI .u64 (e 13) fun x13 => asB (e 14) fun x14 => J7_2 R x0 x1 x2 x3 x4 x13 x14 w)) (.join (fun e ds w => nilD ds (asI .u64 (e 0) fun x0 => asI .u64 (e 1) fun x1 => asI .i64 (e 2) fun x2 => asI .i64 (e 3) fun x3 => asI .i64 (e 4) fun x4 => asI .u64 (e 13) fun x13 => asB (e 14) fun x14 => asB (e 83) fun x83 => J7_3 R x0 x1 x2 x3 x4 x13 x14 x83 w)) .no .no) (.join (fun e ds w => nilD ds (asI .u64 (e 0) fun x0 => asI .u64 (e 1) fun x1 => asI .i64 (e 2) fun x2 => asI .i64 (e 3) fun x3 => asI .i64 (e 4) fun x4 => J7_4 R x0 x1 x2 x3 x4 w)) .no (.seq .no (.seq .no (.join (fun e ds w => nilD ds (asI .u64 (e 0) fun x0 => asI .u64 (e 1) fun x1 => asI .i64 (e 2) fun x2 => asI .i64 (e 3) fun x3 => asI .i64 (e 4) fun x4 => J7_5 R x0 x1 x2 x3 x4 w)) .no (.seq .no (.seq .no (.join (fun e ds w => nilD ds (asI .u64 (e 0) fun x0 => asI .u64 (e 1) fun x1 => asI .i64 (e 2) fun x2 => asI .i64 (e 3) fun x3 => asI .i64 (e 4) fun x4 => asI .u64 (e 17) fun x17 => J7_6 R x0 x1 x2 x3 x4 x17 w)) (.join (fun e ds w => nilD ds (asI .u64 (e 0) fun x0 => asI .u64 (e 1) fun x1 => asI .i64 (e 2) fun x2 => asI .i64 (e 3) fun x3 => asI .i64 (e 4) fun x4 => asI .u64 (e 17) fun x17 => asB (e 154) fun x154 => J7_7 R x0 x1 x2 x3 x4 x17 x154 w)) .no .no) (.join (fun e ds w => nilD ds (asI .i64 (e 3) fun x3 => asI .i64 (e 4) fun x4 => J7_8 R x3 x4 w)) .no (.join (fun e ds w => nilD ds (asI .i64 (e 3) fun x3 => asI .i64 (e 4) fun x4 => J7_9 R x3 x4 w)) .no .no)))))))))))))))
theorem sides7 (R : Value → World → Prop) : fnSides Try.prog Try.f7 (A7 R) R := by
  refine And.intro ?_ ?_
  ·
    exact trivial
  ·
    refine And.intro ?_ (And.intro ?_ ?_)
    ·
      intro e ds w h
      obtain ⟨rfl, h⟩ := nilD_elim h
      obtain ⟨x0, z0, h⟩ := asI_elim h
      obtain ⟨x1, z1, h⟩ := asI_elim h
      obtain ⟨x2, z2, h⟩ := asI_elim h
      obtain ⟨x3, z3, h⟩ := asI_elim h
      obtain ⟨x4, z4, h⟩ := asI_elim h
      have he : (put (put (put (put (put e (some 0) (.int .u64 x0)) (some 1) (.int .u64 x1)) (some 2) (.int .i64 x2)) (some 3) (.int .i64 x3)) (some 4) (.int .i64 x4)) = e := by rw [put_id z0, put_id z1, put_id z2, put_id z3, put_id z4]
      rw [← he]
      clear he
      exact Eq.mp (by kernel_rfl) h
    ·
      exact trivial
    ·
      refine And.intro ?_ ?_
      ·
        exact trivial
      ·
        refine And.intro ?_ ?_
        ·
          exact trivial
        ·
          refine And.intro ?_ (And.intro ?_ ?_)
          ·
            intro e ds w h
            obtain ⟨rfl, h⟩ := nilD_elim h
            obtain ⟨x0, z0, h⟩ := asI_elim h
            obtain ⟨x1, z1, h⟩ := asI_elim h
            obtain ⟨x2, z2, h⟩ := asI_elim h
            obtain ⟨x3, z3, h⟩ := asI_elim h
            obtain ⟨x4, z4, h⟩ := asI_elim h
            obtain ⟨x13, z13, h⟩ := asI_elim h
            obtain ⟨x14, z14, h⟩ := asB_elim h
            have he : (put (put (put (put (put (put (put e (some 0) (.int .u64 x0)) (some 1) (.int .u64 x1)) (some 2) (.int .i64 x2)) (some 3) (.int .i64 x3)) (some 4) (.int .i64 x4)) (some 13) (.int .u64 x13)) (some 14) (.bool x14)) = e := by rw [put_id z0, put_id z1, put_id z2, put_id z3, put_id z4, put_id z13, put_id z14]
            rw [← he]
            clear he
            exact Eq.mp (by kernel_rfl) h
          ·
            exact trivial
          ·
            refine And.intro ?_ (And.intro ?_ ?_)
            ·
              intro e ds w h
              obtain ⟨rfl, h⟩ := nilD_elim h
              obtain ⟨x0, z0, h⟩ := asI_elim h
              obtain ⟨x1, z1, h⟩ := asI_elim h
              obtain ⟨x2, z2, h⟩ := asI_elim h
              obtain ⟨x3, z3, h⟩ := asI_elim h
              obtain ⟨x4, z4, h⟩ := asI_elim h
              obtain ⟨x13, z13, h⟩ := asI_elim h
              obtain ⟨x14, z14, h⟩ := asB_elim h
              have he : (put (put (put (put (put (put (put e (some 0) (.int .u64 x0)) (some 1) (.int .u64 x1)) (some 2) (.int .i64 x2)) (some 3) (.int .i64 x3)) (some 4) (.int .i64 x4)) (some 13) (.int .u64 x13)) (some 14) (.bool x14)) = e := by rw [put_id z0, put_id z1, put_id z2, put_id z3, put_id z4, put_id z13, put_id z14]
              rw [← he]
              clear he
              exact Eq.mp (by kernel_rfl) h
            ·
              refine And.intro ?_ (And.intro ?_ ?_)
              ·
                intro e ds w h
                obtain ⟨rfl, h⟩ := nilD_elim h
                obtain ⟨x0, z0, h⟩ := asI_elim h
                obtain ⟨x1, z1, h⟩ := asI_elim h
                obtain ⟨x2, z2, h⟩ := asI_elim h
                obtain ⟨x3, z3, h⟩ := asI_elim h
                obtain ⟨x4, z4, h⟩ := asI_elim h
                obtain ⟨x13, z13, h⟩ := asI_elim h
                obtain ⟨x14, z14, h⟩ := asB_elim h
                obtain ⟨x83, z83, h⟩ := asB_elim h
                have he : (put (put (put (put (put (put (put (put e (some 0) (.int .u64 x0)) (some 1) (.int .u64 x1)) (some 2) (.int .i64 x2)) (some 3) (.int .i64 x3)) (some 4) (.int .i64 x4)) (some 13) (.int .u64 x13)) (some 14) (.bool x14)) (some 83) (.bool x83)) = e := by rw [put_id z0, put_id z1, put_id z2, put_id z3, put_id z4, put_id z13, put_id z14, put_id z83]
                rw [← he]
                clear he
                exact Eq.mp (by kernel_rfl) h
              ·
                exact trivial
              ·
                exact trivial
            ·
              refine And.intro ?_ (And.intro ?_ ?_)
              ·
                intro e ds w h
                obtain ⟨rfl, h⟩ := nilD_elim h
                obtain ⟨x0, z0, h⟩ := asI_elim h
                obtain ⟨x1, z1, h⟩ := asI_elim h
                obtain ⟨x2, z2, h⟩ := asI_elim h
                obtain ⟨x3, z3, h⟩ := asI_elim h
                obtain ⟨x4, z4, h⟩ := asI_elim h
                have he : (put (put (put (put (put e (some 0) (.int .u64 x0)) (some 1) (.int .u64 x1)) (some 2) (.int .i64 x2)) (some 3) (.int .i64 x3)) (some 4) (.int .i64 x4)) = e := by rw [put_id z0, put_id z1, put_id z2, put_id z3, put_id z4]
                rw [← he]
                clear he
                exact Eq.mp (by kernel_rfl) h
              ·
                exact trivial
              ·
                refine And.intro ?_ ?_
                ·
                  exact trivial
                ·
                  refine And.intro ?_ ?_
                  ·
                    exact trivial
                  ·
                    refine And.intro ?_ (And.intro ?_ ?_)
                    ·
                      intro e ds w h
                      obtain ⟨rfl, h⟩ := nilD_elim h
                      obtain ⟨x0, z0, h⟩ := asI_elim h
                      obtain ⟨x1, z1, h⟩ := asI_elim h
                      obtain ⟨x2, z2, h⟩ := asI_elim h
                      obtain ⟨x3, z3, h⟩ := asI_elim h
                      obtain ⟨x4, z4, h⟩ := asI_elim h
                      have he : (put (put (put (put (put e (some 0) (.int .u64 x0)) (some 1) (.int .u64 x1)) (some 2) (.int .i64 x2)) (some 3) (.int .i64 x3)) (some 4) (.int .i64 x4)) = e := by rw [put_id z0, put_id z1, put_id z2, put_id z3, put_id z4]
                      rw [← he]
                      clear he
                      exact Eq.mp (by kernel_rfl) h
                    ·
                      exact trivial
                    ·
                      refine And.intro ?_ ?_
                      ·
                        exact trivial
                      ·
                        refine And.intro ?_ ?_
                        ·
                          exact trivial
                        ·
                          refine And.intro ?_ (And.intro ?_ ?_)
                          ·
                            intro e ds w h
                            obtain ⟨rfl, h⟩ := nilD_elim h
                            obtain ⟨x0, z0, h⟩ := asI_elim h
                            obtain ⟨x1, z1, h⟩ := asI_elim h
                            obtain ⟨x2, z2, h⟩ := asI_elim h
                            obtain ⟨x3, z3, h⟩ := asI_elim h
                            obtain ⟨x4, z4, h⟩ := asI_elim h
                            obtain ⟨x17, z17, h⟩ := asI_elim h
                            have he : (put (put (put (put (put (put e (some 0) (.int .u64 x0)) (some 1) (.int .u64 x1)) (some 2) (.int .i64 x2)) (some 3) (.int .i64 x3)) (some 4) (.int .i64 x4)) (some 17) (.int .u64 x17)) = e := by rw [put_id z0, put_id z1, put_id z2, put_id z3, put_id z4, put_id z17]
                            rw [← he]
                            clear he
                            exact Eq.mp (by kernel_rfl) h
                          ·
                            refine And.intro ?_ (And.intro ?_ ?_)
                            ·
                              intro e ds w h
                              obtain ⟨rfl, h⟩ := nilD_elim h
                              obtain ⟨x0, z0, h⟩ := asI_elim h
                              obtain ⟨x1, z1, h⟩ := asI_elim h
                              obtain ⟨x2, z2, h⟩ := asI_elim h
                              obtain ⟨x3, z3, h⟩ := asI_elim h
                              obtain ⟨x4, z4, h⟩ := asI_elim h
                              obtain ⟨x17, z17, h⟩ := asI_elim h
                              obtain ⟨x154, z154, h⟩ := asB_elim h
                              have he : (put (put (put (put (put (put (put e (some 0) (.int .u64 x0)) (some 1) (.int .u64 x1)) (some 2) (.int .i64 x2)) (some 3) (.int .i64 x3)) (some 4) (.int .i64 x4)) (some 17) (.int .u64 x17)) (some 154) (.bool x154)) = e := by rw [put_id z0, put_id z1, put_id z2, put_id z3, put_id z4, put_id z17, put_id z154]
                              rw [← he]
                              clear he
                              exact Eq.mp (by kernel_rfl) h
                            ·
                              exact trivial
                            ·
                              exact trivial
                          ·
                            refine And.intro ?_ (And.intro ?_ ?_)
                            ·
                              intro e ds w h
                              obtain ⟨rfl, h⟩ := nilD_elim h
                              obtain ⟨x3, z3, h⟩ := asI_elim h
                              obtain ⟨x4, z4, h⟩ := asI_elim h
                              have he : (put (put e (some 3) (.int .i64 x3)) (some 4) (.int .i64 x4)) = e := by rw [put_id z3, put_id z4]
                              rw [← he]
                              clear he
                              exact Eq.mp (by kernel_rfl) h
                            ·
                              exact trivial
                            ·
                              refine And.intro ?_ (And.intro ?_ ?_)
                              ·
                                intro e ds w h
                                obtain ⟨rfl, h⟩ := nilD_elim h
                                obtain ⟨x3, z3, h⟩ := asI_elim h
                                obtain ⟨x4, z4, h⟩ := asI_elim h
                                have he : (put (put e (some 3) (.int .i64 x3)) (some 4) (.int .i64 x4)) = e := by rw [put_id z3, put_id z4]
                                rw [← he]
                                clear he
                                exact Eq.mp (by kernel_rfl) h
                              ·
                                exact trivial
                              ·
                                exact trivial
theorem call7 (a0 : Int) (a1 : Int) (a2 : Int) (a3 : Int) (a4 : Int) (w : World) (R : Value → World → Prop) (h : F7 a0 a1 a2 a3 a4 w R) : CallV Try.prog 7 #[(.int .u64 a0), (.int .u64 a1), (.int .i64 a2), (.int .i64 a3), (.int .i64 a4)] w R :=
  callV_of (fn := Try.f7) (an := A7 R) (args := [(.int .u64 a0), (.int .u64 a1), (.int .i64 a2), (.int .i64 a3), (.int .i64 a4)]) Try.func7 rfl (sides7 R) (Eq.mp (by kernel_rfl) h)

/-! 8 vouch/vouchlaw10.GasExps -/
def F8 (a0_0 : Int) (a0_1 : Int) (a0_2 : Int) (a0_3 : Int) (w : World) (R : Value → World → Prop) : Prop :=
  allocK w (.cells #[(.int .u64 a0_0), (.int .u64 a0_1), (.int .u64 a0_2), (.int .u64 a0_3)] 39) fun w1 => ldK Try.prog w1 ⟨w.heap.size, 0, none⟩ fun v1 => asI .u64 v1 fun n1 => ldK Try.prog w1 ⟨w.heap.size, 1, none⟩ fun v2 => asI .u64 v2 fun n2 => ldK Try.prog w1 ⟨w.heap.size, 2, none⟩ fun v3 => asI .u64 v3 fun n3 => ldK Try.prog w1 ⟨w.heap.size, 3, none⟩ fun v4 => asI .u64 v4 fun n4 => CallV Try.prog 33 #[(.agg #[(.int .u64 n1), (.int .u64 n2), (.int .u64 n3), (.int .u64 n4)])] w1 fun v5 w2 => asI .u64 v5 fun n5 => CallV Try.prog 33 #[(.agg #[(.int .u64 256), (.int .u64 0), (.int .u64 0), (.int .u64 0)])] w2 fun v6 w3 => asI .u64 v6 fun n6 => ldK Try.prog w3 ⟨w.heap.size, 0, none⟩ fun v7 => asI .u64 v7 fun n7 => ldK Try.prog w3 ⟨w.heap.size, 1, none⟩ fun v8 => asI .u64 v8 fun n8 => ldK Try.prog w3 ⟨w.heap.size, 2, none⟩ fun v9 => asI .u64 v9 fun n9 => ldK Try.prog w3 ⟨w.heap.size, 3, none⟩ fun v10 => asI .u64 v10 fun n10 => CallV Try.prog 34 #[(.agg #[(.int .u64 n7), (.int .u64 n8), (.int .u64 n9), (.int .u64 n10)])] w3 fun v11 w4 => asI .u64 v11 fun n11 => ifB ((n5 : Int) == n11) (R (.bool ((n6 : Int) == 100)) w4) (R (.bool false) w4)
def A8 (R : Value → World → Prop) : Ann := .no
theorem sides8 (R : Value → World → Prop) : fnSides Try.prog Try.f8 (A8 R) R := by
  trivial
theorem call8 (a0_0 : Int) (a0_1 : Int) (a0_2 : Int) (a0_3 : Int) (w : World) (R : Value → World → Prop) (h : F8 a0_0 a0_1 a0_2 a0_3 w R) : CallV Try.prog 8 #[(.agg #[(.int .u64 a0_0), (.int .u64 a0_1), (.int .u64 a0_2), (.int .u64 a0_3)])] w R :=
  callV_of (fn := Try.f8) (an := A8 R) (args := [(.agg #[(.int .u64 a0_0), (.int .u64 a0_1), (.int .u64 a0_2), (.int .u64 a0_3)])]) Try.func8 rfl (sides8 R) (Eq.mp (by kernel_rfl) h)

/-! 9 vouch/vouchlaw10.GasStores -/
def F9 (a0_0 : Int) (a0_1 : Int) (a0_2 : Int) (a0_3 : Int) (a1_0 : Int) (a1_1 : Int) (a1_2 : Int) (a1_3 : Int) (a2_0 : Int) (a2_1 : Int) (a2_2 : Int) (a2_3 : Int) (w : World) (R : Value → World → Prop) : Prop :=
  allocK w (.cells #[(.int .u64 a0_0), (.int .u64 a0_1), (.int .u64 a0_2), (.int .u64 a0_3)] 39) fun w1 => allocK w1 (.cells #[(.int .u64 a1_0), (.int .u64 a1_1), (.int .u64 a1_2), (.int .u64 a1_3)] 39) fun w2 => allocK w2 (.cells #[(.int .u64 a2_0), (.int .u64 a2_1), (.int .u64 a2_2), (.int .u64 a2_3)] 39) fun w3 => ldK Try.prog w3 ⟨w.heap.size, 0, none⟩ fun v1 => asI .u64 v1 fun n1 => ldK Try.prog w3 ⟨w.heap.size, 1, none⟩ fun v2 => asI .u64 v2 fun n2 => ldK Try.prog w3 ⟨w.heap.size, 2, none⟩ fun v3 => asI .u64 v3 fun n3 => ldK Try.prog w3 ⟨w.heap.size, 3, none⟩ fun v4 => asI .u64 v4 fun n4 => ldK Try.prog w3 ⟨w1.heap.size, 0, none⟩ fun v5 => asI .u64 v5 fun n5 => ldK Try.prog w3 ⟨w1.heap.size, 1, none⟩ fun v6 => asI .u64 v6 fun n6 => ldK Try.prog w3 ⟨w1.heap.size, 2, none⟩ fun v7 => asI .u64 v7 fun n7 => ldK Try.prog w3 ⟨w1.heap.size, 3, none⟩ fun v8 => asI .u64 v8 fun n8 => ldK Try.prog w3 ⟨w2.heap.size, 0, none⟩ fun v9 => asI .u64 v9 fun n9 => ldK Try.prog w3 ⟨w2.heap.size, 1, none⟩ fun v10 => asI .u64 v10 fun n10 => ldK Try.prog w3 ⟨w2.heap.size, 2, none⟩ fun v11 => asI .u64 v11 fun n11 => ldK Try.prog w3 ⟨w2.heap.size, 3, none⟩ fun v12 => asI .u64 v12 fun n12 => CallV Try.prog 35 #[(.agg #[(.int .u64 n1), (.int .u64 n2), (.int .u64 n3), (.int .u64 n4)]), (.agg #[(.int .u64 n5), (.int .u64 n6), (.int .u64 n7), (.int .u64 n8)]), (.agg #[(.int .u64 n9), (.int .u64 n10), (.int .u64 n11), (.int .u64 n12)])] w3 fun v13 w4 => asT v13 fun t1_0 => asHd t1_0 fun t1_0x t1_1 => asI .u64 t1_0x fun n13 => asHd t1_1 fun t1_1x t1_2 => asI .i64 t1_1x fun n14 => asEnd t1_2 (ldK Try.prog w4 ⟨w.heap.size, 0, none⟩ fun v14 => asI .u64 v14 fun n15 => ldK Try.prog w4 ⟨w.heap.size, 1, none⟩ fun v15 => asI .u64 v15 fun n16 => ldK Try.prog w4 ⟨w.heap.size, 2, none⟩ fun v16 => asI .u64 v16 fun n17 => ldK Try.prog w4 ⟨w.heap.size, 3, none⟩ fun v17 => asI .u64 v17 fun n18 => ldK Try.prog w4 ⟨w1.heap.size, 0, none⟩ fun v18 => asI .u64 v18 fun n19 => ldK Try.prog w4 ⟨w1.heap.size, 1, none⟩ fun v19 => asI .u64 v19 fun n20 => ldK Try.prog w4 ⟨w1.heap.size, 2, none⟩ fun v20 => asI .u64 v20 fun n21 => ldK Try.prog w4 ⟨w1.heap.size, 3, none⟩ fun v21 => asI .u64 v21 fun n22 => ldK Try.prog w4 ⟨w2.heap.size, 0, none⟩ fun v22 => asI .u64 v22 fun n23 => ldK Try.prog w4 ⟨w2.heap.size, 1, none⟩ fun v23 => asI .u64 v23 fun n24 => ldK Try.prog w4 ⟨w2.heap.size, 2, none⟩ fun v24 => asI .u64 v24 fun n25 => ldK Try.prog w4 ⟨w2.heap.size, 3, none⟩ fun v25 => asI .u64 v25 fun n26 => CallV Try.prog 36 #[(.agg #[(.int .u64 n15), (.int .u64 n16), (.int .u64 n17), (.int .u64 n18)]), (.agg #[(.int .u64 n19), (.int .u64 n20), (.int .u64 n21), (.int .u64 n22)]), (.agg #[(.int .u64 n23), (.int .u64 n24), (.int .u64 n25), (.int .u64 n26)])] w4 fun v26 w5 => asT v26 fun t2_0 => asHd t2_0 fun t2_0x t2_1 => asI .u64 t2_0x fun n27 => asHd t2_1 fun t2_1x t2_2 => asI .i64 t2_1x fun n28 => asEnd t2_2 (CallV Try.prog 35 #[(.agg #[(.int .u64 0), (.int .u64 0), (.int .u64 0), (.int .u64 0)]), (.agg #[(.int .u64 0), (.int .u64 0), (.int .u64 0), (.int .u64 0)]), (.agg #[(.int .u64 1), (.int .u64 0), (.int .u64 0), (.int .u64 0)])] w5 fun v27 w6 => asT v27 fun t3_0 => asHd t3_0 fun t3_0x t3_1 => asI .u64 t3_0x fun n29 => asHd t3_1 fun t3_1x t3_2 => asI .i64 t3_1x fun n30 => asEnd t3_2 (ifB ((n13 : Int) == n27) (ifB ((n14 : Int) == n28) (ifB ((n29 : Int) == 19900) (R (.bool ((n30 : Int) == 0)) w6) (R (.bool false) w6)) (R (.bool false) w6)) (R (.bool false) w6))))
def A9 (R : Value → World → Prop) : Ann := .no
theorem sides9 (R : Value → World → Prop) : fnSides Try.prog Try.f9 (A9 R) R := by
  trivial
theorem call9 (a0_0 : Int) (a0_1 : Int) (a0_2 : Int) (a0_3 : Int) (a1_0 : Int) (a1_1 : Int) (a1_2 : Int) (a1_3 : Int) (a2_0 : Int) (a2_1 : Int) (a2_2 : Int) (a2_3 : Int) (w : World) (R : Value → World → Prop) (h : F9 a0_0 a0_1 a0_2 a0_3 a1_0 a1_1 a1_2 a1_3 a2_0 a2_1 a2_2 a2_3 w R) : CallV Try.prog 9 #[(.agg #[(.int .u64 a0_0), (.int .u64 a0_1), (.int .u64 a0_2), (.int .u64 a0_3)]), (.agg #[(.int .u64 a1_0), (.int .u64 a1_1), (.int .u64 a1_2), (.int .u64 a1_3)]), (.agg #[(.int .u64 a2_0), (.int .u64 a2_1), (.int .u64 a2_2), (.int .u64 a2_3)])] w R :=
  callV_of (fn := Try.f9) (an := A9 R) (args := [(.agg #[(.int .u64 a0_0), (.int .u64 a0_1), (.int .u64 a0_2), (.int .u64 a0_3)]), (.agg #[(.int .u64 a1_0), (.int .u64 a1_1), (.int .u64 a1_2), (.int .u64 a1_3)]), (.agg #[(.int .u64 a2_0), (.int .u64 a2_1), (.int .u64 a2_2), (.int .u64 a2_3)])]) Try.func9 rfl (sides9 R) (Eq.mp (by kernel_rfl) h)

/-! 10 vouch/vouchlaw10.GasRows -/
def J10_2 (R : Value → World → Prop) (C_L10_1 : Option Addr → Nat → Nat → Addr → Addr → Int → Int → Int → World → Prop) (x1p : Option Addr) (x1l : Nat) (x1c : Nat) (x2 : Addr) (x5 : Addr) (x6 : Int) (x7 : Int) (x8 : Int) (x11 : Int) (w : World) : Prop :=
  ifB ((IntKind.wrap .i64 (x6 - x7) : Int) != x11) (R (.bool false) w) (C_L10_1 x1p x1l x1c x2 x5 x6 x7 (IntKind.wrap .i64 (x8 + 1)) w)
def J10_0 (R : Value → World → Prop) (w : World) : Prop :=
  CallV Try.prog 35 #[(.agg #[(.int .u64 5), (.int .u64 0), (.int .u64 0), (.int .u64 0)]), (.agg #[(.int .u64 5), (.int .u64 0), (.int .u64 0), (.int .u64 0)]), (.agg #[(.int .u64 0), (.int .u64 0), (.int .u64 0), (.int .u64 0)])] w fun v1 w1 => asT v1 fun t1_0 => asHd t1_0 fun t1_0x t1_1 => asI .u64 t1_0x fun n1 => asHd t1_1 fun t1_1x t1_2 => asI .i64 t1_1x fun n2 => asEnd t1_2 (ifB ((n1 : Int) == 2800) (R (.bool ((n2 : Int) == 4800)) w1) (R (.bool false) w1))
def L10_1 (R : Value → World → Prop) : Nat → Option Addr → Nat → Nat → Addr → Addr → Int → Int → Int → World → Prop
  | 0 => fun _ _ _ _ _ _ _ _ _ => False
  | k + 1 => fun x1p x1l x1c x2 x5 x6 x7 x8 w => ifB (decide ((x8 : Int) < (x1l : Nat))) (drewK w fun w1 => ldK Try.prog w1 x2 fun v1 => asI .u64 v1 fun n1 => ldK Try.prog w1 (Addr.add x2 1) fun v2 => asI .u64 v2 fun n2 => ldK Try.prog w1 (Addr.add x2 2) fun v3 => asI .u64 v3 fun n3 => ldK Try.prog w1 (Addr.add x2 3) fun v4 => asI .u64 v4 fun n4 => ldK Try.prog w1 x5 fun v5 => asI .u64 v5 fun n5 => ldK Try.prog w1 (Addr.add x5 1) fun v6 => asI .u64 v6 fun n6 => ldK Try.prog w1 (Addr.add x5 2) fun v7 => asI .u64 v7 fun n7 => ldK Try.prog w1 (Addr.add x5 3) fun v8 => asI .u64 v8 fun n8 => semK Try.prog (Instr.indexAt 45 (.slice x1p x1l x1c) (.int .i64 x8)) w1 fun v9 w2 => asA v9 fun ad1 => ldK Try.prog w1 ad1 fun v10 => asI .u64 v10 fun n9 => ldK Try.prog w1 (Addr.add ad1 1) fun v11 => asI .u64 v11 fun n10 => ldK Try.prog w1 (Addr.add ad1 2) fun v12 => asI .u64 v12 fun n11 => ldK Try.prog w1 (Addr.add ad1 3) fun v13 => asI .u64 v13 fun n12 => CallV Try.prog 35 #[(.agg #[(.int .u64 n1), (.int .u64 n2), (.int .u64 n3), (.int .u64 n4)]), (.agg #[(.int .u64 n5), (.int .u64 n6), (.int .u64 n7), (.int .u64 n8)]), (.agg #[(.int .u64 n9), (.int .u64 n10), (.int .u64 n11), (.int .u64 n12)])] w1 fun v14 w3 => asT v14 fun t1_0 => asHd t1_0 fun t1_0x t1_1 => asI .u64 t1_0x fun n13 => asHd t1_1 fun t1_1x t1_2 => asI .i64 t1_1x fun n14 => asEnd t1_2 (ifB (decide ((n13 : Int) > 19900)) (R (.bool false) w3) (semK Try.prog (Instr.indexAt 45 (.slice x1p x1l x1c) (.int .i64 x8)) w3 fun v15 w4 => asA v15 fun ad2 => ldK Try.prog w4 ad2 fun v16 => asI .u64 v16 fun n15 => ldK Try.prog w4 (Addr.add ad2 1) fun v17 => asI .u64 v17 fun n16 => ldK Try.prog w4 (Addr.add ad2 2) fun v18 => asI .u64 v18 fun n17 => ldK Try.prog w4 (Addr.add ad2 3) fun v19 => asI .u64 v19 fun n18 => semU Try.prog (Instr.storeAt 39 (.pointer (some x5)) (.agg #[(.int .u64 n15), (.int .u64 n16), (.int .u64 n17), (.int .u64 n18)])) w4 fun w5 => ifB (decide ((IntKind.wrap .i64 (x7 + n14) : Int) < 0)) (R (.bool false) w5) (ldK Try.prog w5 x5 fun v20 => asI .u64 v20 fun n19 => ldK Try.prog w5 (Addr.add x5 1) fun v21 => asI .u64 v21 fun n20 => ldK Try.prog w5 (Addr.add x5 2) fun v22 => asI .u64 v22 fun n21 => ldK Try.prog w5 (Addr.add x5 3) fun v23 => asI .u64 v23 fun n22 => ldK Try.prog w5 x2 fun v24 => asI .u64 v24 fun n23 => ldK Try.prog w5 (Addr.add x2 1) fun v25 => asI .u64 v25 fun n24 => ldK Try.prog w5 (Addr.add x2 2) fun v26 => asI .u64 v26 fun n25 => ldK Try.prog w5 (Addr.add x2 3) fun v27 => asI .u64 v27 fun n26 => ifB (((n19 : Int) == n23) && (((n20 : Int) == n24) && (((n21 : Int) == n25) && ((n22 : Int) == n26)))) (J10_2 R (L10_1 R k) x1p x1l x1c x2 x5 (IntKind.wrap .i64 (x6 + (IntKind.wrap .i64 n13))) (IntKind.wrap .i64 (x7 + n14)) x8 0 w5) (ldK Try.prog w5 x2 fun v28 => asI .u64 v28 fun n27 => ldK Try.prog w5 (Addr.add x2 1) fun v29 => asI .u64 v29 fun n28 => ldK Try.prog w5 (Addr.add x2 2) fun v30 => asI .u64 v30 fun n29 => ldK Try.prog w5 (Addr.add x2 3) fun v31 => asI .u64 v31 fun n30 => ifB (((n27 : Int) == 0) && (((n28 : Int) == 0) && (((n29 : Int) == 0) && ((n30 : Int) == 0)))) (J10_2 R (L10_1 R k) x1p x1l x1c x2 x5 (IntKind.wrap .i64 (x6 + (IntKind.wrap .i64 n13))) (IntKind.wrap .i64 (x7 + n14)) x8 19900 w5) (ldK Try.prog w5 x5 fun v32 => asI .u64 v32 fun n31 => ldK Try.prog w5 (Addr.add x5 1) fun v33 => asI .u64 v33 fun n32 => ldK Try.prog w5 (Addr.add x5 2) fun v34 => asI .u64 v34 fun n33 => ldK Try.prog w5 (Addr.add x5 3) fun v35 => asI .u64 v35 fun n34 => ifB (((n31 : Int) == 0) && (((n32 : Int) == 0) && (((n33 : Int) == 0) && ((n34 : Int) == 0)))) (J10_2 R (L10_1 R k) x1p x1l x1c x2 x5 (IntKind.wrap .i64 (x6 + (IntKind.wrap .i64 n13))) (IntKind.wrap .i64 (x7 + n14)) x8 (-2000) w5) (J10_2 R (L10_1 R k) x1p x1l x1c x2 x5 (IntKind.wrap .i64 (x6 + (IntKind.wrap .i64 n13))) (IntKind.wrap .i64 (x7 + n14)) x8 2800 w5))))))) (J10_0 R w)
def F10 (a0_0 : Int) (a0_1 : Int) (a0_2 : Int) (a0_3 : Int) (a1p : Option Addr) (a1l : Nat) (a1c : Nat) (w : World) (R : Value → World → Prop) : Prop :=
  allocK w (.cells #[(.int .u64 a0_0), (.int .u64 a0_1), (.int .u64 a0_2), (.int .u64 a0_3)] 39) fun w1 => ifB (decide (((a1l : Nat) : Int) > 1048576)) (R (.bool true) w1) (ldK Try.prog w1 ⟨w.heap.size, 0, none⟩ fun v1 => asI .u64 v1 fun n1 => ldK Try.prog w1 ⟨w.heap.size, 1, none⟩ fun v2 => asI .u64 v2 fun n2 => ldK Try.prog w1 ⟨w.heap.size, 2, none⟩ fun v3 => asI .u64 v3 fun n3 => ldK Try.prog w1 ⟨w.heap.size, 3, none⟩ fun v4 => asI .u64 v4 fun n4 => allocK w1 (.cells #[(.int .u64 0), (.int .u64 0), (.int .u64 0), (.int .u64 0)] 39) fun w2 => semU Try.prog (Instr.storeAt 39 (.pointer (some ⟨w1.heap.size, 0, none⟩)) (.agg #[(.int .u64 n1), (.int .u64 n2), (.int .u64 n3), (.int .u64 n4)])) w2 fun w3 => ∃ m, L10_1 R m a1p a1l a1c ⟨w.heap.size, 0, none⟩ ⟨w1.heap.size, 0, none⟩ 0 0 0 w3)
def A10 (R : Value → World → Prop) : Ann := (.seq .no (.seq .no (.seq .no (.seq .no (.seq .no (.join (fun e ds w => nilD ds (J10_0 R w)) (.seq .no (.block (.loop (fun m e ds w => nilD ds (asL (e 1) fun x1p x1l x1c => asA (e 2) fun x2 => asA (e 5) fun x5 => asI .i64 (e 6) fun x6 => asI .i64 (e 7) fun x7 => asI .i64 (e 8) fun x8 => L10_1 R m x1p x1l x1c x2 x5 x6 x7 x8 w)) (fun kL10_1 => (.seq .no (.seq (.block (.seq (.draw [0, 1, 2, 3, 4, 5, 6, 7, 8, 9, 10, 11]) (.seq .no (.seq .no (.seq .no (.seq .no (.seq .no (.seq .no (.join (fun e ds w => nilD ds (asL (e 1) fun x1p x1l x1c => asA (e 2) fun x2 => asA (e 5) fun x5 => asI .i64 (e 6) fun x6 => asI .i64 (e 7) fun x7 => asI .i64 (e 8) fun x8 => asI .i64 (e 11) fun x11 => J10_2 R (L10_1 R kL10_1) x1p x1l x1c x2 x5 x6 x7 x8 x11 w)) .no .no))))))))) .no)))))) .no))))))
theorem sides10 (R : Value → World → Prop) : fnSides Try.prog Try.f10 (A10 R) R := by
  refine And.intro ?_ ?_
  ·
    exact trivial
  ·
    refine And.intro ?_ ?_
    ·
      exact trivial
    ·
      refine And.intro ?_ ?_
      ·
        exact trivial
      ·
        refine And.intro ?_ ?_
        ·
          exact trivial
        ·
          refine And.intro ?_ ?_
          ·
            exact trivial
          ·
            refine And.intro ?_ (And.intro ?_ ?_)
            ·
              intro e ds w h
              obtain ⟨rfl, h⟩ := nilD_elim h
              exact Eq.mp (by kernel_rfl) h
            ·
              refine And.intro ?_ ?_
              ·
                exact trivial
              ·
                refine And.intro ?_ (And.intro ?_ ?_)
                ·
                  intro e ds w h
                  obtain ⟨rfl, h⟩ := nilD_elim h
                  obtain ⟨x1p, x1l, x1c, z1, h⟩ := asL_elim h
                  obtain ⟨x2, z2, h⟩ := asA_elim h
                  obtain ⟨x5, z5, h⟩ := asA_elim h
                  obtain ⟨x6, z6, h⟩ := asI_elim h
                  obtain ⟨x7, z7, h⟩ := asI_elim h
                  obtain ⟨x8, z8, h⟩ := asI_elim h
                  exact h
                ·
                  intro kL10_1 e ds w h
                  obtain ⟨rfl, h⟩ := nilD_elim h
                  obtain ⟨x1p, x1l, x1c, z1, h⟩ := asL_elim h
                  obtain ⟨x2, z2, h⟩ := asA_elim h
                  obtain ⟨x5, z5, h⟩ := asA_elim h
                  obtain ⟨x6, z6, h⟩ := asI_elim h
                  obtain ⟨x7, z7, h⟩ := asI_elim h
                  obtain ⟨x8, z8, h⟩ := asI_elim h
                  have he : (put (put (put (put (put (put e (some 1) (.slice x1p x1l x1c)) (some 2) (.pointer (some x2))) (some 5) (.pointer (some x5))) (some 6) (.int .i64 x6)) (some 7) (.int .i64 x7)) (some 8) (.int .i64 x8)) = e := by rw [put_id z1, put_id z2, put_id z5, put_id z6, put_id z7, put_id z8]
                  rw [← he]
                  clear he
                  exact Eq.mp (by kernel_rfl) h
                ·
                  intro kL10_1
                  refine And.intro ?_ ?_
                  ·
                    exact trivial
                  ·
                    refine And.intro ?_ ?_
                    ·
                      refine And.intro ?_ ?_
                      ·
                        exact trivial
                      ·
                        refine And.intro ?_ ?_
                        ·
                          exact trivial
                        ·
                          refine And.intro ?_ ?_
                          ·
                            exact trivial
                          ·
                            refine And.intro ?_ ?_
                            ·
                              exact trivial
                            ·
                              refine And.intro ?_ ?_
                              ·
                                exact trivial
                              ·
                                refine And.intro ?_ ?_
                                ·
                                  exact trivial
                                ·
                                  refine And.intro ?_ ?_
                                  ·
                                    exact trivial
                                  ·
                                    refine And.intro ?_ (And.intro ?_ ?_)
                                    ·
                                      intro e ds w h
                                      obtain ⟨rfl, h⟩ := nilD_elim h
                                      obtain ⟨x1p, x1l, x1c, z1, h⟩ := asL_elim h
                                      obtain ⟨x2, z2, h⟩ := asA_elim h
                                      obtain ⟨x5, z5, h⟩ := asA_elim h
                                      obtain ⟨x6, z6, h⟩ := asI_elim h
                                      obtain ⟨x7, z7, h⟩ := asI_elim h
                                      obtain ⟨x8, z8, h⟩ := asI_elim h
                                      obtain ⟨x11, z11, h⟩ := asI_elim h
                                      have he : (put (put (put (put (put (put (put e (some 1) (.slice x1p x1l x1c)) (some 2) (.pointer (some x2))) (some 5) (.pointer (some x5))) (some 6) (.int .i64 x6)) (some 7) (.int .i64 x7)) (some 8) (.int .i64 x8)) (some 11) (.int .i64 x11)) = e := by rw [put_id z1, put_id z2, put_id z5, put_id z6, put_id z7, put_id z8, put_id z11]
                                      rw [← he]
                                      clear he
                                      exact Eq.mp (by kernel_rfl) h
                                    ·
                                      exact trivial
                                    ·
                                      exact trivial
                    ·
                      exact trivial
            ·
              exact trivial
theorem call10 (a0_0 : Int) (a0_1 : Int) (a0_2 : Int) (a0_3 : Int) (a1p : Option Addr) (a1l : Nat) (a1c : Nat) (w : World) (R : Value → World → Prop) (h : F10 a0_0 a0_1 a0_2 a0_3 a1p a1l a1c w R) : CallV Try.prog 10 #[(.agg #[(.int .u64 a0_0), (.int .u64 a0_1), (.int .u64 a0_2), (.int .u64 a0_3)]), (.slice a1p a1l a1c)] w R :=
  callV_of (fn := Try.f10) (an := A10 R) (args := [(.agg #[(.int .u64 a0_0), (.int .u64 a0_1), (.int .u64 a0_2), (.int .u64 a0_3)]), (.slice a1p a1l a1c)]) Try.func10 rfl (sides10 R) (Eq.mp (by kernel_rfl) h)
end Go.Proofs.Ytamllimonjfmiaa.W
