/- Joined out of own texts. No condition: it holds of every program, or of this one by what is shown here. -/
import Derived.Test.YtgcicoebkjgfoaaGreatDoorYc3
import Derived.Test.YtgcicoebkjgfoaaGreatDoorYc4
import Derived.Test.YtgcicoebkjgfoaaGreatDoorYc5
import Derived.Test.YtgcicoebkjgfoaaGreatDoorYc6
import Derived.Test.YtgcicoebkjgfoaaGreatDoorYc7
import Derived.Test.YtgcicoebkjgfoaaGreatDoorYc8
import Derived.Test.YtgcicoebkjgfoaaGreatDoorYc9
import Derived.Test.YtgcicoebkjgfoaaGreatDoorYc10
set_option linter.unusedSectionVars false
set_option linter.constructorNameAsVariable false
set_option linter.unusedVariables false
set_option linter.unusedSimpArgs false
namespace Go.Proofs.YtgcicoebkjgfoaaGreatDoor.Rn
open Go Go.RowKit Go.Proofs.YtgcicoebkjgfoaaGreatDoor.Sh
set_option linter.unusedVariables false
set_option linter.unusedSimpArgs false
def allE (c : Cx) : List (Bx × Bool) → Prop
  | [] => True
  | (b, o) :: l => b.den c = o ∧ allE c l
theorem allE_ok {c : Cx} : ∀ {E : List (Bx × Bool)}, allE c E → ∀ q ∈ E, q.1.den c = q.2
  | (b, o) :: l, h, q, hq => by
    rcases List.mem_cons.1 hq with rfl | hq
    · exact h.1
    · exact allE_ok h.2 q hq
theorem eq_t {c : Cx} {a b : Sx} (h : a.den c = b.den c) : (Bx.cmp .eql a b).den c = true := beq_iff_eq.2 h
theorem eq_f {c : Cx} {a b : Sx} (h : a.den c ≠ b.den c) : (Bx.cmp .eql a b).den c = false := beq_eq_false_iff_ne.2 h
theorem not_t {c : Cx} {a : Bx} (h : a.den c = false) : (Bx.not a).den c = true := by simp only [Bx.den, h]; rfl
theorem not_f {c : Cx} {a : Bx} (h : a.den c = true) : (Bx.not a).den c = false := by simp only [Bx.den, h]; rfl
theorem gt_t {c : Cx} {a b : Sx} (h : a.den c > b.den c) : (Bx.cmp .gtr a b).den c = true := decide_eq_true h
theorem gt_f {c : Cx} {a b : Sx} (h : ¬ a.den c > b.den c) : (Bx.cmp .gtr a b).den c = false := decide_eq_false h
theorem lt_t {c : Cx} {a b : Sx} (h : a.den c < b.den c) : (Bx.cmp .lss a b).den c = true := decide_eq_true h
theorem lt_f {c : Cx} {a b : Sx} (h : ¬ a.den c < b.den c) : (Bx.cmp .lss a b).den c = false := decide_eq_false h
end Go.Proofs.YtgcicoebkjgfoaaGreatDoor.Rn

namespace Go.Proofs.YtgcicoebkjgfoaaGreatDoor.Rn
open Go Go.RowKit Go.Proofs.YtgcicoebkjgfoaaGreatDoor.Sh
set_option linter.unusedVariables false
set_option linter.unusedSimpArgs false
theorem stepLight_walk (a b : Int) (p : Option Addr) (n k : Nat) (l : List UInt8) (W : World) (wa : (Lit.int .i64 a).wf = true) (wb : (Lit.int .i64 b).wf = true) (hs : Sees W 1 p n k (u8s l)) : Calls Tryz.prog 5 #[.int .i64 a, .int .i64 b, .slice p n k] W fun e W' => e = .returned (.bool true) ∧ Below W.heap.size W W' := by
  obtain ⟨c, hc⟩ : ∃ c, c = cx0 (fun i => if i = 0 then a else b) (fun _ => true) (fun _ => l) (fun _ => (p, n, k)) := ⟨_, rfl⟩
  have hv : c.ints 0 = a := by rw [hc]; rfl
  have hv1 : c.ints 1 = b := by rw [hc]; rfl
  have hl : c.lists 0 = l := by rw [hc]; rfl
  have hsv : c.sv 0 = (p, n, k) := by rw [hc]; rfl
  have hargs : V.denL c [.sint .i64 (.var 0), .sint .i64 (.var 1), .slo 0] = [.int .i64 a, .int .i64 b, .slice p n k] := by simp [V.denL, V.den, Sx.den, hv, hv1, hsv]
  have go : ∀ {sm : Bool} {E : List (Bx × Bool)} {r : V}, endB (callV Tryz.prog X0 100000 100 (.fn 5 [] []) [.sint .i64 (.var 0), .sint .i64 (.var 1), .slo 0] (ho1 sm E)) r = true → (sm = true → l.length ≤ 1073741824) → (∀ q ∈ E, q.1.den c = q.2) → (∀ c', c'.ints = c.ints → r.den c' = .bool true) → Calls Tryz.prog 5 #[.int .i64 a, .int .i64 b, .slice p n k] W fun e W' => e = .returned (.bool true) ∧ Below W.heap.size W W' := fun {sm E r} hrun hsm hE hr => by
    have := path_run (rep1 (W := W) (by rw [hsv, hl]; exact hs) (by rw [hl]; exact hsm) hE) (args := [.sint .i64 (.var 0), .sint .i64 (.var 1), .slo 0]) ⟨trivial, trivial, Nat.one_pos, trivial⟩ ⟨_, List.mem_cons_self, fun k n h => by cases h⟩ hrun
    rw [hargs] at this
    refine Calls.mono this ?_
    rintro e W' ⟨⟨c', g1, rfl⟩, g2⟩
    exact ⟨by rw [hr c' g1.ints], g2⟩
  by_cases g1 : (l.length : Int) > 1048576
  · exact go pl1 (fun h => by cases h) (by simp [el1, Bx.den, Sx.den, cmpI, hl]; omega) fun _ _ => rfl
  have hsm : true = true → l.length ≤ 1073741824 := fun _ => by omega
  have g1' : decide ((l.length : Int) > 1048576) = false := decide_eq_false g1
  have d3 : (Sx.len 0).den c = l.length := by rw [← hl]; rfl
  have hlen : (Bx.cmp BinOp.gtr (Sx.len 0) (Sx.lit (Int.ofNat 1048576))).den c = false := gt_f (by rw [d3]; exact g1)
  generalize ht : (Sx.bin BinOp.and IntKind.i64 (Sx.var 0) (Sx.lit (Int.ofNat 3))).den c = t
  generalize hs : (Sx.bin BinOp.and IntKind.i64 (Sx.var 1) (Sx.lit (Int.ofNat 1))).den c = s
  by_cases g4 : s = 1
  · have k4 : (Bx.cmp BinOp.eql (Sx.bin BinOp.and IntKind.i64 (Sx.var 1) (Sx.lit (Int.ofNat 1))) (Sx.lit (Int.ofNat 1))).den c = true := eq_t (hs.trans g4)
    by_cases g2 : t = 0
    · exact go pl2 hsm (allE_ok ⟨hlen, eq_t (ht.trans g2), k4, k4, trivial⟩) fun _ _ => rfl
    have k2 : (Bx.cmp BinOp.eql (Sx.bin BinOp.and IntKind.i64 (Sx.var 0) (Sx.lit (Int.ofNat 3))) (Sx.lit (Int.ofNat 0))).den c = false := eq_f (by rw [ht]; exact g2)
    by_cases g3 : t = 1
    · exact go pl4 hsm (allE_ok ⟨hlen, k2, eq_t (ht.trans g3), k4, k4, trivial⟩) fun _ _ => rfl
    · exact go pl6 hsm (allE_ok ⟨hlen, k2, eq_f (by rw [ht]; exact g3), k4, k4, trivial⟩) fun _ _ => rfl
  · have k4 : (Bx.cmp BinOp.eql (Sx.bin BinOp.and IntKind.i64 (Sx.var 1) (Sx.lit (Int.ofNat 1))) (Sx.lit (Int.ofNat 1))).den c = false := eq_f (by rw [hs]; exact g4)
    by_cases g2 : t = 0
    · exact go pl3 hsm (allE_ok ⟨hlen, eq_t (ht.trans g2), k4, k4, trivial⟩) fun _ _ => rfl
    have k2 : (Bx.cmp BinOp.eql (Sx.bin BinOp.and IntKind.i64 (Sx.var 0) (Sx.lit (Int.ofNat 3))) (Sx.lit (Int.ofNat 0))).den c = false := eq_f (by rw [ht]; exact g2)
    by_cases g3 : t = 1
    · exact go pl5 hsm (allE_ok ⟨hlen, k2, eq_t (ht.trans g3), k4, k4, trivial⟩) fun _ _ => rfl
    · exact go pl7 hsm (allE_ok ⟨hlen, k2, eq_f (by rw [ht]; exact g3), k4, k4, trivial⟩) fun _ _ => rfl
end Go.Proofs.YtgcicoebkjgfoaaGreatDoor.Rn
