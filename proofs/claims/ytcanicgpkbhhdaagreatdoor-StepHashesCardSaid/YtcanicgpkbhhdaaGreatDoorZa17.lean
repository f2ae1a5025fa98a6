/- Joined out of own texts. No condition: it holds of every program, or of this one by what is shown here. -/
import Derived.Test.YtcanicgpkbhhdaaGreatDoorZa6
import Derived.Test.YtcanicgpkbhhdaaGreatDoorZa7
import Derived.Test.YtcanicgpkbhhdaaGreatDoorZa8
import Derived.Test.YtcanicgpkbhhdaaGreatDoorZa9
import Derived.Test.YtcanicgpkbhhdaaGreatDoorZa10
import Derived.Test.YtcanicgpkbhhdaaGreatDoorZa11
import Derived.Test.YtcanicgpkbhhdaaGreatDoorZa12
import Derived.Test.YtcanicgpkbhhdaaGreatDoorZa13
import Derived.Test.YtcanicgpkbhhdaaGreatDoorZa14
import Derived.Test.YtcanicgpkbhhdaaGreatDoorZa15
import Derived.Test.YtcanicgpkbhhdaaGreatDoorZa16
set_option linter.unusedSectionVars false
set_option linter.constructorNameAsVariable false
set_option linter.unusedVariables false
set_option linter.unusedSimpArgs false
namespace Go.Proofs.YtcanicgpkbhhdaaGreatDoor.Rn
open Go Go.RowKit Go.Proofs.YtcanicgpkbhhdaaGreatDoor.Sh
set_option linter.unusedVariables false
set_option linter.unusedSimpArgs false
theorem u64_wf {n : Int} (h : (Lit.int .u64 n).wf = true) : 0 ≤ n ∧ n < 18446744073709551616 := by
  have h : IntKind.u64.min ≤ n ∧ n ≤ IntKind.u64.max := by simpa [Lit.wf] using h
  rw [show IntKind.u64.min = 0 from rfl, show IntKind.u64.max = 18446744073709551615 from rfl] at h
  omega
def wordL : List Leaf := repL [.int .u64] 4
theorem stepHashes_walk (p0 : Option Addr) (n0 k0 : Nat) (x0 : List UInt8) (p1 : Option Addr) (n1 k1 : Nat) (x1 : List UInt8) (a : Int) (cs : List Value) (W : World)
    (z0 : 0 < 32) (m0 : n0 ≤ maxLen) (s0 : Sees W 32 p0 n0 k0 (u8s x0)) (z1 : 0 < 32) (m1 : n1 ≤ maxLen) (s1 : Sees W 32 p1 n1 k1 (u8s x1)) (wa : (Lit.int .u64 a).wf = true) (lv : LvsOK W wordL cs) :
    Calls Tryz.prog 6 #[.slice p0 n0 k0, .slice p1 n1 k1, .int .u64 a, .agg cs.toArray] W fun e W' => e = .returned (.bool true) ∧ Below W.heap.size W W' := by
  have hls : LvsOK W leavesH (.slice p0 n0 k0 :: .slice p1 n1 k1 :: .int .u64 a :: cs) := ⟨⟨p0, n0, k0, x0, rfl, z0, m0, s0⟩, ⟨p1, n1, k1, x1, rfl, z1, m1, s1⟩, ⟨a, rfl, wa⟩, lv⟩
  obtain ⟨m, _, he, hok⟩ := sym_of (i := 0) (b := 0) ms0 hls
  obtain ⟨c, hc⟩ : ∃ c, c = m.cx := ⟨_, rfl⟩
  have hargs : V.denL m.cx argsH = [.slice p0 n0 k0, .slice p1 n1 k1, .int .u64 a, .agg cs.toArray] := by
    simp only [leavesH, symL, V.denL, List.cons.injEq] at he
    obtain ⟨e0, e1, e2, e3⟩ := he
    rw [e0, e1, e2, e3]
    rfl
  have hn0 : (m.sv 0).2.1 = n0 := by
    simp only [leavesH, symL, V.denL, List.cons.injEq] at he
    have := he.1
    simp only [V.den, Value.slice.injEq] at this
    exact this.2.1.symm
  have hn1 : (m.sv 1).2.1 = n1 := by
    simp only [leavesH, symL, V.denL, List.cons.injEq] at he
    have := he.2.1
    simp only [V.den, Value.slice.injEq] at this
    exact this.2.1.symm
  have hsym := hok
  obtain ⟨_, _, w0, w1, w2, w3, w4, _⟩ := hok
  have go : ∀ {sm : Bool} {E : List (Bx × Bool)}, endB (callV Tryz.prog X0 100000 100 (.fn 6 [] []) argsH (hoL (rowsO sm leavesH 0) E)) (.bool true) = true → (sm = true → n0 ≤ 1073741824 ∧ n1 ≤ 1073741824) → allE m.cx E → Calls Tryz.prog 6 #[.slice p0 n0 k0, .slice p1 n1 k1, .int .u64 a, .agg cs.toArray] W fun e W' => e = .returned (.bool true) ∧ Below W.heap.size W W' := fun {sm E} hrun hsm hE => by
    have := path_run (rep_sym (W := W) (sm := sm) hsym (by cases sm <;> decide) (fun e j hj => by
      have hj : j < 2 := by cases sm <;> exact hj
      obtain rfl | rfl : j = 0 ∨ j = 1 := by omega
      · rw [hn0]; exact (hsm e).1
      · rw [hn1]; exact (hsm e).2) hE) (args := argsH) ⟨by show 0 < (rowsO sm leavesH 0).length; cases sm <;> decide, by show 1 < (rowsO sm leavesH 0).length; cases sm <;> decide, trivial, ⟨trivial, trivial, trivial, trivial, trivial⟩, trivial⟩ ⟨_, List.mem_cons_self, fun k n h => by cases h⟩ hrun
    rw [hargs] at this
    refine Calls.mono this ?_
    rintro e W' ⟨⟨c', g1, rfl⟩, g2⟩
    exact ⟨rfl, g2⟩
  have hmx : maxLen = 9223372036854775807 := rfl
  have l0 : (Sx.len 1000).den m.cx = (n0 : Int) := by
    show (((if 1000 < 1000 then m.lists 1000 else List.replicate (m.sv (1000 - 1000)).2.1 0).length : Nat) : Int) = _
    rw [if_neg (by omega), List.length_replicate, hn0]
  have l1 : (Sx.len 1001).den m.cx = (n1 : Int) := by
    show (((if 1001 < 1000 then m.lists 1001 else List.replicate (m.sv (1001 - 1000)).2.1 0).length : Nat) : Int) = _
    rw [if_neg (by omega), List.length_replicate, hn1]
  have u0 : (Sx.cvt .u64 (.len 1000)).den m.cx = (n0 : Int) := by show IntKind.u64.wrap ((Sx.len 1000).den m.cx) = _; rw [l0, w64 (by omega) (by omega)]
  have u1 : (Sx.cvt .u64 (.len 1001)).den m.cx = (n1 : Int) := by show IntKind.u64.wrap ((Sx.len 1001).den m.cx) = _; rw [l1, w64 (by omega) (by omega)]
  have hx : ∀ i, (Lit.int .u64 (m.ints i)).wf = true → (Sx.cvt .u64 (.var i)).den m.cx = m.ints i := fun i h => wrap_wf h
  have v0 := hx 0 w0
  have v1 := hx 1 w1
  have v2 := hx 2 w2
  have v3 := hx 3 w3
  have v4 := hx 4 w4
  have r0 : 0 ≤ m.ints 0 ∧ m.ints 0 < 18446744073709551616 := u64_wf w0
  have r1 : 0 ≤ m.ints 1 ∧ m.ints 1 < 18446744073709551616 := u64_wf w1
  have lz : (Sx.lit (.ofNat 0)).den m.cx = 0 := rfl
  have z_t : ∀ {i : Nat}, (Sx.cvt .u64 (.var i)).den m.cx = m.ints i → m.ints i = 0 → (Bx.cmp .eql (.cvt .u64 (.var i)) (.lit (.ofNat 0))).den m.cx = true := fun h h0 => eq_t (by rw [h, h0]; rfl)
  have z_f : ∀ {i : Nat}, (Sx.cvt .u64 (.var i)).den m.cx = m.ints i → m.ints i ≠ 0 → (Bx.cmp .eql (.cvt .u64 (.var i)) (.lit (.ofNat 0))).den m.cx = false := fun h h0 => eq_f (by rw [h]; exact h0)
  by_cases g1 : n0 > 256
  · exact go ph1 (fun h => by cases h) ⟨gt_t (by rw [l0]; show (n0 : Int) > 256; omega), trivial⟩
  have q1 : (Bx.cmp .gtr (.len 1000) (.lit (.ofNat 256))).den m.cx = false := gt_f (by rw [l0]; show ¬ (n0 : Int) > 256; omega)
  by_cases g2 : n1 > 1048576
  · exact go ph2 (fun h => by cases h) ⟨q1, gt_t (by rw [l1]; show (n1 : Int) > 1048576; omega), trivial⟩
  have q2 : (Bx.cmp .gtr (.len 1001) (.lit (.ofNat 1048576))).den m.cx = false := gt_f (by rw [l1]; show ¬ (n1 : Int) > 1048576; omega)
  have hsm : true = true → n0 ≤ 1073741824 ∧ n1 ≤ 1073741824 := fun _ => by omega
  by_cases h2 : m.ints 2 = 0
  rotate_left
  · have nf := and_fr (a := .cmp .eql (.cvt .u64 (.var 4)) (.lit (.ofNat 0))) (and_fr (a := .cmp .eql (.cvt .u64 (.var 3)) (.lit (.ofNat 0))) (z_f v2 h2))
    exact go ph3 hsm ⟨q1, q2, q1, nf, nf, z_f v2 h2, trivial⟩
  by_cases h3 : m.ints 3 = 0
  rotate_left
  · have nf := and_fr (a := .cmp .eql (.cvt .u64 (.var 4)) (.lit (.ofNat 0))) (and_fl (b := .cmp .eql (.cvt .u64 (.var 2)) (.lit (.ofNat 0))) (z_f v3 h3))
    exact go ph4 hsm ⟨q1, q2, q1, nf, nf, z_t v2 h2, z_f v3 h3, trivial⟩
  by_cases h4 : m.ints 4 = 0
  rotate_left
  · have nf := and_fl (b := .and (.cmp .eql (.cvt .u64 (.var 3)) (.lit (.ofNat 0))) (.cmp .eql (.cvt .u64 (.var 2)) (.lit (.ofNat 0)))) (z_f v4 h4)
    exact go ph5 hsm ⟨q1, q2, q1, nf, nf, z_t v2 h2, z_t v3 h3, z_f v4 h4, z_f v4 h4, trivial⟩
  have nt := and_t (z_t v4 h4) (and_t (z_t v3 h3) (z_t v2 h2))
  have lower : ∀ {s : Sx} {x : Int}, s.den m.cx = x → 0 ≤ x → (Bx.cmp .geq s (.lit (.ofNat 0))).den m.cx = true := fun h h0 => ge_t (by rw [h]; exact h0)
  have bT : m.ints 1 < n1 → (Bx.cmp .lss (.cvt .u64 (.var 1)) (.cvt .u64 (.len 1001))).den m.cx = true ∧ (Bx.cmp .geq (.cvt .u64 (.var 1)) (.lit (.ofNat 0))).den m.cx = true ∧ (Bx.cmp .lss (.cvt .u64 (.var 1)) (.len 1001)).den m.cx = true := fun h => ⟨lt_t (by rw [v1, u1]; exact h), lower v1 r1.1, lt_t (by rw [v1, l1]; exact h)⟩
  have bF : ¬ m.ints 1 < n1 → (Bx.cmp .lss (.cvt .u64 (.var 1)) (.cvt .u64 (.len 1001))).den m.cx = false := fun h => lt_f (by rw [v1, u1]; exact h)
  by_cases k1 : m.ints 1 < m.ints 0
  rotate_left
  · have ge := ge_t (c := m.cx) (a := .cvt .u64 (.var 1)) (b := .cvt .u64 (.var 0)) (by rw [v1, v0]; omega)
    have lt := lt_f (c := m.cx) (a := .cvt .u64 (.var 1)) (b := .cvt .u64 (.var 0)) (by rw [v1, v0]; exact k1)
    by_cases b1 : m.ints 1 < n1
    · obtain ⟨t1, t2, t3⟩ := bT b1
      exact go ph6 hsm ⟨q1, q2, q1, nt, ge, nt, t1, t2, t3, z_t v2 h2, z_t v3 h3, z_t v4 h4, lt, z_t v4 h4, t1, t2, t3, trivial⟩
    · have t1 := bF b1
      exact go ph7 hsm ⟨q1, q2, q1, nt, ge, nt, t1, z_t v2 h2, z_t v3 h3, z_t v4 h4, lt, z_t v4 h4, t1, trivial⟩
  have ge := ge_f (c := m.cx) (a := .cvt .u64 (.var 1)) (b := .cvt .u64 (.var 0)) (by rw [v1, v0]; omega)
  have lt := lt_t (c := m.cx) (a := .cvt .u64 (.var 1)) (b := .cvt .u64 (.var 0)) (by rw [v1, v0]; exact k1)
  have hi : (Sx.bin .sub .u64 (.bin .sub .u64 (.cvt .u64 (.var 0)) (.lit (.ofNat 1))) (.cvt .u64 (.var 1))).den m.cx = m.ints 0 - 1 - m.ints 1 := sub_den (sub_den v0 rfl (by omega) (by omega)) v1 (by omega) (by omega)
  by_cases k2 : m.ints 0 - 1 - m.ints 1 < n0
  rotate_left
  · have ge2 := ge_t (c := m.cx) (a := .bin .sub .u64 (.bin .sub .u64 (.cvt .u64 (.var 0)) (.lit (.ofNat 1))) (.cvt .u64 (.var 1))) (b := .cvt .u64 (.len 1000)) (by rw [hi, u0]; omega)
    have lt2 := lt_f (c := m.cx) (a := .bin .sub .u64 (.bin .sub .u64 (.cvt .u64 (.var 0)) (.lit (.ofNat 1))) (.cvt .u64 (.var 1))) (b := .cvt .u64 (.len 1000)) (by rw [hi, u0]; exact k2)
    by_cases b1 : m.ints 1 < n1
    · obtain ⟨t1, t2, t3⟩ := bT b1
      exact go ph8 hsm ⟨q1, q2, q1, nt, ge, ge2, nt, t1, t2, t3, z_t v2 h2, z_t v3 h3, z_t v4 h4, lt, lt2, z_t v4 h4, t1, t2, t3, trivial⟩
    · have t1 := bF b1
      exact go ph9 hsm ⟨q1, q2, q1, nt, ge, ge2, nt, t1, z_t v2 h2, z_t v3 h3, z_t v4 h4, lt, lt2, z_t v4 h4, t1, trivial⟩
  have ge2 := ge_f (c := m.cx) (a := .bin .sub .u64 (.bin .sub .u64 (.cvt .u64 (.var 0)) (.lit (.ofNat 1))) (.cvt .u64 (.var 1))) (b := .cvt .u64 (.len 1000)) (by rw [hi, u0]; omega)
  have lt2 := lt_t (c := m.cx) (a := .bin .sub .u64 (.bin .sub .u64 (.cvt .u64 (.var 0)) (.lit (.ofNat 1))) (.cvt .u64 (.var 1))) (b := .cvt .u64 (.len 1000)) (by rw [hi, u0]; exact k2)
  have i1 := lower hi (by omega)
  have i2 := lt_t (c := m.cx) (a := .bin .sub .u64 (.bin .sub .u64 (.cvt .u64 (.var 0)) (.lit (.ofNat 1))) (.cvt .u64 (.var 1))) (b := .len 1000) (by rw [hi, l0]; exact k2)
  by_cases b1 : m.ints 1 < n1
  · obtain ⟨t1, t2, t3⟩ := bT b1
    exact go ph10 hsm ⟨q1, q2, q1, nt, ge, ge2, i1, i2, nt, t1, t2, t3, z_t v2 h2, z_t v3 h3, z_t v4 h4, lt, lt2, i1, i2, z_t v4 h4, t1, t2, t3, trivial⟩
  · have t1 := bF b1
    exact go ph11 hsm ⟨q1, q2, q1, nt, ge, ge2, i1, i2, nt, t1, z_t v2 h2, z_t v3 h3, z_t v4 h4, lt, lt2, i1, i2, z_t v4 h4, t1, trivial⟩
end Go.Proofs.YtcanicgpkbhhdaaGreatDoor.Rn
