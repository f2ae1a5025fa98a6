/- Joined out of own texts. No condition: it holds of every program, or of this one by what is shown here. -/
import Derived.Test.YtgcicoebkjgfoaaGreatDoorYd4
import Derived.Test.YtgcicoebkjgfoaaGreatDoorYd5
import Derived.Test.YtgcicoebkjgfoaaGreatDoorYd6
import Derived.Test.YtgcicoebkjgfoaaGreatDoorYd7
import Derived.Test.YtgcicoebkjgfoaaGreatDoorYd8
import Derived.Test.YtgcicoebkjgfoaaGreatDoorYd9
import Derived.Test.YtgcicoebkjgfoaaGreatDoorYd10
import Derived.Test.YtgcicoebkjgfoaaGreatDoorYd11
import Derived.Test.YtgcicoebkjgfoaaGreatDoorYd12
import Derived.Test.YtgcicoebkjgfoaaGreatDoorYd13
import Derived.Test.YtgcicoebkjgfoaaGreatDoorYd14
set_option linter.unusedSectionVars false
set_option linter.constructorNameAsVariable false
set_option linter.unusedVariables false
set_option linter.unusedSimpArgs false
namespace Go.Proofs.YtgcicoebkjgfoaaGreatDoor.Rn
open Go Go.RowKit Go.Proofs.YtgcicoebkjgfoaaGreatDoor.Sh
set_option linter.unusedVariables false
set_option linter.unusedSimpArgs false
theorem u8_wf {n : Int} (h : (Lit.int .u8 n).wf = true) : ∃ b : Nat, n = (b : Int) ∧ b < 256 := by
  have h : IntKind.u8.min ≤ n ∧ n ≤ IntKind.u8.max := by simpa [Lit.wf] using h
  rw [show IntKind.u8.min = 0 from rfl, show IntKind.u8.max = 255 from rfl] at h
  exact ⟨n.toNat, by omega, by omega⟩
theorem u64_wf {n : Int} (h : (Lit.int .u64 n).wf = true) : 0 ≤ n ∧ n < 18446744073709551616 := by
  have h : IntKind.u64.min ≤ n ∧ n ≤ IntKind.u64.max := by simpa [Lit.wf] using h
  rw [show IntKind.u64.min = 0 from rfl, show IntKind.u64.max = 18446744073709551615 from rfl] at h
  omega
theorem and3 (x : Int) : 0 ≤ arithI .and .i64 x 3 ∧ arithI .and .i64 x 3 ≤ 3 := by
  have h : ∃ m : Nat, m ≤ 3 ∧ arithI .and .i64 x 3 = IntKind.i64.wrap (m : Int) := ⟨(BitVec.ofInt 64 x &&& BitVec.ofInt 64 3).toNat, by rw [BitVec.toNat_and]; exact Nat.and_le_right, rfl⟩
  obtain ⟨m, h1, h2⟩ := h
  rw [h2, i64w (by omega) (by omega)]
  omega
def costs : List Nat := [2, 3, 3, 2, 3, 3, 3, 3, 2, 0, 0]
/-- What is left, told twice. -/
theorem left_t {c : Cx} {g v : Int} {k : Nat} (hg : g = (k : Int)) (hv : c.ints 2 = v) (h0 : 0 ≤ v) (h1 : v ≤ 2000000) (hk : 24 ≤ k ∧ k ≤ 100000) : (V.sbool (.cmp .eql (payS (.bin .add .u64 (.lit (.ofNat k)) (.var 2)) costs) (.bin .sub .u64 (.bin .add .u64 (.lit (.ofNat k)) (.var 2)) (.lit (.ofNat 24))))).den c = .bool true := by
  have ha : (Sx.bin .add .u64 (.lit (.ofNat k)) (.var 2)).den c = (k : Int) + v := add_den rfl hv (by omega) (by omega)
  have hs : (sumN costs : Int) = 24 := rfl
  have h2 := pay_den (l := costs) ha (by rw [hs]; omega) (by omega)
  have h3 : (Sx.bin .sub .u64 (.bin .add .u64 (.lit (.ofNat k)) (.var 2)) (.lit (.ofNat 24))).den c = (k : Int) + v - 24 := sub_den ha rfl (by omega) (by omega)
  show Value.bool _ = _
  rw [eq_t (by rw [h2, h3, hs])]
theorem stepAnswers_walk (a : Int) (cs : List Value) (W : World) (wa : (Lit.int .i64 a).wf = true) (hcs : LvsOK W replyL cs) : Calls Tryz.prog 6 #[.int .i64 a, .agg cs.toArray] W fun e W' => e = .returned (.bool true) ∧ Below W.heap.size W W' := by
  obtain ⟨m, hsm, hcs, hok⟩ := sym_of (i := 1) (b := 0) { ms0 with ints := fun _ => a } hcs
  obtain ⟨c, hc⟩ : ∃ c, c = m.cx := ⟨_, rfl⟩
  rw [← hc, ← rep6_sym] at hcs
  have hi : ∀ j, c.ints j = m.ints j := fun j => by rw [hc]; rfl
  have hv0 : c.ints 0 = a := (hi 0).trans (hsm.ints 0 (by omega))
  obtain ⟨_, ⟨hz, hmx, hsee⟩, wl, w3, w4, w5, w6, w7, w8, w9, w10, w11, w12, w13, w14, w15, w16, w17, w18, w19, w20, w21, w22, _⟩ := hok
  have hsee : Sees W 1 (c.sv 0).1 (c.sv 0).2.1 (c.sv 0).2.2 (u8s (c.lists 0)) := by rw [hc]; exact hsee
  have hargs : V.denL c [.sint .i64 (.var 0), .agg rep6] = [.int .i64 a, .agg cs.toArray] := by
    rw [hcs]
    simp only [V.denL, V.den, Sx.den, hv0]
  have hlt : V.ltL 1 [.sint .i64 (.var 0), .agg rep6] := ⟨trivial, ⟨trivial, Nat.one_pos, trivial, trivial, trivial, trivial, trivial, trivial, trivial, trivial, trivial, trivial, trivial, trivial, trivial, trivial, trivial, trivial, trivial, trivial, trivial, trivial, trivial, trivial⟩, trivial⟩
  have go : ∀ {sm : Bool} {E : List (Bx × Bool)} {r : V}, endB (callV Tryz.prog X0 100000 100 (.fn 6 [] []) [.sint .i64 (.var 0), .agg rep6] (ho1 sm E)) r = true → (sm = true → (c.lists 0).length ≤ 1073741824) → allE c E → (∀ c', c'.ints = c.ints → r.den c' = .bool true) → Calls Tryz.prog 6 #[.int .i64 a, .agg cs.toArray] W fun e W' => e = .returned (.bool true) ∧ Below W.heap.size W W' := fun {sm E r} hrun hsm hE hr => by
    have := path_run (rep1 (W := W) hsee hsm (allE_ok hE)) (args := [.sint .i64 (.var 0), .agg rep6]) hlt ⟨_, List.mem_cons_self, fun k n h => by cases h⟩ hrun
    rw [hargs] at this
    refine Calls.mono this ?_
    rintro e W' ⟨⟨c', g1, rfl⟩, g2⟩
    exact ⟨by rw [hr c' g1.ints], g2⟩
  obtain ⟨v, hv⟩ : ∃ v, c.ints 2 = v := ⟨_, rfl⟩
  obtain ⟨v0, v1⟩ : 0 ≤ v ∧ v < 18446744073709551616 := by rw [← hv, hi]; exact u64_wf wl
  by_cases g1 : ((c.lists 0).length : Int) > 1048576
  · exact go pa1 (fun h => by cases h) ⟨gt_t g1, trivial⟩ fun _ _ => rfl
  have hsm : true = true → (c.lists 0).length ≤ 1073741824 := fun _ => by omega
  have hlen : (Bx.cmp BinOp.gtr (Sx.len 0) (Sx.lit (Int.ofNat 1048576))).den c = false := gt_f g1
  -- which instruction
  obtain ⟨t, ht⟩ : ∃ t, (Sx.bin BinOp.and IntKind.i64 (Sx.var 0) (Sx.lit (Int.ofNat 3))).den c = t := ⟨_, rfl⟩
  obtain ⟨t0, t3⟩ : 0 ≤ t ∧ t ≤ 3 := by rw [← ht]; exact and3 _
  -- how it is answered
  obtain ⟨s, hs⟩ : ∃ s, (Sx.bin BinOp.rem IntKind.i64 (Sx.bin BinOp.and IntKind.i64 (Sx.var 1) (Sx.lit (Int.ofNat 3))) (Sx.lit (Int.ofNat 3))).den c = s := ⟨_, rfl⟩
  obtain ⟨s0, s2⟩ : 0 ≤ s ∧ s ≤ 2 := by
    have h := and3 (c.ints 1)
    have : s = (arithI .and .i64 (c.ints 1) 3).tmod 3 := hs.symm
    rw [this]
    have h1 : ∀ x : Int, 0 ≤ x ∧ x ≤ 3 → 0 ≤ x.tmod 3 ∧ x.tmod 3 ≤ 2 := fun x hx => by
      obtain rfl | rfl | rfl | rfl : x = 0 ∨ x = 1 ∨ x = 2 ∨ x = 3 := by omega
      · decide
      · decide
      · decide
      · decide
    exact h1 _ h
  have qs1 : (Bx.cmp BinOp.lss (Sx.bin BinOp.rem IntKind.i64 (Sx.bin BinOp.and IntKind.i64 (Sx.var 1) (Sx.lit (Int.ofNat 3))) (Sx.lit (Int.ofNat 3))) (Sx.lit (Int.ofNat 0))).den c = false := lt_f (by rw [hs]; exact Int.not_lt.2 s0)
  have qs2 : (Bx.cmp BinOp.gtr (Sx.bin BinOp.rem IntKind.i64 (Sx.bin BinOp.and IntKind.i64 (Sx.var 1) (Sx.lit (Int.ofNat 3))) (Sx.lit (Int.ofNat 3))) (Sx.lit (Int.ofNat 2))).den c = false := gt_f (by rw [hs]; exact Int.not_lt.2 s2)
  have tgt : t > 1 → (Bx.cmp BinOp.gtr (Sx.bin BinOp.and IntKind.i64 (Sx.var 0) (Sx.lit (Int.ofNat 3))) (Sx.lit (Int.ofNat 1))).den c = true := fun h => gt_t (by rw [ht]; exact h)
  have tle : ¬ t > 1 → (Bx.cmp BinOp.gtr (Sx.bin BinOp.and IntKind.i64 (Sx.var 0) (Sx.lit (Int.ofNat 3))) (Sx.lit (Int.ofNat 1))).den c = false := fun h => gt_f (by rw [ht]; exact h)
  have huge : ∀ n : Nat, v ≤ n → (Bx.cmp BinOp.gtr (Sx.var 2) (Sx.lit (Int.ofNat n))).den c = false := fun n h => gt_f (by show ¬ c.ints 2 > (n : Int); rw [hv]; omega)
  have lim_t : ∀ n : Nat, (n : Int) < v → (Bx.cmp BinOp.lss (Sx.lit (Int.ofNat n)) (Sx.var 2)).den c = true := fun n h => lt_t (by show (n : Int) < c.ints 2; rw [hv]; exact h)
  have lim_f : ∀ n : Nat, ¬ (n : Int) < v → (Bx.cmp BinOp.lss (Sx.lit (Int.ofNat n)) (Sx.var 2)).den c = false := fun n h => lt_f (by show ¬ (n : Int) < c.ints 2; rw [hv]; exact h)
  have gas : ∀ k : Nat, k ≤ 100000 → (Sx.bin .add .u64 (.lit (.ofNat k)) (.var 2)).den c = if v ≤ 2000000 then (k : Int) + v else (Sx.bin .add .u64 (.lit (.ofNat k)) (.var 2)).den c := fun k hk => by
    split
    · exact add_den rfl hv (by omega) (by omega)
    · rfl
  -- calls
  have call : ¬ t > 1 → ∀ {n : Nat}, n ≤ 2000000 → ∀ {E1 E2 : List (Bx × Bool)}, True := fun _ _ _ _ _ => trivial
  have pays : ∀ {k : Nat}, 24 ≤ k → k ≤ 100000 → v ≤ 2000000 → ∀ (n : Nat) (l : List Nat), n + sumN l ≤ 24 → (Bx.cmp .gtr (.lit (.ofNat n)) (payS (.bin .add .u64 (.lit (.ofNat k)) (.var 2)) l)).den c = false := fun {k} h24 hk hv2 n l hl => by
    have h := gas k hk
    rw [if_pos hv2] at h
    exact pay_f l h (by omega) (by omega)
  have endT : ∀ {k : Nat}, 24 ≤ k → k ≤ 100000 → v ≤ 2000000 → ∀ c' : Cx, c'.ints = c.ints → (V.sbool (.cmp .eql (payS (.bin .add .u64 (.lit (.ofNat k)) (.var 2)) costs) (.bin .sub .u64 (.bin .add .u64 (.lit (.ofNat k)) (.var 2)) (.lit (.ofNat 24))))).den c' = .bool true := fun {k} h24 hk hv2 c' hc' => left_t rfl (by rw [hc', hv]) v0 hv2 ⟨h24, hk⟩
  by_cases g2 : t = 0
  · have k2 : (Bx.cmp BinOp.eql (Sx.bin BinOp.and IntKind.i64 (Sx.var 0) (Sx.lit (Int.ofNat 3))) (Sx.lit (Int.ofNat 0))).den c = true := eq_t (ht.trans g2)
    by_cases g4 : (1029625 : Int) < v
    · exact go pa2 hsm ⟨hlen, k2, lim_t 1029625 g4, qs1, qs2, tle (by omega), trivial⟩ fun _ _ => rfl
    · have hv2 : v ≤ 2000000 := by omega
      have P := pays (k := 16343) (by omega) (by omega) hv2
      exact go pa3 hsm ⟨hlen, k2, lim_f 1029625 g4, qs1, qs2, huge 1029625 (by omega), huge 18446744073709535272 (by omega), P 2 [] (by decide), P 3 [2] (by decide), P 3 [2, 3] (by decide), P 2 [2, 3, 3] (by decide), P 3 [2, 3, 3, 2] (by decide), P 3 [2, 3, 3, 2, 3] (by decide), P 3 [2, 3, 3, 2, 3, 3] (by decide), P 3 [2, 3, 3, 2, 3, 3, 3] (by decide), P 2 [2, 3, 3, 2, 3, 3, 3, 3] (by decide), P 0 [2, 3, 3, 2, 3, 3, 3, 3, 2] (by decide), P 0 [2, 3, 3, 2, 3, 3, 3, 3, 2, 0] (by decide), tle (by omega), trivial⟩ (endT (k := 16343) (by omega) (by omega) hv2)
  have k2 : (Bx.cmp BinOp.eql (Sx.bin BinOp.and IntKind.i64 (Sx.var 0) (Sx.lit (Int.ofNat 3))) (Sx.lit (Int.ofNat 0))).den c = false := eq_f (by rw [ht]; exact g2)
  by_cases g3 : t = 1
  · have k3 : (Bx.cmp BinOp.eql (Sx.bin BinOp.and IntKind.i64 (Sx.var 0) (Sx.lit (Int.ofNat 3))) (Sx.lit (Int.ofNat 1))).den c = true := eq_t (ht.trans g3)
    by_cases g4 : (1029627 : Int) < v
    · exact go pa4 hsm ⟨hlen, k2, k3, lim_t 1029627 g4, qs1, qs2, tle (by omega), trivial⟩ fun _ _ => rfl
    · have hv2 : v ≤ 2000000 := by omega
      have P := pays (k := 16343) (by omega) (by omega) hv2
      exact go pa5 hsm ⟨hlen, k2, k3, lim_f 1029627 g4, qs1, qs2, huge 1029627 (by omega), huge 18446744073709535272 (by omega), P 2 [] (by decide), P 3 [2] (by decide), P 3 [2, 3] (by decide), P 2 [2, 3, 3] (by decide), P 3 [2, 3, 3, 2] (by decide), P 3 [2, 3, 3, 2, 3] (by decide), P 3 [2, 3, 3, 2, 3, 3] (by decide), P 3 [2, 3, 3, 2, 3, 3, 3] (by decide), P 2 [2, 3, 3, 2, 3, 3, 3, 3] (by decide), P 0 [2, 3, 3, 2, 3, 3, 3, 3, 2] (by decide), P 0 [2, 3, 3, 2, 3, 3, 3, 3, 2, 0] (by decide), tle (by omega), trivial⟩ (endT (k := 16343) (by omega) (by omega) hv2)
  have k3 : (Bx.cmp BinOp.eql (Sx.bin BinOp.and IntKind.i64 (Sx.var 0) (Sx.lit (Int.ofNat 3))) (Sx.lit (Int.ofNat 1))).den c = false := eq_f (by rw [ht]; exact g3)
  have k9 := tgt (by omega)
  have sq_t : ∀ n : Nat, s = n → (Bx.cmp BinOp.eql (Sx.bin BinOp.rem IntKind.i64 (Sx.bin BinOp.and IntKind.i64 (Sx.var 1) (Sx.lit (Int.ofNat 3))) (Sx.lit (Int.ofNat 3))) (Sx.lit (Int.ofNat n))).den c = true := fun n h => eq_t (by rw [hs]; exact h)
  have sq_f : ∀ n : Nat, s ≠ n → (Bx.cmp BinOp.eql (Sx.bin BinOp.rem IntKind.i64 (Sx.bin BinOp.and IntKind.i64 (Sx.var 1) (Sx.lit (Int.ofNat 3))) (Sx.lit (Int.ofNat 3))) (Sx.lit (Int.ofNat n))).den c = false := fun n h => eq_f (by rw [hs]; exact h)
  -- the address
  have byte : ∀ j, (Lit.int .u8 (m.ints j)).wf = true → ∃ b : Nat, (Sx.var j).den c = (b : Int) ∧ b < 256 := fun j h => by
    obtain ⟨b, h1, h2⟩ := u8_wf h
    exact ⟨b, by show c.ints j = _; rw [hi, h1], h2⟩
  obtain ⟨b3, e3, l3⟩ := byte 3 w3
  obtain ⟨b4, e4, l4⟩ := byte 4 w4
  obtain ⟨b5, e5, l5⟩ := byte 5 w5
  obtain ⟨b6, e6, l6⟩ := byte 6 w6
  obtain ⟨b7, e7, l7⟩ := byte 7 w7
  obtain ⟨b8, e8, l8⟩ := byte 8 w8
  obtain ⟨b9, e9, l9⟩ := byte 9 w9
  obtain ⟨b10, e10, l10⟩ := byte 10 w10
  obtain ⟨b11, e11, l11⟩ := byte 11 w11
  obtain ⟨b12, e12, l12⟩ := byte 12 w12
  obtain ⟨b13, e13, l13⟩ := byte 13 w13
  obtain ⟨b14, e14, l14⟩ := byte 14 w14
  obtain ⟨b15, e15, l15⟩ := byte 15 w15
  obtain ⟨b16, e16, l16⟩ := byte 16 w16
  obtain ⟨b17, e17, l17⟩ := byte 17 w17
  obtain ⟨b18, e18, l18⟩ := byte 18 w18
  obtain ⟨b19, e19, l19⟩ := byte 19 w19
  obtain ⟨b20, e20, l20⟩ := byte 20 w20
  obtain ⟨b21, e21, l21⟩ := byte 21 w21
  obtain ⟨b22, e22, l22⟩ := byte 22 w22
  have x2 : (chain (.lit (.ofNat 0)) [.var 3, .var 4, .var 5, .var 6]).den c = ((16777216 * b3 + 65536 * b4 + 256 * b5 + b6 : Nat) : Int) := by
    rw [limb_den (c := c) (l := [.var 3, .var 4, .var 5, .var 6]) (r := [b3, b4, b5, b6]) ⟨⟨e3, l3⟩, ⟨e4, l4⟩, ⟨e5, l5⟩, ⟨e6, l6⟩, trivial⟩ (by decide)]
    simp [valN]; omega
  have x1 : (chain (.lit (.ofNat 0)) [.var 7, .var 8, .var 9, .var 10, .var 11, .var 12, .var 13, .var 14]).den c = ((72057594037927936 * b7 + 281474976710656 * b8 + 1099511627776 * b9 + 4294967296 * b10 + 16777216 * b11 + 65536 * b12 + 256 * b13 + b14 : Nat) : Int) := by
    rw [limb_den (c := c) (l := [.var 7, .var 8, .var 9, .var 10, .var 11, .var 12, .var 13, .var 14]) (r := [b7, b8, b9, b10, b11, b12, b13, b14]) ⟨⟨e7, l7⟩, ⟨e8, l8⟩, ⟨e9, l9⟩, ⟨e10, l10⟩, ⟨e11, l11⟩, ⟨e12, l12⟩, ⟨e13, l13⟩, ⟨e14, l14⟩, trivial⟩ (by decide)]
    simp [valN]; omega
  have x0 : (chain (.lit (.ofNat 0)) [.var 15, .var 16, .var 17, .var 18, .var 19, .var 20, .var 21, .var 22]).den c = ((72057594037927936 * b15 + 281474976710656 * b16 + 1099511627776 * b17 + 4294967296 * b18 + 16777216 * b19 + 65536 * b20 + 256 * b21 + b22 : Nat) : Int) := by
    rw [limb_den (c := c) (l := [.var 15, .var 16, .var 17, .var 18, .var 19, .var 20, .var 21, .var 22]) (r := [b15, b16, b17, b18, b19, b20, b21, b22]) ⟨⟨e15, l15⟩, ⟨e16, l16⟩, ⟨e17, l17⟩, ⟨e18, l18⟩, ⟨e19, l19⟩, ⟨e20, l20⟩, ⟨e21, l21⟩, ⟨e22, l22⟩, trivial⟩ (by decide)]
    simp [valN]; omega
  have bb : ∀ {C u : Sx} {x k b : Nat}, C.den c = (x : Int) → u.den c = (b : Int) → k ≤ 64 → x / 2 ^ k % 256 = b → (Bx.b8 (.cvt .u8 (.bin .shr .u64 C (.lit (.ofNat k)))) u).den c = true := fun {C u x k b} hC hu hk hx => b8_t (by rw [sh8_den hC hk, hu, hx])
  have AND := and_t (bb x2 (u := .lit (.ofNat 0)) (b := 0) rfl (k := 56) (by decide) (by omega)) (and_t (bb x2 (u := .lit (.ofNat 0)) (b := 0) rfl (k := 48) (by decide) (by omega)) (and_t (bb x2 (u := .lit (.ofNat 0)) (b := 0) rfl (k := 40) (by decide) (by omega)) (and_t (bb x2 (u := .lit (.ofNat 0)) (b := 0) rfl (k := 32) (by decide) (by omega)) (and_t (bb x2 e3 (k := 24) (by decide) (by omega)) (and_t (bb x2 e4 (k := 16) (by decide) (by omega)) (and_t (bb x2 e5 (k := 8) (by decide) (by omega)) (and_t (bb x2 e6 (k := 0) (by decide) (by omega)) (and_t (bb x1 e7 (k := 56) (by decide) (by omega)) (and_t (bb x1 e8 (k := 48) (by decide) (by omega)) (and_t (bb x1 e9 (k := 40) (by decide) (by omega)) (and_t (bb x1 e10 (k := 32) (by decide) (by omega)) (and_t (bb x1 e11 (k := 24) (by decide) (by omega)) (and_t (bb x1 e12 (k := 16) (by decide) (by omega)) (and_t (bb x1 e13 (k := 8) (by decide) (by omega)) (and_t (bb x1 e14 (k := 0) (by decide) (by omega)) (and_t (bb x0 e15 (k := 56) (by decide) (by omega)) (and_t (bb x0 e16 (k := 48) (by decide) (by omega)) (and_t (bb x0 e17 (k := 40) (by decide) (by omega)) (and_t (bb x0 e18 (k := 32) (by decide) (by omega)) (and_t (bb x0 e19 (k := 24) (by decide) (by omega)) (and_t (bb x0 e20 (k := 16) (by decide) (by omega)) (and_t (bb x0 e21 (k := 8) (by decide) (by omega)) (bb x0 e22 (k := 0) (by decide) (by omega))))))))))))))))))))))))
  by_cases g4 : (1000679 : Int) < v
  · by_cases gs0 : s = 0
    · exact go pa6 hsm ⟨hlen, k2, k3, lim_t 1000679 g4, qs1, qs2, sq_t 0 gs0, not_t (sq_f 1 (by omega)), k9, sq_t 0 gs0, not_t (sq_f 1 (by omega)), AND, trivial⟩ fun _ _ => rfl
    by_cases gs1 : s = 1
    · exact go pa7 hsm ⟨hlen, k2, k3, lim_t 1000679 g4, qs1, qs2, sq_f 0 gs0, not_f (sq_t 1 gs1), k9, sq_f 0 gs0, not_f (sq_t 1 gs1), trivial⟩ fun _ _ => rfl
    · exact go pa8 hsm ⟨hlen, k2, k3, lim_t 1000679 g4, qs1, qs2, sq_f 0 gs0, not_t (sq_f 1 gs1), k9, sq_f 0 gs0, not_t (sq_f 1 gs1), trivial⟩ fun _ _ => rfl
  · have hv2 : v ≤ 2000000 := by omega
    have P := pays (k := 15883) (by omega) (by omega) hv2
    by_cases gs0 : s = 0
    · exact go pa9 hsm ⟨hlen, k2, k3, lim_f 1000679 g4, qs1, qs2, huge 1000679 (by omega), huge 18446744073709535732 (by omega), sq_t 0 gs0, not_t (sq_f 1 (by omega)), P 2 [] (by decide), P 3 [2] (by decide), P 3 [2, 3] (by decide), P 2 [2, 3, 3] (by decide), P 3 [2, 3, 3, 2] (by decide), P 3 [2, 3, 3, 2, 3] (by decide), P 3 [2, 3, 3, 2, 3, 3] (by decide), P 3 [2, 3, 3, 2, 3, 3, 3] (by decide), P 2 [2, 3, 3, 2, 3, 3, 3, 3] (by decide), P 0 [2, 3, 3, 2, 3, 3, 3, 3, 2] (by decide), P 0 [2, 3, 3, 2, 3, 3, 3, 3, 2, 0] (by decide), k9, sq_t 0 gs0, not_t (sq_f 1 (by omega)), AND, trivial⟩ (endT (k := 15883) (by omega) (by omega) hv2)
    by_cases gs1 : s = 1
    · exact go pa10 hsm ⟨hlen, k2, k3, lim_f 1000679 g4, qs1, qs2, huge 1000679 (by omega), huge 18446744073709535732 (by omega), sq_f 0 gs0, not_f (sq_t 1 gs1), P 2 [] (by decide), P 3 [2] (by decide), P 3 [2, 3] (by decide), P 2 [2, 3, 3] (by decide), P 3 [2, 3, 3, 2] (by decide), P 3 [2, 3, 3, 2, 3] (by decide), P 3 [2, 3, 3, 2, 3, 3] (by decide), P 3 [2, 3, 3, 2, 3, 3, 3] (by decide), P 2 [2, 3, 3, 2, 3, 3, 3, 3] (by decide), P 0 [2, 3, 3, 2, 3, 3, 3, 3, 2] (by decide), P 0 [2, 3, 3, 2, 3, 3, 3, 3, 2, 0] (by decide), k9, sq_f 0 gs0, not_f (sq_t 1 gs1), trivial⟩ (endT (k := 15883) (by omega) (by omega) hv2)
    · exact go pa11 hsm ⟨hlen, k2, k3, lim_f 1000679 g4, qs1, qs2, huge 1000679 (by omega), huge 18446744073709535732 (by omega), sq_f 0 gs0, not_t (sq_f 1 gs1), P 2 [] (by decide), P 3 [2] (by decide), P 3 [2, 3] (by decide), P 2 [2, 3, 3] (by decide), P 3 [2, 3, 3, 2] (by decide), P 3 [2, 3, 3, 2, 3] (by decide), P 3 [2, 3, 3, 2, 3, 3] (by decide), P 3 [2, 3, 3, 2, 3, 3, 3] (by decide), P 2 [2, 3, 3, 2, 3, 3, 3, 3] (by decide), P 0 [2, 3, 3, 2, 3, 3, 3, 3, 2] (by decide), P 0 [2, 3, 3, 2, 3, 3, 3, 3, 2, 0] (by decide), k9, sq_f 0 gs0, not_t (sq_f 1 gs1), trivial⟩ (endT (k := 15883) (by omega) (by omega) hv2)
end Go.Proofs.YtgcicoebkjgfoaaGreatDoor.Rn
