/- Joined out of own texts. No condition: it holds of every program, or of this one by what is shown here. -/
import Derived.Test.YtcanicgpkbhhdaaGreatDoorZb6
import Derived.Test.YtcanicgpkbhhdaaGreatDoorZb7
import Derived.Test.YtcanicgpkbhhdaaGreatDoorZb8
import Derived.Test.YtcanicgpkbhhdaaGreatDoorZb9
import Derived.Test.YtcanicgpkbhhdaaGreatDoorZb10
import Derived.Test.YtcanicgpkbhhdaaGreatDoorZb11
set_option linter.unusedSectionVars false
set_option linter.constructorNameAsVariable false
set_option linter.unusedVariables false
set_option linter.unusedSimpArgs false
namespace Go.Proofs.YtcanicgpkbhhdaaGreatDoor.Rn
open Go Go.RowKit Go.Proofs.YtcanicgpkbhhdaaGreatDoor.Sh
set_option linter.unusedVariables false
set_option linter.unusedSimpArgs false
theorem u64_wf {n : Int} (h : (Lit.int .u64 n).wf = true) : 0 ≤ n ∧ n < 18446744073709551616 := by
  have h : IntKind.u64.min ≤ n ∧ n ≤ IntKind.u64.max := by simpa [Lit.wf] using h
  rw [show IntKind.u64.min = 0 from rfl, show IntKind.u64.max = 18446744073709551615 from rfl] at h
  omega
theorem andL_t {c : Cx} : ∀ {l : List Bx}, (∀ b ∈ l, b.den c = true) → (andL l).den c = true
  | [], _ => rfl
  | [a], h => h a List.mem_cons_self
  | a :: b :: l, h => and_t (h a List.mem_cons_self) (andL_t fun x hx => h x (List.mem_cons_of_mem _ hx))
theorem and4095 (x : Int) : 0 ≤ arithI .and .i64 x 4095 ∧ arithI .and .i64 x 4095 ≤ 4095 := by
  have h : ∃ m : Nat, m ≤ 4095 ∧ arithI .and .i64 x 4095 = IntKind.i64.wrap (m : Int) := ⟨(BitVec.ofInt 64 x &&& BitVec.ofInt 64 4095).toNat, by rw [BitVec.toNat_and]; exact Nat.and_le_right, rfl⟩
  obtain ⟨m, h1, h2⟩ := h
  rw [h2, i64w (by omega) (by omega)]
  omega
section
variable {c : Cx} {n : Nat} {a : Int}
/-- What is known of a way within the data. -/
structure DataOK (c : Cx) (n : Nat) (a : Int) : Prop where
  x : xD.den c = a
  u : lD.den c = (n : Int)
  l : (Sx.len 1000).den c = (n : Int)
  li : (c.lists 0).length = n
  a0 : 0 ≤ a
  lt : a < n
  n6 : n ≤ 60000
theorem DataOK.add (h : DataOK c n a) (i : Nat) (hi : i ≤ 1000) : (addD i).den c = a + i := by
  have := h.a0
  have := h.lt
  have := h.n6
  have e1 : (Sx.cvt .i64 xD).den c = a := by
    show IntKind.i64.wrap (xD.den c) = a
    rw [h.x, i64w (by omega) (by omega)]
  show IntKind.i64.wrap ((Sx.cvt .i64 xD).den c + (i : Int)) = _
  rw [e1, i64w (by omega) (by omega)]
theorem DataOK.inn (h : DataOK c n a) : inD.den c = true := lt_t (by rw [h.x, h.u]; exact h.lt)
theorem DataOK.step (h : DataOK c n a) {i : Nat} (hi : i ≤ 1000) (hl : a + i < n) : ∀ p ∈ stepD i, p.1.den c = p.2 := by
  refine allE_ok ⟨ge_t ?_, lt_t ?_, trivial⟩
  · rw [h.add i hi]; show a + (i : Int) ≥ 0; have := h.a0; omega
  · rw [h.add i hi, h.l]; exact hl
theorem DataOK.rest (h : DataOK c n a) : ∀ {m i : Nat}, i + m ≤ 1000 → ¬ a + i < n → ∀ p ∈ restD i m, p.1.den c = p.2
  | 0, i, _, _, p, hp => by cases hp
  | m + 1, i, hi, hl, p, hp => by
    rcases List.mem_cons.1 hp with rfl | hp
    · exact h.inn
    rcases List.mem_cons.1 hp with rfl | hp
    · exact lt_f (by rw [h.add i (by omega), h.l]; exact hl)
    · exact h.rest (m := m) (i := i + 1) (by omega) (by omega) p hp
theorem DataOK.eq (h : DataOK c n a) {k : Nat} (hk : k ≤ 64) (h1 : ∀ j, j < k → a + j < n) (h2 : k < 64 → ¬ a + k < n) : ∀ {m j : Nat}, j + m ≤ 64 → ∀ b ∈ eqD k j m, b.den c = true
  | 0, j, _, b, hb => by cases hb
  | m + 1, j, hj, b, hb => by
    rcases List.mem_cons.1 hb with rfl | hb
    · refine b8_t ?_
      have ha : (xD.den c).toNat = a.toNat := by rw [h.x]
      have hx : (Sx.byt 0 1 xD j).den c = (((c.lists 0).getD (a.toNat + j) 0).toNat : Int) := by
        show ((((c.lists 0).getD (1 * (xD.den c).toNat + j) 0).toNat : Nat) : Int) = _
        rw [ha, Nat.one_mul]
      rw [hx]
      unfold rowD
      cases hb : Nat.ble (j + 1) k with
      | true =>
        rw [Nat.ble_eq] at hb
        show _ = ((((c.lists 0).getD (1 * ((addD j).den c).toNat + 0) 0).toNat : Nat) : Int)
        rw [h.add j (by omega)]
        have := h.a0
        rw [show (1 * (a + (j : Int)).toNat + 0) = a.toNat + j by omega]
      | false =>
        have hjk : ¬ j + 1 ≤ k := fun e => by
          rw [← Nat.ble_eq, hb] at e; cases e
        have hout : (c.lists 0).length ≤ a.toNat + j := by
          rw [h.li]
          have := h2 (by omega)
          have := h.a0
          omega
        rw [List.getD_eq_getElem?_getD, List.getElem?_eq_none hout]
        rfl
    · exact h.eq hk h1 h2 (m := m) (j := j + 1) (by omega) b hb
theorem DataOK.fin (h : DataOK c n a) {k : Nat} (hk : k ≤ 64) (h1 : ∀ j, j < k → a + j < n) (h2 : k < 64 → ¬ a + k < n) : (finD k).den c = true := by
  refine andL_t fun b hb => ?_
  rcases List.mem_append.1 hb with hb | hb
  · exact h.eq hk h1 h2 (by omega) b hb
  · exact h.eq hk h1 h2 (by omega) b hb
theorem DataOK.tree (h : DataOK c n a) {e : Nat} (he : e ≤ 64) (hE : e < 64 → ¬ a + e < n) : ∀ {m i : Nat}, 0 < m → i + m = e → (∀ j, j < i → a + j < n) → fkOK c (treeD e m i)
  | 0, i, h0, _, _ => absurd h0 (Nat.lt_irrefl _)
  | 1, i, _, hi, h1 => by
    refine ⟨fun hb => ?_, fun hb => ?_⟩
    · have hlt : a + i < n := by
        have := of_decide_eq_true hb
        rw [h.add i (by omega), h.l] at this
        exact this
      refine ⟨fun p hp => ?_, h.fin he (fun j hj => ?_) hE⟩
      · rcases List.mem_append.1 hp with hp | hp
        · exact h.step (by omega) hlt p hp
        · by_cases he2 : e < 64
          · exact h.rest (by omega) (hE he2) p hp
          · have : 64 - e = 0 := by omega
            rw [this] at hp
            cases hp
      · by_cases hji : j < i
        · exact h1 j hji
        · have : j = i := by omega
          rw [this]; exact hlt
    · have hlt : ¬ a + i < n := fun e => by
        have := of_decide_eq_false hb
        rw [h.add i (by omega), h.l] at this
        exact this e
      exact ⟨h.rest (by omega) (by omega), h.fin (by omega) h1 fun _ => hlt⟩
  | m + 2, i, _, hi, h1 => by
    refine ⟨fun hb => ?_, fun hb => ?_⟩
    · have hlt : a + i < n := by
        have := of_decide_eq_true hb
        rw [h.add i (by omega), h.l] at this
        exact this
      refine ⟨fun p hp => ?_, h.tree he hE (m := m + 1) (i := i + 1) (Nat.succ_pos _) (by omega) fun j hj => ?_⟩
      · rcases List.mem_append.1 hp with hp | hp
        · exact h.step (by omega) hlt p hp
        · rcases List.mem_cons.1 hp with rfl | hp
          · exact h.inn
          · cases hp
      · by_cases hji : j < i
        · exact h1 j hji
        · have : j = i := by omega
          rw [this]; exact hlt
    · have hlt : ¬ a + i < n := fun e => by
        have := of_decide_eq_false hb
        rw [h.add i (by omega), h.l] at this
        exact this e
      exact ⟨h.rest (by omega) (by omega), h.fin (by omega) h1 fun _ => hlt⟩
theorem allE_app {c : Cx} : ∀ {l r : List (Bx × Bool)}, allE c l → allE c r → allE c (l ++ r)
  | [], r, _, h => h
  | (b, o) :: l, r, h, k => ⟨h.1, allE_app h.2 k⟩
theorem DataOK.known (h : DataOK c n a) : ∀ {m i : Nat}, i + m ≤ 1000 → (∀ j, j < i + m → a + j < n) → allE c (knownD i m)
  | 0, i, _, _ => trivial
  | m + 1, i, hi, h1 => by
    have hl := h1 i (by omega)
    have z1 : (ltD i).den c = true := lt_t (by rw [h.add i (by omega), h.l]; exact hl)
    have z2 : (Bx.cmp .geq (addD i) (.lit (.ofNat 0))).den c = true := ge_t (by rw [h.add i (by omega)]; show a + (i : Int) ≥ 0; have := h.a0; omega)
    exact ⟨h.inn, z1, z2, z1, h.known (m := m) (i := i + 1) (by omega) fun j hj => h1 j (by omega)⟩
end
theorem repB_ok {c : Cx} {b : Bx × Bool} (h : b.1.den c = b.2) : ∀ {n : Nat}, allE c (repB b n)
  | 0 => trivial
  | n + 1 => ⟨h, repB_ok h⟩
theorem stepData_walk (p0 : Option Addr) (n0 k0 : Nat) (x0 : List UInt8) (b a : Int) (W : World)
    (z0 : 0 < 1) (m0 : n0 ≤ maxLen) (s0 : Sees W 1 p0 n0 k0 (u8s x0)) (wb : (Lit.int .i64 b).wf = true) (wa : (Lit.int .u64 a).wf = true) :
    Calls Tryz.prog 7 #[.slice p0 n0 k0, .int .i64 b, .int .u64 a] W fun e W' => e = .returned (.bool true) ∧ Below W.heap.size W W' := by
  have hls : LvsOK W leavesD [.slice p0 n0 k0, .int .i64 b, .int .u64 a] := ⟨⟨p0, n0, k0, x0, rfl, z0, m0, s0⟩, ⟨b, rfl, wb⟩, ⟨a, rfl, wa⟩, trivial⟩
  obtain ⟨m, _, he, hok⟩ := sym_of (i := 0) (b := 0) ms0 hls
  have hargs : V.denL m.cx argsD = [.slice p0 n0 k0, .int .i64 b, .int .u64 a] := he.symm
  simp only [leavesD, symL, V.denL, List.cons.injEq] at he
  obtain ⟨e0, e1, e2, _⟩ := he
  have hn0 : (m.sv 0).2.1 = n0 := by
    simp only [V.den, Value.slice.injEq] at e0
    exact e0.2.1.symm
  have hxa : xD.den m.cx = a := by
    simp only [V.den, Value.int.injEq, true_and] at e2
    exact e2.symm
  have hsym := hok
  obtain ⟨⟨_, _, hsee⟩, _, _, _⟩ := hok
  have hl : ∀ sm : Bool, (rowsO sm leavesD 0).length = 1 := fun sm => by cases sm <;> rfl
  have hrep : ∀ {sm : Bool} {E : List (Bx × Bool)}, (sm = true → n0 ≤ 1073741824) → allE m.cx E → Rep m.cx (bs0 W) W (hoL (rowsO sm leavesD 0) E) := fun {sm E} hsm hE =>
    rep_sym (W := W) (sm := sm) hsym (by rw [hl]; decide) (fun e j hj => by
      rw [hl] at hj
      obtain rfl : j = 0 := by omega
      rw [hn0]; exact hsm e) hE
  have hlt : ∀ {sm : Bool} {E : List (Bx × Bool)}, V.ltL (hoL (rowsO sm leavesD 0) E).next argsD := fun {sm E} => ⟨by show 0 < (rowsO sm leavesD 0).length; rw [hl]; decide, trivial, trivial, trivial⟩
  have go : ∀ {sm : Bool} {E : List (Bx × Bool)}, endB (callV Tryz.prog X0 100000 100 (.fn 7 [] []) argsD (hoL (rowsO sm leavesD 0) E)) (.bool true) = true → (sm = true → n0 ≤ 1073741824) → allE m.cx E → Calls Tryz.prog 7 #[.slice p0 n0 k0, .int .i64 b, .int .u64 a] W fun e W' => e = .returned (.bool true) ∧ Below W.heap.size W W' := fun {sm E} hrun hsm hE => by
    have := path_run (hrep hsm hE) (args := argsD) hlt ⟨_, List.mem_cons_self, fun k n h => by cases h⟩ hrun
    rw [hargs] at this
    refine Calls.mono this ?_
    rintro e W' ⟨⟨c', g1, rfl⟩, g2⟩
    exact ⟨rfl, g2⟩
  have hmx : maxLen = 9223372036854775807 := rfl
  obtain ⟨a0, a1⟩ := u64_wf wa
  have l0 : (Sx.len 1000).den m.cx = (n0 : Int) := by
    show (((if 1000 < 1000 then m.lists 1000 else List.replicate (m.sv (1000 - 1000)).2.1 0).length : Nat) : Int) = _
    rw [if_neg (by omega), List.length_replicate, hn0]
  by_cases g1 : n0 > 60000
  · exact go pd1 (fun h => by cases h) ⟨gt_t (by rw [l0]; show (n0 : Int) > 60000; omega), trivial⟩
  have u0 : lD.den m.cx = (n0 : Int) := by show IntKind.u64.wrap ((Sx.len 1000).den m.cx) = _; rw [l0, w64 (by omega) (by omega)]
  have hsz : ∃ d : Int, 0 ≤ d ∧ d ≤ 4095 ∧ sizeD.den m.cx = n0 + d := by
    refine ⟨arithI .and .i64 (IntKind.i64.wrap (m.cx.ints 0)) 4095, (and4095 _).1, (and4095 _).2, ?_⟩
    have h4 := and4095 (IntKind.i64.wrap (m.cx.ints 0))
    show IntKind.i64.wrap ((Sx.len 1000).den m.cx + arithI .and .i64 (IntKind.i64.wrap (m.cx.ints 0)) 4095) = _
    rw [l0, i64w (by omega) (by omega)]
  obtain ⟨d, d0, d1, hd⟩ := hsz
  have q1 : (Bx.cmp .gtr (.len 1000) (.lit (.ofNat 60000))).den m.cx = false := gt_f (by rw [l0]; show ¬ (n0 : Int) > 60000; omega)
  have q2 : (Bx.cmp .gtr sizeD (.lit (.ofNat 65535))).den m.cx = false := gt_f (by rw [hd]; show ¬ (n0 : Int) + d > 65535; omega)
  have q3 : (Bx.cmp .lss sizeD (.len 1000)).den m.cx = false := lt_f (by rw [hd, l0]; omega)
  by_cases g2 : a < n0
  · have hli : (m.cx.lists 0).length = n0 := by
      have := hsee.len
      rw [u8s_len, Nat.mul_one, hn0] at this
      exact this
    have D : DataOK m.cx n0 a := ⟨hxa, u0, l0, hli, a0, g2, by omega⟩
    have hin := D.inn
    have run : ∀ {s e k : Nat}, e ≤ 64 → 0 < e - s → s + (e - s) = e → (∀ j, j < s → a + j < n0) → (e < 64 → ¬ a + e < n0) → fnT Tryz.prog (callV Tryz.prog X0 100000 99) 100000 Tryz.f7 argsD (hoL (rowsO true leavesD 0) (firstD s)) (treeD e (e - s) s) endT = true → Calls Tryz.prog 7 #[.slice p0 n0 k0, .int .i64 b, .int .u64 a] W fun e W' => e = .returned (.bool true) ∧ Below W.heap.size W W' := fun {s e k} he hpos hse h1 h2 hrun => by
      have hE : allE m.cx (firstD s) := allE_app (l := preD) ⟨q1, q2, q3, trivial⟩ (allE_app ⟨hin, ge_t (by rw [hxa]; exact a0), decide_eq_true (by rw [hxa, l0]; omega), hin, trivial⟩ (allE_app (D.known (by omega) fun j hj => h1 j (by omega)) ⟨hin, trivial⟩))
      have := fork_run (f := 7) Tryz.func7 (hrep (sm := true) (fun _ => by omega) hE) (args := argsD) hlt (D.tree he h2 hpos hse h1) hrun
      rw [hargs] at this
      exact this
    by_cases k1 : a + 16 < n0
    · by_cases k2 : a + 32 < n0
      · by_cases k3 : a + 48 < n0
        · exact run (s := 49) (e := 64) (k := 0) (by decide) (by decide) rfl (fun j hj => by omega) (fun e => absurd e (by decide)) pd6
        · exact run (s := 33) (e := 48) (k := 0) (by decide) (by decide) rfl (fun j hj => by omega) (fun _ => by simpa using k3) pd5
      · exact run (s := 17) (e := 32) (k := 0) (by decide) (by decide) rfl (fun j hj => by omega) (fun _ => by simpa using k2) pd4
    · exact run (s := 1) (e := 16) (k := 0) (by decide) (by decide) rfl (fun j hj => by omega) (fun _ => by simpa using k1) pd3
  · exact go pd2 (fun _ => by omega) ⟨q1, q2, q3, repB_ok (lt_f (by rw [hxa, u0]; exact g2))⟩
end Go.Proofs.YtcanicgpkbhhdaaGreatDoor.Rn
