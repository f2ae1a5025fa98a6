/- The law GasRows: a row of words written into one slot. No condition beyond the kinds of the numbers. -/
import Derived.Test.YtamllimonjfmiaaG2
import Derived.Test.YtamllimonjfmiaaSh8
namespace Go.Proofs.Ytamllimonjfmiaa.W
open Go Go.Proofs.Ytamllimonjfmiaa.Sh Go.RowKit
set_option linter.unusedVariables false
variable {w W : World} {K : Value → World → Prop} {o l i : Q4}

theorem asA_of {a : Addr} {F : Addr → Prop} (h : F a) : asA (.pointer (some a)) F := h
theorem ldWd {P : Program} {w : World} {a : Addr} {x0 x1 x2 x3 : Int} {F : Int → Int → Int → Int → Prop} (h0 : w.cell? a = some (.int .u64 x0)) (h1 : w.cell? (a.add 1) = some (.int .u64 x1)) (h2 : w.cell? (a.add 2) = some (.int .u64 x2)) (h3 : w.cell? (a.add 3) = some (.int .u64 x3)) (k : F x0 x1 x2 x3) :
    ldK P w a fun v1 => asI .u64 v1 fun n1 => ldK P w (a.add 1) fun v2 => asI .u64 v2 fun n2 => ldK P w (a.add 2) fun v3 => asI .u64 v3 fun n3 => ldK P w (a.add 3) fun v4 => asI .u64 v4 fun n4 => F n1 n2 n3 n4 :=
  ldI h0 (ldI h1 (ldI h2 (ldI h3 k)))
/-- The element at an address, in every later world. -/
theorem word_later {a : Addr} (h : WordAt W a) : ∃ x : Q4, ∀ w, Bl W w → ∀ F : Int → Int → Int → Int → Prop, F x.a x.b x.c x.d →
    ldK Try.prog w a fun v1 => asI .u64 v1 fun n1 => ldK Try.prog w (a.add 1) fun v2 => asI .u64 v2 fun n2 => ldK Try.prog w (a.add 2) fun v3 => asI .u64 v3 fun n3 => ldK Try.prog w (a.add 3) fun v4 => asI .u64 v4 fun n4 => F n1 n2 n3 n4 := by
  obtain ⟨x0, x1, x2, x3, _, _, _, _, h0, h1, h2, h3⟩ := h
  refine ⟨⟨x0, x1, x2, x3⟩, fun w b F k => ?_⟩
  exact ldWd ((Below.cell b (cell_lt h0)).trans h0) ((Below.cell b (cell_lt h1)).trans h1) ((Below.cell b (cell_lt h2)).trans h2) ((Below.cell b (cell_lt h3)).trans h3) k

def floorN (o l : Q4) : Int := if l = o then 0 else if o = Q4.z then 19900 else 2800
theorem stands_floor (o l : Q4) : standsN o l ≤ floorN o l := by unfold standsN floorN; grind
theorem floor_step (o l i : Q4) {paid : Int} (h : floorN o l ≤ paid) (h0 : 0 ≤ paid) : floorN o i ≤ paid + costN o l i := by unfold floorN costN at *; grind
theorem want_eq (o l i : Q4) (paid back : Int) (h : paid - back = standsN o l) : paid + costN o l i - (back + backN o l i) = standsN o i := by unfold backN; omega

theorem rows_end (k : ∀ w', Bl w w' → K (.bool true) w') : J10_0 K w := by
  unfold J10_0
  refine storeW (o := ⟨5, 0, 0, 0⟩) (l := ⟨5, 0, 0, 0⟩) (i := Q4.z) fun w1 b1 => t2 ?_
  refine ifB_t (by decide +kernel) ?_
  rw [show (backN ⟨5, 0, 0, 0⟩ ⟨5, 0, 0, 0⟩ Q4.z == 4800) = true by decide +kernel]
  exact k w1 b1

theorem rows_loop {p : Option Addr} {n c : Nat} {bo bl : Nat} (hn : n ≤ 1048576) (hp : 0 < n → ∃ a, p = some a ∧ ∀ j, j < n → WordAt W (a.add (j * 4))) (k : ∀ w', Bl W w' → K (.bool true) w') (hne : bo ≠ bl) (hbl : W.heap.size ≤ bl) :
    ∀ (m j : Nat) (l : Q4) (paid back : Int) (w : World), j + m = n → WQ w bo o → WQ w bl l → Bl W w → paid - back = standsN o l → floorN o l ≤ paid → 0 ≤ paid → paid ≤ 19900 * j →
      L10_1 K (m + 1) p n c ⟨bo, 0, none⟩ ⟨bl, 0, none⟩ paid back j w := by
  intro m
  induction m with
  | zero =>
    intro j l paid back w hj ho hl hW h1 h2 h3 h4
    simp only [L10_1]
    refine ifD (fun h => by omega) fun _ => rows_end fun w' b => k w' (hW.trans b)
  | succ m ih =>
    intro j l paid back w hj ho hl hW h1 h2 h3 h4
    rw [L10_1]
    refine ifD (fun h => ?_) fun h => by omega
    obtain ⟨a, rfl, ha⟩ := hp (by omega)
    obtain ⟨i, hi⟩ := word_later (ha j (by omega))
    have hd : Bl w w.drew := (Bl.refl w).drew
    have c1 := cost_in o l i
    have c2 := stands_in o l
    have c3 := stands_in o i
    have ix : ∀ (w : World) (F : Value → World → Prop), F (.pointer (some (a.add (j * 4)))) w → semK Try.prog (Instr.indexAt 45 (.slice (some a) n c) (.int .i64 j)) w F := fun w F hF =>
      ixS (e := 39) (z := 4) (by kernel_rfl) (by kernel_rfl) (by omega) (by omega) (by simpa using hF)
    refine ldQ ho.drew (ldQ hl.drew (ix _ _ (asA_of (hi _ (hW.trans hd) _ (storeW (i := i) fun w3 b3 => t2 (ifD (fun h => by omega) fun _ => ix _ _ (asA_of (hi _ ((hW.trans hd).trans b3) _ ?_))))))))
    refine stAll (vs := #[.int .u64 i.a, .int .u64 i.b, .int .u64 i.c, .int .u64 i.d]) (hl.drew.bl b3) (by kernel_rfl) rfl (by kernel_rfl) fun w5 g5 e5 => ?_
    have ho5 : WQ w5 bo o := (ho.drew.bl b3).ext e5 fun h => hne h
    have hl5 : WQ w5 bl i := g5
    have hW5 : Bl W w5 := (((Ext.of_bl ((hW.trans hd).trans b3)).trans e5 (S := fun k => k = bl) fun k _ h => h)).bl fun k hk h => by omega
    have hw := want_eq o l i paid back h1
    have hf := floor_step o l i h2 h3
    have hs := stands_floor o i
    have eb : IntKind.wrap .i64 (back + backN o l i) = back + backN o l i := i64w (by omega) (by omega)
    have ec : IntKind.wrap .i64 (costN o l i) = costN o l i := i64w (by omega) (by omega)
    have ep : IntKind.wrap .i64 (paid + costN o l i) = paid + costN o l i := i64w (by omega) (by omega)
    rw [eb]
    refine ifD (fun h => by omega) fun _ => ?_
    rw [ec, ep]
    have go : ∀ x : Int, x = standsN o i → J10_2 K (L10_1 K (m + 1)) (some a) n c ⟨bo, 0, none⟩ ⟨bl, 0, none⟩ (paid + costN o l i) (back + backN o l i) j x w5 := by
      rintro x rfl
      unfold J10_2
      rw [show IntKind.wrap .i64 (paid + costN o l i - (back + backN o l i)) = standsN o i by rw [hw]; exact i64w (by omega) (by omega), show IntKind.wrap .i64 ((j : Int) + 1) = ((j + 1 : Nat) : Int) by rw [i64w (by omega) (by omega)]; rfl]
      refine ifNe (fun h => absurd rfl h) fun _ => ?_
      exact ih (j + 1) i _ _ w5 (by omega) ho5 hl5 hW5 hw hf (by omega) (by omega)
    refine ldQ hl5 (ldQ ho5 (if4 (fun e => go _ ?_) fun e => ldQ ho5 (if4 (y := Q4.z) (fun e2 => go _ ?_) fun e2 => ldQ hl5 (if4 (y := Q4.z) (fun e3 => go _ ?_) fun e3 => go _ ?_))))
    all_goals (unfold standsN; grind)

theorem gasRows {p : Option Addr} {n c : Nat} (hp : 0 < n → ∃ a, p = some a ∧ ∀ j, j < n → WordAt W (a.add (j * 4))) (k : ∀ w', Bl W w' → K (.bool true) w') : CallV Try.prog 10 #[o.v, .slice p n c] W K := by
  refine call10 o.a o.b o.c o.d p n c W K ?_
  unfold F10
  refine alQ fun w1 h1 b1 s1 => ifD (fun _ => k w1 b1) fun h => ldQ h1 (alQ (x := Q4.z) fun w2 h2 b2 s2 => ?_)
  refine stAll (vs := #[.int .u64 o.a, .int .u64 o.b, .int .u64 o.c, .int .u64 o.d]) h2 (by kernel_rfl) rfl (by kernel_rfl) fun w3 g3 e3 => ?_
  refine ⟨n + 1, rows_loop (o := o) (bo := W.heap.size) (bl := w1.heap.size) (by omega) hp k (by omega) (by omega) n 0 o 0 0 w3 (by omega) ((h1.bl b2).ext e3 fun h => by omega) g3 ?_ ?_ ?_ (by decide) (by decide)⟩
  · exact ((Ext.of_bl (b1.trans b2)).trans e3 (S := fun k => k = w1.heap.size) fun k _ h => h).bl fun k hk h => by omega
  · unfold standsN; rw [if_pos rfl]; rfl
  · unfold floorN; rw [if_pos rfl]; decide
theorem gasRows_walk (a b c e : Int) (p : Option Addr) (n cc : Nat) (W : World) {p0 p1 p2 p3 p4 : Prop} (_ : p0) (_ : p1) (_ : p2) (_ : p3) (_ : p4) (hp : 0 < n → ∃ a, p = some a ∧ ∀ j, j < n → WordAt W (a.add (j * 4))) :
    Calls Try.prog 10 #[.agg #[.int .u64 a, .int .u64 b, .int .u64 c, .int .u64 e], .slice p n cc] W fun e W' => e = .returned (.bool true) ∧ Below W.heap.size W W' :=
  Calls.mono (gasRows (o := ⟨a, b, c, e⟩) (K := fun v w' => v = .bool true ∧ Below W.heap.size W w') hp fun w' b => ⟨rfl, b⟩) fun e w' ⟨v, he, hv, hb⟩ => ⟨by rw [he, hv], hb⟩
end Go.Proofs.Ytamllimonjfmiaa.W
