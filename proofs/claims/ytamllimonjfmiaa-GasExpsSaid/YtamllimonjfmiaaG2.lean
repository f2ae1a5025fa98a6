/- The words: same, zero, what stands, what a slot costs; the law GasStores. No condition beyond the kinds of the numbers. -/
import Derived.Test.YtamllimonjfmiaaW0
import Derived.Test.YtamllimonjfmiaaSh7
import Derived.OpenShut
namespace Go.Proofs.Ytamllimonjfmiaa.W
open Go Go.Proofs.Ytamllimonjfmiaa.Sh Go.RowKit
set_option linter.unusedVariables false
variable {w : World} {K : Value → World → Prop}

/-- Four numbers. -/
structure Q4 where
  a : Int
  b : Int
  c : Int
  d : Int
instance : DecidableEq Q4 := fun x y => decidable_of_iff (x.a = y.a ∧ x.b = y.b ∧ x.c = y.c ∧ x.d = y.d) (by cases x; cases y; simp)
def Q4.v (x : Q4) : Value := .agg #[.int .u64 x.a, .int .u64 x.b, .int .u64 x.c, .int .u64 x.d]
def Q4.z : Q4 := ⟨0, 0, 0, 0⟩
def Q4.ok (x : Q4) : Prop := (0 ≤ x.a ∧ x.a ≤ 18446744073709551615) ∧ (0 ≤ x.b ∧ x.b ≤ 18446744073709551615) ∧ (0 ≤ x.c ∧ x.c ≤ 18446744073709551615) ∧ (0 ≤ x.d ∧ x.d ≤ 18446744073709551615)
/-- A block holds them. -/
def WQ (w : World) (b : Nat) (x : Q4) : Prop := Own w b #[.int .u64 x.a, .int .u64 x.b, .int .u64 x.c, .int .u64 x.d] 39
variable {x y z o l i : Q4}
theorem alQ {F : World → Prop} (h : ∀ w', WQ w' w.heap.size x → Bl w w' → w'.heap.size = w.heap.size + 1 → F w') : allocK w (.cells #[.int .u64 x.a, .int .u64 x.b, .int .u64 x.c, .int .u64 x.d] 39) F :=
  h _ (Own.new _ _ _) ((Bl.refl w).alloc _) (size_alloc _ _)
theorem ldQ {w : World} {b : Nat} {F : Int → Int → Int → Int → Prop} (h : WQ w b x) (k : F x.a x.b x.c x.d) :
    ldK Try.prog w ⟨b, 0, none⟩ fun v1 => asI .u64 v1 fun n1 => ldK Try.prog w ⟨b, 1, none⟩ fun v2 => asI .u64 v2 fun n2 => ldK Try.prog w ⟨b, 2, none⟩ fun v3 => asI .u64 v3 fun n3 => ldK Try.prog w ⟨b, 3, none⟩ fun v4 => asI .u64 v4 fun n4 => F n1 n2 n3 n4 := ld4 h.w4 k
theorem if4 {p q : Prop} (h1 : x = y → p) (h2 : x ≠ y → q) : ifB ((x.a == y.a) && ((x.b == y.b) && ((x.c == y.c) && (x.d == y.d)))) p q := by
  cases x; cases y
  refine ifBb (fun h => h1 ?_) fun h => h2 fun e => ?_
  · simp only [Bool.and_eq_true, beq_iff_eq] at h; simp [h]
  · simp only [Q4.mk.injEq] at e; simp [e] at h
theorem if4n {p q : Prop} (h1 : x ≠ y → p) (h2 : x = y → q) : ifB (!((x.a == y.a) && ((x.b == y.b) && ((x.c == y.c) && (x.d == y.d))))) p q := by
  cases x; cases y
  refine ifBb (fun h => h1 fun e => ?_) fun h => h2 ?_
  · simp only [Q4.mk.injEq] at e; simp [e] at h
  · simp only [Bool.not_eq_false', Bool.and_eq_true, beq_iff_eq] at h; simp [h]

theorem t2 {k k' : IntKind} {n m : Int} {F : Int → Int → Prop} (h : F n m) : asT (.tuple #[.int k n, .int k' m]) fun t0 => asHd t0 fun a t1 => asI k a fun n => asHd t1 fun b t2 => asI k' b fun m => asEnd t2 (F n m) :=
  show asI k (.int k n) fun n => asI k' (.int k' m) fun m => F n m from asI_of (asI_of h)
theorem same (k : ∀ w', Bl w w' → K (.bool (decide (x = y))) w') : CallV Try.prog 40 #[x.v, y.v] w K := by
  refine call40 x.a x.b x.c x.d y.a y.b y.c y.d w K ?_
  unfold F40
  refine alQ fun w1 h1 b1 s1 => alQ fun w2 h2 b2 s2 => ?_
  have h1 := h1.bl b2
  have kk := k w2 (b1.trans b2)
  have kf : ¬ x = y → K (.bool false) w2 := fun h => by rw [decide_eq_false h] at kk; exact kk
  refine ldI h1.w4.c0 (ldI h2.w4.c0 (ifE (fun e0 => ldI h1.w4.c1 (ldI h2.w4.c1 (ifE (fun e1 => ldI h1.w4.c2 (ldI h2.w4.c2 (ifE (fun e2 => ldI h1.w4.c3 (ldI h2.w4.c3 ?_)) fun e => kf ?_))) fun e => kf ?_))) fun e => kf ?_))
  · have : decide (x = y) = (x.d == y.d) := by
      cases x; cases y
      simp only [Q4.mk.injEq] at *
      simp [e0, e1, e2, Bool.beq_eq_decide_eq]
    rw [this] at kk; exact kk
  all_goals (intro h; rw [h] at e; exact e rfl)

theorem zero (k : ∀ w', Bl w w' → K (.bool (decide (x = Q4.z))) w') : CallV Try.prog 41 #[x.v] w K := by
  refine call41 x.a x.b x.c x.d w K ?_
  unfold F41
  refine alQ fun w1 h1 b1 s1 => ?_
  have kk := k w1 b1
  have kf : ¬ x = Q4.z → K (.bool false) w1 := fun h => by rw [decide_eq_false h] at kk; exact kk
  refine ldI h1.w4.c0 (ifE (fun e0 => ldI h1.w4.c1 (ifE (fun e1 => ldI h1.w4.c2 (ifE (fun e2 => ldI h1.w4.c3 ?_) fun e => kf ?_)) fun e => kf ?_)) fun e => kf ?_)
  · have : decide (x = Q4.z) = (x.d == 0) := by
      cases x
      simp only [Q4.z, Q4.mk.injEq] at *
      simp [e0, e1, e2, Bool.beq_eq_decide_eq]
    rw [this] at kk; exact kk
  all_goals (intro h; rw [h] at e; exact e rfl)

def standsN (o l : Q4) : Int := if o = l then 0 else if o = Q4.z then 19900 else if l = Q4.z then -2000 else 2800
theorem stands (k : ∀ w', Bl w w' → K (.int .i64 (standsN o l)) w') : CallV Try.prog 42 #[o.v, l.v] w K := by
  refine call42 o.a o.b o.c o.d l.a l.b l.c l.d w K ?_
  unfold F42
  refine alQ fun w1 h1 b1 s1 => alQ fun w2 h2 b2 s2 => ?_
  have h1 := h1.bl b2
  refine ldQ h1 (ldQ h2 (same fun w3 b3 => asB_of (ifDB (fun e => ?_) fun e => ldQ (h1.bl b3) (zero fun w4 b4 => asB_of (ifDB (fun e2 => ?_) fun e2 => ldQ ((h2.bl b3).bl b4) (zero fun w5 b5 => asB_of (ifDB (fun e3 => ?_) fun e3 => ?_)))))))
  · have := k w3 ((b1.trans b2).trans b3); unfold standsN at this; rw [if_pos e] at this; exact this
  · have := k w4 (((b1.trans b2).trans b3).trans b4); unfold standsN at this; rw [if_neg e, if_pos e2] at this; exact this
  · have := k w5 ((((b1.trans b2).trans b3).trans b4).trans b5); unfold standsN at this; rw [if_neg e, if_neg e2, if_pos e3] at this; exact this
  · have := k w5 ((((b1.trans b2).trans b3).trans b4).trans b5); unfold standsN at this; rw [if_neg e, if_neg e2, if_neg e3] at this; exact this

/-- What a word in a slot costs. -/
def costN (o l i : Q4) : Int := if o = l ∧ ¬ l = i then (if o = Q4.z then 19900 else 2800) else 0
def backN (o l i : Q4) : Int := costN o l i + standsN o l - standsN o i
theorem stands_in (o l : Q4) : -2000 ≤ standsN o l ∧ standsN o l ≤ 19900 := by unfold standsN; repeat' split
                                                                               all_goals omega
theorem cost_in (o l i : Q4) : 0 ≤ costN o l i ∧ costN o l i ≤ 19900 := by unfold costN; repeat' split
                                                                           all_goals omega

theorem storeRef_end {c : Int} {bo bl bi : Nat} (ho : WQ w bo o) (hl : WQ w bl l) (hi : WQ w bi i) (hc : c = costN o l i) (k : ∀ w', Bl w w' → K (.tuple #[.int .u64 (costN o l i), .int .i64 (backN o l i)]) w') :
    J36_0 K ⟨bo, 0, none⟩ ⟨bl, 0, none⟩ ⟨bi, 0, none⟩ c w := by
  unfold J36_0
  have hd : Bl w w.drew := (Bl.refl w).drew
  have c1 := cost_in o l i
  have c2 := stands_in o l
  have c3 := stands_in o i
  refine ldQ ho.drew (ldQ hl.drew (ldQ ho.drew (ldQ hi.drew (stands fun w1 b1 => asI_of ⟨ldQ (ho.drew.bl b1) rfl, ldQ (hi.drew.bl b1) rfl, stands fun w2 b2 => asI_of ?_⟩))))
  have := k w2 ((hd.trans b1).trans b2)
  rw [show IntKind.wrap .u64 c = costN o l i by rw [u64w, hc]; omega, hc, show IntKind.wrap .i64 (costN o l i + standsN o l) = costN o l i + standsN o l from i64w (by omega) (by omega), show IntKind.wrap .i64 (costN o l i + standsN o l - standsN o i) = backN o l i from i64w (by omega) (by omega)]
  exact this

theorem storeRef (k : ∀ w', Bl w w' → K (.tuple #[.int .u64 (costN o l i), .int .i64 (backN o l i)]) w') : CallV Try.prog 36 #[o.v, l.v, i.v] w K := by
  refine call36 o.a o.b o.c o.d l.a l.b l.c l.d i.a i.b i.c i.d w K ?_
  unfold F36
  refine alQ fun w1 h1 b1 s1 => alQ fun w2 h2 b2 s2 => alQ fun w3 h3 b3 s3 => ?_
  have h1 := (h1.bl b2).bl b3
  have h2 := h2.bl b3
  have b := (b1.trans b2).trans b3
  refine ldQ h1 (ldQ h2 (same fun w4 b4 => asB_of (ifDB (fun e => ldQ (h2.bl b4) (ldQ (h3.bl b4) (same fun w5 b5 => asB_of ?_))) fun e => ?_)))
  · unfold J36_1
    refine ifBb (fun e2 => ?_) fun e2 => ?_
    · have e2 : ¬ l = i := by simpa using e2
      refine ldQ ((h1.bl b4).bl b5) (zero fun w6 b6 => asB_of (ifDB (fun e3 => ?_) fun e3 => ?_))
      · exact storeRef_end (((h1.bl b4).bl b5).bl b6) (((h2.bl b4).bl b5).bl b6) (((h3.bl b4).bl b5).bl b6) (by unfold costN; rw [if_pos ⟨e, e2⟩, if_pos e3]) fun w7 b7 => k w7 ((((b.trans b4).trans b5).trans b6).trans b7)
      · exact storeRef_end (((h1.bl b4).bl b5).bl b6) (((h2.bl b4).bl b5).bl b6) (((h3.bl b4).bl b5).bl b6) (by unfold costN; rw [if_pos ⟨e, e2⟩, if_neg e3]) fun w7 b7 => k w7 ((((b.trans b4).trans b5).trans b6).trans b7)
    · have e2 : l = i := by simpa using e2
      exact storeRef_end ((h1.bl b4).bl b5) ((h2.bl b4).bl b5) ((h3.bl b4).bl b5) (by unfold costN; rw [if_neg fun h => h.2 e2]) fun w7 b7 => k w7 (((b.trans b4).trans b5).trans b7)
  · unfold J36_1
    exact storeRef_end (h1.bl b4) (h2.bl b4) (h3.bl b4) (by unfold costN; rw [if_neg fun h => e h.1]) fun w7 b7 => k w7 ((b.trans b4).trans b7)

theorem store_end1 {c : Int} {bo bi : Nat} (ho : WQ w bo o) (hi : WQ w bi i) (c0 : -5000 ≤ c) (c1 : c ≤ 5000) (k : K (.tuple #[.int .u64 0, .int .i64 (if i = o then c + 2800 else c)]) w) : J35_1 K ⟨bo, 0, none⟩ ⟨bi, 0, none⟩ c w := by
  unfold J35_1
  refine ldQ hi (ldQ ho (if4 (fun e => ?_) fun e => ?_))
  · rw [if_pos e] at k; rw [show IntKind.wrap .i64 (c + 2800) = c + 2800 from i64w (by omega) (by omega)]; exact k
  · rw [if_neg e] at k; exact k
theorem store_end {c : Int} {bo bi bz : Nat} (ho : WQ w bo o) (hi : WQ w bi i) (hz : WQ w bz Q4.z) (c0 : -5000 ≤ c) (c1 : c ≤ 5000) (k : K (.tuple #[.int .u64 0, .int .i64 (if i = o then (if o = Q4.z then c + 19900 else c + 2800) else c)]) w) :
    J35_0 K ⟨bo, 0, none⟩ ⟨bi, 0, none⟩ ⟨bz, 0, none⟩ c w := by
  unfold J35_0
  refine ldQ hi (ldQ ho (if4 (fun e => ldQ ho (ldQ hz (if4 (fun e2 => ?_) fun e2 => ?_))) fun e => ?_))
  · rw [if_pos e, if_pos e2] at k
    rw [show IntKind.wrap .i64 (c + 17100) = c + 17100 from i64w (by omega) (by omega), show IntKind.wrap .i64 (c + 17100 + 2800) = c + 19900 by rw [i64w (by omega) (by omega)]; omega]; exact k
  · refine store_end1 ho hi c0 c1 ?_
    rw [if_pos e, if_neg e2] at k; rw [if_pos e]; exact k
  · refine store_end1 ho hi c0 c1 ?_
    rw [if_neg e] at k; rw [if_neg e]; exact k

theorem cost_1 (e : i = l) : 0 = costN o l i := by unfold costN; grind
theorem back_1 (e : i = l) : 0 = backN o l i := by unfold backN costN standsN; grind
theorem cost_2 (e : ¬ i = l) (e2 : l = o) (e3 : Q4.z = o) : 19900 = costN o l i := by unfold costN; grind
theorem back_2 (e : ¬ i = l) (e2 : l = o) (e3 : Q4.z = o) : 0 = backN o l i := by unfold backN costN standsN; grind
theorem cost_3 (e : ¬ i = l) (e2 : l = o) (e3 : ¬ Q4.z = o) : 2800 = costN o l i := by unfold costN; grind
theorem back_3 (e : ¬ i = l) (e2 : l = o) (e3 : ¬ Q4.z = o) (e4 : Q4.z = i) : 4800 = backN o l i := by unfold backN costN standsN; grind
theorem back_4 (e : ¬ i = l) (e2 : l = o) (e3 : ¬ Q4.z = o) (e4 : ¬ Q4.z = i) : 0 = backN o l i := by unfold backN costN standsN; grind
theorem cost_5 (e2 : ¬ l = o) : 0 = costN o l i := by unfold costN; grind
theorem back_5 (e : ¬ i = l) (e2 : ¬ l = o) (e3 : ¬ o = Q4.z) (e4 : Q4.z = l) : (if i = o then (if o = Q4.z then (-4800 : Int) + 19900 else -4800 + 2800) else -4800) = backN o l i := by unfold backN costN standsN; grind
theorem back_6 (e : ¬ i = l) (e2 : ¬ l = o) (e3 : ¬ o = Q4.z) (e4 : ¬ Q4.z = l) (e5 : Q4.z = i) : (if i = o then (if o = Q4.z then (4800 : Int) + 19900 else 4800 + 2800) else 4800) = backN o l i := by unfold backN costN standsN; grind
theorem back_7 (e : ¬ i = l) (e2 : ¬ l = o) (e3 : ¬ o = Q4.z) (e4 : ¬ Q4.z = l) (e5 : ¬ Q4.z = i) : (if i = o then (if o = Q4.z then (0 : Int) + 19900 else 0 + 2800) else 0) = backN o l i := by unfold backN costN standsN; grind
theorem back_8 (e : ¬ i = l) (e2 : ¬ l = o) (e3 : o = Q4.z) : (if i = o then (if o = Q4.z then (0 : Int) + 19900 else 0 + 2800) else 0) = backN o l i := by unfold backN costN standsN; grind
theorem storeW (k : ∀ w', Bl w w' → K (.tuple #[.int .u64 (costN o l i), .int .i64 (backN o l i)]) w') : CallV Try.prog 35 #[o.v, l.v, i.v] w K := by
  refine call35 o.a o.b o.c o.d l.a l.b l.c l.d i.a i.b i.c i.d w K ?_
  unfold F35
  refine alQ fun w1 h1 b1 s1 => alQ fun w2 h2 b2 s2 => alQ fun w3 h3 b3 s3 => alQ (x := Q4.z) fun w4 h4 b4 s4 => ?_
  have h1 := ((h1.bl b2).bl b3).bl b4
  have h2 := (h2.bl b3).bl b4
  have h3 := h3.bl b4
  have kk := k w4 (((b1.trans b2).trans b3).trans b4)
  unfold backN costN at kk
  have fin : ∀ c d : Int, c = costN o l i → d = backN o l i → K (.tuple #[.int .u64 c, .int .i64 d]) w4 := by rintro c d rfl rfl; exact kk
  refine ldQ h3 (ldQ h2 (if4 (fun e => ?_) fun e => ldQ h2 (ldQ h1 (if4 (fun e2 => ldQ h4 (ldQ h1 (if4 (fun e3 => ?_) fun e3 => ldQ h3 (if4 (fun e4 => ?_) fun e4 => ?_)))) fun e2 => ldQ h1 (ldQ h4 (if4n (fun e3 => ldQ h4 (ldQ h2 (if4 (fun e4 => ?_) fun e4 => ldQ h3 (if4 (fun e5 => ?_) fun e5 => ?_)))) fun e3 => ?_))))))
  · exact fin _ _ (cost_1 e) (back_1 e)
  · exact fin _ _ (cost_2 e e2 e3) (back_2 e e2 e3)
  · exact fin _ _ (cost_3 e e2 e3) (back_3 e e2 e3 e4)
  · exact fin _ _ (cost_3 e e2 e3) (back_4 e e2 e3 e4)
  · exact store_end h1 h3 h4 (by decide) (by decide) (fin _ _ (cost_5 e2) (back_5 e e2 (fun h => e3 h) e4))
  · exact store_end h1 h3 h4 (by decide) (by decide) (fin _ _ (cost_5 e2) (back_6 e e2 (fun h => e3 h) e4 e5))
  · exact store_end h1 h3 h4 (by decide) (by decide) (fin _ _ (cost_5 e2) (back_7 e e2 (fun h => e3 h) e4 e5))
  · exact store_end h1 h3 h4 (by decide) (by decide) (fin _ _ (cost_5 e2) (back_8 e e2 e3))

theorem gasStores (k : ∀ w', Bl w w' → K (.bool true) w') : CallV Try.prog 9 #[o.v, l.v, i.v] w K := by
  refine call9 o.a o.b o.c o.d l.a l.b l.c l.d i.a i.b i.c i.d w K ?_
  unfold F9
  refine alQ fun w1 h1 b1 s1 => alQ fun w2 h2 b2 s2 => alQ fun w3 h3 b3 s3 => ?_
  have h1 := (h1.bl b2).bl b3
  have h2 := h2.bl b3
  have b := (b1.trans b2).trans b3
  refine ldQ h1 (ldQ h2 (ldQ h3 (storeW fun w4 b4 => t2 (ldQ (h1.bl b4) (ldQ (h2.bl b4) (ldQ (h3.bl b4) (storeRef fun w5 b5 => t2 (storeW (o := Q4.z) (l := Q4.z) (i := ⟨1, 0, 0, 0⟩) fun w6 b6 => t2 ?_))))))))
  refine ifB_t (by simp) (ifB_t (by simp) (ifB_t (by decide +kernel) ?_))
  rw [show (backN Q4.z Q4.z ⟨1, 0, 0, 0⟩ == 0) = true by decide +kernel]
  exact k w6 (((b.trans b4).trans b5).trans b6)
theorem gasStores_walk (a0 b0 c0 e0 a1 b1 c1 e1 a2 b2 c2 e2 : Int) (W : World) {p0 p1 p2 p3 p4 p5 p6 p7 p8 p9 p10 p11 : Prop} (_ : p0) (_ : p1) (_ : p2) (_ : p3) (_ : p4) (_ : p5) (_ : p6) (_ : p7) (_ : p8) (_ : p9) (_ : p10) (_ : p11) :
    Calls Try.prog 9 #[.agg #[.int .u64 a0, .int .u64 b0, .int .u64 c0, .int .u64 e0], .agg #[.int .u64 a1, .int .u64 b1, .int .u64 c1, .int .u64 e1], .agg #[.int .u64 a2, .int .u64 b2, .int .u64 c2, .int .u64 e2]] W fun e W' => e = .returned (.bool true) ∧ Below W.heap.size W W' :=
  Calls.mono (gasStores (o := ⟨a0, b0, c0, e0⟩) (l := ⟨a1, b1, c1, e1⟩) (i := ⟨a2, b2, c2, e2⟩) (K := fun v w' => v = .bool true ∧ Below W.heap.size W w') fun w' b => ⟨rfl, b⟩) fun e w' ⟨v, he, hv, hb⟩ => ⟨by rw [he, hv], hb⟩
end Go.Proofs.Ytamllimonjfmiaa.W
