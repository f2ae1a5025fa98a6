/- UndoBack, walked: it returns true. No condition. -/
import Derived.Test.YtalhnoelkglgiaaV5
namespace Go.Proofs.Ytalhnoelkglgiaa.W
open Go Go.Proofs.Ytalhnoelkglgiaa.Sh Go.RowKit
set_option linter.unusedVariables false
set_option linter.unusedSimpArgs false
set_option maxRecDepth 100000
variable {w w' w0 : World} {K : Value → World → Prop} {Z F G : Nat → Prop} {tb N : Nat} {s : Hist}
theorem andB (a : Int) (m : Nat) (hm : m < 4294967296) : ∃ r : Nat, r ≤ m ∧ bitI .and .i64 a (m : Int) = (r : Int) := by
  refine ⟨(BitVec.ofInt 64 a &&& BitVec.ofInt 64 (m : Int)).toNat, ?_, ?_⟩
  · rw [BitVec.toNat_and]
    refine Nat.le_trans Nat.and_le_right ?_
    rw [BitVec.toNat_ofInt]
    have : ((m : Int) % ((2 ^ 64 : Nat) : Int)).toNat = m := by
      rw [Int.emod_eq_of_lt (by omega) (by omega)]; simp
    omega
  · have h : (BitVec.ofInt 64 a &&& BitVec.ofInt 64 (m : Int)).toNat ≤ m := by
      rw [BitVec.toNat_and]
      refine Nat.le_trans Nat.and_le_right ?_
      rw [BitVec.toNat_ofInt]
      have : ((m : Int) % ((2 ^ 64 : Nat) : Int)).toNat = m := by
        rw [Int.emod_eq_of_lt (by omega) (by omega)]; simp
      omega
    have e : bitI .and .i64 a (m : Int) = IntKind.wrap .i64 (((BitVec.ofInt 64 a &&& BitVec.ofInt 64 (m : Int)).toNat : Nat) : Int) := rfl
    rw [e]
    exact i64w (by omega) (by omega)
theorem Keep.step {s0 s : Hist} (h : Keep s0 s) (o : OpV) (ho : o.kind = 4 ∨ o.kind = 5 → (s0.ms.length : Int) < o.k) : Keep s0 (s.op o) := by
  unfold Hist.op Hist.step
  split
  · exact h.set _ _
  split
  · exact h.del _
  split
  · exact h.mark
  split
  · rename_i h4
    have := ho (.inl h4)
    rw [if_neg (by omega)]
    exact h.back (by omega)
  split
  · rename_i h5
    have := ho (.inr h5)
    rw [if_neg (by omega)]
    exact h.forget (by omega)
  · exact h
theorem del_none (s : Hist) (k : Int) : (s.del k).M k = none := by
  unfold Hist.del; split
  · assumption
  · simp
theorem undoBack {p1 p2 p3 : Option Addr} {c1 c2 c3 : Nat} {o1 o2 o3 : List OpV} (hs1 : Script w p1 c1 o1) (hs2 : Script w p2 c2 o2) (hs3 : Script w p3 c3 o3) (kk : ∀ w', Bl w w' → K (.bool true) w') :
    CallV Try.prog 3 #[.slice p1 o1.length c1, .slice p2 o2.length c2, .slice p3 o3.length c3] w K := by
  refine call3 _ _ _ _ _ _ _ _ _ w K ?_
  unfold F3
  refine ifD (fun _ => kk w (Bl.refl w)) fun hm1 => ifD (fun _ => kk w (Bl.refl w)) fun hm2 => ifD (fun _ => kk w (Bl.refl w)) fun hm3 => ?_
  unfold J3_0
  refine tNew fun w1 tb ht b1 => asP_of (ifB_f rfl ?_)
  have main : ∀ w1 s, Bl w w1 → Tb w1 (fun x => x < w.heap.size) tb s o1.length → J3_1 K p2 o2.length c2 p3 o3.length c3 (some ⟨tb, 0, none⟩) w1 := by
    intro w1 s b1 ht
    unfold J3_1
    refine tSet ht (by omega) fun w2 ht2 e2 => t0 ?_
    have b2 := blNZ b1 e2 fun x hx => hx
    generalize hs0 : s.set 7 7 = s0 at ht2
    obtain ⟨Z', ht2', zl, hz⟩ := ht2.most
    refine tSeen ht2' (by omega) fun w3 q1 d1 q2 d2 ks hv hkl b3 => g2l (alO fun w4 o4 b4 s4 => stAll (b := w3.heap.size) (vs := #[.slice q1 ks.length d1, .slice q2 ks.length d2]) o4 (by kernel_rfl) rfl (by kernel_rfl) fun w5 o5 e5 => ?_)
    have z3 := b3.size
    have z4 := b4.size
    have z5 := e5.size
    have b25 : Bl w2 w5 := ((Ext.of_bl (S := fun x => x = w3.heap.size) (b3.trans b4)).trans e5 fun _ _ h => h).bl fun x hx e => by omega
    have hv5 := (hv.bl b4).ext e5 fun b hb e => by omega
    refine tMarks (ht2'.bl b25) (asI_of (alO fun w6 o6 b6 s6 => stAll (b := w5.heap.size) (vs := #[.slice p2 o2.length c2, .slice p3 o3.length c3]) o6 (by kernel_rfl) rfl (by kernel_rfl) fun w7 o7 e7 => ?_))
    have z6 := b6.size
    have z7 := e7.size
    have b57 : Bl w5 w7 := ((Ext.of_bl (S := fun x => x = w5.heap.size) b6).trans e7 fun _ _ h => h).bl fun x hx e => by omega
    have b27 := b25.trans b57
    have ht7 := hz w7 b27
    have hv7 := hv5.bl b57
    have o57 := o5.bl b57
    generalize hZ : (fun x => Z' x ∨ (w2.heap.size ≤ x ∧ x < w7.heap.size)) = Z at ht7
    have zx : Z w3.heap.size := by rw [← hZ]; exact .inr ⟨by omega, by omega⟩
    have zy : Z w5.heap.size := by rw [← hZ]; exact .inr ⟨by omega, by omega⟩
    have zv : ∀ b, (w2.heap.size ≤ b ∧ b < w3.heap.size) → Z b := fun b hb => by rw [← hZ]; exact .inr ⟨by omega, by omega⟩
    have zb : ∀ x, x < w.heap.size → Z x := fun x hx => by rw [← hZ]; exact .inl (zl x hx)
    have b07 := b2.trans b27
    generalize w3.heap.size = x at o57 zx ⊢
    generalize w5.heap.size = y at o7 zy ⊢
    -- one round
    have round : ∀ (r : Nat) (q : Option Addr) (d : Nat) (l : List OpV) (w' : World) (N m : Nat), r < 2 → l.length ≤ 2048 → N ≤ 10000 → (#[.slice p2 o2.length c2, .slice p3 o3.length c3] : Array Value)[r]? = some (.slice q l.length d) → Script w q d l → Bl w w' → Ext (fun x => ¬ Z x) w7 w' → Tb w' Z tb s0 N →
        (∀ w'', Bl w w'' → Ext (fun x => ¬ Z x) w7 w'' → Tb w'' Z tb s0 (N + 2100) → L3_4 K m (some ⟨tb, 0, none⟩) ⟨x, 0, none⟩ (s0.ms.length : Int) ⟨y, 0, none⟩ ((r + 1 : Nat) : Int) w'') →
        L3_4 K (m + 1) (some ⟨tb, 0, none⟩) ⟨x, 0, none⟩ (s0.ms.length : Int) ⟨y, 0, none⟩ (r : Int) w' := by
      intro r q d l w' N m hr hl hN hqd hsc hb he ht next
      rw [L3_4]
      simp only []
      refine ifD (fun _ => ?_) fun h => by omega
      refine tMark ht (by omega) fun w8 ht8 e8 => asI_of (ifB_f (by simp) ?_)
      have hms : s0.ms.length ≤ N := by
        obtain ⟨F, h⟩ := ht
        obtain ⟨E, _, _, _, h4, _⟩ := h.t
        exact h4
      refine tMarks ht8 (asI_of (ifB_f ?_ ?_))
      · rw [i1w _ (by omega)]; simp [Hist.mark]
      unfold J3_6
      have b8 := blNZ hb e8 zb
      have e08 := extNZ he e8
      have oy8 : Own w8 y _ 34 := o7.ext e08 fun h => h zy
      refine ixA (z := 1) (e := 22) (n := 2) (by kernel_rfl) (by kernel_rfl) (by omega) (by omega) (show asA (.pointer (some _)) _ from ?_)
      rw [addAt]
      refine ldO oy8 hqd (asL_of ⟨l.length + 1, ?_⟩)
      have loop : ∀ (k i : Nat) (w9 : World) (s2 : Hist) (N2 : Nat), i + k = l.length → N2 + k ≤ N + 1 + 2048 → Bl w w9 → Ext (fun x => ¬ Z x) w7 w9 → Tb w9 Z tb s2 N2 → Keep s0 s2 →
          L3_8 K (L3_4 K m) (k + 1) (some ⟨tb, 0, none⟩) ⟨x, 0, none⟩ (s0.ms.length : Int) ⟨y, 0, none⟩ (r : Int) (s0.ms.length : Int) q l.length d (i : Int) w9 := by
        intro k
        induction k with
        | zero =>
          intro i w9 s2 N2 hi hN2 b9 e9 ht9 hk
          simp only [L3_8]
          refine ifD (fun h => by omega) fun _ => ?_
          unfold J3_7
          refine tDel ht9 (by omega) fun wa hta ea => asB_of (tGet hta (t2 ?_))
          rw [del_none]
          have hk2 := hk.del 7
          have hlt : s0.ms.length < (s2.del 7).ms.length := (List.getElem?_eq_some_iff.1 hk2.at_).1
          refine ifB_f rfl (ifB_f rfl (tMarks hta (asI_of (ifB_f (decide_eq_false (by omega)) (tBack hta (by omega) hlt fun wb htb eb => asI_of (ifB_f rfl ?_))))))
          rw [hk2.gone] at htb
          refine tMarks htb (asI_of (ifB_f (by simp) (tBackNot htb (Nat.le_refl _) (asI_of (ifB_f rfl ?_)))))
          have eb7 := extNZ (extNZ e9 ea) eb
          have ox := o57.ext eb7 fun h => h zx
          have hvb := hv7.ext eb7 fun b hb h => h (zv b hb)
          refine ldO (i := 0) ox rfl (asL_of (ldO (i := 1) ox rfl (asL_of (tTells htb (by omega) rfl hvb (by omega) fun wc bc => asB_of ?_))))
          unfold J3_12
          refine ifB_f rfl ?_
          unfold J3_5
          rw [i1w r (by omega)]
          exact next wc ((blNZ (blNZ b9 ea zb) eb zb).trans bc) (extNZ eb7 (Ext.of_bl bc)) ((htb.bl bc).mono (by omega))
        | succ k ih =>
          intro i w9 s2 N2 hi hN2 b9 e9 ht9 hk
          rw [L3_8]
          simp only []
          have hlt : i < l.length := by omega
          refine ifD (fun _ => ?_) fun h => by omega
          have last : ∀ (wa : World) (qa : Nat) (o : OpV), (o.kind = 4 ∨ o.kind = 5 → (s0.ms.length : Int) < o.k) → Own wa qa #[.int .i64 o.kind, .bool o.two, .int .i64 o.k, .int .i64 o.v] 27 → Bl w wa → Ext (fun x => ¬ Z x) w7 wa → Tb wa (fun x => Z x ∨ x = qa) tb s2 N2 →
              J3_10 K (L3_4 K m) (L3_8 K (L3_4 K m) (k + 1)) (some ⟨tb, 0, none⟩) ⟨x, 0, none⟩ (s0.ms.length : Int) ⟨y, 0, none⟩ (r : Int) (s0.ms.length : Int) q l.length d (i : Int) ⟨qa, 0, none⟩ wa := by
            intro wa qa o ho oa ba ea hta
            unfold J3_10
            refine ldO (i := 0) oa rfl (asI_of (ldO (i := 1) oa rfl (asB_of (ldO (i := 2) oa rfl (asI_of (ldO (i := 3) oa rfl (asI_of (tOp hta (by omega) fun wb htb eb => t0 ?_))))))))
            unfold J3_9
            rw [i1w i (by omega)]
            have eb : Ext (fun x => ¬ Z x) wa wb := eb.mono fun x _ hx h => hx (.inl h)
            exact ih (i + 1) wb _ _ (by omega) (by omega) (blNZ ba eb zb) (extNZ ea eb) (htb.wide (Bl.refl wb) fun x hx => .inl (.inl hx)) (hk.step o ho)
          refine opAt (Q := fun ad1 w1 => ldK Try.prog w1 ad1 fun v2 => _) (hsc.bl b9) hlt fun a g0 g1 g2 g3 => ?_
          refine ldI g0 (ld g1 (asB_of (ldI g2 (ldI g3 ?_))))
          refine alO fun wa oa ba sa => stAll (b := w9.heap.size) (vs := #[.int .i64 l[i].kind, .bool l[i].two, .int .i64 l[i].k, .int .i64 l[i].v]) oa (by kernel_rfl) rfl (by kernel_rfl) fun wb ob eb => ?_
          have za := ba.size
          have zb' := eb.size
          have bab : Bl w9 wb := ((Ext.of_bl (S := fun x => x = w9.heap.size) ba).trans eb fun _ _ h => h).bl fun x hx e => by omega
          have hnZ : ¬ Z w9.heap.size := fun h => by have := ht9.lt _ h; omega
          have b0b := b9.trans bab
          have e7b := extNZ e9 (Ext.of_bl (S := fun x => ¬ Z x) bab)
          have htb : Tb wb (fun x => Z x ∨ x = w9.heap.size) tb s2 N2 := ht9.wide bab fun x hx => hx.elim .inl fun e => .inr ⟨by omega, by omega⟩
          generalize w9.heap.size = qa at ob hnZ htb ⊢
          -- what is done with a mark at or below
          have fin : ∀ c : Bool, (c = true → True) → (c = false → (l[i].kind = 4 ∨ l[i].kind = 5 → (s0.ms.length : Int) < l[i].k)) →
              J3_11 K (L3_4 K m) (L3_8 K (L3_4 K m) (k + 1)) (some ⟨tb, 0, none⟩) ⟨x, 0, none⟩ (s0.ms.length : Int) ⟨y, 0, none⟩ (r : Int) (s0.ms.length : Int) q l.length d (i : Int) ⟨qa, 0, none⟩ c wb := by
            intro c _ hc
            unfold J3_11
            refine ifBb (fun hc1 => ?_) fun hc0 => last wb qa l[i] (hc hc0) ob b0b e7b htb
            obtain ⟨z, hz1, hz2⟩ := andB l[i].k 3 (by decide)
            refine ldO (i := 2) ob rfl (asI_of ?_)
            rw [show (3 : Int) = ((3 : Nat) : Int) from rfl, hz2, i1w _ (by omega), i64w (by omega) (by omega)]
            refine stO (i := 2) (b := qa) ob (by simp) (by kernel_rfl) rfl rfl fun wc oc ec => ?_
            have ec' : Ext (fun x => ¬ Z x) wb wc := ec.mono fun x _ hx => by subst hx; exact hnZ
            exact last wc qa ⟨l[i].kind, l[i].two, ((s0.ms.length + 1 : Nat) : Int) + (z : Int), l[i].v⟩ (fun _ => by show (s0.ms.length : Int) < ((s0.ms.length + 1 : Nat) : Int) + (z : Int); omega) oc (blNZ b0b ec' zb) (extNZ e7b ec') (htb.ext ec fun x hx => .inl (.inr hx))
          refine ldO (i := 0) ob rfl (asI_of (ifE (fun h4 => ldO (i := 2) ob rfl (asI_of (fin _ (fun _ => trivial) fun hc _ => ?_))) fun h4 => ldO (i := 0) ob rfl (asI_of (ifE (fun h5 => ldO (i := 2) ob rfl (asI_of (fin _ (fun _ => trivial) fun hc _ => ?_))) fun h5 => fin _ (fun _ => trivial) fun _ h => ?_))))
          · have := of_decide_eq_false hc; omega
          · have := of_decide_eq_false hc; omega
          · rcases h with h | h
            · exact absurd h h4
            · exact absurd h h5
      exact loop l.length 0 w8 _ _ (by omega) (by omega) b8 e08 ht8 (keep_mark s0)
    refine ⟨3, round 0 p2 c2 o2 w7 _ 2 (by decide) (by omega) (by omega) rfl hs2 b07 (Ext.refl _) (ht7.mono (show o1.length + 1 ≤ 2049 by omega)) fun w8 b8 e8 ht8 => ?_⟩
    refine round 1 p3 c3 o3 w8 _ 1 (by decide) (by omega) (by omega) rfl hs3 b8 e8 ht8 fun w9 b9 e9 ht9 => ?_
    simp only [L3_4]
    refine ifB_f rfl ?_
    unfold J3_3
    exact awake fun wa ba => asB_of (kk wa (b9.trans ba))
  have loop : ∀ (m i : Nat) (w1 : World), i + m = o1.length → Bl w w1 → Tb w1 (fun x => x < w.heap.size) tb (h0.ops (o1.take i)) i → L3_2 K (m + 1) p1 o1.length c1 p2 o2.length c2 p3 o3.length c3 (some ⟨tb, 0, none⟩) (i : Int) w1 := by
    intro m
    induction m with
    | zero =>
      intro i w1 hi b1 ht
      simp only [L3_2]
      exact ifD (fun h => by omega) fun _ => main w1 _ b1 (ht.mono (by omega))
    | succ m ih =>
      intro i w1 hi b1 ht
      rw [L3_2]
      simp only []
      have hlt : i < o1.length := by omega
      refine ifD (fun _ => ?_) fun h => by omega
      rw [i1w i (by omega)]
      refine doAt (hs1.bl b1) hlt ht (by omega) fun w2 ht2 e2 => ih (i + 1) w2 (by omega) (blNZ b1 e2 fun x hx => hx) ?_
      rw [ops_take _ _ hlt]; exact ht2
  exact ⟨o1.length + 1, loop o1.length 0 w1 (by omega) b1 ht⟩
theorem undoBack_walk (p1 : Option Addr) (o1 : List OpV) (c1 : Nat) (p2 : Option Addr) (o2 : List OpV) (c2 : Nat) (p3 : Option Addr) (o3 : List OpV) (c3 : Nat) (W : World) (h1 : Script W p1 c1 o1) (h2 : Script W p2 c2 o2) (h3 : Script W p3 c3 o3) : Walk 3 #[.slice p1 o1.length c1, .slice p2 o2.length c2, .slice p3 o3.length c3] W :=
  walk_of (undoBack h1 h2 h3 fun _ hb => ⟨rfl, hb⟩)
end Go.Proofs.Ytalhnoelkglgiaa.W
