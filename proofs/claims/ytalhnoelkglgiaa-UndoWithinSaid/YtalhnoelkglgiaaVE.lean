/- UndoWithin, walked: it returns true (the whole). No condition. -/
import Derived.Test.YtalhnoelkglgiaaVD
namespace Go.Proofs.Ytalhnoelkglgiaa.W
open Go Go.Proofs.Ytalhnoelkglgiaa.Sh Go.RowKit
set_option linter.unusedVariables false
set_option linter.unusedSimpArgs false
set_option maxRecDepth 100000
variable {w w' w0 : World} {K : Value → World → Prop} {Z F G : Nat → Prop} {tb N : Nat} {s : Hist} {C : Cfg}
def mks (Ds : List Nat) : List Deferred := Ds.map fun D => { target := .collected D, args := #[] }
theorem marks_ok : ∀ (Ds : List Nat) (w : World) {Fw : World → Prop}, Ds.Nodup → (∀ D ∈ Ds, At w D (.deferred (some []))) → (∀ w', Ext (fun x => x ∈ Ds) w w' → Fw w') → marksA (mks Ds) w Fw
  | [], w, Fw, _, _, k => k w (Ext.refl w)
  | D :: Ds, w, Fw, hn, ha, k => by
    have hD := ha D (by simp)
    obtain ⟨g1, g2⟩ := hD.put (o' := .deferred none)
    rw [List.nodup_cons] at hn
    refine ⟨hD, marks_ok Ds _ hn.2 (fun D' h' => (ha D' (by simp [h'])).ext g2 fun e => hn.1 (e ▸ h')) fun w' e => k w' ?_⟩
    exact (g2.mono (S' := fun x => x ∈ D :: Ds) fun x _ hx => by subst hx; simp).trans e fun x _ hx => by simp [hx]
/-- The state at a round. -/
def Rnd (C : Cfg) (w0 w : World) (rd x11 : Nat) (Ds : List Nat) : Prop :=
  ∃ Z s N, Wst C w0 w Z s N ∧ N ≤ 2049 + 2048 * rd ∧ Own w x11 #[.int .i64 (rd : Int)] 3 ∧ Dy C Z x11 ∧ (∀ D ∈ Ds, Dy C Z D ∧ At w D (.deferred (some []))) ∧ Ds.Nodup ∧ x11 ∉ Ds
theorem rounds (h6w : w0.heap.size ≤ C.b6) (kk : ∀ w', Bl w0 w' → K (.bool true) w') : ∀ (m rd x11 : Nat) (Ds : List Nat) (w : World), rd + m = 3 → Rnd C w0 w rd x11 Ds →
    L9_4 K (m + 1) ⟨C.b4, 0, none⟩ ⟨C.b5, 0, none⟩ ⟨C.b6, 0, none⟩ ⟨C.b7, 0, none⟩ ⟨C.b9, 0, none⟩ ⟨C.b10, 0, none⟩ ⟨x11, 0, none⟩ (mks Ds) w := by
  intro m
  induction m with
  | zero =>
    intro rd x11 Ds w hrd ⟨Z, s, N, hw, hN, o11, d11, hD, hnd, hx⟩
    have hrd : rd = 3 := by omega
    subst hrd
    simp only [L9_4]
    refine ldO (i := 0) o11 rfl (asI_of (ifB_f rfl ?_))
    unfold J9_3
    refine awake fun w1 b1 => asB_of ?_
    have hw1 := hw.b b1
    obtain ⟨b, h6⟩ := hw1.st.o6
    refine stO (i := 0) h6 (by simp) (by kernel_rfl) rfl rfl fun w2 o2 e2 => ?_
    have v6 := hw1.st.vb.2.2.1
    refine marks_ok Ds w2 hnd (fun D hD' => ((hD D hD').2.bl b1).ext e2 fun e => (hD D hD').1.2 (e ▸ v6)) fun w3 e3 => ?_
    have o3 := o2.ext e3 fun h => (hD _ h).1.2 v6
    refine ldO (i := 0) o3 rfl (asB_of (kk w3 ?_))
    have e13 := (Ext.of_bl (S := fun x => w0.heap.size ≤ x ∨ x ∈ Ds) hw1.bl).trans e2 fun x _ hx => .inl (by omega)
    exact (e13.trans e3 fun x _ hx => .inr hx).bl fun x hx h => by
      rcases h with h | h
      · omega
      · exact (hD x h).1.2 (hw.zb x hx)
  | succ m ih =>
    intro rd x11 Ds w hrd ⟨Z, s, N, hw, hN, o11, d11, hD, hnd, hx⟩
    rw [L9_4]
    simp only []
    refine ldO (i := 0) o11 rfl (asI_of (ifD (fun _ => ?_) fun h => by omega))
    refine alO fun w1 o1 b1 s1 => stO (i := 0) o1 (by simp) (by kernel_rfl) rfl rfl fun w2 o2 e2 => ?_
    have z2 := e2.size
    have b02 : Bl w w2 := ((Ext.of_bl (S := fun x => x = w.heap.size) b1).trans e2 fun _ _ h => h).bl fun x hx e => by omega
    refine ldO (i := 0) (hw.b b02).st.o10 rfl ?_
    intro r
    show yieldA _ _ _ _
    intro hy
    have b23 : Bl w2 (w2.alloc (.deferred (some []))) := (Bl.refl _).alloc _
    have s23 := size_alloc w2 (.deferred (some []))
    have aD : At (w2.alloc (.deferred (some []))) w2.heap.size (.deferred (some [])) := by
      show (w2.heap.push _)[w2.heap.size]? = _
      simp
    generalize w2.alloc (.deferred (some [])) = w3 at b23 s23 aD hy ⊢
    have b34 : Bl w3 (w3.alloc (loopObj r .ready none)) := (Bl.refl _).alloc _
    have s34 := size_alloc w3 (loopObj r .ready none)
    have al : At (w3.alloc (loopObj r .ready none)) (w2.heap.size + 1) (loopObj r .ready none) := by
      rw [← s23]
      show (w3.heap.push _)[w3.heap.size]? = _
      simp
    generalize w3.alloc (loopObj r .ready none) = wa at b34 s34 al ⊢
    have b2a := b23.trans b34
    have b0a := b02.trans b2a
    have hwa := hw.grow b0a
    have zlt := hw.tb.lt
    have hVlt : ∀ x, C.V x → x < w.heap.size := fun x hx => zlt x (hw.vz x hx)
    have dnew : ∀ b, w.heap.size ≤ b → b < wa.heap.size → Dy C (fun x => Z x ∨ (w.heap.size ≤ x ∧ x < wa.heap.size)) b := fun b h1 h2 => ⟨.inr ⟨h1, h2⟩, fun hv => by have := hVlt _ hv; omega⟩
    have dold : ∀ b, Dy C Z b → Dy C (fun x => Z x ∨ (w.heap.size ≤ x ∧ x < wa.heap.size)) b := fun b hb => ⟨.inl hb.1, hb.2⟩
    have l11 := zlt x11 d11.1
    have lD : ∀ D ∈ Ds, D < w.heap.size := fun D h => zlt D (hD D h).1.1
    have o11a := o11.bl b0a
    have o12a := o2.bl b2a
    refine outer (C := C) (w0 := w0) (B := 2049 + 2048 * rd) (rd := rd) (x11 := x11) (x12 := w.heap.size) (l := w2.heap.size + 1) (r := r) (Q := fun b => b = x11 ∨ b ∈ Ds ∨ b = w2.heap.size) (.inl rfl) (by omega) o11a (by omega) (by omega) (fun b hb => ?_)
      ⟨_, s, N, hwa, hN, dnew _ (by omega) (by omega), dnew _ (by omega) (by omega), fun b hb => ?_⟩ o12a al (fun args wy F hb => hy args wy F hb) fun v w7 Z7 s7 N7 hw7 hN7 dl7 dx7 dq7 hs7 i hi o127 hq => ?_
    · rcases hb with rfl | hb | rfl
      · exact ⟨by omega, by omega⟩
      · have := lD b hb; exact ⟨by omega, by omega⟩
      · exact ⟨by omega, by omega⟩
    · rcases hb with rfl | hb | rfl
      · exact dold _ d11
      · exact dold _ (hD b hb).1
      · exact dnew _ (by omega) (by omega)
    have o117 : Own w7 x11 #[.int .i64 (rd : Int)] 3 := (hs7 x11 (.inl rfl)).trans o11a
    have aD7 : ∀ D ∈ w2.heap.size :: Ds, At w7 D (.deferred (some [])) := fun D h => by
      rcases List.mem_cons.1 h with rfl | h
      · exact (hs7 _ (.inr (.inr rfl))).trans (aD.bl b34)
      · exact (hs7 _ (.inr (.inl h))).trans ((hD D h).2.bl b0a)
    have hmk : ([{ target := .collected w2.heap.size, args := #[] }] : List Deferred) ++ mks Ds = mks (w2.heap.size :: Ds) := rfl
    -- on to the next round
    have next : ∀ w8 : World, Ext (· = w2.heap.size + 1) w7 w8 → J9_5 K (L9_4 K (m + 1)) ⟨C.b4, 0, none⟩ ⟨C.b5, 0, none⟩ ⟨C.b6, 0, none⟩ ⟨C.b7, 0, none⟩ ⟨C.b9, 0, none⟩ ⟨C.b10, 0, none⟩ ⟨x11, 0, none⟩ (mks (w2.heap.size :: Ds)) w8 := by
      intro w8 e8
      have hw8 := hw7.ext e8 fun x _ hx => by subst hx; exact dl7
      have o118 := o117.ext e8 (by omega)
      have aD8 : ∀ D ∈ w2.heap.size :: Ds, At w8 D (.deferred (some [])) := fun D h => (aD7 D h).ext e8 fun e => by
        rcases List.mem_cons.1 h with rfl | h
        · omega
        · have := lD D h; omega
      unfold J9_5
      refine ldO (i := 0) o118 rfl (asI_of (alO fun w9 o9 b9 s9 => stO (i := 0) o9 (by simp) (by kernel_rfl) rfl rfl fun w10 o10 e10 => ldO (i := 0) o10 rfl (asI_of (stO (i := 0) o10 (by simp) (by kernel_rfl) rfl rfl fun w11 o11' e11 => ?_))))
      rw [i1w rd (by omega)] at o11'
      have z10 := e10.size
      have z11 := e11.size
      have b811 : Bl w8 w11 := (((Ext.of_bl (S := fun x => x = w8.heap.size) b9).trans e10 fun _ _ h => h).trans e11 fun _ _ h => h).bl fun x hx e => by omega
      have zlt8 := hw8.tb.lt
      have ld : ∀ D ∈ w2.heap.size :: Ds, Dy C Z7 D := fun D h => by
        rcases List.mem_cons.1 h with rfl | h
        · exact dq7 _ (.inr (.inr rfl))
        · exact dq7 _ (.inr (.inl h))
      refine ih (rd + 1) w8.heap.size (w2.heap.size :: Ds) w11 (by omega) ⟨_, s7, N7, hw8.grow b811, by omega, o11', ⟨.inr ⟨by omega, by omega⟩, fun hv => by have := zlt8 _ (hw8.vz _ hv); omega⟩, fun D h => ⟨⟨.inl (ld D h).1, (ld D h).2⟩, (aD8 D h).bl b811⟩, ?_, fun h => by have := zlt8 _ (ld _ h).1; omega⟩
      rw [List.nodup_cons]
      exact ⟨fun h => by have := lD _ h; omega, hnd⟩
    have j6 : ∀ w8 : World, Ext (· = w2.heap.size + 1) w7 w8 → (i = C.ks.length ∨ ((i : Int) = C.stop ∧ rd = 0)) → J9_6 K (L9_4 K (m + 1)) ⟨C.b4, 0, none⟩ ⟨C.b5, 0, none⟩ ⟨C.b6, 0, none⟩ ⟨C.b7, 0, none⟩ ⟨C.b9, 0, none⟩ ⟨C.b10, 0, none⟩ ⟨x11, 0, none⟩ ⟨w.heap.size, 0, none⟩ (mks (w2.heap.size :: Ds)) w8 := by
      intro w8 e8 hc
      have hw8 := hw7.ext e8 fun x _ hx => by subst hx; exact dl7
      have o118 := o117.ext e8 (by omega)
      have o128 := o127.ext e8 (by omega)
      unfold J9_6
      refine ldO (i := 0) o128 rfl (asI_of (ldO (i := 0) hw8.st.o9 rfl (asL_of (ifNe (fun hne => ?_) fun _ => ?_))))
      · obtain ⟨h1, h2⟩ : (i : Int) = C.stop ∧ rd = 0 := by
          rcases hc with h | h
          · exact absurd (by rw [h]) hne
          · exact h
        refine ldO (i := 0) o118 rfl (asI_of (ifD (fun h => by omega) fun _ => ldO (i := 0) o128 rfl (asI_of (ldO (i := 0) hw8.st.o5 rfl (asI_of ?_)))))
        unfold J9_16
        exact ifB_f (by simp [h1]) (next w8 e8)
      · unfold J9_16
        exact ifB_f rfl (next w8 e8)
    rcases hq with ⟨hal, rfl⟩ | ⟨hal, h1, h2⟩
    · obtain ⟨g1, g2⟩ := hal.put (o' := loopObj r .exhausted none)
      refine ⟨_, _, hal, by simp, ?_⟩
      show J9_6 _ _ _ _ _ _ _ _ _ _ _ _
      rw [hmk]
      exact j6 _ g2 (.inl rfl)
    · obtain ⟨g1, g2⟩ := hal.put (o' := loopObj r .exhausted (some (.exit 4)))
      refine ⟨_, _, hal, by simp, ?_⟩
      show J9_6 _ _ _ _ _ _ _ _ _ _ _ _
      rw [hmk]
      exact j6 _ g2 (.inr ⟨h1, h2⟩)
theorem eqlF (cap : Array Value) (w : World) : (do eqGuard .eql 52 (.tmp 47) (.const .nilFunc) (.func (.func 34) #[] cap) .nilFunc; binOp .eql 52 (.func (.func 34) #[] cap) .nilFunc : Sem Value).run Try.prog w = .ok (.bool false) w := by kernel_rfl
theorem undoWithin {p1 p2 : Option Addr} {c1 c2 : Nat} {o1 o2 : List OpV} {stop : Int} (hs1 : Script w p1 c1 o1) (hs2 : Script w p2 c2 o2) (kk : ∀ w', Bl w w' → K (.bool true) w') :
    CallV Try.prog 9 #[.slice p1 o1.length c1, .slice p2 o2.length c2, .int .i64 stop] w K := by
  refine call9 _ _ _ _ _ _ _ w K ?_
  unfold F9
  refine alO fun w1 q1 b1 s1 => alO fun w2 q2 b2 s2 => alO fun w3 q3 b3 s3 => ?_
  have b03 := (b1.trans b2).trans b3
  have q13 := (q1.bl b2).bl b3
  have q23 := q2.bl b3
  have z1 := b1.size
  have z2 := b2.size
  have early : ∀ (b : Bool) (k : ∀ w', Bl w w' → K (.bool b) w'), semU Try.prog (Instr.storeAt 4 (.pointer (some ⟨w2.heap.size, 0, none⟩)) (.bool b)) w3 fun w4 => ldK Try.prog w4 ⟨w2.heap.size, 0, none⟩ fun v1 => asB v1 fun b1 => K (.bool b1) w4 := by
    intro b k
    refine stO (i := 0) q3 (by simp) (by kernel_rfl) rfl rfl fun w4 o4 e4 => ldO (i := 0) o4 rfl (asB_of (k w4 ?_))
    exact ((Ext.of_bl (S := fun x => x = w2.heap.size) b03).trans e4 fun _ _ h => h).bl fun x hx e => by omega
  refine ifD (fun _ => early true kk) fun hm1 => ldO (i := 0) q13 rfl (asL_of (ifD (fun _ => early true kk) fun hm2 => ?_))
  clear early
  unfold J9_0
  refine tNew fun w4 tb ht b4 => asP_of (alO fun w5 o5 b5 s5 => stO (i := 0) o5 (by simp) (by kernel_rfl) rfl rfl fun w6 o6 e6 => ldO (i := 0) o6 rfl (asP_of (ifB_f rfl ?_)))
  have z4 := b4.size
  have z5 := b5.size
  have z6 := e6.size
  have b46 : Bl w4 w6 := ((Ext.of_bl (S := fun x => x = w4.heap.size) b5).trans e6 fun _ _ h => h).bl fun x hx e => by omega
  have ht6 : Tb w6 (fun x => x < w3.heap.size ∨ x = w4.heap.size) tb h0 0 := ht.wide b46 fun x hx => hx.imp id fun e => ⟨by omega, by omega⟩
  have b36 := b4.trans b46
  have b06 := b03.trans b36
  have zb0 : ∀ x, x < w.heap.size → (x < w3.heap.size ∨ x = w4.heap.size) := fun x hx => .inl (by omega)
  have f4 : w.heap.size < w3.heap.size := by omega
  have f5 : w1.heap.size < w3.heap.size := by omega
  have f6 : w2.heap.size < w3.heap.size := by omega
  have g6 : w.heap.size ≤ w2.heap.size := by omega
  have q16 := q13.bl b36
  have q26 := q23.bl b36
  have q36 := q3.bl b36
  have hb7 : w4.heap.size < w6.heap.size := by omega
  generalize hb7e : w4.heap.size = b7 at o6 ht6 zb0 hb7 ⊢
  generalize hb4e : w.heap.size = b4' at q16 f4 ⊢
  generalize hb5e : w1.heap.size = b5' at q26 f5 ⊢
  generalize hb6e : w2.heap.size = b6' at q36 f6 g6 ⊢
  have zb0 : ∀ x, x < w.heap.size → (x < w3.heap.size ∨ x = b7) := fun x hx => .inl (by omega)
  have g6 : w.heap.size ≤ b6' := by omega
  clear q1 q2 q3 q13 q23 ht o5 e6 b5
  -- behind the script
  have main : ∀ (w7 : World) (s : Hist), Bl w w7 → Ext (fun x => ¬ (x < w3.heap.size ∨ x = b7)) w6 w7 → Tb w7 (fun x => x < w3.heap.size ∨ x = b7) tb s o1.length → J9_1 K ⟨b4', 0, none⟩ ⟨b5', 0, none⟩ ⟨b6', 0, none⟩ ⟨b7, 0, none⟩ (mks []) w7 := by
    intro w7 s b7' e7 ht7
    unfold J9_1
    have o67 := o6.ext e7 fun h => h (.inr rfl)
    refine ldO (i := 0) o67 rfl (asP_of (tSet ht7 (by omega) fun w8 ht8 e8 => t0 ?_))
    have b8 := blNZ b7' e8 zb0
    have e68 := extNZ e7 e8
    have o68 := o6.ext e68 fun h => h (.inr rfl)
    have q18 := q16.ext e68 fun h => h (.inl f4)
    have q28 := q26.ext e68 fun h => h (.inl f5)
    have q38 := q36.ext e68 fun h => h (.inl f6)
    obtain ⟨Z', ht8', zl, hz⟩ := ht8.most
    refine ldO (i := 0) o68 rfl (asP_of (tSeen ht8' (by omega) fun w9 v1 d1 v2 d2 ks hv hkl b9 => g2l (alO fun w10 o10 b10 s10 => stAll (b := w9.heap.size) (vs := #[.slice v1 ks.length d1, .slice v2 ks.length d2]) o10 (by kernel_rfl) rfl (by kernel_rfl) fun w11 o11 e11 => ?_)))
    have z9 := b9.size
    have z10 := b10.size
    have z11 := e11.size
    have b811 : Bl w8 w11 := ((Ext.of_bl (S := fun x => x = w9.heap.size) (b9.trans b10)).trans e11 fun _ _ h => h).bl fun x hx e => by omega
    have hv11 := (hv.bl b10).ext e11 fun b hb e => by omega
    refine ldO (i := 0) (o68.bl b811) rfl (asP_of (tAll (ht8'.bl b811) (by omega) fun w12 x5 x6 g1 g2 k1 k2 ls hls hall b12 => alO fun w13 o13 b13 s13 => stO (i := 0) o13 (by simp) (by kernel_rfl) rfl rfl fun w14 o14 e14 => ldO (i := 0) o14 rfl ?_))
    have ekl : ls = ks := keys_len hls hv.keys
    subst ekl
    have z12 := b12.size
    have z13 := b13.size
    have z14 := e14.size
    have b1114 : Bl w11 w14 := ((Ext.of_bl (S := fun x => x = w12.heap.size) (b12.trans b13)).trans e14 fun _ _ h => h).bl fun x hx e => by omega
    have hall14 := (hall.ext (T := None') (Ext.of_bl b13) fun _ _ h => h).ext e14 fun b hb e => by omega
    have b814 := b811.trans b1114
    refine semK_of (eqlF _ w14) (asB_of (ifB_f rfl (alO fun w15 o15 b15 s15 => stO (i := 0) o15 (by simp) (by kernel_rfl) rfl rfl fun w16 o16 e16 => ⟨4, ?_⟩)))
    have z15 := b15.size
    have z16 := e16.size
    have b1416 : Bl w14 w16 := ((Ext.of_bl (S := fun x => x = w14.heap.size) b15).trans e16 fun _ _ h => h).bl fun x hx e => by omega
    have ht14 := hz w14 b814
    have ht16 := ht14.bl b1416
    have vin : ∀ b, w8.heap.size ≤ b → b < w14.heap.size → (Z' b ∨ (w8.heap.size ≤ b ∧ b < w14.heap.size)) := fun b h1 h2 => .inr ⟨h1, h2⟩
    have vold : ∀ b, (b < w3.heap.size ∨ b = b7) → (Z' b ∨ (w8.heap.size ≤ b ∧ b < w14.heap.size)) := fun b h => .inl (zl b h)
    have b816 := b814.trans b1416
    have hol : o2.length ≤ 2048 := by omega
    have n9 := vin w9.heap.size (by omega) (by omega)
    have n12 := vin w12.heap.size (by omega) (by omega)
    obtain ⟨C, hC⟩ : ∃ C : Cfg, C = ⟨tb, b4', b5', b6', b7, w9.heap.size, w12.heap.size, x5, x6, g1, g2, k1, k2, p2, c2, o2, stop, v1, v2, d1, d2, ls, (s.set 1 1).M, fun x => Z' x ∨ (w8.heap.size ≤ x ∧ x < w14.heap.size)⟩ := ⟨_, rfl⟩
    have hst : Stat C w16 := by
      rw [hC]
      refine ⟨q18.bl b816, q28.bl b816, ⟨_, q38.bl b816⟩, o68.bl b816, (o11.bl b1114).bl b1416, ?_, o14.bl b1416, ?_, (hs2.bl b8).bl b816, ⟨vold _ (.inl f4), vold _ (.inl f5), vold _ (.inl f6), vold _ (.inr rfl), n9, n12⟩, fun h0 a ha => ?_, ?_, hol⟩
      · have h1 := (hv11.bl b1114).bl b1416
        exact ⟨h1.keys, h1.r1, h1.r2, fun b hb => by have := h1.at_ b hb; exact vin b (by omega) (by omega)⟩
      · have h1 := hall14.ext (T := None') (Ext.of_bl b1416) fun _ _ h => h
        obtain ⟨a1, a2, a3, a4⟩ := h1.at_
        exact ⟨h1.o5, h1.o6, h1.r1, h1.r2, ⟨vin x5 (by omega) (by omega), vin x6 (by omega) (by omega), vin g1 (by omega) (by omega), vin g2 (by omega) (by omega)⟩⟩
      · have ha' : p2 = some a := ha
        obtain ⟨a', hp, hlt⟩ := Sees.addr hs2 (by decide) h0
        rw [ha'] at hp; cases hp
        exact vold _ (zb0 _ hlt)
      · show ls.length < 1000000; omega
    have hV : C.V = fun x => Z' x ∨ (w8.heap.size ≤ x ∧ x < w14.heap.size) := by rw [hC]
    have htb : C.tb = tb := by rw [hC]
    have hb6 : C.b6 = b6' := by rw [hC]
    have hT : Tb w16 (fun x => C.V x ∨ x = w14.heap.size) C.tb (s.set 1 1) (o1.length + 1) := by
      rw [hV, htb]
      exact ht14.wide b1416 fun x hx => hx.imp id fun e => ⟨by omega, by omega⟩
    have hnV : ¬ C.V w14.heap.size := by
      rw [hV]
      intro h
      rcases h with h | h
      · have := ht8'.lt _ h; omega
      · omega
    have hzb : ∀ x, x < w.heap.size → C.V x := by
      rw [hV]; exact fun x hx => vold x (zb0 x hx)
    have hR : Rnd C w w16 0 w14.heap.size [] := ⟨fun x => C.V x ∨ x = w14.heap.size, s.set 1 1, o1.length + 1, ⟨hst, hT, fun x hx => .inl hx, hzb, b8.trans b816⟩, by omega, o16, ⟨.inr rfl, hnV⟩, (fun D hD => by cases hD), List.nodup_nil, by simp⟩
    have h := rounds (by rw [hb6]; exact g6) kk 3 0 w14.heap.size [] w16 (by omega) hR
    rw [hC] at h
    exact h
  have loop : ∀ (m i : Nat) (w7 : World), i + m = o1.length → Bl w w7 → Ext (fun x => ¬ (x < w3.heap.size ∨ x = b7)) w6 w7 → Tb w7 (fun x => x < w3.heap.size ∨ x = b7) tb (h0.ops (o1.take i)) i →
      L9_2 K (m + 1) p1 o1.length c1 ⟨b4', 0, none⟩ ⟨b5', 0, none⟩ ⟨b6', 0, none⟩ ⟨b7, 0, none⟩ (i : Int) (mks []) w7 := by
    intro m
    induction m with
    | zero =>
      intro i w7 hi b7' e7 ht7
      simp only [L9_2]
      exact ifD (fun h => by omega) fun _ => main w7 _ b7' e7 (ht7.mono (by omega))
    | succ m ih =>
      intro i w7 hi b7' e7 ht7
      rw [L9_2]
      simp only []
      have hlt : i < o1.length := by omega
      refine ifD (fun _ => ?_) fun h => by omega
      unfold drewK
      have bd : Bl w7 w7.drew := (Bl.refl w7).drew
      have o67 := (o6.ext e7 fun h => h (.inr rfl)).bl bd
      rw [i1w i (by omega)]
      refine ldO (i := 0) o67 rfl (asP_of ?_)
      refine opAt (Q := fun ad _ => ldK Try.prog w7.drew ad fun v2 => _) ((hs1.bl b7').bl bd) hlt fun a g0 g1 g2 g3 => ld4o g0 g1 g2 g3 (tOp (ht7.bl bd) (by omega) fun w8 ht8 e8 => t0 (ih (i + 1) w8 (by omega) (blNZ (b7'.trans bd) e8 zb0) (extNZ (extNZ e7 (Ext.of_bl bd)) e8) ?_))
      rw [ops_take _ _ hlt]; exact ht8
  exact ⟨o1.length + 1, loop o1.length 0 w6 (by omega) b06 (Ext.refl _) ht6⟩
theorem undoWithin_walk (p1 : Option Addr) (o1 : List OpV) (c1 : Nat) (p2 : Option Addr) (o2 : List OpV) (c2 : Nat) (stop : Int) (W : World) (h1 : Script W p1 c1 o1) (h2 : Script W p2 c2 o2) (_ : (Lit.int .i64 stop).wf = true) : Walk 9 #[.slice p1 o1.length c1, .slice p2 o2.length c2, .int .i64 stop] W :=
  walk_of (undoWithin h1 h2 fun _ hb => ⟨rfl, hb⟩)
end Go.Proofs.Ytalhnoelkglgiaa.W
