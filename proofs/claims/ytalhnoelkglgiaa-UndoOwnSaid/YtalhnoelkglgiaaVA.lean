/- UndoOwn, walked: it returns true (all of it). No condition. -/
import Derived.Test.YtalhnoelkglgiaaV9
namespace Go.Proofs.Ytalhnoelkglgiaa.W
open Go Go.Proofs.Ytalhnoelkglgiaa.Sh Go.RowKit
set_option linter.unusedVariables false
set_option linter.unusedSimpArgs false
set_option maxRecDepth 100000
variable {w w' w0 wb : World} {K : Value → World → Prop} {Z V F G : Nat → Prop} {ta ub N x : Nat} {s : Hist}
variable {na i : Nat} {lp qp p1 p2 : Option Addr} {lc qc c1 c2 : Nat} {ls lg : List Sl} {ks : List Int} {X : Nat → List Int}
/-- What stands beside the lists. -/
structure Side7 (w0 w : World) (Z V : Nat → Prop) (ta ub : Nat) (s : Hist) (N x : Nat) (ks : List Int) (p1 p2 : Option Addr) (c1 c2 : Nat) : Prop where
  two : Two w Z ta ub s u0 N 1
  view : View w V s.M ks p1 p2 c1 c2
  own : Own w x #[.slice p1 ks.length c1, .slice p2 ks.length c2] 31
  vx : V x
  vz : ∀ x, V x → Z x
  zb : ∀ x, x < w0.heap.size → V x
  bl : Bl w0 w
theorem Side7.ext {S : Nat → Prop} (h : Side7 w0 w Z V ta ub s N x ks p1 p2 c1 c2) (e : Ext S w w') (hs : ∀ x, x < w.heap.size → S x → Z x ∧ ¬ V x) : Side7 w0 w' Z V ta ub s N x ks p1 p2 c1 c2 := by
  have e' : Ext (fun x => Z x ∧ ¬ V x) w w' := e.mono hs
  exact ⟨h.two.ext e' fun x hx => .inl hx.1, h.view.ext e' fun b hb hS => hS.2 hb, h.own.ext e' fun hS => hS.2 h.vx, h.vx, h.vz, h.zb, ((Ext.of_bl (S := fun x => ¬ V x) h.bl).trans e' fun x _ hx => hx.2).bl fun x hx hv => hv (h.zb x hx)⟩
theorem Side7.b (h : Side7 w0 w Z V ta ub s N x ks p1 p2 c1 c2) (b : Bl w w') : Side7 w0 w' Z V ta ub s N x ks p1 p2 c1 c2 := h.ext (S := None') (Ext.of_bl b) fun _ _ h => h.elim

/-- The last: the tables tell what they told. -/
theorem own6 (h : Side7 w0 w Z V ta ub s N x ks p1 p2 c1 c2) (hN : N < 100000) (hk : ks.length < 1073741823) (kk : ∀ w', Bl w0 w' → K (.bool true) w') : J7_13 K (some ⟨ta, 0, none⟩) (some ⟨ub, 0, none⟩) ⟨x, 0, none⟩ w := by
  unfold J7_13
  refine ldO (i := 0) h.own rfl (asL_of (ldO (i := 1) h.own rfl (asL_of (tTells h.two.one (by omega) rfl h.view hk fun w1 b1 => asB_of (ifB_t rfl (alO fun w2 o2 b2 s2 => alO fun w3 o3 b3 s3 => ?_))))))
  have b := (b1.trans b2).trans b3
  have hv : View w3 (fun _ => True) u0.M [4] (some ⟨w1.heap.size, 0, none⟩) (some ⟨w2.heap.size, 0, none⟩) 1 1 :=
    ⟨u0_keys, (rowLit (n := 1) o2 rfl (by decide)).bl b3, rowLit (n := 1) o3 rfl (by decide), fun _ _ => trivial⟩
  exact tTells (ks := [4]) (h.two.bl b).swap.one (by decide) rfl hv (by decide) fun w4 b4 => asB_of (ifB_t rfl (awake fun w5 b5 => asB_of (kk w5 (((h.bl.trans b).trans b4).trans b5))))
/-- Reading all. -/
theorem own5 (h : Side7 w0 w Z V ta ub s N x ks p1 p2 c1 c2) (hN : N < 100000) (hk : ks.length < 1073741823) (hl : ls.length ≤ 1000) (hsm : ∀ a ∈ ls, a.2.1 ≤ 1000000) (hbg : Bg w na lp lc ls ls.length (ls.length + 1) qp qc lg) (kk : ∀ w', Bl w0 w' → K (.bool true) w') :
    ∀ (m i : Nat), i + m = ls.length → L7_14 K (m + 1) (some ⟨ta, 0, none⟩) (some ⟨ub, 0, none⟩) lp ls.length lc ⟨x, 0, none⟩ qp ls.length qc (i : Int) w := by
  intro m
  induction m with
  | zero =>
    intro i hi
    simp only [L7_14]
    exact ifD (fun h => by omega) fun _ => own6 h hN hk kk
  | succ m ih =>
    intro i hi
    rw [L7_14]
    simp only []
    have hlt : i < ls.length := by omega
    have hlg : i < lg.length := by have := hbg.lgl; omega
    refine ifD (fun _ => ?_) fun h => by omega
    obtain ⟨hr, hn, _⟩ := hbg.long i hlg hlt
    have hd := hbg.done i hlt hlt
    have hn7 := hsm _ (List.getElem_mem hlt)
    have inner : ∀ (q k : Nat), k + q = lg[i].2.1 → L7_16 K (L7_14 K (m + 1)) (q + 1) (some ⟨ta, 0, none⟩) (some ⟨ub, 0, none⟩) lp ls.length lc ⟨x, 0, none⟩ qp ls.length qc (i : Int) (k : Int) w := by
      intro q
      induction q with
      | zero =>
        intro k hk'
        simp only [L7_16]
        refine rowSl hbg.lrow hlg (ifD (fun h => by omega) fun _ => ?_)
        unfold J7_15
        rw [i1w i (by omega)]
        exact ih (i + 1) (by omega)
      | succ q ihq =>
        intro k hk'
        rw [L7_16]
        simp only []
        refine rowSl hbg.lrow hlg (ifD (fun _ => rowSl hbg.lrow hlg ?_) fun h => by omega)
        have e1 : (ints (List.replicate lg[i].2.1 (val i)))[k]? = some (.int .i64 (val i)) := by simp [ints, List.getElem?_replicate]; omega
        refine rowAtF hr e1 (ifB_f (by rw [valw i (by omega)]; simp) (rowSl hbg.row hlt (ifD (fun hk2 => ?_) fun _ => ?_)))
        · have e2 : (ints (List.replicate ls[i].2.1 (val i)))[k]? = some (.int .i64 (val i)) := by simp [ints, List.getElem?_replicate]; omega
          refine rowSl hbg.row hlt (seesAt hd e2 (ifB_f (by rw [valw i (by omega)]; simp) ?_))
          rw [i1w k (by omega)]
          exact ihq (k + 1) (by omega)
        · rw [i1w k (by omega)]
          exact ihq (k + 1) (by omega)
    exact ⟨lg[i].2.1 + 1, inner lg[i].2.1 0 (by omega)⟩
/-- Making them long. -/
theorem own4 (h : Side7 w0 wb Z V ta ub s N x ks p1 p2 c1 c2) (hN : N < 100000) (hk : ks.length < 1073741823) (hl : ls.length ≤ 1000) (hsm : ∀ a ∈ ls, a.2.1 ≤ 1000000) (hsep : ls.Pairwise (fun a b => a.1 ≠ b.1)) (hoff : ∀ a ∈ ls, Z a.1 ∧ ¬ V a.1 ∧ ¬ Blk (.slice lp ls.length lc) a.1)
    (hlt : ∀ a ∈ ls, a.1 < na) (hna : na = wb.heap.size) (hlb : ∀ b, Blk (.slice lp ls.length lc) b → b < na) (hnc : ∀ a ∈ ls, a.2.1 ≤ a.2.2) (kk : ∀ w', Bl w0 w' → K (.bool true) w') :
    ∀ (m i : Nat) (w : World) (qp : Option Addr) (qc : Nat) (lg : List Sl), i + m = ls.length → Bg w na lp lc ls i i qp qc lg → Ext (fun x => ∃ a ∈ ls, x = a.1) wb w →
      L7_9 K (m + 1) (some ⟨ta, 0, none⟩) (some ⟨ub, 0, none⟩) lp ls.length lc ⟨x, 0, none⟩ qp i qc (i : Int) w := by
  intro m
  have hside : ∀ w, Ext (fun x => ∃ a ∈ ls, x = a.1) wb w → Side7 w0 w Z V ta ub s N x ks p1 p2 c1 c2 := fun w e => h.ext e fun x _ ⟨a, ha, hx⟩ => by subst hx; exact ⟨(hoff a ha).1, (hoff a ha).2.1⟩
  induction m with
  | zero =>
    intro i w qp qc lg hi hbg e
    have : i = ls.length := by omega
    subst this
    simp only [L7_9]
    refine ifD (fun h => by omega) fun _ => ?_
    unfold J7_8
    have hbg' : Bg w na lp lc ls ls.length (ls.length + 1) qp qc lg := ⟨hbg.row, fun k hk hk' => by omega, hbg.done, hbg.lgl, hbg.lrow, hbg.long, hbg.lsep, hbg.qoff⟩
    exact ⟨ls.length + 1, own5 (hside w e) hN hk hl hsm hbg' kk ls.length 0 (by omega)⟩
  | succ m ih =>
    intro i w qp qc lg hi hbg e
    rw [L7_9]
    simp only []
    have hli : i < ls.length := by omega
    refine ifD (fun _ => rowSl hbg.row hli ⟨71, ?_⟩) fun h => by omega
    have hmem := List.getElem_mem hli
    have hze := e.size
    have hbg1 : Bg w na lp lc ls i (i + 1) qp qc lg := ⟨hbg.row, fun k hk hk' => hbg.rest k hk (by omega), hbg.done, hbg.lgl, hbg.lrow, hbg.long, hbg.lsep, hbg.qoff⟩
    have hgl : ls[i].1 < na := hlt _ hmem
    have hfree : Free lp lc ls i qp qc lg ls[i].1 := by
      refine ⟨(hoff _ hmem).2.2, fun k hk hki => sepNe hsep hk hli hki, fun hb => by have := (hbg.qoff _ hb).1; omega, fun a ha => ?_⟩
      obtain ⟨j, hj, rfl⟩ := List.getElem_of_mem ha
      have hjl : j < ls.length := by have := hbg.lgl; omega
      rcases (hbg.long j hj hjl).2.2 with h1 | h1
      · rw [h1]; exact sepNe hsep hjl hli (by have := hbg.lgl; omega)
      · omega
    have hr0 := hbg.rest i hli (Nat.le_refl _)
    -- the 70 ones; then the list is put behind
    refine long70 (wb := wb) (na := na) (S := fun x => ∃ a ∈ ls, x = a.1) (g := ls[i].1) (n := ls[i].2.1) (c := ls[i].2.2) ⟨_, hmem, rfl⟩ hli (by omega) rfl (hsm _ hmem) (hnc _ hmem) hlt hna hfree (fun w2 h2 c2' hbg2 hr2 hs2 hh2 e2 => ?_) 70 0 w ls[i].1 ls[i].2.2 (by omega) hbg1 hr0 (.inl rfl) e
    unfold J7_11
    refine alO fun w3 o3 b3 s3 => ?_
    have hbg3 := hbg2.bl (by omega) b3
    have hr3 := hr2.bl b3
    have hs3 := Sees.bl hs2 b3
    have hlgl := hbg2.lgl
    have hsm3 : ls[i].2.1 ≤ 1000000 := hsm _ hmem
    have hh2lt : h2 < w2.heap.size := hr2.lt (slv_blk.2 rfl)
    have hz2 := e2.size
    refine app1 hbg3.lrow o3 u48 i29 rfl rfl (by omega) (by decide) fun g4 cap4 w4 hr4 e4 hg4 hgl4 => asL_of ?_
    unfold J7_10
    rw [i1w i (by omega)]
    have hz3 := b3.size
    have hz4 := e4.size
    -- the new block of the long list
    have hb4 : ∀ y, Blk (.slice qp i qc) y → na ≤ y := fun y hy => (hbg3.qoff y hy).1
    have hfr : ∀ y, Blk (.slice qp i qc) y → Free lp lc ls i (some ⟨g4, 0, none⟩) cap4 lg y → True := fun _ _ _ => trivial
    have hlong : ∀ j (hj : j < lg.length), lg[j].1 < w2.heap.size := fun j hj => (hbg2.long j hj (by omega)).1.lt (slv_blk.2 rfl)
    have hg4na : na ≤ g4 := by
      rcases hg4 with h | h
      · exact hb4 g4 h
      · omega
    have hh2f : ¬ Blk (.slice qp i qc) h2 ∧ ∀ a ∈ lg, a.1 ≠ h2 := by
      rcases hh2 with h | h
      · subst h; exact ⟨hfree.f3, hfree.f4⟩
      · exact ⟨h.2.f3, h.2.f4⟩
    have hlist : ∀ k (hk : k < ls.length), ¬ Blk (.slice qp i qc) ls[k].1 := fun k hk hb => by have := hb4 _ hb; have := hlt _ (List.getElem_mem hk); omega
    refine ih (i + 1) w4 (some ⟨g4, 0, none⟩) cap4 (lg ++ [(h2, ls[i].2.1 + 70, c2')]) (by omega) ⟨?_, fun k hk hik => ?_, fun j hj hji => ?_, by simp [hlgl], ?_, fun j hj hjl => ?_, ?_, fun b hb => ?_⟩ ?_
    · exact hbg3.row.ext e4 fun y hy hb => by have := hb4 y hb; have := hlb y hy; omega
    · exact (hbg3.rest k hk hik).ext e4 fun y hy hb => by have := slv_blk.1 hy; subst this; exact hlist k hk hb
    · by_cases hjeq : j = i
      · subst hjeq
        exact Sees.ext hs3 e4 fun a ha hb => by cases ha; exact hlist j hj hb
      · exact Sees.ext (hbg3.done j hj (by omega)) e4 fun a ha hb => by cases ha; exact hlist j hj hb
    · rw [List.map_append]; exact hr4
    · by_cases hjl2 : j < lg.length
      · obtain ⟨g1, g2, g3⟩ := hbg3.long j hjl2 hjl
        rw [List.getElem_append_left hjl2]
        exact ⟨g1.ext e4 fun y hy hb => (hbg3.qoff y hb).2 _ (List.getElem_mem hjl2) (slv_blk.1 hy), g2, g3⟩
      · have hji : j = i := by simp at hj; omega
        subst hji
        rw [List.getElem_append_right (by omega)]
        simp only [hlgl, Nat.sub_self, List.getElem_cons_zero]
        refine ⟨hr3.ext e4 fun y hy hb => ?_, trivial, hh2.imp id fun h => h.1⟩
        have := slv_blk.1 hy
        have : h2 = y := this
        subst this
        exact hh2f.1 hb
    · rw [List.pairwise_append]
      refine ⟨hbg3.lsep, List.pairwise_singleton _ _, fun a ha b hb => ?_⟩
      simp at hb; subst hb
      exact hh2f.2 a ha
    · have hb' : g4 = b := blk_some.1 hb
      subst hb'
      refine ⟨hg4na, fun a ha => ?_⟩
      rcases List.mem_append.1 ha with ha | ha
      · rcases hg4 with h | h
        · exact (hbg3.qoff g4 h).2 a ha
        · obtain ⟨j, hj, rfl⟩ := List.getElem_of_mem ha
          have := hlong j hj; omega
      · simp at ha; subst ha
        show h2 ≠ g4
        rcases hg4 with h | h
        · exact fun e => hh2f.1 (e ▸ h)
        · omega
    · refine ⟨e4.os.trans (b3.os.trans e2.os), e4.tape.trans (b3.tape.trans e2.tape), e4.output.trans (b3.output.trans e2.output), by omega, fun y hy hS => ?_⟩
      exact (e4.block y (by omega) fun hb => by have := hb4 y hb; omega).trans ((b3.block y (by omega)).trans (e2.block y hy hS))
/-- Written full. -/
theorem own3 (h : Side7 w0 wb Z V ta ub s N x ks p1 p2 c1 c2) (hL0 : Lst wb Z V lp lc ls X) (hN : N < 100000) (hk : ks.length < 1073741823) (hl : ls.length ≤ 1000) (hsm : ∀ a ∈ ls, a.2.1 ≤ 1000000) (kk : ∀ w', Bl w0 w' → K (.bool true) w') :
    ∀ (m i : Nat) (w : World), i + m = ls.length → Lst w Z V lp lc ls (fillX X i) → Ext (fun x => Z x ∧ ¬ V x) wb w → L7_5 K (m + 1) (some ⟨ta, 0, none⟩) (some ⟨ub, 0, none⟩) lp ls.length lc ⟨x, 0, none⟩ (i : Int) w := by
  have hXl : ∀ j (hj : j < ls.length), (X j).length = ls[j].2.1 := fun j hj => by have := (hL0.each j hj).len; simpa [ints] using this
  intro m
  induction m with
  | zero =>
    intro i w hi hL e
    have : i = ls.length := by omega
    subst this
    simp only [L7_5]
    refine ifD (fun h => by omega) fun _ => ?_
    unfold J7_4
    have hs := h.ext e fun _ _ h => h
    have zl := hs.two.lt
    have hfill : ∀ j (hj : j < ls.length), fillX X ls.length j = List.replicate ls[j].2.1 (val j) := fun j hj => by unfold fillX; rw [if_pos hj, hXl j hj]
    refine ⟨ls.length + 1, own4 (na := w.heap.size) hs hN hk hl hsm hL.sep hL.off (fun a ha => zl _ (hL.off a ha).1) rfl (fun b hb => zl _ (hL.lo b hb).1) (fun a ha => ?_) kk ls.length 0 w none 0 [] (by omega) ⟨hL.row, fun k hk _ => ?_, fun j _ hj => by omega, rfl, Row.nil _ _, (fun j hj => by simp at hj), List.Pairwise.nil, (fun b hb => by cases hb)⟩ (Ext.refl _)⟩
    · obtain ⟨j, hj, rfl⟩ := List.getElem_of_mem ha
      exact (RowZ.sees (z := 1) (hL.each j hj)).le
    · have := hL.each k hk
      rw [hfill k hk] at this; exact this
  | succ m ih =>
    intro i w hi hL e
    rw [L7_5]
    simp only []
    have hli : i < ls.length := by omega
    have hXi := hXl i hli
    have hsm' := hsm _ (List.getElem_mem hli)
    refine ifD (fun _ => ?_) fun h => by omega
    have inner : ∀ (q k : Nat) (w : World), k + q = ls[i].2.1 → Lst w Z V lp lc ls (fun j => if j = i then List.replicate k (val i) ++ (X i).drop k else fillX X i j) → Ext (fun x => Z x ∧ ¬ V x) wb w → L7_7 K (L7_5 K (m + 1)) (q + 1) (some ⟨ta, 0, none⟩) (some ⟨ub, 0, none⟩) lp ls.length lc ⟨x, 0, none⟩ (i : Int) (k : Int) w := by
      intro q
      induction q with
      | zero =>
        intro k w hkq hL e
        simp only [L7_7]
        refine rowSl hL.row hli (ifD (fun h => by omega) fun _ => ?_)
        unfold J7_6
        rw [i1w i (by omega)]
        refine ih (i + 1) w (by omega) ?_ e
        have : (fun j => if j = i then List.replicate k (val i) ++ (X i).drop k else fillX X i j) = fillX X (i + 1) := by
          funext j
          unfold fillX
          by_cases hj : j = i
          · subst hj; rw [if_pos rfl, if_pos (by omega), List.drop_of_length_le (by omega), hXi, List.append_nil, show k = ls[j].2.1 by omega]
          · rw [if_neg hj]
            by_cases hj2 : j < i
            · rw [if_pos hj2, if_pos (by omega)]
            · rw [if_neg hj2, if_neg (by omega)]
        rw [← this]; exact hL
      | succ q ihq =>
        intro k w hkq hL e
        rw [L7_7]
        simp only []
        refine rowSl hL.row hli (ifD (fun _ => rowSl hL.row hli ?_) fun h => by omega)
        refine ixS (z := 1) u29 s3 (by omega) (by omega) (show asA (.pointer (some _)) _ from ?_)
        rw [addAt, valw i (by omega), i1w k (by omega)]
        have hr := hL.each i hli
        rw [if_pos rfl] at hr
        refine stR hr (by omega) (by kernel_rfl) rfl rfl fun w2 hr2 e2 => ?_
        rw [ints_set, fill_set (by omega)] at hr2
        have hL2 := hL.put hli hr2 e2
        refine ihq (k + 1) w2 (by omega) ?_ (e.trans e2 fun y _ hy => by subst hy; exact ⟨(hL.off _ (List.getElem_mem hli)).1, (hL.off _ (List.getElem_mem hli)).2.1⟩)
        have : (fun j => if j = i then List.replicate (k + 1) (val i) ++ (X i).drop (k + 1) else (fun j => if j = i then List.replicate k (val i) ++ (X i).drop k else fillX X i j) j) = (fun j => if j = i then List.replicate (k + 1) (val i) ++ (X i).drop (k + 1) else fillX X i j) := by
          funext j
          by_cases hj : j = i
          · simp [hj]
          · simp [hj]
        rw [← this]; exact hL2
    refine ⟨ls[i].2.1 + 1, inner ls[i].2.1 0 w (by omega) ?_ e⟩
    have : (fun j => if j = i then List.replicate 0 (val i) ++ (X i).drop 0 else fillX X i j) = fillX X i := by
      funext j
      by_cases hj : j = i
      · subst hj; unfold fillX; simp
      · simp [hj]
    rw [this]; exact hL

/-- Behind the script. -/
theorem own2 {V : Nat → Prop} (h : Own1 w0 w V ta ub s N lp lc ls X) (hzb : ∀ x, x < w0.heap.size → V x) (hN : N < 10000) (hl : ls.length ≤ 900) (kk : ∀ w', Bl w0 w' → K (.bool true) w') : J7_1 K (some ⟨ta, 0, none⟩) (some ⟨ub, 0, none⟩) lp ls.length lc w := by
  obtain ⟨Z, ht, hL, hVZ, hsm, hb⟩ := h
  unfold J7_1
  refine tSeen ht.one (by omega) fun w1 q1 d1 q2 d2 ks hv hkl b1 => g2l (alO fun w2 o2 b2 s2 => stAll (b := w1.heap.size) (vs := #[.slice q1 ks.length d1, .slice q2 ks.length d2]) o2 (by kernel_rfl) rfl (by kernel_rfl) fun w3 o3 e3 => ?_)
  have z1 := b1.size
  have z2 := b2.size
  have z3 := e3.size
  have b03 : Bl w w3 := ((Ext.of_bl (S := fun x => x = w1.heap.size) (b1.trans b2)).trans e3 fun _ _ h => h).bl fun x hx e => by omega
  have hv3 := (hv.bl b2).ext e3 fun b hb e => by omega
  have zlt := ht.lt
  -- from here on
  have ht3 : Two w3 (fun x => Z x ∨ (w.heap.size ≤ x ∧ x < w3.heap.size)) ta ub s u0 N 1 := ht.wide b03 fun x hx => hx
  have hL3 : Lst w3 (fun x => Z x ∨ (w.heap.size ≤ x ∧ x < w3.heap.size)) (fun x => V x ∨ (w.heap.size ≤ x ∧ x < w3.heap.size)) lp lc ls X :=
    (hL.bl b03).wide (fun x hx => .inl hx) fun x hx => hx.imp id fun hx hz => by have := zlt x hz; omega
  have hvz3 : ∀ x, (V x ∨ (w.heap.size ≤ x ∧ x < w3.heap.size)) → (Z x ∨ (w.heap.size ≤ x ∧ x < w3.heap.size)) := fun x hx => hx.imp (hVZ x) id
  have hv3' : View w3 (fun x => V x ∨ (w.heap.size ≤ x ∧ x < w3.heap.size)) s.M ks q1 q2 d1 d2 := ⟨hv3.keys, hv3.r1, hv3.r2, fun b hb => .inr (by have := hv3.at_ b hb; omega)⟩
  have vx : (V w1.heap.size ∨ (w.heap.size ≤ w1.heap.size ∧ w1.heap.size < w3.heap.size)) := .inr ⟨by omega, by omega⟩
  have b3 := hb.trans b03
  generalize w1.heap.size = x at o3 vx ⊢
  generalize hZ3 : (fun x => Z x ∨ (w.heap.size ≤ x ∧ x < w3.heap.size)) = Z3 at ht3 hL3
  generalize hV3 : (fun x => V x ∨ (w.heap.size ≤ x ∧ x < w3.heap.size)) = V3 at hL3 hv3'
  have hvz : ∀ x, V3 x → Z3 x := fun x hx => by rw [← hV3] at hx; rw [← hZ3]; exact hvz3 x hx
  have vx : V3 x := by rw [← hV3]; exact vx
  have hzb3 : ∀ x, x < w0.heap.size → V3 x := fun x hx => by rw [← hV3]; exact .inl (hzb x hx)
  have zlt3 := ht3.lt
  refine tKeys ht3.one (by omega) fun w4 g1 c1 k1 hk1 hl1 hr1 hg1 b4 => asL_of ?_
  refine tKeys (ht3.bl b4).swap.one (by omega) fun w5 g2 c2 k2 hk2 hl2 hr2 hg2 b5 => asL_of (alO fun w6 o6 b6 s6 => ?_)
  have b36 := (b4.trans b5).trans b6
  have e1 : k1 = ks := keys_len hk1 hv.keys
  subst e1
  have e2 : k2 = [4] := keys_len hk2 u0_keys
  subst e2
  have l1 := hr1.lt (blk_some.2 rfl)
  have l2 := hr2.lt (blk_some.2 rfl)
  have z4 := b4.size
  have z5 := b5.size
  obtain ⟨ns, hns⟩ : ∃ ns : List Sl, ns = [(g1, k1.length, c1), (g2, 1, c2)] := ⟨_, rfl⟩
  have hq : Own w6 w5.heap.size (ns.map slv).toArray 29 := by rw [hns]; exact o6
  refine (hL3.bl b36).app (na := w3.heap.size) (m := 2) (c := 2) (ns := ns) (Y := fun j => if j = 1 then [4] else k1) zlt3 (fun x hx => zlt3 x (hvz x hx)) b36.size hq (by rw [hns]; rfl) (by decide) (by decide) (fun j hj => ?_) ?_ (by omega) fun q' cap w7 hL7 e7 => asL_of ?_
  · rw [hns] at hj
    have hj : j < 2 := hj
    match j, hj with
    | 0, _ => simp only [hns]; exact ⟨((hr1.bl b5).bl b6), hg1⟩
    | 1, _ => simp only [hns]; exact ⟨(hr2.bl b6), by show w3.heap.size ≤ g2; omega⟩
  · rw [hns]; simp; omega
  have hlen : (ls ++ ns).length = ls.length + 2 := by rw [hns]; simp
  have ht7 := ht3.grow b36 e7 fun x hx => hx.1
  unfold drewK
  have b7 : Bl w0 w7 := ((Ext.of_bl (S := fun x => ¬ V3 x) (b3.trans b36)).trans e7 fun x _ hx => hx.2).bl fun x hx hv => hv (hzb3 x hx)
  have bd : Bl w7 w7.drew := (Bl.refl w7).drew
  have hL8 := hL7.bl bd
  have ht8 := ht7.bl bd
  have hv8 := ((hv3'.bl b36).ext e7 fun b hb hS => hS.2 hb).bl bd
  have o8 := ((o3.bl b36).ext e7 fun hS => hS.2 vx).bl bd
  have b8 := b7.trans bd
  rw [← hlen]
  have z37 := e7.size
  have z36 := b36.size
  have hsz8 : w7.drew.heap.size = w7.heap.size := rfl
  generalize w7.drew = w8 at bd hL8 ht8 hv8 o8 b8 hsz8 ⊢
  have ix : IntKind.wrap .i64 (((ls ++ ns).length : Int) - 2) = (((ls ++ ns).length - 2 : Nat) : Int) := by rw [i64w (by omega) (by omega)]; omega
  rw [ix]
  have at1 : (ls ++ ns)[(ls ++ ns).length - 2]'(by omega) = (g1, k1.length, c1) := by
    rw [List.getElem_append_right (by omega)]; simp [hns]
  have r1 := hL8.each ((ls ++ ns).length - 2) (by omega)
  rw [if_neg (by omega), if_neg (by omega), at1] at r1
  refine ixSlO hL8.row (i := (ls ++ ns).length - 2) (by omega) fun a ha => ?_
  rw [at1] at ha
  refine ld ha (asL_of (ldO (i := 0) o8 rfl (asL_of (sameInts r1 hv8.r1 (show k1.length < 1073741824 by omega) fun w9 b9 => asB_of (ifB_f (by simp) ?_)))))
  have hside : Side7 w0 w9 (fun x => Z3 x ∨ (w3.heap.size ≤ x ∧ x < w7.heap.size)) V3 ta ub s N x k1 q1 q2 d1 d2 := ⟨ht8.bl b9, hv8.bl b9, o8.bl b9, vx, fun x hx => .inl (hvz x hx), hzb3, b8.trans b9⟩
  have hsm9 : ∀ a ∈ ls ++ ns, a.2.1 ≤ 1000000 := fun a ha => by
    rcases List.mem_append.1 ha with ha | ha
    · exact hsm a ha
    · rw [hns] at ha
      simp at ha
      rcases ha with rfl | rfl
      · show k1.length ≤ 1000000; omega
      · show 1 ≤ 1000000; decide
  have hL9 := hL8.bl b9
  refine ⟨(ls ++ ns).length + 1, own3 hside hL9 (by omega) (by omega) (by omega) hsm9 kk (ls ++ ns).length 0 w9 (by omega) ?_ (Ext.refl _)⟩
  have : ∀ X : Nat → List Int, fillX X 0 = X := fun X => by funext j; unfold fillX; rw [if_neg (by omega)]
  rw [this]; exact hL9
theorem undoOwn {p : Option Addr} {c : Nat} {ops : List OpV} (hs : Script w p c ops) (kk : ∀ w', Bl w w' → K (.bool true) w') : CallV Try.prog 7 #[.slice p ops.length c] w K := by
  refine call7 p ops.length c w K ?_
  unfold F7
  refine tNew fun w1 tb ht b1 => asP_of (twoNew ht fun w2 ub h2 b2 => asP_of (ifB_f rfl (ifB_f rfl ?_)))
  have h2 := h2.swap
  unfold J7_0
  have zb : ∀ x, x < w.heap.size → x < w.heap.size := fun x hx => hx
  have b02 := b1.trans b2
  obtain ⟨ZZ, ha, hon⟩ := h2.on
  refine tSet ha (by decide) fun w3 ha3 e3 => t0 ?_
  obtain ⟨h3, e3'⟩ := hon w3 _ _ ha3 e3
  have b3 := blNZ b02 e3' zb
  obtain ⟨ZY, hu, hon2⟩ := h3.swap.on
  refine tSet hu (by decide) fun w4 hu4 e4 => t0 ?_
  obtain ⟨h4, e4'⟩ := hon2 w4 _ _ hu4 e4
  have b4 := blNZ b3 e4' zb
  have h4 := h4.swap
  have loop : ∀ (m i : Nat) (w' : World) (s : Hist) (lp : Option Addr) (lc : Nat) (ls : List Sl) (X : Nat → List Int), i + m = min ops.length 60 → ls.length = 3 * i → Own1 w w' (fun x => x < w.heap.size) tb ub s (i + 1) lp lc ls X → L7_2 K (m + 1) p ops.length c (some ⟨tb, 0, none⟩) (some ⟨ub, 0, none⟩) lp ls.length lc (i : Int) w' := by
    intro m
    induction m with
    | zero =>
      intro i w' s lp lc ls X hi hl h
      simp only [L7_2]
      refine ifD (fun h1 => ifD (fun h2 => by omega) fun _ => ?_) fun _ => ?_
      · exact own2 h zb (by omega) (by omega) kk
      · exact own2 h zb (by omega) (by omega) kk
    | succ m ih =>
      intro i w' s lp lc ls X hi hl h
      rw [L7_2]
      simp only []
      refine ifD (fun _ => ifD (fun _ => ?_) fun h => by omega) fun h => by omega
      exact ownStep hs (by omega) (by omega) zb (by omega) (by omega) h fun w'' lp' lc' ls' X' h' hl' => ih (i + 1) w'' _ lp' lc' ls' X' (by omega) (by omega) h'
  refine ⟨min ops.length 60 + 1, loop (min ops.length 60) 0 w4 _ none 0 [] (fun _ => []) (by omega) rfl ⟨_, h4, ⟨Row.nil _ _, (fun j hj => by simp at hj), List.Pairwise.nil, (fun a ha => by cases ha), (fun b hb => by cases hb)⟩, fun x hx => hx, (fun a ha => by cases ha), b4⟩⟩
theorem undoOwn_walk (p : Option Addr) (ops : List OpV) (c : Nat) (W : World) (h : Script W p c ops) : Walk 7 #[.slice p ops.length c] W :=
  walk_of (undoOwn h fun _ hb => ⟨rfl, hb⟩)
end Go.Proofs.Ytalhnoelkglgiaa.W
