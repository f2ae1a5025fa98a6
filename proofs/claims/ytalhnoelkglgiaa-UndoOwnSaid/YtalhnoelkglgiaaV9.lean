/- UndoOwn, walked: it returns true. No condition. -/
import Derived.Test.YtalhnoelkglgiaaV7
namespace Go.Proofs.Ytalhnoelkglgiaa.W
open Go Go.Proofs.Ytalhnoelkglgiaa.Sh Go.RowKit
set_option linter.unusedVariables false
set_option linter.unusedSimpArgs false
set_option maxRecDepth 100000
variable {w w' w0 : World} {K : Value → World → Prop} {Z V F G : Nat → Prop} {tb N : Nat} {s : Hist}
theorem Two.grow {S : Nat → Prop} {w7 : World} {ta M : Nat} {sa : Hist} (h : Two w Z ta tb sa s N M) (b : Bl w w') (e : Ext S w' w7) (hs : ∀ x, S x → Z x) : Two w7 (fun x => Z x ∨ (w.heap.size ≤ x ∧ x < w7.heap.size)) ta tb sa s N M := by
  obtain ⟨F, G, a1, a2⟩ := h
  have a1' := (a1.ext (S := None') (Ext.of_bl b) fun _ _ h => h).ext e fun x hx hS => (a1.lF x hx).1 (.inl (hs x hS))
  have a2' := (a2.ext (S := None') (Ext.of_bl b) fun _ _ h => h).ext e fun x hx hS => (a2.lF x hx).1 (.inl (hs x hS))
  refine ⟨F, G, ⟨a1'.t, fun x hx => ⟨fun hh => ?_, (a1'.lF x hx).2⟩, fun x hx => ?_⟩, ⟨a2'.t, fun x hx => ⟨fun hh => ?_, (a2'.lF x hx).2⟩, fun x hx => ?_⟩⟩
  · rcases hh with (hh | hh) | hh
    · exact (a1.lF x hx).1 (.inl hh)
    · have := (a1.lF x hx).2; omega
    · exact (a1.lF x hx).1 (.inr hh)
  · rcases hx with (hx | hx) | hx
    · exact a1'.lZ x (.inl hx)
    · exact hx.2
    · exact a1'.lZ x (.inr hx)
  · rcases hh with (hh | hh) | hh
    · exact (a2.lF x hx).1 (.inl hh)
    · have := (a2.lF x hx).2; omega
    · exact (a2.lF x hx).1 (.inr hh)
  · rcases hx with (hx | hx) | hx
    · exact a2'.lZ x (.inl hx)
    · exact hx.2
    · exact a2'.lZ x (.inr hx)
def val (j : Nat) : Int := -100000 - (j : Int)
theorem valw (j : Nat) (h : j < 4000000) : IntKind.wrap .i64 (-100000 - (j : Int)) = val j := i64w (by omega) (by omega)
theorem ints_set (l : List Int) (k : Nat) (v : Int) : (ints l).set k (.int .i64 v) = ints (l.set k v) := by simp [ints, List.map_set]
theorem fill_set {l : List Int} {k : Nat} {v : Int} (h : k < l.length) : (List.replicate k v ++ l.drop k).set k v = List.replicate (k + 1) v ++ l.drop (k + 1) := by
  rw [List.drop_eq_getElem_cons h, List.set_append_right _ _ (by simp)]
  simp only [List.length_replicate, Nat.sub_self, List.set_cons_zero, List.replicate_succ', List.append_assoc, List.singleton_append]
def fillX (X : Nat → List Int) (i : Nat) : Nat → List Int := fun j => if j < i then List.replicate (X j).length (val j) else X j

/-! ### Behind: long lists -/
/-- Of what does not change while list i is made longer: x is none of its blocks. -/
structure Free (lp : Option Addr) (lc : Nat) (ls : List Sl) (i : Nat) (qp : Option Addr) (qc : Nat) (lg : List Sl) (x : Nat) : Prop where
  f1 : ¬ Blk (.slice lp ls.length lc) x
  f2 : ∀ k (h : k < ls.length), k ≠ i → ls[k].1 ≠ x
  f3 : ¬ Blk (.slice qp i qc) x
  f4 : ∀ a ∈ lg, a.1 ≠ x
structure Bg (w : World) (na : Nat) (lp : Option Addr) (lc : Nat) (ls : List Sl) (i i' : Nat) (qp : Option Addr) (qc : Nat) (lg : List Sl) : Prop where
  row : Row w (.slice lp ls.length lc) 29 ls.length (ls.map slv)
  rest : ∀ k (h : k < ls.length), i' ≤ k → Row w (slv ls[k]) 3 ls[k].2.1 (ints (List.replicate ls[k].2.1 (val k)))
  done : ∀ j (h : j < ls.length), j < i → Sees w 1 (some ⟨ls[j].1, 0, none⟩) ls[j].2.1 ls[j].2.2 (ints (List.replicate ls[j].2.1 (val j)))
  lgl : lg.length = i
  lrow : Row w (.slice qp i qc) 29 i (lg.map slv)
  long : ∀ j (h : j < lg.length) (h' : j < ls.length), Row w (slv lg[j]) 3 lg[j].2.1 (ints (List.replicate lg[j].2.1 (val j))) ∧ lg[j].2.1 = ls[j].2.1 + 70 ∧ (lg[j].1 = ls[j].1 ∨ na ≤ lg[j].1)
  lsep : lg.Pairwise (fun a b => a.1 ≠ b.1)
  qoff : ∀ b, Blk (.slice qp i qc) b → na ≤ b ∧ ∀ a ∈ lg, a.1 ≠ b
section
variable {na i : Nat} {lp qp : Option Addr} {lc qc : Nat} {ls lg : List Sl}
theorem Bg.ext {S : Nat → Prop} (h : Bg w na lp lc ls i (i + 1) qp qc lg) (hi : i ≤ ls.length) (e : Ext S w w') (hs : ∀ x, S x → Free lp lc ls i qp qc lg x) : Bg w' na lp lc ls i (i + 1) qp qc lg := by
  refine ⟨h.row.ext e fun g hg hS => (hs g hS).f1 hg, fun k hk hik => (h.rest k hk hik).ext e fun g hg hS => (hs g hS).f2 k hk (by omega) (slv_blk.1 hg), fun j hj hji => (h.done j hj hji).ext e fun a ha hS => ?_, h.lgl, h.lrow.ext e fun g hg hS => (hs g hS).f3 hg, fun j hj hj' => ?_, h.lsep, h.qoff⟩
  · cases ha; exact (hs _ hS).f2 j hj (by omega) rfl
  · obtain ⟨h1, h2, h3⟩ := h.long j hj hj'
    exact ⟨h1.ext e fun g hg hS => (hs g hS).f4 _ (List.getElem_mem hj) (slv_blk.1 hg), h2, h3⟩
theorem Bg.bl (h : Bg w na lp lc ls i (i + 1) qp qc lg) (hi : i ≤ ls.length) (b : Bl w w') : Bg w' na lp lc ls i (i + 1) qp qc lg := h.ext (S := None') hi (Ext.of_bl b) fun _ h => h.elim
theorem Bg.free (h : Bg w na lp lc ls i (i + 1) qp qc lg) (hlt : ∀ a ∈ ls, a.1 < w.heap.size) (hi : i ≤ ls.length) : Free lp lc ls i qp qc lg w.heap.size := by
  refine ⟨fun hb => by have := h.row.lt hb; omega, fun k hk _ e => by have := hlt _ (List.getElem_mem hk); omega, fun hb => by have := h.lrow.lt hb; omega, fun a ha e => ?_⟩
  obtain ⟨j, hj, rfl⟩ := List.getElem_of_mem ha
  have := (h.long j hj (by have := h.lgl; omega)).1.lt (slv_blk.2 rfl)
  omega
/-- 70 more behind list i. -/
theorem long70 {C : Option Addr → Option Addr → Option Addr → Nat → Nat → Addr → Option Addr → Nat → Nat → Int → World → Prop} {pa pb : Option Addr} {x : Addr} {n g c : Nat} {wb : World} {S : Nat → Prop} (hS : S g) (hi : i < ls.length) (him : i < 100000) (hg : ls[i] = (g, n, c)) (hn : n ≤ 1000000) (hnc : n ≤ c) (hlt : ∀ a ∈ ls, a.1 < na)
    (hna : na = wb.heap.size) (hgf : Free lp lc ls i qp qc lg g)
    (next : ∀ (w' : World) (h c' : Nat), Bg w' na lp lc ls i (i + 1) qp qc lg → Row w' (slv (h, n + 70, c')) 3 (n + 70) (ints (List.replicate (n + 70) (val i))) → Sees w' 1 (some ⟨g, 0, none⟩) n c (ints (List.replicate n (val i))) → (h = g ∨ (na ≤ h ∧ Free lp lc ls i qp qc lg h)) → Ext S wb w' →
      J7_11 K C pa pb lp ls.length lc x qp i qc (i : Int) (some ⟨h, 0, none⟩) (n + 70) c' w') :
    ∀ (m k : Nat) (w : World) (h c' : Nat), k + m = 70 → Bg w na lp lc ls i (i + 1) qp qc lg → Row w (slv (h, n + k, c')) 3 (n + k) (ints (List.replicate (n + k) (val i))) → (h = g ∨ (na ≤ h ∧ Free lp lc ls i qp qc lg h ∧ Sees w 1 (some ⟨g, 0, none⟩) n c (ints (List.replicate n (val i))))) → Ext S wb w →
      L7_12 K C (m + 1) pa pb lp ls.length lc x qp i qc (i : Int) (some ⟨h, 0, none⟩) (n + k) c' (k : Int) w := by
  intro m
  have sees : ∀ (w : World) (k c' : Nat), Row w (slv (g, n + k, c')) 3 (n + k) (ints (List.replicate (n + k) (val i))) → Sees w 1 (some ⟨g, 0, none⟩) n c (ints (List.replicate n (val i))) := by
    intro w k c' hr
    refine ⟨by simp [ints], hnc, fun j u hj => ⟨_, rfl, ?_⟩⟩
    rw [addG]
    refine hr.cell ?_
    have hjn : j < n := by have := (List.getElem?_eq_some_iff.1 hj).1; simpa [ints] using this
    rw [← hj]
    simp [ints, List.getElem?_replicate, hjn, show j < n + k by omega]
  induction m with
  | zero =>
    intro k w h c' hk hbg hr hh e
    have : k = 70 := by omega
    subst this
    simp only [L7_12]
    refine ifD (fun h => by omega) fun _ => next w h c' hbg hr ?_ (hh.imp id fun h => ⟨h.1, h.2.1⟩) e
    rcases hh with rfl | hh
    · exact sees w 70 c' hr
    · exact hh.2.2
  | succ m ih =>
    intro k w h c' hk hbg hr hh e
    rw [L7_12]
    simp only []
    refine ifD (fun _ => alO fun w1 o1 b1 s1 => ?_) fun h => by omega
    rw [i1w k (by omega)]
    have hbg1 := hbg.bl (by omega) b1
    have e1 : Ext S wb w1 := e.trans (Ext.of_bl b1 : Ext S w w1) fun _ _ h => h
    have rep : ints (List.replicate (n + k) (val i)) ++ [.int .i64 (val i)] = ints (List.replicate (n + (k + 1)) (val i)) := by
      rw [show n + (k + 1) = n + k + 1 by omega, List.replicate_succ']; simp [ints]
    rw [valw i (by omega)] at o1
    refine app1c (hr.bl b1) o1 u29 i3 rfl rfl (by omega) (by decide) (fun w2 hr2 e2 => asL_of ?_) fun cap' w2 hr2 b2 s2 => asL_of ?_
    · rw [rep] at hr2
      have hf : Free lp lc ls i qp qc lg h := by
        rcases hh with rfl | hh
        · exact hgf
        · exact hh.2.1
      refine ih (k + 1) w2 h c' (by omega) (hbg1.ext (by omega) e2 fun x hx => by subst hx; exact hf) hr2 ?_ ?_
      · rcases hh with rfl | hh
        · exact .inl rfl
        · by_cases hhg : h = g
          · exact .inl hhg
          · exact .inr ⟨hh.1, hh.2.1, (Sees.bl hh.2.2 b1).ext e2 fun a ha ee => by cases ha; exact hhg ee.symm⟩
      · refine ⟨e2.os.trans e1.os, e2.tape.trans e1.tape, e2.output.trans e1.output, Nat.le_trans e1.size e2.size, fun b hb hbg' => ?_⟩
        refine (e2.block b (Nat.lt_of_lt_of_le hb e1.size) fun hbh => ?_).trans (e1.block b hb hbg')
        rcases hh with rfl | hh
        · exact hbg' (hbh ▸ hS)
        · omega
    · rw [rep] at hr2
      have hz1 := e1.size
      refine ih (k + 1) w2 w1.heap.size cap' (by omega) (hbg1.bl (by omega) b2) hr2 (.inr ⟨by omega, hbg1.free (fun a ha => by have := hlt a ha; omega) (by omega), ?_⟩) (e1.trans (Ext.of_bl b2 : Ext S w1 w2) fun _ _ h => h)
      rcases hh with rfl | hh
      · exact Sees.bl (sees w k c' hr) (b1.trans b2)
      · exact Sees.bl hh.2.2 (b1.trans b2)
end
end Go.Proofs.Ytalhnoelkglgiaa.W
