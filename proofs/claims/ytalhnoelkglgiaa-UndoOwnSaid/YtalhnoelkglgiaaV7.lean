/- UndoOwn: lists of lists in memory. No condition. -/
import Derived.Test.YtalhnoelkglgiaaV4
import Derived.Laws.OwnMore
namespace Go.Proofs.Ytalhnoelkglgiaa.W
open Go Go.Proofs.Ytalhnoelkglgiaa.Sh Go.RowKit
set_option linter.unusedVariables false
set_option linter.unusedSimpArgs false
set_option maxRecDepth 100000
variable {w w' w0 : World} {K : Value → World → Prop} {Z V F G : Nat → Prop} {tb N : Nat} {s : Hist}
theorem u48 : Try.prog.underlying 48 = some (.slice 29) := by kernel_rfl
theorem s29 : (Try.prog.info? 29).map (·.size) = some 1 := by kernel_rfl
theorem i29 : (Try.prog.info? 29).map (fun i => (i.zero, i.size, i.bytes)) = some (some (.slice none 0 0), 1, 24) := by kernel_rfl

/-- One more at the end: in place where there is room, else in a new block. -/
theorem app1c {P : Program} {t e n ty b e' by' c g cap : Nat} {xs : List Value} {u z : Value} {F : Value → World → Prop} (h : Row w (.slice (some ⟨g, 0, none⟩) n cap) e n xs) (ho : Own w b #[u] e') (ht : P.underlying t = some (.slice e)) (hi : (P.info? e).map (fun i => (i.zero, i.size, i.bytes)) = some (some z, 1, by')) (hz : z.cells = #[z])
    (h1 : u.oneCell' = true) (hn : n + 1 ≤ 1073741824) (hb : by' ≤ 65536)
    (k1 : ∀ w', Row w' (.slice (some ⟨g, 0, none⟩) (n + 1) cap) e (n + 1) (xs ++ [u]) → Ext (· = g) w w' → F (.slice (some ⟨g, 0, none⟩) (n + 1) cap) w')
    (k2 : ∀ cap' w', Row w' (.slice (some ⟨w.heap.size, 0, none⟩) (n + 1) cap') e (n + 1) (xs ++ [u]) → Bl w w' → w'.heap.size = w.heap.size + 1 → F (.slice (some ⟨w.heap.size, 0, none⟩) (n + 1) cap') w') :
    semK P (Builtin.append_ #[t, t] ty #[.slice (some ⟨g, 0, none⟩) n cap, .slice (some ⟨b, 0, none⟩) 1 c]) w F := by
  cases hinf : P.info? e with
  | none => rw [hinf] at hi; cases hi
  | some i =>
    rw [hinf] at hi
    simp only [Option.map_some, Option.some.injEq, Prod.mk.injEq] at hi
    obtain ⟨hz0, hs, hby⟩ := hi
    have hm : maxLen = 9223372036854775807 := rfl
    have hnews : ∀ (j : Nat) (q : Value), [u][j]? = some q → w.cell? ((⟨b, 0, none⟩ : Addr).add j) = some q := by
      intro j q hj
      cases j with
      | zero =>
        simp only [List.getElem?_cons_zero, Option.some.injEq] at hj
        subst hj
        have := ho.cell (i := 0)
        simpa [Addr.add] using this
      | succ j => simp at hj
    by_cases hroom : n + 1 ≤ cap
    · obtain ⟨w', hr, h2, h3⟩ := run_append_fits (P := P) w 0 t ty e i 1 ht hinf hs g n cap xs h ⟨b, 0, none⟩ 1 c [u] rfl hnews (by simpa using h1) hroom
      exact semK_of hr (k1 w' h2 ⟨h3.os, h3.tape, h3.output, h3.size, fun k hk hb => h3.block k hk fun e => hb (by simpa using e)⟩)
    · have hlen := h.len
      rcases h.2 with ⟨h0, _⟩ | ⟨g', cap', cur, hv, _, hg, hnc, hcm, hcs, htake⟩
      · cases h0
      · have hxs : ∀ (j : Nat) (q : Value), xs[j]? = some q → w.cell? ((⟨g, 0, none⟩ : Addr).add j) = some q := fun j q hj => by rw [addG]; exact h.cell hj
        have hby2 : (n + 1) * by' ≤ 140737488355328 := Nat.le_trans (Nat.mul_le_mul hn hb) (by decide)
        have hr := run_append_grow (P := P) w t ty e i z ht hinf hz0 ⟨g, 0, none⟩ n cap xs (by rw [hs]; omega) hxs ⟨b, 0, none⟩ 1 c [u] (by rw [hs]; rfl) hnews (by omega) (by omega) (growslice_fits (by omega) (by rw [hby]; exact hby2))
        refine semK_of hr (k2 _ _ ?_ (((Bl.refl w).drew).alloc _) (size_alloc _ _))
        have hge := grownCap_ge w (n + 1) cap e
        have hle := grownCap_le_maxLen w (n + 1) cap e (by omega)
        refine ⟨by simp; omega, .inr ⟨_, _, _, rfl, Nat.zero_le _, heap_alloc_new w.drew _, hge, hle, ?_, ?_⟩⟩
        · simp only [Array.size_append, List.size_toArray, size_zeroCells, hz]
          simp; omega
        · simp only [Array.toList_append, Nat.mul_one]
          rw [List.take_left' (by simp; omega)]

abbrev Sl := Nat × Nat × Nat
def slv (a : Sl) : Value := .slice (some ⟨a.1, 0, none⟩) a.2.1 a.2.2
theorem slv_one (l : List Sl) : ∀ u ∈ l.map slv, u.oneCell' = true := by
  intro u hu; obtain ⟨a, _, rfl⟩ := List.mem_map.1 hu; rfl
/-- A list of lists in memory. -/
structure Lst (w : World) (Z V : Nat → Prop) (lp : Option Addr) (lc : Nat) (ls : List Sl) (X : Nat → List Int) : Prop where
  row : Row w (.slice lp ls.length lc) 29 ls.length (ls.map slv)
  each : ∀ j (h : j < ls.length), Row w (slv ls[j]) 3 ls[j].2.1 (ints (X j))
  sep : ls.Pairwise (fun a b => a.1 ≠ b.1)
  off : ∀ a ∈ ls, Z a.1 ∧ ¬ V a.1 ∧ ¬ Blk (.slice lp ls.length lc) a.1
  lo : ∀ b, Blk (.slice lp ls.length lc) b → Z b ∧ ¬ V b
section
variable {lp : Option Addr} {lc : Nat} {ls : List Sl} {X : Nat → List Int}
theorem slv_blk {a : Sl} {g : Nat} : Blk (slv a) g ↔ a.1 = g := blk_some
theorem Lst.ext {S : Nat → Prop} (h : Lst w Z V lp lc ls X) (e : Ext S w w') (hs : ∀ x, Z x → ¬ V x → ¬ S x) : Lst w' Z V lp lc ls X :=
  ⟨h.row.ext e fun g hg => hs g (h.lo g hg).1 (h.lo g hg).2, fun j hj => (h.each j hj).ext e fun g hg => by
    have := slv_blk.1 hg
    have h2 := h.off _ (List.getElem_mem hj)
    rw [this] at h2
    exact hs g h2.1 h2.2.1, h.sep, h.off, h.lo⟩
theorem Lst.bl (h : Lst w Z V lp lc ls X) (b : Bl w w') : Lst w' Z V lp lc ls X := h.ext (S := None') (Ext.of_bl b) fun _ _ _ h => h
theorem Lst.wide {Z' V' : Nat → Prop} (h : Lst w Z V lp lc ls X) (hz : ∀ x, Z x → Z' x) (hv : ∀ x, V' x → V x ∨ ¬ Z x) : Lst w Z' V' lp lc ls X := by
  refine ⟨h.row, h.each, h.sep, fun a ha => ⟨hz _ (h.off a ha).1, fun hh => ?_, (h.off a ha).2.2⟩, fun b hb => ⟨hz _ (h.lo b hb).1, fun hh => ?_⟩⟩
  · rcases hv _ hh with h1 | h1
    · exact (h.off a ha).2.1 h1
    · exact h1 (h.off a ha).1
  · rcases hv _ hh with h1 | h1
    · exact (h.lo b hb).2 h1
    · exact h1 (h.lo b hb).1
/-- Lists put behind. -/
theorem Lst.app {na q m c : Nat} {ns : List Sl} {Y : Nat → List Int} {F : Value → World → Prop} (h : Lst w Z V lp lc ls X) (hZ : ∀ x, Z x → x < na) (hV : ∀ x, V x → x < na) (hna : na ≤ w.heap.size) (hq : Own w q (ns.map slv).toArray 29) (hm : ns.length = m) (hm0 : 0 < m) (hmc : m ≤ c)
    (he : ∀ j (hj : j < ns.length), Row w (slv ns[j]) 3 ns[j].2.1 (ints (Y j)) ∧ na ≤ ns[j].1) (hs : ns.Pairwise (fun a b => a.1 ≠ b.1)) (hsm : ls.length + m ≤ 1000000)
    (kk : ∀ q' cap w', Lst w' (fun x => Z x ∨ (na ≤ x ∧ x < w'.heap.size)) V q' cap (ls ++ ns) (fun j => if j < ls.length then X j else Y (j - ls.length)) → Ext (fun x => Z x ∧ ¬ V x) w w' → F (.slice q' (ls.length + m) cap) w') :
    semK Try.prog (Builtin.append_ #[48, 48] 48 #[.slice lp ls.length lc, .slice (some ⟨q, 0, none⟩) m c]) w F := by
  subst hm
  have hsees : Sees w 1 (some ⟨q, 0, none⟩) ns.length c (ns.map slv) := ⟨by simp, hmc, fun j u hj => ⟨_, rfl, by rw [addG, hq.cell]; simpa using hj⟩⟩
  refine appS (z := 1) (show RowZ w 1 _ 29 ls.length (ls.map slv) from h.row) hsees (by decide) u48 i29 rfl (slv_one ns) (by omega) (by decide) fun q' cap w' hr e hg => ?_
  have z := e.size
  have hlen : (ls ++ ns).length = ls.length + ns.length := List.length_append
  have hng : ∀ g, Blk (.slice q' (ls.length + ns.length) cap) g → (Z g ∧ ¬ V g ∧ Blk (.slice lp ls.length lc) g) ∨ g = w.heap.size := fun g hg' => (hg g hg').imp (fun hb => ⟨(h.lo g hb).1, (h.lo g hb).2, hb⟩) id
  have hslt : ∀ g, Blk (.slice q' (ls.length + ns.length) cap) g → g < w'.heap.size := fun g hg' => RowZ.lt hr hg'
  have hnl : ∀ j (hj : j < ns.length), ns[j].1 < w.heap.size := fun j hj => (he j hj).1.lt (slv_blk.2 rfl)
  refine kk q' cap w' ⟨?_, fun j hj => ?_, ?_, fun a ha => ?_, fun b hb => ?_⟩ (e.mono fun x _ hx => h.lo x hx)
  · rw [hlen, List.map_append]; exact hr
  · by_cases hj1 : j < ls.length
    · rw [List.getElem_append_left hj1, if_pos hj1]
      refine (h.each j hj1).ext e fun g hg hb => ?_
      have := slv_blk.1 hg
      have h2 := h.off _ (List.getElem_mem hj1)
      rw [this] at h2
      exact h2.2.2 hb
    · rw [List.getElem_append_right (by omega), if_neg hj1]
      refine (he (j - ls.length) (by rw [hlen] at hj; omega)).1.ext e fun g hg hb => ?_
      have := slv_blk.1 hg
      have h2 := (he (j - ls.length) (by rw [hlen] at hj; omega)).2
      rw [this] at h2
      have := hZ g (h.lo g hb).1
      omega
  · rw [List.pairwise_append]
    refine ⟨h.sep, hs, fun a ha b hb => ?_⟩
    obtain ⟨j, hj, rfl⟩ := List.getElem_of_mem hb
    have h1 := hZ _ (h.off a ha).1
    have h2 := (he j hj).2
    omega
  · rw [hlen]
    rcases List.mem_append.1 ha with ha | ha
    · have h2 := h.off a ha
      refine ⟨.inl h2.1, h2.2.1, fun hb => ?_⟩
      rcases hng _ hb with h3 | h3
      · exact h2.2.2 h3.2.2
      · have := hZ _ h2.1; omega
    · obtain ⟨j, hj, rfl⟩ := List.getElem_of_mem ha
      have h2 := (he j hj).2
      have h3 := hnl j hj
      refine ⟨.inr ⟨h2, by omega⟩, fun hv => by have := hV _ hv; omega, fun hb => ?_⟩
      rcases hng _ hb with h4 | h4
      · have := hZ _ h4.1; omega
      · omega
  · rw [hlen] at hb
    have hb2 := hslt b hb
    rcases hng b hb with h3 | h3
    · exact ⟨.inl h3.1, h3.2.1⟩
    · exact ⟨.inr ⟨by omega, hb2⟩, fun hv => by have := hV _ hv; omega⟩
theorem Lst.at_ {Q : Option Addr → Nat → Nat → World → Prop} {i : Nat} (h : Lst w Z V lp lc ls X) (hi : i < ls.length) (k : Q (some ⟨ls[i].1, 0, none⟩) ls[i].2.1 ls[i].2.2 w) :
    semK Try.prog (Instr.indexAt 48 (.slice lp ls.length lc) (.int .i64 (i : Int))) w fun v1 w1 => asA v1 fun ad1 => ldK Try.prog w1 ad1 fun v2 => asL v2 fun p l c => Q p l c w1 := by
  have hl : (ls.map slv)[i]? = some (slv ls[i]) := by simp [hi]
  obtain ⟨g, hp⟩ : ∃ g, lp = some ⟨g, 0, none⟩ := by
    rcases h.row.form with ⟨_, h0⟩ | ⟨g, cap, hv, _⟩
    · omega
    · simp only [Value.slice.injEq] at hv; exact ⟨g, hv.1⟩
  have hr := h.row
  subst hp
  refine ixS (z := 1) u48 s29 (by omega) (by omega) (show asA (.pointer (some _)) _ from ?_)
  rw [addAt]
  exact ld (hr.cell hl) (asL_of k)
theorem Lst.atO {Q : Option Addr → Nat → Nat → Prop} {i : Nat} (h : Lst w Z V lp lc ls X) (hi : i < ls.length) (k : Q (some ⟨ls[i].1, 0, none⟩) ls[i].2.1 ls[i].2.2) :
    semK Try.prog (Instr.indexAt 48 (.slice lp ls.length lc) (.int .i64 (i : Int))) w fun v1 w1 => asA v1 fun ad1 => ldK Try.prog w ad1 fun v2 => asL v2 fun p l c => Q p l c := by
  have hl : (ls.map slv)[i]? = some (slv ls[i]) := by simp [hi]
  obtain ⟨g, hp⟩ : ∃ g, lp = some ⟨g, 0, none⟩ := by
    rcases h.row.form with ⟨_, h0⟩ | ⟨g, cap, hv, _⟩
    · omega
    · simp only [Value.slice.injEq] at hv; exact ⟨g, hv.1⟩
  have hr := h.row
  subst hp
  refine ixS (z := 1) u48 s29 (by omega) (by omega) (show asA (.pointer (some _)) _ from ?_)
  rw [addAt]
  exact ld (hr.cell hl) (asL_of k)
end
end Go.Proofs.Ytalhnoelkglgiaa.W
namespace Go.Proofs.Ytalhnoelkglgiaa.W
open Go Go.Proofs.Ytalhnoelkglgiaa.Sh Go.RowKit
set_option linter.unusedVariables false
set_option linter.unusedSimpArgs false
set_option maxRecDepth 100000
variable {w w' w0 : World} {K : Value → World → Prop} {Z V F G : Nat → Prop} {tb N : Nat} {s : Hist}
section
variable {lp : Option Addr} {lc : Nat} {ls : List Sl} {X : Nat → List Int}
theorem rowSl {n i : Nat} {Q : Option Addr → Nat → Nat → World → Prop} (h : Row w (.slice lp n lc) 29 n (ls.map slv)) (hi : i < ls.length) (k : Q (some ⟨ls[i].1, 0, none⟩) ls[i].2.1 ls[i].2.2 w) :
    semK Try.prog (Instr.indexAt 48 (.slice lp n lc) (.int .i64 (i : Int))) w fun v1 w1 => asA v1 fun ad1 => ldK Try.prog w1 ad1 fun v2 => asL v2 fun p l c => Q p l c w1 := by
  have hl : (ls.map slv)[i]? = some (slv ls[i]) := by simp [hi]
  have hn : ls.length = n := by have := h.len; simpa using this
  obtain ⟨g, hp⟩ : ∃ g, lp = some ⟨g, 0, none⟩ := by
    rcases h.form with ⟨_, h0⟩ | ⟨g, cap, hv, _⟩
    · omega
    · simp only [Value.slice.injEq] at hv; exact ⟨g, hv.1⟩
  subst hp
  refine ixS (z := 1) u48 s29 (by omega) (by omega) (show asA (.pointer (some _)) _ from ?_)
  rw [addAt]
  exact ld (h.cell hl) (asL_of k)
theorem ixSl {n i : Nat} {Q : Addr → World → Prop} (h : Row w (.slice lp n lc) 29 n (ls.map slv)) (hi : i < ls.length) (k : ∀ a, w.cell? a = some (slv ls[i]) → Q a w) :
    semK Try.prog (Instr.indexAt 48 (.slice lp n lc) (.int .i64 (i : Int))) w fun v1 w1 => asA v1 fun ad1 => Q ad1 w1 := by
  have hl : (ls.map slv)[i]? = some (slv ls[i]) := by simp [hi]
  have hn : ls.length = n := by have := h.len; simpa using this
  obtain ⟨g, hp⟩ : ∃ g, lp = some ⟨g, 0, none⟩ := by
    rcases h.form with ⟨_, h0⟩ | ⟨g, cap, hv, _⟩
    · omega
    · simp only [Value.slice.injEq] at hv; exact ⟨g, hv.1⟩
  subst hp
  refine ixS (z := 1) u48 s29 (by omega) (by omega) (show asA (.pointer (some _)) _ from ?_)
  rw [addAt]
  exact k _ (h.cell hl)
theorem ixSlO {n i : Nat} {Q : Addr → Prop} (h : Row w (.slice lp n lc) 29 n (ls.map slv)) (hi : i < ls.length) (k : ∀ a, w.cell? a = some (slv ls[i]) → Q a) :
    semK Try.prog (Instr.indexAt 48 (.slice lp n lc) (.int .i64 (i : Int))) w fun v1 w1 => asA v1 fun ad1 => Q ad1 := ixSl (Q := fun a _ => Q a) h hi k
theorem Bl.cellAt {w w' : World} (b : Bl w w') {a : Addr} {v : Value} (h : w.cell? a = some v) : w'.cell? a = some v := (Ext.of_bl (S := None') b).cellAt h fun h => h
theorem seesAt {g n c i : Nat} {xs : List Value} {u : Int} {F : Int → World → Prop} (h : Sees w 1 (some ⟨g, 0, none⟩) n c xs) (hi : xs[i]? = some (.int .i64 u)) (k : F u w) :
    semK Try.prog (Instr.indexAt 29 (.slice (some ⟨g, 0, none⟩) n c) (.int .i64 (i : Int))) w fun v1 w1 => asA v1 fun ad1 => ldK Try.prog w1 ad1 fun v2 => asI .i64 v2 fun n1 => F n1 w1 := by
  have hlt : i < n := by have := h.len; have := (List.getElem?_eq_some_iff.1 hi).1; omega
  refine ixS (z := 1) u29 s3 (by omega) (by omega) (show asA (.pointer (some _)) _ from ?_)
  rw [addAt]
  have := h.get rfl hi
  rw [addG] at this
  exact ldI this k
theorem sepNe (h : ls.Pairwise (fun a b => a.1 ≠ b.1)) {i j : Nat} (hi : i < ls.length) (hj : j < ls.length) (hij : i ≠ j) : ls[i].1 ≠ ls[j].1 := by
  rcases Nat.lt_or_gt_of_ne hij with h1 | h1
  · exact List.pairwise_iff_getElem.1 h i j hi hj h1
  · exact fun e => List.pairwise_iff_getElem.1 h j i hj hi h1 e.symm
/-- One list written. -/
theorem Lst.put {i : Nat} {Y : List Int} (h : Lst w Z V lp lc ls X) (hi : i < ls.length) (hr : Row w' (slv ls[i]) 3 ls[i].2.1 (ints Y)) (e : Ext (· = ls[i].1) w w') : Lst w' Z V lp lc ls (fun j => if j = i then Y else X j) := by
  refine ⟨h.row.ext e fun g hg he => (h.off _ (List.getElem_mem hi)).2.2 (he ▸ hg), fun j hj => ?_, h.sep, h.off, h.lo⟩
  by_cases hji : j = i
  · subst hji; rw [if_pos rfl]; exact hr
  · rw [if_neg hji]
    exact (h.each j hj).ext e fun g hg he => sepNe h.sep hj hi hji (by rw [slv_blk.1 hg]; exact he)
end
theorem rowLit {q e n : Nat} {cs : Array Value} (h : Own w q cs e) (hn : cs.size = n) (hm : n ≤ 1000000) : Row w (.slice (some ⟨q, 0, none⟩) n n) e n cs.toList := by
  have hmx : maxLen = 9223372036854775807 := rfl
  exact ⟨by simp; omega, .inr ⟨q, n, cs, rfl, Nat.zero_le _, h, Nat.le_refl _, by omega, by omega, List.take_of_length_le (by simp; omega)⟩⟩
theorem Two.wide {Z' : Nat → Prop} {ta M : Nat} {sa : Hist} (h : Two w Z ta tb sa s N M) (b : Bl w w') (hz : ∀ x, Z' x → Z x ∨ (w.heap.size ≤ x ∧ x < w'.heap.size)) : Two w' Z' ta tb sa s N M := by
  obtain ⟨F, G, h1, h2⟩ := h
  have g1 := h1.ext (S := None') (Ext.of_bl b) fun _ _ h => h
  have g2 := h2.ext (S := None') (Ext.of_bl b) fun _ _ h => h
  refine ⟨F, G, ⟨g1.t, fun x hx => ⟨fun hh => ?_, (g1.lF x hx).2⟩, fun x hx => ?_⟩, ⟨g2.t, fun x hx => ⟨fun hh => ?_, (g2.lF x hx).2⟩, fun x hx => ?_⟩⟩
  · rcases hh with hh | hh
    · rcases hz x hh with h3 | h3
      · exact (h1.lF x hx).1 (.inl h3)
      · have := (h1.lF x hx).2; omega
    · exact (h1.lF x hx).1 (.inr hh)
  · rcases hx with hx | hx
    · rcases hz x hx with h3 | h3
      · exact g1.lZ x (.inl h3)
      · exact h3.2
    · exact g1.lZ x (.inr hx)
  · rcases hh with hh | hh
    · rcases hz x hh with h3 | h3
      · exact (h2.lF x hx).1 (.inl h3)
      · have := (h2.lF x hx).2; omega
    · exact (h2.lF x hx).1 (.inr hh)
  · rcases hx with hx | hx
    · rcases hz x hx with h3 | h3
      · exact g2.lZ x (.inl h3)
      · exact h3.2
    · exact g2.lZ x (.inr hx)
theorem Two.lt {ta M : Nat} {sa : Hist} (h : Two w Z ta tb sa s N M) : ∀ x, Z x → x < w.heap.size := by obtain ⟨F, G, h1, h2⟩ := h; exact fun x hx => h1.lZ x (.inl hx)
def u0 : Hist := h0.set 4 4
theorem u0_keys : IsKeys u0.M [4] := by
  refine ⟨by decide, fun k => ?_⟩
  by_cases h1 : k = 4 <;> simp [u0, Hist.set, W.h0, h1]
/-- The state while lists are gathered. -/
def Own1 (w0 w : World) (V : Nat → Prop) (ta ub : Nat) (s : Hist) (N : Nat) (lp : Option Addr) (lc : Nat) (ls : List Sl) (X : Nat → List Int) : Prop :=
  ∃ Z, Two w Z ta ub s u0 N 1 ∧ Lst w Z V lp lc ls X ∧ (∀ x, V x → Z x) ∧ (∀ a ∈ ls, a.2.1 ≤ 1000000) ∧ Bl w0 w
section
variable {V : Nat → Prop} {ta ub : Nat} {lp : Option Addr} {lc : Nat} {ls : List Sl} {X : Nat → List Int}
theorem ownStep {p : Option Addr} {c i : Nat} {ops : List OpV} {C : Option Addr → Nat → Nat → Option Addr → Option Addr → Option Addr → Nat → Nat → Int → World → Prop} (hs : Script w0 p c ops) (hi : i < ops.length) (hib : i < 60) (hzb : ∀ x, x < w0.heap.size → V x) (hN : N < 100000) (hl : ls.length ≤ 1000) (h : Own1 w0 w V ta ub s N lp lc ls X)
    (next : ∀ w' lp' lc' ls' X', Own1 w0 w' V ta ub (s.op ops[i]) (N + 1) lp' lc' ls' X' → ls'.length = ls.length + 3 → C p ops.length c (some ⟨ta, 0, none⟩) (some ⟨ub, 0, none⟩) lp' ls'.length lc' ((i + 1 : Nat) : Int) w') :
    J7_3 K C p ops.length c (some ⟨ta, 0, none⟩) (some ⟨ub, 0, none⟩) lp ls.length lc (i : Int) w := by
  obtain ⟨Z, ht, hL, hVZ, hsm, hb⟩ := h
  unfold J7_3
  obtain ⟨ZZ, hta, hon⟩ := ht.on
  refine doAt (hs.bl hb) hi hta (by omega) fun w2 hta2 e2 => ?_
  obtain ⟨ht2, e2'⟩ := hon w2 _ _ hta2 e2
  have b2 := blNZ hb e2' fun x hx => hVZ x (hzb x hx)
  have hL2 := hL.ext e2' fun x hz _ h => h hz
  have zlt := ht2.lt
  refine tKeys ht2.one (by omega) fun w3 g1 c1 k1 hk1 hl1 hr1 hg1 b3 => asL_of ?_
  refine tKeys (ht2.bl b3).one (by omega) fun w4 g2 c2 k2 hk2 hl2 hr2 hg2 b4 => asL_of ?_
  have b24 := b3.trans b4
  refine tKeys (ht2.bl b24).swap.one (by omega) fun w5 g3 c3 k3 hk3 hl3 hr3 hg3 b5 => asL_of (alO fun w6 o6 b6 s6 => ?_)
  have b26 := (b24.trans b5).trans b6
  have e12 : k2 = k1 := keys_len hk2 hk1
  subst e12
  have e3 : k3 = [4] := keys_len hk3 u0_keys
  subst e3
  have l1 := hr1.lt (blk_some.2 rfl)
  have l2 := hr2.lt (blk_some.2 rfl)
  have l3 := hr3.lt (blk_some.2 rfl)
  have z3 := b3.size
  have z4 := b4.size
  have z5 := b5.size
  have ns : ∃ ns : List Sl, ns = [(g1, k2.length, c1), (g2, k2.length, c2), (g3, 1, c3)] := ⟨_, rfl⟩
  obtain ⟨ns, hns⟩ := ns
  have hq : Own w6 w5.heap.size (ns.map slv).toArray 29 := by rw [hns]; exact o6
  refine (hL2.bl b26).app (na := w2.heap.size) (m := 3) (c := 3) (ns := ns) (Y := fun j => if j = 2 then [4] else k2) zlt (fun x hx => zlt x (hVZ x hx)) b26.size hq (by rw [hns]; rfl) (by decide) (by decide) (fun j hj => ?_) ?_ (by omega) fun q' cap w7 hL7 e7 => asL_of ?_
  · rw [hns] at hj
    have hj : j < 3 := hj
    match j, hj with
    | 0, _ => simp only [hns]; exact ⟨(((hr1.bl b4).bl b5).bl b6), by show w2.heap.size ≤ g1; omega⟩
    | 1, _ => simp only [hns]; exact ⟨((hr2.bl b5).bl b6), by show w2.heap.size ≤ g2; omega⟩
    | 2, _ => simp only [hns]; exact ⟨(hr3.bl b6), by show w2.heap.size ≤ g3; omega⟩
  · rw [hns]
    simp
    omega
  have hlen : (ls ++ ns).length = ls.length + 3 := by rw [hns]; simp
  have ht7 : Two w7 (fun x => Z x ∨ (w2.heap.size ≤ x ∧ x < w7.heap.size)) ta ub (s.op ops[i]) u0 (N + 1) 1 := by
    have h6 := (ht2.bl b26).ext e7 fun x hx => .inl hx.1
    refine Two.wide (w := w7) (Z := fun x => Z x ∨ (w2.heap.size ≤ x ∧ x < w7.heap.size)) ?_ (Bl.refl w7) fun x hx => .inl hx
    obtain ⟨F, G, a1, a2⟩ := ht2
    have hF : Bl w2 w6 := b26
    have a1' := (a1.ext (S := None') (Ext.of_bl b26) fun _ _ h => h).ext e7 fun x hx hS => (a1.lF x hx).1 (.inl hS.1)
    have a2' := (a2.ext (S := None') (Ext.of_bl b26) fun _ _ h => h).ext e7 fun x hx hS => (a2.lF x hx).1 (.inl hS.1)
    refine ⟨F, G, ⟨a1'.t, fun x hx => ⟨fun hh => ?_, (a1'.lF x hx).2⟩, fun x hx => ?_⟩, ⟨a2'.t, fun x hx => ⟨fun hh => ?_, (a2'.lF x hx).2⟩, fun x hx => ?_⟩⟩
    · rcases hh with (hh | hh) | hh
      · exact (a1.lF x hx).1 (.inl hh)
      · have := (a1.lF x hx).2; omega
      · exact (a1.lF x hx).1 (.inr hh)
    · rcases hx with (hx | hx) | hx
      · exact a1'.lZ x (.inl hx)
      · exact hx.2
      · exact a1'.lZ x (.inr hx)
    · rcases hh with (hh | hh) | hh
      · exact (a2.lF x hx).1 (.inl hh)
      · have := (a2.lF x hx).2; omega
      · exact (a2.lF x hx).1 (.inr hh)
    · rcases hx with (hx | hx) | hx
      · exact a2'.lZ x (.inl hx)
      · exact hx.2
      · exact a2'.lZ x (.inr hx)
  have b7 : Bl w0 w7 := ((Ext.of_bl (S := fun x => ¬ V x) (b2.trans b26)).trans e7 fun x _ hx => hx.2).bl fun x hx hv => hv (hzb x hx)
  unfold drewK
  have bd : Bl w7 w7.drew := (Bl.refl w7).drew
  have hL8 := hL7.bl bd
  have ht8 := ht7.bl bd
  have b8 := b7.trans bd
  rw [← hlen]
  generalize w7.drew = w8 at bd hL8 ht8 b8 ⊢
  have ix : ∀ d : Nat, d ≤ 3 → IntKind.wrap .i64 (((ls ++ ns).length : Int) - (d : Int)) = (((ls ++ ns).length - d : Nat) : Int) := fun d hd => by rw [i64w (by omega) (by omega)]; omega
  have ix1 := ix 1 (by decide)
  have ix2 := ix 2 (by decide)
  have ix3 := ix 3 (by decide)
  rw [show ((1 : Nat) : Int) = 1 from rfl] at ix1
  rw [show ((2 : Nat) : Int) = 2 from rfl] at ix2
  rw [show ((3 : Nat) : Int) = 3 from rfl] at ix3
  rw [ix1, ix2, ix3, i1w i (by omega)]
  have at2 : (ls ++ ns)[(ls ++ ns).length - 1]'(by omega) = (g3, 1, c3) := by
    rw [List.getElem_append_right (by omega)]; simp [hns]
  have at1 : (ls ++ ns)[(ls ++ ns).length - 2]'(by omega) = (g2, k2.length, c2) := by
    rw [List.getElem_append_right (by omega)]; simp [hns]
  have at0 : (ls ++ ns)[(ls ++ ns).length - 3]'(by omega) = (g1, k2.length, c1) := by
    rw [List.getElem_append_right (by omega)]; simp [hns]
  have r2 := hL8.each ((ls ++ ns).length - 1) (by omega)
  have r1 := hL8.each ((ls ++ ns).length - 2) (by omega)
  have r0 := hL8.each ((ls ++ ns).length - 3) (by omega)
  rw [if_neg (by omega), if_pos (by omega), at2] at r2
  rw [if_neg (by omega), if_neg (by omega), at1] at r1
  rw [if_neg (by omega), if_neg (by omega), at0] at r0
  refine ixSlO hL8.row (i := (ls ++ ns).length - 1) (by omega) fun a ha => ?_
  rw [at2] at ha
  refine ld ha (asL_of (alO fun w10 o10 b10 s10 => ⟨rfl, ld (Bl.cellAt b10 ha) (asL_of rfl), ?_⟩))
  refine sameInts (ys := [4]) (r2.bl b10) (rowLit o10 rfl (by decide)) (show 1 < 1073741824 by decide) fun w11 b11 => asB_of (ifB_f rfl ?_)
  have b1011 := b10.trans b11
  have hL11 := hL8.bl b1011
  refine ixSlO hL11.row (i := (ls ++ ns).length - 2) (by omega) fun a1 h1 => ?_
  rw [at1] at h1
  refine ld h1 (asL_of (ixSlO hL11.row (i := (ls ++ ns).length - 3) (by omega) fun a0 h0 => ?_))
  rw [at0] at h0
  refine ld h0 (asL_of ?_)
  refine sameInts (r1.bl b1011) (r0.bl b1011) (show k2.length < 1073741824 by omega) fun w12 b12 => asB_of (ifB_f (by simp) ?_)
  have b812 := b1011.trans b12
  refine next w12 q' cap (ls ++ ns) _ ⟨_, ht8.bl b812, hL8.bl b812, fun x hx => .inl (hVZ x hx), fun a ha => ?_, b8.trans b812⟩ hlen
  rcases List.mem_append.1 ha with ha | ha
  · exact hsm a ha
  · rw [hns] at ha
    simp at ha
    rcases ha with rfl | rfl | rfl
    · show k2.length ≤ 1000000; omega
    · show k2.length ≤ 1000000; omega
    · show 1 ≤ 1000000; decide
end
end Go.Proofs.Ytalhnoelkglgiaa.W
