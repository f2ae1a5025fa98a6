/- The document's table: in memory, and what its calls answer. No condition. -/
import Derived.Test.YtalhnoelkglgiaaUG
import Derived.Test.YtalhnoelkglgiaaShY
namespace Go.Proofs.Ytalhnoelkglgiaa.W
open Go Go.Proofs.Ytalhnoelkglgiaa.Sh Go.RowKit
set_option linter.unusedVariables false
set_option linter.unusedSimpArgs false
set_option maxRecDepth 100000
variable {w : World} {K : Value → World → Prop}
theorem u66 : Try.prog.underlying 66 = some (.slice 77) := by kernel_rfl
theorem u67 : Try.prog.underlying 67 = some (.slice 66) := by kernel_rfl
theorem s77 : (Try.prog.info? 77).map (·.size) = some 2 := by kernel_rfl
theorem s66 : (Try.prog.info? 66).map (·.size) = some 1 := by kernel_rfl
theorem i77 : (Try.prog.info? 77).map (fun i => (i.zero, i.size, i.bytes)) = some (some (.agg #[.int .i64 0, .int .i64 0]), 2, 16) := by kernel_rfl
theorem i66 : (Try.prog.info? 66).map (fun i => (i.zero, i.size, i.bytes)) = some (some (.slice none 0 0), 1, 24) := by kernel_rfl
abbrev Pairs := List (Int × Int)
theorem prs_one (L : Pairs) : ∀ u ∈ prs L, u.oneCell' = true := by
  intro u hu
  simp only [prs, List.mem_flatMap] at hu
  obtain ⟨p, _, hp⟩ := hu
  simp at hp
  rcases hp with rfl | rfl <;> rfl
theorem prs_app (L M : Pairs) : prs (L ++ M) = prs L ++ prs M := by simp [prs]
theorem prs_take : ∀ (L : Pairs) (i : Nat), prs (L.take i) = (prs L).take (i * 2)
  | [], i => by simp [prs]
  | p :: L, 0 => by simp [prs]
  | p :: L, i + 1 => by
    have := prs_take L i
    rw [show (i + 1) * 2 = i * 2 + 1 + 1 by omega]
    simp only [prs, List.take_succ_cons, List.flatMap_cons] at *
    simp [this]
theorem prs_drop : ∀ (L : Pairs) (i : Nat), prs (L.drop i) = (prs L).drop (i * 2)
  | [], i => by simp [prs]
  | p :: L, 0 => by simp [prs]
  | p :: L, i + 1 => by
    have := prs_drop L i
    rw [show (i + 1) * 2 = i * 2 + 1 + 1 by omega]
    simp only [prs, List.drop_succ_cons, List.flatMap_cons] at *
    simp [this]
/-- Pairs that lie somewhere. -/
def PS (w : World) (p : Option Addr) (c : Nat) (L : Pairs) : Prop := Sees w 2 p L.length c (prs L)
theorem PS.at1 {p : Option Addr} {c i : Nat} {L : Pairs} (h : PS w p c L) (hi : i < L.length) : ∃ a, p = some a ∧ w.cell? (a.add (i * 2)) = some (.int .i64 L[i].1) ∧ w.cell? ((a.add (i * 2)).add 1) = some (.int .i64 L[i].2) := by
  obtain ⟨a, rfl, h1⟩ := Sees.at_ h _ _ (prs_at L i hi).1
  refine ⟨a, rfl, h1, ?_⟩
  rw [addAdd]
  exact Sees.get h rfl (prs_at L i hi).2
theorem place {p : Option Addr} {c : Nat} {L : Pairs} {k : Int} (h : PS w p c L) (hn : L.length < 1073741824) (kk : K (.int .i64 (placeN L k : Int)) w) : CallV Try.prog 60 #[.slice p L.length c, .int .i64 k] w K := by
  refine call60 p L.length c k w K ?_
  unfold F60
  have loop : ∀ (m i : Nat), i + m = L.length → placeN L k = i + placeN (L.drop i) k → L60_0 K (m + 1) p L.length c k (i : Int) w := by
    intro m
    induction m with
    | zero =>
      intro i hi hp
      simp only [L60_0]
      refine ifD (fun h => by omega) fun _ => ?_
      rw [List.drop_of_length_le (by omega)] at hp
      have : placeN L k = i := by simpa [placeN] using hp
      rw [this] at kk; exact kk
    | succ m ih =>
      intro i hi hp
      rw [L60_0]
      simp only []
      refine ifD (fun _ => ?_) fun h => by omega
      have hlt : i < L.length := by omega
      obtain ⟨a, rfl, h1, h2⟩ := h.at1 hlt
      refine ixS (z := 2) u66 s77 (by omega) (by omega) (show asA (.pointer (some _)) _ from ?_)
      rw [Int.toNat_natCast]
      have hd : L.drop i = L[i] :: L.drop (i + 1) := List.drop_eq_getElem_cons hlt
      refine ldI h1 (ifD (fun hx => ?_) fun hx => ?_)
      · rw [show IntKind.wrap .i64 ((i : Int) + 1) = ((i + 1 : Nat) : Int) by rw [i64w (by omega) (by omega)]; rfl]
        refine ih (i + 1) (by omega) ?_
        rw [hd] at hp
        have : placeN (L[i] :: L.drop (i + 1)) k = placeN (L.drop (i + 1)) k + 1 := by unfold placeN; rw [List.takeWhile_cons, if_pos (decide_eq_true hx)]; rfl
        omega
      · rw [hd] at hp
        have : placeN (L[i] :: L.drop (i + 1)) k = 0 := by unfold placeN; rw [List.takeWhile_cons, if_neg (by simpa using hx)]; rfl
        have : placeN L k = i := by omega
        rw [this] at kk; exact kk
  exact ⟨L.length + 1, loop L.length 0 (by omega) (by simp)⟩

/-- The document's table in memory: its struct in rb; its pairs and those at its marks (in G) are never written. -/
structure RefD (w : World) (G : Nat → Prop) (rb : Nat) (p op : Option Addr) (c oc : Nat) (vals : List Value) (L : Pairs) (O : List Pairs) : Prop where
  own : Own w rb #[.slice p L.length c, .slice op O.length oc] 69
  now : PS w p c L
  nowG : ∀ a, p = some a → G a.block
  old : Row w (.slice op O.length oc) 66 O.length vals
  olds : ∀ (j : Nat) l, O[j]? = some l → ∃ q d, vals[j]? = some (.slice q l.length d) ∧ PS w q d l ∧ ∀ a, q = some a → G a.block
  n1 : ¬ G rb
  n2 : ¬ Blk (.slice op O.length oc) rb
  n3 : ∀ b, Blk (.slice op O.length oc) b → ¬ G b
  n4 : ∀ b, G b → b < w.heap.size
def RFoot (G : Nat → Prop) (rb : Nat) (op : Option Addr) : Nat → Prop := fun k => k = rb ∨ op.map (·.block) = some k ∨ G k
def RefT (w : World) (F : Nat → Prop) (rb : Nat) (L : Pairs) (O : List Pairs) : Prop :=
  ∃ G p op c oc vals, RefD w G rb p op c oc vals L O ∧ ∀ k, RFoot G rb op k → F k
section
variable {F G : Nat → Prop} {rb c oc : Nat} {p op : Option Addr} {vals : List Value} {L : Pairs} {O : List Pairs}
theorem RefD.ext {S : Nat → Prop} {w' : World} (h : RefD w G rb p op c oc vals L O) (k : Ext S w w') (hs : ∀ b, RFoot G rb op b → ¬ S b) : RefD w' G rb p op c oc vals L O :=
  ⟨h.own.ext k (hs _ (.inl rfl)), Sees.ext h.now k fun a ha => hs _ (.inr (.inr (h.nowG a ha))), h.nowG, h.old.ext k fun g hg => hs _ (.inr (.inl (blk_slice.1 hg))),
    fun j l hl => let ⟨q, d, h1, h2, h3⟩ := h.olds j l hl; ⟨q, d, h1, Sees.ext h2 k fun a ha => hs _ (.inr (.inr (h3 a ha))), h3⟩, h.n1, h.n2, h.n3, fun b hb => Nat.lt_of_lt_of_le (h.n4 b hb) k.size⟩
theorem RefD.lt (h : RefD w G rb p op c oc vals L O) : ∀ b, RFoot G rb op b → b < w.heap.size := by
  rintro b (rfl | hb | hb)
  · exact h.own.lt
  · exact h.old.lt (blk_slice.2 hb)
  · exact h.n4 b hb
theorem RefT.ext {S : Nat → Prop} {w' : World} (h : RefT w F rb L O) (k : Ext S w w') (hs : ∀ b, F b → ¬ S b) : RefT w' F rb L O := by
  obtain ⟨G, p, op, c, oc, vals, h, hf⟩ := h
  exact ⟨G, p, op, c, oc, vals, h.ext k fun b hb => hs b (hf b hb), hf⟩
theorem RefT.bl {w' : World} (h : RefT w F rb L O) (k : Bl w w') : RefT w' F rb L O := h.ext (S := None') (Ext.of_bl k) fun _ _ h => h
theorem RefD.tab (h : RefD w G rb p op c oc vals L O) (hf : ∀ k, RFoot G rb op k → F k) : RefT w F rb L O := ⟨G, p, op, c, oc, vals, h, hf⟩

/-! ### New, Marks, Pairs, Get -/
theorem rnew (k : ∀ w' F rb, RefT w' F rb [] [] → (∀ x, F x → w.heap.size ≤ x ∧ x < w'.heap.size) → Bl w w' → K (.pointer (some ⟨rb, 0, none⟩)) w') : CallV Try.prog 37 #[] w K := by
  refine call37 w K ?_
  unfold F37
  refine alO fun w1 o1 b1 s1 => ?_
  refine k w1 (fun x => w.heap.size = x) _ ⟨fun _ => False, none, none, 0, 0, [], ⟨o1, Sees.nil _ _, (fun a h => by cases h), Row.nil _ _, (fun j l h => by simp at h), fun h => h, (fun h => by cases h), (fun b h => by cases h), fun b h => h.elim⟩, ?_⟩ (fun x hx => by omega) b1
  rintro x (rfl | h | h)
  · rfl
  · cases h
  · exact h.elim
theorem rmarks (h : RefT w F rb L O) (k : K (.int .i64 (O.length : Int)) w) : CallV Try.prog 49 #[.pointer (some ⟨rb, 0, none⟩)] w K := by
  obtain ⟨G, p, op, c, oc, vals, h, hf⟩ := h
  refine call49 _ w K ?_
  unfold F49
  exact optP_of (ldO (i := 1) h.own rfl (asL_of k))
theorem copied (h : PS w p c L) (hL : L.length < 1073741824) (k : ∀ w' q d, PS w' q d L → (∀ a, q = some a → w.heap.size ≤ a.block ∧ a.block < w'.heap.size) → Bl w w' → K (.slice q L.length d) w') : CallV Try.prog 61 #[.slice p L.length c] w K := by
  refine call61 p L.length c w K ?_
  unfold F61
  have hb : Blk (.slice none 0 0) = fun _ => False := by funext k; simp [Blk, Value.ownBlock]
  refine appS (RowZ.nil w 2 77) h (by decide) u66 i77 rfl (prs_one L) (by omega) (by decide) fun q cap w' hr he hg => ?_
  simp only [Nat.zero_add, List.nil_append] at hr hg ⊢
  refine asL_of (k w' q cap hr.sees (fun a ha => ?_) (he.bl fun k _ hk => by rw [hb] at hk; exact hk))
  subst ha
  refine ⟨?_, hr.lt (blk_slice.2 rfl)⟩
  rcases hg a.block (blk_slice.2 rfl) with h | h
  · rw [hb] at h; exact h.elim
  · omega
theorem pairs (h : RefT w F rb L O) (hL : L.length < 1073741824) (k : ∀ w' q d, PS w' q d L → (∀ a, q = some a → w.heap.size ≤ a.block ∧ a.block < w'.heap.size) → Bl w w' → K (.slice q L.length d) w') : CallV Try.prog 47 #[.pointer (some ⟨rb, 0, none⟩)] w K := by
  obtain ⟨G, p, op, c, oc, vals, h, hf⟩ := h
  refine call47 _ w K ?_
  unfold F47
  exact optP_of (ldO (i := 0) h.own rfl (asL_of (copied h.now hL fun w' q d h1 h2 h3 => asL_of (k w' q d h1 h2 h3))))
/-- What the document's Get answers. -/
def getN (L : Pairs) (k : Int) : Int × Bool := match L[placeN L k]? with | some p => if p.1 = k then (p.2, true) else (0, false) | none => (0, false)
theorem rget {k : Int} (h : RefT w F rb L O) (hL : L.length < 1073741824) (kk : K (.tuple #[.int .i64 (getN L k).1, .bool (getN L k).2]) w) : CallV Try.prog 48 #[.pointer (some ⟨rb, 0, none⟩), .int .i64 k] w K := by
  obtain ⟨G, p, op, c, oc, vals, h, hf⟩ := h
  refine call48 _ k w K ?_
  unfold F48
  have hpl := place_le L k
  refine optP_of (ldO (i := 0) h.own rfl (asL_of (place h.now hL (asI_of (optP_of (ldO (i := 0) h.own rfl (asL_of (ifE (fun e => ?_) fun e => optP_of (ldO (i := 0) h.own rfl (asL_of ?_))))))))))
  · have : getN L k = (0, false) := by unfold getN; rw [List.getElem?_eq_none (by omega)]
    rw [this] at kk; exact kk
  · have hlt : placeN L k < L.length := by omega
    obtain ⟨a, rfl, h1, h2⟩ := h.now.at1 hlt
    refine ixS (z := 2) u66 s77 (by omega) (by omega) (show asA (.pointer (some _)) _ from ?_)
    rw [Int.toNat_natCast]
    refine ldI h1 (ifNe (fun hx => ?_) fun hx => ?_)
    · have : getN L k = (0, false) := by unfold getN; rw [List.getElem?_eq_getElem hlt]; simp [hx]
      rw [this] at kk; exact kk
    · unfold J48_0
      refine optP_of (ldO (i := 0) h.own rfl (asL_of (ixS (z := 2) u66 s77 (by omega) (by omega) (show asA (.pointer (some _)) _ from ?_))))
      rw [Int.toNat_natCast]
      refine ldI h2 ?_
      have : getN L k = (L[placeN L k].2, true) := by unfold getN; rw [List.getElem?_eq_getElem hlt]; simp [hx]
      rw [this] at kk; exact kk
end
end Go.Proofs.Ytalhnoelkglgiaa.W
