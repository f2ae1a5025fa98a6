/- The document's table: Set, Mark, Back. No condition. -/
import Derived.Test.YtalhnoelkglgiaaUI
namespace Go.Proofs.Ytalhnoelkglgiaa.W
open Go Go.Proofs.Ytalhnoelkglgiaa.Sh Go.RowKit
set_option linter.unusedVariables false
set_option linter.unusedSimpArgs false
set_option maxRecDepth 100000
variable {w : World} {K : Value → World → Prop} {F G : Nat → Prop} {rb c oc : Nat} {p op : Option Addr} {vals : List Value} {L : Pairs} {O : List Pairs}

def setL (L : Pairs) (k v : Int) : Pairs :=
  L.take (placeN L k) ++ [(k, v)] ++ L.drop (match L[placeN L k]? with | some q => if q.1 = k then placeN L k + 1 else placeN L k | none => placeN L k)
theorem setL_len (L : Pairs) (k v : Int) : (setL L k v).length ≤ L.length + 1 := by
  have := place_le L k
  unfold setL
  simp only [List.length_append, List.length_take, List.length_drop, List.length_cons, List.length_nil]
  split
  · split <;> omega
  · omega
/-- New pairs in place of the old ones. -/
theorem RefD.now' {w' : World} {q : Option Addr} {d : Nat} {M : Pairs} (h : RefD w G rb p op c oc vals L O) (e : Ext (· = rb) w w') (ho : Own w' rb #[.slice q M.length d, .slice op O.length oc] 69) (hs : PS w' q d M) (hq : ∀ a, q = some a → a.block < w'.heap.size ∧ (G a.block ∨ ¬ RFoot G rb op a.block)) :
    RefD w' (fun b => G b ∨ q.map (·.block) = some b) rb q op d oc vals M O := by
  have hn : ∀ b, RFoot G rb op b → b ≠ rb → ¬ (b = rb) := fun _ _ h => h
  refine ⟨ho, hs, fun a ha => .inr (by rw [ha]; rfl), h.old.ext e fun g hg ee => h.n2 (ee ▸ hg), fun j l hl => ?_, ?_, h.n2, fun b hb => ?_, fun b hb => ?_⟩
  · obtain ⟨q', d', h1, h2, h3⟩ := h.olds j l hl
    exact ⟨q', d', h1, Sees.ext h2 e fun a ha ee => h.n1 (ee ▸ h3 a ha), fun a ha => .inl (h3 a ha)⟩
  · rintro (hg | hg)
    · exact h.n1 hg
    · cases q with
      | none => cases hg
      | some a =>
        simp only [Option.map_some, Option.some.injEq] at hg
        rcases (hq a rfl).2 with h2 | h2
        · exact h.n1 (hg ▸ h2)
        · exact h2 (.inl hg)
  · rintro (hg | hg)
    · exact h.n3 b hb hg
    · cases q with
      | none => cases hg
      | some a =>
        simp only [Option.map_some, Option.some.injEq] at hg
        subst hg
        rcases (hq a rfl).2 with h2 | h2
        · exact h.n3 _ hb h2
        · exact h2 (.inr (.inl (blk_slice.1 hb)))
  · rcases hb with hb | hb
    · exact Nat.lt_of_lt_of_le (h.n4 b hb) e.size
    · cases q with
      | none => cases hb
      | some a =>
        simp only [Option.map_some, Option.some.injEq] at hb
        subst hb
        exact (hq a rfl).1

theorem rset {k v : Int} (h : RefT w F rb L O) (hL : L.length < 500000000) (kk : ∀ w' F', RefT w' F' rb (setL L k v) O → (∀ x, F' x → F x ∨ (w.heap.size ≤ x ∧ x < w'.heap.size)) → Ext F w w' → K (.tuple #[]) w') :
    CallV Try.prog 42 #[.pointer (some ⟨rb, 0, none⟩), .int .i64 k, .int .i64 v] w K := by
  obtain ⟨G, p, op, c, oc, vals, h, hf⟩ := h
  refine call42 _ k v w K ?_
  unfold F42
  have hpl := place_le L k
  have hnow := h.now
  have hle : L.length ≤ c := Sees.le h.now
  have hb0 : Blk (.slice none 0 0) = fun _ => False := by funext k; simp [Blk, Value.ownBlock]
  refine optP_of (ldO (i := 0) h.own rfl (asL_of (place h.now (by omega) (asI_of (optP_of (ldO (i := 0) h.own rfl (asL_of (cutZ u66 s77 (by omega) (by omega) hle (asL_of ?_)))))))))
  rw [Int.toNat_natCast]
  have htk : PS w p c (L.take (placeN L k)) := by
    have := Sees.take h.now hpl
    unfold PS
    rw [List.length_take, Nat.min_eq_left hpl, prs_take]; exact this
  have hlt : (L.take (placeN L k)).length = placeN L k := by rw [List.length_take, Nat.min_eq_left hpl]
  unfold PS at htk
  rw [hlt] at htk
  refine appS (RowZ.nil w 2 77) htk (by decide) u66 i77 rfl (prs_one _) (by omega) (by decide) fun q1 c1 w1 hr1 e1 hg1 => asL_of ?_
  have b1 : Bl w w1 := e1.bl fun k _ hk => by rw [hb0] at hk; exact hk
  rw [hb0] at hg1
  simp only [Nat.zero_add, List.nil_append, false_or] at hr1 hg1 ⊢
  refine alO fun w2 o2 b2 s2 => ?_
  have hone : Sees w2 2 (some ⟨w1.heap.size, 0, none⟩) 1 1 (prs [(k, v)]) := ⟨rfl, Nat.le_refl _, fun j u hj => ⟨_, rfl, by rw [addG, o2.cell]; simpa [prs] using hj⟩⟩
  refine appS (hr1.bl b2) hone (by decide) u66 i77 rfl (prs_one _) (by omega) (by decide) fun q2 c2 w3 hr2 e2 hg2 => asL_of ?_
  have z1 := b1.size
  have z2 := b2.size
  have b3 : Bl w w3 := ((Ext.of_bl (S := fun b => w.heap.size ≤ b) (b1.trans b2)).trans e2 fun k _ hk => by have := hg1 k hk; omega).bl fun k hk h => by omega
  have z3 := b3.size
  have hg2' : ∀ g, Blk (.slice q2 (placeN L k + 1) c2) g → w.heap.size ≤ g := fun g hg => by
    rcases hg2 g hg with h | h
    · have := hg1 g h; omega
    · omega
  have h3 := h.ext (S := None') (Ext.of_bl b3) fun _ _ h => h
  rw [← prs_app] at hr2
  -- what comes last
  have last : ∀ (x : Nat), x ≤ L.length → setL L k v = L.take (placeN L k) ++ [(k, v)] ++ L.drop x → J42_0 K (some ⟨rb, 0, none⟩) (x : Int) q2 (placeN L k + 1) c2 w3 := by
    intro x hx hset
    unfold J42_0
    refine optP_of (ldO (i := 0) h3.own rfl (asL_of (dropZ u66 s77 (by omega) (by omega) hle (asL_of ?_))))
    rw [Int.toNat_natCast]
    have hdr := Sees.drop h3.now hx
    rw [← prs_drop] at hdr
    have hlen : (setL L k v).length = placeN L k + 1 + (L.length - x) := by rw [hset]; simp [hlt]; omega
    refine appS hr2 hdr (by decide) u66 i77 rfl (prs_one _) (by omega) (by decide) fun q4 c4 w4 hr4 e4 hg4 => asL_of (optP_of ?_)
    rw [← prs_app, ← hset, ← hlen] at hr4
    rw [← hlen] at hg4 ⊢
    have b4 : Bl w w4 := ((Ext.of_bl (S := fun b => w.heap.size ≤ b) b3).trans e4 fun k _ hk => hg2' k hk).bl fun k hk h => by omega
    have z4 := b4.size
    have hg4' : ∀ g, Blk (.slice q4 (setL L k v).length c4) g → w.heap.size ≤ g ∧ g < w4.heap.size := fun g hg => by
      refine ⟨?_, hr4.lt hg⟩
      rcases hg4 g hg with h | h
      · exact hg2' g h
      · omega
    have h4 := h.ext (S := None') (Ext.of_bl b4) fun _ _ h => h
    refine stO (i := 0) h4.own (by simp) (by kernel_rfl) rfl rfl fun w5 o5 e5 => ?_
    have z5 := e5.size
    have hrb := h.own.lt
    have hbq : ∀ a, q4 = some a → w.heap.size ≤ a.block ∧ a.block < w4.heap.size := fun a ha => by subst ha; exact hg4' a.block (blk_slice.2 rfl)
    have hs5 : PS w5 q4 c4 (setL L k v) := Sees.ext hr4.sees e5 fun a ha ee => by have := hbq a ha; omega
    refine kk w5 (fun x => F x ∨ (w.heap.size ≤ x ∧ x < w5.heap.size)) ⟨_, q4, op, c4, oc, vals, h4.now' e5 o5 hs5 fun a ha => ⟨by have := hbq a ha; omega, .inr fun hf' => ?_⟩, ?_⟩ (fun x hx => hx) ?_
    · have := h.lt _ hf'
      have := hbq a ha
      omega
    · rintro x (hx | hx | hx | hx)
      · exact .inl (hf x (.inl hx))
      · exact .inl (hf x (.inr (.inl hx)))
      · exact .inl (hf x (.inr (.inr hx)))
      · cases q4 with
        | none => cases hx
        | some a =>
          simp only [Option.map_some, Option.some.injEq] at hx
          subst hx
          have := hbq a rfl
          exact .inr ⟨by omega, by omega⟩
    · exact (Ext.of_bl (S := F) b4).trans e5 fun x _ hx => by subst hx; exact hf _ (.inl rfl)
  refine optP_of (ldO (i := 0) h3.own rfl (asL_of (ifD (fun hl => optP_of (ldO (i := 0) h3.own rfl (asL_of ?_))) fun hl => last (placeN L k) hpl ?_)))
  · have hlt2 : placeN L k < L.length := by omega
    obtain ⟨a, ha, h1, h2⟩ := h3.now.at1 hlt2
    subst ha
    refine ixS (z := 2) u66 s77 (by omega) (by omega) (show asA (.pointer (some _)) _ from ?_)
    rw [Int.toNat_natCast]
    refine ldI h1 (ifE (fun hx => ?_) fun hx => ?_)
    · rw [show IntKind.wrap .i64 ((placeN L k : Int) + 1) = ((placeN L k + 1 : Nat) : Int) by rw [i64w (by omega) (by omega)]; rfl]
      refine last (placeN L k + 1) (by omega) ?_
      unfold setL; rw [List.getElem?_eq_getElem hlt2]; simp [hx]
    · refine last (placeN L k) (by omega) ?_
      unfold setL; rw [List.getElem?_eq_getElem hlt2]; simp [hx]
  · unfold setL; rw [List.getElem?_eq_none (by omega)]
theorem rmark (h : RefT w F rb L O) (hL : L.length < 500000000) (hO : O.length < 1073741000) (kk : ∀ w' F', RefT w' F' rb L (O ++ [L]) → (∀ x, F' x → F x ∨ (w.heap.size ≤ x ∧ x < w'.heap.size)) → Ext F w w' → K (.int .i64 (O.length : Int)) w') :
    CallV Try.prog 44 #[.pointer (some ⟨rb, 0, none⟩)] w K := by
  obtain ⟨G, p, op, c, oc, vals, h, hf⟩ := h
  refine call44 _ w K ?_
  unfold F44 drewK
  have bd : Bl w w.drew := (Bl.refl w).drew
  have hd := h.ext (S := None') (Ext.of_bl bd) fun _ _ h => h
  have zd : w.drew.heap.size = w.heap.size := rfl
  generalize w.drew = w0 at bd hd zd ⊢
  refine optP_of (ldO (i := 1) hd.own rfl (asL_of (optP_of (ldO (i := 0) hd.own rfl (asL_of (copied hd.now (by omega) fun w1 q d hq hqb b1 => asL_of ⟨?_, alO fun w2 o2 b2 s2 => ⟨?_, ?_⟩⟩))))))
  · exact ldO (i := 1) (hd.own.bl b1) rfl (asL_of rfl)
  · exact ldO (i := 1) ((hd.own.bl b1).bl b2) rfl (asL_of rfl)
  have b02 := (bd.trans b1).trans b2
  have h2 := h.ext (S := None') (Ext.of_bl b02) fun _ _ h => h
  have z1 := b1.size
  refine app1 h2.old o2 u67 i66 rfl rfl (by omega) (by decide) fun g cap w3 hr3 e3 hg3 hgl3 => asL_of (optP_of ?_)
  have hval : vals.length = O.length := h.old.len
  have o3 : Own w3 rb _ 69 := h2.own.ext e3 h.n2
  have hgn : g ≠ rb ∧ ¬ G g := by
    rcases hg3 with hg | hg
    · exact ⟨fun e => h.n2 (e ▸ hg), h.n3 g hg⟩
    · exact ⟨fun e => by have := h.own.lt; omega, fun hh => by have := h.n4 g hh; omega⟩
  refine stO (i := 1) (b := rb) o3 (by simp) (by kernel_rfl) rfl rfl fun w4 o4 e4 => optP_of (ldO (i := 1) o4 rfl (asL_of ?_))
  rw [show IntKind.wrap .i64 (((O.length + 1 : Nat) : Int) - 1) = (O.length : Int) by rw [i64w (by omega) (by omega)]; omega]
  have z3 := e3.size
  have z4 := e4.size
  have e14 : Ext (RFoot G rb op) w w4 := ((Ext.of_bl (S := RFoot G rb op) b02).trans e3 fun x _ hx => .inr (.inl (blk_slice.1 hx))).trans e4 fun x _ hx => .inl hx
  have hG' : ∀ b, (G b ∨ q.map (·.block) = some b) → b < w1.heap.size ∧ b ≠ rb ∧ b ≠ g ∧ ¬ Blk (.slice op O.length oc) b := by
    rintro b (hb | hb)
    · have := h.n4 b hb
      exact ⟨by omega, fun e => h.n1 (e ▸ hb), fun e => hgn.2 (e ▸ hb), fun hh => h.n3 b hh hb⟩
    · cases q with
      | none => cases hb
      | some a =>
        simp only [Option.map_some, Option.some.injEq] at hb
        subst hb
        have h1 := hqb a rfl
        have h2' := h.own.lt
        refine ⟨h1.2, by omega, ?_, fun hh => by have := h.old.lt hh; omega⟩
        rcases hg3 with hg | hg
        · have := h.old.lt hg; omega
        · omega
  have hps : ∀ q' d' l, PS w2 q' d' l → (∀ a, q' = some a → (G a.block ∨ q.map (·.block) = some a.block)) → PS w4 q' d' l := fun q' d' l hp hq' =>
    Sees.ext (Sees.ext hp e3 fun a ha => (hG' _ (hq' a ha)).2.2.2) e4 fun a ha => (hG' _ (hq' a ha)).2.1
  refine kk w4 (fun x => F x ∨ (w.heap.size ≤ x ∧ x < w4.heap.size)) ⟨fun b => G b ∨ q.map (·.block) = some b, p, some ⟨g, 0, none⟩, c, cap, vals ++ [.slice q L.length d], ⟨?_, ?_, fun a ha => .inl (h.nowG a ha), ?_, ?_, ?_, ?_, ?_, ?_⟩, ?_⟩ (fun x hx => hx) (e14.mono fun x _ hx => hf x hx)
  · rw [List.length_append]; exact o4
  · exact hps _ _ _ h2.now fun a ha => .inl (h.nowG a ha)
  · rw [List.length_append]
    exact hr3.ext e4 fun x hx e => hgn.1 (by rw [blk_some] at hx; omega)
  · intro j l hl
    by_cases hj : j < O.length
    · rw [List.getElem?_append_left hj] at hl
      obtain ⟨q', d', h1, h2', h3⟩ := h2.olds j l hl
      exact ⟨q', d', by rw [List.getElem?_append_left (by omega)]; exact h1, hps _ _ _ h2' fun a ha => .inl (h3 a ha), fun a ha => .inl (h3 a ha)⟩
    · rw [List.getElem?_append_right (by omega)] at hl
      have hj0 : j - O.length = 0 := by
        by_cases hz : j - O.length = 0
        · exact hz
        · rw [List.getElem?_eq_none (by simp; omega)] at hl; cases hl
      rw [hj0] at hl
      simp only [List.getElem?_cons_zero, Option.some.injEq] at hl
      subst hl
      refine ⟨q, d, by rw [List.getElem?_append_right (by omega), show j - vals.length = 0 by omega]; rfl, hps _ _ _ (Sees.bl hq b2) fun a ha => .inr (by rw [ha]; rfl), fun a ha => .inr (by rw [ha]; rfl)⟩
  · exact fun hh => (hG' _ hh).2.1 rfl
  · intro hh; exact hgn.1 (blk_some.1 hh)
  · intro b hb hh; rw [blk_some] at hb; exact (hG' _ hh).2.2.1 hb.symm
  · intro b hb; have := (hG' _ hb).1; omega
  · rintro x (hx | hx | hx | hx)
    · exact .inl (hf x (.inl hx))
    · simp only [Option.map_some, Option.some.injEq] at hx
      subst hx
      rcases hg3 with hg | hg
      · exact .inl (hf _ (.inr (.inl (blk_slice.1 hg))))
      · exact .inr ⟨by omega, by omega⟩
    · exact .inl (hf x (.inr (.inr hx)))
    · cases q with
      | none => cases hx
      | some a =>
        simp only [Option.map_some, Option.some.injEq] at hx
        subst hx
        have := hqb a rfl
        exact .inr ⟨by omega, by omega⟩
theorem rback {a : Nat} {M : Pairs} (h : RefT w F rb L O) (ha : O[a]? = some M) (hO : O.length < 1073741000) (kk : ∀ w', RefT w' F rb M (O.take a) → Ext F w w' → K (.int .i64 0) w') :
    CallV Try.prog 45 #[.pointer (some ⟨rb, 0, none⟩), .int .i64 (a : Int)] w K := by
  obtain ⟨G, p, op, c, oc, vals, h, hf⟩ := h
  refine call45 _ a w K ?_
  unfold F45
  have hal : a < O.length := (List.getElem?_eq_some_iff.1 ha).1
  refine ifD (fun h => by omega) fun _ => optP_of (ldO (i := 1) h.own rfl (asL_of (ifD (fun h => by omega) fun _ => ?_)))
  unfold J45_0
  obtain ⟨q, d, hv, hps, hqG⟩ := h.olds a M ha
  obtain ⟨g, rfl⟩ : ∃ g, op = some ⟨g, 0, none⟩ := by
    rcases h.old.form with ⟨hh, h0⟩ | ⟨g, cap, hh, _⟩
    · omega
    · simp only [Value.slice.injEq] at hh; exact ⟨g, hh.1⟩
  refine optP_of (ldO (i := 1) h.own rfl (asL_of (ixS (z := 1) u67 s66 (by omega) (by omega) (show asA (.pointer (some _)) _ from ?_))))
  rw [addAt]
  refine ld (h.old.cell hv) (asL_of (optP_of ?_))
  have hoc : O.length ≤ oc := by
    rcases h.old.form with ⟨hh, h0⟩ | ⟨g, cap, hh, hc⟩
    · omega
    · simp only [Value.slice.injEq] at hh; omega
  refine stO (i := 0) h.own (by simp) (by kernel_rfl) rfl rfl fun w1 o1 e1 => optP_of (ldO (i := 1) o1 rfl (asL_of (cutTo u67 s66 (by omega) (by omega) hoc (asL_of (optP_of ?_)))))
  rw [Int.toNat_natCast]
  refine stO (i := 1) (b := rb) o1 (by simp) (by kernel_rfl) rfl rfl fun w2 o2 e2 => ?_
  have e : Ext (· = rb) w w2 := e1.trans e2 fun _ _ h => h
  have htl : (O.take a).length = a := by rw [List.length_take]; omega
  refine kk w2 ⟨G, q, some ⟨g, 0, none⟩, d, oc, vals.take a, ⟨?_, Sees.ext hps e fun b hb ee => h.n1 (ee ▸ hqG b hb), hqG, ?_, fun j l hl => ?_, h.n1, ?_, ?_, fun b hb => Nat.lt_of_lt_of_le (h.n4 b hb) e.size⟩, ?_⟩ (e.mono fun x _ hx => by subst hx; exact hf _ (.inl rfl))
  · rw [htl]; exact o2
  · rw [htl]; exact (h.old.cut (by omega)).ext e fun x hx ee => h.n2 (by rw [blk_some] at hx ⊢; omega)
  · rw [List.getElem?_take] at hl
    split at hl
    · obtain ⟨q', d', h1, h2, h3⟩ := h.olds j l hl
      exact ⟨q', d', by rw [List.getElem?_take, if_pos (by assumption)]; exact h1, Sees.ext h2 e fun b hb ee => h.n1 (ee ▸ h3 b hb), h3⟩
    · cases hl
  · intro hh; exact h.n2 (blk_some.2 (blk_some.1 hh))
  · intro b hb; exact h.n3 b (blk_some.2 (blk_some.1 hb))
  · rintro x hx; exact hf x hx
end Go.Proofs.Ytalhnoelkglgiaa.W
