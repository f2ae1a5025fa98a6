/- UndoSets, walked: it returns true. No condition. -/
import Derived.Test.YtalhnoelkglgiaaUN
import Derived.Test.YtalhnoelkglgiaaW2
namespace Go.Proofs.Ytalhnoelkglgiaa.W
open Go Go.Proofs.Ytalhnoelkglgiaa.Sh Go.RowKit
set_option linter.unusedVariables false
set_option linter.unusedSimpArgs false
set_option maxRecDepth 100000
variable {w w' w0 : World} {K : Value → World → Prop} {Z F G : Nat → Prop} {tb N : Nat} {s : Hist}
theorem tLenN {ks : List Int} (h : Tb w Z tb s N) (hn : ks.Nodup) (hm : ∀ k, k ∈ ks ↔ (s.M k).isSome = true) (kk : K (.int .i64 (ks.length : Int)) w) : CallV Try.prog 22 #[.pointer (some ⟨tb, 0, none⟩)] w K := by
  obtain ⟨F, h⟩ := h
  obtain ⟨E, h1, h2, _⟩ := h.t
  have hnE : (E.map (·.k)).Nodup := by
    obtain ⟨G, mb, c, bp, kp, bc, kc, cells, hd, _⟩ := h1
    exact hd.map.keys
  have hp : (E.map (·.k)).Perm ks := (List.perm_ext_iff_of_nodup hnE hn).2 fun a => by rw [mem_look, h2, hm]
  have hl : E.length = ks.length := by have := hp.length_eq; simpa using this
  refine len h1 ?_
  rw [hl]; exact kk
theorem IsKeys.nodup {M : Int → Option Int} {ks : List Int} (h : IsKeys M ks) : ks.Nodup := h.1.imp fun h => by omega
theorem ints_at {ks : List Int} {i : Nat} (h : i < ks.length) : (ints ks)[i]? = some (.int .i64 ks[i]) := by simp [ints, h]
theorem vals_at {M : Int → Option Int} {ks : List Int} {i : Nat} (h : i < ks.length) : (ints (valsOf M ks))[i]? = some (.int .i64 ((M ks[i]).getD 0)) := by simp [ints, valsOf, h]
/-- An element read out of a row. -/
theorem rowAt {p : Option Addr} {n c i : Nat} {xs : List Value} {u : Int} {F : Int → Prop} (h : Row w (.slice p n c) 3 n xs) (hi : xs[i]? = some (.int .i64 u)) (k : F u) :
    semK Try.prog (Instr.indexAt 29 (.slice p n c) (.int .i64 (i : Int))) w fun v1 w1 => asA v1 fun ad1 => ldK Try.prog w ad1 fun v2 => asI .i64 v2 fun n1 => F n1 := by
  have hlt : i < n := by have := h.len; have := (List.getElem?_eq_some_iff.1 hi).1; omega
  obtain ⟨g, rfl⟩ := row_some h hlt
  refine ixS (z := 1) u29 s3 (by omega) (by omega) (show asA (.pointer (some _)) _ from ?_)
  rw [addAt]
  exact ldI (h.cell hi) k
theorem rowAtF {p : Option Addr} {n c i : Nat} {xs : List Value} {u : Int} {F : Int → World → Prop} (h : Row w (.slice p n c) 3 n xs) (hi : xs[i]? = some (.int .i64 u)) (k : F u w) :
    semK Try.prog (Instr.indexAt 29 (.slice p n c) (.int .i64 (i : Int))) w fun v1 w1 => asA v1 fun ad1 => ldK Try.prog w1 ad1 fun v2 => asI .i64 v2 fun n1 => F n1 w1 := by
  have hlt : i < n := by have := h.len; have := (List.getElem?_eq_some_iff.1 hi).1; omega
  obtain ⟨g, rfl⟩ := row_some h hlt
  refine ixS (z := 1) u29 s3 (by omega) (by omega) (show asA (.pointer (some _)) _ from ?_)
  rw [addAt]
  exact ldI (h.cell hi) k

theorem undoSets {p : Option Addr} {c : Nat} {ops : List OpV} {k v : Int} (hs : Script w p c ops) (kk : ∀ w', Bl w w' → K (.bool true) w') : CallV Try.prog 5 #[.slice p ops.length c, .int .i64 k, .int .i64 v] w K := by
  refine call5 p ops.length c k v w K ?_
  unfold F5
  refine ifD (fun _ => kk w (Bl.refl w)) fun hmost => tNew fun w1 tb ht b1 => asP_of (ifB_f rfl ?_)
  -- behind the script
  have main : ∀ w1 s, Bl w w1 → Tb w1 (fun x => x < w.heap.size) tb s ops.length → J5_0 K k v (some ⟨tb, 0, none⟩) w1 := by
    intro w1 s b1 ht
    unfold J5_0
    obtain ⟨Z', ht', _, hz⟩ := ht.most
    refine tSeen ht (by omega) fun w2 p1 c1 p2 c2 ks hv hkl b2 => g2l (alO fun w3 o3 b3 s3 => stAll (b := w2.heap.size) (vs := #[.slice p1 ks.length c1, .slice p2 ks.length c2]) o3 (by kernel_rfl) rfl (by kernel_rfl) fun w4 o4 e4 => ?_)
    have z2 := b2.size
    have z3 := b3.size
    have z4 := e4.size
    have b14 : Bl w1 w4 := ((Ext.of_bl (S := fun x => x = w2.heap.size) (b2.trans b3)).trans e4 fun _ _ h => h).bl fun x hx e => by omega
    have ht4 := hz w4 b14
    have hv4 := (hv.bl b3).ext e4 fun b hb e => by omega
    -- from here on Z
    generalize hZ : (fun x => Z' x ∨ (w1.heap.size ≤ x ∧ x < w4.heap.size)) = Z at ht4
    have zx : Z w2.heap.size := by rw [← hZ]; exact .inr ⟨by omega, by omega⟩
    have zv : ∀ b, (w1.heap.size ≤ b ∧ b < w2.heap.size) → Z b := fun b hb => by rw [← hZ]; exact .inr ⟨by omega, by omega⟩
    have zb : ∀ x, x < w.heap.size → Z x := fun x hx => by
      rw [← hZ]; exact .inl (by rename_i a b; exact b x hx)
    refine tGet ht4 (t2 (tSet ht4 (by omega) fun w5 ht5 e5 => t0 (tGet ht5 (t2 ?_))))
    have o5 := o4.ext e5 fun h => h zx
    have hv5 := hv4.ext e5 fun b hb h => h (zv b hb)
    have b5 := blNZ (b1.trans b14) e5 zb
    generalize w2.heap.size = x at o4 o5 zx ⊢
    have hM5 : (s.set k v).M k = some v := by simp [Hist.set]
    rw [hM5]
    refine ldO (i := 0) o5 rfl (asL_of ?_)
    have hk := hv.keys
    have hnd := hk.nodup
    -- the keys behind the set
    obtain ⟨n, hn, ls, hls, hlm, hll⟩ : ∃ n : Nat, (n : Int) = (if (s.M k).isSome then (ks.length : Int) else ks.length + 1) ∧ ∃ ls : List Int, ls.Nodup ∧ (∀ j, j ∈ ls ↔ ((s.set k v).M j).isSome = true) ∧ ls.length = n := by
      cases hq : s.M k with
      | some u =>
        refine ⟨ks.length, by simp, ks, hnd, fun j => ?_, rfl⟩
        rw [hk.2]; by_cases hj : j = k
        · subst hj; simp [Hist.set, hq]
        · simp [Hist.set, hj]
      | none =>
        refine ⟨ks.length + 1, by simp, k :: ks, List.nodup_cons.2 ⟨fun hm => ?_, hnd⟩, fun j => ?_, rfl⟩
        · have := (hk.2 k).1 hm; rw [hq] at this; cases this
        · rw [List.mem_cons, hk.2]; by_cases hj : j = k
          · subst hj; simp [Hist.set]
          · simp [Hist.set, hj]
    have hkn : k ∈ ls := (hlm k).2 (by rw [hM5]; rfl)
    have hn0 : 0 < n := by rw [← hll]; exact List.length_pos_of_mem hkn
    have hn2 : n ≤ ks.length + 1 := by split at hn <;> omega
    have hMk : ∀ j, j ∈ ks → (s.M j).isSome = true := fun j hj => (hk.2 j).1 hj
    have rest : J5_2 K k v (some ⟨tb, 0, none⟩) ⟨x, 0, none⟩ v true (n : Int) w5 := by
      unfold J5_2
      refine ifB_f rfl (ifB_f (by simp) (tLenN ht5 hls hlm (asI_of (ifB_f (by rw [hll]; simp) ?_))))
      unfold J5_3
      have loop : ∀ (m i : Nat), i + m = ks.length → L5_5 K (m + 1) k (some ⟨tb, 0, none⟩) ⟨x, 0, none⟩ (n : Int) (i : Int) w5 := by
        intro m
        induction m with
        | zero =>
          intro i hi
          simp only [L5_5]
          refine ldO (i := 0) o5 rfl (asL_of (ifD (fun h => by omega) fun _ => ?_))
          -- behind the loop
          unfold J5_4
          refine tDel ht5 (by omega) fun w6 ht6 e6 => asB_of (ifB_f (by rw [hM5]; rfl) ?_)
          have hM6 : ((s.set k v).del k).M = fun j => if j = k then none else s.M j := by
            unfold Hist.del; rw [if_neg (by rw [hM5]; simp)]
            funext j; by_cases hj : j = k
            · simp [hj]
            · simp [hj, Hist.set]
          have hM6k : ((s.set k v).del k).M k = none := by rw [hM6]; simp
          refine tDel ht6 (by omega) fun w7 ht7 e7 => asB_of (ifB_f (by rw [hM6k]; rfl) ?_)
          have hd : ((s.set k v).del k).del k = (s.set k v).del k := by
            have : ∀ q : Hist, q.M k = none → q.del k = q := fun q hq => by unfold Hist.del; rw [if_pos hq]
            exact this _ hM6k
          rw [hd] at ht7
          have b7 := blNZ (blNZ b5 e6 zb) e7 zb
          have o7 := (o5.ext e6 fun h => h zx).ext e7 fun h => h zx
          have hv7 := (hv5.ext e6 fun b hb h => h (zv b hb)).ext e7 fun b hb h => h (zv b hb)
          have hle : (ls.erase k).length = n - 1 := by rw [List.length_erase_of_mem hkn, hll]
          refine tLenN (ks := ls.erase k) ht7 (hls.erase k) (fun j => ?_) (asI_of (ifB_f ?_ ?_))
          · rw [hls.mem_erase_iff, hlm, hM6]
            by_cases hj : j = k
            · simp [hj]
            · simp [hj, Hist.set]
          · rw [i64w (by omega) (by omega), hle, show ((n - 1 : Nat) : Int) = (n : Int) - 1 by omega]; simp
          unfold J5_6
          refine tGet ht7 (t2 ?_)
          rw [hM6k]
          have loop2 : ∀ (m i : Nat), i + m = ks.length → L5_8 K (m + 1) k (some ⟨tb, 0, none⟩) ⟨x, 0, none⟩ 0 false (i : Int) w7 := by
            intro m
            induction m with
            | zero =>
              intro i hi
              simp only [L5_8]
              refine ldO (i := 0) o7 rfl (asL_of (ifD (fun h => by omega) fun _ => ?_))
              unfold J5_7
              refine ifB_t rfl (ifB_t rfl (awake fun w8 b8 => asB_of (kk w8 (b7.trans b8))))
            | succ m ih =>
              intro i hi
              rw [L5_8]
              simp only []
              have hlt : i < ks.length := by omega
              have hms := hMk _ (List.getElem_mem hlt)
              refine ldO (i := 0) o7 rfl (asL_of (ifD (fun _ => ldO (i := 0) o7 rfl (asL_of (rowAtF (F := fun n1 w1 => CallV Try.prog 17 _ w1 _) hv7.r1 (ints_at hlt) (tGet ht7 (t2 (ldO (i := 0) o7 rfl (asL_of (rowAtF (F := fun n1 w1 => ifB _ (K _ w1) _) hv7.r1 (ints_at hlt) ?_)))))))) fun h => by omega))
              rw [hM6, i1w i (by omega)]
              by_cases hj : ks[i] = k
              · refine ifB_f (by simp [hj]) (ifB_f (by simp [hj]) (ih (i + 1) (by omega)))
              · refine ifB_f (by simp [hj, hms]) (ifB_t (by simp [hj, hms]) (ldO (i := 1) o7 rfl (asL_of (rowAtF (F := fun n1 w1 => ifB _ (K _ w1) _) hv7.r2 (vals_at hlt) (ifB_f (by simp [hj]) (ih (i + 1) (by omega)))))))
          exact ⟨ks.length + 1, loop2 ks.length 0 (by omega)⟩
        | succ m ih =>
          intro i hi
          rw [L5_5]
          simp only []
          have hlt : i < ks.length := by omega
          have hms := hMk _ (List.getElem_mem hlt)
          refine ldO (i := 0) o5 rfl (asL_of (ifD (fun _ => ldO (i := 0) o5 rfl (asL_of (rowAtF (F := fun n1 w1 => CallV Try.prog 17 _ w1 _) hv5.r1 (ints_at hlt) (tGet ht5 (t2 ?_))))) fun h => by omega))
          have hs5 : ((s.set k v).M ks[i]).isSome = true := by
            by_cases hj : ks[i] = k
            · simp [Hist.set, hj]
            · simp [Hist.set, hj, hms]
          rw [hs5, i1w i (by omega)]
          refine ifB_f rfl (ldO (i := 0) o5 rfl (asL_of (rowAtF (F := fun n1 w1 => ifB (n1 != k) _ _) hv5.r1 (ints_at hlt) (ifNe (fun hj => ?_) fun hj => ih (i + 1) (by omega)))))
          refine ldO (i := 1) o5 rfl (asL_of (rowAtF (F := fun n1 w1 => ifB _ (K _ w1) _) hv5.r2 (vals_at hlt) (ifB_f ?_ (ih (i + 1) (by omega)))))
          simp [Hist.set, hj]
      exact ⟨ks.length + 1, loop ks.length 0 (by omega)⟩
    refine ifBb (fun hq => ?_) fun hq => ?_
    · have hq' : (s.M k).isSome = false := by simpa using hq
      rw [hq'] at hn
      rw [i1w ks.length (by omega), show ((ks.length + 1 : Nat) : Int) = (n : Int) by simpa using hn.symm]
      exact rest
    · have hq' : (s.M k).isSome = true := by simpa using hq
      rw [hq'] at hn
      rw [show ((ks.length : Nat) : Int) = (n : Int) by simpa using hn.symm]
      exact rest
  have loop : ∀ (m i : Nat) (w1 : World), i + m = ops.length → Bl w w1 → Tb w1 (fun x => x < w.heap.size) tb (h0.ops (ops.take i)) i → L5_1 K (m + 1) p ops.length c k v (some ⟨tb, 0, none⟩) (i : Int) w1 := by
    intro m
    induction m with
    | zero =>
      intro i w1 hi b1 ht
      simp only [L5_1]
      exact ifD (fun h => by omega) fun _ => main w1 _ b1 (ht.mono (by omega))
    | succ m ih =>
      intro i w1 hi b1 ht
      rw [L5_1]
      simp only []
      have hlt : i < ops.length := by omega
      refine ifD (fun _ => ?_) fun h => by omega
      rw [i1w i (by omega)]
      refine doAt (hs.bl b1) hlt ht (by omega) fun w2 ht2 e2 => ih (i + 1) w2 (by omega) (blNZ b1 e2 fun x hx => hx) ?_
      rw [ops_take _ _ hlt]; exact ht2
  exact ⟨ops.length + 1, loop ops.length 0 w1 (by omega) b1 ht⟩
end Go.Proofs.Ytalhnoelkglgiaa.W
namespace Go.Proofs.Ytalhnoelkglgiaa.W
open Go Go.Proofs.Ytalhnoelkglgiaa.Sh
theorem undoSets_walk (p : Option Addr) (ops : List OpV) (c : Nat) (k v : Int) (W : World) (h : Script W p c ops) (_ : (Lit.int .i64 k).wf = true) (_ : (Lit.int .i64 v).wf = true) : Walk 5 #[.slice p ops.length c, .int .i64 k, .int .i64 v] W :=
  walk_of (undoSets h fun _' hb => ⟨rfl, hb⟩)
end Go.Proofs.Ytalhnoelkglgiaa.W
