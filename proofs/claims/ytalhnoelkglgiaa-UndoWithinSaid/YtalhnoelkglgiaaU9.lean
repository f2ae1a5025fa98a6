/- A table's history, and a step (do). No condition. -/
import Derived.Test.YtalhnoelkglgiaaU8
namespace Go.Proofs.Ytalhnoelkglgiaa.W
open Go Go.Proofs.Ytalhnoelkglgiaa.Sh Go.RowKit
set_option linter.unusedVariables false
set_option linter.unusedSimpArgs false
set_option maxRecDepth 100000
variable {w : World} {K : Value → World → Prop} {F : Nat → Prop} {tb N : Nat} {s : Hist}

def invM (M : Int → Option Int) (k : Int) : Un := match M k with | some v => .set k v | none => .del k
def Hist.noted (s : Hist) (k : Int) : List Un := if s.ms = [] then s.B else s.B ++ [invM s.M k]
def Hist.set (s : Hist) (k v : Int) : Hist := ⟨fun j => if j = k then some v else s.M j, s.noted k, s.ms⟩
def Hist.del (s : Hist) (k : Int) : Hist := if s.M k = none then s else ⟨fun j => if j = k then none else s.M j, s.noted k, s.ms⟩
def Hist.mark (s : Hist) : Hist := ⟨s.M, s.B, s.ms ++ [s.B.length]⟩
def Hist.back (s : Hist) (a : Nat) : Hist := match s.ms[a]? with | some n => ⟨undone (s.B.drop n) s.M, s.B.take n, s.ms.take a⟩ | none => s
def Hist.forget (s : Hist) (a : Nat) : Hist := if a < s.ms.length then ⟨s.M, if a = 0 then [] else s.B, s.ms.take a⟩ else s
def Hist.step (s : Hist) (kind k v : Int) : Hist :=
  if kind = 1 then s.set k v else if kind = 2 then s.del k else if kind = 3 then s.mark else if kind = 4 then (if k < 0 then s else s.back k.toNat) else if kind = 5 then (if k < 0 then s else s.forget k.toNat) else s

/-- A table in memory that is worth s, small. -/
def TabH (w : World) (F : Nat → Prop) (tb : Nat) (s : Hist) (N : Nat) : Prop := ∃ E, Tab w F tb E s.B s.ms ∧ (∀ j, lkE E j = s.M j) ∧ E.length + s.B.length ≤ 2 * N ∧ s.ms.length ≤ N ∧ (∀ n ∈ s.ms, n ≤ s.B.length) ∧ s.ms.Pairwise (· ≤ ·)
theorem TabH.mono {N' : Nat} (h : TabH w F tb s N) (hN : N ≤ N') : TabH w F tb s N' := by
  obtain ⟨E, h1, h2, h3, h4, h5, h6⟩ := h
  exact ⟨E, h1, h2, by omega, by omega, h5, h6⟩
theorem TabH.bl {w' : World} (h : TabH w F tb s N) (b : Bl w w') : TabH w' F tb s N := by
  obtain ⟨E, h1, h⟩ := h; exact ⟨E, h1.bl b, h⟩
theorem TabH.ext {S : Nat → Prop} {w' : World} (h : TabH w F tb s N) (e : Ext S w w') (hs : ∀ b, F b → ¬ S b) : TabH w' F tb s N := by
  obtain ⟨E, h1, h⟩ := h; exact ⟨E, h1.ext e hs, h⟩
theorem noted_eq {E : List E3} (hM : ∀ j, lkE E j = s.M j) (k : Int) : noted E s.B s.ms k = s.noted k := by
  unfold noted Hist.noted inv invM; rw [hM k]; rfl
theorem noted_len (s : Hist) (k : Int) : (s.noted k).length ≤ s.B.length + 1 ∧ s.B.length ≤ (s.noted k).length := by
  unfold Hist.noted; split <;> simp

theorem setH {k v : Int} (h : TabH w F tb s N) (hN : N < 500000000) (kk : ∀ w' F', TabH w' F' tb (s.set k v) (N + 1) → (∀ x, F' x → F x ∨ w.heap.size ≤ x) → Ext F w w' → K (.tuple #[]) w') :
    CallV Try.prog 12 #[.pointer (some ⟨tb, 0, none⟩), .int .i64 k, .int .i64 v] w K := by
  obtain ⟨E, h1, h2, h3, h4, h5, h6⟩ := h
  have hl := noted_len s k
  refine set h1 (by omega) fun w' F' E' hE' hL ht hf he => kk w' F' ⟨E', by rw [noted_eq h2] at ht; exact ht, fun j => by rw [hE' j, h2 j]; rfl, by show E'.length + (s.noted k).length ≤ _; omega, by show s.ms.length ≤ _; omega, fun n hn => Nat.le_trans (h5 n hn) hl.2, h6⟩ hf he
theorem delH {k : Int} (h : TabH w F tb s N) (hN : N < 500000000) (kk : ∀ w' F', TabH w' F' tb (s.del k) (N + 1) → (∀ x, F' x → F x ∨ w.heap.size ≤ x) → Ext F w w' → K (.bool (s.M k).isSome) w') :
    CallV Try.prog 16 #[.pointer (some ⟨tb, 0, none⟩), .int .i64 k] w K := by
  have h0 := h
  obtain ⟨E, h1, h2, h3, h4, h5, h6⟩ := h
  have hl := noted_len s k
  refine delete h1 (by omega) (fun hn => ?_) fun hn w' F' E' hE' hL ht hf he => ?_
  · rw [h2] at hn
    have := kk w F (by unfold Hist.del; rw [if_pos hn]; exact h0.mono (by omega)) (fun x hx => .inl hx) (Ext.refl w)
    rw [hn] at this; exact this
  · rw [h2] at hn
    have := kk w' F' (by
      unfold Hist.del; rw [if_neg hn]
      exact ⟨E', by rw [noted_eq h2] at ht; exact ht, fun j => by rw [hE' j, h2 j], by show E'.length + (s.noted k).length ≤ _; omega, by show s.ms.length ≤ _; omega, fun n hn => Nat.le_trans (h5 n hn) hl.2, h6⟩) hf he
    cases hq : s.M k with
    | none => exact absurd hq hn
    | some _ => rw [hq] at this; exact this
theorem markH (h : TabH w F tb s N) (hN : N < 500000000) (kk : ∀ w' F', TabH w' F' tb s.mark (N + 1) → (∀ x, F' x → F x ∨ w.heap.size ≤ x) → Ext F w w' → K (.int .i64 (s.ms.length : Int)) w') : CallV Try.prog 15 #[.pointer (some ⟨tb, 0, none⟩)] w K := by
  obtain ⟨E, h1, h2, h3, h4, h5, h6⟩ := h
  refine mark h1 (by omega) (by omega) fun w' F' ht hf he => kk w' F' ⟨E, ht, h2, by show E.length + s.B.length ≤ _; omega, by show (s.ms ++ [s.B.length]).length ≤ _; simp; omega, fun n hn => ?_, ?_⟩ hf he
  · rcases List.mem_append.1 hn with hn | hn
    · exact h5 n hn
    · simp at hn; subst hn; exact Nat.le_refl _
  · show (s.ms ++ [s.B.length]).Pairwise (· ≤ ·)
    rw [List.pairwise_append]
    exact ⟨h6, List.pairwise_singleton _ _, fun a ha b hb => by simp at hb; subst hb; exact h5 a ha⟩
theorem backH {a : Nat} (h : TabH w F tb s N) (hN : N < 500000000) (ha : a < s.ms.length) (kk : ∀ w', TabH w' F tb (s.back a) N → Ext F w w' → K (.int .i64 0) w') : CallV Try.prog 18 #[.pointer (some ⟨tb, 0, none⟩), .int .i64 (a : Int)] w K := by
  obtain ⟨E, h1, h2, h3, h4, h5, h6⟩ := h
  have hn : s.ms[a]? = some s.ms[a] := List.getElem?_eq_getElem ha
  have hB := h5 _ (List.getElem_mem ha)
  have hM : lkE E = s.M := funext h2
  refine backOk h1 (by omega) ha hn hB fun w' E' ht hE' hL he => kk w' ?_ he
  unfold Hist.back
  rw [hn]
  refine ⟨E', ht, fun j => by rw [hE' j, hM], ?_, ?_, ?_, h6.sublist (List.take_sublist _ _)⟩
  · show E'.length + (s.B.take s.ms[a]).length ≤ _
    rw [List.length_take]; omega
  · show (s.ms.take a).length ≤ _
    rw [List.length_take]; omega
  · intro n' hn'
    show n' ≤ (s.B.take s.ms[a]).length
    rw [List.length_take, Nat.min_eq_left hB]
    obtain ⟨i, hi, rfl⟩ := List.getElem_of_mem hn'
    rw [List.length_take] at hi
    rw [List.getElem_take]
    exact List.pairwise_iff_getElem.1 h6 i a (by omega) ha (by omega)
theorem forgetH {a : Nat} (h : TabH w F tb s N) (ha : a < s.ms.length) (kk : ∀ w', TabH w' F tb (s.forget a) N → Ext F w w' → K (.int .i64 0) w') : CallV Try.prog 21 #[.pointer (some ⟨tb, 0, none⟩), .int .i64 (a : Int)] w K := by
  obtain ⟨E, h1, h2, h3, h4, h5, h6⟩ := h
  refine forgetOk h1 ha fun w' ht he => kk w' ?_ he
  unfold Hist.forget
  rw [if_pos ha]
  refine ⟨E, ht, h2, ?_, ?_, ?_, h6.sublist (List.take_sublist _ _)⟩
  · show E.length + (if a = 0 then [] else s.B).length ≤ _
    by_cases h0 : a = 0
    · rw [if_pos h0]; simp; omega
    · rw [if_neg h0]; omega
  · show (s.ms.take a).length ≤ _
    rw [List.length_take]; omega
  · intro n hn
    show n ≤ (if a = 0 then [] else s.B).length
    split
    · rename_i h0; subst h0; simp at hn
    · exact h5 n (List.mem_of_mem_take hn)

theorem outM {k : Int} (hk : ¬ k < 0) : k = ((k.toNat : Nat) : Int) := by omega
/-- A step. -/
theorem doOp {kind k v : Int} {two : Bool} (h : TabH w F tb s N) (hN : N < 500000000) (kk : ∀ w' F', TabH w' F' tb (s.step kind k v) (N + 1) → (∀ x, F' x → F x ∨ w.heap.size ≤ x) → Ext F w w' → K (.tuple #[]) w') :
    CallV Try.prog 11 #[.pointer (some ⟨tb, 0, none⟩), .agg #[.int .i64 kind, .bool two, .int .i64 k, .int .i64 v]] w K := by
  refine call11 _ kind two k v w K ?_
  unfold F11
  refine alO fun w1 o1 b1 s1 => ?_
  have h1 := h.bl b1
  have fin : ∀ w' F', TabH w' F' tb (s.step kind k v) (N + 1) → (∀ x, F' x → F x ∨ w1.heap.size ≤ x) → Ext F w1 w' → K (.tuple #[]) w' := fun w' F' ht hf he =>
    kk w' F' ht (fun x hx => (hf x hx).imp id fun h => by omega) ((Ext.of_bl b1).trans he fun _ _ h => h)
  refine ldO (i := 0) o1 rfl (asI_of (ifE (fun e => ?_) fun n1 => ifE (fun e => ?_) fun n2 => ifE (fun e => ?_) fun n3 => ifE (fun e => ?_) fun n4 => ifE (fun e => ?_) fun n5 => ?_))
  · refine ldO (i := 2) o1 rfl (asI_of (ldO (i := 3) o1 rfl (asI_of (setH h1 hN fun w' F' ht hf he => t0 ?_))))
    exact fin w' F' (by unfold Hist.step; rw [if_pos e]; exact ht) hf he
  · refine ldO (i := 2) o1 rfl (asI_of (delH h1 hN fun w' F' ht hf he => asB_of ?_))
    exact fin w' F' (by unfold Hist.step; rw [if_neg n1, if_pos e]; exact ht) hf he
  · refine markH h1 hN fun w' F' ht hf he => asI_of ?_
    exact fin w' F' (by unfold Hist.step; rw [if_neg n1, if_neg n2, if_pos e]; exact ht) hf he
  · refine ldO (i := 2) o1 rfl (asI_of ?_)
    by_cases hk : k < 0 ∨ (s.ms.length : Int) ≤ k
    · obtain ⟨E, g1, g2⟩ := h1
      refine backNot g1 hk (asI_of (fin w1 F ?_ (fun x hx => .inl hx) (Ext.refl w1)))
      have : s.step kind k v = s := by
        unfold Hist.step; rw [if_neg n1, if_neg n2, if_neg n3, if_pos e]
        by_cases h0 : k < 0
        · rw [if_pos h0]
        · rw [if_neg h0]; unfold Hist.back; rw [List.getElem?_eq_none (by omega)]
      rw [this]; exact TabH.mono ⟨E, g1, g2⟩ (by omega)
    · have hk0 : ¬ k < 0 := fun h => hk (.inl h)
      have hk1 : k.toNat < s.ms.length := by omega
      have hst : s.step kind k v = s.back k.toNat := by unfold Hist.step; rw [if_neg n1, if_neg n2, if_neg n3, if_pos e, if_neg hk0]
      have hkk := outM hk0
      rw [hkk]
      refine backH h1 hN hk1 fun w' ht he => asI_of (fin w' F ?_ (fun x hx => .inl hx) he)
      rw [hst]; exact ht.mono (by omega)
  · refine ldO (i := 2) o1 rfl (asI_of ?_)
    by_cases hk : k < 0 ∨ (s.ms.length : Int) ≤ k
    · obtain ⟨E, g1, g2⟩ := h1
      refine forgetNot g1 hk (asI_of (fin w1 F ?_ (fun x hx => .inl hx) (Ext.refl w1)))
      have : s.step kind k v = s := by
        unfold Hist.step; rw [if_neg n1, if_neg n2, if_neg n3, if_neg n4, if_pos e]
        by_cases h0 : k < 0
        · rw [if_pos h0]
        · rw [if_neg h0]; unfold Hist.forget; rw [if_neg (by omega)]
      rw [this]; exact TabH.mono ⟨E, g1, g2⟩ (by omega)
    · have hk0 : ¬ k < 0 := fun h => hk (.inl h)
      have hk1 : k.toNat < s.ms.length := by omega
      have hst : s.step kind k v = s.forget k.toNat := by unfold Hist.step; rw [if_neg n1, if_neg n2, if_neg n3, if_neg n4, if_pos e, if_neg hk0]
      have hkk := outM hk0
      rw [hkk]
      refine forgetH h1 hk1 fun w' ht he => asI_of (fin w' F ?_ (fun x hx => .inl hx) he)
      rw [hst]; exact ht.mono (by omega)
  · refine fin w1 F ?_ (fun x hx => .inl hx) (Ext.refl w1)
    have : s.step kind k v = s := by unfold Hist.step; rw [if_neg n1, if_neg n2, if_neg n3, if_neg n4, if_neg n5]
    rw [this]; exact h1.mono (by omega)
end Go.Proofs.Ytalhnoelkglgiaa.W
