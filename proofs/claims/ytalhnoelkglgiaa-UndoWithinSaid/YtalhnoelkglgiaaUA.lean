/- What a table tells (seen). No condition. -/
import Derived.Test.YtalhnoelkglgiaaU9
namespace Go.Proofs.Ytalhnoelkglgiaa.W
open Go Go.Proofs.Ytalhnoelkglgiaa.Sh Go.RowKit
set_option linter.unusedVariables false
set_option linter.unusedSimpArgs false
set_option maxRecDepth 100000
variable {w : World} {K : Value → World → Prop} {F : Nat → Prop} {tb N : Nat} {s : Hist}

/-- Just the keys, rising. -/
def IsKeys (M : Int → Option Int) (ks : List Int) : Prop := ks.Pairwise (· < ·) ∧ ∀ k, k ∈ ks ↔ (M k).isSome = true
theorem mem_look {k : Int} : ∀ {E : List E3}, k ∈ E.map (·.k) ↔ (lkE E k).isSome = true
  | [] => by simp [lkE]
  | x :: xs => by
    simp only [List.map_cons, List.mem_cons, lkE]
    by_cases h : x.k = k
    · rw [if_pos h]; simp [h]
    · rw [if_neg h, ← mem_look (E := xs)]
      simp [show ¬ k = x.k from fun e => h e.symm]
theorem isKeys_of {E : List E3} {M : Int → Option Int} {ks : List Int} (hM : ∀ j, lkE E j = M j) (hn : (E.map (·.k)).Nodup) (hp : ks.Perm (E.map (·.k))) (hs : ks.Pairwise (fun a b => ¬ riseN b a < 0)) : IsKeys M ks := by
  refine ⟨?_, fun k => by rw [hp.mem_iff, mem_look, hM]⟩
  have hnd : ks.Nodup := hp.nodup_iff.2 hn
  refine (hs.and hnd).imp fun {a b} hab => ?_
  obtain ⟨h1, h2⟩ := hab
  have : ¬ b < a := fun h => h1 (by unfold riseN; rw [if_pos h]; decide)
  omega
theorem keys_len {M : Int → Option Int} : ∀ {ks ls : List Int}, IsKeys M ks → IsKeys M ls → ks = ls := by
  intro ks ls ⟨h1, h2⟩ ⟨g1, g2⟩
  have hmem : ∀ k, k ∈ ks ↔ k ∈ ls := fun k => (h2 k).trans (g2 k).symm
  clear h2 g2
  induction ks generalizing ls with
  | nil =>
    cases ls with
    | nil => rfl
    | cons l ls => exact absurd ((hmem l).2 (by simp)) (by simp)
  | cons k ks ih =>
    cases ls with
    | nil => exact absurd ((hmem k).1 (by simp)) (by simp)
    | cons l ls =>
      rw [List.pairwise_cons] at h1 g1
      have hkl : k = l := by
        rcases List.mem_cons.1 ((hmem k).1 (by simp)) with h | h
        · exact h
        · rcases List.mem_cons.1 ((hmem l).2 (by simp)) with h' | h'
          · exact h'.symm
          · have a1 := g1.1 k h
            have a2 := h1.1 l h'
            omega
      subst hkl
      rw [ih h1.2 g1.2 fun x => ?_]
      constructor
      · intro hx
        rcases List.mem_cons.1 ((hmem x).1 (by simp [hx])) with h | h
        · have := h1.1 x hx; omega
        · exact h
      · intro hx
        rcases List.mem_cons.1 ((hmem x).2 (by simp [hx])) with h | h
        · have := g1.1 x hx; omega
        · exact h

theorem keysH (h : TabH w F tb s N) (hN : N < 500000000) (k : ∀ w' g cap ks, IsKeys s.M ks → ks.length ≤ 2 * N → Row w' (.slice (some ⟨g, 0, none⟩) ks.length cap) 3 ks.length (ints ks) → w.heap.size ≤ g → Bl w w' → K (.slice (some ⟨g, 0, none⟩) ks.length cap) w') :
    CallV Try.prog 23 #[.pointer (some ⟨tb, 0, none⟩), .func (.func 27) #[] #[]] w K := by
  obtain ⟨E, h1, h2, h3, h4, h5, h6⟩ := h
  have hk : (E.map (·.k)).Nodup := by
    obtain ⟨G, mb, c, bp, kp, bc, kc, cells, hd, _⟩ := h1
    exact hd.map.keys
  refine keysBy h1 (by omega) riseO eg27 rising fun w' g cap ks hp hs hr hg hb => k w' g cap ks (isKeys_of h2 hk hp hs) ?_ hr hg hb
  have := hp.length_eq
  simp at this; omega
theorem getH {k : Int} (h : TabH w F tb s N) (kk : K (.tuple #[.int .i64 ((s.M k).getD 0), .bool (s.M k).isSome]) w) : CallV Try.prog 17 #[.pointer (some ⟨tb, 0, none⟩), .int .i64 k] w K := by
  obtain ⟨E, h1, h2, _⟩ := h
  refine get h1 ?_
  rw [h2 k]; exact kk
end Go.Proofs.Ytalhnoelkglgiaa.W
