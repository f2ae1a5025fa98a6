/- slices.SortFunc by its contract, in our words; the orders. No condition. -/
import Derived.Test.YtalhnoelkglgiaaU4
import Derived.Test.YtalhnoelkglgiaaS0
namespace Go.Proofs.Ytalhnoelkglgiaa.W
open Go Go.Proofs.Ytalhnoelkglgiaa.Sh Go.RowKit
set_option linter.unusedVariables false
set_option maxRecDepth 100000
variable {w : World} {K : Value → World → Prop}
def ints (xs : List Int) : List Value := xs.map (Value.int .i64)

theorem sortFn {g n cap f : Nat} {xs : List Int} {cf : Int → Int → Int} (hrow : Row w (.slice (some ⟨g, 0, none⟩) n cap) 3 n (ints xs)) (hn : n < 4611686018427387904) (hO : Sort.SWO (Go.Proofs.ltOf cf)) (eg : ∀ args w, (callFunc f args).run Try.prog w = .ok (.enter f args) w)
    (hcmp : ∀ x y W, CallV Try.prog f #[.int .i64 x, .int .i64 y] W fun v W' => v = .int .i64 (cf x y) ∧ W' = W)
    (k : ∀ ys w', ys.Perm xs → ys.Pairwise (fun a b => ¬ cf b a < 0) → Row w' (.slice (some ⟨g, 0, none⟩) n cap) 3 n (ints ys) → Ext (Blk (.slice (some ⟨g, 0, none⟩) n cap)) w w' → K (.tuple #[]) w') :
    CallV Try.prog 33 #[.slice (some ⟨g, 0, none⟩) n cap, .func (.func f) #[] #[]] w K := by
  have hlen : xs.length = n := by have := hrow.len; simpa [ints] using this
  have hblk : g < w.heap.size := hrow.lt (blk_some.2 rfl)
  have hH : Sort.Holds (Value.int .i64) w g 0 xs.toArray := by
    intro j hj
    have hj' : j < xs.length := by simpa using hj
    have hc : (ints xs)[j]? = some (.int .i64 xs[j]) := by simp [ints, hj']
    rw [Nat.zero_add]
    refine ⟨?_, ?_⟩
    · rw [hrow.cell hc]; simp [hj']
    · rcases hrow.2 with ⟨h, _⟩ | ⟨g', cap', cur, hv, _, hg, _⟩
      · cases h
      · simp only [Value.slice.injEq, Option.some.injEq, Addr.mk.injEq] at hv
        obtain ⟨⟨rfl, _⟩, _, rfl⟩ := hv
        exact Own.frozen (i := j) hg
  have hc : Go.Proofs.CmpReads Try.prog f #[] (Value.int .i64) cf g 0 xs.toArray.size w := fun m os dk _ x y => Calls.mono (hcmp x y _) fun e w' ⟨v, he, hv, hw⟩ => ⟨by rw [he, hv], 0, by rw [hw]; rfl⟩
  have hcon := Go.Proofs.Any.slices_SortFunc Go.Proofs.Ytalhnoelkglgiaa.sortL (Value.int .i64) (fun _ => rfl) cf hO f #[] g 0 cap xs.toArray w eg hc.lays hH hblk (by simpa [hlen] using hn)
  change Calls Try.prog 33 #[.slice (some ⟨g, 0, none⟩) xs.toArray.size cap, .func (.func f) #[] #[]] w _ at hcon
  have hsz : xs.toArray.size = n := by simpa using hlen
  rw [hsz] at hcon
  refine Calls.mono hcon fun e w' ⟨he, d', m, os, hp, hs, hw⟩ => ⟨_, he, ?_⟩
  obtain ⟨p1, _, p3⟩ := hp
  rw [hsz] at p1
  have hperm : d'.toList.Perm xs := by
    have e1 : (d'.extract 0 n).toList = d'.toList := by rw [← p1]; simp
    have e2 : (xs.toArray.extract 0 n).toList = xs := by rw [← hsz]; simp
    rw [e1, e2] at p3
    exact p3
  refine k d'.toList w' hperm ?_ ?_ ?_
  · rw [List.pairwise_iff_getElem]
    intro i j hi hj hij
    have hi' : i < d'.size := by simpa using hi
    have hj' : j < d'.size := by simpa using hj
    have := hs i j (Nat.zero_le _) hij (by omega)
    rw [getElem!_pos d' i hi', getElem!_pos d' j hj'] at this
    simpa [Go.Proofs.ltOf] using this
  · rcases hrow.2 with ⟨h, _⟩ | ⟨g', cap', cur, hv, _, hg, hc1, hc2, hc3, hc4⟩
    · cases h
    · simp only [Value.slice.injEq, Option.some.injEq, Addr.mk.injEq] at hv
      obtain ⟨⟨rfl, _⟩, _, rfl⟩ := hv
      refine ⟨by simp [ints, p1], .inr ⟨g, cap, Sort.putCells (Value.int .i64) 0 d' cur, rfl, Nat.zero_le _, ?_, hc1, hc2, by simp [Sort.putCells, hc3], ?_⟩⟩
      · rw [hw]
        show ((w.heap.modify g _) ++ os)[g]? = _
        rw [Array.getElem?_append_left (by simpa using hblk), Array.getElem?_modify, if_pos rfl, hg]
        rfl
      · apply List.ext_getElem?
        intro j
        by_cases hj : j < n
        · have hjc : j < cur.size := by omega
          have hjd : j < d'.size := by omega
          rw [List.getElem?_take, if_pos (by omega)]
          simp [Sort.putCells, ints, hjc, hjd]
        · rw [List.getElem?_eq_none (by simp; omega), List.getElem?_eq_none (by simp [ints]; omega)]
  · rw [hw]
    refine ⟨rfl, rfl, rfl, ?_, fun k hk hb => ?_⟩
    · show w.heap.size ≤ ((w.heap.modify g _) ++ os).size
      simp
    · show ((w.heap.modify g _) ++ os)[k]? = _
      rw [Array.getElem?_append_left (by simpa using hk), Array.getElem?_modify, if_neg fun e => hb (blk_some.2 e)]

/-! ### The orders -/
def riseN (a b : Int) : Int := if a < b then -1 else if a > b then 1 else 0
theorem rising (x y : Int) (W : World) : CallV Try.prog 27 #[.int .i64 x, .int .i64 y] W fun v W' => v = .int .i64 (riseN x y) ∧ W' = W := by
  refine call27 x y W _ ?_
  unfold F27 riseN
  refine ifD (fun h => ?_) fun h => ifD (fun h2 => ?_) fun h2 => ?_
  · rw [if_pos h]; exact ⟨rfl, rfl⟩
  · rw [if_neg h, if_pos h2]; exact ⟨rfl, rfl⟩
  · rw [if_neg h, if_neg h2]; exact ⟨rfl, rfl⟩
theorem riseLt (x y : Int) : Go.Proofs.ltOf riseN x y = decide (x < y) := by
  unfold Go.Proofs.ltOf riseN
  by_cases h : x < y
  · simp [h]
  · by_cases h2 : x > y <;> simp [h, h2]
theorem riseO : Sort.SWO (Go.Proofs.ltOf riseN) where
  irrefl x := by rw [riseLt]; simp
  trans x y z h1 h2 := by rw [riseLt] at *; simp at *; omega
  ntrans x y z h1 h2 := by rw [riseLt] at *; simp at *; omega
theorem eg27 : ∀ args w, (callFunc 27 args).run Try.prog w = .ok (.enter 27 args) w := enters_of Try.func27 (by kernel_rfl) rfl
end Go.Proofs.Ytalhnoelkglgiaa.W
