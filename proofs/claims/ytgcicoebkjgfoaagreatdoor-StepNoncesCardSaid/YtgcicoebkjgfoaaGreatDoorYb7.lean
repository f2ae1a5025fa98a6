/- Joined out of own texts. No condition: it holds of every program, or of this one by what is shown here. -/
import Derived.Test.YtgcicoebkjgfoaaGreatDoorYb4
import Derived.Test.YtgcicoebkjgfoaaGreatDoorYb5
import Derived.Test.YtgcicoebkjgfoaaGreatDoorYb6
set_option linter.unusedSectionVars false
set_option linter.constructorNameAsVariable false
set_option linter.unusedVariables false
set_option linter.unusedSimpArgs false
namespace Go.Proofs.YtgcicoebkjgfoaaGreatDoor.Rn
open Go Go.RowKit Go.Proofs.YtgcicoebkjgfoaaGreatDoor.Sh
set_option linter.unusedVariables false
set_option linter.unusedSimpArgs false
theorem stepNonces_walk (a : Int) (W : World) (wf : (Lit.int .u64 a).wf = true) : Calls Tryz.prog 4 #[.int .u64 a] W fun e W' => e = .returned (.bool true) ∧ Below W.heap.size W W' := by
  obtain ⟨c, hc⟩ : ∃ c, c = cx0 (fun _ => a) (fun _ => true) (fun _ => []) (fun _ => (none, 0, 0)) := ⟨_, rfl⟩
  have hv : c.ints 0 = a := by rw [hc]; rfl
  have hargs : V.denL c [.sint .u64 (.var 0)] = [.int .u64 a] := by simp [V.denL, V.den, Sx.den, hv]
  have go : ∀ {E : List (Bx × Bool)} {r : V}, endB (callV Tryz.prog X0 100000 100 (.fn 4 [] []) [.sint .u64 (.var 0)] ⟨0, .nil, .nil, E⟩) r = true → (∀ p ∈ E, p.1.den c = p.2) → (∀ c', c'.ints = c.ints → r.den c' = .bool true) → Calls Tryz.prog 4 #[.int .u64 a] W fun e W' => e = .returned (.bool true) ∧ Below W.heap.size W W' := fun {E r} hrun hE hr => by
    have := path_run (rep0 (W := W) hE) (args := [.sint .u64 (.var 0)]) ⟨trivial, trivial⟩ ⟨_, List.mem_cons_self, fun k n h => by cases h⟩ hrun
    rw [hargs] at this
    refine Calls.mono this ?_
    rintro e W' ⟨⟨c', g1, rfl⟩, g2⟩
    exact ⟨by rw [hr c' g1.ints], g2⟩
  by_cases g1 : a = 0
  · exact go pn1 (by simp [en1, Bx.den, Sx.den, cmpI, hv, g1]) fun _ _ => rfl
  by_cases g2 : a = 18446744073709551615
  · exact go pn2 (by simp [en2, Bx.den, Sx.den, cmpI, hv, g2]) fun _ _ => rfl
  · exact go pn3 (by simp [en3, Bx.den, Sx.den, cmpI, hv, g1, g2]) fun _ _ => rfl
end Go.Proofs.YtgcicoebkjgfoaaGreatDoor.Rn
