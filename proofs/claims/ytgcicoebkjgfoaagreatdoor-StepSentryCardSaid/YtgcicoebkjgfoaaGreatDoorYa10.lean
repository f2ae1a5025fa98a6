/- Joined out of own texts. No condition: it holds of every program, or of this one by what is shown here. -/
import Derived.Test.YtgcicoebkjgfoaaGreatDoorYa4
import Derived.Test.YtgcicoebkjgfoaaGreatDoorYa5
import Derived.Test.YtgcicoebkjgfoaaGreatDoorYa6
import Derived.Test.YtgcicoebkjgfoaaGreatDoorYa7
import Derived.Test.YtgcicoebkjgfoaaGreatDoorYa8
import Derived.Test.YtgcicoebkjgfoaaGreatDoorYa9
set_option linter.unusedSectionVars false
set_option linter.constructorNameAsVariable false
set_option linter.unusedVariables false
set_option linter.unusedSimpArgs false
namespace Go.Proofs.YtgcicoebkjgfoaaGreatDoor.Rn
open Go Go.RowKit Go.Proofs.YtgcicoebkjgfoaaGreatDoor.Sh
set_option linter.unusedVariables false
set_option linter.unusedSimpArgs false
theorem stepSentry_walk (a : Int) (W : World) (wf : (Lit.int .u64 a).wf = true) : Calls Tryz.prog 3 #[.int .u64 a] W fun e W' => e = .returned (.bool true) ∧ Below W.heap.size W W' := by
  obtain ⟨h0, h1⟩ : 0 ≤ a ∧ a < 18446744073709551616 := by
    have h : IntKind.u64.min ≤ a ∧ a ≤ IntKind.u64.max := by simpa [Lit.wf] using wf
    rw [show IntKind.u64.min = 0 from rfl, show IntKind.u64.max = 18446744073709551615 from rfl] at h
    omega
  obtain ⟨c, hc⟩ : ∃ c, c = cx0 (fun _ => a) (fun _ => true) (fun _ => []) (fun _ => (none, 0, 0)) := ⟨_, rfl⟩
  have hv : c.ints 0 = a := by rw [hc]; rfl
  have hargs : V.denL c [.sint .u64 (.var 0)] = [.int .u64 a] := by simp [V.denL, V.den, Sx.den, hv]
  have go : ∀ {E : List (Bx × Bool)} {r : V}, endB (callV Tryz.prog X0 100000 100 (.fn 3 [] []) [.sint .u64 (.var 0)] ⟨0, .nil, .nil, E⟩) r = true → (∀ p ∈ E, p.1.den c = p.2) → (∀ c', c'.ints = c.ints → r.den c' = .bool true) → Calls Tryz.prog 3 #[.int .u64 a] W fun e W' => e = .returned (.bool true) ∧ Below W.heap.size W W' := fun {E r} hrun hE hr => by
    have := path_run (rep0 (W := W) hE) (args := [.sint .u64 (.var 0)]) ⟨trivial, trivial⟩ ⟨_, List.mem_cons_self, fun k n h => by cases h⟩ hrun
    rw [hargs] at this
    refine Calls.mono this ?_
    rintro e W' ⟨⟨c', g1, rfl⟩, g2⟩
    exact ⟨by rw [hr c' g1.ints], g2⟩
  by_cases g1 : a > 4294967295
  · exact go ps1 (by simp [es1, Bx.den, Sx.den, cmpI, hv]; omega) fun _ _ => rfl
  by_cases g2 : a < 2
  · exact go ps2 (by simp [es2, Bx.den, Sx.den, cmpI, hv]; omega) fun _ _ => rfl
  have w2 : (a - 2) % 18446744073709551616 = a - 2 := by omega
  by_cases g3 : a - 2 < 2
  · exact go ps3 (by simp [es3, Bx.den, Sx.den, cmpI, arithI, u64w, hv, w2]; omega) fun _ _ => rfl
  have w4 : (a - 2 - 2) % 18446744073709551616 = a - 2 - 2 := by omega
  by_cases g4 : a - 2 - 2 < 100
  · exact go ps4 (by simp [es4, Bx.den, Sx.den, cmpI, arithI, u64w, hv, w2, w4]; omega) fun _ _ => rfl
  have w5 : (a - 2 - 2 - 100) % 18446744073709551616 = a - 2 - 2 - 100 := by omega
  by_cases g5 : a - 2 - 2 - 100 < 2201
  · exact go ps5 (by simp [es5, Bx.den, Sx.den, cmpI, arithI, u64w, hv, w2, w4, w5]; omega) fun _ _ => rfl
  have w6 : (a - 2 - 2 - 100 - 2100) % 18446744073709551616 = a - 2 - 2 - 100 - 2100 := by omega
  have w7 : (a - 2 - 2 - 100 - 2100 - 0) % 18446744073709551616 = a - 2 - 2 - 100 - 2100 := by omega
  have w8 : (a - 2204) % 18446744073709551616 = a - 2204 := by omega
  refine go ps7 (by simp [es7, Bx.den, Sx.den, cmpI, arithI, u64w, hv, w2, w4, w5, w6, w7]; omega) fun c' hc' => ?_
  have hv' : c'.ints 0 = a := by rw [hc', hv]
  simp [V.den, Bx.den, Sx.den, cmpI, arithI, u64w, hv', w2, w4, w5, w6, w7, w8]
  omega
end Go.Proofs.YtgcicoebkjgfoaaGreatDoor.Rn
