/- A script, opened: a slice of steps. And a script is done at a table. No condition. -/
import Derived.Test.YtalhnoelkglgiaaUL
import Derived.Test.YtalhnoelkglgiaaSh8
namespace Go.Proofs.Ytalhnoelkglgiaa.W
open Go Go.Proofs.Ytalhnoelkglgiaa.Sh Go.RowKit Go.ChangeShapes
set_option linter.unusedVariables false
set_option linter.unusedSimpArgs false
set_option maxRecDepth 100000
structure OpV where
  kind : Int
  two : Bool
  k : Int
  v : Int
def OpV.cells (o : OpV) : List Value := [.int .i64 o.kind, .bool o.two, .int .i64 o.k, .int .i64 o.v]
def opCells (l : List OpV) : List Value := l.flatMap OpV.cells
theorem opCells_len : ∀ l : List OpV, (opCells l).length = l.length * 4
  | [] => rfl
  | o :: l => by have := opCells_len l; simp only [opCells, List.flatMap_cons, List.length_append, List.length_cons, OpV.cells, List.length_nil] at *; omega
theorem opCells_at : ∀ (l : List OpV) (i : Nat) (h : i < l.length) (j : Nat), j < 4 → (opCells l)[i * 4 + j]? = l[i].cells[j]?
  | [], i, h, j, hj => by simp at h
  | o :: l, 0, h, j, hj => by
    have e : opCells (o :: l) = o.cells ++ opCells l := rfl
    have e0 : (o :: l)[0] = o := rfl
    rw [e, e0, Nat.zero_mul, Nat.zero_add, List.getElem?_append_left (by simpa [OpV.cells] using hj)]
  | o :: l, i + 1, h, j, hj => by
    have e : opCells (o :: l) = o.cells ++ opCells l := rfl
    rw [e, List.getElem?_append_right (by simp [OpV.cells]; omega), show (i + 1) * 4 + j - o.cells.length = i * 4 + j by simp [OpV.cells]; omega, opCells_at l i (by simpa using h) j hj]
    rfl
/-- A script in memory. -/
def Script (w : World) (p : Option Addr) (c : Nat) (ops : List OpV) : Prop := Sees w 4 p ops.length c (opCells ops)
theorem Script.bl {w w' : World} {p : Option Addr} {c : Nat} {ops : List OpV} (h : Script w p c ops) (b : Bl w w') : Script w' p c ops := Sees.bl h b
theorem Script.at4 {w : World} {p : Option Addr} {c i : Nat} {ops : List OpV} (h : Script w p c ops) (hi : i < ops.length) : ∃ a, p = some a ∧ w.cell? (a.add (i * 4)) = some (.int .i64 ops[i].kind) ∧ w.cell? ((a.add (i * 4)).add 1) = some (.bool ops[i].two) ∧
    w.cell? ((a.add (i * 4)).add 2) = some (.int .i64 ops[i].k) ∧ w.cell? ((a.add (i * 4)).add 3) = some (.int .i64 ops[i].v) := by
  obtain ⟨a, rfl, h0⟩ := Sees.at_ h _ _ (opCells_at ops i hi 0 (by decide))
  refine ⟨a, rfl, h0, ?_, ?_, ?_⟩ <;> rw [addAdd]
  · exact Sees.get h rfl (opCells_at ops i hi 1 (by decide))
  · exact Sees.get h rfl (opCells_at ops i hi 2 (by decide))
  · exact Sees.get h rfl (opCells_at ops i hi 3 (by decide))
theorem listOf {α : Type} {Q : Nat → α → Prop} : ∀ (n : Nat), (∀ i, i < n → ∃ x, Q i x) → ∃ l : List α, l.length = n ∧ ∀ i (h : i < l.length), Q i l[i]
  | 0, _ => ⟨[], rfl, fun i h => by simp at h⟩
  | n + 1, hq => by
    obtain ⟨l, h1, h2⟩ := listOf n fun i hi => hq i (by omega)
    obtain ⟨x, hx⟩ := hq n (by omega)
    refine ⟨l ++ [x], by simp [h1], fun i h => ?_⟩
    by_cases hi : i < l.length
    · rw [List.getElem_append_left hi]; exact h2 i hi
    · have : i = n := by simp [h1] at h; omega
      subst this
      rw [List.getElem_append_right (by omega)]
      simpa [h1] using hx
section
variable {H : Type} {enc : TypeId × Value → H} {w : World} {base b0 : Nat} {sp : Nat → Bool} {held : Bool}
theorem u27 : (Try.prog.underlying 27).map (fun d => match d with | .struct fs => fs.toList.map fun f => (f.type, f.offset) | _ => []) = some [(3, 0), (4, 1), (3, 2), (3, 3)] := by kernel_rfl
theorem trod_op {fuel : Nat} {cs : List Value} {y : DataW H × List MemPlace} (h : DataW.trod enc Try.prog w base sp held fuel 27 cs = some y) : ∃ o : OpV, cs = o.cells := by
  have hu := u27
  cases hd : Try.prog.underlying 27 with
  | none => rw [hd] at hu; cases hu
  | some d =>
    rw [hd] at hu
    cases d with
    | struct fs =>
      simp only [Option.map_some, Option.some.injEq] at hu
      obtain ⟨xs, n, _, _, hl, hxs, hf⟩ := DataW.trod_struct hd h
      have hc4 : Try.prog.cellsOf 27 = 4 := by kernel_rfl
      have c3 : Try.prog.cellsOf 3 = 1 := by kernel_rfl
      have c4 : Try.prog.cellsOf 4 = 1 := by kernel_rfl
      rw [hc4] at hl
      obtain ⟨x0, x1, x2, x3, rfl⟩ : ∃ c0 c1 c2 c3, cs = [c0, c1, c2, c3] := by
        match cs, hl with
        | [c0, c1, c2, c3], _ => exact ⟨c0, c1, c2, c3, rfl⟩
      have hfl : fs.toList.length = 4 := by have := congrArg List.length hu; simpa using this
      have g : ∀ (i : Nat) (t o : Nat), (fs.toList.map fun f => (f.type, f.offset))[i]? = some (t, o) → ∃ y, DataW.trod enc Try.prog w base sp held n t (([x0, x1, x2, x3].drop o).take (Try.prog.cellsOf t)) = some y := by
        intro i t o hi
        rw [List.getElem?_map, Option.map_eq_some_iff] at hi
        obtain ⟨f, hf1, hf2⟩ := hi
        simp only [Prod.mk.injEq] at hf2
        obtain ⟨rfl, rfl⟩ := hf2
        have hif : i < xs.length := by
          have := (List.getElem?_eq_some_iff.1 hf1).1
          rw [hxs]; simpa using this
        refine ⟨xs[i], ?_⟩
        rw [hf i f (by simpa using hf1), List.getElem?_eq_getElem hif]
      rw [hu] at g
      obtain ⟨y0, g0⟩ := g 0 3 0 rfl
      obtain ⟨y1, g1⟩ := g 1 4 1 rfl
      obtain ⟨y2, g2⟩ := g 2 3 2 rfl
      obtain ⟨y3, g3⟩ := g 3 3 3 rfl
      rw [c3] at g0 g2 g3
      rw [c4] at g1
      obtain ⟨n0, e0, _⟩ := DataW.trod_int (show Try.prog.underlying 3 = some (.int .i64) by kernel_rfl) g0
      obtain ⟨n1, e1, _⟩ := DataW.trod_bool (show Try.prog.underlying 4 = some .bool by kernel_rfl) g1
      obtain ⟨n2, e2, _⟩ := DataW.trod_int (show Try.prog.underlying 3 = some (.int .i64) by kernel_rfl) g2
      obtain ⟨n3, e3, _⟩ := DataW.trod_int (show Try.prog.underlying 3 = some (.int .i64) by kernel_rfl) g3
      simp at e0 e1 e2 e3
      exact ⟨⟨n0, n1, n2, n3⟩, by simp [OpV.cells, e0, e1, e2, e3]⟩
    | _ => simp at hu
theorem open_ops {r : Reach} {v : Value} {d : DataW H} {ps : List MemPlace} (hval : Value.okWide Try.prog w r b0 22 v) (h : DataW.Trod enc Try.prog w base sp held 22 v d ps) : ∃ p ops c, v = .slice p ops.length c ∧ Script w p c ops := by
  have hs : Try.prog.underlying 22 = some (.slice 27) := by kernel_rfl
  have hct : Try.prog.cellsOf 27 = 4 := by kernel_rfl
  obtain ⟨p, l, c, rfl⟩ := WideShapes.okWide_slice hs hval
  obtain ⟨fuel, hf⟩ := h
  rcases DataW.trod_slice hs hf with ⟨h0, _⟩ | ⟨a, len, cap, elems, rest, n, _, h0, _, _, hl, hm, hlen, hel, _⟩
  · simp [Value.cells] at h0
    obtain ⟨rfl, rfl, rfl⟩ := h0
    exact ⟨none, [], 0, rfl, Sees.nil w 4⟩
  · simp [Value.cells] at h0
    obtain ⟨rfl, rfl, rfl⟩ := h0
    obtain ⟨ops, h1, h2⟩ := listOf (Q := fun i (o : OpV) => ∀ j, j < 4 → w.cell? ((a.add (i * 4)).add j) = o.cells[j]?) l fun i hi => by
      have h1 := hel i hi
      rw [hct] at h1
      obtain ⟨y, hy⟩ : ∃ y, elems[i]? = some y := ⟨_, List.getElem?_eq_getElem (by omega)⟩
      rw [hy, Option.bind_eq_some_iff] at h1
      obtain ⟨cs, hcs, hy'⟩ := h1
      obtain ⟨o, rfl⟩ := trod_op hy'
      have hg := (World.cells?_some hcs).2.2
      exact ⟨o, fun j hj => by rw [hg j (by simpa [OpV.cells] using hj)]⟩
    refine ⟨some a, ops, c, by rw [h1], ⟨opCells_len ops, by omega, fun j u hj => ⟨a, rfl, ?_⟩⟩⟩
    have hjl := (List.getElem?_eq_some_iff.1 hj).1
    rw [opCells_len] at hjl
    have hi : j / 4 < ops.length := by omega
    have e := opCells_at ops (j / 4) hi (j % 4) (by omega)
    have hjj : j / 4 * 4 + j % 4 = j := by omega
    rw [hjj, hj] at e
    have := h2 (j / 4) hi (j % 4) (by omega)
    rw [addAdd, hjj] at this
    rw [this, ← e]
end
def Hist.op (s : Hist) (o : OpV) : Hist := s.step o.kind o.k o.v
def Hist.ops (s : Hist) (l : List OpV) : Hist := l.foldl Hist.op s
theorem ops_take (s : Hist) (l : List OpV) {i : Nat} (h : i < l.length) : s.ops (l.take (i + 1)) = (s.ops (l.take i)).op l[i] := by
  unfold Hist.ops; rw [List.take_succ_eq_append_getElem h, List.foldl_append]; rfl
end Go.Proofs.Ytalhnoelkglgiaa.W
