/-
  No cell of these rows narrows 'for every input' (looked for: loops, veiled, ifaces, maps, wideKeys, modest, calm, conditions, laid).
  DERIVED. THE GIVEN ROWS OF THIS SEAT. 7 by the template 'for every input the law returns true; each argument reads behind the call as it read before'; 0 by the template 'total and deterministic' (their statements: YtalhnoelkglgiaaTotals.lean).
  GIVEN WITH THE SEED: the statements are not yours to turn. If you find one false, say at which input.
  Laid BY PROGRAM, IN A SANDBOX (cutbox-rows.mjs): the forced cells as the released guide's own fill.sh prints them over the translation 867a8bd2cc0a9cd7… (all of the seat's roots in one cut). By AI agents, Wed Nov 11 2026. No macro, syntax, notation, axiom, sorry.
-/
import Derived.Test.YtalhnoelkglgiaaChecked
import GoSem.Claim
import GoSem.ClaimJoined
import GoSem.ClaimMapViews
import Derived.JoinedTies
import Derived.KernelRfl
namespace Go.Proofs.Ytalhnoelkglgiaa
/- THE CELL 'sum', in the pinned program and in every row, IS THE sha256 OF THE DUMP (.gsa) THAT YtalhnoelkglgiaaProg.lean LOADS. Nothing in Lean hashes anything: it is a label: what it is worth is what the hold of that sum in a sandbox is worth. -/
noncomputable def Try.pinned : Pinned := { name := "ytalhnoelkglgiaa", sum := "867a8bd2cc0a9cd78534a63e21228429bf25428fe4cd9c50bd9aaf8acb0f7cee", checked := Try.checked }
namespace Rows
def none {H : Type} : Left H := { results := [], args := [] }

/-- 'vouchlaw3.UndoBack': WHATEVER THE INPUT: true; the input reads as it did. -/
def undoBackSpec : ChangeSpec := { name := "undoBack", fn := fun _ => fun
  | [d1, d2, d3] => { results := [.lit (.bool true)], args := [d1, d2, d3] }
  | _ => none }
def undoBackRow : OpenClaim := { program := "ytalhnoelkglgiaa", sum := "867a8bd2cc0a9cd78534a63e21228429bf25428fe4cd9c50bd9aaf8acb0f7cee", func := "vouch/vouchlaw3.UndoBack", spec := "undoBack", unfollowed := true, recurses := true, apart := false }
def UndoBackSaid : Prop := undoBackRow.holds Try.pinned (OpenSpec.ofChange undoBackSpec)

/-- ITS FALSE NEIGHBOUR: 'it returns false'. Refute it at one input. -/
def undoBackWrong : ChangeSpec := { name := "undoBack", fn := fun _ => fun
  | [d1, d2, d3] => { results := [.lit (.bool false)], args := [d1, d2, d3] }
  | _ => none }
def UndoBackWrongFalsely : Prop := undoBackRow.holds Try.pinned (OpenSpec.ofChange undoBackWrong)

/-- 'vouchlaw3.UndoForgets': WHATEVER THE INPUT: true; the input reads as it did. -/
def undoForgetsSpec : ChangeSpec := { name := "undoForgets", fn := fun _ => fun
  | [d1, d2, d3] => { results := [.lit (.bool true)], args := [d1, d2, d3] }
  | _ => none }
def undoForgetsRow : OpenClaim := { program := "ytalhnoelkglgiaa", sum := "867a8bd2cc0a9cd78534a63e21228429bf25428fe4cd9c50bd9aaf8acb0f7cee", func := "vouch/vouchlaw3.UndoForgets", spec := "undoForgets", unfollowed := true, recurses := true, apart := false }
def UndoForgetsSaid : Prop := undoForgetsRow.holds Try.pinned (OpenSpec.ofChange undoForgetsSpec)

/-- ITS FALSE NEIGHBOUR: 'it returns false'. Refute it at one input. -/
def undoForgetsWrong : ChangeSpec := { name := "undoForgets", fn := fun _ => fun
  | [d1, d2, d3] => { results := [.lit (.bool false)], args := [d1, d2, d3] }
  | _ => none }
def UndoForgetsWrongFalsely : Prop := undoForgetsRow.holds Try.pinned (OpenSpec.ofChange undoForgetsWrong)

/-- 'vouchlaw3.UndoSets': WHATEVER THE INPUT: true; the input reads as it did. -/
def undoSetsSpec : ChangeSpec := { name := "undoSets", fn := fun _ => fun
  | [d1, d2, d3] => { results := [.lit (.bool true)], args := [d1, d2, d3] }
  | _ => none }
def undoSetsRow : OpenClaim := { program := "ytalhnoelkglgiaa", sum := "867a8bd2cc0a9cd78534a63e21228429bf25428fe4cd9c50bd9aaf8acb0f7cee", func := "vouch/vouchlaw3.UndoSets", spec := "undoSets", unfollowed := true, recurses := true, apart := false }
def UndoSetsSaid : Prop := undoSetsRow.holds Try.pinned (OpenSpec.ofChange undoSetsSpec)

/-- ITS FALSE NEIGHBOUR: 'it returns false'. Refute it at one input. -/
def undoSetsWrong : ChangeSpec := { name := "undoSets", fn := fun _ => fun
  | [d1, d2, d3] => { results := [.lit (.bool false)], args := [d1, d2, d3] }
  | _ => none }
def UndoSetsWrongFalsely : Prop := undoSetsRow.holds Try.pinned (OpenSpec.ofChange undoSetsWrong)

/-- 'vouchlaw3.UndoOrders': WHATEVER THE INPUT: true; the input reads as it did. -/
def undoOrdersSpec : ChangeSpec := { name := "undoOrders", fn := fun _ => fun
  | [d] => { results := [.lit (.bool true)], args := [d] }
  | _ => none }
def undoOrdersRow : OpenClaim := { program := "ytalhnoelkglgiaa", sum := "867a8bd2cc0a9cd78534a63e21228429bf25428fe4cd9c50bd9aaf8acb0f7cee", func := "vouch/vouchlaw3.UndoOrders", spec := "undoOrders", unfollowed := true, recurses := true, apart := false }
def UndoOrdersSaid : Prop := undoOrdersRow.holds Try.pinned (OpenSpec.ofChange undoOrdersSpec)

/-- ITS FALSE NEIGHBOUR: 'it returns false'. Refute it at one input. -/
def undoOrdersWrong : ChangeSpec := { name := "undoOrders", fn := fun _ => fun
  | [d] => { results := [.lit (.bool false)], args := [d] }
  | _ => none }
def UndoOrdersWrongFalsely : Prop := undoOrdersRow.holds Try.pinned (OpenSpec.ofChange undoOrdersWrong)

/-- 'vouchlaw3.UndoOwn': WHATEVER THE INPUT: true; the input reads as it did. -/
def undoOwnSpec : ChangeSpec := { name := "undoOwn", fn := fun _ => fun
  | [d] => { results := [.lit (.bool true)], args := [d] }
  | _ => none }
def undoOwnRow : OpenClaim := { program := "ytalhnoelkglgiaa", sum := "867a8bd2cc0a9cd78534a63e21228429bf25428fe4cd9c50bd9aaf8acb0f7cee", func := "vouch/vouchlaw3.UndoOwn", spec := "undoOwn", unfollowed := true, recurses := true, apart := false }
def UndoOwnSaid : Prop := undoOwnRow.holds Try.pinned (OpenSpec.ofChange undoOwnSpec)

/-- ITS FALSE NEIGHBOUR: 'it returns false'. Refute it at one input. -/
def undoOwnWrong : ChangeSpec := { name := "undoOwn", fn := fun _ => fun
  | [d] => { results := [.lit (.bool false)], args := [d] }
  | _ => none }
def UndoOwnWrongFalsely : Prop := undoOwnRow.holds Try.pinned (OpenSpec.ofChange undoOwnWrong)

/-- 'vouchlaw3.UndoMany': WHATEVER THE INPUT: true; the input reads as it did. -/
def undoManySpec : ChangeSpec := { name := "undoMany", fn := fun _ => fun
  | [d1, d2] => { results := [.lit (.bool true)], args := [d1, d2] }
  | _ => none }
def undoManyRow : OpenClaim := { program := "ytalhnoelkglgiaa", sum := "867a8bd2cc0a9cd78534a63e21228429bf25428fe4cd9c50bd9aaf8acb0f7cee", func := "vouch/vouchlaw3.UndoMany", spec := "undoMany", unfollowed := true, recurses := true, apart := false }
def UndoManySaid : Prop := undoManyRow.holds Try.pinned (OpenSpec.ofChange undoManySpec)

/-- ITS FALSE NEIGHBOUR: 'it returns false'. Refute it at one input. -/
def undoManyWrong : ChangeSpec := { name := "undoMany", fn := fun _ => fun
  | [d1, d2] => { results := [.lit (.bool false)], args := [d1, d2] }
  | _ => none }
def UndoManyWrongFalsely : Prop := undoManyRow.holds Try.pinned (OpenSpec.ofChange undoManyWrong)

/-- 'vouchlaw3.UndoWithin': WHATEVER THE INPUT: true; the input reads as it did. -/
def undoWithinSpec : ChangeSpec := { name := "undoWithin", fn := fun _ => fun
  | [d1, d2, d3] => { results := [.lit (.bool true)], args := [d1, d2, d3] }
  | _ => none }
def undoWithinRow : OpenClaim := { program := "ytalhnoelkglgiaa", sum := "867a8bd2cc0a9cd78534a63e21228429bf25428fe4cd9c50bd9aaf8acb0f7cee", func := "vouch/vouchlaw3.UndoWithin", spec := "undoWithin", unfollowed := true, recurses := true, apart := false }
def UndoWithinSaid : Prop := undoWithinRow.holds Try.pinned (OpenSpec.ofChange undoWithinSpec)

/-- ITS FALSE NEIGHBOUR: 'it returns false'. Refute it at one input. -/
def undoWithinWrong : ChangeSpec := { name := "undoWithin", fn := fun _ => fun
  | [d1, d2, d3] => { results := [.lit (.bool false)], args := [d1, d2, d3] }
  | _ => none }
def UndoWithinWrongFalsely : Prop := undoWithinRow.holds Try.pinned (OpenSpec.ofChange undoWithinWrong)

/- THE SECOND FORM. 'bulk': how many values and letters a reading holds, each counted each time it is reached (what is shared counts as often as it is met; a slice's spare places count too). A statement '..UptoSaid' is the law's where the arguments, and the package variables that the reading takes, are together of bulk at most 1048576: NARROWER than '..Said'. Prove '..Said' where nothing that the law and all that it calls make is longer than what came in: it says more and counts as full. Else prove '..UptoSaid'. A law counts once. -/
mutual
def uptoBulk {H : Type} : DataW H → Nat
  | .lit (.string bytes) => bytes.length + 1
  | .lit _ => 1
  | .nil => 1
  | .ptr d => uptoBulk d + 1
  | .slice elems spare => uptoBulkAll elems + uptoBulkAll spare + 1
  | .agg parts => uptoBulkAll parts + 1
  | .iface _ d => uptoBulk d + 1
  | .map entries => uptoBulkEntries entries + 1
  | .held _ => 1
def uptoBulkAll {H : Type} : List (DataW H) → Nat
  | [] => 0
  | d :: r => uptoBulk d + uptoBulkAll r
def uptoBulkEntries {H : Type} : List (Lit × DataW H) → Nat
  | [] => 0
  | x :: r => uptoBulkEntry x + uptoBulkEntries r
def uptoBulkEntry {H : Type} : Lit × DataW H → Nat
  | (.string bytes, d) => bytes.length + uptoBulk d + 1
  | (_, d) => uptoBulk d + 1
 end
def uptoSmall : (H : Type) → List (DataW H) → Bool := fun _ ds => decide (uptoBulkAll ds ≤ 1048576)
def OpenSpec.upto (s : _root_.Go.ChangeSpec) : _root_.Go.OpenSpec := { _root_.Go.OpenSpec.ofChange s with cond := some uptoSmall }

/-- 'vouchlaw3.UndoBack', WHERE WHAT IT READS IS OF BULK AT MOST 1048576: true; the input reads as it did. -/
def undoBackUptoRow : OpenClaim := { program := "ytalhnoelkglgiaa", sum := "867a8bd2cc0a9cd78534a63e21228429bf25428fe4cd9c50bd9aaf8acb0f7cee", func := "vouch/vouchlaw3.UndoBack", spec := "undoBack", unfollowed := true, recurses := true, apart := false, narrowed := true }
def UndoBackUptoSaid : Prop := undoBackUptoRow.holds Try.pinned (OpenSpec.upto undoBackSpec)

/-- 'vouchlaw3.UndoForgets', WHERE WHAT IT READS IS OF BULK AT MOST 1048576: true; the input reads as it did. -/
def undoForgetsUptoRow : OpenClaim := { program := "ytalhnoelkglgiaa", sum := "867a8bd2cc0a9cd78534a63e21228429bf25428fe4cd9c50bd9aaf8acb0f7cee", func := "vouch/vouchlaw3.UndoForgets", spec := "undoForgets", unfollowed := true, recurses := true, apart := false, narrowed := true }
def UndoForgetsUptoSaid : Prop := undoForgetsUptoRow.holds Try.pinned (OpenSpec.upto undoForgetsSpec)

/-- 'vouchlaw3.UndoSets', WHERE WHAT IT READS IS OF BULK AT MOST 1048576: true; the input reads as it did. -/
def undoSetsUptoRow : OpenClaim := { program := "ytalhnoelkglgiaa", sum := "867a8bd2cc0a9cd78534a63e21228429bf25428fe4cd9c50bd9aaf8acb0f7cee", func := "vouch/vouchlaw3.UndoSets", spec := "undoSets", unfollowed := true, recurses := true, apart := false, narrowed := true }
def UndoSetsUptoSaid : Prop := undoSetsUptoRow.holds Try.pinned (OpenSpec.upto undoSetsSpec)

/-- 'vouchlaw3.UndoOrders', WHERE WHAT IT READS IS OF BULK AT MOST 1048576: true; the input reads as it did. -/
def undoOrdersUptoRow : OpenClaim := { program := "ytalhnoelkglgiaa", sum := "867a8bd2cc0a9cd78534a63e21228429bf25428fe4cd9c50bd9aaf8acb0f7cee", func := "vouch/vouchlaw3.UndoOrders", spec := "undoOrders", unfollowed := true, recurses := true, apart := false, narrowed := true }
def UndoOrdersUptoSaid : Prop := undoOrdersUptoRow.holds Try.pinned (OpenSpec.upto undoOrdersSpec)

/-- 'vouchlaw3.UndoOwn', WHERE WHAT IT READS IS OF BULK AT MOST 1048576: true; the input reads as it did. -/
def undoOwnUptoRow : OpenClaim := { program := "ytalhnoelkglgiaa", sum := "867a8bd2cc0a9cd78534a63e21228429bf25428fe4cd9c50bd9aaf8acb0f7cee", func := "vouch/vouchlaw3.UndoOwn", spec := "undoOwn", unfollowed := true, recurses := true, apart := false, narrowed := true }
def UndoOwnUptoSaid : Prop := undoOwnUptoRow.holds Try.pinned (OpenSpec.upto undoOwnSpec)

/-- 'vouchlaw3.UndoMany', WHERE WHAT IT READS IS OF BULK AT MOST 1048576: true; the input reads as it did. -/
def undoManyUptoRow : OpenClaim := { program := "ytalhnoelkglgiaa", sum := "867a8bd2cc0a9cd78534a63e21228429bf25428fe4cd9c50bd9aaf8acb0f7cee", func := "vouch/vouchlaw3.UndoMany", spec := "undoMany", unfollowed := true, recurses := true, apart := false, narrowed := true }
def UndoManyUptoSaid : Prop := undoManyUptoRow.holds Try.pinned (OpenSpec.upto undoManySpec)

/-- 'vouchlaw3.UndoWithin', WHERE WHAT IT READS IS OF BULK AT MOST 1048576: true; the input reads as it did. -/
def undoWithinUptoRow : OpenClaim := { program := "ytalhnoelkglgiaa", sum := "867a8bd2cc0a9cd78534a63e21228429bf25428fe4cd9c50bd9aaf8acb0f7cee", func := "vouch/vouchlaw3.UndoWithin", spec := "undoWithin", unfollowed := true, recurses := true, apart := false, narrowed := true }
def UndoWithinUptoSaid : Prop := undoWithinUptoRow.holds Try.pinned (OpenSpec.upto undoWithinSpec)

end Rows
end Go.Proofs.Ytalhnoelkglgiaa
