/-
  No cell of these rows narrows 'for every input' (looked for: loops, veiled, ifaces, maps, wideKeys, modest, calm, conditions, laid).
  DERIVED. THE GIVEN ROWS OF THIS SEAT. 8 by the template 'for every input the law returns true; each argument reads behind the call as it read before'; 0 by the template 'total and deterministic' (their statements: YtamllimonjfmiaaTotals.lean).
  GIVEN WITH THE SEED: the statements are not yours to turn. If you find one false, say at which input.
  Laid BY PROGRAM, IN A SANDBOX (cutbox-rows.mjs): the forced cells as the released guide's own fill.sh prints them over the translation 5a457b0c6f08585b… (all of the seat's roots in one cut). By AI agents, Wed Nov 11 2026. No macro, syntax, notation, axiom, sorry.
-/
import Derived.Test.YtamllimonjfmiaaChecked
import GoSem.Claim
import GoSem.ClaimJoined
import GoSem.ClaimMapViews
import Derived.JoinedTies
import Derived.KernelRfl
namespace Go.Proofs.Ytamllimonjfmiaa
/- THE CELL 'sum', in the pinned program and in every row, IS THE sha256 OF THE DUMP (.gsa) THAT YtamllimonjfmiaaProg.lean LOADS. Nothing in Lean hashes anything: it is a label: what it is worth is what the hold of that sum in a sandbox is worth. -/
noncomputable def Try.pinned : Pinned := { name := "ytamllimonjfmiaa", sum := "5a457b0c6f08585bb001564020c0d85847d79b75461422ef9cc04e8ca071209d", checked := Try.checked }
namespace Rows
def none {H : Type} : Left H := { results := [], args := [] }

/-- 'vouchlaw10.GasBacks': WHATEVER THE INPUT: true; the input reads as it did. -/
def gasBacksSpec : ChangeSpec := { name := "gasBacks", fn := fun _ => fun
  | [d1, d2, d3] => { results := [.lit (.bool true)], args := [d1, d2, d3] }
  | _ => none }
def gasBacksRow : OpenClaim := { program := "ytamllimonjfmiaa", sum := "5a457b0c6f08585bb001564020c0d85847d79b75461422ef9cc04e8ca071209d", func := "vouch/vouchlaw10.GasBacks", spec := "gasBacks", apart := false }
def GasBacksSaid : Prop := gasBacksRow.holds Try.pinned (OpenSpec.ofChange gasBacksSpec)

/-- ITS FALSE NEIGHBOUR: 'it returns false'. Refute it at one input. -/
def gasBacksWrong : ChangeSpec := { name := "gasBacks", fn := fun _ => fun
  | [d1, d2, d3] => { results := [.lit (.bool false)], args := [d1, d2, d3] }
  | _ => none }
def GasBacksWrongFalsely : Prop := gasBacksRow.holds Try.pinned (OpenSpec.ofChange gasBacksWrong)

/-- 'vouchlaw10.GasPasses': WHATEVER THE INPUT: true; the input reads as it did. -/
def gasPassesSpec : ChangeSpec := { name := "gasPasses", fn := fun _ => fun
  | [d] => { results := [.lit (.bool true)], args := [d] }
  | _ => none }
def gasPassesRow : OpenClaim := { program := "ytamllimonjfmiaa", sum := "5a457b0c6f08585bb001564020c0d85847d79b75461422ef9cc04e8ca071209d", func := "vouch/vouchlaw10.GasPasses", spec := "gasPasses", apart := false }
def GasPassesSaid : Prop := gasPassesRow.holds Try.pinned (OpenSpec.ofChange gasPassesSpec)

/-- ITS FALSE NEIGHBOUR: 'it returns false'. Refute it at one input. -/
def gasPassesWrong : ChangeSpec := { name := "gasPasses", fn := fun _ => fun
  | [d] => { results := [.lit (.bool false)], args := [d] }
  | _ => none }
def GasPassesWrongFalsely : Prop := gasPassesRow.holds Try.pinned (OpenSpec.ofChange gasPassesWrong)

/-- 'vouchlaw10.GasSizes': WHATEVER THE INPUT: true; the input reads as it did. -/
def gasSizesSpec : ChangeSpec := { name := "gasSizes", fn := fun _ => fun
  | [d] => { results := [.lit (.bool true)], args := [d] }
  | _ => none }
def gasSizesRow : OpenClaim := { program := "ytamllimonjfmiaa", sum := "5a457b0c6f08585bb001564020c0d85847d79b75461422ef9cc04e8ca071209d", func := "vouch/vouchlaw10.GasSizes", spec := "gasSizes", apart := false }
def GasSizesSaid : Prop := gasSizesRow.holds Try.pinned (OpenSpec.ofChange gasSizesSpec)

/-- ITS FALSE NEIGHBOUR: 'it returns false'. Refute it at one input. -/
def gasSizesWrong : ChangeSpec := { name := "gasSizes", fn := fun _ => fun
  | [d] => { results := [.lit (.bool false)], args := [d] }
  | _ => none }
def GasSizesWrongFalsely : Prop := gasSizesRow.holds Try.pinned (OpenSpec.ofChange gasSizesWrong)

/-- 'vouchlaw10.GasWhole': WHATEVER THE INPUT: true; the input reads as it did. -/
def gasWholeSpec : ChangeSpec := { name := "gasWhole", fn := fun _ => fun
  | [d1, d2] => { results := [.lit (.bool true)], args := [d1, d2] }
  | _ => none }
def gasWholeRow : OpenClaim := { program := "ytamllimonjfmiaa", sum := "5a457b0c6f08585bb001564020c0d85847d79b75461422ef9cc04e8ca071209d", func := "vouch/vouchlaw10.GasWhole", spec := "gasWhole", apart := false }
def GasWholeSaid : Prop := gasWholeRow.holds Try.pinned (OpenSpec.ofChange gasWholeSpec)

/-- ITS FALSE NEIGHBOUR: 'it returns false'. Refute it at one input. -/
def gasWholeWrong : ChangeSpec := { name := "gasWhole", fn := fun _ => fun
  | [d1, d2] => { results := [.lit (.bool false)], args := [d1, d2] }
  | _ => none }
def GasWholeWrongFalsely : Prop := gasWholeRow.holds Try.pinned (OpenSpec.ofChange gasWholeWrong)

/-- 'vouchlaw10.GasBounds': WHATEVER THE INPUT: true; the input reads as it did. -/
def gasBoundsSpec : ChangeSpec := { name := "gasBounds", fn := fun _ => fun
  | [d1, d2, d3, d4, d5] => { results := [.lit (.bool true)], args := [d1, d2, d3, d4, d5] }
  | _ => none }
def gasBoundsRow : OpenClaim := { program := "ytamllimonjfmiaa", sum := "5a457b0c6f08585bb001564020c0d85847d79b75461422ef9cc04e8ca071209d", func := "vouch/vouchlaw10.GasBounds", spec := "gasBounds", apart := false }
def GasBoundsSaid : Prop := gasBoundsRow.holds Try.pinned (OpenSpec.ofChange gasBoundsSpec)

/-- ITS FALSE NEIGHBOUR: 'it returns false'. Refute it at one input. -/
def gasBoundsWrong : ChangeSpec := { name := "gasBounds", fn := fun _ => fun
  | [d1, d2, d3, d4, d5] => { results := [.lit (.bool false)], args := [d1, d2, d3, d4, d5] }
  | _ => none }
def GasBoundsWrongFalsely : Prop := gasBoundsRow.holds Try.pinned (OpenSpec.ofChange gasBoundsWrong)

/-- 'vouchlaw10.GasExps': WHATEVER THE INPUT: true; the input reads as it did. -/
def gasExpsSpec : ChangeSpec := { name := "gasExps", fn := fun _ => fun
  | [d] => { results := [.lit (.bool true)], args := [d] }
  | _ => none }
def gasExpsRow : OpenClaim := { program := "ytamllimonjfmiaa", sum := "5a457b0c6f08585bb001564020c0d85847d79b75461422ef9cc04e8ca071209d", func := "vouch/vouchlaw10.GasExps", spec := "gasExps", apart := false }
def GasExpsSaid : Prop := gasExpsRow.holds Try.pinned (OpenSpec.ofChange gasExpsSpec)

/-- ITS FALSE NEIGHBOUR: 'it returns false'. Refute it at one input. -/
def gasExpsWrong : ChangeSpec := { name := "gasExps", fn := fun _ => fun
  | [d] => { results := [.lit (.bool false)], args := [d] }
  | _ => none }
def GasExpsWrongFalsely : Prop := gasExpsRow.holds Try.pinned (OpenSpec.ofChange gasExpsWrong)

/-- 'vouchlaw10.GasStores': WHATEVER THE INPUT: true; the input reads as it did. -/
def gasStoresSpec : ChangeSpec := { name := "gasStores", fn := fun _ => fun
  | [d1, d2, d3] => { results := [.lit (.bool true)], args := [d1, d2, d3] }
  | _ => none }
def gasStoresRow : OpenClaim := { program := "ytamllimonjfmiaa", sum := "5a457b0c6f08585bb001564020c0d85847d79b75461422ef9cc04e8ca071209d", func := "vouch/vouchlaw10.GasStores", spec := "gasStores", apart := false }
def GasStoresSaid : Prop := gasStoresRow.holds Try.pinned (OpenSpec.ofChange gasStoresSpec)

/-- ITS FALSE NEIGHBOUR: 'it returns false'. Refute it at one input. -/
def gasStoresWrong : ChangeSpec := { name := "gasStores", fn := fun _ => fun
  | [d1, d2, d3] => { results := [.lit (.bool false)], args := [d1, d2, d3] }
  | _ => none }
def GasStoresWrongFalsely : Prop := gasStoresRow.holds Try.pinned (OpenSpec.ofChange gasStoresWrong)

/-- 'vouchlaw10.GasRows': WHATEVER THE INPUT: true; the input reads as it did. -/
def gasRowsSpec : ChangeSpec := { name := "gasRows", fn := fun _ => fun
  | [d1, d2] => { results := [.lit (.bool true)], args := [d1, d2] }
  | _ => none }
def gasRowsRow : OpenClaim := { program := "ytamllimonjfmiaa", sum := "5a457b0c6f08585bb001564020c0d85847d79b75461422ef9cc04e8ca071209d", func := "vouch/vouchlaw10.GasRows", spec := "gasRows", apart := false }
def GasRowsSaid : Prop := gasRowsRow.holds Try.pinned (OpenSpec.ofChange gasRowsSpec)

/-- ITS FALSE NEIGHBOUR: 'it returns false'. Refute it at one input. -/
def gasRowsWrong : ChangeSpec := { name := "gasRows", fn := fun _ => fun
  | [d1, d2] => { results := [.lit (.bool false)], args := [d1, d2] }
  | _ => none }
def GasRowsWrongFalsely : Prop := gasRowsRow.holds Try.pinned (OpenSpec.ofChange gasRowsWrong)

/- THE SECOND FORM. 'bulk': how many values and letters a reading holds, each counted each time it is reached (what is shared counts as often as it is met; a slice's spare places count too). A statement '..UptoSaid' is the law's where the arguments, and the package variables that the reading takes, are together of bulk at most 1048576: NARROWER than '..Said'. Prove '..Said' where nothing that the law and all that it calls make is longer than what came in: it says more and counts as full. Else prove '..UptoSaid'. A law counts once. -/
mutual
def uptoBulk {H : Type} : DataW H → Nat
  | .lit (.string bytes) => bytes.length + 1
  | .lit _ => 1
  | .nil => 1
  | .ptr d => uptoBulk d + 1
  | .slice elems spare => uptoBulkAll elems + uptoBulkAll spare + 1
  | .agg parts => uptoBulkAll parts + 1
  | .iface _ d => uptoBulk d + 1
  | .map entries => uptoBulkEntries entries + 1
  | .held _ => 1
def uptoBulkAll {H : Type} : List (DataW H) → Nat
  | [] => 0
  | d :: r => uptoBulk d + uptoBulkAll r
def uptoBulkEntries {H : Type} : List (Lit × DataW H) → Nat
  | [] => 0
  | x :: r => uptoBulkEntry x + uptoBulkEntries r
def uptoBulkEntry {H : Type} : Lit × DataW H → Nat
  | (.string bytes, d) => bytes.length + uptoBulk d + 1
  | (_, d) => uptoBulk d + 1
 end
def uptoSmall : (H : Type) → List (DataW H) → Bool := fun _ ds => decide (uptoBulkAll ds ≤ 1048576)
def OpenSpec.upto (s : _root_.Go.ChangeSpec) : _root_.Go.OpenSpec := { _root_.Go.OpenSpec.ofChange s with cond := some uptoSmall }

/-- 'vouchlaw10.GasBacks', WHERE WHAT IT READS IS OF BULK AT MOST 1048576: true; the input reads as it did. -/
def gasBacksUptoRow : OpenClaim := { program := "ytamllimonjfmiaa", sum := "5a457b0c6f08585bb001564020c0d85847d79b75461422ef9cc04e8ca071209d", func := "vouch/vouchlaw10.GasBacks", spec := "gasBacks", apart := false, narrowed := true }
def GasBacksUptoSaid : Prop := gasBacksUptoRow.holds Try.pinned (OpenSpec.upto gasBacksSpec)

/-- 'vouchlaw10.GasPasses', WHERE WHAT IT READS IS OF BULK AT MOST 1048576: true; the input reads as it did. -/
def gasPassesUptoRow : OpenClaim := { program := "ytamllimonjfmiaa", sum := "5a457b0c6f08585bb001564020c0d85847d79b75461422ef9cc04e8ca071209d", func := "vouch/vouchlaw10.GasPasses", spec := "gasPasses", apart := false, narrowed := true }
def GasPassesUptoSaid : Prop := gasPassesUptoRow.holds Try.pinned (OpenSpec.upto gasPassesSpec)

/-- 'vouchlaw10.GasSizes', WHERE WHAT IT READS IS OF BULK AT MOST 1048576: true; the input reads as it did. -/
def gasSizesUptoRow : OpenClaim := { program := "ytamllimonjfmiaa", sum := "5a457b0c6f08585bb001564020c0d85847d79b75461422ef9cc04e8ca071209d", func := "vouch/vouchlaw10.GasSizes", spec := "gasSizes", apart := false, narrowed := true }
def GasSizesUptoSaid : Prop := gasSizesUptoRow.holds Try.pinned (OpenSpec.upto gasSizesSpec)

/-- 'vouchlaw10.GasWhole', WHERE WHAT IT READS IS OF BULK AT MOST 1048576: true; the input reads as it did. -/
def gasWholeUptoRow : OpenClaim := { program := "ytamllimonjfmiaa", sum := "5a457b0c6f08585bb001564020c0d85847d79b75461422ef9cc04e8ca071209d", func := "vouch/vouchlaw10.GasWhole", spec := "gasWhole", apart := false, narrowed := true }
def GasWholeUptoSaid : Prop := gasWholeUptoRow.holds Try.pinned (OpenSpec.upto gasWholeSpec)

/-- 'vouchlaw10.GasBounds', WHERE WHAT IT READS IS OF BULK AT MOST 1048576: true; the input reads as it did. -/
def gasBoundsUptoRow : OpenClaim := { program := "ytamllimonjfmiaa", sum := "5a457b0c6f08585bb001564020c0d85847d79b75461422ef9cc04e8ca071209d", func := "vouch/vouchlaw10.GasBounds", spec := "gasBounds", apart := false, narrowed := true }
def GasBoundsUptoSaid : Prop := gasBoundsUptoRow.holds Try.pinned (OpenSpec.upto gasBoundsSpec)

/-- 'vouchlaw10.GasExps', WHERE WHAT IT READS IS OF BULK AT MOST 1048576: true; the input reads as it did. -/
def gasExpsUptoRow : OpenClaim := { program := "ytamllimonjfmiaa", sum := "5a457b0c6f08585bb001564020c0d85847d79b75461422ef9cc04e8ca071209d", func := "vouch/vouchlaw10.GasExps", spec := "gasExps", apart := false, narrowed := true }
def GasExpsUptoSaid : Prop := gasExpsUptoRow.holds Try.pinned (OpenSpec.upto gasExpsSpec)

/-- 'vouchlaw10.GasStores', WHERE WHAT IT READS IS OF BULK AT MOST 1048576: true; the input reads as it did. -/
def gasStoresUptoRow : OpenClaim := { program := "ytamllimonjfmiaa", sum := "5a457b0c6f08585bb001564020c0d85847d79b75461422ef9cc04e8ca071209d", func := "vouch/vouchlaw10.GasStores", spec := "gasStores", apart := false, narrowed := true }
def GasStoresUptoSaid : Prop := gasStoresUptoRow.holds Try.pinned (OpenSpec.upto gasStoresSpec)

/-- 'vouchlaw10.GasRows', WHERE WHAT IT READS IS OF BULK AT MOST 1048576: true; the input reads as it did. -/
def gasRowsUptoRow : OpenClaim := { program := "ytamllimonjfmiaa", sum := "5a457b0c6f08585bb001564020c0d85847d79b75461422ef9cc04e8ca071209d", func := "vouch/vouchlaw10.GasRows", spec := "gasRows", apart := false, narrowed := true }
def GasRowsUptoSaid : Prop := gasRowsUptoRow.holds Try.pinned (OpenSpec.upto gasRowsSpec)

end Rows
end Go.Proofs.Ytamllimonjfmiaa
