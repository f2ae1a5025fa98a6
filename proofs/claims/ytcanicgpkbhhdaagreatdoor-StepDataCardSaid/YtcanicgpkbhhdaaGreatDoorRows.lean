/-
  NARROWER THAN 'FOR EVERY INPUT', by the rows' own cells (each row's printed sentence says how): StepReckons: laid · StepRows: laid · StepFacts: laid · StepHashes: laid · StepData: laid.
  DERIVED. THE GIVEN ROWS OF THIS SEAT. 5 by the template 'for every input the law returns true; each argument reads behind the call as it read before'; 0 by the template 'total and deterministic' (their statements: YtcanicgpkbhhdaaGreatDoorTotals.lean).
  GIVEN WITH THE SEED: the statements are not yours to turn. If you find one false, say at which input.
  Laid BY PROGRAM, IN A SANDBOX (cutbox-rows.mjs): the forced cells as the released guide's own fill.sh prints them over the translation 4bb4742fdd3bc71f… (all of the seat's roots in one cut). By AI agents, Wed Nov 11 2026. No macro, syntax, notation, axiom, sorry.
-/
import Derived.Test.YtcanicgpkbhhdaaGreatDoorChecked
import GoSem.Claim
import GoSem.ClaimJoined
import GoSem.ClaimMapViews
import Derived.JoinedTies
import Derived.KernelRfl
namespace Go.Proofs.YtcanicgpkbhhdaaGreatDoor
/- THE CELL 'sum', in the pinned program and in every row, IS THE sha256 OF THE DUMP (.gsa) THAT YtcanicgpkbhhdaaGreatDoorProg.lean LOADS. Nothing in Lean hashes anything: it is a label: what it is worth is what the hold of that sum in a sandbox is worth. -/
noncomputable def Tryz.pinned : Pinned := { name := "ytcanicgpkbhhdaagreatdoor", sum := "4bb4742fdd3bc71fc026d0ae6c7d6e0e8d69d945f8fe56147c8f2584656398f2", checked := Tryz.checked }
namespace Rows
def none {H : Type} : Left H := { results := [], args := [] }

/- WHAT THE LISTED PACKAGE-LEVEL VARIABLES READ AS WHEN THE CALL BEGINS. Each datum BY PROGRAM (the guide's laid-datum.mjs) off the statement by which the dump's own 'gosem.cut.vars' lays the variable. In a bare row this is a premise. The card (YtcanicgpkbhhdaaGreatDoorCards.lean) ties it to the program's text. -/
def laid_math_bits_deBruijn32tab {H : Type} : DataW H := .agg [.lit (.int .u8 0), .lit (.int .u8 1), .lit (.int .u8 28), .lit (.int .u8 2), .lit (.int .u8 29), .lit (.int .u8 14), .lit (.int .u8 24), .lit (.int .u8 3), .lit (.int .u8 30), .lit (.int .u8 22), .lit (.int .u8 20), .lit (.int .u8 15), .lit (.int .u8 25), .lit (.int .u8 17), .lit (.int .u8 4), .lit (.int .u8 8), .lit (.int .u8 31), .lit (.int .u8 27), .lit (.int .u8 13), .lit (.int .u8 23), .lit (.int .u8 21), .lit (.int .u8 19), .lit (.int .u8 16), .lit (.int .u8 7), .lit (.int .u8 26), .lit (.int .u8 12), .lit (.int .u8 18), .lit (.int .u8 6), .lit (.int .u8 11), .lit (.int .u8 5), .lit (.int .u8 10), .lit (.int .u8 9)]
def laid_math_bits_deBruijn64tab {H : Type} : DataW H := .agg [.lit (.int .u8 0), .lit (.int .u8 1), .lit (.int .u8 56), .lit (.int .u8 2), .lit (.int .u8 57), .lit (.int .u8 49), .lit (.int .u8 28), .lit (.int .u8 3), .lit (.int .u8 61), .lit (.int .u8 58), .lit (.int .u8 42), .lit (.int .u8 50), .lit (.int .u8 38), .lit (.int .u8 29), .lit (.int .u8 17), .lit (.int .u8 4), .lit (.int .u8 62), .lit (.int .u8 47), .lit (.int .u8 59), .lit (.int .u8 36), .lit (.int .u8 45), .lit (.int .u8 43), .lit (.int .u8 51), .lit (.int .u8 22), .lit (.int .u8 53), .lit (.int .u8 39), .lit (.int .u8 33), .lit (.int .u8 30), .lit (.int .u8 24), .lit (.int .u8 18), .lit (.int .u8 12), .lit (.int .u8 5), .lit (.int .u8 63), .lit (.int .u8 55), .lit (.int .u8 48), .lit (.int .u8 27), .lit (.int .u8 60), .lit (.int .u8 41), .lit (.int .u8 37), .lit (.int .u8 16), .lit (.int .u8 46), .lit (.int .u8 35), .lit (.int .u8 44), .lit (.int .u8 21), .lit (.int .u8 52), .lit (.int .u8 32), .lit (.int .u8 23), .lit (.int .u8 11), .lit (.int .u8 54), .lit (.int .u8 26), .lit (.int .u8 40), .lit (.int .u8 15), .lit (.int .u8 34), .lit (.int .u8 20), .lit (.int .u8 31), .lit (.int .u8 10), .lit (.int .u8 25), .lit (.int .u8 14), .lit (.int .u8 19), .lit (.int .u8 9), .lit (.int .u8 13), .lit (.int .u8 8), .lit (.int .u8 7), .lit (.int .u8 6)]
def laid_internal_strconv_uint64pow10 {H : Type} : DataW H := .agg [.lit (.int .u64 1), .lit (.int .u64 10), .lit (.int .u64 100), .lit (.int .u64 1000), .lit (.int .u64 10000), .lit (.int .u64 100000), .lit (.int .u64 1000000), .lit (.int .u64 10000000), .lit (.int .u64 100000000), .lit (.int .u64 1000000000), .lit (.int .u64 10000000000), .lit (.int .u64 100000000000), .lit (.int .u64 1000000000000), .lit (.int .u64 10000000000000), .lit (.int .u64 100000000000000), .lit (.int .u64 1000000000000000), .lit (.int .u64 10000000000000000), .lit (.int .u64 100000000000000000), .lit (.int .u64 1000000000000000000), .lit (.int .u64 10000000000000000000)]
def laid_vouch_sponge_turns {H : Type} : DataW H := .agg [.lit (.int .i64 0), .lit (.int .i64 1), .lit (.int .i64 62), .lit (.int .i64 28), .lit (.int .i64 27), .lit (.int .i64 36), .lit (.int .i64 44), .lit (.int .i64 6), .lit (.int .i64 55), .lit (.int .i64 20), .lit (.int .i64 3), .lit (.int .i64 10), .lit (.int .i64 43), .lit (.int .i64 25), .lit (.int .i64 39), .lit (.int .i64 41), .lit (.int .i64 45), .lit (.int .i64 15), .lit (.int .i64 21), .lit (.int .i64 8), .lit (.int .i64 18), .lit (.int .i64 2), .lit (.int .i64 61), .lit (.int .i64 56), .lit (.int .i64 14)]
def laid_vouch_sponge_marks {H : Type} : DataW H := .agg [.lit (.int .u64 1), .lit (.int .u64 32898), .lit (.int .u64 9223372036854808714), .lit (.int .u64 9223372039002292224), .lit (.int .u64 32907), .lit (.int .u64 2147483649), .lit (.int .u64 9223372039002292353), .lit (.int .u64 9223372036854808585), .lit (.int .u64 138), .lit (.int .u64 136), .lit (.int .u64 2147516425), .lit (.int .u64 2147483658), .lit (.int .u64 2147516555), .lit (.int .u64 9223372036854775947), .lit (.int .u64 9223372036854808713), .lit (.int .u64 9223372036854808579), .lit (.int .u64 9223372036854808578), .lit (.int .u64 9223372036854775936), .lit (.int .u64 32778), .lit (.int .u64 9223372039002259466), .lit (.int .u64 9223372039002292353), .lit (.int .u64 9223372036854808704), .lit (.int .u64 2147483649), .lit (.int .u64 9223372039002292232)]

/-- 'vouchlaw12.StepReckons': WHATEVER THE INPUT: true; the input reads as it did. -/
def stepReckonsSpec : ChangeSpec := { name := "stepReckons", fn := fun _ => fun
  | [d1, d2, d3, d4] => { results := [.lit (.bool true)], args := [d1, d2, d3, d4] }
  | _ => none }
def stepReckonsRow : OpenClaim := { program := "ytcanicgpkbhhdaagreatdoor", sum := "4bb4742fdd3bc71fc026d0ae6c7d6e0e8d69d945f8fe56147c8f2584656398f2", func := "vouch/vouchlaw12.StepReckons", spec := "stepReckons", inPlace := ["internal/bytealg.Compare", "math/bits.Sub64", "math/bits.Add64"], unfollowed := true, recurses := true, named := ["internal/strconv.uint64pow10", "math/bits.deBruijn32tab", "math/bits.deBruijn64tab", "vouch/sponge.marks", "vouch/sponge.turns"], plainKeys := false, apart := false, laid := [("math/bits.deBruijn32tab", laid_math_bits_deBruijn32tab), ("math/bits.deBruijn64tab", laid_math_bits_deBruijn64tab), ("internal/strconv.uint64pow10", laid_internal_strconv_uint64pow10), ("vouch/sponge.turns", laid_vouch_sponge_turns), ("vouch/sponge.marks", laid_vouch_sponge_marks)] }
def StepReckonsSaid : Prop := stepReckonsRow.holds Tryz.pinned (OpenSpec.ofChange stepReckonsSpec)

/-- ITS FALSE NEIGHBOUR: 'it returns false'. Refute it at one input. -/
def stepReckonsWrong : ChangeSpec := { name := "stepReckons", fn := fun _ => fun
  | [d1, d2, d3, d4] => { results := [.lit (.bool false)], args := [d1, d2, d3, d4] }
  | _ => none }
def StepReckonsWrongFalsely : Prop := stepReckonsRow.holds Tryz.pinned (OpenSpec.ofChange stepReckonsWrong)

/-- 'vouchlaw12.StepRows': WHATEVER THE INPUT: true; the input reads as it did. -/
def stepRowsSpec : ChangeSpec := { name := "stepRows", fn := fun _ => fun
  | [d1, d2, d3] => { results := [.lit (.bool true)], args := [d1, d2, d3] }
  | _ => none }
def stepRowsRow : OpenClaim := { program := "ytcanicgpkbhhdaagreatdoor", sum := "4bb4742fdd3bc71fc026d0ae6c7d6e0e8d69d945f8fe56147c8f2584656398f2", func := "vouch/vouchlaw12.StepRows", spec := "stepRows", inPlace := ["internal/bytealg.Compare", "math/bits.Sub64", "math/bits.Add64"], unfollowed := true, recurses := true, named := ["internal/strconv.uint64pow10", "math/bits.deBruijn32tab", "math/bits.deBruijn64tab", "vouch/sponge.marks", "vouch/sponge.turns"], plainKeys := false, apart := false, laid := [("math/bits.deBruijn32tab", laid_math_bits_deBruijn32tab), ("math/bits.deBruijn64tab", laid_math_bits_deBruijn64tab), ("internal/strconv.uint64pow10", laid_internal_strconv_uint64pow10), ("vouch/sponge.turns", laid_vouch_sponge_turns), ("vouch/sponge.marks", laid_vouch_sponge_marks)] }
def StepRowsSaid : Prop := stepRowsRow.holds Tryz.pinned (OpenSpec.ofChange stepRowsSpec)

/-- ITS FALSE NEIGHBOUR: 'it returns false'. Refute it at one input. -/
def stepRowsWrong : ChangeSpec := { name := "stepRows", fn := fun _ => fun
  | [d1, d2, d3] => { results := [.lit (.bool false)], args := [d1, d2, d3] }
  | _ => none }
def StepRowsWrongFalsely : Prop := stepRowsRow.holds Tryz.pinned (OpenSpec.ofChange stepRowsWrong)

/-- 'vouchlaw12.StepFacts': WHATEVER THE INPUT: true; the input reads as it did. -/
def stepFactsSpec : ChangeSpec := { name := "stepFacts", fn := fun _ => fun
  | [d] => { results := [.lit (.bool true)], args := [d] }
  | _ => none }
def stepFactsRow : OpenClaim := { program := "ytcanicgpkbhhdaagreatdoor", sum := "4bb4742fdd3bc71fc026d0ae6c7d6e0e8d69d945f8fe56147c8f2584656398f2", func := "vouch/vouchlaw12.StepFacts", spec := "stepFacts", inPlace := ["internal/bytealg.Compare", "math/bits.Sub64", "math/bits.Add64"], unfollowed := true, recurses := true, named := ["internal/strconv.uint64pow10", "math/bits.deBruijn32tab", "math/bits.deBruijn64tab", "vouch/sponge.marks", "vouch/sponge.turns"], plainKeys := false, apart := false, laid := [("math/bits.deBruijn32tab", laid_math_bits_deBruijn32tab), ("math/bits.deBruijn64tab", laid_math_bits_deBruijn64tab), ("internal/strconv.uint64pow10", laid_internal_strconv_uint64pow10), ("vouch/sponge.turns", laid_vouch_sponge_turns), ("vouch/sponge.marks", laid_vouch_sponge_marks)] }
def StepFactsSaid : Prop := stepFactsRow.holds Tryz.pinned (OpenSpec.ofChange stepFactsSpec)

/-- ITS FALSE NEIGHBOUR: 'it returns false'. Refute it at one input. -/
def stepFactsWrong : ChangeSpec := { name := "stepFacts", fn := fun _ => fun
  | [d] => { results := [.lit (.bool false)], args := [d] }
  | _ => none }
def StepFactsWrongFalsely : Prop := stepFactsRow.holds Tryz.pinned (OpenSpec.ofChange stepFactsWrong)

/-- 'vouchlaw12.StepHashes': WHATEVER THE INPUT: true; the input reads as it did. -/
def stepHashesSpec : ChangeSpec := { name := "stepHashes", fn := fun _ => fun
  | [d1, d2, d3, d4] => { results := [.lit (.bool true)], args := [d1, d2, d3, d4] }
  | _ => none }
def stepHashesRow : OpenClaim := { program := "ytcanicgpkbhhdaagreatdoor", sum := "4bb4742fdd3bc71fc026d0ae6c7d6e0e8d69d945f8fe56147c8f2584656398f2", func := "vouch/vouchlaw12.StepHashes", spec := "stepHashes", inPlace := ["internal/bytealg.Compare", "math/bits.Sub64", "math/bits.Add64"], unfollowed := true, recurses := true, named := ["internal/strconv.uint64pow10", "math/bits.deBruijn32tab", "math/bits.deBruijn64tab", "vouch/sponge.marks", "vouch/sponge.turns"], plainKeys := false, apart := false, laid := [("math/bits.deBruijn32tab", laid_math_bits_deBruijn32tab), ("math/bits.deBruijn64tab", laid_math_bits_deBruijn64tab), ("internal/strconv.uint64pow10", laid_internal_strconv_uint64pow10), ("vouch/sponge.turns", laid_vouch_sponge_turns), ("vouch/sponge.marks", laid_vouch_sponge_marks)] }
def StepHashesSaid : Prop := stepHashesRow.holds Tryz.pinned (OpenSpec.ofChange stepHashesSpec)

/-- ITS FALSE NEIGHBOUR: 'it returns false'. Refute it at one input. -/
def stepHashesWrong : ChangeSpec := { name := "stepHashes", fn := fun _ => fun
  | [d1, d2, d3, d4] => { results := [.lit (.bool false)], args := [d1, d2, d3, d4] }
  | _ => none }
def StepHashesWrongFalsely : Prop := stepHashesRow.holds Tryz.pinned (OpenSpec.ofChange stepHashesWrong)

/-- 'vouchlaw12.StepData': WHATEVER THE INPUT: true; the input reads as it did. -/
def stepDataSpec : ChangeSpec := { name := "stepData", fn := fun _ => fun
  | [d1, d2, d3] => { results := [.lit (.bool true)], args := [d1, d2, d3] }
  | _ => none }
def stepDataRow : OpenClaim := { program := "ytcanicgpkbhhdaagreatdoor", sum := "4bb4742fdd3bc71fc026d0ae6c7d6e0e8d69d945f8fe56147c8f2584656398f2", func := "vouch/vouchlaw12.StepData", spec := "stepData", inPlace := ["internal/bytealg.Compare", "math/bits.Sub64", "math/bits.Add64"], unfollowed := true, recurses := true, named := ["internal/strconv.uint64pow10", "math/bits.deBruijn32tab", "math/bits.deBruijn64tab", "vouch/sponge.marks", "vouch/sponge.turns"], plainKeys := false, apart := false, laid := [("math/bits.deBruijn32tab", laid_math_bits_deBruijn32tab), ("math/bits.deBruijn64tab", laid_math_bits_deBruijn64tab), ("internal/strconv.uint64pow10", laid_internal_strconv_uint64pow10), ("vouch/sponge.turns", laid_vouch_sponge_turns), ("vouch/sponge.marks", laid_vouch_sponge_marks)] }
def StepDataSaid : Prop := stepDataRow.holds Tryz.pinned (OpenSpec.ofChange stepDataSpec)

/-- ITS FALSE NEIGHBOUR: 'it returns false'. Refute it at one input. -/
def stepDataWrong : ChangeSpec := { name := "stepData", fn := fun _ => fun
  | [d1, d2, d3] => { results := [.lit (.bool false)], args := [d1, d2, d3] }
  | _ => none }
def StepDataWrongFalsely : Prop := stepDataRow.holds Tryz.pinned (OpenSpec.ofChange stepDataWrong)

/- THE SECOND FORM. 'bulk': how many values and letters a reading holds, each counted each time it is reached (what is shared counts as often as it is met; a slice's spare places count too). A statement '..UptoSaid' is the law's where the arguments, and the package variables that the reading takes, are together of bulk at most 1048576: NARROWER than '..Said'. Prove '..Said' where nothing that the law and all that it calls make is longer than what came in: it says more and counts as full. Else prove '..UptoSaid'. A law counts once. -/
mutual
def uptoBulk {H : Type} : DataW H → Nat
  | .lit (.string bytes) => bytes.length + 1
  | .lit _ => 1
  | .nil => 1
  | .ptr d => uptoBulk d + 1
  | .slice elems spare => uptoBulkAll elems + uptoBulkAll spare + 1
  | .agg parts => uptoBulkAll parts + 1
  | .iface _ d => uptoBulk d + 1
  | .map entries => uptoBulkEntries entries + 1
  | .held _ => 1
def uptoBulkAll {H : Type} : List (DataW H) → Nat
  | [] => 0
  | d :: r => uptoBulk d + uptoBulkAll r
def uptoBulkEntries {H : Type} : List (Lit × DataW H) → Nat
  | [] => 0
  | x :: r => uptoBulkEntry x + uptoBulkEntries r
def uptoBulkEntry {H : Type} : Lit × DataW H → Nat
  | (.string bytes, d) => bytes.length + uptoBulk d + 1
  | (_, d) => uptoBulk d + 1
 end
def uptoSmall : (H : Type) → List (DataW H) → Bool := fun _ ds => decide (uptoBulkAll ds ≤ 1048576)
def OpenSpec.upto (s : _root_.Go.ChangeSpec) : _root_.Go.OpenSpec := { _root_.Go.OpenSpec.ofChange s with cond := some uptoSmall }

/-- 'vouchlaw12.StepReckons', WHERE WHAT IT READS IS OF BULK AT MOST 1048576: true; the input reads as it did. -/
def stepReckonsUptoRow : OpenClaim := { program := "ytcanicgpkbhhdaagreatdoor", sum := "4bb4742fdd3bc71fc026d0ae6c7d6e0e8d69d945f8fe56147c8f2584656398f2", func := "vouch/vouchlaw12.StepReckons", spec := "stepReckons", inPlace := ["internal/bytealg.Compare", "math/bits.Sub64", "math/bits.Add64"], unfollowed := true, recurses := true, named := ["internal/strconv.uint64pow10", "math/bits.deBruijn32tab", "math/bits.deBruijn64tab", "vouch/sponge.marks", "vouch/sponge.turns"], plainKeys := false, apart := false, laid := [("math/bits.deBruijn32tab", laid_math_bits_deBruijn32tab), ("math/bits.deBruijn64tab", laid_math_bits_deBruijn64tab), ("internal/strconv.uint64pow10", laid_internal_strconv_uint64pow10), ("vouch/sponge.turns", laid_vouch_sponge_turns), ("vouch/sponge.marks", laid_vouch_sponge_marks)], narrowed := true }
def StepReckonsUptoSaid : Prop := stepReckonsUptoRow.holds Tryz.pinned (OpenSpec.upto stepReckonsSpec)

/-- 'vouchlaw12.StepRows', WHERE WHAT IT READS IS OF BULK AT MOST 1048576: true; the input reads as it did. -/
def stepRowsUptoRow : OpenClaim := { program := "ytcanicgpkbhhdaagreatdoor", sum := "4bb4742fdd3bc71fc026d0ae6c7d6e0e8d69d945f8fe56147c8f2584656398f2", func := "vouch/vouchlaw12.StepRows", spec := "stepRows", inPlace := ["internal/bytealg.Compare", "math/bits.Sub64", "math/bits.Add64"], unfollowed := true, recurses := true, named := ["internal/strconv.uint64pow10", "math/bits.deBruijn32tab", "math/bits.deBruijn64tab", "vouch/sponge.marks", "vouch/sponge.turns"], plainKeys := false, apart := false, laid := [("math/bits.deBruijn32tab", laid_math_bits_deBruijn32tab), ("math/bits.deBruijn64tab", laid_math_bits_deBruijn64tab), ("internal/strconv.uint64pow10", laid_internal_strconv_uint64pow10), ("vouch/sponge.turns", laid_vouch_sponge_turns), ("vouch/sponge.marks", laid_vouch_sponge_marks)], narrowed := true }
def StepRowsUptoSaid : Prop := stepRowsUptoRow.holds Tryz.pinned (OpenSpec.upto stepRowsSpec)

/-- 'vouchlaw12.StepFacts', WHERE WHAT IT READS IS OF BULK AT MOST 1048576: true; the input reads as it did. -/
def stepFactsUptoRow : OpenClaim := { program := "ytcanicgpkbhhdaagreatdoor", sum := "4bb4742fdd3bc71fc026d0ae6c7d6e0e8d69d945f8fe56147c8f2584656398f2", func := "vouch/vouchlaw12.StepFacts", spec := "stepFacts", inPlace := ["internal/bytealg.Compare", "math/bits.Sub64", "math/bits.Add64"], unfollowed := true, recurses := true, named := ["internal/strconv.uint64pow10", "math/bits.deBruijn32tab", "math/bits.deBruijn64tab", "vouch/sponge.marks", "vouch/sponge.turns"], plainKeys := false, apart := false, laid := [("math/bits.deBruijn32tab", laid_math_bits_deBruijn32tab), ("math/bits.deBruijn64tab", laid_math_bits_deBruijn64tab), ("internal/strconv.uint64pow10", laid_internal_strconv_uint64pow10), ("vouch/sponge.turns", laid_vouch_sponge_turns), ("vouch/sponge.marks", laid_vouch_sponge_marks)], narrowed := true }
def StepFactsUptoSaid : Prop := stepFactsUptoRow.holds Tryz.pinned (OpenSpec.upto stepFactsSpec)

/-- 'vouchlaw12.StepHashes', WHERE WHAT IT READS IS OF BULK AT MOST 1048576: true; the input reads as it did. -/
def stepHashesUptoRow : OpenClaim := { program := "ytcanicgpkbhhdaagreatdoor", sum := "4bb4742fdd3bc71fc026d0ae6c7d6e0e8d69d945f8fe56147c8f2584656398f2", func := "vouch/vouchlaw12.StepHashes", spec := "stepHashes", inPlace := ["internal/bytealg.Compare", "math/bits.Sub64", "math/bits.Add64"], unfollowed := true, recurses := true, named := ["internal/strconv.uint64pow10", "math/bits.deBruijn32tab", "math/bits.deBruijn64tab", "vouch/sponge.marks", "vouch/sponge.turns"], plainKeys := false, apart := false, laid := [("math/bits.deBruijn32tab", laid_math_bits_deBruijn32tab), ("math/bits.deBruijn64tab", laid_math_bits_deBruijn64tab), ("internal/strconv.uint64pow10", laid_internal_strconv_uint64pow10), ("vouch/sponge.turns", laid_vouch_sponge_turns), ("vouch/sponge.marks", laid_vouch_sponge_marks)], narrowed := true }
def StepHashesUptoSaid : Prop := stepHashesUptoRow.holds Tryz.pinned (OpenSpec.upto stepHashesSpec)

/-- 'vouchlaw12.StepData', WHERE WHAT IT READS IS OF BULK AT MOST 1048576: true; the input reads as it did. -/
def stepDataUptoRow : OpenClaim := { program := "ytcanicgpkbhhdaagreatdoor", sum := "4bb4742fdd3bc71fc026d0ae6c7d6e0e8d69d945f8fe56147c8f2584656398f2", func := "vouch/vouchlaw12.StepData", spec := "stepData", inPlace := ["internal/bytealg.Compare", "math/bits.Sub64", "math/bits.Add64"], unfollowed := true, recurses := true, named := ["internal/strconv.uint64pow10", "math/bits.deBruijn32tab", "math/bits.deBruijn64tab", "vouch/sponge.marks", "vouch/sponge.turns"], plainKeys := false, apart := false, laid := [("math/bits.deBruijn32tab", laid_math_bits_deBruijn32tab), ("math/bits.deBruijn64tab", laid_math_bits_deBruijn64tab), ("internal/strconv.uint64pow10", laid_internal_strconv_uint64pow10), ("vouch/sponge.turns", laid_vouch_sponge_turns), ("vouch/sponge.marks", laid_vouch_sponge_marks)], narrowed := true }
def StepDataUptoSaid : Prop := stepDataUptoRow.holds Tryz.pinned (OpenSpec.upto stepDataSpec)

end Rows
end Go.Proofs.YtcanicgpkbhhdaaGreatDoor
