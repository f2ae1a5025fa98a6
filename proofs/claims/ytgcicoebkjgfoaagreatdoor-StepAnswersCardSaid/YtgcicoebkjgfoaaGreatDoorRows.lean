/-
  NARROWER THAN 'FOR EVERY INPUT', by the rows' own cells (each row's printed sentence says how): StepSentry: laid · StepNonces: laid · StepLight: laid · StepAnswers: laid.
  DERIVED. THE GIVEN ROWS OF THIS SEAT. 4 by the template 'for every input the law returns true; each argument reads behind the call as it read before'; 0 by the template 'total and deterministic' (their statements: YtgcicoebkjgfoaaGreatDoorTotals.lean).
  GIVEN WITH THE SEED: the statements are not yours to turn. If you find one false, say at which input.
  Laid BY PROGRAM, IN A SANDBOX (cutbox-rows.mjs): the forced cells as the released guide's own fill.sh prints them over the translation 5660de61856ae2f0… (all of the seat's roots in one cut). By AI agents, Wed Nov 11 2026. No macro, syntax, notation, axiom, sorry.
-/
import Derived.Test.YtgcicoebkjgfoaaGreatDoorChecked
import GoSem.Claim
import GoSem.ClaimJoined
import GoSem.ClaimMapViews
import Derived.JoinedTies
import Derived.KernelRfl
namespace Go.Proofs.YtgcicoebkjgfoaaGreatDoor
/- THE CELL 'sum', in the pinned program and in every row, IS THE sha256 OF THE DUMP (.gsa) THAT YtgcicoebkjgfoaaGreatDoorProg.lean LOADS. Nothing in Lean hashes anything: it is a label: what it is worth is what the hold of that sum in a sandbox is worth. -/
noncomputable def Tryz.pinned : Pinned := { name := "ytgcicoebkjgfoaagreatdoor", sum := "5660de61856ae2f097bbe00745b8c5230739d2525686d1bac891ea07125051ed", checked := Tryz.checked }
namespace Rows
def none {H : Type} : Left H := { results := [], args := [] }

/- WHAT THE LISTED PACKAGE-LEVEL VARIABLES READ AS WHEN THE CALL BEGINS. Each datum BY PROGRAM (the guide's laid-datum.mjs) off the statement by which the dump's own 'gosem.cut.vars' lays the variable. In a bare row this is a premise. The card (YtgcicoebkjgfoaaGreatDoorCards.lean) ties it to the program's text. -/
def laid_math_bits_deBruijn32tab {H : Type} : DataW H := .agg [.lit (.int .u8 0), .lit (.int .u8 1), .lit (.int .u8 28), .lit (.int .u8 2), .lit (.int .u8 29), .lit (.int .u8 14), .lit (.int .u8 24), .lit (.int .u8 3), .lit (.int .u8 30), .lit (.int .u8 22), .lit (.int .u8 20), .lit (.int .u8 15), .lit (.int .u8 25), .lit (.int .u8 17), .lit (.int .u8 4), .lit (.int .u8 8), .lit (.int .u8 31), .lit (.int .u8 27), .lit (.int .u8 13), .lit (.int .u8 23), .lit (.int .u8 21), .lit (.int .u8 19), .lit (.int .u8 16), .lit (.int .u8 7), .lit (.int .u8 26), .lit (.int .u8 12), .lit (.int .u8 18), .lit (.int .u8 6), .lit (.int .u8 11), .lit (.int .u8 5), .lit (.int .u8 10), .lit (.int .u8 9)]
def laid_math_bits_deBruijn64tab {H : Type} : DataW H := .agg [.lit (.int .u8 0), .lit (.int .u8 1), .lit (.int .u8 56), .lit (.int .u8 2), .lit (.int .u8 57), .lit (.int .u8 49), .lit (.int .u8 28), .lit (.int .u8 3), .lit (.int .u8 61), .lit (.int .u8 58), .lit (.int .u8 42), .lit (.int .u8 50), .lit (.int .u8 38), .lit (.int .u8 29), .lit (.int .u8 17), .lit (.int .u8 4), .lit (.int .u8 62), .lit (.int .u8 47), .lit (.int .u8 59), .lit (.int .u8 36), .lit (.int .u8 45), .lit (.int .u8 43), .lit (.int .u8 51), .lit (.int .u8 22), .lit (.int .u8 53), .lit (.int .u8 39), .lit (.int .u8 33), .lit (.int .u8 30), .lit (.int .u8 24), .lit (.int .u8 18), .lit (.int .u8 12), .lit (.int .u8 5), .lit (.int .u8 63), .lit (.int .u8 55), .lit (.int .u8 48), .lit (.int .u8 27), .lit (.int .u8 60), .lit (.int .u8 41), .lit (.int .u8 37), .lit (.int .u8 16), .lit (.int .u8 46), .lit (.int .u8 35), .lit (.int .u8 44), .lit (.int .u8 21), .lit (.int .u8 52), .lit (.int .u8 32), .lit (.int .u8 23), .lit (.int .u8 11), .lit (.int .u8 54), .lit (.int .u8 26), .lit (.int .u8 40), .lit (.int .u8 15), .lit (.int .u8 34), .lit (.int .u8 20), .lit (.int .u8 31), .lit (.int .u8 10), .lit (.int .u8 25), .lit (.int .u8 14), .lit (.int .u8 19), .lit (.int .u8 9), .lit (.int .u8 13), .lit (.int .u8 8), .lit (.int .u8 7), .lit (.int .u8 6)]
def laid_internal_strconv_uint64pow10 {H : Type} : DataW H := .agg [.lit (.int .u64 1), .lit (.int .u64 10), .lit (.int .u64 100), .lit (.int .u64 1000), .lit (.int .u64 10000), .lit (.int .u64 100000), .lit (.int .u64 1000000), .lit (.int .u64 10000000), .lit (.int .u64 100000000), .lit (.int .u64 1000000000), .lit (.int .u64 10000000000), .lit (.int .u64 100000000000), .lit (.int .u64 1000000000000), .lit (.int .u64 10000000000000), .lit (.int .u64 100000000000000), .lit (.int .u64 1000000000000000), .lit (.int .u64 10000000000000000), .lit (.int .u64 100000000000000000), .lit (.int .u64 1000000000000000000), .lit (.int .u64 10000000000000000000)]
def laid_vouch_sponge_turns {H : Type} : DataW H := .agg [.lit (.int .i64 0), .lit (.int .i64 1), .lit (.int .i64 62), .lit (.int .i64 28), .lit (.int .i64 27), .lit (.int .i64 36), .lit (.int .i64 44), .lit (.int .i64 6), .lit (.int .i64 55), .lit (.int .i64 20), .lit (.int .i64 3), .lit (.int .i64 10), .lit (.int .i64 43), .lit (.int .i64 25), .lit (.int .i64 39), .lit (.int .i64 41), .lit (.int .i64 45), .lit (.int .i64 15), .lit (.int .i64 21), .lit (.int .i64 8), .lit (.int .i64 18), .lit (.int .i64 2), .lit (.int .i64 61), .lit (.int .i64 56), .lit (.int .i64 14)]
def laid_vouch_sponge_marks {H : Type} : DataW H := .agg [.lit (.int .u64 1), .lit (.int .u64 32898), .lit (.int .u64 9223372036854808714), .lit (.int .u64 9223372039002292224), .lit (.int .u64 32907), .lit (.int .u64 2147483649), .lit (.int .u64 9223372039002292353), .lit (.int .u64 9223372036854808585), .lit (.int .u64 138), .lit (.int .u64 136), .lit (.int .u64 2147516425), .lit (.int .u64 2147483658), .lit (.int .u64 2147516555), .lit (.int .u64 9223372036854775947), .lit (.int .u64 9223372036854808713), .lit (.int .u64 9223372036854808579), .lit (.int .u64 9223372036854808578), .lit (.int .u64 9223372036854775936), .lit (.int .u64 32778), .lit (.int .u64 9223372039002259466), .lit (.int .u64 9223372039002292353), .lit (.int .u64 9223372036854808704), .lit (.int .u64 2147483649), .lit (.int .u64 9223372039002292232)]

/-- 'vouchlaw12.StepSentry': WHATEVER THE INPUT: true; the input reads as it did. -/
def stepSentrySpec : ChangeSpec := { name := "stepSentry", fn := fun _ => fun
  | [d] => { results := [.lit (.bool true)], args := [d] }
  | _ => none }
def stepSentryRow : OpenClaim := { program := "ytgcicoebkjgfoaagreatdoor", sum := "5660de61856ae2f097bbe00745b8c5230739d2525686d1bac891ea07125051ed", func := "vouch/vouchlaw12.StepSentry", spec := "stepSentry", inPlace := ["internal/bytealg.Compare", "math/bits.Sub64", "math/bits.Add64"], unfollowed := true, recurses := true, named := ["internal/strconv.uint64pow10", "math/bits.deBruijn32tab", "math/bits.deBruijn64tab", "vouch/sponge.marks", "vouch/sponge.turns"], plainKeys := false, apart := false, laid := [("math/bits.deBruijn32tab", laid_math_bits_deBruijn32tab), ("math/bits.deBruijn64tab", laid_math_bits_deBruijn64tab), ("internal/strconv.uint64pow10", laid_internal_strconv_uint64pow10), ("vouch/sponge.turns", laid_vouch_sponge_turns), ("vouch/sponge.marks", laid_vouch_sponge_marks)] }
def StepSentrySaid : Prop := stepSentryRow.holds Tryz.pinned (OpenSpec.ofChange stepSentrySpec)

/-- ITS FALSE NEIGHBOUR: 'it returns false'. Refute it at one input. -/
def stepSentryWrong : ChangeSpec := { name := "stepSentry", fn := fun _ => fun
  | [d] => { results := [.lit (.bool false)], args := [d] }
  | _ => none }
def StepSentryWrongFalsely : Prop := stepSentryRow.holds Tryz.pinned (OpenSpec.ofChange stepSentryWrong)

/-- 'vouchlaw12.StepNonces': WHATEVER THE INPUT: true; the input reads as it did. -/
def stepNoncesSpec : ChangeSpec := { name := "stepNonces", fn := fun _ => fun
  | [d] => { results := [.lit (.bool true)], args := [d] }
  | _ => none }
def stepNoncesRow : OpenClaim := { program := "ytgcicoebkjgfoaagreatdoor", sum := "5660de61856ae2f097bbe00745b8c5230739d2525686d1bac891ea07125051ed", func := "vouch/vouchlaw12.StepNonces", spec := "stepNonces", inPlace := ["internal/bytealg.Compare", "math/bits.Sub64", "math/bits.Add64"], unfollowed := true, recurses := true, named := ["internal/strconv.uint64pow10", "math/bits.deBruijn32tab", "math/bits.deBruijn64tab", "vouch/sponge.marks", "vouch/sponge.turns"], plainKeys := false, apart := false, laid := [("math/bits.deBruijn32tab", laid_math_bits_deBruijn32tab), ("math/bits.deBruijn64tab", laid_math_bits_deBruijn64tab), ("internal/strconv.uint64pow10", laid_internal_strconv_uint64pow10), ("vouch/sponge.turns", laid_vouch_sponge_turns), ("vouch/sponge.marks", laid_vouch_sponge_marks)] }
def StepNoncesSaid : Prop := stepNoncesRow.holds Tryz.pinned (OpenSpec.ofChange stepNoncesSpec)

/-- ITS FALSE NEIGHBOUR: 'it returns false'. Refute it at one input. -/
def stepNoncesWrong : ChangeSpec := { name := "stepNonces", fn := fun _ => fun
  | [d] => { results := [.lit (.bool false)], args := [d] }
  | _ => none }
def StepNoncesWrongFalsely : Prop := stepNoncesRow.holds Tryz.pinned (OpenSpec.ofChange stepNoncesWrong)

/-- 'vouchlaw12.StepLight': WHATEVER THE INPUT: true; the input reads as it did. -/
def stepLightSpec : ChangeSpec := { name := "stepLight", fn := fun _ => fun
  | [d1, d2, d3] => { results := [.lit (.bool true)], args := [d1, d2, d3] }
  | _ => none }
def stepLightRow : OpenClaim := { program := "ytgcicoebkjgfoaagreatdoor", sum := "5660de61856ae2f097bbe00745b8c5230739d2525686d1bac891ea07125051ed", func := "vouch/vouchlaw12.StepLight", spec := "stepLight", inPlace := ["internal/bytealg.Compare", "math/bits.Sub64", "math/bits.Add64"], unfollowed := true, recurses := true, named := ["internal/strconv.uint64pow10", "math/bits.deBruijn32tab", "math/bits.deBruijn64tab", "vouch/sponge.marks", "vouch/sponge.turns"], plainKeys := false, apart := false, laid := [("math/bits.deBruijn32tab", laid_math_bits_deBruijn32tab), ("math/bits.deBruijn64tab", laid_math_bits_deBruijn64tab), ("internal/strconv.uint64pow10", laid_internal_strconv_uint64pow10), ("vouch/sponge.turns", laid_vouch_sponge_turns), ("vouch/sponge.marks", laid_vouch_sponge_marks)] }
def StepLightSaid : Prop := stepLightRow.holds Tryz.pinned (OpenSpec.ofChange stepLightSpec)

/-- ITS FALSE NEIGHBOUR: 'it returns false'. Refute it at one input. -/
def stepLightWrong : ChangeSpec := { name := "stepLight", fn := fun _ => fun
  | [d1, d2, d3] => { results := [.lit (.bool false)], args := [d1, d2, d3] }
  | _ => none }
def StepLightWrongFalsely : Prop := stepLightRow.holds Tryz.pinned (OpenSpec.ofChange stepLightWrong)

/-- 'vouchlaw12.StepAnswers': WHATEVER THE INPUT: true; the input reads as it did. -/
def stepAnswersSpec : ChangeSpec := { name := "stepAnswers", fn := fun _ => fun
  | [d1, d2] => { results := [.lit (.bool true)], args := [d1, d2] }
  | _ => none }
def stepAnswersRow : OpenClaim := { program := "ytgcicoebkjgfoaagreatdoor", sum := "5660de61856ae2f097bbe00745b8c5230739d2525686d1bac891ea07125051ed", func := "vouch/vouchlaw12.StepAnswers", spec := "stepAnswers", inPlace := ["internal/bytealg.Compare", "math/bits.Sub64", "math/bits.Add64"], unfollowed := true, recurses := true, named := ["internal/strconv.uint64pow10", "math/bits.deBruijn32tab", "math/bits.deBruijn64tab", "vouch/sponge.marks", "vouch/sponge.turns"], plainKeys := false, apart := false, laid := [("math/bits.deBruijn32tab", laid_math_bits_deBruijn32tab), ("math/bits.deBruijn64tab", laid_math_bits_deBruijn64tab), ("internal/strconv.uint64pow10", laid_internal_strconv_uint64pow10), ("vouch/sponge.turns", laid_vouch_sponge_turns), ("vouch/sponge.marks", laid_vouch_sponge_marks)] }
def StepAnswersSaid : Prop := stepAnswersRow.holds Tryz.pinned (OpenSpec.ofChange stepAnswersSpec)

/-- ITS FALSE NEIGHBOUR: 'it returns false'. Refute it at one input. -/
def stepAnswersWrong : ChangeSpec := { name := "stepAnswers", fn := fun _ => fun
  | [d1, d2] => { results := [.lit (.bool false)], args := [d1, d2] }
  | _ => none }
def StepAnswersWrongFalsely : Prop := stepAnswersRow.holds Tryz.pinned (OpenSpec.ofChange stepAnswersWrong)

/- THE SECOND FORM. 'bulk': how many values and letters a reading holds, each counted each time it is reached (what is shared counts as often as it is met; a slice's spare places count too). A statement '..UptoSaid' is the law's where the arguments, and the package variables that the reading takes, are together of bulk at most 1048576: NARROWER than '..Said'. Prove '..Said' where nothing that the law and all that it calls make is longer than what came in: it says more and counts as full. Else prove '..UptoSaid'. A law counts once. -/
mutual
def uptoBulk {H : Type} : DataW H → Nat
  | .lit (.string bytes) => bytes.length + 1
  | .lit _ => 1
  | .nil => 1
  | .ptr d => uptoBulk d + 1
  | .slice elems spare => uptoBulkAll elems + uptoBulkAll spare + 1
  | .agg parts => uptoBulkAll parts + 1
  | .iface _ d => uptoBulk d + 1
  | .map entries => uptoBulkEntries entries + 1
  | .held _ => 1
def uptoBulkAll {H : Type} : List (DataW H) → Nat
  | [] => 0
  | d :: r => uptoBulk d + uptoBulkAll r
def uptoBulkEntries {H : Type} : List (Lit × DataW H) → Nat
  | [] => 0
  | x :: r => uptoBulkEntry x + uptoBulkEntries r
def uptoBulkEntry {H : Type} : Lit × DataW H → Nat
  | (.string bytes, d) => bytes.length + uptoBulk d + 1
  | (_, d) => uptoBulk d + 1
 end
def uptoSmall : (H : Type) → List (DataW H) → Bool := fun _ ds => decide (uptoBulkAll ds ≤ 1048576)
def OpenSpec.upto (s : _root_.Go.ChangeSpec) : _root_.Go.OpenSpec := { _root_.Go.OpenSpec.ofChange s with cond := some uptoSmall }

/-- 'vouchlaw12.StepSentry', WHERE WHAT IT READS IS OF BULK AT MOST 1048576: true; the input reads as it did. -/
def stepSentryUptoRow : OpenClaim := { program := "ytgcicoebkjgfoaagreatdoor", sum := "5660de61856ae2f097bbe00745b8c5230739d2525686d1bac891ea07125051ed", func := "vouch/vouchlaw12.StepSentry", spec := "stepSentry", inPlace := ["internal/bytealg.Compare", "math/bits.Sub64", "math/bits.Add64"], unfollowed := true, recurses := true, named := ["internal/strconv.uint64pow10", "math/bits.deBruijn32tab", "math/bits.deBruijn64tab", "vouch/sponge.marks", "vouch/sponge.turns"], plainKeys := false, apart := false, laid := [("math/bits.deBruijn32tab", laid_math_bits_deBruijn32tab), ("math/bits.deBruijn64tab", laid_math_bits_deBruijn64tab), ("internal/strconv.uint64pow10", laid_internal_strconv_uint64pow10), ("vouch/sponge.turns", laid_vouch_sponge_turns), ("vouch/sponge.marks", laid_vouch_sponge_marks)], narrowed := true }
def StepSentryUptoSaid : Prop := stepSentryUptoRow.holds Tryz.pinned (OpenSpec.upto stepSentrySpec)

/-- 'vouchlaw12.StepNonces', WHERE WHAT IT READS IS OF BULK AT MOST 1048576: true; the input reads as it did. -/
def stepNoncesUptoRow : OpenClaim := { program := "ytgcicoebkjgfoaagreatdoor", sum := "5660de61856ae2f097bbe00745b8c5230739d2525686d1bac891ea07125051ed", func := "vouch/vouchlaw12.StepNonces", spec := "stepNonces", inPlace := ["internal/bytealg.Compare", "math/bits.Sub64", "math/bits.Add64"], unfollowed := true, recurses := true, named := ["internal/strconv.uint64pow10", "math/bits.deBruijn32tab", "math/bits.deBruijn64tab", "vouch/sponge.marks", "vouch/sponge.turns"], plainKeys := false, apart := false, laid := [("math/bits.deBruijn32tab", laid_math_bits_deBruijn32tab), ("math/bits.deBruijn64tab", laid_math_bits_deBruijn64tab), ("internal/strconv.uint64pow10", laid_internal_strconv_uint64pow10), ("vouch/sponge.turns", laid_vouch_sponge_turns), ("vouch/sponge.marks", laid_vouch_sponge_marks)], narrowed := true }
def StepNoncesUptoSaid : Prop := stepNoncesUptoRow.holds Tryz.pinned (OpenSpec.upto stepNoncesSpec)

/-- 'vouchlaw12.StepLight', WHERE WHAT IT READS IS OF BULK AT MOST 1048576: true; the input reads as it did. -/
def stepLightUptoRow : OpenClaim := { program := "ytgcicoebkjgfoaagreatdoor", sum := "5660de61856ae2f097bbe00745b8c5230739d2525686d1bac891ea07125051ed", func := "vouch/vouchlaw12.StepLight", spec := "stepLight", inPlace := ["internal/bytealg.Compare", "math/bits.Sub64", "math/bits.Add64"], unfollowed := true, recurses := true, named := ["internal/strconv.uint64pow10", "math/bits.deBruijn32tab", "math/bits.deBruijn64tab", "vouch/sponge.marks", "vouch/sponge.turns"], plainKeys := false, apart := false, laid := [("math/bits.deBruijn32tab", laid_math_bits_deBruijn32tab), ("math/bits.deBruijn64tab", laid_math_bits_deBruijn64tab), ("internal/strconv.uint64pow10", laid_internal_strconv_uint64pow10), ("vouch/sponge.turns", laid_vouch_sponge_turns), ("vouch/sponge.marks", laid_vouch_sponge_marks)], narrowed := true }
def StepLightUptoSaid : Prop := stepLightUptoRow.holds Tryz.pinned (OpenSpec.upto stepLightSpec)

/-- 'vouchlaw12.StepAnswers', WHERE WHAT IT READS IS OF BULK AT MOST 1048576: true; the input reads as it did. -/
def stepAnswersUptoRow : OpenClaim := { program := "ytgcicoebkjgfoaagreatdoor", sum := "5660de61856ae2f097bbe00745b8c5230739d2525686d1bac891ea07125051ed", func := "vouch/vouchlaw12.StepAnswers", spec := "stepAnswers", inPlace := ["internal/bytealg.Compare", "math/bits.Sub64", "math/bits.Add64"], unfollowed := true, recurses := true, named := ["internal/strconv.uint64pow10", "math/bits.deBruijn32tab", "math/bits.deBruijn64tab", "vouch/sponge.marks", "vouch/sponge.turns"], plainKeys := false, apart := false, laid := [("math/bits.deBruijn32tab", laid_math_bits_deBruijn32tab), ("math/bits.deBruijn64tab", laid_math_bits_deBruijn64tab), ("internal/strconv.uint64pow10", laid_internal_strconv_uint64pow10), ("vouch/sponge.turns", laid_vouch_sponge_turns), ("vouch/sponge.marks", laid_vouch_sponge_marks)], narrowed := true }
def StepAnswersUptoSaid : Prop := stepAnswersUptoRow.holds Tryz.pinned (OpenSpec.upto stepAnswersSpec)

end Rows
end Go.Proofs.YtgcicoebkjgfoaaGreatDoor
