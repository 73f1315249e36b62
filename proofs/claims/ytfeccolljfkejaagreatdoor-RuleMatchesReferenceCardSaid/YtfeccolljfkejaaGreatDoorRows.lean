/-
  NARROWER THAN 'FOR EVERY INPUT', by the rows' own cells (each row's printed sentence says how): RuleBack: laid · RuleLayout: laid · RuleErrors: laid · RuleAgain: laid · RuleCaps: laid · RuleMatchesReference: laid · RuleKinds: laid · RuleShoaler: laid · RuleStands: laid.
  DERIVED. THE GIVEN ROWS OF THIS SEAT. 9 by the template 'for every input the law returns true; each argument reads behind the call as it read before'; 0 by the template 'total and deterministic' (their statements: YtfeccolljfkejaaGreatDoorTotals.lean).
  GIVEN WITH THE SEED: the statements are not yours to turn. If you find one false, say at which input.
  Laid BY PROGRAM, IN A SANDBOX (cutbox-rows.mjs): the forced cells as the released guide's own fill.sh prints them over the translation 25c5097f40d0e0fb… (all of the seat's roots in one cut). By AI agents, Wed Nov 11 2026. No macro, syntax, notation, axiom, sorry.
-/
import Derived.Test.YtfeccolljfkejaaGreatDoorChecked
import GoSem.Claim
import GoSem.ClaimJoined
import GoSem.ClaimMapViews
import Derived.JoinedTies
import Derived.KernelRfl
namespace Go.Proofs.YtfeccolljfkejaaGreatDoor
/- THE CELL 'sum', in the pinned program and in every row, IS THE sha256 OF THE DUMP (.gsa) THAT YtfeccolljfkejaaGreatDoorProg.lean LOADS. Nothing in Lean hashes anything: it is a label: what it is worth is what the hold of that sum in a sandbox is worth. -/
noncomputable def Tryz.pinned : Pinned := { name := "ytfeccolljfkejaagreatdoor", sum := "25c5097f40d0e0fbdea7ee56f21bd620a34a192bd1b28ad573224b2dae060885", checked := Tryz.checked }
namespace Rows
def none {H : Type} : Left H := { results := [], args := [] }

/- WHAT THE LISTED PACKAGE-LEVEL VARIABLES READ AS WHEN THE CALL BEGINS. Each datum BY PROGRAM (the guide's laid-datum.mjs) off the statement by which the dump's own 'gosem.cut.vars' lays the variable. In a bare row this is a premise. The card (YtfeccolljfkejaaGreatDoorCards.lean) ties it to the program's text. -/
def laid_math_bits_deBruijn32tab {H : Type} : DataW H := .agg [.lit (.int .u8 0), .lit (.int .u8 1), .lit (.int .u8 28), .lit (.int .u8 2), .lit (.int .u8 29), .lit (.int .u8 14), .lit (.int .u8 24), .lit (.int .u8 3), .lit (.int .u8 30), .lit (.int .u8 22), .lit (.int .u8 20), .lit (.int .u8 15), .lit (.int .u8 25), .lit (.int .u8 17), .lit (.int .u8 4), .lit (.int .u8 8), .lit (.int .u8 31), .lit (.int .u8 27), .lit (.int .u8 13), .lit (.int .u8 23), .lit (.int .u8 21), .lit (.int .u8 19), .lit (.int .u8 16), .lit (.int .u8 7), .lit (.int .u8 26), .lit (.int .u8 12), .lit (.int .u8 18), .lit (.int .u8 6), .lit (.int .u8 11), .lit (.int .u8 5), .lit (.int .u8 10), .lit (.int .u8 9)]
def laid_math_bits_deBruijn64tab {H : Type} : DataW H := .agg [.lit (.int .u8 0), .lit (.int .u8 1), .lit (.int .u8 56), .lit (.int .u8 2), .lit (.int .u8 57), .lit (.int .u8 49), .lit (.int .u8 28), .lit (.int .u8 3), .lit (.int .u8 61), .lit (.int .u8 58), .lit (.int .u8 42), .lit (.int .u8 50), .lit (.int .u8 38), .lit (.int .u8 29), .lit (.int .u8 17), .lit (.int .u8 4), .lit (.int .u8 62), .lit (.int .u8 47), .lit (.int .u8 59), .lit (.int .u8 36), .lit (.int .u8 45), .lit (.int .u8 43), .lit (.int .u8 51), .lit (.int .u8 22), .lit (.int .u8 53), .lit (.int .u8 39), .lit (.int .u8 33), .lit (.int .u8 30), .lit (.int .u8 24), .lit (.int .u8 18), .lit (.int .u8 12), .lit (.int .u8 5), .lit (.int .u8 63), .lit (.int .u8 55), .lit (.int .u8 48), .lit (.int .u8 27), .lit (.int .u8 60), .lit (.int .u8 41), .lit (.int .u8 37), .lit (.int .u8 16), .lit (.int .u8 46), .lit (.int .u8 35), .lit (.int .u8 44), .lit (.int .u8 21), .lit (.int .u8 52), .lit (.int .u8 32), .lit (.int .u8 23), .lit (.int .u8 11), .lit (.int .u8 54), .lit (.int .u8 26), .lit (.int .u8 40), .lit (.int .u8 15), .lit (.int .u8 34), .lit (.int .u8 20), .lit (.int .u8 31), .lit (.int .u8 10), .lit (.int .u8 25), .lit (.int .u8 14), .lit (.int .u8 19), .lit (.int .u8 9), .lit (.int .u8 13), .lit (.int .u8 8), .lit (.int .u8 7), .lit (.int .u8 6)]
def laid_internal_strconv_uint64pow10 {H : Type} : DataW H := .agg [.lit (.int .u64 1), .lit (.int .u64 10), .lit (.int .u64 100), .lit (.int .u64 1000), .lit (.int .u64 10000), .lit (.int .u64 100000), .lit (.int .u64 1000000), .lit (.int .u64 10000000), .lit (.int .u64 100000000), .lit (.int .u64 1000000000), .lit (.int .u64 10000000000), .lit (.int .u64 100000000000), .lit (.int .u64 1000000000000), .lit (.int .u64 10000000000000), .lit (.int .u64 100000000000000), .lit (.int .u64 1000000000000000), .lit (.int .u64 10000000000000000), .lit (.int .u64 100000000000000000), .lit (.int .u64 1000000000000000000), .lit (.int .u64 10000000000000000000)]
def laid_strconv_ErrRange {H : Type} : DataW H := .iface "*errors.errorString" (.ptr (.agg [.lit (.string [118, 97, 108, 117, 101, 32, 111, 117, 116, 32, 111, 102, 32, 114, 97, 110, 103, 101])]))
def laid_strconv_ErrSyntax {H : Type} : DataW H := .iface "*errors.errorString" (.ptr (.agg [.lit (.string [105, 110, 118, 97, 108, 105, 100, 32, 115, 121, 110, 116, 97, 120])]))
def laid_seamark_rule_kindWords {H : Type} : DataW H := .slice [.lit (.string []), .lit (.string [115, 111, 117, 110, 100, 105, 110, 103]), .lit (.string [119, 114, 101, 99, 107]), .lit (.string [97, 114, 101, 97]), .lit (.string [108, 105, 103, 104, 116]), .lit (.string [98, 117, 111, 121]), .lit (.string [122, 111, 110, 101])] []

/-- 'seamarklaw12.RuleBack': WHATEVER THE INPUT: true; the input reads as it did. -/
def ruleBackSpec : ChangeSpec := { name := "ruleBack", fn := fun _ => fun
  | [d1, d2] => { results := [.lit (.bool true)], args := [d1, d2] }
  | _ => none }
def ruleBackRow : OpenClaim := { program := "ytfeccolljfkejaagreatdoor", sum := "25c5097f40d0e0fbdea7ee56f21bd620a34a192bd1b28ad573224b2dae060885", func := "seamark/seamarklaw12.RuleBack", spec := "ruleBack", inPlace := ["internal/abi.NoEscape"], unfollowed := true, recurses := true, named := ["seamark/rule.kindWords", "strconv.ErrSyntax", "strconv.ErrRange", "internal/strconv.uint64pow10", "math/bits.deBruijn32tab", "math/bits.deBruijn64tab"], apart := false, laid := [("math/bits.deBruijn32tab", laid_math_bits_deBruijn32tab), ("math/bits.deBruijn64tab", laid_math_bits_deBruijn64tab), ("internal/strconv.uint64pow10", laid_internal_strconv_uint64pow10), ("strconv.ErrRange", laid_strconv_ErrRange), ("strconv.ErrSyntax", laid_strconv_ErrSyntax), ("seamark/rule.kindWords", laid_seamark_rule_kindWords)] }
def RuleBackSaid : Prop := ruleBackRow.holds Tryz.pinned (OpenSpec.ofChange ruleBackSpec)

/-- ITS FALSE NEIGHBOUR: 'it returns false'. Refute it at one input. -/
def ruleBackWrong : ChangeSpec := { name := "ruleBack", fn := fun _ => fun
  | [d1, d2] => { results := [.lit (.bool false)], args := [d1, d2] }
  | _ => none }
def RuleBackWrongFalsely : Prop := ruleBackRow.holds Tryz.pinned (OpenSpec.ofChange ruleBackWrong)

/-- 'seamarklaw12.RuleLayout': WHATEVER THE INPUT: true; the input reads as it did. -/
def ruleLayoutSpec : ChangeSpec := { name := "ruleLayout", fn := fun _ => fun
  | [d1, d2, d3] => { results := [.lit (.bool true)], args := [d1, d2, d3] }
  | _ => none }
def ruleLayoutRow : OpenClaim := { program := "ytfeccolljfkejaagreatdoor", sum := "25c5097f40d0e0fbdea7ee56f21bd620a34a192bd1b28ad573224b2dae060885", func := "seamark/seamarklaw12.RuleLayout", spec := "ruleLayout", inPlace := ["internal/abi.NoEscape"], unfollowed := true, recurses := true, named := ["seamark/rule.kindWords", "strconv.ErrSyntax", "strconv.ErrRange", "internal/strconv.uint64pow10", "math/bits.deBruijn32tab", "math/bits.deBruijn64tab"], apart := false, laid := [("math/bits.deBruijn32tab", laid_math_bits_deBruijn32tab), ("math/bits.deBruijn64tab", laid_math_bits_deBruijn64tab), ("internal/strconv.uint64pow10", laid_internal_strconv_uint64pow10), ("strconv.ErrRange", laid_strconv_ErrRange), ("strconv.ErrSyntax", laid_strconv_ErrSyntax), ("seamark/rule.kindWords", laid_seamark_rule_kindWords)] }
def RuleLayoutSaid : Prop := ruleLayoutRow.holds Tryz.pinned (OpenSpec.ofChange ruleLayoutSpec)

/-- ITS FALSE NEIGHBOUR: 'it returns false'. Refute it at one input. -/
def ruleLayoutWrong : ChangeSpec := { name := "ruleLayout", fn := fun _ => fun
  | [d1, d2, d3] => { results := [.lit (.bool false)], args := [d1, d2, d3] }
  | _ => none }
def RuleLayoutWrongFalsely : Prop := ruleLayoutRow.holds Tryz.pinned (OpenSpec.ofChange ruleLayoutWrong)

/-- 'seamarklaw12.RuleErrors': WHATEVER THE INPUT: true; the input reads as it did. -/
def ruleErrorsSpec : ChangeSpec := { name := "ruleErrors", fn := fun _ => fun
  | [d1, d2] => { results := [.lit (.bool true)], args := [d1, d2] }
  | _ => none }
def ruleErrorsRow : OpenClaim := { program := "ytfeccolljfkejaagreatdoor", sum := "25c5097f40d0e0fbdea7ee56f21bd620a34a192bd1b28ad573224b2dae060885", func := "seamark/seamarklaw12.RuleErrors", spec := "ruleErrors", inPlace := ["internal/abi.NoEscape"], unfollowed := true, recurses := true, named := ["seamark/rule.kindWords", "strconv.ErrSyntax", "strconv.ErrRange", "internal/strconv.uint64pow10", "math/bits.deBruijn32tab", "math/bits.deBruijn64tab"], apart := false, laid := [("math/bits.deBruijn32tab", laid_math_bits_deBruijn32tab), ("math/bits.deBruijn64tab", laid_math_bits_deBruijn64tab), ("internal/strconv.uint64pow10", laid_internal_strconv_uint64pow10), ("strconv.ErrRange", laid_strconv_ErrRange), ("strconv.ErrSyntax", laid_strconv_ErrSyntax), ("seamark/rule.kindWords", laid_seamark_rule_kindWords)] }
def RuleErrorsSaid : Prop := ruleErrorsRow.holds Tryz.pinned (OpenSpec.ofChange ruleErrorsSpec)

/-- ITS FALSE NEIGHBOUR: 'it returns false'. Refute it at one input. -/
def ruleErrorsWrong : ChangeSpec := { name := "ruleErrors", fn := fun _ => fun
  | [d1, d2] => { results := [.lit (.bool false)], args := [d1, d2] }
  | _ => none }
def RuleErrorsWrongFalsely : Prop := ruleErrorsRow.holds Tryz.pinned (OpenSpec.ofChange ruleErrorsWrong)

/-- 'seamarklaw12.RuleAgain': WHATEVER THE INPUT: true; the input reads as it did. -/
def ruleAgainSpec : ChangeSpec := { name := "ruleAgain", fn := fun _ => fun
  | [d1, d2] => { results := [.lit (.bool true)], args := [d1, d2] }
  | _ => none }
def ruleAgainRow : OpenClaim := { program := "ytfeccolljfkejaagreatdoor", sum := "25c5097f40d0e0fbdea7ee56f21bd620a34a192bd1b28ad573224b2dae060885", func := "seamark/seamarklaw12.RuleAgain", spec := "ruleAgain", inPlace := ["internal/abi.NoEscape"], unfollowed := true, recurses := true, named := ["seamark/rule.kindWords", "strconv.ErrSyntax", "strconv.ErrRange", "internal/strconv.uint64pow10", "math/bits.deBruijn32tab", "math/bits.deBruijn64tab"], apart := false, laid := [("math/bits.deBruijn32tab", laid_math_bits_deBruijn32tab), ("math/bits.deBruijn64tab", laid_math_bits_deBruijn64tab), ("internal/strconv.uint64pow10", laid_internal_strconv_uint64pow10), ("strconv.ErrRange", laid_strconv_ErrRange), ("strconv.ErrSyntax", laid_strconv_ErrSyntax), ("seamark/rule.kindWords", laid_seamark_rule_kindWords)] }
def RuleAgainSaid : Prop := ruleAgainRow.holds Tryz.pinned (OpenSpec.ofChange ruleAgainSpec)

/-- ITS FALSE NEIGHBOUR: 'it returns false'. Refute it at one input. -/
def ruleAgainWrong : ChangeSpec := { name := "ruleAgain", fn := fun _ => fun
  | [d1, d2] => { results := [.lit (.bool false)], args := [d1, d2] }
  | _ => none }
def RuleAgainWrongFalsely : Prop := ruleAgainRow.holds Tryz.pinned (OpenSpec.ofChange ruleAgainWrong)

/-- 'seamarklaw12.RuleCaps': WHATEVER THE INPUT: true; the input reads as it did. -/
def ruleCapsSpec : ChangeSpec := { name := "ruleCaps", fn := fun _ => fun
  | [d1, d2, d3, d4] => { results := [.lit (.bool true)], args := [d1, d2, d3, d4] }
  | _ => none }
def ruleCapsRow : OpenClaim := { program := "ytfeccolljfkejaagreatdoor", sum := "25c5097f40d0e0fbdea7ee56f21bd620a34a192bd1b28ad573224b2dae060885", func := "seamark/seamarklaw12.RuleCaps", spec := "ruleCaps", inPlace := ["internal/abi.NoEscape"], unfollowed := true, recurses := true, named := ["seamark/rule.kindWords", "strconv.ErrSyntax", "strconv.ErrRange", "internal/strconv.uint64pow10", "math/bits.deBruijn32tab", "math/bits.deBruijn64tab"], apart := false, laid := [("math/bits.deBruijn32tab", laid_math_bits_deBruijn32tab), ("math/bits.deBruijn64tab", laid_math_bits_deBruijn64tab), ("internal/strconv.uint64pow10", laid_internal_strconv_uint64pow10), ("strconv.ErrRange", laid_strconv_ErrRange), ("strconv.ErrSyntax", laid_strconv_ErrSyntax), ("seamark/rule.kindWords", laid_seamark_rule_kindWords)] }
def RuleCapsSaid : Prop := ruleCapsRow.holds Tryz.pinned (OpenSpec.ofChange ruleCapsSpec)

/-- ITS FALSE NEIGHBOUR: 'it returns false'. Refute it at one input. -/
def ruleCapsWrong : ChangeSpec := { name := "ruleCaps", fn := fun _ => fun
  | [d1, d2, d3, d4] => { results := [.lit (.bool false)], args := [d1, d2, d3, d4] }
  | _ => none }
def RuleCapsWrongFalsely : Prop := ruleCapsRow.holds Tryz.pinned (OpenSpec.ofChange ruleCapsWrong)

/-- 'seamarklaw12.RuleMatchesReference': WHATEVER THE INPUT: true; the input reads as it did. -/
def ruleMatchesReferenceSpec : ChangeSpec := { name := "ruleMatchesReference", fn := fun _ => fun
  | [d1, d2, d3, d4] => { results := [.lit (.bool true)], args := [d1, d2, d3, d4] }
  | _ => none }
def ruleMatchesReferenceRow : OpenClaim := { program := "ytfeccolljfkejaagreatdoor", sum := "25c5097f40d0e0fbdea7ee56f21bd620a34a192bd1b28ad573224b2dae060885", func := "seamark/seamarklaw12.RuleMatchesReference", spec := "ruleMatchesReference", inPlace := ["internal/abi.NoEscape"], unfollowed := true, recurses := true, named := ["seamark/rule.kindWords", "strconv.ErrSyntax", "strconv.ErrRange", "internal/strconv.uint64pow10", "math/bits.deBruijn32tab", "math/bits.deBruijn64tab"], apart := false, laid := [("math/bits.deBruijn32tab", laid_math_bits_deBruijn32tab), ("math/bits.deBruijn64tab", laid_math_bits_deBruijn64tab), ("internal/strconv.uint64pow10", laid_internal_strconv_uint64pow10), ("strconv.ErrRange", laid_strconv_ErrRange), ("strconv.ErrSyntax", laid_strconv_ErrSyntax), ("seamark/rule.kindWords", laid_seamark_rule_kindWords)] }
def RuleMatchesReferenceSaid : Prop := ruleMatchesReferenceRow.holds Tryz.pinned (OpenSpec.ofChange ruleMatchesReferenceSpec)

/-- ITS FALSE NEIGHBOUR: 'it returns false'. Refute it at one input. -/
def ruleMatchesReferenceWrong : ChangeSpec := { name := "ruleMatchesReference", fn := fun _ => fun
  | [d1, d2, d3, d4] => { results := [.lit (.bool false)], args := [d1, d2, d3, d4] }
  | _ => none }
def RuleMatchesReferenceWrongFalsely : Prop := ruleMatchesReferenceRow.holds Tryz.pinned (OpenSpec.ofChange ruleMatchesReferenceWrong)

/-- 'seamarklaw12.RuleKinds': WHATEVER THE INPUT: true; the input reads as it did. -/
def ruleKindsSpec : ChangeSpec := { name := "ruleKinds", fn := fun _ => fun
  | [d1, d2, d3] => { results := [.lit (.bool true)], args := [d1, d2, d3] }
  | _ => none }
def ruleKindsRow : OpenClaim := { program := "ytfeccolljfkejaagreatdoor", sum := "25c5097f40d0e0fbdea7ee56f21bd620a34a192bd1b28ad573224b2dae060885", func := "seamark/seamarklaw12.RuleKinds", spec := "ruleKinds", inPlace := ["internal/abi.NoEscape"], unfollowed := true, recurses := true, named := ["seamark/rule.kindWords", "strconv.ErrSyntax", "strconv.ErrRange", "internal/strconv.uint64pow10", "math/bits.deBruijn32tab", "math/bits.deBruijn64tab"], apart := false, laid := [("math/bits.deBruijn32tab", laid_math_bits_deBruijn32tab), ("math/bits.deBruijn64tab", laid_math_bits_deBruijn64tab), ("internal/strconv.uint64pow10", laid_internal_strconv_uint64pow10), ("strconv.ErrRange", laid_strconv_ErrRange), ("strconv.ErrSyntax", laid_strconv_ErrSyntax), ("seamark/rule.kindWords", laid_seamark_rule_kindWords)] }
def RuleKindsSaid : Prop := ruleKindsRow.holds Tryz.pinned (OpenSpec.ofChange ruleKindsSpec)

/-- ITS FALSE NEIGHBOUR: 'it returns false'. Refute it at one input. -/
def ruleKindsWrong : ChangeSpec := { name := "ruleKinds", fn := fun _ => fun
  | [d1, d2, d3] => { results := [.lit (.bool false)], args := [d1, d2, d3] }
  | _ => none }
def RuleKindsWrongFalsely : Prop := ruleKindsRow.holds Tryz.pinned (OpenSpec.ofChange ruleKindsWrong)

/-- 'seamarklaw12.RuleShoaler': WHATEVER THE INPUT: true; the input reads as it did. -/
def ruleShoalerSpec : ChangeSpec := { name := "ruleShoaler", fn := fun _ => fun
  | [d1, d2, d3] => { results := [.lit (.bool true)], args := [d1, d2, d3] }
  | _ => none }
def ruleShoalerRow : OpenClaim := { program := "ytfeccolljfkejaagreatdoor", sum := "25c5097f40d0e0fbdea7ee56f21bd620a34a192bd1b28ad573224b2dae060885", func := "seamark/seamarklaw12.RuleShoaler", spec := "ruleShoaler", inPlace := ["internal/abi.NoEscape"], unfollowed := true, recurses := true, named := ["seamark/rule.kindWords", "strconv.ErrSyntax", "strconv.ErrRange", "internal/strconv.uint64pow10", "math/bits.deBruijn32tab", "math/bits.deBruijn64tab"], apart := false, laid := [("math/bits.deBruijn32tab", laid_math_bits_deBruijn32tab), ("math/bits.deBruijn64tab", laid_math_bits_deBruijn64tab), ("internal/strconv.uint64pow10", laid_internal_strconv_uint64pow10), ("strconv.ErrRange", laid_strconv_ErrRange), ("strconv.ErrSyntax", laid_strconv_ErrSyntax), ("seamark/rule.kindWords", laid_seamark_rule_kindWords)] }
def RuleShoalerSaid : Prop := ruleShoalerRow.holds Tryz.pinned (OpenSpec.ofChange ruleShoalerSpec)

/-- ITS FALSE NEIGHBOUR: 'it returns false'. Refute it at one input. -/
def ruleShoalerWrong : ChangeSpec := { name := "ruleShoaler", fn := fun _ => fun
  | [d1, d2, d3] => { results := [.lit (.bool false)], args := [d1, d2, d3] }
  | _ => none }
def RuleShoalerWrongFalsely : Prop := ruleShoalerRow.holds Tryz.pinned (OpenSpec.ofChange ruleShoalerWrong)

/-- 'seamarklaw12.RuleStands': WHATEVER THE INPUT: true; the input reads as it did. -/
def ruleStandsSpec : ChangeSpec := { name := "ruleStands", fn := fun _ => fun
  | [d1, d2] => { results := [.lit (.bool true)], args := [d1, d2] }
  | _ => none }
def ruleStandsRow : OpenClaim := { program := "ytfeccolljfkejaagreatdoor", sum := "25c5097f40d0e0fbdea7ee56f21bd620a34a192bd1b28ad573224b2dae060885", func := "seamark/seamarklaw12.RuleStands", spec := "ruleStands", inPlace := ["internal/abi.NoEscape"], unfollowed := true, recurses := true, named := ["seamark/rule.kindWords", "strconv.ErrSyntax", "strconv.ErrRange", "internal/strconv.uint64pow10", "math/bits.deBruijn32tab", "math/bits.deBruijn64tab"], apart := false, laid := [("math/bits.deBruijn32tab", laid_math_bits_deBruijn32tab), ("math/bits.deBruijn64tab", laid_math_bits_deBruijn64tab), ("internal/strconv.uint64pow10", laid_internal_strconv_uint64pow10), ("strconv.ErrRange", laid_strconv_ErrRange), ("strconv.ErrSyntax", laid_strconv_ErrSyntax), ("seamark/rule.kindWords", laid_seamark_rule_kindWords)] }
def RuleStandsSaid : Prop := ruleStandsRow.holds Tryz.pinned (OpenSpec.ofChange ruleStandsSpec)

/-- ITS FALSE NEIGHBOUR: 'it returns false'. Refute it at one input. -/
def ruleStandsWrong : ChangeSpec := { name := "ruleStands", fn := fun _ => fun
  | [d1, d2] => { results := [.lit (.bool false)], args := [d1, d2] }
  | _ => none }
def RuleStandsWrongFalsely : Prop := ruleStandsRow.holds Tryz.pinned (OpenSpec.ofChange ruleStandsWrong)

/- THE SECOND FORM. 'bulk': how many values and letters a reading holds, each counted each time it is reached (what is shared counts as often as it is met; a slice's spare places count too). A statement '..UptoSaid' is the law's where the arguments, and the package variables that the reading takes, are together of bulk at most 1048576: NARROWER than '..Said'. Prove '..Said' where nothing that the law and all that it calls make is longer than what came in: it says more and counts as full. Else prove '..UptoSaid'. A law counts once. -/
mutual
def uptoBulk {H : Type} : DataW H → Nat
  | .lit (.string bytes) => bytes.length + 1
  | .lit _ => 1
  | .nil => 1
  | .ptr d => uptoBulk d + 1
  | .slice elems spare => uptoBulkAll elems + uptoBulkAll spare + 1
  | .agg parts => uptoBulkAll parts + 1
  | .iface _ d => uptoBulk d + 1
  | .map entries => uptoBulkEntries entries + 1
  | .held _ => 1
def uptoBulkAll {H : Type} : List (DataW H) → Nat
  | [] => 0
  | d :: r => uptoBulk d + uptoBulkAll r
def uptoBulkEntries {H : Type} : List (Lit × DataW H) → Nat
  | [] => 0
  | x :: r => uptoBulkEntry x + uptoBulkEntries r
def uptoBulkEntry {H : Type} : Lit × DataW H → Nat
  | (.string bytes, d) => bytes.length + uptoBulk d + 1
  | (_, d) => uptoBulk d + 1
 end
def uptoSmall : (H : Type) → List (DataW H) → Bool := fun _ ds => decide (uptoBulkAll ds ≤ 1048576)
def OpenSpec.upto (s : _root_.Go.ChangeSpec) : _root_.Go.OpenSpec := { _root_.Go.OpenSpec.ofChange s with cond := some uptoSmall }

/-- 'seamarklaw12.RuleBack', WHERE WHAT IT READS IS OF BULK AT MOST 1048576: true; the input reads as it did. -/
def ruleBackUptoRow : OpenClaim := { program := "ytfeccolljfkejaagreatdoor", sum := "25c5097f40d0e0fbdea7ee56f21bd620a34a192bd1b28ad573224b2dae060885", func := "seamark/seamarklaw12.RuleBack", spec := "ruleBack", inPlace := ["internal/abi.NoEscape"], unfollowed := true, recurses := true, named := ["seamark/rule.kindWords", "strconv.ErrSyntax", "strconv.ErrRange", "internal/strconv.uint64pow10", "math/bits.deBruijn32tab", "math/bits.deBruijn64tab"], apart := false, laid := [("math/bits.deBruijn32tab", laid_math_bits_deBruijn32tab), ("math/bits.deBruijn64tab", laid_math_bits_deBruijn64tab), ("internal/strconv.uint64pow10", laid_internal_strconv_uint64pow10), ("strconv.ErrRange", laid_strconv_ErrRange), ("strconv.ErrSyntax", laid_strconv_ErrSyntax), ("seamark/rule.kindWords", laid_seamark_rule_kindWords)], narrowed := true }
def RuleBackUptoSaid : Prop := ruleBackUptoRow.holds Tryz.pinned (OpenSpec.upto ruleBackSpec)

/-- 'seamarklaw12.RuleLayout', WHERE WHAT IT READS IS OF BULK AT MOST 1048576: true; the input reads as it did. -/
def ruleLayoutUptoRow : OpenClaim := { program := "ytfeccolljfkejaagreatdoor", sum := "25c5097f40d0e0fbdea7ee56f21bd620a34a192bd1b28ad573224b2dae060885", func := "seamark/seamarklaw12.RuleLayout", spec := "ruleLayout", inPlace := ["internal/abi.NoEscape"], unfollowed := true, recurses := true, named := ["seamark/rule.kindWords", "strconv.ErrSyntax", "strconv.ErrRange", "internal/strconv.uint64pow10", "math/bits.deBruijn32tab", "math/bits.deBruijn64tab"], apart := false, laid := [("math/bits.deBruijn32tab", laid_math_bits_deBruijn32tab), ("math/bits.deBruijn64tab", laid_math_bits_deBruijn64tab), ("internal/strconv.uint64pow10", laid_internal_strconv_uint64pow10), ("strconv.ErrRange", laid_strconv_ErrRange), ("strconv.ErrSyntax", laid_strconv_ErrSyntax), ("seamark/rule.kindWords", laid_seamark_rule_kindWords)], narrowed := true }
def RuleLayoutUptoSaid : Prop := ruleLayoutUptoRow.holds Tryz.pinned (OpenSpec.upto ruleLayoutSpec)

/-- 'seamarklaw12.RuleErrors', WHERE WHAT IT READS IS OF BULK AT MOST 1048576: true; the input reads as it did. -/
def ruleErrorsUptoRow : OpenClaim := { program := "ytfeccolljfkejaagreatdoor", sum := "25c5097f40d0e0fbdea7ee56f21bd620a34a192bd1b28ad573224b2dae060885", func := "seamark/seamarklaw12.RuleErrors", spec := "ruleErrors", inPlace := ["internal/abi.NoEscape"], unfollowed := true, recurses := true, named := ["seamark/rule.kindWords", "strconv.ErrSyntax", "strconv.ErrRange", "internal/strconv.uint64pow10", "math/bits.deBruijn32tab", "math/bits.deBruijn64tab"], apart := false, laid := [("math/bits.deBruijn32tab", laid_math_bits_deBruijn32tab), ("math/bits.deBruijn64tab", laid_math_bits_deBruijn64tab), ("internal/strconv.uint64pow10", laid_internal_strconv_uint64pow10), ("strconv.ErrRange", laid_strconv_ErrRange), ("strconv.ErrSyntax", laid_strconv_ErrSyntax), ("seamark/rule.kindWords", laid_seamark_rule_kindWords)], narrowed := true }
def RuleErrorsUptoSaid : Prop := ruleErrorsUptoRow.holds Tryz.pinned (OpenSpec.upto ruleErrorsSpec)

/-- 'seamarklaw12.RuleAgain', WHERE WHAT IT READS IS OF BULK AT MOST 1048576: true; the input reads as it did. -/
def ruleAgainUptoRow : OpenClaim := { program := "ytfeccolljfkejaagreatdoor", sum := "25c5097f40d0e0fbdea7ee56f21bd620a34a192bd1b28ad573224b2dae060885", func := "seamark/seamarklaw12.RuleAgain", spec := "ruleAgain", inPlace := ["internal/abi.NoEscape"], unfollowed := true, recurses := true, named := ["seamark/rule.kindWords", "strconv.ErrSyntax", "strconv.ErrRange", "internal/strconv.uint64pow10", "math/bits.deBruijn32tab", "math/bits.deBruijn64tab"], apart := false, laid := [("math/bits.deBruijn32tab", laid_math_bits_deBruijn32tab), ("math/bits.deBruijn64tab", laid_math_bits_deBruijn64tab), ("internal/strconv.uint64pow10", laid_internal_strconv_uint64pow10), ("strconv.ErrRange", laid_strconv_ErrRange), ("strconv.ErrSyntax", laid_strconv_ErrSyntax), ("seamark/rule.kindWords", laid_seamark_rule_kindWords)], narrowed := true }
def RuleAgainUptoSaid : Prop := ruleAgainUptoRow.holds Tryz.pinned (OpenSpec.upto ruleAgainSpec)

/-- 'seamarklaw12.RuleCaps', WHERE WHAT IT READS IS OF BULK AT MOST 1048576: true; the input reads as it did. -/
def ruleCapsUptoRow : OpenClaim := { program := "ytfeccolljfkejaagreatdoor", sum := "25c5097f40d0e0fbdea7ee56f21bd620a34a192bd1b28ad573224b2dae060885", func := "seamark/seamarklaw12.RuleCaps", spec := "ruleCaps", inPlace := ["internal/abi.NoEscape"], unfollowed := true, recurses := true, named := ["seamark/rule.kindWords", "strconv.ErrSyntax", "strconv.ErrRange", "internal/strconv.uint64pow10", "math/bits.deBruijn32tab", "math/bits.deBruijn64tab"], apart := false, laid := [("math/bits.deBruijn32tab", laid_math_bits_deBruijn32tab), ("math/bits.deBruijn64tab", laid_math_bits_deBruijn64tab), ("internal/strconv.uint64pow10", laid_internal_strconv_uint64pow10), ("strconv.ErrRange", laid_strconv_ErrRange), ("strconv.ErrSyntax", laid_strconv_ErrSyntax), ("seamark/rule.kindWords", laid_seamark_rule_kindWords)], narrowed := true }
def RuleCapsUptoSaid : Prop := ruleCapsUptoRow.holds Tryz.pinned (OpenSpec.upto ruleCapsSpec)

/-- 'seamarklaw12.RuleMatchesReference', WHERE WHAT IT READS IS OF BULK AT MOST 1048576: true; the input reads as it did. -/
def ruleMatchesReferenceUptoRow : OpenClaim := { program := "ytfeccolljfkejaagreatdoor", sum := "25c5097f40d0e0fbdea7ee56f21bd620a34a192bd1b28ad573224b2dae060885", func := "seamark/seamarklaw12.RuleMatchesReference", spec := "ruleMatchesReference", inPlace := ["internal/abi.NoEscape"], unfollowed := true, recurses := true, named := ["seamark/rule.kindWords", "strconv.ErrSyntax", "strconv.ErrRange", "internal/strconv.uint64pow10", "math/bits.deBruijn32tab", "math/bits.deBruijn64tab"], apart := false, laid := [("math/bits.deBruijn32tab", laid_math_bits_deBruijn32tab), ("math/bits.deBruijn64tab", laid_math_bits_deBruijn64tab), ("internal/strconv.uint64pow10", laid_internal_strconv_uint64pow10), ("strconv.ErrRange", laid_strconv_ErrRange), ("strconv.ErrSyntax", laid_strconv_ErrSyntax), ("seamark/rule.kindWords", laid_seamark_rule_kindWords)], narrowed := true }
def RuleMatchesReferenceUptoSaid : Prop := ruleMatchesReferenceUptoRow.holds Tryz.pinned (OpenSpec.upto ruleMatchesReferenceSpec)

/-- 'seamarklaw12.RuleKinds', WHERE WHAT IT READS IS OF BULK AT MOST 1048576: true; the input reads as it did. -/
def ruleKindsUptoRow : OpenClaim := { program := "ytfeccolljfkejaagreatdoor", sum := "25c5097f40d0e0fbdea7ee56f21bd620a34a192bd1b28ad573224b2dae060885", func := "seamark/seamarklaw12.RuleKinds", spec := "ruleKinds", inPlace := ["internal/abi.NoEscape"], unfollowed := true, recurses := true, named := ["seamark/rule.kindWords", "strconv.ErrSyntax", "strconv.ErrRange", "internal/strconv.uint64pow10", "math/bits.deBruijn32tab", "math/bits.deBruijn64tab"], apart := false, laid := [("math/bits.deBruijn32tab", laid_math_bits_deBruijn32tab), ("math/bits.deBruijn64tab", laid_math_bits_deBruijn64tab), ("internal/strconv.uint64pow10", laid_internal_strconv_uint64pow10), ("strconv.ErrRange", laid_strconv_ErrRange), ("strconv.ErrSyntax", laid_strconv_ErrSyntax), ("seamark/rule.kindWords", laid_seamark_rule_kindWords)], narrowed := true }
def RuleKindsUptoSaid : Prop := ruleKindsUptoRow.holds Tryz.pinned (OpenSpec.upto ruleKindsSpec)

/-- 'seamarklaw12.RuleShoaler', WHERE WHAT IT READS IS OF BULK AT MOST 1048576: true; the input reads as it did. -/
def ruleShoalerUptoRow : OpenClaim := { program := "ytfeccolljfkejaagreatdoor", sum := "25c5097f40d0e0fbdea7ee56f21bd620a34a192bd1b28ad573224b2dae060885", func := "seamark/seamarklaw12.RuleShoaler", spec := "ruleShoaler", inPlace := ["internal/abi.NoEscape"], unfollowed := true, recurses := true, named := ["seamark/rule.kindWords", "strconv.ErrSyntax", "strconv.ErrRange", "internal/strconv.uint64pow10", "math/bits.deBruijn32tab", "math/bits.deBruijn64tab"], apart := false, laid := [("math/bits.deBruijn32tab", laid_math_bits_deBruijn32tab), ("math/bits.deBruijn64tab", laid_math_bits_deBruijn64tab), ("internal/strconv.uint64pow10", laid_internal_strconv_uint64pow10), ("strconv.ErrRange", laid_strconv_ErrRange), ("strconv.ErrSyntax", laid_strconv_ErrSyntax), ("seamark/rule.kindWords", laid_seamark_rule_kindWords)], narrowed := true }
def RuleShoalerUptoSaid : Prop := ruleShoalerUptoRow.holds Tryz.pinned (OpenSpec.upto ruleShoalerSpec)

/-- 'seamarklaw12.RuleStands', WHERE WHAT IT READS IS OF BULK AT MOST 1048576: true; the input reads as it did. -/
def ruleStandsUptoRow : OpenClaim := { program := "ytfeccolljfkejaagreatdoor", sum := "25c5097f40d0e0fbdea7ee56f21bd620a34a192bd1b28ad573224b2dae060885", func := "seamark/seamarklaw12.RuleStands", spec := "ruleStands", inPlace := ["internal/abi.NoEscape"], unfollowed := true, recurses := true, named := ["seamark/rule.kindWords", "strconv.ErrSyntax", "strconv.ErrRange", "internal/strconv.uint64pow10", "math/bits.deBruijn32tab", "math/bits.deBruijn64tab"], apart := false, laid := [("math/bits.deBruijn32tab", laid_math_bits_deBruijn32tab), ("math/bits.deBruijn64tab", laid_math_bits_deBruijn64tab), ("internal/strconv.uint64pow10", laid_internal_strconv_uint64pow10), ("strconv.ErrRange", laid_strconv_ErrRange), ("strconv.ErrSyntax", laid_strconv_ErrSyntax), ("seamark/rule.kindWords", laid_seamark_rule_kindWords)], narrowed := true }
def RuleStandsUptoSaid : Prop := ruleStandsUptoRow.holds Tryz.pinned (OpenSpec.upto ruleStandsSpec)

end Rows
end Go.Proofs.YtfeccolljfkejaaGreatDoor
