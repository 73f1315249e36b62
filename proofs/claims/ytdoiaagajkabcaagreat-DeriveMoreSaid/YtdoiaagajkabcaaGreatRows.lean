/-
  No cell of these rows narrows 'for every input' (looked for: loops, veiled, ifaces, maps, wideKeys, modest, calm, conditions, laid).
  DERIVED. THE GIVEN ROWS OF THIS SEAT. 8 by the template 'for every input the law returns true; each argument reads behind the call as it read before'; 0 by the template 'total and deterministic' (their statements: YtdoiaagajkabcaaGreatTotals.lean).
  GIVEN WITH THE SEED: the statements are not yours to turn. If you find one false, say at which input.
  Laid BY PROGRAM, IN A SANDBOX (cutbox-rows.mjs): the forced cells as the released guide's own fill.sh prints them over the translation b7018de73eeb4672… (all of the seat's roots in one cut). By AI agents, Wed Nov 11 2026. No macro, syntax, notation, axiom, sorry.
-/
import Derived.Test.YtdoiaagajkabcaaGreatChecked
import GoSem.Claim
import GoSem.ClaimJoined
import GoSem.ClaimMapViews
import Derived.JoinedTies
import Derived.KernelRfl
namespace Go.Proofs.YtdoiaagajkabcaaGreat
/- THE CELL 'sum', in the pinned program and in every row, IS THE sha256 OF THE DUMP (.gsa) THAT YtdoiaagajkabcaaGreatProg.lean LOADS. Nothing in Lean hashes anything: it is a label: what it is worth is what the hold of that sum in a sandbox is worth. -/
noncomputable def Tryz.pinned : Pinned := { name := "ytdoiaagajkabcaagreat", sum := "b7018de73eeb467236219e1087870e13bea3fed44105c3c7a26124246b8b07ef", checked := Tryz.checked }
namespace Rows
def none {H : Type} : Left H := { results := [], args := [] }

/-- 'seamarklaw13.DeriveMatchesReference': WHATEVER THE INPUT: true; the input reads as it did. -/
def deriveMatchesReferenceSpec : ChangeSpec := { name := "deriveMatchesReference", fn := fun _ => fun
  | [d1, d2, d3, d4, d5, d6, d7] => { results := [.lit (.bool true)], args := [d1, d2, d3, d4, d5, d6, d7] }
  | _ => none }
def deriveMatchesReferenceRow : OpenClaim := { program := "ytdoiaagajkabcaagreat", sum := "b7018de73eeb467236219e1087870e13bea3fed44105c3c7a26124246b8b07ef", func := "seamark/seamarklaw13.DeriveMatchesReference", spec := "deriveMatchesReference", unfollowed := true, recurses := true, apart := false }
def DeriveMatchesReferenceSaid : Prop := deriveMatchesReferenceRow.holds Tryz.pinned (OpenSpec.ofChange deriveMatchesReferenceSpec)

/-- ITS FALSE NEIGHBOUR: 'it returns false'. Refute it at one input. -/
def deriveMatchesReferenceWrong : ChangeSpec := { name := "deriveMatchesReference", fn := fun _ => fun
  | [d1, d2, d3, d4, d5, d6, d7] => { results := [.lit (.bool false)], args := [d1, d2, d3, d4, d5, d6, d7] }
  | _ => none }
def DeriveMatchesReferenceWrongFalsely : Prop := deriveMatchesReferenceRow.holds Tryz.pinned (OpenSpec.ofChange deriveMatchesReferenceWrong)

/-- 'seamarklaw13.DeriveCertified': WHATEVER THE INPUT: true; the input reads as it did. -/
def deriveCertifiedSpec : ChangeSpec := { name := "deriveCertified", fn := fun _ => fun
  | [d1, d2] => { results := [.lit (.bool true)], args := [d1, d2] }
  | _ => none }
def deriveCertifiedRow : OpenClaim := { program := "ytdoiaagajkabcaagreat", sum := "b7018de73eeb467236219e1087870e13bea3fed44105c3c7a26124246b8b07ef", func := "seamark/seamarklaw13.DeriveCertified", spec := "deriveCertified", unfollowed := true, recurses := true, apart := false }
def DeriveCertifiedSaid : Prop := deriveCertifiedRow.holds Tryz.pinned (OpenSpec.ofChange deriveCertifiedSpec)

/-- ITS FALSE NEIGHBOUR: 'it returns false'. Refute it at one input. -/
def deriveCertifiedWrong : ChangeSpec := { name := "deriveCertified", fn := fun _ => fun
  | [d1, d2] => { results := [.lit (.bool false)], args := [d1, d2] }
  | _ => none }
def DeriveCertifiedWrongFalsely : Prop := deriveCertifiedRow.holds Tryz.pinned (OpenSpec.ofChange deriveCertifiedWrong)

/-- 'seamarklaw13.DeriveSafe': WHATEVER THE INPUT: true; the input reads as it did. -/
def deriveSafeSpec : ChangeSpec := { name := "deriveSafe", fn := fun _ => fun
  | [d1, d2, d3, d4, d5] => { results := [.lit (.bool true)], args := [d1, d2, d3, d4, d5] }
  | _ => none }
def deriveSafeRow : OpenClaim := { program := "ytdoiaagajkabcaagreat", sum := "b7018de73eeb467236219e1087870e13bea3fed44105c3c7a26124246b8b07ef", func := "seamark/seamarklaw13.DeriveSafe", spec := "deriveSafe", unfollowed := true, recurses := true, apart := false }
def DeriveSafeSaid : Prop := deriveSafeRow.holds Tryz.pinned (OpenSpec.ofChange deriveSafeSpec)

/-- ITS FALSE NEIGHBOUR: 'it returns false'. Refute it at one input. -/
def deriveSafeWrong : ChangeSpec := { name := "deriveSafe", fn := fun _ => fun
  | [d1, d2, d3, d4, d5] => { results := [.lit (.bool false)], args := [d1, d2, d3, d4, d5] }
  | _ => none }
def DeriveSafeWrongFalsely : Prop := deriveSafeRow.holds Tryz.pinned (OpenSpec.ofChange deriveSafeWrong)

/-- 'seamarklaw13.DeriveProvable': WHATEVER THE INPUT: true; the input reads as it did. -/
def deriveProvableSpec : ChangeSpec := { name := "deriveProvable", fn := fun _ => fun
  | [d1, d2, d3, d4] => { results := [.lit (.bool true)], args := [d1, d2, d3, d4] }
  | _ => none }
def deriveProvableRow : OpenClaim := { program := "ytdoiaagajkabcaagreat", sum := "b7018de73eeb467236219e1087870e13bea3fed44105c3c7a26124246b8b07ef", func := "seamark/seamarklaw13.DeriveProvable", spec := "deriveProvable", unfollowed := true, recurses := true, apart := false }
def DeriveProvableSaid : Prop := deriveProvableRow.holds Tryz.pinned (OpenSpec.ofChange deriveProvableSpec)

/-- ITS FALSE NEIGHBOUR: 'it returns false'. Refute it at one input. -/
def deriveProvableWrong : ChangeSpec := { name := "deriveProvable", fn := fun _ => fun
  | [d1, d2, d3, d4] => { results := [.lit (.bool false)], args := [d1, d2, d3, d4] }
  | _ => none }
def DeriveProvableWrongFalsely : Prop := deriveProvableRow.holds Tryz.pinned (OpenSpec.ofChange deriveProvableWrong)

/-- 'seamarklaw13.DeriveAgain': WHATEVER THE INPUT: true; the input reads as it did. -/
def deriveAgainSpec : ChangeSpec := { name := "deriveAgain", fn := fun _ => fun
  | [d1, d2, d3, d4, d5, d6, d7] => { results := [.lit (.bool true)], args := [d1, d2, d3, d4, d5, d6, d7] }
  | _ => none }
def deriveAgainRow : OpenClaim := { program := "ytdoiaagajkabcaagreat", sum := "b7018de73eeb467236219e1087870e13bea3fed44105c3c7a26124246b8b07ef", func := "seamark/seamarklaw13.DeriveAgain", spec := "deriveAgain", unfollowed := true, recurses := true, apart := false }
def DeriveAgainSaid : Prop := deriveAgainRow.holds Tryz.pinned (OpenSpec.ofChange deriveAgainSpec)

/-- ITS FALSE NEIGHBOUR: 'it returns false'. Refute it at one input. -/
def deriveAgainWrong : ChangeSpec := { name := "deriveAgain", fn := fun _ => fun
  | [d1, d2, d3, d4, d5, d6, d7] => { results := [.lit (.bool false)], args := [d1, d2, d3, d4, d5, d6, d7] }
  | _ => none }
def DeriveAgainWrongFalsely : Prop := deriveAgainRow.holds Tryz.pinned (OpenSpec.ofChange deriveAgainWrong)

/-- 'seamarklaw13.DeriveSteps': WHATEVER THE INPUT: true; the input reads as it did. -/
def deriveStepsSpec : ChangeSpec := { name := "deriveSteps", fn := fun _ => fun
  | [d1, d2, d3] => { results := [.lit (.bool true)], args := [d1, d2, d3] }
  | _ => none }
def deriveStepsRow : OpenClaim := { program := "ytdoiaagajkabcaagreat", sum := "b7018de73eeb467236219e1087870e13bea3fed44105c3c7a26124246b8b07ef", func := "seamark/seamarklaw13.DeriveSteps", spec := "deriveSteps", unfollowed := true, recurses := true, apart := false }
def DeriveStepsSaid : Prop := deriveStepsRow.holds Tryz.pinned (OpenSpec.ofChange deriveStepsSpec)

/-- ITS FALSE NEIGHBOUR: 'it returns false'. Refute it at one input. -/
def deriveStepsWrong : ChangeSpec := { name := "deriveSteps", fn := fun _ => fun
  | [d1, d2, d3] => { results := [.lit (.bool false)], args := [d1, d2, d3] }
  | _ => none }
def DeriveStepsWrongFalsely : Prop := deriveStepsRow.holds Tryz.pinned (OpenSpec.ofChange deriveStepsWrong)

/-- 'seamarklaw13.DeriveLimits': WHATEVER THE INPUT: true; the input reads as it did. -/
def deriveLimitsSpec : ChangeSpec := { name := "deriveLimits", fn := fun _ => fun
  | [d1, d2, d3, d4, d5] => { results := [.lit (.bool true)], args := [d1, d2, d3, d4, d5] }
  | _ => none }
def deriveLimitsRow : OpenClaim := { program := "ytdoiaagajkabcaagreat", sum := "b7018de73eeb467236219e1087870e13bea3fed44105c3c7a26124246b8b07ef", func := "seamark/seamarklaw13.DeriveLimits", spec := "deriveLimits", unfollowed := true, recurses := true, apart := false }
def DeriveLimitsSaid : Prop := deriveLimitsRow.holds Tryz.pinned (OpenSpec.ofChange deriveLimitsSpec)

/-- ITS FALSE NEIGHBOUR: 'it returns false'. Refute it at one input. -/
def deriveLimitsWrong : ChangeSpec := { name := "deriveLimits", fn := fun _ => fun
  | [d1, d2, d3, d4, d5] => { results := [.lit (.bool false)], args := [d1, d2, d3, d4, d5] }
  | _ => none }
def DeriveLimitsWrongFalsely : Prop := deriveLimitsRow.holds Tryz.pinned (OpenSpec.ofChange deriveLimitsWrong)

/-- 'seamarklaw13.DeriveMore': WHATEVER THE INPUT: true; the input reads as it did. -/
def deriveMoreSpec : ChangeSpec := { name := "deriveMore", fn := fun _ => fun
  | [d1, d2, d3, d4, d5, d6] => { results := [.lit (.bool true)], args := [d1, d2, d3, d4, d5, d6] }
  | _ => none }
def deriveMoreRow : OpenClaim := { program := "ytdoiaagajkabcaagreat", sum := "b7018de73eeb467236219e1087870e13bea3fed44105c3c7a26124246b8b07ef", func := "seamark/seamarklaw13.DeriveMore", spec := "deriveMore", unfollowed := true, recurses := true, apart := false }
def DeriveMoreSaid : Prop := deriveMoreRow.holds Tryz.pinned (OpenSpec.ofChange deriveMoreSpec)

/-- ITS FALSE NEIGHBOUR: 'it returns false'. Refute it at one input. -/
def deriveMoreWrong : ChangeSpec := { name := "deriveMore", fn := fun _ => fun
  | [d1, d2, d3, d4, d5, d6] => { results := [.lit (.bool false)], args := [d1, d2, d3, d4, d5, d6] }
  | _ => none }
def DeriveMoreWrongFalsely : Prop := deriveMoreRow.holds Tryz.pinned (OpenSpec.ofChange deriveMoreWrong)

/- THE SECOND FORM. 'bulk': how many values and letters a reading holds, each counted each time it is reached (what is shared counts as often as it is met; a slice's spare places count too). A statement '..UptoSaid' is the law's where the arguments, and the package variables that the reading takes, are together of bulk at most 1048576: NARROWER than '..Said'. Prove '..Said' where nothing that the law and all that it calls make is longer than what came in: it says more and counts as full. Else prove '..UptoSaid'. A law counts once. -/
mutual
def uptoBulk {H : Type} : DataW H → Nat
  | .lit (.string bytes) => bytes.length + 1
  | .lit _ => 1
  | .nil => 1
  | .ptr d => uptoBulk d + 1
  | .slice elems spare => uptoBulkAll elems + uptoBulkAll spare + 1
  | .agg parts => uptoBulkAll parts + 1
  | .iface _ d => uptoBulk d + 1
  | .map entries => uptoBulkEntries entries + 1
  | .held _ => 1
def uptoBulkAll {H : Type} : List (DataW H) → Nat
  | [] => 0
  | d :: r => uptoBulk d + uptoBulkAll r
def uptoBulkEntries {H : Type} : List (Lit × DataW H) → Nat
  | [] => 0
  | x :: r => uptoBulkEntry x + uptoBulkEntries r
def uptoBulkEntry {H : Type} : Lit × DataW H → Nat
  | (.string bytes, d) => bytes.length + uptoBulk d + 1
  | (_, d) => uptoBulk d + 1
 end
def uptoSmall : (H : Type) → List (DataW H) → Bool := fun _ ds => decide (uptoBulkAll ds ≤ 1048576)
def OpenSpec.upto (s : _root_.Go.ChangeSpec) : _root_.Go.OpenSpec := { _root_.Go.OpenSpec.ofChange s with cond := some uptoSmall }

/-- 'seamarklaw13.DeriveMatchesReference', WHERE WHAT IT READS IS OF BULK AT MOST 1048576: true; the input reads as it did. -/
def deriveMatchesReferenceUptoRow : OpenClaim := { program := "ytdoiaagajkabcaagreat", sum := "b7018de73eeb467236219e1087870e13bea3fed44105c3c7a26124246b8b07ef", func := "seamark/seamarklaw13.DeriveMatchesReference", spec := "deriveMatchesReference", unfollowed := true, recurses := true, apart := false, narrowed := true }
def DeriveMatchesReferenceUptoSaid : Prop := deriveMatchesReferenceUptoRow.holds Tryz.pinned (OpenSpec.upto deriveMatchesReferenceSpec)

/-- 'seamarklaw13.DeriveCertified', WHERE WHAT IT READS IS OF BULK AT MOST 1048576: true; the input reads as it did. -/
def deriveCertifiedUptoRow : OpenClaim := { program := "ytdoiaagajkabcaagreat", sum := "b7018de73eeb467236219e1087870e13bea3fed44105c3c7a26124246b8b07ef", func := "seamark/seamarklaw13.DeriveCertified", spec := "deriveCertified", unfollowed := true, recurses := true, apart := false, narrowed := true }
def DeriveCertifiedUptoSaid : Prop := deriveCertifiedUptoRow.holds Tryz.pinned (OpenSpec.upto deriveCertifiedSpec)

/-- 'seamarklaw13.DeriveSafe', WHERE WHAT IT READS IS OF BULK AT MOST 1048576: true; the input reads as it did. -/
def deriveSafeUptoRow : OpenClaim := { program := "ytdoiaagajkabcaagreat", sum := "b7018de73eeb467236219e1087870e13bea3fed44105c3c7a26124246b8b07ef", func := "seamark/seamarklaw13.DeriveSafe", spec := "deriveSafe", unfollowed := true, recurses := true, apart := false, narrowed := true }
def DeriveSafeUptoSaid : Prop := deriveSafeUptoRow.holds Tryz.pinned (OpenSpec.upto deriveSafeSpec)

/-- 'seamarklaw13.DeriveProvable', WHERE WHAT IT READS IS OF BULK AT MOST 1048576: true; the input reads as it did. -/
def deriveProvableUptoRow : OpenClaim := { program := "ytdoiaagajkabcaagreat", sum := "b7018de73eeb467236219e1087870e13bea3fed44105c3c7a26124246b8b07ef", func := "seamark/seamarklaw13.DeriveProvable", spec := "deriveProvable", unfollowed := true, recurses := true, apart := false, narrowed := true }
def DeriveProvableUptoSaid : Prop := deriveProvableUptoRow.holds Tryz.pinned (OpenSpec.upto deriveProvableSpec)

/-- 'seamarklaw13.DeriveAgain', WHERE WHAT IT READS IS OF BULK AT MOST 1048576: true; the input reads as it did. -/
def deriveAgainUptoRow : OpenClaim := { program := "ytdoiaagajkabcaagreat", sum := "b7018de73eeb467236219e1087870e13bea3fed44105c3c7a26124246b8b07ef", func := "seamark/seamarklaw13.DeriveAgain", spec := "deriveAgain", unfollowed := true, recurses := true, apart := false, narrowed := true }
def DeriveAgainUptoSaid : Prop := deriveAgainUptoRow.holds Tryz.pinned (OpenSpec.upto deriveAgainSpec)

/-- 'seamarklaw13.DeriveSteps', WHERE WHAT IT READS IS OF BULK AT MOST 1048576: true; the input reads as it did. -/
def deriveStepsUptoRow : OpenClaim := { program := "ytdoiaagajkabcaagreat", sum := "b7018de73eeb467236219e1087870e13bea3fed44105c3c7a26124246b8b07ef", func := "seamark/seamarklaw13.DeriveSteps", spec := "deriveSteps", unfollowed := true, recurses := true, apart := false, narrowed := true }
def DeriveStepsUptoSaid : Prop := deriveStepsUptoRow.holds Tryz.pinned (OpenSpec.upto deriveStepsSpec)

/-- 'seamarklaw13.DeriveLimits', WHERE WHAT IT READS IS OF BULK AT MOST 1048576: true; the input reads as it did. -/
def deriveLimitsUptoRow : OpenClaim := { program := "ytdoiaagajkabcaagreat", sum := "b7018de73eeb467236219e1087870e13bea3fed44105c3c7a26124246b8b07ef", func := "seamark/seamarklaw13.DeriveLimits", spec := "deriveLimits", unfollowed := true, recurses := true, apart := false, narrowed := true }
def DeriveLimitsUptoSaid : Prop := deriveLimitsUptoRow.holds Tryz.pinned (OpenSpec.upto deriveLimitsSpec)

/-- 'seamarklaw13.DeriveMore', WHERE WHAT IT READS IS OF BULK AT MOST 1048576: true; the input reads as it did. -/
def deriveMoreUptoRow : OpenClaim := { program := "ytdoiaagajkabcaagreat", sum := "b7018de73eeb467236219e1087870e13bea3fed44105c3c7a26124246b8b07ef", func := "seamark/seamarklaw13.DeriveMore", spec := "deriveMore", unfollowed := true, recurses := true, apart := false, narrowed := true }
def DeriveMoreUptoSaid : Prop := deriveMoreUptoRow.holds Tryz.pinned (OpenSpec.upto deriveMoreSpec)

end Rows
end Go.Proofs.YtdoiaagajkabcaaGreat
