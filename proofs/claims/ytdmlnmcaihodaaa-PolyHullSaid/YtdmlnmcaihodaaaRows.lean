/-
  No cell of these rows narrows 'for every input' (looked for: loops, veiled, ifaces, maps, wideKeys, modest, calm, conditions, laid).
  DERIVED. THE GIVEN ROWS OF THIS SEAT. 7 by the template 'for every input the law returns true; each argument reads behind the call as it read before'; 0 by the template 'total and deterministic' (their statements: YtdmlnmcaihodaaaTotals.lean).
  GIVEN WITH THE SEED: the statements are not yours to turn. If you find one false, say at which input.
  Laid BY PROGRAM, IN A SANDBOX (cutbox-rows.mjs): the forced cells as the released guide's own fill.sh prints them over the translation ecc09f62b831a117… (all of the seat's roots in one cut). By AI agents, Wed Nov 11 2026. No macro, syntax, notation, axiom, sorry.
-/
import Derived.Test.YtdmlnmcaihodaaaChecked
import GoSem.Claim
import GoSem.ClaimJoined
import GoSem.ClaimMapViews
import Derived.JoinedTies
import Derived.KernelRfl
namespace Go.Proofs.Ytdmlnmcaihodaaa
/- THE CELL 'sum', in the pinned program and in every row, IS THE sha256 OF THE DUMP (.gsa) THAT YtdmlnmcaihodaaaProg.lean LOADS. Nothing in Lean hashes anything: it is a label: what it is worth is what the hold of that sum in a sandbox is worth. -/
noncomputable def Try.pinned : Pinned := { name := "ytdmlnmcaihodaaa", sum := "ecc09f62b831a117cc1d08eb0d66cd1103d9b45d8e72452f81164d01096e03df", checked := Try.checked }
namespace Rows
def none {H : Type} : Left H := { results := [], args := [] }

/-- 'seamarklaw03.PolyArea': WHATEVER THE INPUT: true; the input reads as it did. -/
def polyAreaSpec : ChangeSpec := { name := "polyArea", fn := fun _ => fun
  | [d1, d2] => { results := [.lit (.bool true)], args := [d1, d2] }
  | _ => none }
def polyAreaRow : OpenClaim := { program := "ytdmlnmcaihodaaa", sum := "ecc09f62b831a117cc1d08eb0d66cd1103d9b45d8e72452f81164d01096e03df", func := "seamark/seamarklaw03.PolyArea", spec := "polyArea", unfollowed := true, recurses := true, apart := false }
def PolyAreaSaid : Prop := polyAreaRow.holds Try.pinned (OpenSpec.ofChange polyAreaSpec)

/-- ITS FALSE NEIGHBOUR: 'it returns false'. Refute it at one input. -/
def polyAreaWrong : ChangeSpec := { name := "polyArea", fn := fun _ => fun
  | [d1, d2] => { results := [.lit (.bool false)], args := [d1, d2] }
  | _ => none }
def PolyAreaWrongFalsely : Prop := polyAreaRow.holds Try.pinned (OpenSpec.ofChange polyAreaWrong)

/-- 'seamarklaw03.PolyInside': WHATEVER THE INPUT: true; the input reads as it did. -/
def polyInsideSpec : ChangeSpec := { name := "polyInside", fn := fun _ => fun
  | [d1, d2, d3] => { results := [.lit (.bool true)], args := [d1, d2, d3] }
  | _ => none }
def polyInsideRow : OpenClaim := { program := "ytdmlnmcaihodaaa", sum := "ecc09f62b831a117cc1d08eb0d66cd1103d9b45d8e72452f81164d01096e03df", func := "seamark/seamarklaw03.PolyInside", spec := "polyInside", unfollowed := true, recurses := true, apart := false }
def PolyInsideSaid : Prop := polyInsideRow.holds Try.pinned (OpenSpec.ofChange polyInsideSpec)

/-- ITS FALSE NEIGHBOUR: 'it returns false'. Refute it at one input. -/
def polyInsideWrong : ChangeSpec := { name := "polyInside", fn := fun _ => fun
  | [d1, d2, d3] => { results := [.lit (.bool false)], args := [d1, d2, d3] }
  | _ => none }
def PolyInsideWrongFalsely : Prop := polyInsideRow.holds Try.pinned (OpenSpec.ofChange polyInsideWrong)

/-- 'seamarklaw03.PolyDisc': WHATEVER THE INPUT: true; the input reads as it did. -/
def polyDiscSpec : ChangeSpec := { name := "polyDisc", fn := fun _ => fun
  | [d1, d2, d3, d4, d5] => { results := [.lit (.bool true)], args := [d1, d2, d3, d4, d5] }
  | _ => none }
def polyDiscRow : OpenClaim := { program := "ytdmlnmcaihodaaa", sum := "ecc09f62b831a117cc1d08eb0d66cd1103d9b45d8e72452f81164d01096e03df", func := "seamark/seamarklaw03.PolyDisc", spec := "polyDisc", unfollowed := true, recurses := true, apart := false }
def PolyDiscSaid : Prop := polyDiscRow.holds Try.pinned (OpenSpec.ofChange polyDiscSpec)

/-- ITS FALSE NEIGHBOUR: 'it returns false'. Refute it at one input. -/
def polyDiscWrong : ChangeSpec := { name := "polyDisc", fn := fun _ => fun
  | [d1, d2, d3, d4, d5] => { results := [.lit (.bool false)], args := [d1, d2, d3, d4, d5] }
  | _ => none }
def PolyDiscWrongFalsely : Prop := polyDiscRow.holds Try.pinned (OpenSpec.ofChange polyDiscWrong)

/-- 'seamarklaw03.PolyHull': WHATEVER THE INPUT: true; the input reads as it did. -/
def polyHullSpec : ChangeSpec := { name := "polyHull", fn := fun _ => fun
  | [d1, d2] => { results := [.lit (.bool true)], args := [d1, d2] }
  | _ => none }
def polyHullRow : OpenClaim := { program := "ytdmlnmcaihodaaa", sum := "ecc09f62b831a117cc1d08eb0d66cd1103d9b45d8e72452f81164d01096e03df", func := "seamark/seamarklaw03.PolyHull", spec := "polyHull", unfollowed := true, recurses := true, apart := false }
def PolyHullSaid : Prop := polyHullRow.holds Try.pinned (OpenSpec.ofChange polyHullSpec)

/-- ITS FALSE NEIGHBOUR: 'it returns false'. Refute it at one input. -/
def polyHullWrong : ChangeSpec := { name := "polyHull", fn := fun _ => fun
  | [d1, d2] => { results := [.lit (.bool false)], args := [d1, d2] }
  | _ => none }
def PolyHullWrongFalsely : Prop := polyHullRow.holds Try.pinned (OpenSpec.ofChange polyHullWrong)

/-- 'seamarklaw03.PolyTouch': WHATEVER THE INPUT: true; the input reads as it did. -/
def polyTouchSpec : ChangeSpec := { name := "polyTouch", fn := fun _ => fun
  | [d1, d2, d3] => { results := [.lit (.bool true)], args := [d1, d2, d3] }
  | _ => none }
def polyTouchRow : OpenClaim := { program := "ytdmlnmcaihodaaa", sum := "ecc09f62b831a117cc1d08eb0d66cd1103d9b45d8e72452f81164d01096e03df", func := "seamark/seamarklaw03.PolyTouch", spec := "polyTouch", unfollowed := true, recurses := true, apart := false }
def PolyTouchSaid : Prop := polyTouchRow.holds Try.pinned (OpenSpec.ofChange polyTouchSpec)

/-- ITS FALSE NEIGHBOUR: 'it returns false'. Refute it at one input. -/
def polyTouchWrong : ChangeSpec := { name := "polyTouch", fn := fun _ => fun
  | [d1, d2, d3] => { results := [.lit (.bool false)], args := [d1, d2, d3] }
  | _ => none }
def PolyTouchWrongFalsely : Prop := polyTouchRow.holds Try.pinned (OpenSpec.ofChange polyTouchWrong)

/-- 'seamarklaw03.PolyHolds': WHATEVER THE INPUT: true; the input reads as it did. -/
def polyHoldsSpec : ChangeSpec := { name := "polyHolds", fn := fun _ => fun
  | [d1, d2, d3, d4] => { results := [.lit (.bool true)], args := [d1, d2, d3, d4] }
  | _ => none }
def polyHoldsRow : OpenClaim := { program := "ytdmlnmcaihodaaa", sum := "ecc09f62b831a117cc1d08eb0d66cd1103d9b45d8e72452f81164d01096e03df", func := "seamark/seamarklaw03.PolyHolds", spec := "polyHolds", unfollowed := true, recurses := true, apart := false }
def PolyHoldsSaid : Prop := polyHoldsRow.holds Try.pinned (OpenSpec.ofChange polyHoldsSpec)

/-- ITS FALSE NEIGHBOUR: 'it returns false'. Refute it at one input. -/
def polyHoldsWrong : ChangeSpec := { name := "polyHolds", fn := fun _ => fun
  | [d1, d2, d3, d4] => { results := [.lit (.bool false)], args := [d1, d2, d3, d4] }
  | _ => none }
def PolyHoldsWrongFalsely : Prop := polyHoldsRow.holds Try.pinned (OpenSpec.ofChange polyHoldsWrong)

/-- 'seamarklaw03.PolyBox': WHATEVER THE INPUT: true; the input reads as it did. -/
def polyBoxSpec : ChangeSpec := { name := "polyBox", fn := fun _ => fun
  | [d1, d2] => { results := [.lit (.bool true)], args := [d1, d2] }
  | _ => none }
def polyBoxRow : OpenClaim := { program := "ytdmlnmcaihodaaa", sum := "ecc09f62b831a117cc1d08eb0d66cd1103d9b45d8e72452f81164d01096e03df", func := "seamark/seamarklaw03.PolyBox", spec := "polyBox", unfollowed := true, recurses := true, apart := false }
def PolyBoxSaid : Prop := polyBoxRow.holds Try.pinned (OpenSpec.ofChange polyBoxSpec)

/-- ITS FALSE NEIGHBOUR: 'it returns false'. Refute it at one input. -/
def polyBoxWrong : ChangeSpec := { name := "polyBox", fn := fun _ => fun
  | [d1, d2] => { results := [.lit (.bool false)], args := [d1, d2] }
  | _ => none }
def PolyBoxWrongFalsely : Prop := polyBoxRow.holds Try.pinned (OpenSpec.ofChange polyBoxWrong)

/- THE SECOND FORM. 'bulk': how many values and letters a reading holds, each counted each time it is reached (what is shared counts as often as it is met; a slice's spare places count too). A statement '..UptoSaid' is the law's where the arguments, and the package variables that the reading takes, are together of bulk at most 1048576: NARROWER than '..Said'. Prove '..Said' where nothing that the law and all that it calls make is longer than what came in: it says more and counts as full. Else prove '..UptoSaid'. A law counts once. -/
mutual
def uptoBulk {H : Type} : DataW H → Nat
  | .lit (.string bytes) => bytes.length + 1
  | .lit _ => 1
  | .nil => 1
  | .ptr d => uptoBulk d + 1
  | .slice elems spare => uptoBulkAll elems + uptoBulkAll spare + 1
  | .agg parts => uptoBulkAll parts + 1
  | .iface _ d => uptoBulk d + 1
  | .map entries => uptoBulkEntries entries + 1
  | .held _ => 1
def uptoBulkAll {H : Type} : List (DataW H) → Nat
  | [] => 0
  | d :: r => uptoBulk d + uptoBulkAll r
def uptoBulkEntries {H : Type} : List (Lit × DataW H) → Nat
  | [] => 0
  | x :: r => uptoBulkEntry x + uptoBulkEntries r
def uptoBulkEntry {H : Type} : Lit × DataW H → Nat
  | (.string bytes, d) => bytes.length + uptoBulk d + 1
  | (_, d) => uptoBulk d + 1
 end
def uptoSmall : (H : Type) → List (DataW H) → Bool := fun _ ds => decide (uptoBulkAll ds ≤ 1048576)
def OpenSpec.upto (s : _root_.Go.ChangeSpec) : _root_.Go.OpenSpec := { _root_.Go.OpenSpec.ofChange s with cond := some uptoSmall }

/-- 'seamarklaw03.PolyArea', WHERE WHAT IT READS IS OF BULK AT MOST 1048576: true; the input reads as it did. -/
def polyAreaUptoRow : OpenClaim := { program := "ytdmlnmcaihodaaa", sum := "ecc09f62b831a117cc1d08eb0d66cd1103d9b45d8e72452f81164d01096e03df", func := "seamark/seamarklaw03.PolyArea", spec := "polyArea", unfollowed := true, recurses := true, apart := false, narrowed := true }
def PolyAreaUptoSaid : Prop := polyAreaUptoRow.holds Try.pinned (OpenSpec.upto polyAreaSpec)

/-- 'seamarklaw03.PolyInside', WHERE WHAT IT READS IS OF BULK AT MOST 1048576: true; the input reads as it did. -/
def polyInsideUptoRow : OpenClaim := { program := "ytdmlnmcaihodaaa", sum := "ecc09f62b831a117cc1d08eb0d66cd1103d9b45d8e72452f81164d01096e03df", func := "seamark/seamarklaw03.PolyInside", spec := "polyInside", unfollowed := true, recurses := true, apart := false, narrowed := true }
def PolyInsideUptoSaid : Prop := polyInsideUptoRow.holds Try.pinned (OpenSpec.upto polyInsideSpec)

/-- 'seamarklaw03.PolyDisc', WHERE WHAT IT READS IS OF BULK AT MOST 1048576: true; the input reads as it did. -/
def polyDiscUptoRow : OpenClaim := { program := "ytdmlnmcaihodaaa", sum := "ecc09f62b831a117cc1d08eb0d66cd1103d9b45d8e72452f81164d01096e03df", func := "seamark/seamarklaw03.PolyDisc", spec := "polyDisc", unfollowed := true, recurses := true, apart := false, narrowed := true }
def PolyDiscUptoSaid : Prop := polyDiscUptoRow.holds Try.pinned (OpenSpec.upto polyDiscSpec)

/-- 'seamarklaw03.PolyHull', WHERE WHAT IT READS IS OF BULK AT MOST 1048576: true; the input reads as it did. -/
def polyHullUptoRow : OpenClaim := { program := "ytdmlnmcaihodaaa", sum := "ecc09f62b831a117cc1d08eb0d66cd1103d9b45d8e72452f81164d01096e03df", func := "seamark/seamarklaw03.PolyHull", spec := "polyHull", unfollowed := true, recurses := true, apart := false, narrowed := true }
def PolyHullUptoSaid : Prop := polyHullUptoRow.holds Try.pinned (OpenSpec.upto polyHullSpec)

/-- 'seamarklaw03.PolyTouch', WHERE WHAT IT READS IS OF BULK AT MOST 1048576: true; the input reads as it did. -/
def polyTouchUptoRow : OpenClaim := { program := "ytdmlnmcaihodaaa", sum := "ecc09f62b831a117cc1d08eb0d66cd1103d9b45d8e72452f81164d01096e03df", func := "seamark/seamarklaw03.PolyTouch", spec := "polyTouch", unfollowed := true, recurses := true, apart := false, narrowed := true }
def PolyTouchUptoSaid : Prop := polyTouchUptoRow.holds Try.pinned (OpenSpec.upto polyTouchSpec)

/-- 'seamarklaw03.PolyHolds', WHERE WHAT IT READS IS OF BULK AT MOST 1048576: true; the input reads as it did. -/
def polyHoldsUptoRow : OpenClaim := { program := "ytdmlnmcaihodaaa", sum := "ecc09f62b831a117cc1d08eb0d66cd1103d9b45d8e72452f81164d01096e03df", func := "seamark/seamarklaw03.PolyHolds", spec := "polyHolds", unfollowed := true, recurses := true, apart := false, narrowed := true }
def PolyHoldsUptoSaid : Prop := polyHoldsUptoRow.holds Try.pinned (OpenSpec.upto polyHoldsSpec)

/-- 'seamarklaw03.PolyBox', WHERE WHAT IT READS IS OF BULK AT MOST 1048576: true; the input reads as it did. -/
def polyBoxUptoRow : OpenClaim := { program := "ytdmlnmcaihodaaa", sum := "ecc09f62b831a117cc1d08eb0d66cd1103d9b45d8e72452f81164d01096e03df", func := "seamark/seamarklaw03.PolyBox", spec := "polyBox", unfollowed := true, recurses := true, apart := false, narrowed := true }
def PolyBoxUptoSaid : Prop := polyBoxUptoRow.holds Try.pinned (OpenSpec.upto polyBoxSpec)

end Rows
end Go.Proofs.Ytdmlnmcaihodaaa
