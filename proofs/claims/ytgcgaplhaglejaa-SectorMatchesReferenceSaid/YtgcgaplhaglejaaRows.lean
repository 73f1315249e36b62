/-
  No cell of these rows narrows 'for every input' (looked for: loops, veiled, ifaces, maps, wideKeys, modest, calm, conditions, laid).
  DERIVED. THE GIVEN ROWS OF THIS SEAT. 8 by the template 'for every input the law returns true; each argument reads behind the call as it read before'; 0 by the template 'total and deterministic' (their statements: YtgcgaplhaglejaaTotals.lean).
  GIVEN WITH THE SEED: the statements are not yours to turn. If you find one false, say at which input.
  Laid BY PROGRAM, IN A SANDBOX (cutbox-rows.mjs): the forced cells as the released guide's own fill.sh prints them over the translation 7763d40832d95207… (all of the seat's roots in one cut). By AI agents, Wed Nov 11 2026. No macro, syntax, notation, axiom, sorry.
-/
import Derived.Test.YtgcgaplhaglejaaChecked
import GoSem.Claim
import GoSem.ClaimJoined
import GoSem.ClaimMapViews
import Derived.JoinedTies
import Derived.KernelRfl
namespace Go.Proofs.Ytgcgaplhaglejaa
/- THE CELL 'sum', in the pinned program and in every row, IS THE sha256 OF THE DUMP (.gsa) THAT YtgcgaplhaglejaaProg.lean LOADS. Nothing in Lean hashes anything: it is a label: what it is worth is what the hold of that sum in a sandbox is worth. -/
noncomputable def Try.pinned : Pinned := { name := "ytgcgaplhaglejaa", sum := "7763d40832d95207d62543fbe3e040b264816d079436912c1c006f91edd20cde", checked := Try.checked }
namespace Rows
def none {H : Type} : Left H := { results := [], args := [] }

/-- 'seamarklaw05.SectorMatchesReference': WHATEVER THE INPUT: true; the input reads as it did. -/
def sectorMatchesReferenceSpec : ChangeSpec := { name := "sectorMatchesReference", fn := fun _ => fun
  | [d1, d2, d3, d4, d5, d6, d7] => { results := [.lit (.bool true)], args := [d1, d2, d3, d4, d5, d6, d7] }
  | _ => none }
def sectorMatchesReferenceRow : OpenClaim := { program := "ytgcgaplhaglejaa", sum := "7763d40832d95207d62543fbe3e040b264816d079436912c1c006f91edd20cde", func := "seamark/seamarklaw05.SectorMatchesReference", spec := "sectorMatchesReference", unfollowed := true, recurses := true, apart := false }
def SectorMatchesReferenceSaid : Prop := sectorMatchesReferenceRow.holds Try.pinned (OpenSpec.ofChange sectorMatchesReferenceSpec)

/-- ITS FALSE NEIGHBOUR: 'it returns false'. Refute it at one input. -/
def sectorMatchesReferenceWrong : ChangeSpec := { name := "sectorMatchesReference", fn := fun _ => fun
  | [d1, d2, d3, d4, d5, d6, d7] => { results := [.lit (.bool false)], args := [d1, d2, d3, d4, d5, d6, d7] }
  | _ => none }
def SectorMatchesReferenceWrongFalsely : Prop := sectorMatchesReferenceRow.holds Try.pinned (OpenSpec.ofChange sectorMatchesReferenceWrong)

/-- 'seamarklaw05.SectorTurning': WHATEVER THE INPUT: true; the input reads as it did. -/
def sectorTurningSpec : ChangeSpec := { name := "sectorTurning", fn := fun _ => fun
  | [d1, d2, d3] => { results := [.lit (.bool true)], args := [d1, d2, d3] }
  | _ => none }
def sectorTurningRow : OpenClaim := { program := "ytgcgaplhaglejaa", sum := "7763d40832d95207d62543fbe3e040b264816d079436912c1c006f91edd20cde", func := "seamark/seamarklaw05.SectorTurning", spec := "sectorTurning", unfollowed := true, recurses := true, apart := false }
def SectorTurningSaid : Prop := sectorTurningRow.holds Try.pinned (OpenSpec.ofChange sectorTurningSpec)

/-- ITS FALSE NEIGHBOUR: 'it returns false'. Refute it at one input. -/
def sectorTurningWrong : ChangeSpec := { name := "sectorTurning", fn := fun _ => fun
  | [d1, d2, d3] => { results := [.lit (.bool false)], args := [d1, d2, d3] }
  | _ => none }
def SectorTurningWrongFalsely : Prop := sectorTurningRow.holds Try.pinned (OpenSpec.ofChange sectorTurningWrong)

/-- 'seamarklaw05.SectorOneColor': WHATEVER THE INPUT: true; the input reads as it did. -/
def sectorOneColorSpec : ChangeSpec := { name := "sectorOneColor", fn := fun _ => fun
  | [d1, d2, d3] => { results := [.lit (.bool true)], args := [d1, d2, d3] }
  | _ => none }
def sectorOneColorRow : OpenClaim := { program := "ytgcgaplhaglejaa", sum := "7763d40832d95207d62543fbe3e040b264816d079436912c1c006f91edd20cde", func := "seamark/seamarklaw05.SectorOneColor", spec := "sectorOneColor", unfollowed := true, recurses := true, apart := false }
def SectorOneColorSaid : Prop := sectorOneColorRow.holds Try.pinned (OpenSpec.ofChange sectorOneColorSpec)

/-- ITS FALSE NEIGHBOUR: 'it returns false'. Refute it at one input. -/
def sectorOneColorWrong : ChangeSpec := { name := "sectorOneColor", fn := fun _ => fun
  | [d1, d2, d3] => { results := [.lit (.bool false)], args := [d1, d2, d3] }
  | _ => none }
def SectorOneColorWrongFalsely : Prop := sectorOneColorRow.holds Try.pinned (OpenSpec.ofChange sectorOneColorWrong)

/-- 'seamarklaw05.SectorHolds': WHATEVER THE INPUT: true; the input reads as it did. -/
def sectorHoldsSpec : ChangeSpec := { name := "sectorHolds", fn := fun _ => fun
  | [d1, d2, d3, d4, d5] => { results := [.lit (.bool true)], args := [d1, d2, d3, d4, d5] }
  | _ => none }
def sectorHoldsRow : OpenClaim := { program := "ytgcgaplhaglejaa", sum := "7763d40832d95207d62543fbe3e040b264816d079436912c1c006f91edd20cde", func := "seamark/seamarklaw05.SectorHolds", spec := "sectorHolds", unfollowed := true, recurses := true, apart := false }
def SectorHoldsSaid : Prop := sectorHoldsRow.holds Try.pinned (OpenSpec.ofChange sectorHoldsSpec)

/-- ITS FALSE NEIGHBOUR: 'it returns false'. Refute it at one input. -/
def sectorHoldsWrong : ChangeSpec := { name := "sectorHolds", fn := fun _ => fun
  | [d1, d2, d3, d4, d5] => { results := [.lit (.bool false)], args := [d1, d2, d3, d4, d5] }
  | _ => none }
def SectorHoldsWrongFalsely : Prop := sectorHoldsRow.holds Try.pinned (OpenSpec.ofChange sectorHoldsWrong)

/-- 'seamarklaw05.SectorSafer': WHATEVER THE INPUT: true; the input reads as it did. -/
def sectorSaferSpec : ChangeSpec := { name := "sectorSafer", fn := fun _ => fun
  | [d1, d2, d3] => { results := [.lit (.bool true)], args := [d1, d2, d3] }
  | _ => none }
def sectorSaferRow : OpenClaim := { program := "ytgcgaplhaglejaa", sum := "7763d40832d95207d62543fbe3e040b264816d079436912c1c006f91edd20cde", func := "seamark/seamarklaw05.SectorSafer", spec := "sectorSafer", unfollowed := true, recurses := true, apart := false }
def SectorSaferSaid : Prop := sectorSaferRow.holds Try.pinned (OpenSpec.ofChange sectorSaferSpec)

/-- ITS FALSE NEIGHBOUR: 'it returns false'. Refute it at one input. -/
def sectorSaferWrong : ChangeSpec := { name := "sectorSafer", fn := fun _ => fun
  | [d1, d2, d3] => { results := [.lit (.bool false)], args := [d1, d2, d3] }
  | _ => none }
def SectorSaferWrongFalsely : Prop := sectorSaferRow.holds Try.pinned (OpenSpec.ofChange sectorSaferWrong)

/-- 'seamarklaw05.SectorNormal': WHATEVER THE INPUT: true; the input reads as it did. -/
def sectorNormalSpec : ChangeSpec := { name := "sectorNormal", fn := fun _ => fun
  | [d1, d2, d3] => { results := [.lit (.bool true)], args := [d1, d2, d3] }
  | _ => none }
def sectorNormalRow : OpenClaim := { program := "ytgcgaplhaglejaa", sum := "7763d40832d95207d62543fbe3e040b264816d079436912c1c006f91edd20cde", func := "seamark/seamarklaw05.SectorNormal", spec := "sectorNormal", unfollowed := true, recurses := true, apart := false }
def SectorNormalSaid : Prop := sectorNormalRow.holds Try.pinned (OpenSpec.ofChange sectorNormalSpec)

/-- ITS FALSE NEIGHBOUR: 'it returns false'. Refute it at one input. -/
def sectorNormalWrong : ChangeSpec := { name := "sectorNormal", fn := fun _ => fun
  | [d1, d2, d3] => { results := [.lit (.bool false)], args := [d1, d2, d3] }
  | _ => none }
def SectorNormalWrongFalsely : Prop := sectorNormalRow.holds Try.pinned (OpenSpec.ofChange sectorNormalWrong)

/-- 'seamarklaw05.SectorTurned': WHATEVER THE INPUT: true; the input reads as it did. -/
def sectorTurnedSpec : ChangeSpec := { name := "sectorTurned", fn := fun _ => fun
  | [d1, d2, d3] => { results := [.lit (.bool true)], args := [d1, d2, d3] }
  | _ => none }
def sectorTurnedRow : OpenClaim := { program := "ytgcgaplhaglejaa", sum := "7763d40832d95207d62543fbe3e040b264816d079436912c1c006f91edd20cde", func := "seamark/seamarklaw05.SectorTurned", spec := "sectorTurned", unfollowed := true, recurses := true, apart := false }
def SectorTurnedSaid : Prop := sectorTurnedRow.holds Try.pinned (OpenSpec.ofChange sectorTurnedSpec)

/-- ITS FALSE NEIGHBOUR: 'it returns false'. Refute it at one input. -/
def sectorTurnedWrong : ChangeSpec := { name := "sectorTurned", fn := fun _ => fun
  | [d1, d2, d3] => { results := [.lit (.bool false)], args := [d1, d2, d3] }
  | _ => none }
def SectorTurnedWrongFalsely : Prop := sectorTurnedRow.holds Try.pinned (OpenSpec.ofChange sectorTurnedWrong)

/-- 'seamarklaw05.SectorSeen': WHATEVER THE INPUT: true; the input reads as it did. -/
def sectorSeenSpec : ChangeSpec := { name := "sectorSeen", fn := fun _ => fun
  | [d1, d2, d3, d4] => { results := [.lit (.bool true)], args := [d1, d2, d3, d4] }
  | _ => none }
def sectorSeenRow : OpenClaim := { program := "ytgcgaplhaglejaa", sum := "7763d40832d95207d62543fbe3e040b264816d079436912c1c006f91edd20cde", func := "seamark/seamarklaw05.SectorSeen", spec := "sectorSeen", unfollowed := true, recurses := true, apart := false }
def SectorSeenSaid : Prop := sectorSeenRow.holds Try.pinned (OpenSpec.ofChange sectorSeenSpec)

/-- ITS FALSE NEIGHBOUR: 'it returns false'. Refute it at one input. -/
def sectorSeenWrong : ChangeSpec := { name := "sectorSeen", fn := fun _ => fun
  | [d1, d2, d3, d4] => { results := [.lit (.bool false)], args := [d1, d2, d3, d4] }
  | _ => none }
def SectorSeenWrongFalsely : Prop := sectorSeenRow.holds Try.pinned (OpenSpec.ofChange sectorSeenWrong)

/- THE SECOND FORM. 'bulk': how many values and letters a reading holds, each counted each time it is reached (what is shared counts as often as it is met; a slice's spare places count too). A statement '..UptoSaid' is the law's where the arguments, and the package variables that the reading takes, are together of bulk at most 1048576: NARROWER than '..Said'. Prove '..Said' where nothing that the law and all that it calls make is longer than what came in: it says more and counts as full. Else prove '..UptoSaid'. A law counts once. -/
mutual
def uptoBulk {H : Type} : DataW H → Nat
  | .lit (.string bytes) => bytes.length + 1
  | .lit _ => 1
  | .nil => 1
  | .ptr d => uptoBulk d + 1
  | .slice elems spare => uptoBulkAll elems + uptoBulkAll spare + 1
  | .agg parts => uptoBulkAll parts + 1
  | .iface _ d => uptoBulk d + 1
  | .map entries => uptoBulkEntries entries + 1
  | .held _ => 1
def uptoBulkAll {H : Type} : List (DataW H) → Nat
  | [] => 0
  | d :: r => uptoBulk d + uptoBulkAll r
def uptoBulkEntries {H : Type} : List (Lit × DataW H) → Nat
  | [] => 0
  | x :: r => uptoBulkEntry x + uptoBulkEntries r
def uptoBulkEntry {H : Type} : Lit × DataW H → Nat
  | (.string bytes, d) => bytes.length + uptoBulk d + 1
  | (_, d) => uptoBulk d + 1
 end
def uptoSmall : (H : Type) → List (DataW H) → Bool := fun _ ds => decide (uptoBulkAll ds ≤ 1048576)
def OpenSpec.upto (s : _root_.Go.ChangeSpec) : _root_.Go.OpenSpec := { _root_.Go.OpenSpec.ofChange s with cond := some uptoSmall }

/-- 'seamarklaw05.SectorMatchesReference', WHERE WHAT IT READS IS OF BULK AT MOST 1048576: true; the input reads as it did. -/
def sectorMatchesReferenceUptoRow : OpenClaim := { program := "ytgcgaplhaglejaa", sum := "7763d40832d95207d62543fbe3e040b264816d079436912c1c006f91edd20cde", func := "seamark/seamarklaw05.SectorMatchesReference", spec := "sectorMatchesReference", unfollowed := true, recurses := true, apart := false, narrowed := true }
def SectorMatchesReferenceUptoSaid : Prop := sectorMatchesReferenceUptoRow.holds Try.pinned (OpenSpec.upto sectorMatchesReferenceSpec)

/-- 'seamarklaw05.SectorTurning', WHERE WHAT IT READS IS OF BULK AT MOST 1048576: true; the input reads as it did. -/
def sectorTurningUptoRow : OpenClaim := { program := "ytgcgaplhaglejaa", sum := "7763d40832d95207d62543fbe3e040b264816d079436912c1c006f91edd20cde", func := "seamark/seamarklaw05.SectorTurning", spec := "sectorTurning", unfollowed := true, recurses := true, apart := false, narrowed := true }
def SectorTurningUptoSaid : Prop := sectorTurningUptoRow.holds Try.pinned (OpenSpec.upto sectorTurningSpec)

/-- 'seamarklaw05.SectorOneColor', WHERE WHAT IT READS IS OF BULK AT MOST 1048576: true; the input reads as it did. -/
def sectorOneColorUptoRow : OpenClaim := { program := "ytgcgaplhaglejaa", sum := "7763d40832d95207d62543fbe3e040b264816d079436912c1c006f91edd20cde", func := "seamark/seamarklaw05.SectorOneColor", spec := "sectorOneColor", unfollowed := true, recurses := true, apart := false, narrowed := true }
def SectorOneColorUptoSaid : Prop := sectorOneColorUptoRow.holds Try.pinned (OpenSpec.upto sectorOneColorSpec)

/-- 'seamarklaw05.SectorHolds', WHERE WHAT IT READS IS OF BULK AT MOST 1048576: true; the input reads as it did. -/
def sectorHoldsUptoRow : OpenClaim := { program := "ytgcgaplhaglejaa", sum := "7763d40832d95207d62543fbe3e040b264816d079436912c1c006f91edd20cde", func := "seamark/seamarklaw05.SectorHolds", spec := "sectorHolds", unfollowed := true, recurses := true, apart := false, narrowed := true }
def SectorHoldsUptoSaid : Prop := sectorHoldsUptoRow.holds Try.pinned (OpenSpec.upto sectorHoldsSpec)

/-- 'seamarklaw05.SectorSafer', WHERE WHAT IT READS IS OF BULK AT MOST 1048576: true; the input reads as it did. -/
def sectorSaferUptoRow : OpenClaim := { program := "ytgcgaplhaglejaa", sum := "7763d40832d95207d62543fbe3e040b264816d079436912c1c006f91edd20cde", func := "seamark/seamarklaw05.SectorSafer", spec := "sectorSafer", unfollowed := true, recurses := true, apart := false, narrowed := true }
def SectorSaferUptoSaid : Prop := sectorSaferUptoRow.holds Try.pinned (OpenSpec.upto sectorSaferSpec)

/-- 'seamarklaw05.SectorNormal', WHERE WHAT IT READS IS OF BULK AT MOST 1048576: true; the input reads as it did. -/
def sectorNormalUptoRow : OpenClaim := { program := "ytgcgaplhaglejaa", sum := "7763d40832d95207d62543fbe3e040b264816d079436912c1c006f91edd20cde", func := "seamark/seamarklaw05.SectorNormal", spec := "sectorNormal", unfollowed := true, recurses := true, apart := false, narrowed := true }
def SectorNormalUptoSaid : Prop := sectorNormalUptoRow.holds Try.pinned (OpenSpec.upto sectorNormalSpec)

/-- 'seamarklaw05.SectorTurned', WHERE WHAT IT READS IS OF BULK AT MOST 1048576: true; the input reads as it did. -/
def sectorTurnedUptoRow : OpenClaim := { program := "ytgcgaplhaglejaa", sum := "7763d40832d95207d62543fbe3e040b264816d079436912c1c006f91edd20cde", func := "seamark/seamarklaw05.SectorTurned", spec := "sectorTurned", unfollowed := true, recurses := true, apart := false, narrowed := true }
def SectorTurnedUptoSaid : Prop := sectorTurnedUptoRow.holds Try.pinned (OpenSpec.upto sectorTurnedSpec)

/-- 'seamarklaw05.SectorSeen', WHERE WHAT IT READS IS OF BULK AT MOST 1048576: true; the input reads as it did. -/
def sectorSeenUptoRow : OpenClaim := { program := "ytgcgaplhaglejaa", sum := "7763d40832d95207d62543fbe3e040b264816d079436912c1c006f91edd20cde", func := "seamark/seamarklaw05.SectorSeen", spec := "sectorSeen", unfollowed := true, recurses := true, apart := false, narrowed := true }
def SectorSeenUptoSaid : Prop := sectorSeenUptoRow.holds Try.pinned (OpenSpec.upto sectorSeenSpec)

end Rows
end Go.Proofs.Ytgcgaplhaglejaa
