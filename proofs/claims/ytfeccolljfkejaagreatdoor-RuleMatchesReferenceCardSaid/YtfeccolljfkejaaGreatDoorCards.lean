/-
  DERIVED. GIVEN WITH THE SEED: THE CARDS: each row of YtfeccolljfkejaaGreatDoorRows.lean that lists a variable, with what it lists TIED to the program's text (the seventh form; the later family's looks); each row that meets fmt, with fmt's text TOLD by the authors' own Lean function (tested against real Go, not proved from fmt's source: count such statements apart). THE CARD IS WHAT COUNTS. Prove the row's statement (the work); the ties are given (YtfeccolljfkejaaGreatDoorTie.lean); close each card by the builder's one call (the guide's Derived/Test/ToyasCard.lean, 'card_holds'). Laid BY PROGRAM, IN A SANDBOX (cutbox-door.mjs). By AI agents, Wed Nov 11 2026. No macro, syntax, notation, axiom, sorry.
-/
import Derived.Test.YtfeccolljfkejaaGreatDoorRows
import GoSem.ClaimSeven
namespace Go.Proofs.YtfeccolljfkejaaGreatDoor
namespace Rows

/-- THE TIED CARD OF 'seamarklaw12.RuleBack'. -/
def ruleBackCard : Claim7 := { stood := { row := ruleBackRow, standIns := [], harness := (true, "f7a9452ae4fb922ecd86d02e5e3fd34e475f58ae593ae0c2294b9130c35a4b53"), looks := true }, kinds := [], alts := [], laidByText := true, laidKinds := [.data, .data, .data, .sentinel, .sentinel, .widerDeep], laidTests := true, laidLooks := .later }
def RuleBackCardSaid : Prop := Claim7.holds Tryz.pinned (.plain (OpenSpec.ofChange ruleBackSpec)) ruleBackCard

/-- THE TIED CARD OF 'seamarklaw12.RuleLayout'. -/
def ruleLayoutCard : Claim7 := { stood := { row := ruleLayoutRow, standIns := [], harness := (true, "f7a9452ae4fb922ecd86d02e5e3fd34e475f58ae593ae0c2294b9130c35a4b53"), looks := true }, kinds := [], alts := [], laidByText := true, laidKinds := [.data, .data, .data, .sentinel, .sentinel, .widerDeep], laidTests := true, laidLooks := .later }
def RuleLayoutCardSaid : Prop := Claim7.holds Tryz.pinned (.plain (OpenSpec.ofChange ruleLayoutSpec)) ruleLayoutCard

/-- THE TIED CARD OF 'seamarklaw12.RuleErrors'. -/
def ruleErrorsCard : Claim7 := { stood := { row := ruleErrorsRow, standIns := [], harness := (true, "f7a9452ae4fb922ecd86d02e5e3fd34e475f58ae593ae0c2294b9130c35a4b53"), looks := true }, kinds := [], alts := [], laidByText := true, laidKinds := [.data, .data, .data, .sentinel, .sentinel, .widerDeep], laidTests := true, laidLooks := .later }
def RuleErrorsCardSaid : Prop := Claim7.holds Tryz.pinned (.plain (OpenSpec.ofChange ruleErrorsSpec)) ruleErrorsCard

/-- THE TIED CARD OF 'seamarklaw12.RuleAgain'. -/
def ruleAgainCard : Claim7 := { stood := { row := ruleAgainRow, standIns := [], harness := (true, "f7a9452ae4fb922ecd86d02e5e3fd34e475f58ae593ae0c2294b9130c35a4b53"), looks := true }, kinds := [], alts := [], laidByText := true, laidKinds := [.data, .data, .data, .sentinel, .sentinel, .widerDeep], laidTests := true, laidLooks := .later }
def RuleAgainCardSaid : Prop := Claim7.holds Tryz.pinned (.plain (OpenSpec.ofChange ruleAgainSpec)) ruleAgainCard

/-- THE TIED CARD OF 'seamarklaw12.RuleCaps'. -/
def ruleCapsCard : Claim7 := { stood := { row := ruleCapsRow, standIns := [], harness := (true, "f7a9452ae4fb922ecd86d02e5e3fd34e475f58ae593ae0c2294b9130c35a4b53"), looks := true }, kinds := [], alts := [], laidByText := true, laidKinds := [.data, .data, .data, .sentinel, .sentinel, .widerDeep], laidTests := true, laidLooks := .later }
def RuleCapsCardSaid : Prop := Claim7.holds Tryz.pinned (.plain (OpenSpec.ofChange ruleCapsSpec)) ruleCapsCard

/-- THE TIED CARD OF 'seamarklaw12.RuleMatchesReference'. -/
def ruleMatchesReferenceCard : Claim7 := { stood := { row := ruleMatchesReferenceRow, standIns := [], harness := (true, "f7a9452ae4fb922ecd86d02e5e3fd34e475f58ae593ae0c2294b9130c35a4b53"), looks := true }, kinds := [], alts := [], laidByText := true, laidKinds := [.data, .data, .data, .sentinel, .sentinel, .widerDeep], laidTests := true, laidLooks := .later }
def RuleMatchesReferenceCardSaid : Prop := Claim7.holds Tryz.pinned (.plain (OpenSpec.ofChange ruleMatchesReferenceSpec)) ruleMatchesReferenceCard

/-- THE TIED CARD OF 'seamarklaw12.RuleKinds'. -/
def ruleKindsCard : Claim7 := { stood := { row := ruleKindsRow, standIns := [], harness := (true, "f7a9452ae4fb922ecd86d02e5e3fd34e475f58ae593ae0c2294b9130c35a4b53"), looks := true }, kinds := [], alts := [], laidByText := true, laidKinds := [.data, .data, .data, .sentinel, .sentinel, .widerDeep], laidTests := true, laidLooks := .later }
def RuleKindsCardSaid : Prop := Claim7.holds Tryz.pinned (.plain (OpenSpec.ofChange ruleKindsSpec)) ruleKindsCard

/-- THE TIED CARD OF 'seamarklaw12.RuleShoaler'. -/
def ruleShoalerCard : Claim7 := { stood := { row := ruleShoalerRow, standIns := [], harness := (true, "f7a9452ae4fb922ecd86d02e5e3fd34e475f58ae593ae0c2294b9130c35a4b53"), looks := true }, kinds := [], alts := [], laidByText := true, laidKinds := [.data, .data, .data, .sentinel, .sentinel, .widerDeep], laidTests := true, laidLooks := .later }
def RuleShoalerCardSaid : Prop := Claim7.holds Tryz.pinned (.plain (OpenSpec.ofChange ruleShoalerSpec)) ruleShoalerCard

/-- THE TIED CARD OF 'seamarklaw12.RuleStands'. -/
def ruleStandsCard : Claim7 := { stood := { row := ruleStandsRow, standIns := [], harness := (true, "f7a9452ae4fb922ecd86d02e5e3fd34e475f58ae593ae0c2294b9130c35a4b53"), looks := true }, kinds := [], alts := [], laidByText := true, laidKinds := [.data, .data, .data, .sentinel, .sentinel, .widerDeep], laidTests := true, laidLooks := .later }
def RuleStandsCardSaid : Prop := Claim7.holds Tryz.pinned (.plain (OpenSpec.ofChange ruleStandsSpec)) ruleStandsCard

/-- THE SECOND FORM's CARD OF 'seamarklaw12.RuleBack'. -/
def ruleBackUptoCard : Claim7 := { stood := { row := ruleBackUptoRow, standIns := [], harness := (true, "f7a9452ae4fb922ecd86d02e5e3fd34e475f58ae593ae0c2294b9130c35a4b53"), looks := true }, kinds := [], alts := [], laidByText := true, laidKinds := [.data, .data, .data, .sentinel, .sentinel, .widerDeep], laidTests := true, laidLooks := .later }
def RuleBackUptoCardSaid : Prop := Claim7.holds Tryz.pinned (.plain (OpenSpec.upto ruleBackSpec)) ruleBackUptoCard

/-- THE SECOND FORM's CARD OF 'seamarklaw12.RuleLayout'. -/
def ruleLayoutUptoCard : Claim7 := { stood := { row := ruleLayoutUptoRow, standIns := [], harness := (true, "f7a9452ae4fb922ecd86d02e5e3fd34e475f58ae593ae0c2294b9130c35a4b53"), looks := true }, kinds := [], alts := [], laidByText := true, laidKinds := [.data, .data, .data, .sentinel, .sentinel, .widerDeep], laidTests := true, laidLooks := .later }
def RuleLayoutUptoCardSaid : Prop := Claim7.holds Tryz.pinned (.plain (OpenSpec.upto ruleLayoutSpec)) ruleLayoutUptoCard

/-- THE SECOND FORM's CARD OF 'seamarklaw12.RuleErrors'. -/
def ruleErrorsUptoCard : Claim7 := { stood := { row := ruleErrorsUptoRow, standIns := [], harness := (true, "f7a9452ae4fb922ecd86d02e5e3fd34e475f58ae593ae0c2294b9130c35a4b53"), looks := true }, kinds := [], alts := [], laidByText := true, laidKinds := [.data, .data, .data, .sentinel, .sentinel, .widerDeep], laidTests := true, laidLooks := .later }
def RuleErrorsUptoCardSaid : Prop := Claim7.holds Tryz.pinned (.plain (OpenSpec.upto ruleErrorsSpec)) ruleErrorsUptoCard

/-- THE SECOND FORM's CARD OF 'seamarklaw12.RuleAgain'. -/
def ruleAgainUptoCard : Claim7 := { stood := { row := ruleAgainUptoRow, standIns := [], harness := (true, "f7a9452ae4fb922ecd86d02e5e3fd34e475f58ae593ae0c2294b9130c35a4b53"), looks := true }, kinds := [], alts := [], laidByText := true, laidKinds := [.data, .data, .data, .sentinel, .sentinel, .widerDeep], laidTests := true, laidLooks := .later }
def RuleAgainUptoCardSaid : Prop := Claim7.holds Tryz.pinned (.plain (OpenSpec.upto ruleAgainSpec)) ruleAgainUptoCard

/-- THE SECOND FORM's CARD OF 'seamarklaw12.RuleCaps'. -/
def ruleCapsUptoCard : Claim7 := { stood := { row := ruleCapsUptoRow, standIns := [], harness := (true, "f7a9452ae4fb922ecd86d02e5e3fd34e475f58ae593ae0c2294b9130c35a4b53"), looks := true }, kinds := [], alts := [], laidByText := true, laidKinds := [.data, .data, .data, .sentinel, .sentinel, .widerDeep], laidTests := true, laidLooks := .later }
def RuleCapsUptoCardSaid : Prop := Claim7.holds Tryz.pinned (.plain (OpenSpec.upto ruleCapsSpec)) ruleCapsUptoCard

/-- THE SECOND FORM's CARD OF 'seamarklaw12.RuleMatchesReference'. -/
def ruleMatchesReferenceUptoCard : Claim7 := { stood := { row := ruleMatchesReferenceUptoRow, standIns := [], harness := (true, "f7a9452ae4fb922ecd86d02e5e3fd34e475f58ae593ae0c2294b9130c35a4b53"), looks := true }, kinds := [], alts := [], laidByText := true, laidKinds := [.data, .data, .data, .sentinel, .sentinel, .widerDeep], laidTests := true, laidLooks := .later }
def RuleMatchesReferenceUptoCardSaid : Prop := Claim7.holds Tryz.pinned (.plain (OpenSpec.upto ruleMatchesReferenceSpec)) ruleMatchesReferenceUptoCard

/-- THE SECOND FORM's CARD OF 'seamarklaw12.RuleKinds'. -/
def ruleKindsUptoCard : Claim7 := { stood := { row := ruleKindsUptoRow, standIns := [], harness := (true, "f7a9452ae4fb922ecd86d02e5e3fd34e475f58ae593ae0c2294b9130c35a4b53"), looks := true }, kinds := [], alts := [], laidByText := true, laidKinds := [.data, .data, .data, .sentinel, .sentinel, .widerDeep], laidTests := true, laidLooks := .later }
def RuleKindsUptoCardSaid : Prop := Claim7.holds Tryz.pinned (.plain (OpenSpec.upto ruleKindsSpec)) ruleKindsUptoCard

/-- THE SECOND FORM's CARD OF 'seamarklaw12.RuleShoaler'. -/
def ruleShoalerUptoCard : Claim7 := { stood := { row := ruleShoalerUptoRow, standIns := [], harness := (true, "f7a9452ae4fb922ecd86d02e5e3fd34e475f58ae593ae0c2294b9130c35a4b53"), looks := true }, kinds := [], alts := [], laidByText := true, laidKinds := [.data, .data, .data, .sentinel, .sentinel, .widerDeep], laidTests := true, laidLooks := .later }
def RuleShoalerUptoCardSaid : Prop := Claim7.holds Tryz.pinned (.plain (OpenSpec.upto ruleShoalerSpec)) ruleShoalerUptoCard

/-- THE SECOND FORM's CARD OF 'seamarklaw12.RuleStands'. -/
def ruleStandsUptoCard : Claim7 := { stood := { row := ruleStandsUptoRow, standIns := [], harness := (true, "f7a9452ae4fb922ecd86d02e5e3fd34e475f58ae593ae0c2294b9130c35a4b53"), looks := true }, kinds := [], alts := [], laidByText := true, laidKinds := [.data, .data, .data, .sentinel, .sentinel, .widerDeep], laidTests := true, laidLooks := .later }
def RuleStandsUptoCardSaid : Prop := Claim7.holds Tryz.pinned (.plain (OpenSpec.upto ruleStandsSpec)) ruleStandsUptoCard
end Rows
end Go.Proofs.YtfeccolljfkejaaGreatDoor
