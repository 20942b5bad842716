/-
  DERIVED. GIVEN WITH THE SEED: THE CARDS: each row of YtbmbfjbjjnmmeaaDoorRows.lean that lists a variable, with what it lists TIED to the program's text (the seventh form; the later family's looks); each row that meets fmt, with fmt's text TOLD by the authors' own Lean function (tested against real Go, not proved from fmt's source: count such statements apart). THE CARD IS WHAT COUNTS. Prove the row's statement (the work); the ties are given (YtbmbfjbjjnmmeaaDoorTie.lean); close each card by the builder's one call (the guide's Derived/Test/ToyasCard.lean, 'card_holds'). Laid BY PROGRAM, IN A SANDBOX (cutbox-door.mjs). By AI agents, Wed Nov 11 2026. No macro, syntax, notation, axiom, sorry.
-/
import Derived.Test.YtbmbfjbjjnmmeaaDoorRows
import GoSem.ClaimSeven
namespace Go.Proofs.YtbmbfjbjjnmmeaaDoor
namespace Rows

/-- THE TIED CARD OF 'reliquarylaw0.NamesNumbers'. -/
def namesNumbersCard : Claim7 := { stood := { row := namesNumbersRow, standIns := [], harness := (true, "24f9e204ee3712094fb65a646eaed85c928b24808e7d20837f930f83c722eeaa"), looks := true }, kinds := [], alts := [], laidByText := true, laidKinds := [.data, .data, .data], laidTests := true, laidLooks := .later }
def NamesNumbersCardSaid : Prop := Claim7.holds Tryd.pinned (.plain (OpenSpec.ofChange namesNumbersSpec)) namesNumbersCard

/-- THE TIED CARD OF 'reliquarylaw3.NumEdges'. -/
def numEdgesCard : Claim7 := { stood := { row := numEdgesRow, standIns := [], harness := (true, "24f9e204ee3712094fb65a646eaed85c928b24808e7d20837f930f83c722eeaa"), looks := true }, kinds := [], alts := [], laidByText := true, laidKinds := [.data, .data, .data], laidTests := true, laidLooks := .later }
def NumEdgesCardSaid : Prop := Claim7.holds Tryd.pinned (.plain (OpenSpec.ofChange numEdgesSpec)) numEdgesCard

/-- THE TIED CARD OF 'reliquarylaw3.NumSums'. -/
def numSumsCard : Claim7 := { stood := { row := numSumsRow, standIns := [], harness := (true, "24f9e204ee3712094fb65a646eaed85c928b24808e7d20837f930f83c722eeaa"), looks := true }, kinds := [], alts := [], laidByText := true, laidKinds := [.data, .data, .data], laidTests := true, laidLooks := .later }
def NumSumsCardSaid : Prop := Claim7.holds Tryd.pinned (.plain (OpenSpec.ofChange numSumsSpec)) numSumsCard

/-- THE TIED CARD OF 'reliquarylaw3.NumAdds'. -/
def numAddsCard : Claim7 := { stood := { row := numAddsRow, standIns := [], harness := (true, "24f9e204ee3712094fb65a646eaed85c928b24808e7d20837f930f83c722eeaa"), looks := true }, kinds := [], alts := [], laidByText := true, laidKinds := [.data, .data, .data], laidTests := true, laidLooks := .later }
def NumAddsCardSaid : Prop := Claim7.holds Tryd.pinned (.plain (OpenSpec.ofChange numAddsSpec)) numAddsCard

/-- THE TIED CARD OF 'reliquarylaw3.NumChains'. -/
def numChainsCard : Claim7 := { stood := { row := numChainsRow, standIns := [], harness := (true, "24f9e204ee3712094fb65a646eaed85c928b24808e7d20837f930f83c722eeaa"), looks := true }, kinds := [], alts := [], laidByText := true, laidKinds := [.data, .data, .data], laidTests := true, laidLooks := .later }
def NumChainsCardSaid : Prop := Claim7.holds Tryd.pinned (.plain (OpenSpec.ofChange numChainsSpec)) numChainsCard

/-- THE TIED CARD OF 'reliquarylaw3.NumOrders'. -/
def numOrdersCard : Claim7 := { stood := { row := numOrdersRow, standIns := [], harness := (true, "24f9e204ee3712094fb65a646eaed85c928b24808e7d20837f930f83c722eeaa"), looks := true }, kinds := [], alts := [], laidByText := true, laidKinds := [.data, .data, .data], laidTests := true, laidLooks := .later }
def NumOrdersCardSaid : Prop := Claim7.holds Tryd.pinned (.plain (OpenSpec.ofChange numOrdersSpec)) numOrdersCard

/-- THE TIED CARD OF 'reliquarylaw3.NumBacks'. -/
def numBacksCard : Claim7 := { stood := { row := numBacksRow, standIns := [], harness := (true, "24f9e204ee3712094fb65a646eaed85c928b24808e7d20837f930f83c722eeaa"), looks := true }, kinds := [], alts := [], laidByText := true, laidKinds := [.data, .data, .data], laidTests := true, laidLooks := .later }
def NumBacksCardSaid : Prop := Claim7.holds Tryd.pinned (.plain (OpenSpec.ofChange numBacksSpec)) numBacksCard

/-- THE TIED CARD OF 'reliquarylaw3.NumSteps'. -/
def numStepsCard : Claim7 := { stood := { row := numStepsRow, standIns := [], harness := (true, "24f9e204ee3712094fb65a646eaed85c928b24808e7d20837f930f83c722eeaa"), looks := true }, kinds := [], alts := [], laidByText := true, laidKinds := [.data, .data, .data], laidTests := true, laidLooks := .later }
def NumStepsCardSaid : Prop := Claim7.holds Tryd.pinned (.plain (OpenSpec.ofChange numStepsSpec)) numStepsCard

/-- THE TIED CARD OF 'reliquarylaw19.ReplyTells'. -/
def replyTellsCard : Claim7 := { stood := { row := replyTellsRow, standIns := [], harness := (true, "24f9e204ee3712094fb65a646eaed85c928b24808e7d20837f930f83c722eeaa"), looks := true }, kinds := [], alts := [], laidByText := true, laidKinds := [.data, .data, .data], laidTests := true, laidLooks := .later }
def ReplyTellsCardSaid : Prop := Claim7.holds Tryd.pinned (.plain (OpenSpec.ofChange replyTellsSpec)) replyTellsCard

/-- THE TIED CARD OF 'reliquarylaw3.NumWholes'. -/
def numWholesCard : Claim7 := { stood := { row := numWholesRow, standIns := [], harness := (true, "24f9e204ee3712094fb65a646eaed85c928b24808e7d20837f930f83c722eeaa"), looks := true }, kinds := [], alts := [], laidByText := true, laidKinds := [.data, .data, .data, .data, .sentinel, .sentinel, .pinned], laidTests := true, laidLooks := .later }
def NumWholesCardSaid : Prop := Claim7.holds Tryd.pinned (.plain (OpenSpec.ofChange numWholesSpec)) numWholesCard

/-- THE SECOND FORM's CARD OF 'reliquarylaw0.NamesNumbers'. -/
def namesNumbersUptoCard : Claim7 := { stood := { row := namesNumbersUptoRow, standIns := [], harness := (true, "24f9e204ee3712094fb65a646eaed85c928b24808e7d20837f930f83c722eeaa"), looks := true }, kinds := [], alts := [], laidByText := true, laidKinds := [.data, .data, .data], laidTests := true, laidLooks := .later }
def NamesNumbersUptoCardSaid : Prop := Claim7.holds Tryd.pinned (.plain (OpenSpec.upto namesNumbersSpec)) namesNumbersUptoCard

/-- THE SECOND FORM's CARD OF 'reliquarylaw3.NumEdges'. -/
def numEdgesUptoCard : Claim7 := { stood := { row := numEdgesUptoRow, standIns := [], harness := (true, "24f9e204ee3712094fb65a646eaed85c928b24808e7d20837f930f83c722eeaa"), looks := true }, kinds := [], alts := [], laidByText := true, laidKinds := [.data, .data, .data], laidTests := true, laidLooks := .later }
def NumEdgesUptoCardSaid : Prop := Claim7.holds Tryd.pinned (.plain (OpenSpec.upto numEdgesSpec)) numEdgesUptoCard

/-- THE SECOND FORM's CARD OF 'reliquarylaw3.NumSums'. -/
def numSumsUptoCard : Claim7 := { stood := { row := numSumsUptoRow, standIns := [], harness := (true, "24f9e204ee3712094fb65a646eaed85c928b24808e7d20837f930f83c722eeaa"), looks := true }, kinds := [], alts := [], laidByText := true, laidKinds := [.data, .data, .data], laidTests := true, laidLooks := .later }
def NumSumsUptoCardSaid : Prop := Claim7.holds Tryd.pinned (.plain (OpenSpec.upto numSumsSpec)) numSumsUptoCard

/-- THE SECOND FORM's CARD OF 'reliquarylaw3.NumAdds'. -/
def numAddsUptoCard : Claim7 := { stood := { row := numAddsUptoRow, standIns := [], harness := (true, "24f9e204ee3712094fb65a646eaed85c928b24808e7d20837f930f83c722eeaa"), looks := true }, kinds := [], alts := [], laidByText := true, laidKinds := [.data, .data, .data], laidTests := true, laidLooks := .later }
def NumAddsUptoCardSaid : Prop := Claim7.holds Tryd.pinned (.plain (OpenSpec.upto numAddsSpec)) numAddsUptoCard

/-- THE SECOND FORM's CARD OF 'reliquarylaw3.NumChains'. -/
def numChainsUptoCard : Claim7 := { stood := { row := numChainsUptoRow, standIns := [], harness := (true, "24f9e204ee3712094fb65a646eaed85c928b24808e7d20837f930f83c722eeaa"), looks := true }, kinds := [], alts := [], laidByText := true, laidKinds := [.data, .data, .data], laidTests := true, laidLooks := .later }
def NumChainsUptoCardSaid : Prop := Claim7.holds Tryd.pinned (.plain (OpenSpec.upto numChainsSpec)) numChainsUptoCard

/-- THE SECOND FORM's CARD OF 'reliquarylaw3.NumOrders'. -/
def numOrdersUptoCard : Claim7 := { stood := { row := numOrdersUptoRow, standIns := [], harness := (true, "24f9e204ee3712094fb65a646eaed85c928b24808e7d20837f930f83c722eeaa"), looks := true }, kinds := [], alts := [], laidByText := true, laidKinds := [.data, .data, .data], laidTests := true, laidLooks := .later }
def NumOrdersUptoCardSaid : Prop := Claim7.holds Tryd.pinned (.plain (OpenSpec.upto numOrdersSpec)) numOrdersUptoCard

/-- THE SECOND FORM's CARD OF 'reliquarylaw3.NumBacks'. -/
def numBacksUptoCard : Claim7 := { stood := { row := numBacksUptoRow, standIns := [], harness := (true, "24f9e204ee3712094fb65a646eaed85c928b24808e7d20837f930f83c722eeaa"), looks := true }, kinds := [], alts := [], laidByText := true, laidKinds := [.data, .data, .data], laidTests := true, laidLooks := .later }
def NumBacksUptoCardSaid : Prop := Claim7.holds Tryd.pinned (.plain (OpenSpec.upto numBacksSpec)) numBacksUptoCard

/-- THE SECOND FORM's CARD OF 'reliquarylaw3.NumSteps'. -/
def numStepsUptoCard : Claim7 := { stood := { row := numStepsUptoRow, standIns := [], harness := (true, "24f9e204ee3712094fb65a646eaed85c928b24808e7d20837f930f83c722eeaa"), looks := true }, kinds := [], alts := [], laidByText := true, laidKinds := [.data, .data, .data], laidTests := true, laidLooks := .later }
def NumStepsUptoCardSaid : Prop := Claim7.holds Tryd.pinned (.plain (OpenSpec.upto numStepsSpec)) numStepsUptoCard

/-- THE SECOND FORM's CARD OF 'reliquarylaw19.ReplyTells'. -/
def replyTellsUptoCard : Claim7 := { stood := { row := replyTellsUptoRow, standIns := [], harness := (true, "24f9e204ee3712094fb65a646eaed85c928b24808e7d20837f930f83c722eeaa"), looks := true }, kinds := [], alts := [], laidByText := true, laidKinds := [.data, .data, .data], laidTests := true, laidLooks := .later }
def ReplyTellsUptoCardSaid : Prop := Claim7.holds Tryd.pinned (.plain (OpenSpec.upto replyTellsSpec)) replyTellsUptoCard

/-- THE SECOND FORM's CARD OF 'reliquarylaw3.NumWholes'. -/
def numWholesUptoCard : Claim7 := { stood := { row := numWholesUptoRow, standIns := [], harness := (true, "24f9e204ee3712094fb65a646eaed85c928b24808e7d20837f930f83c722eeaa"), looks := true }, kinds := [], alts := [], laidByText := true, laidKinds := [.data, .data, .data, .data, .sentinel, .sentinel, .pinned], laidTests := true, laidLooks := .later }
def NumWholesUptoCardSaid : Prop := Claim7.holds Tryd.pinned (.plain (OpenSpec.upto numWholesSpec)) numWholesUptoCard
end Rows
end Go.Proofs.YtbmbfjbjjnmmeaaDoor
