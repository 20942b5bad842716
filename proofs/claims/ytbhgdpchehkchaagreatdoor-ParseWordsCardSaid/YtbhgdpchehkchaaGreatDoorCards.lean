/-
  DERIVED. GIVEN WITH THE SEED: THE CARDS: each row of YtbhgdpchehkchaaGreatDoorRows.lean that lists a variable, with what it lists TIED to the program's text (the seventh form; the later family's looks); each row that meets fmt, with fmt's text TOLD by the authors' own Lean function (tested against real Go, not proved from fmt's source: count such statements apart). THE CARD IS WHAT COUNTS. Prove the row's statement (the work); the ties are given (YtbhgdpchehkchaaGreatDoorTie.lean); close each card by the builder's one call (the guide's Derived/Test/ToyasCard.lean, 'card_holds'). Laid BY PROGRAM, IN A SANDBOX (cutbox-door.mjs). By AI agents, Wed Nov 11 2026. No macro, syntax, notation, axiom, sorry.
-/
import Derived.Test.YtbhgdpchehkchaaGreatDoorRows
import GoSem.ClaimSeven
namespace Go.Proofs.YtbhgdpchehkchaaGreatDoor
namespace Rows

/-- THE TIED CARD OF 'reliquarylaw18.ParseWords'. -/
def parseWordsCard : Claim7 := { stood := { row := parseWordsRow, standIns := [], harness := (true, "decb44a3fa1ed57f45802ac48c52e75334be1e0e7055f9d18e412e3363539070"), looks := true }, kinds := [], alts := [], laidByText := true, laidKinds := [.data, .data, .data, .data, .sentinel, .sentinel, .pinned], laidTests := true, laidLooks := .later }
def ParseWordsCardSaid : Prop := Claim7.holds Tryz.pinned (.plain (OpenSpec.ofChange parseWordsSpec)) parseWordsCard

/-- THE TIED CARD OF 'reliquarylaw18.ParseNumbers'. -/
def parseNumbersCard : Claim7 := { stood := { row := parseNumbersRow, standIns := [], harness := (true, "decb44a3fa1ed57f45802ac48c52e75334be1e0e7055f9d18e412e3363539070"), looks := true }, kinds := [], alts := [], laidByText := true, laidKinds := [.data, .data, .data, .data, .sentinel, .sentinel, .pinned], laidTests := true, laidLooks := .later }
def ParseNumbersCardSaid : Prop := Claim7.holds Tryz.pinned (.plain (OpenSpec.ofChange parseNumbersSpec)) parseNumbersCard

/-- THE TIED CARD OF 'reliquarylaw18.ParseKeys'. -/
def parseKeysCard : Claim7 := { stood := { row := parseKeysRow, standIns := [], harness := (true, "decb44a3fa1ed57f45802ac48c52e75334be1e0e7055f9d18e412e3363539070"), looks := true }, kinds := [], alts := [], laidByText := true, laidKinds := [.data, .data, .data, .data, .sentinel, .sentinel, .pinned], laidTests := true, laidLooks := .later }
def ParseKeysCardSaid : Prop := Claim7.holds Tryz.pinned (.plain (OpenSpec.ofChange parseKeysSpec)) parseKeysCard

/-- THE TIED CARD OF 'reliquarylaw18.ParseLines'. -/
def parseLinesCard : Claim7 := { stood := { row := parseLinesRow, standIns := [], harness := (true, "decb44a3fa1ed57f45802ac48c52e75334be1e0e7055f9d18e412e3363539070"), looks := true }, kinds := [], alts := [], laidByText := true, laidKinds := [.data, .data, .data, .data, .sentinel, .sentinel, .pinned], laidTests := true, laidLooks := .later }
def ParseLinesCardSaid : Prop := Claim7.holds Tryz.pinned (.plain (OpenSpec.ofChange parseLinesSpec)) parseLinesCard

/-- THE TIED CARD OF 'reliquarylaw18.ParseScores'. -/
def parseScoresCard : Claim7 := { stood := { row := parseScoresRow, standIns := [], harness := (true, "decb44a3fa1ed57f45802ac48c52e75334be1e0e7055f9d18e412e3363539070"), looks := true }, kinds := [], alts := [], laidByText := true, laidKinds := [.data, .data, .data, .data, .sentinel, .sentinel, .pinned], laidTests := true, laidLooks := .later }
def ParseScoresCardSaid : Prop := Claim7.holds Tryz.pinned (.plain (OpenSpec.ofChange parseScoresSpec)) parseScoresCard

/-- THE TIED CARD OF 'reliquarylaw19.ReplyJunk'. -/
def replyJunkCard : Claim7 := { stood := { row := replyJunkRow, standIns := [], harness := (true, "decb44a3fa1ed57f45802ac48c52e75334be1e0e7055f9d18e412e3363539070"), looks := true }, kinds := [], alts := [], laidByText := true, laidKinds := [.data, .data, .data, .data, .sentinel, .sentinel, .pinned], laidTests := true, laidLooks := .later }
def ReplyJunkCardSaid : Prop := Claim7.holds Tryz.pinned (.plain (OpenSpec.ofChange replyJunkSpec)) replyJunkCard

/-- THE TIED CARD OF 'reliquarylaw19.ReplyScores'. -/
def replyScoresCard : Claim7 := { stood := { row := replyScoresRow, standIns := [], harness := (true, "decb44a3fa1ed57f45802ac48c52e75334be1e0e7055f9d18e412e3363539070"), looks := true }, kinds := [], alts := [], laidByText := true, laidKinds := [.data, .data, .data, .data, .sentinel, .sentinel, .pinned], laidTests := true, laidLooks := .later }
def ReplyScoresCardSaid : Prop := Claim7.holds Tryz.pinned (.plain (OpenSpec.ofChange replyScoresSpec)) replyScoresCard

/-- THE TIED CARD OF 'reliquarylaw19.ReplyLengths'. -/
def replyLengthsCard : Claim7 := { stood := { row := replyLengthsRow, standIns := [], harness := (true, "decb44a3fa1ed57f45802ac48c52e75334be1e0e7055f9d18e412e3363539070"), looks := true }, kinds := [], alts := [], laidByText := true, laidKinds := [.data, .data, .data, .data, .sentinel, .sentinel, .pinned], laidTests := true, laidLooks := .later }
def ReplyLengthsCardSaid : Prop := Claim7.holds Tryz.pinned (.plain (OpenSpec.ofChange replyLengthsSpec)) replyLengthsCard

/-- THE TIED CARD OF 'reliquarylaw19.ReplyErrors'. -/
def replyErrorsCard : Claim7 := { stood := { row := replyErrorsRow, standIns := [], harness := (true, "decb44a3fa1ed57f45802ac48c52e75334be1e0e7055f9d18e412e3363539070"), looks := true }, kinds := [], alts := [], laidByText := true, laidKinds := [.data, .data, .data, .data, .sentinel, .sentinel, .pinned], laidTests := true, laidLooks := .later }
def ReplyErrorsCardSaid : Prop := Claim7.holds Tryz.pinned (.plain (OpenSpec.ofChange replyErrorsSpec)) replyErrorsCard

/-- THE SECOND FORM's CARD OF 'reliquarylaw18.ParseWords'. -/
def parseWordsUptoCard : Claim7 := { stood := { row := parseWordsUptoRow, standIns := [], harness := (true, "decb44a3fa1ed57f45802ac48c52e75334be1e0e7055f9d18e412e3363539070"), looks := true }, kinds := [], alts := [], laidByText := true, laidKinds := [.data, .data, .data, .data, .sentinel, .sentinel, .pinned], laidTests := true, laidLooks := .later }
def ParseWordsUptoCardSaid : Prop := Claim7.holds Tryz.pinned (.plain (OpenSpec.upto parseWordsSpec)) parseWordsUptoCard

/-- THE SECOND FORM's CARD OF 'reliquarylaw18.ParseNumbers'. -/
def parseNumbersUptoCard : Claim7 := { stood := { row := parseNumbersUptoRow, standIns := [], harness := (true, "decb44a3fa1ed57f45802ac48c52e75334be1e0e7055f9d18e412e3363539070"), looks := true }, kinds := [], alts := [], laidByText := true, laidKinds := [.data, .data, .data, .data, .sentinel, .sentinel, .pinned], laidTests := true, laidLooks := .later }
def ParseNumbersUptoCardSaid : Prop := Claim7.holds Tryz.pinned (.plain (OpenSpec.upto parseNumbersSpec)) parseNumbersUptoCard

/-- THE SECOND FORM's CARD OF 'reliquarylaw18.ParseKeys'. -/
def parseKeysUptoCard : Claim7 := { stood := { row := parseKeysUptoRow, standIns := [], harness := (true, "decb44a3fa1ed57f45802ac48c52e75334be1e0e7055f9d18e412e3363539070"), looks := true }, kinds := [], alts := [], laidByText := true, laidKinds := [.data, .data, .data, .data, .sentinel, .sentinel, .pinned], laidTests := true, laidLooks := .later }
def ParseKeysUptoCardSaid : Prop := Claim7.holds Tryz.pinned (.plain (OpenSpec.upto parseKeysSpec)) parseKeysUptoCard

/-- THE SECOND FORM's CARD OF 'reliquarylaw18.ParseLines'. -/
def parseLinesUptoCard : Claim7 := { stood := { row := parseLinesUptoRow, standIns := [], harness := (true, "decb44a3fa1ed57f45802ac48c52e75334be1e0e7055f9d18e412e3363539070"), looks := true }, kinds := [], alts := [], laidByText := true, laidKinds := [.data, .data, .data, .data, .sentinel, .sentinel, .pinned], laidTests := true, laidLooks := .later }
def ParseLinesUptoCardSaid : Prop := Claim7.holds Tryz.pinned (.plain (OpenSpec.upto parseLinesSpec)) parseLinesUptoCard

/-- THE SECOND FORM's CARD OF 'reliquarylaw18.ParseScores'. -/
def parseScoresUptoCard : Claim7 := { stood := { row := parseScoresUptoRow, standIns := [], harness := (true, "decb44a3fa1ed57f45802ac48c52e75334be1e0e7055f9d18e412e3363539070"), looks := true }, kinds := [], alts := [], laidByText := true, laidKinds := [.data, .data, .data, .data, .sentinel, .sentinel, .pinned], laidTests := true, laidLooks := .later }
def ParseScoresUptoCardSaid : Prop := Claim7.holds Tryz.pinned (.plain (OpenSpec.upto parseScoresSpec)) parseScoresUptoCard

/-- THE SECOND FORM's CARD OF 'reliquarylaw19.ReplyJunk'. -/
def replyJunkUptoCard : Claim7 := { stood := { row := replyJunkUptoRow, standIns := [], harness := (true, "decb44a3fa1ed57f45802ac48c52e75334be1e0e7055f9d18e412e3363539070"), looks := true }, kinds := [], alts := [], laidByText := true, laidKinds := [.data, .data, .data, .data, .sentinel, .sentinel, .pinned], laidTests := true, laidLooks := .later }
def ReplyJunkUptoCardSaid : Prop := Claim7.holds Tryz.pinned (.plain (OpenSpec.upto replyJunkSpec)) replyJunkUptoCard

/-- THE SECOND FORM's CARD OF 'reliquarylaw19.ReplyScores'. -/
def replyScoresUptoCard : Claim7 := { stood := { row := replyScoresUptoRow, standIns := [], harness := (true, "decb44a3fa1ed57f45802ac48c52e75334be1e0e7055f9d18e412e3363539070"), looks := true }, kinds := [], alts := [], laidByText := true, laidKinds := [.data, .data, .data, .data, .sentinel, .sentinel, .pinned], laidTests := true, laidLooks := .later }
def ReplyScoresUptoCardSaid : Prop := Claim7.holds Tryz.pinned (.plain (OpenSpec.upto replyScoresSpec)) replyScoresUptoCard

/-- THE SECOND FORM's CARD OF 'reliquarylaw19.ReplyLengths'. -/
def replyLengthsUptoCard : Claim7 := { stood := { row := replyLengthsUptoRow, standIns := [], harness := (true, "decb44a3fa1ed57f45802ac48c52e75334be1e0e7055f9d18e412e3363539070"), looks := true }, kinds := [], alts := [], laidByText := true, laidKinds := [.data, .data, .data, .data, .sentinel, .sentinel, .pinned], laidTests := true, laidLooks := .later }
def ReplyLengthsUptoCardSaid : Prop := Claim7.holds Tryz.pinned (.plain (OpenSpec.upto replyLengthsSpec)) replyLengthsUptoCard

/-- THE SECOND FORM's CARD OF 'reliquarylaw19.ReplyErrors'. -/
def replyErrorsUptoCard : Claim7 := { stood := { row := replyErrorsUptoRow, standIns := [], harness := (true, "decb44a3fa1ed57f45802ac48c52e75334be1e0e7055f9d18e412e3363539070"), looks := true }, kinds := [], alts := [], laidByText := true, laidKinds := [.data, .data, .data, .data, .sentinel, .sentinel, .pinned], laidTests := true, laidLooks := .later }
def ReplyErrorsUptoCardSaid : Prop := Claim7.holds Tryz.pinned (.plain (OpenSpec.upto replyErrorsSpec)) replyErrorsUptoCard
end Rows
end Go.Proofs.YtbhgdpchehkchaaGreatDoor
