/-
  DERIVED. GIVEN WITH THE SEED: THE CARDS: each row of YtnjmhneobgmejaaGreatDoorRows.lean that lists a variable, with what it lists TIED to the program's text (the seventh form; the later family's looks); each row that meets fmt, with fmt's text TOLD by the authors' own Lean function (tested against real Go, not proved from fmt's source: count such statements apart). THE CARD IS WHAT COUNTS. Prove the row's statement (the work); the ties are given (YtnjmhneobgmejaaGreatDoorTie.lean); close each card by the builder's one call (the guide's Derived/Test/ToyasCard.lean, 'card_holds'). Laid BY PROGRAM, IN A SANDBOX (cutbox-door.mjs). By AI agents, Wed Nov 11 2026. No macro, syntax, notation, axiom, sorry.
-/
import Derived.Test.YtnjmhneobgmejaaGreatDoorRows
import GoSem.ClaimSeven
namespace Go.Proofs.YtnjmhneobgmejaaGreatDoor
namespace Rows

/-- THE TIED CARD OF 'reliquarylaw19.ReplyJunk'. -/
def replyJunkCard : Claim7 := { stood := { row := replyJunkRow, standIns := [], harness := (true, "d044c6e21b65a35be992e27de70a4a09e06e8199645aa43bf29657aa7e9b92bd"), looks := true }, kinds := [], alts := [], laidByText := true, laidKinds := [.data, .data, .data, .data, .sentinel, .sentinel, .pinned], laidTests := true, laidLooks := .later }
def ReplyJunkCardSaid : Prop := Claim7.holds Tryz.pinned (.plain (OpenSpec.ofChange replyJunkSpec)) replyJunkCard

/-- THE TIED CARD OF 'reliquarylaw19.ReplyScores'. -/
def replyScoresCard : Claim7 := { stood := { row := replyScoresRow, standIns := [], harness := (true, "d044c6e21b65a35be992e27de70a4a09e06e8199645aa43bf29657aa7e9b92bd"), looks := true }, kinds := [], alts := [], laidByText := true, laidKinds := [.data, .data, .data, .data, .sentinel, .sentinel, .pinned], laidTests := true, laidLooks := .later }
def ReplyScoresCardSaid : Prop := Claim7.holds Tryz.pinned (.plain (OpenSpec.ofChange replyScoresSpec)) replyScoresCard

/-- THE TIED CARD OF 'reliquarylaw19.ReplyLengths'. -/
def replyLengthsCard : Claim7 := { stood := { row := replyLengthsRow, standIns := [], harness := (true, "d044c6e21b65a35be992e27de70a4a09e06e8199645aa43bf29657aa7e9b92bd"), looks := true }, kinds := [], alts := [], laidByText := true, laidKinds := [.data, .data, .data, .data, .sentinel, .sentinel, .pinned], laidTests := true, laidLooks := .later }
def ReplyLengthsCardSaid : Prop := Claim7.holds Tryz.pinned (.plain (OpenSpec.ofChange replyLengthsSpec)) replyLengthsCard

/-- THE TIED CARD OF 'reliquarylaw19.ReplyErrors'. -/
def replyErrorsCard : Claim7 := { stood := { row := replyErrorsRow, standIns := [], harness := (true, "d044c6e21b65a35be992e27de70a4a09e06e8199645aa43bf29657aa7e9b92bd"), looks := true }, kinds := [], alts := [], laidByText := true, laidKinds := [.data, .data, .data, .data, .sentinel, .sentinel, .pinned], laidTests := true, laidLooks := .later }
def ReplyErrorsCardSaid : Prop := Claim7.holds Tryz.pinned (.plain (OpenSpec.ofChange replyErrorsSpec)) replyErrorsCard

/-- THE SECOND FORM's CARD OF 'reliquarylaw19.ReplyJunk'. -/
def replyJunkUptoCard : Claim7 := { stood := { row := replyJunkUptoRow, standIns := [], harness := (true, "d044c6e21b65a35be992e27de70a4a09e06e8199645aa43bf29657aa7e9b92bd"), looks := true }, kinds := [], alts := [], laidByText := true, laidKinds := [.data, .data, .data, .data, .sentinel, .sentinel, .pinned], laidTests := true, laidLooks := .later }
def ReplyJunkUptoCardSaid : Prop := Claim7.holds Tryz.pinned (.plain (OpenSpec.upto replyJunkSpec)) replyJunkUptoCard

/-- THE SECOND FORM's CARD OF 'reliquarylaw19.ReplyScores'. -/
def replyScoresUptoCard : Claim7 := { stood := { row := replyScoresUptoRow, standIns := [], harness := (true, "d044c6e21b65a35be992e27de70a4a09e06e8199645aa43bf29657aa7e9b92bd"), looks := true }, kinds := [], alts := [], laidByText := true, laidKinds := [.data, .data, .data, .data, .sentinel, .sentinel, .pinned], laidTests := true, laidLooks := .later }
def ReplyScoresUptoCardSaid : Prop := Claim7.holds Tryz.pinned (.plain (OpenSpec.upto replyScoresSpec)) replyScoresUptoCard

/-- THE SECOND FORM's CARD OF 'reliquarylaw19.ReplyLengths'. -/
def replyLengthsUptoCard : Claim7 := { stood := { row := replyLengthsUptoRow, standIns := [], harness := (true, "d044c6e21b65a35be992e27de70a4a09e06e8199645aa43bf29657aa7e9b92bd"), looks := true }, kinds := [], alts := [], laidByText := true, laidKinds := [.data, .data, .data, .data, .sentinel, .sentinel, .pinned], laidTests := true, laidLooks := .later }
def ReplyLengthsUptoCardSaid : Prop := Claim7.holds Tryz.pinned (.plain (OpenSpec.upto replyLengthsSpec)) replyLengthsUptoCard

/-- THE SECOND FORM's CARD OF 'reliquarylaw19.ReplyErrors'. -/
def replyErrorsUptoCard : Claim7 := { stood := { row := replyErrorsUptoRow, standIns := [], harness := (true, "d044c6e21b65a35be992e27de70a4a09e06e8199645aa43bf29657aa7e9b92bd"), looks := true }, kinds := [], alts := [], laidByText := true, laidKinds := [.data, .data, .data, .data, .sentinel, .sentinel, .pinned], laidTests := true, laidLooks := .later }
def ReplyErrorsUptoCardSaid : Prop := Claim7.holds Tryz.pinned (.plain (OpenSpec.upto replyErrorsSpec)) replyErrorsUptoCard
end Rows
end Go.Proofs.YtnjmhneobgmejaaGreatDoor
