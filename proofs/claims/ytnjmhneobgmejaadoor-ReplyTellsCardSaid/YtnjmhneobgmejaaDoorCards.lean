/-
  DERIVED. GIVEN WITH THE SEED: THE CARDS: each row of YtnjmhneobgmejaaDoorRows.lean that lists a variable, with what it lists TIED to the program's text (the seventh form; the later family's looks); each row that meets fmt, with fmt's text TOLD by the authors' own Lean function (tested against real Go, not proved from fmt's source: count such statements apart). THE CARD IS WHAT COUNTS. Prove the row's statement (the work); the ties are given (YtnjmhneobgmejaaDoorTie.lean); close each card by the builder's one call (the guide's Derived/Test/ToyasCard.lean, 'card_holds'). Laid BY PROGRAM, IN A SANDBOX (cutbox-door.mjs). By AI agents, Wed Nov 11 2026. No macro, syntax, notation, axiom, sorry.
-/
import Derived.Test.YtnjmhneobgmejaaDoorRows
import GoSem.ClaimSeven
namespace Go.Proofs.YtnjmhneobgmejaaDoor
namespace Rows

/-- THE TIED CARD OF 'reliquarylaw19.ReplyTells'. -/
def replyTellsCard : Claim7 := { stood := { row := replyTellsRow, standIns := [], harness := (true, "73b3e727ec14f8e8fb209dad522efe0abdc3f03f44192bf6595ae19841598f8e"), looks := false }, kinds := [], alts := [], laidByText := true, laidKinds := [.data, .data, .data], laidTests := true, laidLooks := .later }
def ReplyTellsCardSaid : Prop := Claim7.holds Tryd.pinned (.plain (OpenSpec.ofChange replyTellsSpec)) replyTellsCard

/-- THE SECOND FORM's CARD OF 'reliquarylaw19.ReplyTells'. -/
def replyTellsUptoCard : Claim7 := { stood := { row := replyTellsUptoRow, standIns := [], harness := (true, "73b3e727ec14f8e8fb209dad522efe0abdc3f03f44192bf6595ae19841598f8e"), looks := false }, kinds := [], alts := [], laidByText := true, laidKinds := [.data, .data, .data], laidTests := true, laidLooks := .later }
def ReplyTellsUptoCardSaid : Prop := Claim7.holds Tryd.pinned (.plain (OpenSpec.upto replyTellsSpec)) replyTellsUptoCard
end Rows
end Go.Proofs.YtnjmhneobgmejaaDoor
