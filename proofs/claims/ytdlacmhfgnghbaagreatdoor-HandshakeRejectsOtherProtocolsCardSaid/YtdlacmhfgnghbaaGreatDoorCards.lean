/-
  DERIVED. GIVEN WITH THE SEED: THE CARDS: each row of YtdlacmhfgnghbaaGreatDoorRows.lean that lists a variable, with what it lists TIED to the program's text (the seventh form; the later family's looks); each row that meets fmt, with fmt's text TOLD by the authors' own Lean function (tested against real Go, not proved from fmt's source: count such statements apart). THE CARD IS WHAT COUNTS. Prove the row's statement (the work); the ties are given (YtdlacmhfgnghbaaGreatDoorTie.lean); close each card by the builder's one call (the guide's Derived/Test/ToyasCard.lean, 'card_holds'). Laid BY PROGRAM, IN A SANDBOX (cutbox-door.mjs). By AI agents, Wed Nov 11 2026. No macro, syntax, notation, axiom, sorry.
-/
import Derived.Test.YtdlacmhfgnghbaaGreatDoorRows
import GoSem.ClaimSeven
namespace Go.Proofs.YtdlacmhfgnghbaaGreatDoor
namespace Rows

/-- THE TIED CARD OF 'ginnellaw23.HandshakeRejectsOtherProtocols'. -/
def handshakeRejectsOtherProtocolsCard : Claim7 := { stood := { row := handshakeRejectsOtherProtocolsRow, standIns := [], harness := (true, "6b3b8080f0a9782e4efdc04f66968e1a213ab92dbe98517d9c4b80050c79bb23"), looks := true }, kinds := [], alts := [], laidByText := true, laidKinds := [.data, .data, .data, .data, .sentinel, .sentinel, .pinned], laidTests := true, laidLooks := .later }
def HandshakeRejectsOtherProtocolsCardSaid : Prop := Claim7.holds Tryz.pinned (.plain (OpenSpec.ofChange handshakeRejectsOtherProtocolsSpec)) handshakeRejectsOtherProtocolsCard

/-- THE SECOND FORM's CARD OF 'ginnellaw23.HandshakeRejectsOtherProtocols'. -/
def handshakeRejectsOtherProtocolsUptoCard : Claim7 := { stood := { row := handshakeRejectsOtherProtocolsUptoRow, standIns := [], harness := (true, "6b3b8080f0a9782e4efdc04f66968e1a213ab92dbe98517d9c4b80050c79bb23"), looks := true }, kinds := [], alts := [], laidByText := true, laidKinds := [.data, .data, .data, .data, .sentinel, .sentinel, .pinned], laidTests := true, laidLooks := .later }
def HandshakeRejectsOtherProtocolsUptoCardSaid : Prop := Claim7.holds Tryz.pinned (.plain (OpenSpec.upto handshakeRejectsOtherProtocolsSpec)) handshakeRejectsOtherProtocolsUptoCard
end Rows
end Go.Proofs.YtdlacmhfgnghbaaGreatDoor
