/- The law 'input that starts neither a SOCKS5 nor a CONNECT handshake is rejected' holds of the given program for every slice of bytes: the tied card. Conditions: the row's own (the listed variables of Go's library start as the program's text lays them). -/
import Derived.Test.YtdlacmhfgnghbaaGreatDoorAxRow1
import Derived.Test.YtdlacmhfgnghbaaGreatDoorTie
import Derived.Test.YtdlacmhfgnghbaaGreatDoorCards
import Derived.SevenTiedAt
set_option linter.unusedVariables false
set_option linter.constructorNameAsVariable false
set_option linter.unusedSimpArgs false
namespace Go.Proofs.YtdlacmhfgnghbaaGreatDoor
open Go

theorem handshake_card_holds : Rows.HandshakeRejectsOtherProtocolsCardSaid :=
  Claim7.holds_tied_plain_at .later [] [.data, .data, .data, .data, .sentinel, .sentinel, .pinned] true (true, "6b3b8080f0a9782e4efdc04f66968e1a213ab92dbe98517d9c4b80050c79bb23") true
    row_holds (fun _ h => by cases h) (by kernel_rfl) (fun _ h => by cases h) handshakeRejectsOtherProtocols_row_tie rfl ⟨rfl, rfl⟩ (by kernel_rfl) rfl
    (fun f fn hf hfn => by
      obtain rfl : f = 3 := Option.some.inj ((show Tryz.prog.funcNamed "ginnel/ginnellaw23.HandshakeRejectsOtherProtocols" = some 3 by kernel_rfl).symm.trans hf) |>.symm
      obtain rfl : fn = Tryz.f3 := (Option.some.inj (Tryz.func3.symm.trans hfn)).symm
      exact ⟨by kernel_rfl, fun j t ht => by
        rw [Tryz.params3] at ht
        have hm : t ∈ [22] := by simpa using Array.mem_of_getElem? ht
        have hall : ([22].all fun u => !Tryz.prog.wantsStandIn u) = true := by kernel_rfl
        exact (show Tryz.prog.wantsStandIn t = false by simpa using List.all_eq_true.1 hall t hm)⟩)
    (by kernel_rfl)
#print axioms handshake_card_holds
end Go.Proofs.YtdlacmhfgnghbaaGreatDoor
