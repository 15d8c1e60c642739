/-
  DERIVED. GIVEN WITH THE SEED: THE CARDS: each row of YthnbeebilomchaaGreatDoorRows.lean that lists a variable, with what it lists TIED to the program's text (the seventh form; the later family's looks); each row that meets fmt, with fmt's text TOLD by the authors' own Lean function (tested against real Go, not proved from fmt's source: count such statements apart). THE CARD IS WHAT COUNTS. Prove the row's statement (the work); the ties are given (YthnbeebilomchaaGreatDoorTie.lean); close each card by the builder's one call (the guide's Derived/Test/ToyasCard.lean, 'card_holds'). Laid BY PROGRAM, IN A SANDBOX (cutbox-door.mjs). By AI agents, Wed Nov 11 2026. No macro, syntax, notation, axiom, sorry.
-/
import Derived.Test.YthnbeebilomchaaGreatDoorRows
import GoSem.ClaimSeven
namespace Go.Proofs.YthnbeebilomchaaGreatDoor
namespace Rows

/-- THE TIED CARD OF 'boltholelaw04.RpcWrites'. -/
def rpcWritesCard : Claim7 := { stood := { row := rpcWritesRow, standIns := [], harness := (true, "53642fa45f886c356ad79fcdf48b1b3fb671cf86e0779d40d62ae12111470f8b"), looks := true }, kinds := [], alts := [], laidByText := true, laidKinds := [.data, .data, .data, .data, .sentinel, .sentinel, .pinned], laidTests := true, laidLooks := .later }
def RpcWritesCardSaid : Prop := Claim7.holds Tryz.pinned (.plain (OpenSpec.ofChange rpcWritesSpec)) rpcWritesCard

/-- THE TIED CARD OF 'boltholelaw04.RpcAnswers'. -/
def rpcAnswersCard : Claim7 := { stood := { row := rpcAnswersRow, standIns := [], harness := (true, "53642fa45f886c356ad79fcdf48b1b3fb671cf86e0779d40d62ae12111470f8b"), looks := true }, kinds := [], alts := [], laidByText := true, laidKinds := [.data, .data, .data, .data, .sentinel, .sentinel, .pinned], laidTests := true, laidLooks := .later }
def RpcAnswersCardSaid : Prop := Claim7.holds Tryz.pinned (.plain (OpenSpec.ofChange rpcAnswersSpec)) rpcAnswersCard

/-- THE TIED CARD OF 'boltholelaw04.RpcBack'. -/
def rpcBackCard : Claim7 := { stood := { row := rpcBackRow, standIns := [], harness := (true, "53642fa45f886c356ad79fcdf48b1b3fb671cf86e0779d40d62ae12111470f8b"), looks := true }, kinds := [], alts := [], laidByText := true, laidKinds := [.data, .data, .data, .data, .sentinel, .sentinel, .pinned], laidTests := true, laidLooks := .later }
def RpcBackCardSaid : Prop := Claim7.holds Tryz.pinned (.plain (OpenSpec.ofChange rpcBackSpec)) rpcBackCard

/-- THE SECOND FORM's CARD OF 'boltholelaw04.RpcWrites'. -/
def rpcWritesUptoCard : Claim7 := { stood := { row := rpcWritesUptoRow, standIns := [], harness := (true, "53642fa45f886c356ad79fcdf48b1b3fb671cf86e0779d40d62ae12111470f8b"), looks := true }, kinds := [], alts := [], laidByText := true, laidKinds := [.data, .data, .data, .data, .sentinel, .sentinel, .pinned], laidTests := true, laidLooks := .later }
def RpcWritesUptoCardSaid : Prop := Claim7.holds Tryz.pinned (.plain (OpenSpec.upto rpcWritesSpec)) rpcWritesUptoCard

/-- THE SECOND FORM's CARD OF 'boltholelaw04.RpcAnswers'. -/
def rpcAnswersUptoCard : Claim7 := { stood := { row := rpcAnswersUptoRow, standIns := [], harness := (true, "53642fa45f886c356ad79fcdf48b1b3fb671cf86e0779d40d62ae12111470f8b"), looks := true }, kinds := [], alts := [], laidByText := true, laidKinds := [.data, .data, .data, .data, .sentinel, .sentinel, .pinned], laidTests := true, laidLooks := .later }
def RpcAnswersUptoCardSaid : Prop := Claim7.holds Tryz.pinned (.plain (OpenSpec.upto rpcAnswersSpec)) rpcAnswersUptoCard

/-- THE SECOND FORM's CARD OF 'boltholelaw04.RpcBack'. -/
def rpcBackUptoCard : Claim7 := { stood := { row := rpcBackUptoRow, standIns := [], harness := (true, "53642fa45f886c356ad79fcdf48b1b3fb671cf86e0779d40d62ae12111470f8b"), looks := true }, kinds := [], alts := [], laidByText := true, laidKinds := [.data, .data, .data, .data, .sentinel, .sentinel, .pinned], laidTests := true, laidLooks := .later }
def RpcBackUptoCardSaid : Prop := Claim7.holds Tryz.pinned (.plain (OpenSpec.upto rpcBackSpec)) rpcBackUptoCard
end Rows
end Go.Proofs.YthnbeebilomchaaGreatDoor
