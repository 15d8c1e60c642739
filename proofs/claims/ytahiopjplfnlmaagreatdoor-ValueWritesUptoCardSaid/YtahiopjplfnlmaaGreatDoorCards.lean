/-
  DERIVED. GIVEN WITH THE SEED: THE CARDS: each row of YtahiopjplfnlmaaGreatDoorRows.lean that lists a variable, with what it lists TIED to the program's text (the seventh form; the later family's looks); each row that meets fmt, with fmt's text TOLD by the authors' own Lean function (tested against real Go, not proved from fmt's source: count such statements apart). THE CARD IS WHAT COUNTS. Prove the row's statement (the work); the ties are given (YtahiopjplfnlmaaGreatDoorTie.lean); close each card by the builder's one call (the guide's Derived/Test/ToyasCard.lean, 'card_holds'). Laid BY PROGRAM, IN A SANDBOX (cutbox-door.mjs). By AI agents, Wed Nov 11 2026. No macro, syntax, notation, axiom, sorry.
-/
import Derived.Test.YtahiopjplfnlmaaGreatDoorRows
import GoSem.ClaimSeven
namespace Go.Proofs.YtahiopjplfnlmaaGreatDoor
namespace Rows

/-- THE TIED CARD OF 'boltholelaw02.ValueWrites'. -/
def valueWritesCard : Claim7 := { stood := { row := valueWritesRow, standIns := [], harness := (true, "96bf91f028ed53806f989092a336daa6c87036e2a7a70418273ada7e38878583"), looks := true }, kinds := [], alts := [], laidByText := true, laidKinds := [.data, .data, .data, .data, .sentinel, .sentinel, .pinned], laidTests := true, laidLooks := .later }
def ValueWritesCardSaid : Prop := Claim7.holds Tryz.pinned (.plain (OpenSpec.ofChange valueWritesSpec)) valueWritesCard

/-- THE TIED CARD OF 'boltholelaw02.ValueBack'. -/
def valueBackCard : Claim7 := { stood := { row := valueBackRow, standIns := [], harness := (true, "96bf91f028ed53806f989092a336daa6c87036e2a7a70418273ada7e38878583"), looks := true }, kinds := [], alts := [], laidByText := true, laidKinds := [.data, .data, .data, .data, .sentinel, .sentinel, .pinned], laidTests := true, laidLooks := .later }
def ValueBackCardSaid : Prop := Claim7.holds Tryz.pinned (.plain (OpenSpec.ofChange valueBackSpec)) valueBackCard

/-- THE TIED CARD OF 'boltholelaw02.ValueAgain'. -/
def valueAgainCard : Claim7 := { stood := { row := valueAgainRow, standIns := [], harness := (true, "96bf91f028ed53806f989092a336daa6c87036e2a7a70418273ada7e38878583"), looks := true }, kinds := [], alts := [], laidByText := true, laidKinds := [.data, .data, .data, .data, .sentinel, .sentinel, .pinned], laidTests := true, laidLooks := .later }
def ValueAgainCardSaid : Prop := Claim7.holds Tryz.pinned (.plain (OpenSpec.ofChange valueAgainSpec)) valueAgainCard

/-- THE TIED CARD OF 'boltholelaw02.ValueDeep'. -/
def valueDeepCard : Claim7 := { stood := { row := valueDeepRow, standIns := [], harness := (true, "96bf91f028ed53806f989092a336daa6c87036e2a7a70418273ada7e38878583"), looks := true }, kinds := [], alts := [], laidByText := true, laidKinds := [.data, .data, .data, .data, .sentinel, .sentinel, .pinned], laidTests := true, laidLooks := .later }
def ValueDeepCardSaid : Prop := Claim7.holds Tryz.pinned (.plain (OpenSpec.ofChange valueDeepSpec)) valueDeepCard

/-- THE SECOND FORM's CARD OF 'boltholelaw02.ValueWrites'. -/
def valueWritesUptoCard : Claim7 := { stood := { row := valueWritesUptoRow, standIns := [], harness := (true, "96bf91f028ed53806f989092a336daa6c87036e2a7a70418273ada7e38878583"), looks := true }, kinds := [], alts := [], laidByText := true, laidKinds := [.data, .data, .data, .data, .sentinel, .sentinel, .pinned], laidTests := true, laidLooks := .later }
def ValueWritesUptoCardSaid : Prop := Claim7.holds Tryz.pinned (.plain (OpenSpec.upto valueWritesSpec)) valueWritesUptoCard

/-- THE SECOND FORM's CARD OF 'boltholelaw02.ValueBack'. -/
def valueBackUptoCard : Claim7 := { stood := { row := valueBackUptoRow, standIns := [], harness := (true, "96bf91f028ed53806f989092a336daa6c87036e2a7a70418273ada7e38878583"), looks := true }, kinds := [], alts := [], laidByText := true, laidKinds := [.data, .data, .data, .data, .sentinel, .sentinel, .pinned], laidTests := true, laidLooks := .later }
def ValueBackUptoCardSaid : Prop := Claim7.holds Tryz.pinned (.plain (OpenSpec.upto valueBackSpec)) valueBackUptoCard

/-- THE SECOND FORM's CARD OF 'boltholelaw02.ValueAgain'. -/
def valueAgainUptoCard : Claim7 := { stood := { row := valueAgainUptoRow, standIns := [], harness := (true, "96bf91f028ed53806f989092a336daa6c87036e2a7a70418273ada7e38878583"), looks := true }, kinds := [], alts := [], laidByText := true, laidKinds := [.data, .data, .data, .data, .sentinel, .sentinel, .pinned], laidTests := true, laidLooks := .later }
def ValueAgainUptoCardSaid : Prop := Claim7.holds Tryz.pinned (.plain (OpenSpec.upto valueAgainSpec)) valueAgainUptoCard

/-- THE SECOND FORM's CARD OF 'boltholelaw02.ValueDeep'. -/
def valueDeepUptoCard : Claim7 := { stood := { row := valueDeepUptoRow, standIns := [], harness := (true, "96bf91f028ed53806f989092a336daa6c87036e2a7a70418273ada7e38878583"), looks := true }, kinds := [], alts := [], laidByText := true, laidKinds := [.data, .data, .data, .data, .sentinel, .sentinel, .pinned], laidTests := true, laidLooks := .later }
def ValueDeepUptoCardSaid : Prop := Claim7.holds Tryz.pinned (.plain (OpenSpec.upto valueDeepSpec)) valueDeepUptoCard
end Rows
end Go.Proofs.YtahiopjplfnlmaaGreatDoor
