/-
  DERIVED. GIVEN WITH THE SEED: THE CARDS: each row of YtgfkgcnnjehmlaaDoorRows.lean that lists a variable, with what it lists TIED to the program's text (the seventh form; the later family's looks); each row that meets fmt, with fmt's text TOLD by the authors' own Lean function (tested against real Go, not proved from fmt's source: count such statements apart). THE CARD IS WHAT COUNTS. Prove the row's statement (the work); the ties are given (YtgfkgcnnjehmlaaDoorTie.lean); close each card by the builder's one call (the guide's Derived/Test/ToyasCard.lean, 'card_holds'). Laid BY PROGRAM, IN A SANDBOX (cutbox-door.mjs). By AI agents, Wed Nov 11 2026. No macro, syntax, notation, axiom, sorry.
-/
import Derived.Test.YtgfkgcnnjehmlaaDoorRows
import GoSem.ClaimSeven
namespace Go.Proofs.YtgfkgcnnjehmlaaDoor
namespace Rows

/-- THE TIED CARD OF 'boltholelaw03.FrameEncodes'. -/
def frameEncodesCard : Claim7 := { stood := { row := frameEncodesRow, standIns := [], harness := (true, "d21765d10b833712defbccd1a59935681cb355bece825fa6badc3327f7628335"), looks := true }, kinds := [], alts := [], laidByText := true, laidKinds := [.data, .data, .data, .data, .sentinel, .sentinel, .pinned], laidTests := true, laidLooks := .later }
def FrameEncodesCardSaid : Prop := Claim7.holds Tryd.pinned (.plain (OpenSpec.ofChange frameEncodesSpec)) frameEncodesCard

/-- THE TIED CARD OF 'boltholelaw03.FrameFeeds'. -/
def frameFeedsCard : Claim7 := { stood := { row := frameFeedsRow, standIns := [], harness := (true, "d21765d10b833712defbccd1a59935681cb355bece825fa6badc3327f7628335"), looks := true }, kinds := [], alts := [], laidByText := true, laidKinds := [.data, .data, .data, .data, .sentinel, .sentinel, .pinned], laidTests := true, laidLooks := .later }
def FrameFeedsCardSaid : Prop := Claim7.holds Tryd.pinned (.plain (OpenSpec.ofChange frameFeedsSpec)) frameFeedsCard

/-- THE TIED CARD OF 'boltholelaw03.FrameCut'. -/
def frameCutCard : Claim7 := { stood := { row := frameCutRow, standIns := [], harness := (true, "d21765d10b833712defbccd1a59935681cb355bece825fa6badc3327f7628335"), looks := true }, kinds := [], alts := [], laidByText := true, laidKinds := [.data, .data, .data, .data, .sentinel, .sentinel, .pinned], laidTests := true, laidLooks := .later }
def FrameCutCardSaid : Prop := Claim7.holds Tryd.pinned (.plain (OpenSpec.ofChange frameCutSpec)) frameCutCard

/-- THE TIED CARD OF 'boltholelaw03.FrameBack'. -/
def frameBackCard : Claim7 := { stood := { row := frameBackRow, standIns := [], harness := (true, "d21765d10b833712defbccd1a59935681cb355bece825fa6badc3327f7628335"), looks := true }, kinds := [], alts := [], laidByText := true, laidKinds := [.data, .data, .data, .data, .sentinel, .sentinel, .pinned], laidTests := true, laidLooks := .later }
def FrameBackCardSaid : Prop := Claim7.holds Tryd.pinned (.plain (OpenSpec.ofChange frameBackSpec)) frameBackCard

/-- THE TIED CARD OF 'boltholelaw03.FrameNil'. -/
def frameNilCard : Claim7 := { stood := { row := frameNilRow, standIns := [], harness := (true, "d21765d10b833712defbccd1a59935681cb355bece825fa6badc3327f7628335"), looks := true }, kinds := [], alts := [], laidByText := true, laidKinds := [.data, .data, .data, .data, .sentinel, .sentinel, .pinned], laidTests := true, laidLooks := .later }
def FrameNilCardSaid : Prop := Claim7.holds Tryd.pinned (.plain (OpenSpec.ofChange frameNilSpec)) frameNilCard

/-- THE SECOND FORM's CARD OF 'boltholelaw03.FrameEncodes'. -/
def frameEncodesUptoCard : Claim7 := { stood := { row := frameEncodesUptoRow, standIns := [], harness := (true, "d21765d10b833712defbccd1a59935681cb355bece825fa6badc3327f7628335"), looks := true }, kinds := [], alts := [], laidByText := true, laidKinds := [.data, .data, .data, .data, .sentinel, .sentinel, .pinned], laidTests := true, laidLooks := .later }
def FrameEncodesUptoCardSaid : Prop := Claim7.holds Tryd.pinned (.plain (OpenSpec.upto frameEncodesSpec)) frameEncodesUptoCard

/-- THE SECOND FORM's CARD OF 'boltholelaw03.FrameFeeds'. -/
def frameFeedsUptoCard : Claim7 := { stood := { row := frameFeedsUptoRow, standIns := [], harness := (true, "d21765d10b833712defbccd1a59935681cb355bece825fa6badc3327f7628335"), looks := true }, kinds := [], alts := [], laidByText := true, laidKinds := [.data, .data, .data, .data, .sentinel, .sentinel, .pinned], laidTests := true, laidLooks := .later }
def FrameFeedsUptoCardSaid : Prop := Claim7.holds Tryd.pinned (.plain (OpenSpec.upto frameFeedsSpec)) frameFeedsUptoCard

/-- THE SECOND FORM's CARD OF 'boltholelaw03.FrameCut'. -/
def frameCutUptoCard : Claim7 := { stood := { row := frameCutUptoRow, standIns := [], harness := (true, "d21765d10b833712defbccd1a59935681cb355bece825fa6badc3327f7628335"), looks := true }, kinds := [], alts := [], laidByText := true, laidKinds := [.data, .data, .data, .data, .sentinel, .sentinel, .pinned], laidTests := true, laidLooks := .later }
def FrameCutUptoCardSaid : Prop := Claim7.holds Tryd.pinned (.plain (OpenSpec.upto frameCutSpec)) frameCutUptoCard

/-- THE SECOND FORM's CARD OF 'boltholelaw03.FrameBack'. -/
def frameBackUptoCard : Claim7 := { stood := { row := frameBackUptoRow, standIns := [], harness := (true, "d21765d10b833712defbccd1a59935681cb355bece825fa6badc3327f7628335"), looks := true }, kinds := [], alts := [], laidByText := true, laidKinds := [.data, .data, .data, .data, .sentinel, .sentinel, .pinned], laidTests := true, laidLooks := .later }
def FrameBackUptoCardSaid : Prop := Claim7.holds Tryd.pinned (.plain (OpenSpec.upto frameBackSpec)) frameBackUptoCard

/-- THE SECOND FORM's CARD OF 'boltholelaw03.FrameNil'. -/
def frameNilUptoCard : Claim7 := { stood := { row := frameNilUptoRow, standIns := [], harness := (true, "d21765d10b833712defbccd1a59935681cb355bece825fa6badc3327f7628335"), looks := true }, kinds := [], alts := [], laidByText := true, laidKinds := [.data, .data, .data, .data, .sentinel, .sentinel, .pinned], laidTests := true, laidLooks := .later }
def FrameNilUptoCardSaid : Prop := Claim7.holds Tryd.pinned (.plain (OpenSpec.upto frameNilSpec)) frameNilUptoCard
end Rows
end Go.Proofs.YtgfkgcnnjehmlaaDoor
