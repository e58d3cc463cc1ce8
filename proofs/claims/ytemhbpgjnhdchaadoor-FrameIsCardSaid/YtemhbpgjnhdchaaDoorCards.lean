/-
  DERIVED. GIVEN WITH THE SEED: THE CARDS: each row of YtemhbpgjnhdchaaDoorRows.lean that lists a variable, with what it lists TIED to the program's text (the seventh form; the later family's looks); each row that meets fmt, with fmt's text TOLD by the authors' own Lean function (tested against real Go, not proved from fmt's source: count such statements apart). THE CARD IS WHAT COUNTS. Prove the row's statement (the work); the ties are given (YtemhbpgjnhdchaaDoorTie.lean); close each card by the builder's one call (the guide's Derived/Test/ToyasCard.lean, 'card_holds'). Laid BY PROGRAM, IN A SANDBOX (cutbox-door.mjs). By AI agents, Wed Nov 11 2026. No macro, syntax, notation, axiom, sorry.
-/
import Derived.Test.YtemhbpgjnhdchaaDoorRows
import GoSem.ClaimSeven
namespace Go.Proofs.YtemhbpgjnhdchaaDoor
namespace Rows

/-- THE TIED CARD OF 'heronrylaw06.FrameNeeds'. -/
def frameNeedsCard : Claim7 := { stood := { row := frameNeedsRow, standIns := [], harness := (true, "175830f20e7ba1cc0b7e21875b63ab527eb48b2d09783ff0722fbf4a42612c5d"), looks := false }, kinds := [], alts := [], laidByText := true, laidKinds := [.data, .pinned], laidTests := true, laidLooks := .later }
def FrameNeedsCardSaid : Prop := Claim7.holds Tryd.pinned (.plain (OpenSpec.ofChange frameNeedsSpec)) frameNeedsCard

/-- THE TIED CARD OF 'heronrylaw06.FrameOnes'. -/
def frameOnesCard : Claim7 := { stood := { row := frameOnesRow, standIns := [], harness := (true, "175830f20e7ba1cc0b7e21875b63ab527eb48b2d09783ff0722fbf4a42612c5d"), looks := false }, kinds := [], alts := [], laidByText := true, laidKinds := [.data, .pinned], laidTests := true, laidLooks := .later }
def FrameOnesCardSaid : Prop := Claim7.holds Tryd.pinned (.plain (OpenSpec.ofChange frameOnesSpec)) frameOnesCard

/-- THE TIED CARD OF 'heronrylaw06.FrameIs'. -/
def frameIsCard : Claim7 := { stood := { row := frameIsRow, standIns := [], harness := (true, "175830f20e7ba1cc0b7e21875b63ab527eb48b2d09783ff0722fbf4a42612c5d"), looks := false }, kinds := [], alts := [], laidByText := true, laidKinds := [.data, .pinned], laidTests := true, laidLooks := .later }
def FrameIsCardSaid : Prop := Claim7.holds Tryd.pinned (.plain (OpenSpec.ofChange frameIsSpec)) frameIsCard

/-- THE TIED CARD OF 'heronrylaw06.FrameBack'. -/
def frameBackCard : Claim7 := { stood := { row := frameBackRow, standIns := [], harness := (true, "175830f20e7ba1cc0b7e21875b63ab527eb48b2d09783ff0722fbf4a42612c5d"), looks := false }, kinds := [], alts := [], laidByText := true, laidKinds := [.data, .pinned], laidTests := true, laidLooks := .later }
def FrameBackCardSaid : Prop := Claim7.holds Tryd.pinned (.plain (OpenSpec.ofChange frameBackSpec)) frameBackCard

/-- THE TIED CARD OF 'heronrylaw06.FrameTurns'. -/
def frameTurnsCard : Claim7 := { stood := { row := frameTurnsRow, standIns := [], harness := (true, "175830f20e7ba1cc0b7e21875b63ab527eb48b2d09783ff0722fbf4a42612c5d"), looks := false }, kinds := [], alts := [], laidByText := true, laidKinds := [.data, .pinned], laidTests := true, laidLooks := .later }
def FrameTurnsCardSaid : Prop := Claim7.holds Tryd.pinned (.plain (OpenSpec.ofChange frameTurnsSpec)) frameTurnsCard

/-- THE TIED CARD OF 'heronrylaw06.FramePieces'. -/
def framePiecesCard : Claim7 := { stood := { row := framePiecesRow, standIns := [], harness := (true, "175830f20e7ba1cc0b7e21875b63ab527eb48b2d09783ff0722fbf4a42612c5d"), looks := false }, kinds := [], alts := [], laidByText := true, laidKinds := [.data, .pinned], laidTests := true, laidLooks := .later }
def FramePiecesCardSaid : Prop := Claim7.holds Tryd.pinned (.plain (OpenSpec.ofChange framePiecesSpec)) framePiecesCard

/-- THE SECOND FORM's CARD OF 'heronrylaw06.FrameNeeds'. -/
def frameNeedsUptoCard : Claim7 := { stood := { row := frameNeedsUptoRow, standIns := [], harness := (true, "175830f20e7ba1cc0b7e21875b63ab527eb48b2d09783ff0722fbf4a42612c5d"), looks := false }, kinds := [], alts := [], laidByText := true, laidKinds := [.data, .pinned], laidTests := true, laidLooks := .later }
def FrameNeedsUptoCardSaid : Prop := Claim7.holds Tryd.pinned (.plain (OpenSpec.upto frameNeedsSpec)) frameNeedsUptoCard

/-- THE SECOND FORM's CARD OF 'heronrylaw06.FrameOnes'. -/
def frameOnesUptoCard : Claim7 := { stood := { row := frameOnesUptoRow, standIns := [], harness := (true, "175830f20e7ba1cc0b7e21875b63ab527eb48b2d09783ff0722fbf4a42612c5d"), looks := false }, kinds := [], alts := [], laidByText := true, laidKinds := [.data, .pinned], laidTests := true, laidLooks := .later }
def FrameOnesUptoCardSaid : Prop := Claim7.holds Tryd.pinned (.plain (OpenSpec.upto frameOnesSpec)) frameOnesUptoCard

/-- THE SECOND FORM's CARD OF 'heronrylaw06.FrameIs'. -/
def frameIsUptoCard : Claim7 := { stood := { row := frameIsUptoRow, standIns := [], harness := (true, "175830f20e7ba1cc0b7e21875b63ab527eb48b2d09783ff0722fbf4a42612c5d"), looks := false }, kinds := [], alts := [], laidByText := true, laidKinds := [.data, .pinned], laidTests := true, laidLooks := .later }
def FrameIsUptoCardSaid : Prop := Claim7.holds Tryd.pinned (.plain (OpenSpec.upto frameIsSpec)) frameIsUptoCard

/-- THE SECOND FORM's CARD OF 'heronrylaw06.FrameBack'. -/
def frameBackUptoCard : Claim7 := { stood := { row := frameBackUptoRow, standIns := [], harness := (true, "175830f20e7ba1cc0b7e21875b63ab527eb48b2d09783ff0722fbf4a42612c5d"), looks := false }, kinds := [], alts := [], laidByText := true, laidKinds := [.data, .pinned], laidTests := true, laidLooks := .later }
def FrameBackUptoCardSaid : Prop := Claim7.holds Tryd.pinned (.plain (OpenSpec.upto frameBackSpec)) frameBackUptoCard

/-- THE SECOND FORM's CARD OF 'heronrylaw06.FrameTurns'. -/
def frameTurnsUptoCard : Claim7 := { stood := { row := frameTurnsUptoRow, standIns := [], harness := (true, "175830f20e7ba1cc0b7e21875b63ab527eb48b2d09783ff0722fbf4a42612c5d"), looks := false }, kinds := [], alts := [], laidByText := true, laidKinds := [.data, .pinned], laidTests := true, laidLooks := .later }
def FrameTurnsUptoCardSaid : Prop := Claim7.holds Tryd.pinned (.plain (OpenSpec.upto frameTurnsSpec)) frameTurnsUptoCard

/-- THE SECOND FORM's CARD OF 'heronrylaw06.FramePieces'. -/
def framePiecesUptoCard : Claim7 := { stood := { row := framePiecesUptoRow, standIns := [], harness := (true, "175830f20e7ba1cc0b7e21875b63ab527eb48b2d09783ff0722fbf4a42612c5d"), looks := false }, kinds := [], alts := [], laidByText := true, laidKinds := [.data, .pinned], laidTests := true, laidLooks := .later }
def FramePiecesUptoCardSaid : Prop := Claim7.holds Tryd.pinned (.plain (OpenSpec.upto framePiecesSpec)) framePiecesUptoCard
end Rows
end Go.Proofs.YtemhbpgjnhdchaaDoor
