/-
  NARROWER THAN 'FOR EVERY INPUT', by the rows' own cells (each row's printed sentence says how): FrameNeeds: laid · FrameOnes: laid · FrameIs: laid · FrameBack: laid · FrameTurns: laid · FramePieces: laid.
  DERIVED. THE GIVEN ROWS OF THIS SEAT. 6 by the template 'for every input the law returns true; each argument reads behind the call as it read before'; 0 by the template 'total and deterministic' (their statements: YtemhbpgjnhdchaaDoorTotals.lean).
  GIVEN WITH THE SEED: the statements are not yours to turn. If you find one false, say at which input.
  Laid BY PROGRAM, IN A SANDBOX (cutbox-rows.mjs): the forced cells as the released guide's own fill.sh prints them over the translation c1292f02f873f375… (all of the seat's roots in one cut). By AI agents, Wed Nov 11 2026. No macro, syntax, notation, axiom, sorry.
-/
import Derived.Test.YtemhbpgjnhdchaaDoorChecked
import GoSem.PinnedTables
import GoSem.Claim
import GoSem.ClaimJoined
import GoSem.ClaimMapViews
import Derived.JoinedTies
import Derived.KernelRfl
namespace Go.Proofs.YtemhbpgjnhdchaaDoor
/- THE CELL 'sum', in the pinned program and in every row, IS THE sha256 OF THE DUMP (.gsa) THAT YtemhbpgjnhdchaaDoorProg.lean LOADS. Nothing in Lean hashes anything: it is a label: what it is worth is what the hold of that sum in a sandbox is worth. -/
noncomputable def Tryd.pinned : Pinned := { name := "ytemhbpgjnhdchaadoor", sum := "c1292f02f873f37555d25776f8054046d1dd79d82eb5637897391366c9dbacf5", checked := Tryd.checked }
namespace Rows
def none {H : Type} : Left H := { results := [], args := [] }

/- WHAT THE LISTED PACKAGE-LEVEL VARIABLES READ AS WHEN THE CALL BEGINS. Each datum BY PROGRAM (the guide's laid-datum.mjs) off the statement by which the dump's own 'gosem.cut.vars' lays the variable. In a bare row this is a premise. The card (YtemhbpgjnhdchaaDoorCards.lean) ties it to the program's text. -/
def laid_unicode_utf8_acceptRanges {H : Type} : DataW H := .agg [.agg [.lit (.int .u8 128), .lit (.int .u8 191)], .agg [.lit (.int .u8 160), .lit (.int .u8 191)], .agg [.lit (.int .u8 128), .lit (.int .u8 159)], .agg [.lit (.int .u8 144), .lit (.int .u8 191)], .agg [.lit (.int .u8 128), .lit (.int .u8 143)], .agg [.lit (.int .u8 0), .lit (.int .u8 0)], .agg [.lit (.int .u8 0), .lit (.int .u8 0)], .agg [.lit (.int .u8 0), .lit (.int .u8 0)], .agg [.lit (.int .u8 0), .lit (.int .u8 0)], .agg [.lit (.int .u8 0), .lit (.int .u8 0)], .agg [.lit (.int .u8 0), .lit (.int .u8 0)], .agg [.lit (.int .u8 0), .lit (.int .u8 0)], .agg [.lit (.int .u8 0), .lit (.int .u8 0)], .agg [.lit (.int .u8 0), .lit (.int .u8 0)], .agg [.lit (.int .u8 0), .lit (.int .u8 0)], .agg [.lit (.int .u8 0), .lit (.int .u8 0)]]
/-- One of Go's own tables, pinned by name: the form's constant. -/
def laid_unicode_utf8_first : DataW Unit := Go.Pinned.utf8First

/-- 'heronrylaw06.FrameNeeds': WHATEVER THE INPUT: true; the input reads as it did. -/
def frameNeedsSpec : ChangeSpec := { name := "frameNeeds", fn := fun _ => fun
  | [d1, d2, d3] => { results := [.lit (.bool true)], args := [d1, d2, d3] }
  | _ => none }
def frameNeedsRow : OpenClaim := { program := "ytemhbpgjnhdchaadoor", sum := "c1292f02f873f37555d25776f8054046d1dd79d82eb5637897391366c9dbacf5", func := "heronry/heronrylaw06.FrameNeeds", spec := "frameNeeds", named := ["unicode/utf8.first", "unicode/utf8.acceptRanges"], apart := false, laid := [("unicode/utf8.acceptRanges", laid_unicode_utf8_acceptRanges), ("unicode/utf8.first", laid_unicode_utf8_first)] }
def FrameNeedsSaid : Prop := frameNeedsRow.holds Tryd.pinned (OpenSpec.ofChange frameNeedsSpec)

/-- ITS FALSE NEIGHBOUR: 'it returns false'. Refute it at one input. -/
def frameNeedsWrong : ChangeSpec := { name := "frameNeeds", fn := fun _ => fun
  | [d1, d2, d3] => { results := [.lit (.bool false)], args := [d1, d2, d3] }
  | _ => none }
def FrameNeedsWrongFalsely : Prop := frameNeedsRow.holds Tryd.pinned (OpenSpec.ofChange frameNeedsWrong)

/-- 'heronrylaw06.FrameOnes': WHATEVER THE INPUT: true; the input reads as it did. -/
def frameOnesSpec : ChangeSpec := { name := "frameOnes", fn := fun _ => fun
  | [d1, d2, d3] => { results := [.lit (.bool true)], args := [d1, d2, d3] }
  | _ => none }
def frameOnesRow : OpenClaim := { program := "ytemhbpgjnhdchaadoor", sum := "c1292f02f873f37555d25776f8054046d1dd79d82eb5637897391366c9dbacf5", func := "heronry/heronrylaw06.FrameOnes", spec := "frameOnes", named := ["unicode/utf8.first", "unicode/utf8.acceptRanges"], apart := false, laid := [("unicode/utf8.acceptRanges", laid_unicode_utf8_acceptRanges), ("unicode/utf8.first", laid_unicode_utf8_first)] }
def FrameOnesSaid : Prop := frameOnesRow.holds Tryd.pinned (OpenSpec.ofChange frameOnesSpec)

/-- ITS FALSE NEIGHBOUR: 'it returns false'. Refute it at one input. -/
def frameOnesWrong : ChangeSpec := { name := "frameOnes", fn := fun _ => fun
  | [d1, d2, d3] => { results := [.lit (.bool false)], args := [d1, d2, d3] }
  | _ => none }
def FrameOnesWrongFalsely : Prop := frameOnesRow.holds Tryd.pinned (OpenSpec.ofChange frameOnesWrong)

/-- 'heronrylaw06.FrameIs': WHATEVER THE INPUT: true; the input reads as it did. -/
def frameIsSpec : ChangeSpec := { name := "frameIs", fn := fun _ => fun
  | [d1, d2, d3, d4, d5] => { results := [.lit (.bool true)], args := [d1, d2, d3, d4, d5] }
  | _ => none }
def frameIsRow : OpenClaim := { program := "ytemhbpgjnhdchaadoor", sum := "c1292f02f873f37555d25776f8054046d1dd79d82eb5637897391366c9dbacf5", func := "heronry/heronrylaw06.FrameIs", spec := "frameIs", named := ["unicode/utf8.first", "unicode/utf8.acceptRanges"], apart := false, laid := [("unicode/utf8.acceptRanges", laid_unicode_utf8_acceptRanges), ("unicode/utf8.first", laid_unicode_utf8_first)] }
def FrameIsSaid : Prop := frameIsRow.holds Tryd.pinned (OpenSpec.ofChange frameIsSpec)

/-- ITS FALSE NEIGHBOUR: 'it returns false'. Refute it at one input. -/
def frameIsWrong : ChangeSpec := { name := "frameIs", fn := fun _ => fun
  | [d1, d2, d3, d4, d5] => { results := [.lit (.bool false)], args := [d1, d2, d3, d4, d5] }
  | _ => none }
def FrameIsWrongFalsely : Prop := frameIsRow.holds Tryd.pinned (OpenSpec.ofChange frameIsWrong)

/-- 'heronrylaw06.FrameBack': WHATEVER THE INPUT: true; the input reads as it did. -/
def frameBackSpec : ChangeSpec := { name := "frameBack", fn := fun _ => fun
  | [d1, d2, d3, d4] => { results := [.lit (.bool true)], args := [d1, d2, d3, d4] }
  | _ => none }
def frameBackRow : OpenClaim := { program := "ytemhbpgjnhdchaadoor", sum := "c1292f02f873f37555d25776f8054046d1dd79d82eb5637897391366c9dbacf5", func := "heronry/heronrylaw06.FrameBack", spec := "frameBack", named := ["unicode/utf8.first", "unicode/utf8.acceptRanges"], apart := false, laid := [("unicode/utf8.acceptRanges", laid_unicode_utf8_acceptRanges), ("unicode/utf8.first", laid_unicode_utf8_first)] }
def FrameBackSaid : Prop := frameBackRow.holds Tryd.pinned (OpenSpec.ofChange frameBackSpec)

/-- ITS FALSE NEIGHBOUR: 'it returns false'. Refute it at one input. -/
def frameBackWrong : ChangeSpec := { name := "frameBack", fn := fun _ => fun
  | [d1, d2, d3, d4] => { results := [.lit (.bool false)], args := [d1, d2, d3, d4] }
  | _ => none }
def FrameBackWrongFalsely : Prop := frameBackRow.holds Tryd.pinned (OpenSpec.ofChange frameBackWrong)

/-- 'heronrylaw06.FrameTurns': WHATEVER THE INPUT: true; the input reads as it did. -/
def frameTurnsSpec : ChangeSpec := { name := "frameTurns", fn := fun _ => fun
  | [d1, d2, d3, d4, d5] => { results := [.lit (.bool true)], args := [d1, d2, d3, d4, d5] }
  | _ => none }
def frameTurnsRow : OpenClaim := { program := "ytemhbpgjnhdchaadoor", sum := "c1292f02f873f37555d25776f8054046d1dd79d82eb5637897391366c9dbacf5", func := "heronry/heronrylaw06.FrameTurns", spec := "frameTurns", named := ["unicode/utf8.first", "unicode/utf8.acceptRanges"], apart := false, laid := [("unicode/utf8.acceptRanges", laid_unicode_utf8_acceptRanges), ("unicode/utf8.first", laid_unicode_utf8_first)] }
def FrameTurnsSaid : Prop := frameTurnsRow.holds Tryd.pinned (OpenSpec.ofChange frameTurnsSpec)

/-- ITS FALSE NEIGHBOUR: 'it returns false'. Refute it at one input. -/
def frameTurnsWrong : ChangeSpec := { name := "frameTurns", fn := fun _ => fun
  | [d1, d2, d3, d4, d5] => { results := [.lit (.bool false)], args := [d1, d2, d3, d4, d5] }
  | _ => none }
def FrameTurnsWrongFalsely : Prop := frameTurnsRow.holds Tryd.pinned (OpenSpec.ofChange frameTurnsWrong)

/-- 'heronrylaw06.FramePieces': WHATEVER THE INPUT: true; the input reads as it did. -/
def framePiecesSpec : ChangeSpec := { name := "framePieces", fn := fun _ => fun
  | [d1, d2] => { results := [.lit (.bool true)], args := [d1, d2] }
  | _ => none }
def framePiecesRow : OpenClaim := { program := "ytemhbpgjnhdchaadoor", sum := "c1292f02f873f37555d25776f8054046d1dd79d82eb5637897391366c9dbacf5", func := "heronry/heronrylaw06.FramePieces", spec := "framePieces", named := ["unicode/utf8.first", "unicode/utf8.acceptRanges"], apart := false, laid := [("unicode/utf8.acceptRanges", laid_unicode_utf8_acceptRanges), ("unicode/utf8.first", laid_unicode_utf8_first)] }
def FramePiecesSaid : Prop := framePiecesRow.holds Tryd.pinned (OpenSpec.ofChange framePiecesSpec)

/-- ITS FALSE NEIGHBOUR: 'it returns false'. Refute it at one input. -/
def framePiecesWrong : ChangeSpec := { name := "framePieces", fn := fun _ => fun
  | [d1, d2] => { results := [.lit (.bool false)], args := [d1, d2] }
  | _ => none }
def FramePiecesWrongFalsely : Prop := framePiecesRow.holds Tryd.pinned (OpenSpec.ofChange framePiecesWrong)

/- THE SECOND FORM. 'bulk': how many values and letters a reading holds, each counted each time it is reached (what is shared counts as often as it is met; a slice's spare places count too). A statement '..UptoSaid' is the law's where the arguments, and the package variables that the reading takes, are together of bulk at most 1048576: NARROWER than '..Said'. Prove '..Said' where nothing that the law and all that it calls make is longer than what came in: it says more and counts as full. Else prove '..UptoSaid'. A law counts once. -/
mutual
def uptoBulk {H : Type} : DataW H → Nat
  | .lit (.string bytes) => bytes.length + 1
  | .lit _ => 1
  | .nil => 1
  | .ptr d => uptoBulk d + 1
  | .slice elems spare => uptoBulkAll elems + uptoBulkAll spare + 1
  | .agg parts => uptoBulkAll parts + 1
  | .iface _ d => uptoBulk d + 1
  | .map entries => uptoBulkEntries entries + 1
  | .held _ => 1
def uptoBulkAll {H : Type} : List (DataW H) → Nat
  | [] => 0
  | d :: r => uptoBulk d + uptoBulkAll r
def uptoBulkEntries {H : Type} : List (Lit × DataW H) → Nat
  | [] => 0
  | x :: r => uptoBulkEntry x + uptoBulkEntries r
def uptoBulkEntry {H : Type} : Lit × DataW H → Nat
  | (.string bytes, d) => bytes.length + uptoBulk d + 1
  | (_, d) => uptoBulk d + 1
 end
def uptoSmall : (H : Type) → List (DataW H) → Bool := fun _ ds => decide (uptoBulkAll ds ≤ 1048576)
def OpenSpec.upto (s : _root_.Go.ChangeSpec) : _root_.Go.OpenSpec := { _root_.Go.OpenSpec.ofChange s with cond := some uptoSmall }

/-- 'heronrylaw06.FrameNeeds', WHERE WHAT IT READS IS OF BULK AT MOST 1048576: true; the input reads as it did. -/
def frameNeedsUptoRow : OpenClaim := { program := "ytemhbpgjnhdchaadoor", sum := "c1292f02f873f37555d25776f8054046d1dd79d82eb5637897391366c9dbacf5", func := "heronry/heronrylaw06.FrameNeeds", spec := "frameNeeds", named := ["unicode/utf8.first", "unicode/utf8.acceptRanges"], apart := false, laid := [("unicode/utf8.acceptRanges", laid_unicode_utf8_acceptRanges), ("unicode/utf8.first", laid_unicode_utf8_first)], narrowed := true }
def FrameNeedsUptoSaid : Prop := frameNeedsUptoRow.holds Tryd.pinned (OpenSpec.upto frameNeedsSpec)

/-- 'heronrylaw06.FrameOnes', WHERE WHAT IT READS IS OF BULK AT MOST 1048576: true; the input reads as it did. -/
def frameOnesUptoRow : OpenClaim := { program := "ytemhbpgjnhdchaadoor", sum := "c1292f02f873f37555d25776f8054046d1dd79d82eb5637897391366c9dbacf5", func := "heronry/heronrylaw06.FrameOnes", spec := "frameOnes", named := ["unicode/utf8.first", "unicode/utf8.acceptRanges"], apart := false, laid := [("unicode/utf8.acceptRanges", laid_unicode_utf8_acceptRanges), ("unicode/utf8.first", laid_unicode_utf8_first)], narrowed := true }
def FrameOnesUptoSaid : Prop := frameOnesUptoRow.holds Tryd.pinned (OpenSpec.upto frameOnesSpec)

/-- 'heronrylaw06.FrameIs', WHERE WHAT IT READS IS OF BULK AT MOST 1048576: true; the input reads as it did. -/
def frameIsUptoRow : OpenClaim := { program := "ytemhbpgjnhdchaadoor", sum := "c1292f02f873f37555d25776f8054046d1dd79d82eb5637897391366c9dbacf5", func := "heronry/heronrylaw06.FrameIs", spec := "frameIs", named := ["unicode/utf8.first", "unicode/utf8.acceptRanges"], apart := false, laid := [("unicode/utf8.acceptRanges", laid_unicode_utf8_acceptRanges), ("unicode/utf8.first", laid_unicode_utf8_first)], narrowed := true }
def FrameIsUptoSaid : Prop := frameIsUptoRow.holds Tryd.pinned (OpenSpec.upto frameIsSpec)

/-- 'heronrylaw06.FrameBack', WHERE WHAT IT READS IS OF BULK AT MOST 1048576: true; the input reads as it did. -/
def frameBackUptoRow : OpenClaim := { program := "ytemhbpgjnhdchaadoor", sum := "c1292f02f873f37555d25776f8054046d1dd79d82eb5637897391366c9dbacf5", func := "heronry/heronrylaw06.FrameBack", spec := "frameBack", named := ["unicode/utf8.first", "unicode/utf8.acceptRanges"], apart := false, laid := [("unicode/utf8.acceptRanges", laid_unicode_utf8_acceptRanges), ("unicode/utf8.first", laid_unicode_utf8_first)], narrowed := true }
def FrameBackUptoSaid : Prop := frameBackUptoRow.holds Tryd.pinned (OpenSpec.upto frameBackSpec)

/-- 'heronrylaw06.FrameTurns', WHERE WHAT IT READS IS OF BULK AT MOST 1048576: true; the input reads as it did. -/
def frameTurnsUptoRow : OpenClaim := { program := "ytemhbpgjnhdchaadoor", sum := "c1292f02f873f37555d25776f8054046d1dd79d82eb5637897391366c9dbacf5", func := "heronry/heronrylaw06.FrameTurns", spec := "frameTurns", named := ["unicode/utf8.first", "unicode/utf8.acceptRanges"], apart := false, laid := [("unicode/utf8.acceptRanges", laid_unicode_utf8_acceptRanges), ("unicode/utf8.first", laid_unicode_utf8_first)], narrowed := true }
def FrameTurnsUptoSaid : Prop := frameTurnsUptoRow.holds Tryd.pinned (OpenSpec.upto frameTurnsSpec)

/-- 'heronrylaw06.FramePieces', WHERE WHAT IT READS IS OF BULK AT MOST 1048576: true; the input reads as it did. -/
def framePiecesUptoRow : OpenClaim := { program := "ytemhbpgjnhdchaadoor", sum := "c1292f02f873f37555d25776f8054046d1dd79d82eb5637897391366c9dbacf5", func := "heronry/heronrylaw06.FramePieces", spec := "framePieces", named := ["unicode/utf8.first", "unicode/utf8.acceptRanges"], apart := false, laid := [("unicode/utf8.acceptRanges", laid_unicode_utf8_acceptRanges), ("unicode/utf8.first", laid_unicode_utf8_first)], narrowed := true }
def FramePiecesUptoSaid : Prop := framePiecesUptoRow.holds Tryd.pinned (OpenSpec.upto framePiecesSpec)

end Rows
end Go.Proofs.YtemhbpgjnhdchaaDoor
