/-
  No cell of these rows narrows 'for every input' (looked for: loops, veiled, ifaces, maps, wideKeys, modest, calm, conditions, laid).
  DERIVED. THE GIVEN ROWS OF THIS SEAT. 6 by the template 'for every input the law returns true; each argument reads behind the call as it read before'; 0 by the template 'total and deterministic' (their statements: YtdgbgnkfjcbgiaaTotals.lean).
  GIVEN WITH THE SEED: the statements are not yours to turn. If you find one false, say at which input.
  Laid BY PROGRAM, IN A SANDBOX (cutbox-rows.mjs): the forced cells as the released guide's own fill.sh prints them over the translation 598066b80947f543… (all of the seat's roots in one cut). By AI agents, Wed Nov 11 2026. No macro, syntax, notation, axiom, sorry.
-/
import Derived.Test.YtdgbgnkfjcbgiaaChecked
import GoSem.Claim
import GoSem.ClaimJoined
import GoSem.ClaimMapViews
import Derived.JoinedTies
import Derived.KernelRfl
namespace Go.Proofs.Ytdgbgnkfjcbgiaa
/- THE CELL 'sum', in the pinned program and in every row, IS THE sha256 OF THE DUMP (.gsa) THAT YtdgbgnkfjcbgiaaProg.lean LOADS. Nothing in Lean hashes anything: it is a label: what it is worth is what the hold of that sum in a sandbox is worth. -/
noncomputable def Try.pinned : Pinned := { name := "ytdgbgnkfjcbgiaa", sum := "598066b80947f54360387d58954108f23068dbd10ca393d3ca25d279a9b8680b", checked := Try.checked }
namespace Rows
def none {H : Type} : Left H := { results := [], args := [] }

/-- 'heronrylaw05.RingApart': WHATEVER THE INPUT: true; the input reads as it did. -/
def ringApartSpec : ChangeSpec := { name := "ringApart", fn := fun _ => fun
  | [d1, d2, d3, d4] => { results := [.lit (.bool true)], args := [d1, d2, d3, d4] }
  | _ => none }
def ringApartRow : OpenClaim := { program := "ytdgbgnkfjcbgiaa", sum := "598066b80947f54360387d58954108f23068dbd10ca393d3ca25d279a9b8680b", func := "heronry/heronrylaw05.RingApart", spec := "ringApart", apart := false }
def RingApartSaid : Prop := ringApartRow.holds Try.pinned (OpenSpec.ofChange ringApartSpec)

/-- ITS FALSE NEIGHBOUR: 'it returns false'. Refute it at one input. -/
def ringApartWrong : ChangeSpec := { name := "ringApart", fn := fun _ => fun
  | [d1, d2, d3, d4] => { results := [.lit (.bool false)], args := [d1, d2, d3, d4] }
  | _ => none }
def RingApartWrongFalsely : Prop := ringApartRow.holds Try.pinned (OpenSpec.ofChange ringApartWrong)

/-- 'heronrylaw05.RingSpans': WHATEVER THE INPUT: true; the input reads as it did. -/
def ringSpansSpec : ChangeSpec := { name := "ringSpans", fn := fun _ => fun
  | [d1, d2, d3, d4] => { results := [.lit (.bool true)], args := [d1, d2, d3, d4] }
  | _ => none }
def ringSpansRow : OpenClaim := { program := "ytdgbgnkfjcbgiaa", sum := "598066b80947f54360387d58954108f23068dbd10ca393d3ca25d279a9b8680b", func := "heronry/heronrylaw05.RingSpans", spec := "ringSpans", apart := false }
def RingSpansSaid : Prop := ringSpansRow.holds Try.pinned (OpenSpec.ofChange ringSpansSpec)

/-- ITS FALSE NEIGHBOUR: 'it returns false'. Refute it at one input. -/
def ringSpansWrong : ChangeSpec := { name := "ringSpans", fn := fun _ => fun
  | [d1, d2, d3, d4] => { results := [.lit (.bool false)], args := [d1, d2, d3, d4] }
  | _ => none }
def RingSpansWrongFalsely : Prop := ringSpansRow.holds Try.pinned (OpenSpec.ofChange ringSpansWrong)

/-- 'heronrylaw05.RingMoves': WHATEVER THE INPUT: true; the input reads as it did. -/
def ringMovesSpec : ChangeSpec := { name := "ringMoves", fn := fun _ => fun
  | [d1, d2, d3, d4] => { results := [.lit (.bool true)], args := [d1, d2, d3, d4] }
  | _ => none }
def ringMovesRow : OpenClaim := { program := "ytdgbgnkfjcbgiaa", sum := "598066b80947f54360387d58954108f23068dbd10ca393d3ca25d279a9b8680b", func := "heronry/heronrylaw05.RingMoves", spec := "ringMoves", apart := false }
def RingMovesSaid : Prop := ringMovesRow.holds Try.pinned (OpenSpec.ofChange ringMovesSpec)

/-- ITS FALSE NEIGHBOUR: 'it returns false'. Refute it at one input. -/
def ringMovesWrong : ChangeSpec := { name := "ringMoves", fn := fun _ => fun
  | [d1, d2, d3, d4] => { results := [.lit (.bool false)], args := [d1, d2, d3, d4] }
  | _ => none }
def RingMovesWrongFalsely : Prop := ringMovesRow.holds Try.pinned (OpenSpec.ofChange ringMovesWrong)

/-- 'heronrylaw05.RingGoes': WHATEVER THE INPUT: true; the input reads as it did. -/
def ringGoesSpec : ChangeSpec := { name := "ringGoes", fn := fun _ => fun
  | [d1, d2] => { results := [.lit (.bool true)], args := [d1, d2] }
  | _ => none }
def ringGoesRow : OpenClaim := { program := "ytdgbgnkfjcbgiaa", sum := "598066b80947f54360387d58954108f23068dbd10ca393d3ca25d279a9b8680b", func := "heronry/heronrylaw05.RingGoes", spec := "ringGoes", apart := false }
def RingGoesSaid : Prop := ringGoesRow.holds Try.pinned (OpenSpec.ofChange ringGoesSpec)

/-- ITS FALSE NEIGHBOUR: 'it returns false'. Refute it at one input. -/
def ringGoesWrong : ChangeSpec := { name := "ringGoes", fn := fun _ => fun
  | [d1, d2] => { results := [.lit (.bool false)], args := [d1, d2] }
  | _ => none }
def RingGoesWrongFalsely : Prop := ringGoesRow.holds Try.pinned (OpenSpec.ofChange ringGoesWrong)

/-- 'heronrylaw05.RingIs': WHATEVER THE INPUT: true; the input reads as it did. -/
def ringIsSpec : ChangeSpec := { name := "ringIs", fn := fun _ => fun
  | [d1, d2, d3] => { results := [.lit (.bool true)], args := [d1, d2, d3] }
  | _ => none }
def ringIsRow : OpenClaim := { program := "ytdgbgnkfjcbgiaa", sum := "598066b80947f54360387d58954108f23068dbd10ca393d3ca25d279a9b8680b", func := "heronry/heronrylaw05.RingIs", spec := "ringIs", apart := false }
def RingIsSaid : Prop := ringIsRow.holds Try.pinned (OpenSpec.ofChange ringIsSpec)

/-- ITS FALSE NEIGHBOUR: 'it returns false'. Refute it at one input. -/
def ringIsWrong : ChangeSpec := { name := "ringIs", fn := fun _ => fun
  | [d1, d2, d3] => { results := [.lit (.bool false)], args := [d1, d2, d3] }
  | _ => none }
def RingIsWrongFalsely : Prop := ringIsRow.holds Try.pinned (OpenSpec.ofChange ringIsWrong)

/-- 'heronrylaw05.RingBack': WHATEVER THE INPUT: true; the input reads as it did. -/
def ringBackSpec : ChangeSpec := { name := "ringBack", fn := fun _ => fun
  | [d1, d2] => { results := [.lit (.bool true)], args := [d1, d2] }
  | _ => none }
def ringBackRow : OpenClaim := { program := "ytdgbgnkfjcbgiaa", sum := "598066b80947f54360387d58954108f23068dbd10ca393d3ca25d279a9b8680b", func := "heronry/heronrylaw05.RingBack", spec := "ringBack", apart := false }
def RingBackSaid : Prop := ringBackRow.holds Try.pinned (OpenSpec.ofChange ringBackSpec)

/-- ITS FALSE NEIGHBOUR: 'it returns false'. Refute it at one input. -/
def ringBackWrong : ChangeSpec := { name := "ringBack", fn := fun _ => fun
  | [d1, d2] => { results := [.lit (.bool false)], args := [d1, d2] }
  | _ => none }
def RingBackWrongFalsely : Prop := ringBackRow.holds Try.pinned (OpenSpec.ofChange ringBackWrong)

/- THE SECOND FORM. 'bulk': how many values and letters a reading holds, each counted each time it is reached (what is shared counts as often as it is met; a slice's spare places count too). A statement '..UptoSaid' is the law's where the arguments, and the package variables that the reading takes, are together of bulk at most 1048576: NARROWER than '..Said'. Prove '..Said' where nothing that the law and all that it calls make is longer than what came in: it says more and counts as full. Else prove '..UptoSaid'. A law counts once. -/
mutual
def uptoBulk {H : Type} : DataW H → Nat
  | .lit (.string bytes) => bytes.length + 1
  | .lit _ => 1
  | .nil => 1
  | .ptr d => uptoBulk d + 1
  | .slice elems spare => uptoBulkAll elems + uptoBulkAll spare + 1
  | .agg parts => uptoBulkAll parts + 1
  | .iface _ d => uptoBulk d + 1
  | .map entries => uptoBulkEntries entries + 1
  | .held _ => 1
def uptoBulkAll {H : Type} : List (DataW H) → Nat
  | [] => 0
  | d :: r => uptoBulk d + uptoBulkAll r
def uptoBulkEntries {H : Type} : List (Lit × DataW H) → Nat
  | [] => 0
  | x :: r => uptoBulkEntry x + uptoBulkEntries r
def uptoBulkEntry {H : Type} : Lit × DataW H → Nat
  | (.string bytes, d) => bytes.length + uptoBulk d + 1
  | (_, d) => uptoBulk d + 1
 end
def uptoSmall : (H : Type) → List (DataW H) → Bool := fun _ ds => decide (uptoBulkAll ds ≤ 1048576)
def OpenSpec.upto (s : _root_.Go.ChangeSpec) : _root_.Go.OpenSpec := { _root_.Go.OpenSpec.ofChange s with cond := some uptoSmall }

/-- 'heronrylaw05.RingApart', WHERE WHAT IT READS IS OF BULK AT MOST 1048576: true; the input reads as it did. -/
def ringApartUptoRow : OpenClaim := { program := "ytdgbgnkfjcbgiaa", sum := "598066b80947f54360387d58954108f23068dbd10ca393d3ca25d279a9b8680b", func := "heronry/heronrylaw05.RingApart", spec := "ringApart", apart := false, narrowed := true }
def RingApartUptoSaid : Prop := ringApartUptoRow.holds Try.pinned (OpenSpec.upto ringApartSpec)

/-- 'heronrylaw05.RingSpans', WHERE WHAT IT READS IS OF BULK AT MOST 1048576: true; the input reads as it did. -/
def ringSpansUptoRow : OpenClaim := { program := "ytdgbgnkfjcbgiaa", sum := "598066b80947f54360387d58954108f23068dbd10ca393d3ca25d279a9b8680b", func := "heronry/heronrylaw05.RingSpans", spec := "ringSpans", apart := false, narrowed := true }
def RingSpansUptoSaid : Prop := ringSpansUptoRow.holds Try.pinned (OpenSpec.upto ringSpansSpec)

/-- 'heronrylaw05.RingMoves', WHERE WHAT IT READS IS OF BULK AT MOST 1048576: true; the input reads as it did. -/
def ringMovesUptoRow : OpenClaim := { program := "ytdgbgnkfjcbgiaa", sum := "598066b80947f54360387d58954108f23068dbd10ca393d3ca25d279a9b8680b", func := "heronry/heronrylaw05.RingMoves", spec := "ringMoves", apart := false, narrowed := true }
def RingMovesUptoSaid : Prop := ringMovesUptoRow.holds Try.pinned (OpenSpec.upto ringMovesSpec)

/-- 'heronrylaw05.RingGoes', WHERE WHAT IT READS IS OF BULK AT MOST 1048576: true; the input reads as it did. -/
def ringGoesUptoRow : OpenClaim := { program := "ytdgbgnkfjcbgiaa", sum := "598066b80947f54360387d58954108f23068dbd10ca393d3ca25d279a9b8680b", func := "heronry/heronrylaw05.RingGoes", spec := "ringGoes", apart := false, narrowed := true }
def RingGoesUptoSaid : Prop := ringGoesUptoRow.holds Try.pinned (OpenSpec.upto ringGoesSpec)

/-- 'heronrylaw05.RingIs', WHERE WHAT IT READS IS OF BULK AT MOST 1048576: true; the input reads as it did. -/
def ringIsUptoRow : OpenClaim := { program := "ytdgbgnkfjcbgiaa", sum := "598066b80947f54360387d58954108f23068dbd10ca393d3ca25d279a9b8680b", func := "heronry/heronrylaw05.RingIs", spec := "ringIs", apart := false, narrowed := true }
def RingIsUptoSaid : Prop := ringIsUptoRow.holds Try.pinned (OpenSpec.upto ringIsSpec)

/-- 'heronrylaw05.RingBack', WHERE WHAT IT READS IS OF BULK AT MOST 1048576: true; the input reads as it did. -/
def ringBackUptoRow : OpenClaim := { program := "ytdgbgnkfjcbgiaa", sum := "598066b80947f54360387d58954108f23068dbd10ca393d3ca25d279a9b8680b", func := "heronry/heronrylaw05.RingBack", spec := "ringBack", apart := false, narrowed := true }
def RingBackUptoSaid : Prop := ringBackUptoRow.holds Try.pinned (OpenSpec.upto ringBackSpec)

end Rows
end Go.Proofs.Ytdgbgnkfjcbgiaa
