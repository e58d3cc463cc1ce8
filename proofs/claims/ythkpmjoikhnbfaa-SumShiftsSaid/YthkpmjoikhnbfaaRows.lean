/-
  No cell of these rows narrows 'for every input' (looked for: loops, veiled, ifaces, maps, wideKeys, modest, calm, conditions, laid).
  DERIVED. THE GIVEN ROWS OF THIS SEAT. 5 by the template 'for every input the law returns true; each argument reads behind the call as it read before'; 0 by the template 'total and deterministic' (their statements: YthkpmjoikhnbfaaTotals.lean).
  GIVEN WITH THE SEED: the statements are not yours to turn. If you find one false, say at which input.
  Laid BY PROGRAM, IN A SANDBOX (cutbox-rows.mjs): the forced cells as the released guide's own fill.sh prints them over the translation 8a0fa8a8a1374a35… (all of the seat's roots in one cut). By AI agents, Wed Nov 11 2026. No macro, syntax, notation, axiom, sorry.
-/
import Derived.Test.YthkpmjoikhnbfaaChecked
import GoSem.Claim
import GoSem.ClaimJoined
import GoSem.ClaimMapViews
import Derived.JoinedTies
import Derived.KernelRfl
namespace Go.Proofs.Ythkpmjoikhnbfaa
/- THE CELL 'sum', in the pinned program and in every row, IS THE sha256 OF THE DUMP (.gsa) THAT YthkpmjoikhnbfaaProg.lean LOADS. Nothing in Lean hashes anything: it is a label: what it is worth is what the hold of that sum in a sandbox is worth. -/
noncomputable def Try.pinned : Pinned := { name := "ythkpmjoikhnbfaa", sum := "8a0fa8a8a1374a357824dc5a2e5b5e30938208a612c072f907ac1ea6e750207d", checked := Try.checked }
namespace Rows
def none {H : Type} : Left H := { results := [], args := [] }

/-- 'heronrylaw03.SumShifts': WHATEVER THE INPUT: true; the input reads as it did. -/
def sumShiftsSpec : ChangeSpec := { name := "sumShifts", fn := fun _ => fun
  | [d1, d2] => { results := [.lit (.bool true)], args := [d1, d2] }
  | _ => none }
def sumShiftsRow : OpenClaim := { program := "ythkpmjoikhnbfaa", sum := "8a0fa8a8a1374a357824dc5a2e5b5e30938208a612c072f907ac1ea6e750207d", func := "heronry/heronrylaw03.SumShifts", spec := "sumShifts", apart := false }
def SumShiftsSaid : Prop := sumShiftsRow.holds Try.pinned (OpenSpec.ofChange sumShiftsSpec)

/-- ITS FALSE NEIGHBOUR: 'it returns false'. Refute it at one input. -/
def sumShiftsWrong : ChangeSpec := { name := "sumShifts", fn := fun _ => fun
  | [d1, d2] => { results := [.lit (.bool false)], args := [d1, d2] }
  | _ => none }
def SumShiftsWrongFalsely : Prop := sumShiftsRow.holds Try.pinned (OpenSpec.ofChange sumShiftsWrong)

/-- 'heronrylaw03.SumIs': WHATEVER THE INPUT: true; the input reads as it did. -/
def sumIsSpec : ChangeSpec := { name := "sumIs", fn := fun _ => fun
  | [d1, d2] => { results := [.lit (.bool true)], args := [d1, d2] }
  | _ => none }
def sumIsRow : OpenClaim := { program := "ythkpmjoikhnbfaa", sum := "8a0fa8a8a1374a357824dc5a2e5b5e30938208a612c072f907ac1ea6e750207d", func := "heronry/heronrylaw03.SumIs", spec := "sumIs", apart := false }
def SumIsSaid : Prop := sumIsRow.holds Try.pinned (OpenSpec.ofChange sumIsSpec)

/-- ITS FALSE NEIGHBOUR: 'it returns false'. Refute it at one input. -/
def sumIsWrong : ChangeSpec := { name := "sumIs", fn := fun _ => fun
  | [d1, d2] => { results := [.lit (.bool false)], args := [d1, d2] }
  | _ => none }
def SumIsWrongFalsely : Prop := sumIsRow.holds Try.pinned (OpenSpec.ofChange sumIsWrong)

/-- 'heronrylaw03.SumTurns': WHATEVER THE INPUT: true; the input reads as it did. -/
def sumTurnsSpec : ChangeSpec := { name := "sumTurns", fn := fun _ => fun
  | [d1, d2] => { results := [.lit (.bool true)], args := [d1, d2] }
  | _ => none }
def sumTurnsRow : OpenClaim := { program := "ythkpmjoikhnbfaa", sum := "8a0fa8a8a1374a357824dc5a2e5b5e30938208a612c072f907ac1ea6e750207d", func := "heronry/heronrylaw03.SumTurns", spec := "sumTurns", apart := false }
def SumTurnsSaid : Prop := sumTurnsRow.holds Try.pinned (OpenSpec.ofChange sumTurnsSpec)

/-- ITS FALSE NEIGHBOUR: 'it returns false'. Refute it at one input. -/
def sumTurnsWrong : ChangeSpec := { name := "sumTurns", fn := fun _ => fun
  | [d1, d2] => { results := [.lit (.bool false)], args := [d1, d2] }
  | _ => none }
def SumTurnsWrongFalsely : Prop := sumTurnsRow.holds Try.pinned (OpenSpec.ofChange sumTurnsWrong)

/-- 'heronrylaw03.SumSeals': WHATEVER THE INPUT: true; the input reads as it did. -/
def sumSealsSpec : ChangeSpec := { name := "sumSeals", fn := fun _ => fun
  | [d1, d2] => { results := [.lit (.bool true)], args := [d1, d2] }
  | _ => none }
def sumSealsRow : OpenClaim := { program := "ythkpmjoikhnbfaa", sum := "8a0fa8a8a1374a357824dc5a2e5b5e30938208a612c072f907ac1ea6e750207d", func := "heronry/heronrylaw03.SumSeals", spec := "sumSeals", apart := false }
def SumSealsSaid : Prop := sumSealsRow.holds Try.pinned (OpenSpec.ofChange sumSealsSpec)

/-- ITS FALSE NEIGHBOUR: 'it returns false'. Refute it at one input. -/
def sumSealsWrong : ChangeSpec := { name := "sumSeals", fn := fun _ => fun
  | [d1, d2] => { results := [.lit (.bool false)], args := [d1, d2] }
  | _ => none }
def SumSealsWrongFalsely : Prop := sumSealsRow.holds Try.pinned (OpenSpec.ofChange sumSealsWrong)

/-- 'heronrylaw03.SumZeros': WHATEVER THE INPUT: true; the input reads as it did. -/
def sumZerosSpec : ChangeSpec := { name := "sumZeros", fn := fun _ => fun
  | [d1, d2] => { results := [.lit (.bool true)], args := [d1, d2] }
  | _ => none }
def sumZerosRow : OpenClaim := { program := "ythkpmjoikhnbfaa", sum := "8a0fa8a8a1374a357824dc5a2e5b5e30938208a612c072f907ac1ea6e750207d", func := "heronry/heronrylaw03.SumZeros", spec := "sumZeros", apart := false }
def SumZerosSaid : Prop := sumZerosRow.holds Try.pinned (OpenSpec.ofChange sumZerosSpec)

/-- ITS FALSE NEIGHBOUR: 'it returns false'. Refute it at one input. -/
def sumZerosWrong : ChangeSpec := { name := "sumZeros", fn := fun _ => fun
  | [d1, d2] => { results := [.lit (.bool false)], args := [d1, d2] }
  | _ => none }
def SumZerosWrongFalsely : Prop := sumZerosRow.holds Try.pinned (OpenSpec.ofChange sumZerosWrong)

/- THE SECOND FORM. 'bulk': how many values and letters a reading holds, each counted each time it is reached (what is shared counts as often as it is met; a slice's spare places count too). A statement '..UptoSaid' is the law's where the arguments, and the package variables that the reading takes, are together of bulk at most 1048576: NARROWER than '..Said'. Prove '..Said' where nothing that the law and all that it calls make is longer than what came in: it says more and counts as full. Else prove '..UptoSaid'. A law counts once. -/
mutual
def uptoBulk {H : Type} : DataW H → Nat
  | .lit (.string bytes) => bytes.length + 1
  | .lit _ => 1
  | .nil => 1
  | .ptr d => uptoBulk d + 1
  | .slice elems spare => uptoBulkAll elems + uptoBulkAll spare + 1
  | .agg parts => uptoBulkAll parts + 1
  | .iface _ d => uptoBulk d + 1
  | .map entries => uptoBulkEntries entries + 1
  | .held _ => 1
def uptoBulkAll {H : Type} : List (DataW H) → Nat
  | [] => 0
  | d :: r => uptoBulk d + uptoBulkAll r
def uptoBulkEntries {H : Type} : List (Lit × DataW H) → Nat
  | [] => 0
  | x :: r => uptoBulkEntry x + uptoBulkEntries r
def uptoBulkEntry {H : Type} : Lit × DataW H → Nat
  | (.string bytes, d) => bytes.length + uptoBulk d + 1
  | (_, d) => uptoBulk d + 1
 end
def uptoSmall : (H : Type) → List (DataW H) → Bool := fun _ ds => decide (uptoBulkAll ds ≤ 1048576)
def OpenSpec.upto (s : _root_.Go.ChangeSpec) : _root_.Go.OpenSpec := { _root_.Go.OpenSpec.ofChange s with cond := some uptoSmall }

/-- 'heronrylaw03.SumShifts', WHERE WHAT IT READS IS OF BULK AT MOST 1048576: true; the input reads as it did. -/
def sumShiftsUptoRow : OpenClaim := { program := "ythkpmjoikhnbfaa", sum := "8a0fa8a8a1374a357824dc5a2e5b5e30938208a612c072f907ac1ea6e750207d", func := "heronry/heronrylaw03.SumShifts", spec := "sumShifts", apart := false, narrowed := true }
def SumShiftsUptoSaid : Prop := sumShiftsUptoRow.holds Try.pinned (OpenSpec.upto sumShiftsSpec)

/-- 'heronrylaw03.SumIs', WHERE WHAT IT READS IS OF BULK AT MOST 1048576: true; the input reads as it did. -/
def sumIsUptoRow : OpenClaim := { program := "ythkpmjoikhnbfaa", sum := "8a0fa8a8a1374a357824dc5a2e5b5e30938208a612c072f907ac1ea6e750207d", func := "heronry/heronrylaw03.SumIs", spec := "sumIs", apart := false, narrowed := true }
def SumIsUptoSaid : Prop := sumIsUptoRow.holds Try.pinned (OpenSpec.upto sumIsSpec)

/-- 'heronrylaw03.SumTurns', WHERE WHAT IT READS IS OF BULK AT MOST 1048576: true; the input reads as it did. -/
def sumTurnsUptoRow : OpenClaim := { program := "ythkpmjoikhnbfaa", sum := "8a0fa8a8a1374a357824dc5a2e5b5e30938208a612c072f907ac1ea6e750207d", func := "heronry/heronrylaw03.SumTurns", spec := "sumTurns", apart := false, narrowed := true }
def SumTurnsUptoSaid : Prop := sumTurnsUptoRow.holds Try.pinned (OpenSpec.upto sumTurnsSpec)

/-- 'heronrylaw03.SumSeals', WHERE WHAT IT READS IS OF BULK AT MOST 1048576: true; the input reads as it did. -/
def sumSealsUptoRow : OpenClaim := { program := "ythkpmjoikhnbfaa", sum := "8a0fa8a8a1374a357824dc5a2e5b5e30938208a612c072f907ac1ea6e750207d", func := "heronry/heronrylaw03.SumSeals", spec := "sumSeals", apart := false, narrowed := true }
def SumSealsUptoSaid : Prop := sumSealsUptoRow.holds Try.pinned (OpenSpec.upto sumSealsSpec)

/-- 'heronrylaw03.SumZeros', WHERE WHAT IT READS IS OF BULK AT MOST 1048576: true; the input reads as it did. -/
def sumZerosUptoRow : OpenClaim := { program := "ythkpmjoikhnbfaa", sum := "8a0fa8a8a1374a357824dc5a2e5b5e30938208a612c072f907ac1ea6e750207d", func := "heronry/heronrylaw03.SumZeros", spec := "sumZeros", apart := false, narrowed := true }
def SumZerosUptoSaid : Prop := sumZerosUptoRow.holds Try.pinned (OpenSpec.upto sumZerosSpec)

end Rows
end Go.Proofs.Ythkpmjoikhnbfaa
