/-
  No cell of these rows narrows 'for every input' (looked for: loops, veiled, ifaces, maps, wideKeys, modest, calm, conditions, laid).
  DERIVED. THE GIVEN ROWS OF THIS SEAT. 5 by the template 'for every input the law returns true; each argument reads behind the call as it read before'; 0 by the template 'total and deterministic' (their statements: YtajafjnegbmdbaaTotals.lean).
  GIVEN WITH THE SEED: the statements are not yours to turn. If you find one false, say at which input.
  Laid BY PROGRAM, IN A SANDBOX (cutbox-rows.mjs): the forced cells as the released guide's own fill.sh prints them over the translation 3621ec51b7856806… (all of the seat's roots in one cut). By AI agents, Wed Nov 11 2026. No macro, syntax, notation, axiom, sorry.
-/
import Derived.Test.YtajafjnegbmdbaaChecked
import GoSem.Claim
import GoSem.ClaimJoined
import GoSem.ClaimMapViews
import Derived.JoinedTies
import Derived.KernelRfl
namespace Go.Proofs.Ytajafjnegbmdbaa
/- THE CELL 'sum', in the pinned program and in every row, IS THE sha256 OF THE DUMP (.gsa) THAT YtajafjnegbmdbaaProg.lean LOADS. Nothing in Lean hashes anything: it is a label: what it is worth is what the hold of that sum in a sandbox is worth. -/
noncomputable def Try.pinned : Pinned := { name := "ytajafjnegbmdbaa", sum := "3621ec51b7856806a21a39a68e8c39d631bf310f5c338f98a0d27ef76d6347f1", checked := Try.checked }
namespace Rows
def none {H : Type} : Left H := { results := [], args := [] }

/-- 'heronrylaw16.PagePlaces': WHATEVER THE INPUT: true; the input reads as it did. -/
def pagePlacesSpec : ChangeSpec := { name := "pagePlaces", fn := fun _ => fun
  | [d1, d2] => { results := [.lit (.bool true)], args := [d1, d2] }
  | _ => none }
def pagePlacesRow : OpenClaim := { program := "ytajafjnegbmdbaa", sum := "3621ec51b7856806a21a39a68e8c39d631bf310f5c338f98a0d27ef76d6347f1", func := "heronry/heronrylaw16.PagePlaces", spec := "pagePlaces", apart := false }
def PagePlacesSaid : Prop := pagePlacesRow.holds Try.pinned (OpenSpec.ofChange pagePlacesSpec)

/-- ITS FALSE NEIGHBOUR: 'it returns false'. Refute it at one input. -/
def pagePlacesWrong : ChangeSpec := { name := "pagePlaces", fn := fun _ => fun
  | [d1, d2] => { results := [.lit (.bool false)], args := [d1, d2] }
  | _ => none }
def PagePlacesWrongFalsely : Prop := pagePlacesRow.holds Try.pinned (OpenSpec.ofChange pagePlacesWrong)

/-- 'heronrylaw16.PageApart': WHATEVER THE INPUT: true; the input reads as it did. -/
def pageApartSpec : ChangeSpec := { name := "pageApart", fn := fun _ => fun
  | [d1, d2, d3, d4] => { results := [.lit (.bool true)], args := [d1, d2, d3, d4] }
  | _ => none }
def pageApartRow : OpenClaim := { program := "ytajafjnegbmdbaa", sum := "3621ec51b7856806a21a39a68e8c39d631bf310f5c338f98a0d27ef76d6347f1", func := "heronry/heronrylaw16.PageApart", spec := "pageApart", apart := false }
def PageApartSaid : Prop := pageApartRow.holds Try.pinned (OpenSpec.ofChange pageApartSpec)

/-- ITS FALSE NEIGHBOUR: 'it returns false'. Refute it at one input. -/
def pageApartWrong : ChangeSpec := { name := "pageApart", fn := fun _ => fun
  | [d1, d2, d3, d4] => { results := [.lit (.bool false)], args := [d1, d2, d3, d4] }
  | _ => none }
def PageApartWrongFalsely : Prop := pageApartRow.holds Try.pinned (OpenSpec.ofChange pageApartWrong)

/-- 'heronrylaw16.PageZero': WHATEVER THE INPUT: true; the input reads as it did. -/
def pageZeroSpec : ChangeSpec := { name := "pageZero", fn := fun _ => fun
  | [d] => { results := [.lit (.bool true)], args := [d] }
  | _ => none }
def pageZeroRow : OpenClaim := { program := "ytajafjnegbmdbaa", sum := "3621ec51b7856806a21a39a68e8c39d631bf310f5c338f98a0d27ef76d6347f1", func := "heronry/heronrylaw16.PageZero", spec := "pageZero", apart := false }
def PageZeroSaid : Prop := pageZeroRow.holds Try.pinned (OpenSpec.ofChange pageZeroSpec)

/-- ITS FALSE NEIGHBOUR: 'it returns false'. Refute it at one input. -/
def pageZeroWrong : ChangeSpec := { name := "pageZero", fn := fun _ => fun
  | [d] => { results := [.lit (.bool false)], args := [d] }
  | _ => none }
def PageZeroWrongFalsely : Prop := pageZeroRow.holds Try.pinned (OpenSpec.ofChange pageZeroWrong)

/-- 'heronrylaw16.PageBack': WHATEVER THE INPUT: true; the input reads as it did. -/
def pageBackSpec : ChangeSpec := { name := "pageBack", fn := fun _ => fun
  | [d1, d2, d3, d4] => { results := [.lit (.bool true)], args := [d1, d2, d3, d4] }
  | _ => none }
def pageBackRow : OpenClaim := { program := "ytajafjnegbmdbaa", sum := "3621ec51b7856806a21a39a68e8c39d631bf310f5c338f98a0d27ef76d6347f1", func := "heronry/heronrylaw16.PageBack", spec := "pageBack", apart := false }
def PageBackSaid : Prop := pageBackRow.holds Try.pinned (OpenSpec.ofChange pageBackSpec)

/-- ITS FALSE NEIGHBOUR: 'it returns false'. Refute it at one input. -/
def pageBackWrong : ChangeSpec := { name := "pageBack", fn := fun _ => fun
  | [d1, d2, d3, d4] => { results := [.lit (.bool false)], args := [d1, d2, d3, d4] }
  | _ => none }
def PageBackWrongFalsely : Prop := pageBackRow.holds Try.pinned (OpenSpec.ofChange pageBackWrong)

/-- 'heronrylaw16.PageIs': WHATEVER THE INPUT: true; the input reads as it did. -/
def pageIsSpec : ChangeSpec := { name := "pageIs", fn := fun _ => fun
  | [d1, d2, d3, d4, d5] => { results := [.lit (.bool true)], args := [d1, d2, d3, d4, d5] }
  | _ => none }
def pageIsRow : OpenClaim := { program := "ytajafjnegbmdbaa", sum := "3621ec51b7856806a21a39a68e8c39d631bf310f5c338f98a0d27ef76d6347f1", func := "heronry/heronrylaw16.PageIs", spec := "pageIs", apart := false }
def PageIsSaid : Prop := pageIsRow.holds Try.pinned (OpenSpec.ofChange pageIsSpec)

/-- ITS FALSE NEIGHBOUR: 'it returns false'. Refute it at one input. -/
def pageIsWrong : ChangeSpec := { name := "pageIs", fn := fun _ => fun
  | [d1, d2, d3, d4, d5] => { results := [.lit (.bool false)], args := [d1, d2, d3, d4, d5] }
  | _ => none }
def PageIsWrongFalsely : Prop := pageIsRow.holds Try.pinned (OpenSpec.ofChange pageIsWrong)

/- THE SECOND FORM. 'bulk': how many values and letters a reading holds, each counted each time it is reached (what is shared counts as often as it is met; a slice's spare places count too). A statement '..UptoSaid' is the law's where the arguments, and the package variables that the reading takes, are together of bulk at most 1048576: NARROWER than '..Said'. Prove '..Said' where nothing that the law and all that it calls make is longer than what came in: it says more and counts as full. Else prove '..UptoSaid'. A law counts once. -/
mutual
def uptoBulk {H : Type} : DataW H → Nat
  | .lit (.string bytes) => bytes.length + 1
  | .lit _ => 1
  | .nil => 1
  | .ptr d => uptoBulk d + 1
  | .slice elems spare => uptoBulkAll elems + uptoBulkAll spare + 1
  | .agg parts => uptoBulkAll parts + 1
  | .iface _ d => uptoBulk d + 1
  | .map entries => uptoBulkEntries entries + 1
  | .held _ => 1
def uptoBulkAll {H : Type} : List (DataW H) → Nat
  | [] => 0
  | d :: r => uptoBulk d + uptoBulkAll r
def uptoBulkEntries {H : Type} : List (Lit × DataW H) → Nat
  | [] => 0
  | x :: r => uptoBulkEntry x + uptoBulkEntries r
def uptoBulkEntry {H : Type} : Lit × DataW H → Nat
  | (.string bytes, d) => bytes.length + uptoBulk d + 1
  | (_, d) => uptoBulk d + 1
 end
def uptoSmall : (H : Type) → List (DataW H) → Bool := fun _ ds => decide (uptoBulkAll ds ≤ 1048576)
def OpenSpec.upto (s : _root_.Go.ChangeSpec) : _root_.Go.OpenSpec := { _root_.Go.OpenSpec.ofChange s with cond := some uptoSmall }

/-- 'heronrylaw16.PagePlaces', WHERE WHAT IT READS IS OF BULK AT MOST 1048576: true; the input reads as it did. -/
def pagePlacesUptoRow : OpenClaim := { program := "ytajafjnegbmdbaa", sum := "3621ec51b7856806a21a39a68e8c39d631bf310f5c338f98a0d27ef76d6347f1", func := "heronry/heronrylaw16.PagePlaces", spec := "pagePlaces", apart := false, narrowed := true }
def PagePlacesUptoSaid : Prop := pagePlacesUptoRow.holds Try.pinned (OpenSpec.upto pagePlacesSpec)

/-- 'heronrylaw16.PageApart', WHERE WHAT IT READS IS OF BULK AT MOST 1048576: true; the input reads as it did. -/
def pageApartUptoRow : OpenClaim := { program := "ytajafjnegbmdbaa", sum := "3621ec51b7856806a21a39a68e8c39d631bf310f5c338f98a0d27ef76d6347f1", func := "heronry/heronrylaw16.PageApart", spec := "pageApart", apart := false, narrowed := true }
def PageApartUptoSaid : Prop := pageApartUptoRow.holds Try.pinned (OpenSpec.upto pageApartSpec)

/-- 'heronrylaw16.PageZero', WHERE WHAT IT READS IS OF BULK AT MOST 1048576: true; the input reads as it did. -/
def pageZeroUptoRow : OpenClaim := { program := "ytajafjnegbmdbaa", sum := "3621ec51b7856806a21a39a68e8c39d631bf310f5c338f98a0d27ef76d6347f1", func := "heronry/heronrylaw16.PageZero", spec := "pageZero", apart := false, narrowed := true }
def PageZeroUptoSaid : Prop := pageZeroUptoRow.holds Try.pinned (OpenSpec.upto pageZeroSpec)

/-- 'heronrylaw16.PageBack', WHERE WHAT IT READS IS OF BULK AT MOST 1048576: true; the input reads as it did. -/
def pageBackUptoRow : OpenClaim := { program := "ytajafjnegbmdbaa", sum := "3621ec51b7856806a21a39a68e8c39d631bf310f5c338f98a0d27ef76d6347f1", func := "heronry/heronrylaw16.PageBack", spec := "pageBack", apart := false, narrowed := true }
def PageBackUptoSaid : Prop := pageBackUptoRow.holds Try.pinned (OpenSpec.upto pageBackSpec)

/-- 'heronrylaw16.PageIs', WHERE WHAT IT READS IS OF BULK AT MOST 1048576: true; the input reads as it did. -/
def pageIsUptoRow : OpenClaim := { program := "ytajafjnegbmdbaa", sum := "3621ec51b7856806a21a39a68e8c39d631bf310f5c338f98a0d27ef76d6347f1", func := "heronry/heronrylaw16.PageIs", spec := "pageIs", apart := false, narrowed := true }
def PageIsUptoSaid : Prop := pageIsUptoRow.holds Try.pinned (OpenSpec.upto pageIsSpec)

end Rows
end Go.Proofs.Ytajafjnegbmdbaa
