/-
  Contracts: the reader's List.
-/
import Derived.Test.YtemhbpgjnhdchaaDoorWd
set_option linter.unusedVariables false
namespace Go.Proofs.YtemhbpgjnhdchaaDoor
open Go Go.RowKit Sx

/-- List's bytes, error, place behind it. -/
def lstE (bs : List UInt8) (j : Nat) (most : Int) : Int :=
  if bs.length - j < 2 then 2 else if most < num ((bs.drop j).take 2) then 3 else if bs.length - (j + 2) < num ((bs.drop j).take 2) then 2 else 0
def lstV (bs : List UInt8) (j : Nat) (most : Int) : List UInt8 := if lstE bs j most = 0 then (bs.drop (j + 2)).take (num ((bs.drop j).take 2)) else []
def lstJ (bs : List UInt8) (j : Nat) (most : Int) : Nat := if lstE bs j most = 0 then j + 2 + num ((bs.drop j).take 2) else j
end Go.Proofs.YtemhbpgjnhdchaaDoor
