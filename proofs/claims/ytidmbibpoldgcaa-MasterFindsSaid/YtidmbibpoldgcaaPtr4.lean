/-
  Contracts of package ptr: Places, apart, Right.
-/
import Derived.Test.YtidmbibpoldgcaaPtrP
namespace Go.Proofs.Ytidmbibpoldgcaa
set_option linter.unusedVariables false
set_option linter.unusedSimpArgs false
open Go.RowKit

def placesN (p : PtrD) : Nat := if noneB p then 0 else if p.two then 2 else 1
end Go.Proofs.Ytidmbibpoldgcaa
