/-
  The walks of LeLays, LeUnlike, LePads.
-/
import Derived.Test.YtidmbibpoldgcaaLe2
namespace Go.Proofs.Ytidmbibpoldgcaa
open Go.RowKit
set_option linter.unusedVariables false

theorem long_any {n : Nat} (l : List UInt8) (h : 3000 < l.length) (hl : l.length ≤ 140737488351232) : (3000 : Int) < (l.length : Int) := by omega

end Go.Proofs.Ytidmbibpoldgcaa
