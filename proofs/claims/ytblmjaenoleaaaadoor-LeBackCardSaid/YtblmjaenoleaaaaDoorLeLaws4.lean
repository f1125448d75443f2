/-
  The walk of LeStays.
-/
import Derived.Test.YtblmjaenoleaaaaDoorLeR
import Derived.Test.YtblmjaenoleaaaaDoorLeLaws
namespace Go.Proofs.YtblmjaenoleaaaaDoor
open Go.RowKit
set_option linter.unusedVariables false

theorem RdAt.other {w w' : World} {b c p : Nat} {l : List UInt8} (h : RdAt w c l p) (hG : w.grownBy w' (some b)) (hne : c ≠ b) : RdAt w' c l p :=
  ⟨(hG.block c h.lt (fun e => hne (by injection e))).trans h.1, h.2⟩
theorem Below.only {w a a' : World} {b : Nat} (h : Below w.heap.size w a) (hG : a.grownBy a' (some b)) (hb : w.heap.size ≤ b) : Below w.heap.size w a' :=
  h.grown hG h.size (fun k e => by injection e with e; omega)

end Go.Proofs.YtblmjaenoleaaaaDoor
