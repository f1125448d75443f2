/-
  The walk of PtrOrder.
-/
import Derived.Test.YtidmbibpoldgcaaPtr3
namespace Go.Proofs.Ytidmbibpoldgcaa
open Go.RowKit
set_option linter.unusedVariables false

theorem ptrZ_ok : ptrZ.Ok := by unfold PtrD.Ok ptrZ; decide
theorem lessB_eq (p q : PtrD) : lessB p q = decide (p.birth < q.birth ∨ p.birth = q.birth ∧ (p.ag < q.ag ∨ p.ag = q.ag ∧ p.aa < q.aa)) := by
  unfold lessB
  congr 1
  simp only [orL, cmpInt]
  rw [eq_iff_iff]
  rcases Int.lt_trichotomy p.birth q.birth with h1 | h1 | h1 <;> rcases Int.lt_trichotomy p.ag q.ag with h2 | h2 | h2 <;> rcases Int.lt_trichotomy p.aa q.aa with h3 | h3 | h3 <;>
    (repeat' split) <;> omega

end Go.Proofs.Ytidmbibpoldgcaa
