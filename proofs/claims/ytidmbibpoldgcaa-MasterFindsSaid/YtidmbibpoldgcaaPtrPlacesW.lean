/-
  The walk of PtrPlaces.
-/
import Derived.Test.YtidmbibpoldgcaaPtr4
import Derived.Test.YtidmbibpoldgcaaPtrOrderW
namespace Go.Proofs.Ytidmbibpoldgcaa
set_option linter.unusedVariables false
set_option linter.unusedSimpArgs false
open Go.RowKit

theorem neq_place (a b c e : Int) (w : World) : (binOp .neq 23 (.agg #[.int .i64 a, .int .i64 b]) (.agg #[.int .i64 c, .int .i64 e])).run Try.prog w = .ok (.bool (!(a == c && b == e))) w := by
  rw [run_neq_struct, run_equalIn_struct w 9999 _ _ _ (by kernel_rfl) Try.stoodPlace]
  simp [go_sem, Try.underlying23]
  by_cases h1 : a = c <;> by_cases h2 : b = e <;> simp [h1, h2]
theorem placesN_le (p : PtrD) : placesN p ≤ 2 := by
  unfold placesN
  cases noneB p <;> cases p.two <;> decide
/-- ptr.Bytes, its two ways. -/
theorem pbytes_two (p : PtrD) (hok : p.Ok) : ∃ (s : List UInt8) (e : Int), (layOk p = true ∧ e = 0 ∧ s = ptrL p ∨ layOk p = false ∧ e = 1) ∧
    ∀ w, Calls Try.prog 25 #[.agg p.cells] w fun e' w' => e' = .returned (.tuple #[str s, .int .i64 e]) ∧ Below w.heap.size w w' := by
  refine ⟨if layOk p then ptrL p else [], if layOk p then 0 else 1, ?_, fun w => pbytes_any p w hok⟩
  cases layOk p <;> simp

end Go.Proofs.Ytidmbibpoldgcaa
