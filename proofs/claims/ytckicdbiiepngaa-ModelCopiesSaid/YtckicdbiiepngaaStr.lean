/-
  Texts as values. No program stands here.
-/
import Derived.Test.YtckicdbiiepngaaBase
namespace Go.Proofs.Ytckicdbiiepngaa
set_option linter.unusedVariables false
set_option linter.unusedSimpArgs false
open Go.RowKit

/-- A text as a value. -/
abbrev str (l : List UInt8) : Value := .string ⟨l.toArray⟩
theorem ret_str {a b : List UInt8} (h : a = b) : Ending.returned (str a) = .returned (str b) := by rw [h]
end Go.Proofs.Ytckicdbiiepngaa
