/-
  Contracts of package node: Level, Data.Text; the document's examples.
-/
import Derived.Test.YtidmbibpoldgcaaRows
import Derived.Test.YtidmbibpoldgcaaLe2
namespace Go.Proofs.Ytidmbibpoldgcaa
set_option linter.unusedVariables false
set_option linter.unusedSimpArgs false
open Go.RowKit

def levN (size : Int) : Nat := if size ≤ 256 then 0 else if size ≤ 1024 then 1 else if size ≤ 4096 then 2 else 3
theorem levN_le (size : Int) : levN size ≤ 3 := by unfold levN; (repeat' split) <;> omega
theorem levN_mono {a b : Int} (h : a ≤ b) : levN a ≤ levN b := by unfold levN; (repeat' split) <;> omega

def textL (s : List UInt8) : List UInt8 := if 256 < s.length then [] else padL s 64
theorem rd_take (l : List UInt8) (m : Nat) : (ByteArray.mk l.toArray).extract 0 m = ⟨(l.take m).toArray⟩ := by
  apply ByteArray.ext
  rw [ByteArray.data_extract]
  simp [List.extract_eq_take_drop]
end Go.Proofs.Ytidmbibpoldgcaa
