/-
  Contracts of node.Bytes and node.ReadNode.
-/
import Derived.Test.YtidmbibpoldgcaaNode
import Derived.Test.YtidmbibpoldgcaaPtrR
import Derived.Test.YtidmbibpoldgcaaPtrPlacesW
namespace Go.Proofs.Ytidmbibpoldgcaa
set_option linter.unusedVariables false
set_option linter.unusedSimpArgs false
open Go.RowKit

/-- What bytes are read as a node: size, root, whether there is one, the error. -/
def rnD (s : List UInt8) : Int × PtrD × Bool × Int :=
  if s.length < 128 then (0, ptrZ, false, 2) else if 128 < s.length then (0, ptrZ, false, 3) else if allZ s then (0, ptrZ, false, 0)
  else if 4611686018427387904 ≤ subN s 0 8 then (0, ptrZ, false, 3) else if subN s 8 8 ≠ 1 then (0, ptrZ, false, 3)
  else if readE ((s.drop 16).take 64) ≠ 0 then (0, ptrZ, false, readE ((s.drop 16).take 64)) else if allZ (s.drop 80) then (subN s 0 8, readP ((s.drop 16).take 64), true, 0) else (0, ptrZ, false, 3)
def rnV (x : Int × PtrD × Bool × Int) : Value := .tuple #[.agg #[.int .i64 x.1, .int .i64 x.2.1.ag, .int .i64 x.2.1.aa, .int .i64 x.2.1.bg, .int .i64 x.2.1.ba, .bool x.2.1.two, .int .i64 x.2.1.size, .int .i64 x.2.1.level, .int .i64 x.2.1.birth, .int .u64 x.2.1.s0, .int .u64 x.2.1.s1, .int .u64 x.2.1.s2, .int .u64 x.2.1.s3], .bool x.2.2.1, .int .i64 x.2.2.2]
theorem in_sub {s : List UInt8} {p : Nat} (h : p + 8 ≤ s.length) : inErr s p = (if 4611686018427387904 ≤ subN s p 8 then 3 else 0) ∧ inVal s p = (if 4611686018427387904 ≤ subN s p 8 then 0 else subN s p 8) ∧ inPos s p = (if 4611686018427387904 ≤ subN s p 8 then p else p + 8) := by
  have e : inErr s p = (if 4611686018427387904 ≤ subN s p 8 then 3 else 0) := by unfold inErr; rw [if_neg (by omega)]; rfl
  unfold inVal inPos
  rw [e, rdN_sub h]
  split <;> simp

theorem tk_in {l : List UInt8} {p n : Nat} (h : p + n ≤ l.length) : tkErr l p n = 0 ∧ tkStr l p n = (l.drop p).take n ∧ tkPos l p n = p + n := by
  have e : tkErr l p n = 0 := by unfold tkErr; rw [if_neg (by omega), if_neg (by omega)]
  unfold tkStr tkPos
  rw [e, if_pos rfl, if_pos rfl, Int.toNat_natCast]
  exact ⟨rfl, rfl, rfl⟩
end Go.Proofs.Ytidmbibpoldgcaa
