/-
  Contracts of le's reader: New, Left, Take, number, U64.
-/
import Derived.Test.YtidmbibpoldgcaaLe2
namespace Go.Proofs.Ytidmbibpoldgcaa
open Go.RowKit
set_option linter.unusedVariables false

/-- Only block b, and what is new, has turned. -/
theorem only_put {a w : World} {b : Nat} (h : a.grownBy w (some b)) (v : Value) : a.grownBy (w.setCell ⟨b, 1, none⟩ v) (some b) :=
  ⟨h.os, h.tape, h.output, by simpa [World.setCell] using h.size, fun i hi hne => (Below.heap_setCell w ⟨b, 1, none⟩ v i (by rintro rfl; exact hne rfl)).trans (h.block i hi hne)⟩
theorem only_drewN {a w : World} {row : Option Nat} (h : a.grownBy w row) (n : Nat) : a.grownBy (w.drewN n) row := ⟨h.os, h.tape, h.output, h.size, h.block⟩

theorem rd_extract (l : List UInt8) (p m : Nat) : (ByteArray.mk l.toArray).extract p (p + m) = ⟨((l.drop p).take m).toArray⟩ := by
  apply ByteArray.ext
  rw [ByteArray.data_extract]
  simp [List.extract_eq_take_drop]

def tkErr (l : List UInt8) (p : Nat) (n : Int) : Int := if n < 0 then 1 else if (l.length : Int) - p < n then 2 else 0
def tkStr (l : List UInt8) (p : Nat) (n : Int) : List UInt8 := if tkErr l p n = 0 then (l.drop p).take n.toNat else []
def tkPos (l : List UInt8) (p : Nat) (n : Int) : Nat := if tkErr l p n = 0 then p + n.toNat else p

/-- The number that the first k bytes from p on are. -/
def numTo (l : List UInt8) (p : Nat) : Nat → Int
  | 0 => 0
  | k + 1 => bits .or .u64 (numTo l p k) (IntKind.u64.wrap (IntKind.u64.wrap ((l.getD (p + k) 0).toNat : Int) * 2 ^ (8 * k)))

def nbErr (l : List UInt8) (p n : Nat) : Int := if (l.length : Int) - p < n then 2 else 0
def nbVal (l : List UInt8) (p n : Nat) : Int := if (l.length : Int) - p < n then 0 else numTo l p n
def nbPos (l : List UInt8) (p n : Nat) : Nat := if (l.length : Int) - p < n then p else p + n

end Go.Proofs.Ytidmbibpoldgcaa
