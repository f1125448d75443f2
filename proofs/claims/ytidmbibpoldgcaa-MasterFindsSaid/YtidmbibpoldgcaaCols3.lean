/-
  Contracts of package cols, third part: parity and its closure.
-/
import Derived.Test.YtidmbibpoldgcaaCols2
import Derived.Deep.RegionLaw
namespace Go.Proofs.Ytidmbibpoldgcaa
open Go.RowKit

def pcol (first wide at_ : Int) (k : Nat) (par : Bool) (row : Int) : Col := (first + (at_ + k) % wide, 16 + (at_ + k) / wide, par, row)

/-- Block b is one cell that holds v. -/
def Box (w : World) (b : Nat) (t : TypeId) (v : Value) : Prop := w.heap[b]? = some (.cells #[v] t (0, 0))
theorem Box.lt {w : World} {b : Nat} {t : TypeId} {v : Value} (h : Box w b t v) : b < w.heap.size := lt_of_block h
theorem Box.cell {w : World} {b : Nat} {t : TypeId} {v : Value} (h : Box w b t v) : w.cell? ⟨b, 0, none⟩ = some v := cell_of_one h
theorem Box.free {w : World} {b : Nat} {t : TypeId} {v : Value} (h : Box w b t v) : w.frozen? ⟨b, 0, none⟩ = false := free_of_one h
theorem Box.below {w w' : World} {b B : Nat} {t : TypeId} {v : Value} (h : Box w b t v) (hb : Below B w w') (hB : b < B) : Box w' b t v := (hb.block b hB).trans h

end Go.Proofs.Ytidmbibpoldgcaa
