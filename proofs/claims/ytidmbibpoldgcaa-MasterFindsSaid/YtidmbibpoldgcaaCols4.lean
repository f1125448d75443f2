/-
  Contracts of package cols, fourth part: parity, Of.
-/
import Derived.Test.YtidmbibpoldgcaaCols3
namespace Go.Proofs.Ytidmbibpoldgcaa
open Go.RowKit
set_option linter.unusedVariables false

theorem Box.new {w : World} {k : Nat} {t : TypeId} {v : Value} (hk : k = w.heap.size) : Box (w.alloc (.cells #[v] t)) k t v := by subst hk; exact heap_alloc_new w _
theorem Box.alloc {w : World} {k : Nat} {t : TypeId} {v : Value} (h : Box w k t v) (o : Obj) : Box (w.alloc o) k t v := (Below.heap_alloc w o k h.lt).trans h

/-- The columns of a parity, the first k sectors of a block. -/
def parTo (first wide at_ : Int) : Nat → List Col
  | 0 => []
  | k + 1 =>
    (if (k : Int) % (wide - 1) == 0 then parTo first wide at_ k ++ [pcol first wide at_ (parTo first wide at_ k).length true ((k : Int) / (wide - 1))] else parTo first wide at_ k) ++
      [pcol first wide at_ (if (k : Int) % (wide - 1) == 0 then parTo first wide at_ k ++ [pcol first wide at_ (parTo first wide at_ k).length true ((k : Int) / (wide - 1))] else parTo first wide at_ k).length false ((k : Int) / (wide - 1))]

theorem parTo_len (first wide at_ : Int) (k : Nat) : (parTo first wide at_ k).length ≤ 2 * k := by
  induction k with
  | zero => simp [parTo]
  | succ k ih =>
    rw [parTo]
    split <;> simp <;> omega

/-- The columns of a block. -/
def colsOf (gs : List (Int × Int)) (secs pg pa size : Int) : List Col :=
  if (grAt gs pg).1 == 0 then mirror (gFirst gs secs pg) pa (grAt gs pg).2.toNat size.toNat else parTo (gFirst gs secs pg) (grAt gs pg).2 pa size.toNat

end Go.Proofs.Ytidmbibpoldgcaa
