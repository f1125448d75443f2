/-
  Contracts of package cols, second part: mirror, parity, Of.
-/
import Derived.Test.YtidmbibpoldgcaaCols
namespace Go.Proofs.Ytidmbibpoldgcaa
open Go.RowKit
set_option linter.unusedVariables false

/-- A column: device, sector, parity, row. -/
abbrev Col := Int × Int × Bool × Int
def colCells (c : Col) : List Value := [.int .i64 c.1, .int .i64 c.2.1, .bool c.2.2.1, .int .i64 c.2.2.2]
def colsCells (l : List Col) : List Value := l.flatMap colCells
theorem colsCells_snoc (l : List Col) (c : Col) : colsCells (l ++ [c]) = colsCells l ++ colCells c := by simp [colsCells, List.flatMap_append]
theorem colsCells_len (l : List Col) : (colsCells l).length = l.length * 4 := by
  induction l with
  | nil => rfl
  | cons c l ih =>
    have : colsCells (c :: l) = colCells c ++ colsCells l := rfl
    rw [this, List.length_append, ih, List.length_cons]
    simp [colCells]; omega

def mcol (first at_ : Int) (d i : Nat) : Col := (first + d, 16 + at_ + i, false, i)
def mirTo (first at_ : Int) (size d i : Nat) : List Col := (List.range d).flatMap (fun d => (List.range size).map (mcol first at_ d)) ++ (List.range i).map (mcol first at_ d)
def mirror (first at_ : Int) (wide size : Nat) : List Col := mirTo first at_ size wide 0
theorem mirTo_zero (first at_ : Int) (size : Nat) : mirTo first at_ size 0 0 = [] := rfl
theorem mirTo_step (first at_ : Int) (size d i : Nat) : mirTo first at_ size d (i + 1) = mirTo first at_ size d i ++ [mcol first at_ d i] := by
  simp [mirTo, List.range_succ]
theorem mirTo_row (first at_ : Int) (size d : Nat) : mirTo first at_ size (d + 1) 0 = mirTo first at_ size d size := by
  simp [mirTo, List.range_succ]
theorem mirTo_len (first at_ : Int) (size d i : Nat) : (mirTo first at_ size d i).length = d * size + i := by
  have : ∀ n : Nat, (List.map (fun _ : Nat => size) (List.range n)).sum = n * size := by
    intro n
    induction n with
    | zero => simp
    | succ n ih => rw [List.range_succ, List.map_append, List.sum_append, ih]; simp [Nat.add_mul]
  simp [mirTo, List.length_flatMap, this]

theorem col_new (w : World) (c : Col) (t : TypeId) : ∀ j u, (colCells c)[j]? = some u → (w.alloc (.cells #[.int .i64 c.1, .int .i64 c.2.1, .bool c.2.2.1, .int .i64 c.2.2.2] t)).cell? ((⟨w.heap.size, 0, none⟩ : Addr).add j) = some u := by
  intro j u hu
  match j, hu with
  | 0, hu => simp [colCells] at hu; subst hu; simp [Addr.add]
  | 1, hu => simp [colCells] at hu; subst hu; simp [Addr.add]
  | 2, hu => simp [colCells] at hu; subst hu; simp [Addr.add]
  | 3, hu => simp [colCells] at hu; subst hu; simp [Addr.add]
  | j + 4, hu => simp [colCells] at hu
theorem col_one (c : Col) : ∀ u ∈ colCells c, u.oneCell' = true := by
  intro u hu
  simp [colCells] at hu
  rcases hu with rfl | rfl | rfl | rfl <;> rfl

end Go.Proofs.Ytidmbibpoldgcaa
