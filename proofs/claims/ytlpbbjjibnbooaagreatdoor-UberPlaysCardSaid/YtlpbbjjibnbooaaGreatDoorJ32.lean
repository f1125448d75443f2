/-
  A world for the witness in which the library tables that the rows list hold what their texts lay.
-/
import Derived.Test.YtlpbbjjibnbooaaGreatDoorRows
import Derived.Deep.DeepHandedRow
namespace Go.Proofs.YtlpbbjjibnbooaaGreatDoor

def litOf : DataW Unit → Value
  | .lit (.int k n) => .int k n
  | _ => .int .i64 0
def partsOf : DataW Unit → List (DataW Unit)
  | .agg l => l
  | _ => []
def firstCells : Array Value := ((partsOf Rows.laid_unicode_utf8_first).map litOf).toArray
def rangeCells : Array Value := ((partsOf (Rows.laid_unicode_utf8_acceptRanges (H := Unit))).flatMap fun d => (partsOf d).map litOf).toArray
def layCells (cs : Array Value) : Obj → Obj
  | .cells _ t frozen => .cells cs t frozen
  | o => o
noncomputable def laidWorld (os : Os) : World :=
  { World.holding Tryz.prog os ⟨#[], #[], []⟩ with heap := Array.modify (Array.modify (World.holding Tryz.prog os ⟨#[], #[], []⟩).heap 1 (layCells firstCells)) 2 (layCells rangeCells) }
end Go.Proofs.YtlpbbjjibnbooaaGreatDoor
