/-
  A block that is known whole; worlds in which one old block alone has turned.
-/
import Derived.Test.YtnagcmfecggllaaDoorCls
namespace Go.Proofs.YtnagcmfecggllaaDoor
set_option linter.unusedVariables false
set_option linter.unusedSimpArgs false
open Go.RowKit

/-- A mark: the walk stands at a region that draws its order (go_step would try long there). -/
theorem drawn_mark {P : Program} {id : Nat} {ops : Array Oper} {Q : Exit → Act → World → Prop} {a : Act} {w : World} (h : (Code.region id ops true).wp P Q a w) : (Code.region id ops true).wp P Q a w := h

/-- Block g is just these cells. -/
def Blk (w : World) (g : Nat) (t : TypeId) (cs : Array Value) : Prop := w.heap[g]? = some (.cells cs t (0, 0))
section
variable {w w' : World} {g : Nat} {t : TypeId} {cs : Array Value}
theorem Blk.lt (h : Blk w g t cs) : g < w.heap.size := lt_of_block h
theorem Blk.at_ (h : Blk w g t cs) {i : Nat} {v : Value} (hv : cs[i]? = some v) : w.cell? ⟨g, i, none⟩ = some v := (cell_of_row w g i cs t (0, 0) h).trans hv
theorem Blk.fr (h : Blk w g t cs) (i : Nat) : w.frozen? ⟨g, i, none⟩ = false := by unfold Blk at h; simp [World.frozen?, h]
theorem Blk.new (w : World) (t : TypeId) (cs : Array Value) : Blk (w.alloc (.cells cs t)) w.heap.size t cs := heap_alloc_new w _
theorem Blk.new2 (w : World) (o : Obj) (t : TypeId) (cs : Array Value) : Blk ((w.alloc o).alloc (.cells cs t)) (w.heap.size + 1) t cs := by
  have := Blk.new (w.alloc o) t cs
  rwa [World.size_alloc] at this
theorem Blk.drew (h : Blk w g t cs) : Blk w.drew g t cs := h
theorem Blk.drewN (h : Blk w g t cs) (n : Nat) : Blk (w.drewN n) g t cs := h
theorem Blk.alloc (h : Blk w g t cs) (o : Obj) : Blk (w.alloc o) g t cs := (Below.heap_alloc w o g h.lt).trans h
theorem Blk.put (h : Blk w g t cs) (i : Nat) (u : Value) : Blk (w.setCell ⟨g, i, none⟩ u) g t (cs.setIfInBounds i u) := by
  unfold Blk at h ⊢
  simp [World.setCell, Array.getElem?_modify, h]
theorem Blk.far (h : Blk w g t cs) {p : Addr} (hp : g ≠ p.block) (u : Value) : Blk (w.setCell p u) g t cs := (Below.heap_setCell w p u g hp).trans h
theorem Blk.below {B : Nat} (h : Blk w g t cs) (hb : Below B w w') (hg : g < B) : Blk w' g t cs := (hb.block g hg).trans h
theorem Blk.grown {r : Nat} (h : Blk w g t cs) (hG : w.grownBy w' (some r)) (hne : g ≠ r) : Blk w' g t cs := (hG.block g h.lt (fun e => hne (by injection e))).trans h
end

section
variable {a w w' : World} {r : Nat}
theorem below_set {B : Nat} (h : Below B a w) (g i : Nat) (u : Value) (hg : B ≤ g) : Below B a (w.setCell ⟨g, i, none⟩ u) := Below.setCell h hg u
theorem only_then {b : Nat} (h : a.grownBy w (some r)) (k : w.grownBy w' (some b)) (hb : b = r ∨ a.heap.size ≤ b) : a.grownBy w' (some r) :=
  ⟨k.os.trans h.os, k.tape.trans h.tape, k.output.trans h.output, Nat.le_trans h.size k.size, fun i hi hne => (k.block i (Nat.lt_of_lt_of_le hi h.size) (by
    intro e
    injection e with e
    rcases hb with hb | hb
    · exact hne (by rw [e, hb])
    · omega)).trans (h.block i hi hne)⟩
theorem only_drew (h : a.grownBy w (some r)) : a.grownBy w.drew (some r) := ⟨h.os, h.tape, h.output, h.size, h.block⟩
theorem only_alloc (h : a.grownBy w (some r)) (o : Obj) : a.grownBy (w.alloc o) (some r) :=
  ⟨h.os, h.tape, h.output, Nat.le_trans h.size (by simp), fun i hi hne => (Below.heap_alloc w o i (Nat.lt_of_lt_of_le hi h.size)).trans (h.block i hi hne)⟩
theorem only_set (h : a.grownBy w (some r)) {p : Addr} (hp : p.block = r ∨ a.heap.size ≤ p.block) (u : Value) : a.grownBy (w.setCell p u) (some r) :=
  ⟨h.os, h.tape, h.output, by simpa [World.setCell] using h.size, fun i hi hne => (Below.heap_setCell w p u i (by
    rintro rfl
    rcases hp with hp | hp
    · exact hne (by rw [hp])
    · omega)).trans (h.block i hi hne)⟩
theorem only_below (h : a.grownBy w (some r)) (hb : Below w.heap.size w w') : a.grownBy w' (some r) :=
  ⟨hb.os.trans h.os, hb.tape.trans h.tape, hb.output.trans h.output, Nat.le_trans h.size hb.size, fun i hi hne => (hb.block i (Nat.lt_of_lt_of_le hi h.size)).trans (h.block i hi hne)⟩
/-- What turned is new: then nothing old has. -/
theorem below_only (h : Below a.heap.size a w) (hG : w.grownBy w' (some r)) (hr : a.heap.size ≤ r) : Below a.heap.size a w' :=
  ⟨hG.os.trans h.os, hG.tape.trans h.tape, hG.output.trans h.output, Nat.le_trans h.size hG.size, fun i hi => (hG.block i (Nat.lt_of_lt_of_le hi h.size) (by intro e; injection e; omega)).trans (h.block i hi)⟩
end
end Go.Proofs.YtnagcmfecggllaaDoor
