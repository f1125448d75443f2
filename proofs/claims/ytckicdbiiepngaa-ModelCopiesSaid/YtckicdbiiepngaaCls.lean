/-
  A class of worlds for a drawn region; cells behind a new block.
-/
import Derived.Test.YtckicdbiiepngaaBase
import Derived.Deep.DeepCutAuto
namespace Go.Proofs.Ytckicdbiiepngaa
open Go.RowKit

theorem cell_alloc {W : World} {b o : Nat} {v : Value} (h : W.cell? ⟨b, o, none⟩ = some v) (X : Obj) : (W.alloc X).cell? ⟨b, o, none⟩ = some v :=
  (World.cell?_alloc_lt W X _ (World.block_lt_of_cell? W _ h)).trans h
theorem cell_new {W : World} {k o : Nat} {cs : Array Value} {t : TypeId} {v : Value} (hk : k = W.heap.size) (h : cs[o]? = some v) : (W.alloc (.cells cs t)).cell? ⟨k, o, none⟩ = some v := by
  subst hk
  rw [cell_of_row _ _ _ cs t (0, 0) (heap_alloc_new W _)]
  exact h
theorem wp_region_cls {P : Program} {id : Nat} {Q : Exit → Act → World → Prop} {a : Act} {w : World} {l : List Oper} (C : World → Prop) (hm : P.follows .mixedOrders = true) (hB : Region.lexB .any l.toArray = true)
    (hC : C w.drew) (h : wpQuiet P l.toArray C (fun a' => ∀ w', C w' → Q .normal a' w') l a) : (Code.region id l.toArray true).wp P Q a w :=
  wp_region_quiet (C := C) hm hB hC (by simpa using h)
/-- The class: what lay below is as it was. -/
theorem cls_below (w : World) : ∃ C : World → Prop, C w.drew ∧ C w ∧ (∀ W, C W → Below w.heap.size w W) ∧ (∀ W W', C W → Below W.heap.size W W' → C W') ∧ (∀ W n, C W → C (W.drewN n)) :=
  ⟨fun W => Below w.heap.size w W, (Below.refl _ _).drew, Below.refl _ _, fun _ h => h, fun _ _ h h' => h.trans (h'.mono h.size), fun _ _ h => ⟨h.os, h.tape, h.output, h.size, h.block⟩⟩
end Go.Proofs.Ytckicdbiiepngaa
