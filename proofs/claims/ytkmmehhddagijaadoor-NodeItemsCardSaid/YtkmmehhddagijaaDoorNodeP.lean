/-
  node.Links, asked of an item; the law's panics.
-/
import Derived.Test.YtkmmehhddagijaaDoorRows
import Derived.Test.YtkmmehhddagijaaDoorBlk
import Derived.Test.YtkmmehhddagijaaDoorPtr2
import Derived.Defers
import Derived.Recover
import Derived.Laws.Pointers
namespace Go.Proofs.YtkmmehhddagijaaDoor
set_option linter.unusedVariables false
set_option linter.unusedSimpArgs false
open Go.RowKit

noncomputable def taCells (x : Value) : Array Value := #[typeHandle Tryd.prog 24, x, typeHandle Tryd.prog 43, strVal ""]
theorem ta_data (v : Value) (w : World) : (Instr.typeAssert (.iface 39 v) 24 43 false).run Tryd.prog w =
    .halt (.panic (.iface 15 (.pointer (some ⟨w.heap.size, 0, none⟩)))) (w.alloc (.cells (taCells (typeHandle Tryd.prog 39)) 126)) := by
  simp [Instr.typeAssert, run_underlying Tryd.underlying43, runtimePanic, newVar, elemOf, go_sem]
  rfl
theorem ta_hole (v : Value) (w : World) : (Instr.typeAssert (.iface 45 v) 24 43 false).run Tryd.prog w =
    .halt (.panic (.iface 15 (.pointer (some ⟨w.heap.size, 0, none⟩)))) (w.alloc (.cells (taCells (typeHandle Tryd.prog 45)) 126)) := by
  simp [Instr.typeAssert, run_underlying Tryd.underlying43, runtimePanic, newVar, elemOf, go_sem]
  rfl
theorem ta_nil (w : World) : (Instr.typeAssert .nilIface 24 43 false).run Tryd.prog w =
    .halt (.panic (.iface 15 (.pointer (some ⟨w.heap.size, 0, none⟩)))) (w.alloc (.cells (taCells (.pointer none)) 126)) := by
  simp [Instr.typeAssert, run_underlying Tryd.underlying43, runtimePanic, newVar, elemOf, go_sem]
  rfl
theorem ta_index (v : Value) (w : World) : (Instr.typeAssert (.iface 43 v) 24 43 false).run Tryd.prog w = .ok v w := by
  simp [Instr.typeAssert, run_underlying Tryd.underlying43, go_sem]

/-- What is asserted fails: Links panics. -/
theorem links_bad (x d : Value) (w : World) (h : ∀ W : World, (Instr.typeAssert x 24 43 false).run Tryd.prog W =
      .halt (.panic (.iface 15 (.pointer (some ⟨W.heap.size, 0, none⟩)))) (W.alloc (.cells (taCells d) 126))) :
    Calls Tryd.prog 12 #[x] w fun e w' => (∃ u pv, e = .panicked [{ v := .iface u pv, recovered := false }]) ∧ Below w.heap.size w w' := by
  go_enter Tryd.func12, Tryd.ntmps12
  go_wp2_with fail
  exact ⟨rfl, ⟨_, _, rfl⟩, keep_alloc ((Below.refl _ _).alloc (Nat.le_refl _) _) _⟩

theorem links_good (cs : Array Value) (w : World) (h48 : cs.size = 48) (h1 : cs.all (·.oneCell') = true) : Calls Tryd.prog 12 #[.iface 43 (.agg cs)] w fun e w' => e = .returned (.agg cs) ∧ Below w.heap.size w w' := by
  have h := fun (W : World) => ta_index (.agg cs) W
  have hf : ∀ W : World, (Instr.field 43 (.agg cs) 0).run Tryd.prog W = .ok (.agg cs) W := fun W => by
    have e : cs.extract 0 48 = cs := by rw [← h48, Array.extract_size]
    simp [Instr.field, run_underlying Tryd.underlying43, go_sem, part, asAgg, e]
  have hi : (Tryd.prog.info? 37).map (·.size) = some cs.size := by rw [h48]; kernel_rfl
  have H48 := Lib.hid h48
  clear h48
  go_enter Tryd.func12, Tryd.ntmps12
  have hth : ∀ Z : Array Value, Z.size = 48 → (w.alloc (.cells Z 37)).there w.heap.size 0 cs.size := fun Z hZ => (Blk.new w _ Z).there (by rw [H48.out, hZ]; omega)
  have hres : ∀ Z : Array Value, Z.size = 48 → Blk ((w.alloc (.cells Z 37)).setCells w.heap.size 0 cs.toList) w.heap.size 37 cs := fun Z hZ => (Blk.new w _ Z).putAll cs (by rw [H48.out, hZ])
  have hbl : ∀ Z : Array Value, Below w.heap.size w ((w.alloc (.cells Z 37)).setCells w.heap.size 0 cs.toList) := fun Z => below_sets _ _ ((Below.refl _ _).alloc (Nat.le_refl _) _) (Nat.le_refl _)
  go_wp2_with ((with_reducible refine wpList_store_mid ?q1 37 (.tmp 2) (.tmp 5) ?q2 w.heap.size 0 cs ?q3 ?q4 ?c1 hi h1 ?_); (case q2 => rfl); (case q1 => rfl); (case q3 => rfl); (case q4 => rfl); (case c1 => exact hth _ rfl))
  refine bodyPost_ret (v := .agg cs) (results_cell_row rfl _ _ w.heap.size 37 cs (0, 0) _ rfl (hres _ rfl) Tryd.underlying37 rfl hi) rfl ⟨rfl, hbl _⟩

end Go.Proofs.YtkmmehhddagijaaDoor
