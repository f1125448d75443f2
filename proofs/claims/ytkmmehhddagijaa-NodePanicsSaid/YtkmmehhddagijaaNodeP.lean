/-
  node.Links, asked of an item; the law's panics.
-/
import Derived.Test.YtkmmehhddagijaaRows
import Derived.Test.YtkmmehhddagijaaBlk
import Derived.Test.YtkmmehhddagijaaPtr2
import Derived.Defers
import Derived.Recover
import Derived.Laws.Pointers
namespace Go.Proofs.Ytkmmehhddagijaa
set_option linter.unusedVariables false
set_option linter.unusedSimpArgs false
open Go.RowKit

noncomputable def taCells (x : Value) : Array Value := #[typeHandle Try.prog 49, x, typeHandle Try.prog 37, strVal ""]
theorem ta_data (v : Value) (w : World) : (Instr.typeAssert (.iface 33 v) 49 37 false).run Try.prog w =
    .halt (.panic (.iface 15 (.pointer (some ⟨w.heap.size, 0, none⟩)))) (w.alloc (.cells (taCells (typeHandle Try.prog 33)) 97)) := by
  simp [Instr.typeAssert, run_underlying Try.underlying37, runtimePanic, newVar, elemOf, go_sem]
  rfl
theorem ta_hole (v : Value) (w : World) : (Instr.typeAssert (.iface 35 v) 49 37 false).run Try.prog w =
    .halt (.panic (.iface 15 (.pointer (some ⟨w.heap.size, 0, none⟩)))) (w.alloc (.cells (taCells (typeHandle Try.prog 35)) 97)) := by
  simp [Instr.typeAssert, run_underlying Try.underlying37, runtimePanic, newVar, elemOf, go_sem]
  rfl
theorem ta_nil (w : World) : (Instr.typeAssert .nilIface 49 37 false).run Try.prog w =
    .halt (.panic (.iface 15 (.pointer (some ⟨w.heap.size, 0, none⟩)))) (w.alloc (.cells (taCells (.pointer none)) 97)) := by
  simp [Instr.typeAssert, run_underlying Try.underlying37, runtimePanic, newVar, elemOf, go_sem]
  rfl
theorem ta_index (v : Value) (w : World) : (Instr.typeAssert (.iface 37 v) 49 37 false).run Try.prog w = .ok v w := by
  simp [Instr.typeAssert, run_underlying Try.underlying37, go_sem]

/-- What is asserted fails: Links panics. -/
theorem links_bad (x d : Value) (w : World) (h : ∀ W : World, (Instr.typeAssert x 49 37 false).run Try.prog W =
      .halt (.panic (.iface 15 (.pointer (some ⟨W.heap.size, 0, none⟩)))) (W.alloc (.cells (taCells d) 97))) :
    Calls Try.prog 11 #[x] w fun e w' => (∃ u pv, e = .panicked [{ v := .iface u pv, recovered := false }]) ∧ Below w.heap.size w w' := by
  go_enter Try.func11, Try.ntmps11
  go_wp2_with fail
  exact ⟨rfl, ⟨_, _, rfl⟩, keep_alloc ((Below.refl _ _).alloc (Nat.le_refl _) _) _⟩

theorem links_good (cs : Array Value) (w : World) (h48 : cs.size = 48) (h1 : cs.all (·.oneCell') = true) : Calls Try.prog 11 #[.iface 37 (.agg cs)] w fun e w' => e = .returned (.agg cs) ∧ Below w.heap.size w w' := by
  have h := fun (W : World) => ta_index (.agg cs) W
  have hf : ∀ W : World, (Instr.field 37 (.agg cs) 0).run Try.prog W = .ok (.agg cs) W := fun W => by
    have e : cs.extract 0 48 = cs := by rw [← h48, Array.extract_size]
    simp [Instr.field, run_underlying Try.underlying37, go_sem, part, asAgg, e]
  have hi : (Try.prog.info? 29).map (·.size) = some cs.size := by rw [h48]; kernel_rfl
  have H48 := Lib.hid h48
  clear h48
  go_enter Try.func11, Try.ntmps11
  have hth : ∀ Z : Array Value, Z.size = 48 → (w.alloc (.cells Z 29)).there w.heap.size 0 cs.size := fun Z hZ => (Blk.new w _ Z).there (by rw [H48.out, hZ]; omega)
  have hres : ∀ Z : Array Value, Z.size = 48 → Blk ((w.alloc (.cells Z 29)).setCells w.heap.size 0 cs.toList) w.heap.size 29 cs := fun Z hZ => (Blk.new w _ Z).putAll cs (by rw [H48.out, hZ])
  have hbl : ∀ Z : Array Value, Below w.heap.size w ((w.alloc (.cells Z 29)).setCells w.heap.size 0 cs.toList) := fun Z => below_sets _ _ ((Below.refl _ _).alloc (Nat.le_refl _) _) (Nat.le_refl _)
  go_wp2_with ((with_reducible refine wpList_store_mid ?q1 29 (.tmp 2) (.tmp 5) ?q2 w.heap.size 0 cs ?q3 ?q4 ?c1 hi h1 ?_); (case q2 => rfl); (case q1 => rfl); (case q3 => rfl); (case q4 => rfl); (case c1 => exact hth _ rfl))
  refine bodyPost_ret (v := .agg cs) (results_cell_row rfl _ _ w.heap.size 29 cs (0, 0) _ rfl (hres _ rfl) Try.underlying29 rfl hi) rfl ⟨rfl, hbl _⟩

theorem catch_panicking (p : Addr) (u : TypeId) (pv : Value) (older : List PanicEntry) (w : World) (hc : w.cell? p = some (.bool false)) (hz : w.frozen? p = false) :
    CallsD Try.prog 10 #[.pointer (some p)] (.panicking ({ v := .iface u pv, recovered := false } :: older)) w fun e u' w' =>
      e = .returned (.tuple #[]) ∧ u' = .panicking ({ v := .iface u pv, recovered := true } :: older) ∧ w' = w.setCell p (.bool true) := by
  refine callsD_of_wpS Try.func10 rfl fun c₀ cs hu => ?_
  apply wpS_seq
  apply wpS_region
  simp [wpOpsS, go_sem, recoverD, hu, Try.ntmps10, Exit.thenS]
  refine wpS_cond (t := true) (by simp [Act.eval, Array.replicate]) ?_
  simp only [if_true]
  apply wpS_region
  simp [wpOpsS, go_sem, hc, hz, bodyPostS, results, Try.results10]

theorem catch_idle (p : Addr) (w : World) :
    CallsD Try.prog 10 #[.pointer (some p)] .returning w fun e u' w' => e = .returned (.tuple #[]) ∧ u' = .returning ∧ w' = w := by
  refine callsD_of_wpS Try.func10 rfl fun c₀ cs hu => ?_
  apply wpS_seq
  apply wpS_region
  simp [wpOpsS, go_sem, recoverD, hu, Try.ntmps10, Exit.thenS]
  refine wpS_cond (t := false) (by simp [Act.eval, Array.replicate]) ?_
  simp only [Bool.false_eq_true, if_false]
  refine wpS_of_wp (wp_skip ?_)
  cases c₀
  simp_all [bodyPostS, results, Try.results10]

theorem panics_yes (x d : Value) (w : World) (h : ∀ W : World, (Instr.typeAssert x 49 37 false).run Try.prog W =
      .halt (.panic (.iface 15 (.pointer (some ⟨W.heap.size, 0, none⟩)))) (W.alloc (.cells (taCells d) 97))) :
    Calls Try.prog 6 #[x] w fun e w' => e = .returned (.bool true) ∧ Below w.heap.size w w' := by
  have HL := Lib.hid fun W => links_bad x d W h
  have hmf : ∀ (fn : Fn) (first cap : Array Value) (w : World), (Instr.makeFunc fn first cap).run Try.prog w = .ok (.func fn first cap) w := fun _ _ _ _ => rfl
  have hb0 : Below w.heap.size w (w.alloc (.cells #[.bool false] 4)) := (Below.refl _ _).alloc (Nat.le_refl _) _
  clear h
  go_enter_defers Try.func6, Try.ntmps6
  go_wp2_with fail
  refine (HL.out _).mono ?_
  rintro e w1 ⟨⟨u, pv, rfl⟩, hb⟩
  have hc : w1.cell? ⟨w.heap.size, 0, none⟩ = some (.bool false) := keep_cell hb (cell_new rfl rfl) (by simp)
  have hf : w1.frozen? ⟨w.heap.size, 0, none⟩ = false := by rw [(bcell hb).2 _ _ (by simp)]; simp
  have hb1 := keep_below hb hb0
  go_wp2_with fail
  refine leaves_cons (f := 10) (args := #[.pointer (some ⟨w.heap.size, 0, none⟩)]) (by simp) (by simp [go_sem]) ?_
  refine (catch_panicking ⟨w.heap.size, 0, none⟩ u pv [] _ hc hf).mono ?_
  rintro e u' w'' ⟨rfl, rfl, rfl⟩
  simp [Leaves, settle, results, Try.results6, go_sem, hc]
  exact below_set hb1 _ _ _ (Nat.le_refl _)

set_option maxRecDepth 100000 in
theorem panics_no (cs : Array Value) (w : World) (h48 : cs.size = 48) (h1 : cs.all (·.oneCell') = true) :
    Calls Try.prog 6 #[.iface 37 (.agg cs)] w fun e w' => e = .returned (.bool false) ∧ Below w.heap.size w w' := by
  have HL := Lib.hid fun W => links_good cs W h48 h1
  clear h48 h1
  have hmf : ∀ (fn : Fn) (first cap : Array Value) (w : World), (Instr.makeFunc fn first cap).run Try.prog w = .ok (.func fn first cap) w := fun _ _ _ _ => rfl
  have hb0 : Below w.heap.size w (w.alloc (.cells #[.bool false] 4)) := (Below.refl _ _).alloc (Nat.le_refl _) _
  go_enter_defers Try.func6, Try.ntmps6
  go_wp2_with fail
  refine (HL.out _).mono ?_
  rintro e w1 ⟨rfl, hb⟩
  have hc : w1.cell? ⟨w.heap.size, 0, none⟩ = some (.bool false) := keep_cell hb (cell_new rfl rfl) (by simp)
  have hf : w1.frozen? ⟨w.heap.size, 0, none⟩ = false := by rw [(bcell hb).2 _ _ (by simp)]; simp
  have hb1 := keep_below hb hb0
  go_wp2_with fail
  refine leaves_cons (f := 10) (args := #[.pointer (some ⟨w.heap.size, 0, none⟩)]) (by simp) (by simp [go_sem]) ?_
  refine (catch_idle ⟨w.heap.size, 0, none⟩ _).mono ?_
  rintro e u' w'' ⟨rfl, rfl, rfl⟩
  simp [Leaves, settle, results, Try.results6, go_sem, hc]
  exact below_set hb1 _ _ _ (Nat.le_refl _)
end Go.Proofs.Ytkmmehhddagijaa
