/-
  Contracts of package ptr: None, Less, Places, Bytes.
-/
import Derived.Test.YtnagcmfecggllaaPtr
import Derived.StillTailTactics
namespace Go.Proofs.Ytnagcmfecggllaa
open Go.RowKit
set_option linter.unusedVariables false

/-- A pointer's numbers. -/
structure PtrD where
  ag : Int
  aa : Int
  bg : Int
  ba : Int
  two : Bool
  size : Int
  level : Int
  birth : Int
  s0 : Nat
  s1 : Nat
  s2 : Nat
  s3 : Nat
deriving DecidableEq

def PtrD.cells (p : PtrD) : Array Value := #[.int .i64 p.ag, .int .i64 p.aa, .int .i64 p.bg, .int .i64 p.ba, .bool p.two, .int .i64 p.size, .int .i64 p.level, .int .i64 p.birth, .int .u64 p.s0, .int .u64 p.s1, .int .u64 p.s2, .int .u64 p.s3]
def PtrD.Ok (p : PtrD) : Prop := p.s0 < 18446744073709551616 ∧ p.s1 < 18446744073709551616 ∧ p.s2 < 18446744073709551616 ∧ p.s3 < 18446744073709551616 ∧
  -9223372036854775808 ≤ p.size ∧ p.size ≤ 9223372036854775807 ∧ -9223372036854775808 ≤ p.level ∧ p.level ≤ 9223372036854775807 ∧ -9223372036854775808 ≤ p.birth ∧ p.birth ≤ 9223372036854775807

/-- p lies at block b from offset o on. -/
def PtrAt (w : World) (b o : Nat) (p : PtrD) : Prop :=
  w.cell? ⟨b, o, none⟩ = some (.int .i64 p.ag) ∧ w.cell? ⟨b, o + 1, none⟩ = some (.int .i64 p.aa) ∧ w.cell? ⟨b, o + 2, none⟩ = some (.int .i64 p.bg) ∧ w.cell? ⟨b, o + 3, none⟩ = some (.int .i64 p.ba) ∧
  w.cell? ⟨b, o + 4, none⟩ = some (.bool p.two) ∧ w.cell? ⟨b, o + 5, none⟩ = some (.int .i64 p.size) ∧ w.cell? ⟨b, o + 6, none⟩ = some (.int .i64 p.level) ∧ w.cell? ⟨b, o + 7, none⟩ = some (.int .i64 p.birth) ∧
  w.cell? ⟨b, o + 8, none⟩ = some (.int .u64 p.s0) ∧ w.cell? ⟨b, o + 9, none⟩ = some (.int .u64 p.s1) ∧ w.cell? ⟨b, o + 10, none⟩ = some (.int .u64 p.s2) ∧ w.cell? ⟨b, o + 11, none⟩ = some (.int .u64 p.s3)
theorem PtrAt.keep {w w' : World} {b o : Nat} {p : PtrD} (h : PtrAt w b o p) (hb : Below w.heap.size w w') (hlt : b < w.heap.size) : PtrAt w' b o p := by
  obtain ⟨h0, h1, h2, h3, h4, h5, h6, h7, h8, h9, ha, hc⟩ := h
  exact ⟨keep_cell hb h0 hlt, keep_cell hb h1 hlt, keep_cell hb h2 hlt, keep_cell hb h3 hlt, keep_cell hb h4 hlt, keep_cell hb h5 hlt, keep_cell hb h6 hlt, keep_cell hb h7 hlt, keep_cell hb h8 hlt, keep_cell hb h9 hlt, keep_cell hb ha hlt, keep_cell hb hc hlt⟩
theorem PtrAt.new (w : World) (p : PtrD) (t : TypeId) : PtrAt (w.alloc (.cells p.cells t)) w.heap.size 0 p :=
  ⟨cell_new rfl rfl, cell_new rfl rfl, cell_new rfl rfl, cell_new rfl rfl, cell_new rfl rfl, cell_new rfl rfl, cell_new rfl rfl, cell_new rfl rfl, cell_new rfl rfl, cell_new rfl rfl, cell_new rfl rfl, cell_new rfl rfl⟩

def lessB (p q : PtrD) : Bool := decide (orL [cmpInt p.birth q.birth, cmpInt p.ag q.ag, cmpInt p.aa q.aa] < 0)

set_option maxRecDepth 100000 in
set_option maxHeartbeats 2000000 in
theorem less_any (p q : PtrD) (w : World) :
    Calls Try.prog 6 #[.agg p.cells, .agg q.cells] w fun e w' => e = .returned (.bool (lessB p q)) ∧ Below w.heap.size w w' := by
  have hb0 : Below w.heap.size w ((w.alloc (.cells p.cells 28)).alloc (.cells q.cells 28)) := ((Below.refl _ _).alloc (Nat.le_refl _) _).alloc (by simp) _
  obtain ⟨w1, hw1⟩ : ∃ w1, w1 = ((w.alloc (.cells p.cells 28)).alloc (.cells q.cells 28)) := ⟨_, rfl⟩
  have a0 : w1.cell? ⟨w.heap.size, 0, none⟩ = some (.int .i64 p.ag) := by rw [hw1]; exact cell_alloc (cell_new rfl rfl) _
  have a1 : w1.cell? ⟨w.heap.size, 1, none⟩ = some (.int .i64 p.aa) := by rw [hw1]; exact cell_alloc (cell_new rfl rfl) _
  have a7 : w1.cell? ⟨w.heap.size, 7, none⟩ = some (.int .i64 p.birth) := by rw [hw1]; exact cell_alloc (cell_new rfl rfl) _
  have b0 : w1.cell? ⟨w.heap.size + 1, 0, none⟩ = some (.int .i64 q.ag) := by rw [hw1]; exact cell_new (by simp) rfl
  have b1 : w1.cell? ⟨w.heap.size + 1, 1, none⟩ = some (.int .i64 q.aa) := by rw [hw1]; exact cell_new (by simp) rfl
  have b7 : w1.cell? ⟨w.heap.size + 1, 7, none⟩ = some (.int .i64 q.birth) := by rw [hw1]; exact cell_new (by simp) rfl
  go_enter Try.func6, Try.ntmps6
  go_wp2_with fail
  rw [← hw1] at hb0 ⊢
  have HV : Hid (lessB p q = decide (orL [cmpInt p.birth q.birth, cmpInt p.ag q.ag, cmpInt p.aa q.aa] < 0)) := Lib.hid rfl
  have HC := Lib.hid fun (x y : Int) (W : World) => (compare_any x y W).mono (R' := fun e w' => e = .returned (.int .i64 (cmpInt x y)) ∧ w' = W) fun e w' h => ⟨h.1, h.2.symm⟩
  clear hw1
  generalize p.cells = pc at *
  generalize q.cells = qc at *
  refine wp_region_still_tail 19 (by kernel_rfl) (by kernel_rfl) ?_
  simp only [List.take_succ_cons, List.take_zero, List.drop_succ_cons, List.drop_zero]
  repeat still_step
  still_call (HC.out _ _ _)
  repeat still_step
  still_call (HC.out _ _ _)
  repeat still_step
  still_call (HC.out _ _ _)
  repeat still_step
  try refine wpStill_nil ?_
  change wpList _ _ _ _ _ w1.drew
  have hb1 : Below w.heap.size w w1.drew := hb0.drew
  clear a0 a1 a7 b0 b1 b7 hb0
  generalize w1.drew = w2 at *
  have HO := Lib.hid fun (t : TypeId) => or_any w2.heap.size 3 3 [cmpInt p.birth q.birth, cmpInt p.ag q.ag, cmpInt p.aa q.aa] _ rfl (by omega) (IntsAt.new w2 [cmpInt p.birth q.birth, cmpInt p.ag q.ag, cmpInt p.aa q.aa] t)
  generalize cmpInt p.birth q.birth = x at *
  generalize cmpInt p.ag q.ag = y at *
  generalize cmpInt p.aa q.aa = z at *
  go_wp2_with fail
  refine (HO.out _).mono ?_
  rintro e w3 ⟨rfl, k, rfl⟩
  go_wp2_with fail
  go_ret
  exact ⟨ret_bool HV.out.symm, below_drewN (hb1.alloc hb1.size _) _⟩

end Go.Proofs.Ytnagcmfecggllaa
