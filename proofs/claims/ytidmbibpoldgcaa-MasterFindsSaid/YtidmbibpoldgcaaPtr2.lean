/-
  Contracts of package ptr: None, Less, Places, Bytes.
-/
import Derived.Test.YtidmbibpoldgcaaPtr
import Derived.StillTailTactics
namespace Go.Proofs.Ytidmbibpoldgcaa
open Go.RowKit
set_option linter.unusedVariables false

/-- A pointer's numbers. -/
structure PtrD where
  ag : Int
  aa : Int
  bg : Int
  ba : Int
  two : Bool
  size : Int
  level : Int
  birth : Int
  s0 : Nat
  s1 : Nat
  s2 : Nat
  s3 : Nat
deriving DecidableEq

def PtrD.cells (p : PtrD) : Array Value := #[.int .i64 p.ag, .int .i64 p.aa, .int .i64 p.bg, .int .i64 p.ba, .bool p.two, .int .i64 p.size, .int .i64 p.level, .int .i64 p.birth, .int .u64 p.s0, .int .u64 p.s1, .int .u64 p.s2, .int .u64 p.s3]
def PtrD.Ok (p : PtrD) : Prop := p.s0 < 18446744073709551616 ∧ p.s1 < 18446744073709551616 ∧ p.s2 < 18446744073709551616 ∧ p.s3 < 18446744073709551616 ∧
  -9223372036854775808 ≤ p.size ∧ p.size ≤ 9223372036854775807 ∧ -9223372036854775808 ≤ p.level ∧ p.level ≤ 9223372036854775807 ∧ -9223372036854775808 ≤ p.birth ∧ p.birth ≤ 9223372036854775807

/-- p lies at block b from offset o on. -/
def PtrAt (w : World) (b o : Nat) (p : PtrD) : Prop :=
  w.cell? ⟨b, o, none⟩ = some (.int .i64 p.ag) ∧ w.cell? ⟨b, o + 1, none⟩ = some (.int .i64 p.aa) ∧ w.cell? ⟨b, o + 2, none⟩ = some (.int .i64 p.bg) ∧ w.cell? ⟨b, o + 3, none⟩ = some (.int .i64 p.ba) ∧
  w.cell? ⟨b, o + 4, none⟩ = some (.bool p.two) ∧ w.cell? ⟨b, o + 5, none⟩ = some (.int .i64 p.size) ∧ w.cell? ⟨b, o + 6, none⟩ = some (.int .i64 p.level) ∧ w.cell? ⟨b, o + 7, none⟩ = some (.int .i64 p.birth) ∧
  w.cell? ⟨b, o + 8, none⟩ = some (.int .u64 p.s0) ∧ w.cell? ⟨b, o + 9, none⟩ = some (.int .u64 p.s1) ∧ w.cell? ⟨b, o + 10, none⟩ = some (.int .u64 p.s2) ∧ w.cell? ⟨b, o + 11, none⟩ = some (.int .u64 p.s3)
theorem PtrAt.keep {w w' : World} {b o : Nat} {p : PtrD} (h : PtrAt w b o p) (hb : Below w.heap.size w w') (hlt : b < w.heap.size) : PtrAt w' b o p := by
  obtain ⟨h0, h1, h2, h3, h4, h5, h6, h7, h8, h9, ha, hc⟩ := h
  exact ⟨keep_cell hb h0 hlt, keep_cell hb h1 hlt, keep_cell hb h2 hlt, keep_cell hb h3 hlt, keep_cell hb h4 hlt, keep_cell hb h5 hlt, keep_cell hb h6 hlt, keep_cell hb h7 hlt, keep_cell hb h8 hlt, keep_cell hb h9 hlt, keep_cell hb ha hlt, keep_cell hb hc hlt⟩
theorem PtrAt.new (w : World) (p : PtrD) (t : TypeId) : PtrAt (w.alloc (.cells p.cells t)) w.heap.size 0 p :=
  ⟨cell_new rfl rfl, cell_new rfl rfl, cell_new rfl rfl, cell_new rfl rfl, cell_new rfl rfl, cell_new rfl rfl, cell_new rfl rfl, cell_new rfl rfl, cell_new rfl rfl, cell_new rfl rfl, cell_new rfl rfl, cell_new rfl rfl⟩

def lessB (p q : PtrD) : Bool := decide (orL [cmpInt p.birth q.birth, cmpInt p.ag q.ag, cmpInt p.aa q.aa] < 0)

end Go.Proofs.Ytidmbibpoldgcaa
