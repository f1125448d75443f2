/-
  == on places, sums and pointers.
-/
import Derived.Test.YtidmbibpoldgcaaPtr2
namespace Go.Proofs.Ytidmbibpoldgcaa
open Go.RowKit
set_option linter.unusedVariables false

theorem Try.stoodPlace : Try.prog.stoodInHeld 23 = false := by kernel_rfl
theorem Try.stoodPtr : Try.prog.stoodInHeld 28 = false := by kernel_rfl

theorem eqIn_place (w : World) (d : Nat) (a b c e : Int) : (Op.equalIn (d + 2) 23 (.agg #[.int .i64 a, .int .i64 b]) (.agg #[.int .i64 c, .int .i64 e])).run Try.prog w = .ok (a == c && b == e) w := by
  rw [run_equalIn_struct w (d + 1) _ _ _ (by kernel_rfl) Try.stoodPlace]
  simp [go_sem, Try.underlying23]
  by_cases h1 : a = c <;> by_cases h2 : b = e <;> simp [h1, h2]

theorem eqIn_sum (w : World) (d : Nat) (a0 a1 a2 a3 b0 b1 b2 b3 : Nat) : (Op.equalIn (d + 2) 26 (.agg #[.int .u64 a0, .int .u64 a1, .int .u64 a2, .int .u64 a3]) (.agg #[.int .u64 b0, .int .u64 b1, .int .u64 b2, .int .u64 b3])).run Try.prog w =
    .ok ((a0 : Int) == b0 && ((a1 : Int) == b1 && ((a2 : Int) == b2 && (a3 : Int) == b3))) w := by
  rw [Op.equalIn]
  simp only [Sem.run_bind, run_underlying Try.underlying26, Result.andThen_ok]
  simp [go_sem, Try.sizeOf24, Std.Legacy.Range.forIn_eq_forIn_range', Std.Legacy.Range.size, List.range']
  repeat' split
  all_goals (congr 1; simp_all)

def ptrEq (p q : PtrD) : Bool := decide (p = q)
theorem eql_ptr (p q : PtrD) (w : World) : (binOp .eql 28 (.agg p.cells) (.agg q.cells)).run Try.prog w = .ok (.bool (ptrEq p q)) w := by
  obtain ⟨a1, a2, a3, a4, a5, a6, a7, a8, a9, aa, ab, ac⟩ := p
  obtain ⟨b1, b2, b3, b4, b5, b6, b7, b8, b9, ba, bb, bc⟩ := q
  rw [run_eql_struct, run_equalIn_struct w 9999 _ _ _ (by kernel_rfl) Try.stoodPtr]
  simp [go_sem, Try.underlying28, eqIn_place, eqIn_sum, PtrD.cells, ptrEq]
  repeat' split
  all_goals (congr 2; try simp_all)
  all_goals grind
theorem neq_ptr (p q : PtrD) (w : World) : (binOp .neq 28 (.agg p.cells) (.agg q.cells)).run Try.prog w = .ok (.bool (!ptrEq p q)) w := by
  obtain ⟨a1, a2, a3, a4, a5, a6, a7, a8, a9, aa, ab, ac⟩ := p
  obtain ⟨b1, b2, b3, b4, b5, b6, b7, b8, b9, ba, bb, bc⟩ := q
  rw [run_neq_struct, run_equalIn_struct w 9999 _ _ _ (by kernel_rfl) Try.stoodPtr]
  simp [go_sem, Try.underlying28, eqIn_place, eqIn_sum, PtrD.cells, ptrEq]
  repeat' split
  all_goals (congr 2; try simp_all)
  all_goals grind
theorem eql_place (a b c e : Int) (w : World) : (binOp .eql 23 (.agg #[.int .i64 a, .int .i64 b]) (.agg #[.int .i64 c, .int .i64 e])).run Try.prog w = .ok (.bool (a == c && b == e)) w := by
  rw [run_eql_struct, run_equalIn_struct w 9999 _ _ _ (by kernel_rfl) Try.stoodPlace]
  simp [go_sem, Try.underlying23]
  by_cases h1 : a = c <;> by_cases h2 : b = e <;> simp [h1, h2]
end Go.Proofs.Ytidmbibpoldgcaa
