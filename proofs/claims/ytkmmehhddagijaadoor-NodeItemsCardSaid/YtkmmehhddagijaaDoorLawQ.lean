/-
  Arguments that are four pointers, or a node, opened.
-/
import Derived.Test.YtkmmehhddagijaaDoorLawP
namespace Go.Proofs.YtkmmehhddagijaaDoor
set_option linter.unusedVariables false
set_option linter.unusedSimpArgs false
open Go.ChangeShapes Go.WideShapes Go.ChangeAt Go.RowKit Go.Deep Go.Joins

/-- Four pointers' cells. -/
def ptrs4 (p q r s : PtrD) : Array Value := #[.int .i64 p.ag, .int .i64 p.aa, .int .i64 p.bg, .int .i64 p.ba, .bool p.two, .int .i64 p.size, .int .i64 p.level, .int .i64 p.birth, .int .u64 p.s0, .int .u64 p.s1, .int .u64 p.s2, .int .u64 p.s3, .int .i64 q.ag, .int .i64 q.aa, .int .i64 q.bg, .int .i64 q.ba, .bool q.two, .int .i64 q.size, .int .i64 q.level, .int .i64 q.birth, .int .u64 q.s0, .int .u64 q.s1, .int .u64 q.s2, .int .u64 q.s3, .int .i64 r.ag, .int .i64 r.aa, .int .i64 r.bg, .int .i64 r.ba, .bool r.two, .int .i64 r.size, .int .i64 r.level, .int .i64 r.birth, .int .u64 r.s0, .int .u64 r.s1, .int .u64 r.s2, .int .u64 r.s3, .int .i64 s.ag, .int .i64 s.aa, .int .i64 s.bg, .int .i64 s.ba, .bool s.two, .int .i64 s.size, .int .i64 s.level, .int .i64 s.birth, .int .u64 s.s0, .int .u64 s.s1, .int .u64 s.s2, .int .u64 s.s3]
section
variable {H : Type} {enc : TypeId × Value → H} {w : World} {base : Nat} {spare : Nat → Bool} {held : Bool}
theorem okWide_array {P : Program} {r : Reach} {b0 n : Nat} {t e : TypeId} {v : Value} (ht : P.underlying t = some (.array n e)) (h : Value.okWide P w r b0 t v) : ∃ cs, v = .agg cs ∧ cs.size = P.cellsOf t := by
  simp only [Value.okWide, ht] at h
  obtain ⟨cs, h1, h2, _⟩ := h
  exact ⟨cs, h1, h2⟩

set_option maxRecDepth 100000 in
theorem open_ptr4 {b0 : Nat} {v : Value} {d : DataW H} {p : List MemPlace} (hv : Value.okWide Tryd.prog w .any b0 37 v) (h : DataW.Trod enc Tryd.prog w base spare held 37 v d p) :
    ∃ p q r s : PtrD, v = .agg (ptrs4 p q r s) ∧ p.Ok ∧ q.Ok ∧ r.Ok ∧ s.Ok := by
  obtain ⟨cs, rfl, hsz⟩ := okWide_array Tryd.underlying37 hv
  have hk : Tryd.prog.cellsOf 37 = 48 := by kernel_rfl
  have hk2 : Tryd.prog.cellsOf 36 = 12 := by kernel_rfl
  obtain ⟨fuel, hf⟩ := h
  obtain ⟨xs, m, _, _, hlen, hx, hg⟩ := DataW.trod_array Tryd.underlying37 hf
  have hl : cs.toList.length = 48 := by rw [Array.length_toList, hsz, hk]
  have key : ∀ i, i < 4 → ∃ p : PtrD, ((cs.toList.drop (i * 12)).take 12) = p.cells.toList ∧ p.Ok := by
    intro i hi
    have h1 := hg i hi
    rw [hk2] at h1
    have h2 : xs[i]? = some (xs[i]'(by omega)) := List.getElem?_eq_getElem (by omega)
    rw [h2] at h1
    exact open_ptrs (cs := (cs.toList.drop (i * 12)).take 12) h1 (by rw [List.length_take, List.length_drop]; omega)
  obtain ⟨p, e0, o0⟩ := key 0 (by omega)
  obtain ⟨q, e1, o1⟩ := key 1 (by omega)
  obtain ⟨r, e2, o2⟩ := key 2 (by omega)
  obtain ⟨s, e3, o3⟩ := key 3 (by omega)
  refine ⟨p, q, r, s, ?_, o0, o1, o2, o3⟩
  have hall : cs.toList = p.cells.toList ++ (q.cells.toList ++ (r.cells.toList ++ s.cells.toList)) := by
    rw [← e0, ← e1, ← e2, ← e3]
    have a3 : (cs.toList.drop (3 * 12)).take 12 = cs.toList.drop 36 := List.take_of_length_le (by rw [List.length_drop]; omega)
    have a2 : (cs.toList.drop (2 * 12)).take 12 ++ cs.toList.drop 36 = cs.toList.drop 24 := by
      have := List.take_append_drop 12 (cs.toList.drop 24)
      rwa [List.drop_drop] at this
    have a1 : (cs.toList.drop (1 * 12)).take 12 ++ cs.toList.drop 24 = cs.toList.drop 12 := by
      have := List.take_append_drop 12 (cs.toList.drop 12)
      rwa [List.drop_drop] at this
    have a0 : (cs.toList.drop (0 * 12)).take 12 ++ cs.toList.drop 12 = cs.toList := List.take_append_drop 12 cs.toList
    rw [a3, a2, a1, a0]
  have hh : cs = (p.cells.toList ++ (q.cells.toList ++ (r.cells.toList ++ s.cells.toList))).toArray := by rw [← hall]
  rw [hh]
  rfl

set_option maxRecDepth 100000 in
theorem open_node {b0 : Nat} {v : Value} {d : DataW H} {p : List MemPlace} (hv : Value.okWide Tryd.prog w .any b0 50 v) (h : DataW.Trod enc Tryd.prog w base spare held 50 v d p) :
    ∃ (n : Int) (p : PtrD), v = .agg #[.int .i64 n, .int .i64 p.ag, .int .i64 p.aa, .int .i64 p.bg, .int .i64 p.ba, .bool p.two, .int .i64 p.size, .int .i64 p.level, .int .i64 p.birth, .int .u64 p.s0, .int .u64 p.s1, .int .u64 p.s2, .int .u64 p.s3] ∧ -9223372036854775808 ≤ n ∧ n ≤ 9223372036854775807 ∧ p.Ok := by
  obtain ⟨cs, rfl, hsz⟩ := okWide_struct Tryd.underlying50 hv
  have hk : Tryd.prog.cellsOf 50 = 13 := by kernel_rfl
  have hk1 : Tryd.prog.cellsOf 3 = 1 := by kernel_rfl
  have hk2 : Tryd.prog.cellsOf 36 = 12 := by kernel_rfl
  obtain ⟨fuel, hf⟩ := h
  have hl : cs.toList.length = 13 := by rw [Array.length_toList, hsz, hk]
  obtain ⟨xs, m, _, _, _, hlen, hg⟩ := DataW.trod_struct Tryd.underlying50 hf
  match xs, hlen with
  | [y0, y1], _ =>
    have t0 : DataW.trod enc Tryd.prog w base spare held m 3 ((cs.toList.drop 0).take (Tryd.prog.cellsOf 3)) = [y0, y1][0]? := hg 0 _ rfl
    have t1 : DataW.trod enc Tryd.prog w base spare held m 36 ((cs.toList.drop 1).take (Tryd.prog.cellsOf 36)) = [y0, y1][1]? := hg 1 _ rfl
    rw [hk1] at t0
    rw [hk2] at t1
    obtain ⟨x, e1, o1⟩ := open_ptrs (cs := (cs.toList.drop 1).take 12) t1 (by rw [List.length_take, List.length_drop]; omega)
    obtain ⟨n, e0, _, wn⟩ := DataW.trod_int Tryd.underlying3 t0
    have bn := i64_bd wn
    refine ⟨n, x, ?_, bn.1, bn.2, o1⟩
    have hall : cs.toList = .int .i64 n :: x.cells.toList := by
      have a1 : (cs.toList.drop 1).take 12 = cs.toList.drop 1 := List.take_of_length_le (by rw [List.length_drop]; omega)
      rw [← e1, a1]
      have := List.take_append_drop 1 cs.toList
      rw [show cs.toList.take 1 = [.int .i64 n] from e0] at this
      exact this.symm
    have hh : cs = (.int .i64 n :: x.cells.toList).toArray := by rw [← hall]
    rw [hh]
    rfl
end
end Go.Proofs.YtkmmehhddagijaaDoor
