/-
  An argument that is a pointer, opened.
-/
import Derived.Test.YtidmbibpoldgcaaLawF
import Derived.Test.YtidmbibpoldgcaaPtr2
import Derived.Laws.IdiomArrays
namespace Go.Proofs.Ytidmbibpoldgcaa
open Go.ChangeShapes Go.WideShapes Go.ChangeAt Go.RowKit Go.Deep Go.Joins
set_option linter.unusedVariables false

section
variable {H : Type} {enc : TypeId × Value → H} {w : World} {base : Nat} {spare : Nat → Bool} {held : Bool}
theorem trod_place {n : Nat} {u v : Value} {x : DataW H × List MemPlace} (h : DataW.trod enc Try.prog w base spare held n 23 [u, v] = some x) : ∃ a b : Int, u = .int .i64 a ∧ v = .int .i64 b := by
  obtain ⟨xs, m, _, _, _, hlen, hg⟩ := DataW.trod_struct Try.underlying23 h
  match xs, hlen with
  | [y0, y1], _ =>
    have k : Try.prog.cellsOf 3 = 1 := by kernel_rfl
    have g0 : DataW.trod enc Try.prog w base spare held m 3 [u] = some y0 := by have t : DataW.trod enc Try.prog w base spare held m 3 (([u, v].drop 0).take (Try.prog.cellsOf 3)) = [y0, y1][0]? := hg 0 _ rfl; rw [k] at t; exact t
    have g1 : DataW.trod enc Try.prog w base spare held m 3 [v] = some y1 := by have t : DataW.trod enc Try.prog w base spare held m 3 (([u, v].drop 1).take (Try.prog.cellsOf 3)) = [y0, y1][1]? := hg 1 _ rfl; rw [k] at t; exact t
    obtain ⟨a, e0, _, _⟩ := DataW.trod_int Try.underlying3 g0
    obtain ⟨b, e1, _, _⟩ := DataW.trod_int Try.underlying3 g1
    simp at e0 e1
    exact ⟨a, b, e0, e1⟩

theorem open_ptrs {n : Nat} {cs : List Value} {x : DataW H × List MemPlace} (h : DataW.trod enc Try.prog w base spare held n 28 cs = some x) (hlen : cs.length = 12) :
    ∃ p : PtrD, cs = p.cells.toList ∧ p.Ok := by
  match cs, hlen with
  | [c0, c1, c2, c3, c4, c5, c6, c7, c8, c9, c10, c11], _ =>
    obtain ⟨xs, m, _, _, _, hl, hg⟩ := DataW.trod_struct Try.underlying28 h
    have kp : Try.prog.cellsOf 23 = 2 := by kernel_rfl
    have ki : Try.prog.cellsOf 3 = 1 := by kernel_rfl
    have kb : Try.prog.cellsOf 4 = 1 := by kernel_rfl
    have ks : Try.prog.cellsOf 26 = 4 := by kernel_rfl
    have ku : Try.prog.cellsOf 24 = 1 := by kernel_rfl
    match xs, hl with
    | [y0, y1, y2, y3, y4, y5, y6], _ =>
      have g0 : DataW.trod enc Try.prog w base spare held m 23 [c0, c1] = some y0 := by have t : DataW.trod enc Try.prog w base spare held m 23 (([c0, c1, c2, c3, c4, c5, c6, c7, c8, c9, c10, c11].drop 0).take (Try.prog.cellsOf 23)) = [y0, y1, y2, y3, y4, y5, y6][0]? := hg 0 _ rfl; rw [kp] at t; exact t
      have g1 : DataW.trod enc Try.prog w base spare held m 23 [c2, c3] = some y1 := by have t : DataW.trod enc Try.prog w base spare held m 23 (([c0, c1, c2, c3, c4, c5, c6, c7, c8, c9, c10, c11].drop 2).take (Try.prog.cellsOf 23)) = [y0, y1, y2, y3, y4, y5, y6][1]? := hg 1 _ rfl; rw [kp] at t; exact t
      have g2 : DataW.trod enc Try.prog w base spare held m 4 [c4] = some y2 := by have t : DataW.trod enc Try.prog w base spare held m 4 (([c0, c1, c2, c3, c4, c5, c6, c7, c8, c9, c10, c11].drop 4).take (Try.prog.cellsOf 4)) = [y0, y1, y2, y3, y4, y5, y6][2]? := hg 2 _ rfl; rw [kb] at t; exact t
      have g3 : DataW.trod enc Try.prog w base spare held m 3 [c5] = some y3 := by have t : DataW.trod enc Try.prog w base spare held m 3 (([c0, c1, c2, c3, c4, c5, c6, c7, c8, c9, c10, c11].drop 5).take (Try.prog.cellsOf 3)) = [y0, y1, y2, y3, y4, y5, y6][3]? := hg 3 _ rfl; rw [ki] at t; exact t
      have g4 : DataW.trod enc Try.prog w base spare held m 3 [c6] = some y4 := by have t : DataW.trod enc Try.prog w base spare held m 3 (([c0, c1, c2, c3, c4, c5, c6, c7, c8, c9, c10, c11].drop 6).take (Try.prog.cellsOf 3)) = [y0, y1, y2, y3, y4, y5, y6][4]? := hg 4 _ rfl; rw [ki] at t; exact t
      have g5 : DataW.trod enc Try.prog w base spare held m 3 [c7] = some y5 := by have t : DataW.trod enc Try.prog w base spare held m 3 (([c0, c1, c2, c3, c4, c5, c6, c7, c8, c9, c10, c11].drop 7).take (Try.prog.cellsOf 3)) = [y0, y1, y2, y3, y4, y5, y6][5]? := hg 5 _ rfl; rw [ki] at t; exact t
      have g6 : DataW.trod enc Try.prog w base spare held m 26 [c8, c9, c10, c11] = some y6 := by have t : DataW.trod enc Try.prog w base spare held m 26 (([c0, c1, c2, c3, c4, c5, c6, c7, c8, c9, c10, c11].drop 8).take (Try.prog.cellsOf 26)) = [y0, y1, y2, y3, y4, y5, y6][6]? := hg 6 _ rfl; rw [ks] at t; exact t
      obtain ⟨ag, aa, rfl, rfl⟩ := trod_place g0
      obtain ⟨bg, ba, rfl, rfl⟩ := trod_place g1
      obtain ⟨two, e2, _⟩ := DataW.trod_bool Try.underlying4 g2
      obtain ⟨size, e3, _, w3⟩ := DataW.trod_int Try.underlying3 g3
      obtain ⟨level, e4, _, w4⟩ := DataW.trod_int Try.underlying3 g4
      obtain ⟨birth, e5, _, w5⟩ := DataW.trod_int Try.underlying3 g5
      obtain ⟨z0, z1, z2, z3, q, _, t0, t1, t2, t3⟩ := trod_array4 Try.underlying26 ku g6
      obtain ⟨s0, f0, _, v0⟩ := DataW.trod_int Try.underlying24 t0
      obtain ⟨s1, f1, _, v1⟩ := DataW.trod_int Try.underlying24 t1
      obtain ⟨s2, f2, _, v2⟩ := DataW.trod_int Try.underlying24 t2
      obtain ⟨s3, f3, _, v3⟩ := DataW.trod_int Try.underlying24 t3
      simp at e2 e3 e4 e5 f0 f1 f2 f3
      subst e2 e3 e4 e5 f0 f1 f2 f3
      have b0 := u64_bd v0
      have b1 := u64_bd v1
      have b2 := u64_bd v2
      have b3 := u64_bd v3
      obtain ⟨n0, rfl⟩ := Int.eq_ofNat_of_zero_le b0.1
      obtain ⟨n1, rfl⟩ := Int.eq_ofNat_of_zero_le b1.1
      obtain ⟨n2, rfl⟩ := Int.eq_ofNat_of_zero_le b2.1
      obtain ⟨n3, rfl⟩ := Int.eq_ofNat_of_zero_le b3.1
      have b4 := i64_bd w3
      have b5 := i64_bd w4
      have b6 := i64_bd w5
      exact ⟨⟨ag, aa, bg, ba, two, size, level, birth, n0, n1, n2, n3⟩, rfl, by unfold PtrD.Ok; dsimp only; omega⟩

set_option maxRecDepth 100000 in
theorem open_ptr {b0 : Nat} {v : Value} {d : DataW H} {p : List MemPlace} (hv : Value.okWide Try.prog w .any b0 28 v) (h : DataW.Trod enc Try.prog w base spare held 28 v d p) :
    ∃ x : PtrD, v = .agg x.cells ∧ x.Ok := by
  obtain ⟨cs, rfl, hsz⟩ := okWide_struct Try.underlying28 hv
  have hk : Try.prog.cellsOf 28 = 12 := by kernel_rfl
  obtain ⟨fuel, hf⟩ := h
  obtain ⟨x, hx, hok⟩ := open_ptrs (cs := cs.toList) hf (by rw [Array.length_toList, hsz, hk])
  refine ⟨x, ?_, hok⟩
  congr 1
  rw [← Array.toList_inj]; exact hx
end
end Go.Proofs.Ytidmbibpoldgcaa
