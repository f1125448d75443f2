/-
  An argument that is a geometry, opened.
-/
import Derived.Test.YtkmmehhddagijaaLawF
import Derived.Test.YtkmmehhddagijaaGeom
namespace Go.Proofs.Ytkmmehhddagijaa
open Go.ChangeShapes Go.WideShapes Go.ChangeAt Go.RowKit Go.Deep Go.Joins
set_option linter.unusedVariables false

section
variable {H : Type} {enc : TypeId × Value → H} {w : World} {base : Nat} {spare : Nat → Bool} {held : Bool}
set_option maxRecDepth 100000 in
theorem open_geom {b0 : Nat} {v : Value} {d : DataW H} {p : List MemPlace} (hv : Value.okWide Try.prog w .any b0 41 v) (h : DataW.Trod enc Try.prog w base spare held 41 v d p) (hlt : ∀ q ∈ p, q.block < w.heap.size) :
    ∃ (A : Option Addr) (n c : Nat) (gs : List (Int × Int)) (secs : Int), v = .agg #[.slice A n c, .int .i64 secs] ∧ GeoAt w A n gs ∧ -9223372036854775808 ≤ secs ∧ secs ≤ 9223372036854775807 := by
  obtain ⟨c0, c1, y0, y1, m, rfl, rfl, rfl, hy0, hy1⟩ := open_agg2 Try.underlying41 (by kernel_rfl) (by kernel_rfl) hv h
  obtain ⟨secs, e1, rfl, ws⟩ := DataW.trod_int Try.underlying3 hy1
  simp at e1
  subst e1
  obtain ⟨hs1, hs2⟩ := i64_bd ws
  rcases open_slice_fields Try.underlying39 Try.underlying61 (by kernel_rfl) (by kernel_rfl) hy0 with ⟨hcs, _⟩ | ⟨a, len, cap, mm, D, Pl, hcs, hba, hl, hm, hmm, hx, hi⟩
  · simp at hcs
    subst hcs
    exact ⟨none, 0, 0, [], secs, rfl, ⟨rfl, by omega, fun h => absurd h (by omega)⟩, hs1, hs2⟩
  · simp at hcs
    subst hcs
    have hlm : len ≤ mm := by rw [hmm]; split <;> omega
    have key : ∀ i, i < len → ∃ x : Int × Int, w.cell? (a.add (i * 2)) = some (.int .i64 x.1) ∧ w.cell? (a.add (i * 2 + 1)) = some (.int .i64 x.2) := by
      intro i hil
      obtain ⟨ys, n', _, _, _, hf⟩ := hi i (by omega)
      obtain ⟨v0, z0, hc0, _, ht0⟩ := hf 0 _ rfl
      obtain ⟨v1, z1, hc1, _, ht1⟩ := hf 1 _ rfl
      obtain ⟨n0, e0, _, _⟩ := DataW.trod_int Try.underlying3 ht0
      obtain ⟨n1, e1, _, _⟩ := DataW.trod_int Try.underlying3 ht1
      simp at e0 e1
      subst e0 e1
      exact ⟨(n0, n1), hc0, hc1⟩
    have hch : ∃ f : Nat → Int × Int, ∀ i, i < len → w.cell? (a.add (i * 2)) = some (.int .i64 (f i).1) ∧ w.cell? (a.add (i * 2 + 1)) = some (.int .i64 (f i).2) := by
      refine ⟨fun i => if h : i < len then Classical.choose (key i h) else (0, 0), fun i hi => ?_⟩
      simp only [hi, dif_pos]
      exact Classical.choose_spec (key i hi)
    obtain ⟨f, hf⟩ := hch
    refine ⟨some a, len, cap, (List.range len).map f, secs, rfl, ⟨by simp, by unfold maxLen at hm; omega, fun hn => ?_⟩, hs1, hs2⟩
    obtain ⟨b, off, spot⟩ := a
    have h0 := (hf 0 hn).1
    have hspot : spot = none := by simpa [Addr.add] using World.cell?_spot (by simpa [Addr.add] using h0)
    subst hspot
    refine ⟨b, off, rfl, World.block_lt_of_cell? w _ (by simpa [Addr.add] using h0 : w.cell? ⟨b, off, none⟩ = _), fun i x hx => ?_⟩
    have hil : i < len := by
      have := (List.getElem?_eq_some_iff.1 hx).1
      simpa using this
    have hx' : x = f i := by simpa [hil] using hx.symm
    subst hx'
    have := hf i hil
    rw [WideShapes.add_plain, WideShapes.add_plain] at this
    exact this
end
end Go.Proofs.Ytkmmehhddagijaa
