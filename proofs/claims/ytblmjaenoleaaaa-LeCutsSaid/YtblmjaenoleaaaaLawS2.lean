/-
  An argument that is a slice of bytes, opened.
-/
import Derived.Test.YtblmjaenoleaaaaLawS
import Derived.Test.YtblmjaenoleaaaaLeLaws5
namespace Go.Proofs.Ytblmjaenoleaaaa
open Go.ChangeShapes Go.WideShapes Go.ChangeAt Go.RowKit Go.ChangeMaps
set_option linter.unusedVariables false

theorem open_u8s {H : Type} {enc : TypeId × Value → H} {w : World} {base b0 : Nat} {held : Bool} {v : Value} {d : DataW H} {p : List MemPlace} (hv : Value.okWide Try.prog w .any b0 33 v)
    (h : DataW.Trod enc Try.prog w base (fun _ => true) held 33 v d p) (hlt : ∀ q ∈ p, q.block < w.heap.size) :
    ∃ (A : Option Addr) (n c : Nat) (zs : List Int), v = .slice A n c ∧ BsAt w A n zs ∧ n ≤ 9223372036854775807 := by
  obtain ⟨a0, len, cap, rfl⟩ := okWide_slice Try.underlying33 hv
  obtain ⟨fuel, hf⟩ := h
  rcases open_ints Try.underlying33 Try.underlying5 (by kernel_rfl) hf with ⟨hcs, hx⟩ | ⟨a, len', cap', zs, hcs, _, hl, hm, hz, hx, hcell, hwz⟩
  · simp [Value.cells] at hcs
    obtain ⟨rfl, rfl, rfl⟩ := hcs
    exact ⟨none, 0, 0, [], rfl, ⟨Nat.le_refl _, fun h => absurd h (by omega)⟩, by omega⟩
  · simp [Value.cells] at hcs
    obtain ⟨rfl, rfl, rfl⟩ := hcs
    simp only [if_true] at hz
    unfold maxLen at hm
    refine ⟨some a, len, cap, zs, rfl, ⟨by omega, fun hn => ?_⟩, by omega⟩
    obtain ⟨b, off, spot⟩ := a
    have h0 := hcell 0 (by omega)
    have hspot : spot = none := by simpa [Addr.add] using World.cell?_spot (by simpa [Addr.add] using h0)
    subst hspot
    refine ⟨b, off, rfl, World.block_lt_of_cell? w _ (by simpa [Addr.add] using h0 : w.cell? ⟨b, off, none⟩ = _), fun j hj => ?_⟩
    have h1 := hcell j (by omega)
    rw [WideShapes.add_plain] at h1
    have hm2 : zs.getD j 0 ∈ zs := by
      rw [List.getD_eq_getElem?_getD, List.getElem?_eq_getElem (by omega : j < zs.length)]
      exact List.getElem_mem _
    have hb : 0 ≤ zs.getD j 0 ∧ zs.getD j 0 ≤ 255 := by
      have := hwz _ hm2
      simpa [Lit.wf, IntKind.min, IntKind.max, IntKind.signed, IntKind.bits] using this
    exact ⟨h1, hb.1, hb.2⟩
end Go.Proofs.Ytblmjaenoleaaaa
