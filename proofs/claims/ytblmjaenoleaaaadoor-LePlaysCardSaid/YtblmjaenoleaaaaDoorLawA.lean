/-
  An argument that is a slice of acts, opened.
-/
import Derived.Test.YtblmjaenoleaaaaDoorLawF
import Derived.Test.YtblmjaenoleaaaaDoorLePlaysW
namespace Go.Proofs.YtblmjaenoleaaaaDoor
open Go.ChangeShapes Go.WideShapes Go.ChangeAt Go.RowKit Go.Deep Go.Joins
set_option linter.unusedVariables false

theorem u8_bd {n : Int} (h : (Lit.int .u8 n).wf = true) : 0 ≤ n ∧ n ≤ 255 := by
  simpa [Lit.wf, IntKind.min, IntKind.max, IntKind.signed, IntKind.bits] using h

theorem open_acts {H : Type} {enc : TypeId × Value → H} {w : World} {base b0 : Nat} {spare : Nat → Bool} {held : Bool} {v : Value} {d : DataW H} {p : List MemPlace} (hv : Value.okWide Tryd.prog w .any b0 34 v)
    (h : DataW.Trod enc Tryd.prog w base spare held 34 v d p) : ∃ (A : Option Addr) (n c : Nat) (L : List (Nat × Int)), v = .slice A n c ∧ ActsAt w A n L := by
  obtain ⟨a0, len0, cap0, rfl⟩ := okWide_slice Tryd.underlying34 hv
  obtain ⟨fuel, hf⟩ := h
  rcases open_slice_fields Tryd.underlying34 Tryd.underlying37 (by kernel_rfl) (by kernel_rfl) hf with ⟨hcs, _⟩ | ⟨a, len, cap, mm, D, Pl, hcs, hba, hl, hm, hmm, hx, hi⟩
  · simp [Value.cells] at hcs
    obtain ⟨rfl, rfl, rfl⟩ := hcs
    exact ⟨none, 0, 0, [], rfl, rfl, by omega, (fun x h => by cases h), fun h => absurd h (by omega)⟩
  · simp [Value.cells] at hcs
    obtain ⟨rfl, rfl, rfl⟩ := hcs
    have hlm : len0 ≤ mm := by rw [hmm]; split <;> omega
    have key : ∀ i, i < len0 → ∃ x : Nat × Int, w.cell? (a.add (i * 2)) = some (.int .u8 x.1) ∧ w.cell? (a.add (i * 2 + 1)) = some (.int .i64 x.2) ∧ x.1 ≤ 255 ∧ -9223372036854775808 ≤ x.2 ∧ x.2 ≤ 9223372036854775807 := by
      intro i hil
      obtain ⟨ys, n', _, _, _, hf⟩ := hi i (by omega)
      obtain ⟨v0, z0, hc0, _, ht0⟩ := hf 0 _ rfl
      obtain ⟨v1, z1, hc1, _, ht1⟩ := hf 1 _ rfl
      obtain ⟨n0, e0, _, w0⟩ := DataW.trod_int Tryd.underlying5 ht0
      obtain ⟨n1, e1, _, w1⟩ := DataW.trod_int Tryd.underlying3 ht1
      simp at e0 e1
      subst e0 e1
      have b0 := u8_bd w0
      obtain ⟨k, rfl⟩ := Int.eq_ofNat_of_zero_le b0.1
      exact ⟨(k, n1), hc0, hc1, by have := b0.2; omega, i64_bd w1⟩
    have hch : ∃ f : Nat → Nat × Int, ∀ i, i < len0 → w.cell? (a.add (i * 2)) = some (.int .u8 (f i).1) ∧ w.cell? (a.add (i * 2 + 1)) = some (.int .i64 (f i).2) ∧ (f i).1 ≤ 255 ∧ -9223372036854775808 ≤ (f i).2 ∧ (f i).2 ≤ 9223372036854775807 := by
      refine ⟨fun i => if h : i < len0 then Classical.choose (key i h) else (0, 0), fun i hi => ?_⟩
      simp only [hi, dif_pos]
      exact Classical.choose_spec (key i hi)
    obtain ⟨f, hf⟩ := hch
    refine ⟨some a, len0, cap0, (List.range len0).map f, rfl, by simp, by unfold maxLen at hm; omega, fun x hx => ?_, fun hn => ?_⟩
    · rw [List.mem_map] at hx
      obtain ⟨i, hi, rfl⟩ := hx
      exact (hf i (by simpa using hi)).2.2
    · have h0 := (hf 0 hn).1
      rw [Nat.zero_mul] at h0
      obtain ⟨b, off, rfl, hbl⟩ := slice_spot h0
      refine ⟨b, off, rfl, hbl, fun i x hx => ?_⟩
      have hil : i < len0 := by
        have := (List.getElem?_eq_some_iff.1 hx).1
        simpa using this
      have hx' : x = f i := by simpa [hil] using hx.symm
      subst hx'
      have := hf i hil
      rw [WideShapes.add_plain, WideShapes.add_plain] at this
      exact ⟨this.1, this.2.1⟩
end Go.Proofs.YtblmjaenoleaaaaDoor
