/-
  What the law ColsDevs needs to know of the devices.
-/
import Derived.Test.YthkeibeelncgkaaDevsP
import Derived.Test.YthkeibeelncgkaaCols7
import Derived.Test.YthkeibeelncgkaaRowsP
namespace Go.Proofs.Ythkeibeelncgkaa
open Go.RowKit
set_option linter.unusedVariables false

/-- Two rising lists of the same numbers are one. -/
theorem inc_eq : ∀ (l m : List Int), l.Pairwise (· < ·) → m.Pairwise (· < ·) → (∀ x, x ∈ l ↔ x ∈ m) → l = m
  | [], [], _, _, _ => rfl
  | [], b :: m, _, _, h => absurd ((h b).2 (by simp)) (by simp)
  | a :: l, [], _, _, h => absurd ((h a).1 (by simp)) (by simp)
  | a :: l, b :: m, h1, h2, h => by
    obtain ⟨h3, h4⟩ := List.pairwise_cons.1 h1
    obtain ⟨h5, h6⟩ := List.pairwise_cons.1 h2
    have e : a = b := by
      rcases List.mem_cons.1 ((h a).1 (by simp)) with e | e
      · exact e
      · rcases List.mem_cons.1 ((h b).2 (by simp)) with e' | e'
        · exact e'.symm
        · have := h5 a e; have := h3 b e'; omega
    subst e
    congr 1
    refine inc_eq l m h4 h6 fun x => ?_
    constructor
    · intro hx
      rcases List.mem_cons.1 ((h x).1 (List.mem_cons_of_mem _ hx)) with e | e
      · have := h3 x hx; omega
      · exact e
    · intro hx
      rcases List.mem_cons.1 ((h x).2 (List.mem_cons_of_mem _ hx)) with e | e
      · have := h5 x hx; omega
      · exact e

theorem ring_len : ∀ w ∈ List.range 9, ∀ a ∈ List.range w, ∀ n ∈ List.range 9, ((List.range w).filter (fun r => (List.range n).any fun k => (a + k) % w == r)).length = min w n := by decide +kernel

theorem pairwise_shift (F : Int) (l : List Nat) (h : l.Pairwise (· < ·)) : (l.map fun r : Nat => F + (r : Int)).Pairwise (· < ·) := by
  rw [List.pairwise_map]
  exact h.imp fun h => by omega

theorem devs_pure {gs : List (Int × Int)} {secs pg pa size : Int} (h : cMay gs secs pg pa size = true) :
    ∃ (kind s w : Nat), (grAt gs pg).1 = kind ∧ (grAt gs pg).2 = w ∧ size = s ∧ 1 ≤ w ∧ w ≤ 8 ∧ 1 ≤ s ∧ s ≤ 4 ∧ (kind = 0 ∨ kind = 1) ∧
      (∀ d ∈ devsL (colsOf gs secs pg pa size), gFirst gs secs pg ≤ d ∧ d < gFirst gs secs pg + w) ∧
      (kind = 0 → (devsL (colsOf gs secs pg pa size)).length = w ∧ (colsOf gs secs pg pa size).length = s * w) ∧
      (kind = 1 → (devsL (colsOf gs secs pg pa size)).length = min w (colsOf gs secs pg pa size).length ∧ s < (colsOf gs secs pg pa size).length ∧ ((colsOf gs secs pg pa size).length : Int) ≤ gTakes gs secs pg size) := by
  obtain ⟨hhas, hz1, hz2, hp1, hp2, _⟩ := cMay_true h
  obtain ⟨sz, rfl⟩ := Int.eq_ofNat_of_zero_le (show 0 ≤ size by omega)
  obtain ⟨g, x, rfl, hk, hl4, hs1, hs2, hx, hgx, ho⟩ := gHas_true hhas
  have hT := gTakes_true hhas hz1 hz2
  obtain ⟨kd, wd⟩ := x
  rw [hgx] at hT ⊢
  have ho' := gOne_true ho
  simp only at ho'
  obtain ⟨w, rfl⟩ := Int.eq_ofNat_of_zero_le (show 0 ≤ wd by omega)
  obtain ⟨hinc, hmem⟩ := devsL_spec (colsOf gs secs g pa sz)
  rcases ho' with ⟨rfl, h1, h2⟩ | ⟨rfl, h1, h2⟩
  · have hL : colsOf gs secs g pa sz = mirror (gFirst gs secs g) pa w sz := by unfold colsOf; rw [hgx]; rfl
    rw [hL] at hinc hmem ⊢
    have hlen : (mirror (gFirst gs secs g) pa w sz).length = w * sz := by rw [mirror, mirTo_len]; rfl
    have hm : ∀ d, d ∈ devsL (mirror (gFirst gs secs g) pa w sz) ↔ d ∈ (List.range w).map fun r : Nat => gFirst gs secs g + (r : Int) := fun d => by
      rw [hmem, List.mem_map]
      constructor
      · rintro ⟨c, hc, rfl⟩
        obtain ⟨k, hk⟩ := List.mem_iff_getElem?.1 hc
        obtain ⟨rfl, hd, _⟩ := mirror_get hk (by omega)
        exact ⟨k / sz, by simpa using hd, rfl⟩
      · rintro ⟨r, hr, rfl⟩
        have hr' : r < w := by simpa using hr
        have hkl : r * sz < (mirror (gFirst gs secs g) pa w sz).length := by rw [hlen]; exact Nat.mul_lt_mul_of_pos_right hr' (by omega)
        refine ⟨_, List.getElem_mem hkl, ?_⟩
        obtain ⟨e, _, _⟩ := mirror_get (List.getElem?_eq_getElem hkl) (by omega)
        rw [e]
        simp only [mcol]
        rw [Nat.mul_div_cancel _ (by omega)]
    have he := inc_eq _ _ hinc (pairwise_shift (gFirst gs secs g) _ List.pairwise_lt_range) hm
    refine ⟨0, sz, w, rfl, rfl, rfl, by omega, by omega, by omega, by omega, .inl rfl, fun d hd => ?_, fun _ => ⟨by rw [he]; simp, by rw [hlen, Nat.mul_comm]⟩, fun h => absurd h (by omega)⟩
    rw [hm, List.mem_map] at hd
    obtain ⟨r, hr, rfl⟩ := hd
    have hr' : r < w := by simpa using hr
    omega
  · have hL : colsOf gs secs g pa sz = parTo (gFirst gs secs g) w pa sz := by unfold colsOf; rw [hgx]; rfl
    rw [hL] at hinc hmem ⊢
    have hlen : (parTo (gFirst gs secs g) w pa sz).length = parCount w sz := parTo_count _ _ _ _
    obtain ⟨c1, c2⟩ := parCount_le (wide := (w : Int)) (k := sz) h1 h2 (by omega)
    have hpr := par_rows hz1 hz2 h1 h2
    have hl2 := parTo_len (gFirst gs secs g) w pa sz
    generalize hnn : (parTo (gFirst gs secs g) w pa sz).length = nn at *
    obtain ⟨a, ha⟩ := Int.eq_ofNat_of_zero_le (show 0 ≤ pa % (w : Int) from Int.emod_nonneg _ (by omega))
    have haw : a < w := by have := Int.emod_lt_of_pos pa (show (0 : Int) < w by omega); omega
    have hmod : ∀ k : Nat, (pa + (k : Int)) % (w : Int) = (((a + k) % w : Nat) : Int) := fun k => by
      rw [Int.natCast_emod, Int.natCast_add, ← ha, Int.emod_add_emod]
    have hm : ∀ d, d ∈ devsL (parTo (gFirst gs secs g) w pa sz) ↔ d ∈ ((List.range w).filter (fun r => (List.range nn).any fun k => (a + k) % w == r)).map fun r : Nat => gFirst gs secs g + (r : Int) := fun d => by
      rw [hmem, List.mem_map]
      constructor
      · rintro ⟨c, hc, rfl⟩
        obtain ⟨k, hk⟩ := List.mem_iff_getElem?.1 hc
        have hkn : k < nn := by rw [← hnn]; exact (List.getElem?_eq_some_iff.1 hk).1
        obtain ⟨p, r, e⟩ := parTo_get _ _ _ _ _ _ hk
        refine ⟨(a + k) % w, ?_, by rw [e]; simp only [pcol]; rw [hmod]⟩
        rw [List.mem_filter, List.mem_range, List.any_eq_true]
        exact ⟨Nat.mod_lt _ (by omega), k, by simpa using hkn, by simp⟩
      · rintro ⟨r, hr, rfl⟩
        rw [List.mem_filter, List.mem_range, List.any_eq_true] at hr
        obtain ⟨hr1, k, hk, hkr⟩ := hr
        have hkl : k < (parTo (gFirst gs secs g) w pa sz).length := by rw [hnn]; simpa using hk
        refine ⟨_, List.getElem_mem hkl, ?_⟩
        obtain ⟨p, r', e⟩ := parTo_get _ _ _ _ _ _ (List.getElem?_eq_getElem hkl)
        rw [e]
        simp only [pcol]
        rw [hmod, show (a + k) % w = r by simpa using hkr]
    have hpw : ((List.range w).filter (fun r => (List.range nn).any fun k => (a + k) % w == r)).Pairwise (· < ·) := List.Pairwise.filter _ List.pairwise_lt_range
    have he := inc_eq _ _ hinc (pairwise_shift (gFirst gs secs g) _ hpw) hm
    refine ⟨1, sz, w, rfl, rfl, rfl, by omega, by omega, by omega, by omega, .inr rfl, fun d hd => ?_, fun h => absurd h (by omega), fun _ => ⟨?_, ?_, ?_⟩⟩
    · rw [hm, List.mem_map] at hd
      obtain ⟨r, hr, rfl⟩ := hd
      have hr' : r < w := by simpa using (List.mem_filter.1 hr).1
      omega
    · rw [he, List.length_map]
      exact ring_len w (by simp; omega) a (by simpa using haw) nn (by simp; omega)
    · omega
    · rw [hT, hlen]; exact c1
end Go.Proofs.Ythkeibeelncgkaa
