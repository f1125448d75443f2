/-
  What the law ColsData needs to know of the data columns.
-/
import Derived.Test.YthkeibeelncgkaaData3
import Derived.Test.YthkeibeelncgkaaCols7
namespace Go.Proofs.Ythkeibeelncgkaa
open Go.RowKit
set_option linter.unusedVariables false

theorem mir_mem {first at_ : Int} {size d i : Nat} {x : Col} (h : x ∈ mirTo first at_ size d i) (hi : i ≤ size) : x.2.2.1 = false ∧ 0 ≤ x.2.2.2 ∧ x.2.2.2 < size := by
  simp only [mirTo, List.mem_append, List.mem_flatMap, List.mem_map, List.mem_range] at h
  rcases h with ⟨_, _, t, ht, rfl⟩ | ⟨t, ht, rfl⟩ <;> simp [mcol] <;> omega

/-- Up to which columns the sectors below k have come. -/
def dataN (gs : List (Int × Int)) (secs pg pa size : Int) (k : Nat) : Nat :=
  if (grAt gs pg).1 == 0 then ((colsOf gs secs pg pa size).filter (fun x => decide (x.2.2.2 < (k : Int)))).length else k

theorem filter_split (L : List Col) (k : Int) (h : ∀ x ∈ L, 0 ≤ x.2.2.2) : (L.filter (fun x => decide (x.2.2.2 < k + 1))).length = (L.filter (fun x => decide (x.2.2.2 < k))).length + (L.filter (fun x => !(x.2.2.2 != k))).length := by
  induction L with
  | nil => rfl
  | cons y L ih =>
    have ih' := ih fun x hx => h x (List.mem_cons_of_mem _ hx)
    rcases Int.lt_trichotomy y.2.2.2 k with h1 | h1 | h1
    · have a1 : decide (y.2.2.2 < k + 1) = true := by simp; omega
      have a2 : decide (y.2.2.2 < k) = true := by simp; omega
      have a3 : (!(y.2.2.2 != k)) = false := by simp; omega
      simp [a1, a2, a3, ih']
      omega
    · have a1 : decide (y.2.2.2 < k + 1) = true := by simp; omega
      have a2 : decide (y.2.2.2 < k) = false := by simp; omega
      have a3 : (!(y.2.2.2 != k)) = true := by simp; omega
      simp [a1, a2, a3, ih']
      omega
    · have a1 : decide (y.2.2.2 < k + 1) = false := by simp; omega
      have a2 : decide (y.2.2.2 < k) = false := by simp; omega
      have a3 : (!(y.2.2.2 != k)) = false := by simp; omega
      simp [a1, a2, a3, ih']

theorem par_split (L : List Col) : (L.filter (fun x => x.2.2.1)).length + (L.filter (fun x => !x.2.2.1)).length = L.length := by
  induction L with
  | nil => rfl
  | cons y L ih => cases h : y.2.2.1 <;> simp [List.filter_cons, h] <;> omega

theorem data_pure {gs : List (Int × Int)} {secs pg pa size : Int} (h : cMay gs secs pg pa size = true) :
    dataN gs secs pg pa size 0 = 0 ∧
    (∀ i : Nat, (i : Int) < size → dataOk gs secs pg pa size i = true ∧ dataN gs secs pg pa size (i + 1) = dataN gs secs pg pa size i + (dataOf gs secs pg pa size i).length ∧ (dataOf gs secs pg pa size i).length ≤ 1000 ∧
      ∀ (k : Nat) (y : Col), (dataOf gs secs pg pa size i)[k]? = some y → y.2.2.1 = false ∧ ∃ j : Nat, (colsOf gs secs pg pa size)[j]? = some y) ∧
    dataN gs secs pg pa size size.toNat + ((colsOf gs secs pg pa size).filter (fun x => x.2.2.1)).length = (colsOf gs secs pg pa size).length := by
  obtain ⟨_, hlen⟩ := cols_bd h
  obtain ⟨hhas, hz1, hz2, hp1, hp2, _⟩ := cMay_true h
  obtain ⟨sz, rfl⟩ := Int.eq_ofNat_of_zero_le (show 0 ≤ size by omega)
  have hok : ∀ i : Nat, (i : Int) < sz → dataOk gs secs pg pa sz i = true := fun i hi => by simp [dataOk, h]; omega
  cases hk : ((grAt gs pg).1 == 0) with
  | true =>
    have hL : colsOf gs secs pg pa sz = mirror (gFirst gs secs pg) pa (grAt gs pg).2.toNat sz := by unfold colsOf; rw [hk]; rfl
    have hm : ∀ x ∈ colsOf gs secs pg pa sz, x.2.2.1 = false ∧ 0 ≤ x.2.2.2 ∧ x.2.2.2 < sz := fun x hx => by rw [hL] at hx; exact mir_mem hx (Nat.zero_le _)
    have hN : ∀ k, dataN gs secs pg pa sz k = ((colsOf gs secs pg pa sz).filter (fun x => decide (x.2.2.2 < (k : Int)))).length := fun k => by unfold dataN; rw [hk]; rfl
    refine ⟨?_, fun i hi => ⟨hok i hi, ?_, ?_, ?_⟩, ?_⟩
    · rw [hN, List.length_eq_zero_iff, List.filter_eq_nil_iff]
      intro x hx; have := (hm x hx).2.1; simp; omega
    · rw [hN, hN, dataOf, hok i hi, hk]
      rw [if_pos rfl, if_pos rfl]
      exact filter_split _ (i : Int) fun x hx => (hm x hx).2.1
    · rw [dataOf, hok i hi, hk]
      exact Nat.le_trans (List.length_filter_le _ _) hlen
    · intro k y hy
      rw [dataOf, hok i hi, hk, if_pos rfl, if_pos rfl] at hy
      have hmem := (List.mem_filter.1 (List.mem_of_getElem? hy)).1
      obtain ⟨j, hj⟩ := List.mem_iff_getElem?.1 hmem
      exact ⟨(hm y hmem).1, j, hj⟩
    · rw [hN, List.filter_eq_self.2 (fun x hx => by have := (hm x hx).2.2; simp; omega), List.filter_eq_nil_iff.2 (fun x hx => by simp [(hm x hx).1])]
      rfl
  | false =>
    have hL : colsOf gs secs pg pa sz = parTo (gFirst gs secs pg) (grAt gs pg).2 pa sz := by unfold colsOf; rw [hk]; rfl
    have hN : ∀ k, dataN gs secs pg pa sz k = k := fun k => by unfold dataN; rw [hk]; rfl
    have hc : ((colsOf gs secs pg pa sz).filter (fun x => !x.2.2.1)).length = sz := by rw [hL]; exact par_count _ _ _ _
    have hD : ∀ i : Nat, (i : Int) < sz → dataOf gs secs pg pa sz i = (((colsOf gs secs pg pa sz).filter (fun x => !x.2.2.1)).drop i).take 1 := fun i hi => by rw [dataOf, hok i hi, hk]; rfl
    refine ⟨hN 0, fun i hi => ⟨hok i hi, ?_, ?_, ?_⟩, ?_⟩
    · rw [hN, hN, hD i hi, List.length_take, List.length_drop, hc]; omega
    · rw [hD i hi, List.length_take]; omega
    · intro k y hy
      rw [hD i hi] at hy
      have hmem := List.mem_of_mem_drop (List.mem_of_mem_take (List.mem_of_getElem? hy))
      obtain ⟨hm1, hm2⟩ := List.mem_filter.1 hmem
      obtain ⟨j, hj⟩ := List.mem_iff_getElem?.1 hm1
      exact ⟨by simpa using hm2, j, hj⟩
    · rw [hN, Int.toNat_natCast]
      have := par_split (colsOf gs secs pg pa sz)
      omega
end Go.Proofs.Ythkeibeelncgkaa
