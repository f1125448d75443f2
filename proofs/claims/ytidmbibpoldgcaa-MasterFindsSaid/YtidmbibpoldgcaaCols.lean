/-
  Contracts of package cols: the columns of a block.
-/
import Derived.Test.YtidmbibpoldgcaaGeom2
namespace Go.Proofs.Ytidmbibpoldgcaa
open Go.RowKit
set_option linter.unusedVariables false

def cMay (gs : List (Int × Int)) (secs pg pa size : Int) : Bool := decide (0 < gTakes gs secs pg size) && (decide (0 ≤ pa) && decide (pa ≤ gSectors gs secs pg - gTakes gs secs pg size))

theorem gTakes_bd (gs : List (Int × Int)) (secs g size : Int) : 0 ≤ gTakes gs secs g size ∧ gTakes gs secs g size ≤ 8 := by
  unfold gTakes
  split
  · next h =>
    simp only [Bool.and_eq_true, decide_eq_true_eq] at h
    obtain ⟨⟨h1, h2⟩, h3⟩ := h
    obtain ⟨k, x, rfl, _, _, _, _, _, hgx, ho⟩ := gHas_true h1
    rw [hgx]
    obtain ⟨kd, wd⟩ := x
    unfold gTake1
    rcases gOne_true ho with ⟨e, hw1, hw2⟩ | ⟨e, hw1, hw2⟩
    · simp only at e; subst e; simp; omega
    · simp only at e hw1 hw2; subst e
      have := par_rows h2 h3 hw1 hw2
      simp; omega
  · omega
theorem gSectors_bd (gs : List (Int × Int)) (secs g : Int) : 0 ≤ gSectors gs secs g ∧ gSectors gs secs g ≤ 32768 := by
  unfold gSectors
  split
  · next h =>
    obtain ⟨k, x, rfl, _, _, _, _, _, hgx, ho⟩ := gHas_true h
    rw [hgx]
    obtain ⟨kd, wd⟩ := x
    rcases gOne_true ho with ⟨e, hw1, hw2⟩ | ⟨e, hw1, hw2⟩
    · simp only at e; subst e; simp; omega
    · simp only at e hw1 hw2; subst e
      have := mul_bd (a := secs - 16) (b := wd) (by omega) (by omega) (by omega) hw2
      simpa using this
  · omega

end Go.Proofs.Ytidmbibpoldgcaa
