/-
  The walk of LeUnlike.
-/
import Derived.Test.YtidmbibpoldgcaaLeLaws
namespace Go.Proofs.Ytidmbibpoldgcaa
open Go.RowKit
set_option linter.unusedVariables false

theorem layL_mod (x y : Nat) : ∀ n, layL x n = layL y n → x % 256 ^ n = y % 256 ^ n
  | 0, _ => by simp [Nat.mod_one]
  | n + 1, h => by
    rw [layL_succ, layL_succ] at h
    obtain ⟨h1, h2⟩ := List.append_inj h (by rw [layL_len, layL_len])
    have h3 := layL_mod x y n h1
    simp only [List.cons.injEq, and_true] at h2
    have h4 : (UInt8.ofNat (x / 256 ^ n)).toNat = (UInt8.ofNat (y / 256 ^ n)).toNat := by rw [h2]
    rw [UInt8.toNat_ofNat', UInt8.toNat_ofNat'] at h4
    have h5 : x / 256 ^ n % 256 = y / 256 ^ n % 256 := h4
    rw [Nat.mod_pow_succ, Nat.mod_pow_succ, h3, h5]
theorem layL_inj {x y n : Nat} (hx : x < 256 ^ n) (hy : y < 256 ^ n) (h : layL x n = layL y n) : x = y := by
  have := layL_mod x y n h
  rwa [Nat.mod_eq_of_lt hx, Nat.mod_eq_of_lt hy] at this
theorem layL_ne {x n : Nat} (h : 0 < n) : layL x n ≠ [] := by
  intro e
  have := layL_len x n
  rw [e] at this
  simp at this; omega
theorem u32L_eq {n m : Int} (h1 : u32L n ≠ []) (h2 : u32L m ≠ []) : u32L n = u32L m ↔ n = m := by
  unfold u32L at *
  split at h1
  · next h =>
    split at h2
    · next h' =>
      rw [if_pos h, if_pos h']
      constructor
      · intro e
        have := layL_inj (n := 4) (by omega) (by omega) e
        omega
      · rintro rfl; rfl
    · exact absurd rfl h2
  · exact absurd rfl h1
theorem intL_eq {n m : Int} (h1 : intL n ≠ []) (h2 : intL m ≠ []) : intL n = intL m ↔ n = m := by
  unfold intL at *
  split at h1
  · next h =>
    split at h2
    · next h' =>
      rw [if_pos h, if_pos h']
      constructor
      · intro e
        have := layL_inj (n := 8) (by omega) (by omega) e
        omega
      · rintro rfl; rfl
    · exact absurd rfl h2
  · exact absurd rfl h1

end Go.Proofs.Ytidmbibpoldgcaa
