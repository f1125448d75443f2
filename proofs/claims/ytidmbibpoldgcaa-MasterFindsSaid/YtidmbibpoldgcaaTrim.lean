/-
  strings.Trim at the one byte zero: what is left is empty just if all bytes are zero.
-/
import Derived.Test.YtidmbibpoldgcaaLe
namespace Go.Proofs.Ytidmbibpoldgcaa
open Go.RowKit
set_option linter.unusedVariables false

def tLen : Value → Nat
  | .string b => b.size
  | _ => 0
theorem ex_drop1 (l : List UInt8) (h : 0 < l.length) : (ByteArray.mk l.toArray).extract 1 l.length = ⟨(l.drop 1).toArray⟩ := by
  apply ByteArray.ext
  rw [ByteArray.data_extract]
  simp [List.take_of_length_le]
theorem ex_take1 (l : List UInt8) (m : Nat) (h : m ≤ l.length) : (ByteArray.mk l.toArray).extract 0 m = ⟨(l.take m).toArray⟩ := by
  apply ByteArray.ext
  rw [ByteArray.data_extract]
  simp [List.extract_eq_take_drop]

theorem right_ex (c : UInt8) (l : List UInt8) : ∀ n, n ≤ l.length → ∃ k, k ≤ n ∧ (∀ j, k ≤ j → j < n → l[j]? = some c) ∧ ∀ x, 0 < k → l[k - 1]? = some x → x ≠ c
  | 0, _ => ⟨0, Nat.le_refl _, fun j _ h => absurd h (by omega), fun x h => absurd h (by omega)⟩
  | n + 1, hn => by
    by_cases h : l[n]? = some c
    · obtain ⟨k, h1, h2, h3⟩ := right_ex c l n (by omega)
      refine ⟨k, by omega, fun j hj hj2 => ?_, h3⟩
      rcases Nat.lt_or_ge j n with h4 | h4
      · exact h2 j hj h4
      · obtain rfl : j = n := by omega
        exact h
    · exact ⟨n + 1, Nat.le_refl _, fun j h1 h2 => absurd h1 (by omega), fun x _ hx e => h (by rw [← e]; exact hx)⟩
theorem left_ex (c : UInt8) : ∀ l : List UInt8, ∃ k, k ≤ l.length ∧ (∀ j, j < k → l[j]? = some c) ∧ ∀ x, l[k]? = some x → x ≠ c
  | [] => ⟨0, Nat.le_refl _, fun j h => absurd h (by omega), fun x h => by simp at h⟩
  | x :: r => by
    by_cases h : x = c
    · obtain ⟨k, h1, h2, h3⟩ := left_ex c r
      refine ⟨k + 1, by simp; omega, fun j hj => ?_, fun y hy => h3 y (by simpa using hy)⟩
      match j, hj with
      | 0, _ => simp [h]
      | j + 1, hj => simpa using h2 j (by omega)
    · exact ⟨0, Nat.zero_le _, fun j h => absurd h (by omega), fun y hy => by simp at hy; rw [← hy]; exact h⟩

end Go.Proofs.Ytidmbibpoldgcaa
