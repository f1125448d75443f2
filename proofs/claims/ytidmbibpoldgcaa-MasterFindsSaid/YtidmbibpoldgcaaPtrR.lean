/-
  Contracts of fletch.Read and ptr.Read.
-/
import Derived.Test.YtidmbibpoldgcaaPtrRP
import Derived.Test.YtidmbibpoldgcaaBlk
namespace Go.Proofs.Ytidmbibpoldgcaa
set_option linter.unusedVariables false
set_option linter.unusedSimpArgs false
open Go.RowKit

theorem nb_in {l : List UInt8} {p n : Nat} (h : p + n ≤ l.length) : nbErr l p n = 0 ∧ nbPos l p n = p + n := by
  unfold nbErr nbPos; rw [if_neg (by omega), if_neg (by omega)]; exact ⟨rfl, rfl⟩
def sumC (l : List UInt8) (p k : Nat) : Array Value := ((List.range 4).map fun i => if i < k then Value.int .u64 (subN l (p + 8 * i) 8 : Nat) else .int .u64 0).toArray
theorem sumC_put (l : List UInt8) (p : Nat) : ∀ k, k < 4 → (sumC l p k).setIfInBounds k (.int .u64 (subN l (p + 8 * k) 8 : Nat)) = sumC l p (k + 1)
  | 0, _ => rfl
  | 1, _ => rfl
  | 2, _ => rfl
  | 3, _ => rfl
theorem sumC_at (l : List UInt8) (p : Nat) : ∀ k j, k < 4 → ∃ v, (sumC l p j)[k]? = some v := by
  intro k j hk
  exact ⟨_, Array.getElem?_eq_getElem (by simp [sumC]; exact hk)⟩

theorem i64_and255 (n : Int) : bits .and .i64 n 255 = n % 256 := by
  have h : (BitVec.ofInt 64 255).toNat = 2 ^ 8 - 1 := by decide
  have key : (BitVec.ofInt 64 n &&& BitVec.ofInt 64 255).toNat = (n % ((2 ^ 64 : Nat) : Int)).toNat % 2 ^ 8 := by
    rw [BitVec.toNat_and, BitVec.toNat_ofInt, h, Nat.and_two_pow_sub_one_eq_mod]
  show IntKind.i64.wrap ((BitVec.ofInt 64 n &&& BitVec.ofInt 64 255).toNat : Nat) = n % 256
  rw [key, IntKind.wrap_i64]
  · omega
  all_goals omega
def intC (l : List UInt8) (k : Nat) : Array Value := ((List.range 6).map fun i => if i < k then Value.int .i64 (subN l (4 * i) 4 : Nat) else .int .i64 0).toArray
theorem intC_put (l : List UInt8) : ∀ k, k < 6 → (intC l k).setIfInBounds k (.int .i64 (subN l (4 * k) 4 : Nat)) = intC l (k + 1)
  | 0, _ => rfl
  | 1, _ => rfl
  | 2, _ => rfl
  | 3, _ => rfl
  | 4, _ => rfl
  | 5, _ => rfl
theorem intC_at (l : List UInt8) : ∀ k j, k < 6 → ∃ v, (intC l j)[k]? = some v := by
  intro k j hk
  exact ⟨_, Array.getElem?_eq_getElem (by simp [intC]; exact hk)⟩

end Go.Proofs.Ytidmbibpoldgcaa
