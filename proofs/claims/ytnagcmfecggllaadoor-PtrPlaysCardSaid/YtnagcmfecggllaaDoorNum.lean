/-
  The reference's number of digits.
-/
import Derived.Test.YtnagcmfecggllaaDoorLeR3
namespace Go.Proofs.YtnagcmfecggllaaDoor
set_option linter.unusedVariables false
set_option linter.unusedSimpArgs false
open Go.RowKit

theorem numRef_any (m : List UInt8) (w : World) (hm : m.length ≤ 8) :
    Calls Tryd.prog 27 #[str m] w fun e w' => e = .returned (.int .u64 (leNat m : Nat)) ∧ w = w' := by
  have H0 : Hid (leNat (m.drop m.length) = 0) := by unfold Hid; rw [List.drop_length]; rfl
  go_enter Tryd.func27, Tryd.ntmps27
  go_wp2
  go_loop [3, 4] (fun x t => ∃ k : Nat, k ≤ m.length ∧ t = .int .i64 ((k : Int) - 1) ∧ x = .int .u64 (leNat (m.drop k) : Nat)) (fun _ t => (intOf t + 1).toNat)
  case atStart => exact ⟨m.length, Nat.le_refl _, rfl, by rw [H0.out]; rfl⟩
  case round =>
    obtain ⟨k, hk, rfl, rfl⟩ := hrel
    by_cases h0 : 0 < k
    · have hd : m.drop (k - 1) = m[k - 1] :: m.drop k := by
        have := List.drop_eq_getElem_cons (show k - 1 < m.length by omega)
        rw [show k - 1 + 1 = k by omega] at this
        exact this
      have hb := leNat_lt (m.drop (k - 1))
      have hp := pow256_le (show (m.drop (k - 1)).length ≤ 8 by rw [List.length_drop]; omega)
      have hb2 : leNat (m.drop (k - 1)) < 18446744073709551616 := Nat.lt_of_lt_of_le hb (Nat.le_trans hp (by decide))
      rw [hd, leNat] at hb2
      have HV : Hid (leNat (m.drop (k - 1)) = (m[k - 1]'(by omega)).toNat + 256 * leNat (m.drop k)) := by unfold Hid; rw [hd, leNat]
      have hx0 := (m[k - 1]'(by omega)).toNat_lt
      have hi0 : (0 : Int) ≤ (k : Int) - 1 := by omega
      have hi1 : (k : Int) - 1 < m.length := by omega
      have ht : ((k : Int) - 1).toNat = k - 1 := by omega
      clear hb hp hd
      generalize leNat (m.drop k) = v at *
      go_wp2_with fail
      go_round
      case rel =>
        refine ⟨k - 1, by omega, ?_, ?_⟩
        · congr 1; omega
        · have e1 : IntKind.u64.wrap (((ByteArray.mk m.toArray)[k - 1]'(by rw [ba_size]; omega)).toNat : Int) = ((m[k - 1]'(by omega)).toNat : Int) := by rw [ba_get]; exact IntWalk.u64_in _ (by omega)
          rw [HV.out, e1, IntWalk.u64_in _ (by omega)]; congr 1; omega
      case measure => simp [intOf]; omega
    · obtain rfl : k = 0 := by omega
      go_wp2_with fail
      go_ret
      exact ⟨rfl, rfl⟩
end Go.Proofs.YtnagcmfecggllaaDoor
