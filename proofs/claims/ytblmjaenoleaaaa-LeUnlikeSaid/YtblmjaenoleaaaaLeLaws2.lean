/-
  The walk of LeUnlike.
-/
import Derived.Test.YtblmjaenoleaaaaLeLaws
namespace Go.Proofs.Ytblmjaenoleaaaa
open Go.RowKit
set_option linter.unusedVariables false

theorem layL_mod (x y : Nat) : ∀ n, layL x n = layL y n → x % 256 ^ n = y % 256 ^ n
  | 0, _ => by simp [Nat.mod_one]
  | n + 1, h => by
    rw [layL_succ, layL_succ] at h
    obtain ⟨h1, h2⟩ := List.append_inj h (by rw [layL_len, layL_len])
    have h3 := layL_mod x y n h1
    simp only [List.cons.injEq, and_true] at h2
    have h4 : (UInt8.ofNat (x / 256 ^ n)).toNat = (UInt8.ofNat (y / 256 ^ n)).toNat := by rw [h2]
    rw [UInt8.toNat_ofNat', UInt8.toNat_ofNat'] at h4
    have h5 : x / 256 ^ n % 256 = y / 256 ^ n % 256 := h4
    rw [Nat.mod_pow_succ, Nat.mod_pow_succ, h3, h5]
theorem layL_inj {x y n : Nat} (hx : x < 256 ^ n) (hy : y < 256 ^ n) (h : layL x n = layL y n) : x = y := by
  have := layL_mod x y n h
  rwa [Nat.mod_eq_of_lt hx, Nat.mod_eq_of_lt hy] at this
theorem layL_ne {x n : Nat} (h : 0 < n) : layL x n ≠ [] := by
  intro e
  have := layL_len x n
  rw [e] at this
  simp at this; omega
theorem u32L_eq {n m : Int} (h1 : u32L n ≠ []) (h2 : u32L m ≠ []) : u32L n = u32L m ↔ n = m := by
  unfold u32L at *
  split at h1
  · next h =>
    split at h2
    · next h' =>
      rw [if_pos h, if_pos h']
      constructor
      · intro e
        have := layL_inj (n := 4) (by omega) (by omega) e
        omega
      · rintro rfl; rfl
    · exact absurd rfl h2
  · exact absurd rfl h1
theorem intL_eq {n m : Int} (h1 : intL n ≠ []) (h2 : intL m ≠ []) : intL n = intL m ↔ n = m := by
  unfold intL at *
  split at h1
  · next h =>
    split at h2
    · next h' =>
      rw [if_pos h, if_pos h']
      constructor
      · intro e
        have := layL_inj (n := 8) (by omega) (by omega) e
        omega
      · rintro rfl; rfl
    · exact absurd rfl h2
  · exact absurd rfl h1

theorem unlike_any (x y : Nat) (n m : Int) (w : World) (hx : x < 18446744073709551616) (hy : y < 18446744073709551616) :
    Calls Try.prog 4 #[.int .u64 x, .int .u64 y, .int .i64 n, .int .i64 m] w fun e w' => e = .returned (.bool true) ∧ Below w.heap.size w w' := by
  have hx' := Lib.hid hx
  have hy' := Lib.hid hy
  have hl : (layL x 8).length = 8 := layL_len x 8
  have hxy : (layL x 8 == layL y 8) = ((x : Int) == y) := by
    rw [Bool.eq_iff_iff, beq_iff_eq, beq_iff_eq]
    refine ⟨fun h => ?_, fun h => ?_⟩
    · have := layL_inj (n := 8) (by omega) (by omega) h
      omega
    · have : x = y := by omega
      rw [this]
  clear hx hy
  go_enter Try.func4, Try.ntmps4
  go_wp2_with fail
  refine (awake_any _).mono ?_
  rintro e w1 ⟨rfl, hb1⟩
  go_wp2_with fail
  refine (u64_any x _ hx'.out).mono ?_
  rintro e w2 ⟨rfl, hb2⟩
  have hc2 := hb1.trans (hb2.mono hb1.size)
  clear hb1 hb2
  go_wp2_with fail
  refine (u64_any y _ hy'.out).mono ?_
  rintro e w3 ⟨rfl, hb3⟩
  have hc3 := hc2.trans (hb3.mono hc2.size)
  clear hc2 hb3
  go_wp2_with fail
  refine (u64_any x _ hx'.out).mono ?_
  rintro e w4 ⟨rfl, hb4⟩
  have hc4 := hc3.trans (hb4.mono hc3.size)
  clear hc3 hb4
  go_wp2_with fail
  refine (u32_any n _).mono ?_
  rintro e w5 ⟨rfl, hb5⟩
  have hc5 := hc4.trans (hb5.mono hc4.size)
  clear hc4 hb5
  go_wp2_with fail
  refine (u32_any m _).mono ?_
  rintro e w6 ⟨rfl, hb6⟩
  have hc6 := hc5.trans (hb6.mono hc5.size)
  clear hc5 hb6
  go_wp2_with fail
  refine (int_any n _).mono ?_
  rintro e w7 ⟨rfl, hb7⟩
  have hc7 := hc6.trans (hb7.mono hc6.size)
  clear hc6 hb7
  go_wp2_with fail
  refine (int_any m _).mono ?_
  rintro e w8 ⟨rfl, hb8⟩
  have hc8 := hc7.trans (hb8.mono hc7.size)
  clear hc7 hb8 hxy hl
  have E1 : Hid (¬ u32L n = [] → ¬ u32L m = [] → (u32L n == u32L m) = (n == m)) := fun h1 h2 => by
    rw [Bool.eq_iff_iff, beq_iff_eq, beq_iff_eq]; exact u32L_eq h1 h2
  have E2 : Hid (¬ intL n = [] → ¬ intL m = [] → (intL n == intL m) = (n == m)) := fun h1 h2 => by
    rw [Bool.eq_iff_iff, beq_iff_eq, beq_iff_eq]; exact intL_eq h1 h2
  generalize u32L n = p at *
  generalize u32L m = q at *
  generalize intL n = r at *
  generalize intL m = t at *
  go_wp2_with fail
  all_goals first
    | (exfalso; exact ‹¬ (p == q) = (n == m)› (E1.out ‹¬ p = []› ‹¬ q = []›))
    | (go_ret; refine ⟨ret_bool ?_, hc8⟩; first | rfl | (have hq := E2.out ‹¬ r = []› ‹¬ t = []›; simp [hq]))
end Go.Proofs.Ytblmjaenoleaaaa
