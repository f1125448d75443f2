/-
  The walk of LeBack.
-/
import Derived.Test.YtblmjaenoleaaaaDoorLeR3
import Derived.Test.YtblmjaenoleaaaaDoorLeLaws4
import Derived.Test.YtblmjaenoleaaaaDoorCls
namespace Go.Proofs.YtblmjaenoleaaaaDoor
open Go.RowKit
set_option linter.unusedVariables false

theorem drop_app {a b : List UInt8} {k : Nat} (h : a.length = k) : (a ++ b).drop k = b := by rw [← h, List.drop_left]
theorem take_app {a b : List UInt8} {k : Nat} (h : a.length = k) : (a ++ b).take k = a := by rw [← h, List.take_left]

/-- What a laid number is read as. -/
theorem rdN_lay (pre : List UInt8) (x n p : Nat) (post : List UInt8) (hp : pre.length = p) (hx : x < 256 ^ n) :
    rdN (pre ++ (layL x n ++ post)) p n = x ∧ nbErr (pre ++ (layL x n ++ post)) p n = 0 ∧ nbPos (pre ++ (layL x n ++ post)) p n = p + n := by
  have hl : ¬ (((pre ++ (layL x n ++ post)).length : Int) - p < n) := by
    rw [List.length_append, List.length_append, layL_len]; omega
  unfold rdN nbErr nbPos
  rw [if_neg hl, if_neg hl, if_neg hl, drop_app hp, take_app (layL_len x n), leNat_layL, Nat.mod_eq_of_lt hx]
  exact ⟨rfl, rfl, rfl⟩
theorem inN_lay (pre : List UInt8) (x p : Nat) (post : List UInt8) (hp : pre.length = p) (hx : x < 4611686018427387904) :
    inVal (pre ++ (layL x 8 ++ post)) p = x ∧ inErr (pre ++ (layL x 8 ++ post)) p = 0 ∧ inPos (pre ++ (layL x 8 ++ post)) p = p + 8 := by
  obtain ⟨h1, h2, h3⟩ := rdN_lay pre x 8 p post hp (by omega)
  have hl : ¬ (((pre ++ (layL x 8 ++ post)).length : Int) - p < 8) := by
    rw [List.length_append, List.length_append, layL_len]; omega
  have e : inErr (pre ++ (layL x 8 ++ post)) p = 0 := by
    unfold inErr
    rw [if_neg hl, drop_app hp, take_app (layL_len x 8), leNat_layL, Nat.mod_eq_of_lt (by omega), if_neg (by omega)]
  unfold inVal inPos
  rw [e, if_pos rfl, if_pos rfl]
  exact ⟨h1, rfl, rfl⟩
theorem tk_rest (pre post : List UInt8) (p : Nat) (hp : pre.length = p) (hl : (pre ++ post).length ≤ 1000000) :
    tkErr (pre ++ post) p post.length = 0 ∧ tkStr (pre ++ post) p post.length = post ∧ tkPos (pre ++ post) p post.length = (pre ++ post).length := by
  have e : tkErr (pre ++ post) p post.length = 0 := by
    unfold tkErr
    rw [if_neg (by omega), if_neg (by rw [List.length_append]; omega)]
  unfold tkStr tkPos
  rw [e, if_pos rfl, if_pos rfl, drop_app hp]
  refine ⟨rfl, ?_, ?_⟩
  · rw [Int.toNat_natCast, List.take_length]
  · rw [Int.toNat_natCast, List.length_append, hp]

theorem i64_and32 (n : Int) : bits .and .i64 n 4294967295 = n % 4294967296 := by
  have h : (BitVec.ofInt 64 4294967295).toNat = 2 ^ 32 - 1 := by decide
  have key : (BitVec.ofInt 64 n &&& BitVec.ofInt 64 4294967295).toNat = (n % ((2 ^ 64 : Nat) : Int)).toNat % 2 ^ 32 := by
    rw [BitVec.toNat_and, BitVec.toNat_ofInt, h, Nat.and_two_pow_sub_one_eq_mod]
  show IntKind.i64.wrap ((BitVec.ofInt 64 n &&& BitVec.ofInt 64 4294967295).toNat : Nat) = n % 4294967296
  rw [key, IntKind.wrap_i64]
  · omega
  all_goals omega
theorem i64_and62 (n : Int) : bits .and .i64 n 4611686018427387903 = n % 4611686018427387904 := by
  have h : (BitVec.ofInt 64 4611686018427387903).toNat = 2 ^ 62 - 1 := by decide
  have key : (BitVec.ofInt 64 n &&& BitVec.ofInt 64 4611686018427387903).toNat = (n % ((2 ^ 64 : Nat) : Int)).toNat % 2 ^ 62 := by
    rw [BitVec.toNat_and, BitVec.toNat_ofInt, h, Nat.and_two_pow_sub_one_eq_mod]
  show IntKind.i64.wrap ((BitVec.ofInt 64 n &&& BitVec.ofInt 64 4611686018427387903).toNat : Nat) = n % 4611686018427387904
  rw [key, IntKind.wrap_i64]
  · omega
  all_goals omega

set_option maxRecDepth 100000 in
set_option maxHeartbeats 2000000 in
theorem backLaw_any (n : Int) (x : Nat) (m : Int) (l : List UInt8) (w : World) (hn1 : -9223372036854775808 ≤ n) (hn2 : n ≤ 9223372036854775807) (hx : x < 18446744073709551616)
    (hm1 : -9223372036854775808 ≤ m) (hm2 : m ≤ 9223372036854775807) (hl : l.length ≤ 9223372036854775807) :
    Calls Tryd.prog 5 #[.int .i64 n, .int .u64 x, .int .i64 m, str l] w fun e w' => e = .returned (.bool true) ∧ Below w.heap.size w w' := by
  have HX := Lib.hid hx
  by_cases hlong : 3000 < l.length
  · clear hx
    go_enter Tryd.func5, Tryd.ntmps5
    go_wp2_with fail
    refine (awake_any _).mono ?_
    rintro e w1 ⟨rfl, hb1⟩
    go_wp2_with fail
    refine (awake_any _).mono ?_
    rintro e w2 ⟨rfl, hb2⟩
    go_wp2_with fail
    go_ret
    exact ⟨rfl, hb1.trans (hb2.mono hb1.size)⟩
  · clear hx
    go_enter Tryd.func5, Tryd.ntmps5
    go_wp2_with fail
    refine (awake_any _).mono ?_
    rintro e w1 ⟨rfl, hb1⟩
    go_wp2_with fail
    rw [i64_and32, i64_and62]
    obtain ⟨a, ha⟩ := Int.eq_ofNat_of_zero_le (show 0 ≤ n % 4294967296 by omega)
    obtain ⟨d, hd⟩ := Int.eq_ofNat_of_zero_le (show 0 ≤ m % 4611686018427387904 by omega)
    rw [ha, hd]
    have ha2 : a < 4294967296 := by omega
    have hd2 : d < 4611686018427387904 := by omega
    have hu : u32L (a : Int) = layL a 4 := by unfold u32L; rw [if_pos ⟨by omega, by omega⟩, Int.toNat_natCast]
    have hi : intL (d : Int) = layL d 8 := by unfold intL; rw [if_pos ⟨by omega, by omega⟩, Int.toNat_natCast]
    have HU := Lib.hid (u32_any (a : Int) · )
    have HI := Lib.hid (int_any (d : Int) · )
    rw [hu] at HU
    rw [hi] at HI
    clear ha hd hu hi hn1 hn2 hm1 hm2
    obtain ⟨A, hA⟩ : ∃ A, A = layL a 4 := ⟨_, rfl⟩
    obtain ⟨B, hB⟩ : ∃ B, B = layL x 8 := ⟨_, rfl⟩
    obtain ⟨D, hD⟩ : ∃ D, D = layL d 8 := ⟨_, rfl⟩
    have lA : A.length = 4 := by rw [hA, layL_len]
    have lB : B.length = 8 := by rw [hB, layL_len]
    have lD : D.length = 8 := by rw [hD, layL_len]
    have r1 := rdN_lay [] a 4 0 (B ++ (D ++ l)) rfl (by omega)
    have r2 := rdN_lay A x 8 4 (D ++ l) lA (by have := HX.out; omega)
    have r3 := inN_lay (A ++ B) d 12 l (by rw [List.length_append, lA, lB]) hd2
    have r4 := tk_rest (A ++ B ++ D) l 20 (by rw [List.length_append, List.length_append, lA, lB, lD]) (by rw [List.length_append, List.length_append, List.length_append, lA, lB, lD]; omega)
    rw [← hA, List.nil_append] at r1
    rw [← hB] at r2
    rw [← hD, List.append_assoc] at r3
    rw [List.append_assoc, List.append_assoc] at r4
    rw [← hA] at HU
    rw [← hD] at HI
    have HW := Lib.hid fun W => u64_any x W HX.out
    rw [← hB] at HW
    obtain ⟨T, hT⟩ : ∃ T, T = A ++ (B ++ (D ++ l)) := ⟨_, rfl⟩
    have lT : T.length = 20 + l.length := by rw [hT, List.length_append, List.length_append, List.length_append, lA, lB, lD]; omega
    rw [← hT] at r1 r2 r3 r4
    have HT := Lib.hid hT
    have R1 := Lib.hid r1
    have R2 := Lib.hid r2
    have R3 := Lib.hid r3
    have R4 := Lib.hid r4
    have hlA : A.length ≤ 100 := by omega
    have hlB : B.length ≤ 100 := by omega
    have hlD : D.length ≤ 100 := by omega
    have hTl : T.length ≤ 4000 := by omega
    have HTL := Lib.hid lT
    clear hA hB hD hT r1 r2 r3 r4 lA lB lD lT
    refine (HU.out _).mono ?_
    rintro e w2 ⟨rfl, hb2⟩
    have hc2 := hb1.trans (hb2.mono hb1.size)
    go_wp2_with fail
    refine (HW.out _).mono ?_
    rintro e w3 ⟨rfl, hb3⟩
    have hc3 := hc2.trans (hb3.mono hc2.size)
    go_wp2_with fail
    refine (HI.out _).mono ?_
    rintro e w4 ⟨rfl, hb4⟩
    have hc4 := hc3.trans (hb4.mono hc3.size)
    clear hb1 hb2 hb3 hb4 hc2 hc3
    go_wp2_with fail
    rw [ByteArray.mk_append_mk, ByteArray.mk_append_mk, ByteArray.mk_append_mk, List.append_assoc, List.append_assoc, ← HT.out]
    refine (new_any T _ (by omega)).mono ?_
    rintro e w5 ⟨rfl, hR, hb5⟩
    have hB1 := hc4.size
    have hc5 := hc4.trans (hb5.mono hc4.size)
    generalize w4.heap.size = P at *
    have HR := Lib.hid hR
    clear hR hb5 hc4
    go_wp2_with fail
    refine (rU32_any P 0 T _ HR.out).mono ?_
    rintro e w6 ⟨rfl, hR6, hG6⟩
    rw [R1.out.1, R1.out.2.1]
    rw [R1.out.2.2] at hR6
    have HR6 := Lib.hid hR6
    have hc6 := Below.only hc5 hG6 hB1
    clear hR6 hG6 hc5
    go_wp2_with fail
    refine (rU64_any P 4 T _ HR6.out).mono ?_
    rintro e w7 ⟨rfl, hR7, hG7⟩
    rw [R2.out.1, R2.out.2.1]
    rw [R2.out.2.2] at hR7
    have HR7 := Lib.hid hR7
    have hc7 := Below.only hc6 hG7 hB1
    clear hR7 hG7 hc6
    go_wp2_with fail
    refine (rInt_any P 12 T _ HR7.out).mono ?_
    rintro e w8 ⟨rfl, hR8, hG8⟩
    rw [R3.out.1, R3.out.2.1]
    rw [R3.out.2.2] at hR8
    have HR8 := Lib.hid hR8
    have hc8 := Below.only hc7 hG8 hB1
    clear hR8 hG8 hc7
    go_wp2_with fail
    refine (take_any P 20 T l.length _ HR8.out (by omega)).mono ?_
    rintro e w9 ⟨rfl, hR9, hG9⟩
    rw [R4.out.1, R4.out.2.1]
    rw [R4.out.2.2] at hR9
    have HR9 := Lib.hid hR9
    have hc9 := Below.only hc8 hG9 hB1
    clear hR9 hG9 hc8
    have hself : Hid (allZ (T.drop T.length) = true) := by unfold Hid; rw [List.drop_length]; rfl
    go_wp2_with fail
    refine (left_any P _ T _ HR9.out).mono ?_
    rintro e wa ⟨rfl, ka, rfl⟩
    go_wp2_with fail
    refine (rZeros_any P _ T _ (HR9.out.drewN ka)).mono ?_
    rintro e wb ⟨rfl, kb, rfl⟩
    rw [hself.out]
    go_wp2_with fail
    go_ret
    exact ⟨rfl, below_drewN hc9 _⟩
end Go.Proofs.YtblmjaenoleaaaaDoor
