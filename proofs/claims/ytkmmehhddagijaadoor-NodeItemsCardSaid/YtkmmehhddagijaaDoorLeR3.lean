/-
  More contracts of le's reader: numbers as what bytes come to; U32, Int, Zeros; the nil reader.
-/
import Derived.Test.YtkmmehhddagijaaDoorLeR
import Derived.Test.YtkmmehhddagijaaDoorTrim
import Derived.Laws.BitsAllLaws
namespace Go.Proofs.YtkmmehhddagijaaDoor
open Go.RowKit
set_option linter.unusedVariables false

/-- What bytes come to, the lowest first. -/
def leNat : List UInt8 → Nat
  | [] => 0
  | x :: r => x.toNat + 256 * leNat r
theorem leNat_snoc (l : List UInt8) (x : UInt8) : leNat (l ++ [x]) = leNat l + x.toNat * 256 ^ l.length := by
  induction l with
  | nil => simp [leNat]
  | cons y l ih =>
    simp only [List.cons_append, leNat, ih, List.length_cons, Nat.pow_succ, Nat.mul_add]
    rw [show x.toNat * (256 ^ l.length * 256) = 256 * (x.toNat * 256 ^ l.length) by rw [Nat.mul_comm (256 ^ l.length) 256, Nat.mul_left_comm]]
    omega
theorem leNat_lt (l : List UInt8) : leNat l < 256 ^ l.length := by
  induction l with
  | nil => simp [leNat]
  | cons x l ih =>
    have := x.toNat_lt
    simp only [leNat, List.length_cons, Nat.pow_succ]
    omega
theorem leNat_layL (x n : Nat) : leNat (layL x n) = x % 256 ^ n := by
  induction n with
  | zero => simp [layL, leNat, Nat.mod_one]
  | succ n ih =>
    have e : x % 256 ^ (n + 1) = x % 256 ^ n + 256 ^ n * (x / 256 ^ n % 256) := by rw [Nat.pow_succ, Nat.mod_mul]
    rw [layL_succ, leNat_snoc, ih, layL_len, UInt8.toNat_ofNat', e, Nat.mul_comm]
theorem pow256 (k : Nat) : (256 : Nat) ^ k = 2 ^ (8 * k) := by rw [Nat.pow_mul]
theorem pow256_le {k n : Nat} (h : k ≤ n) : (256 : Nat) ^ k ≤ 256 ^ n := Nat.pow_le_pow_right (by omega) h

theorem or_step (x b k : Nat) (hx : x < 256 ^ k) (hb : b < 256) (hk : k < 8) :
    bits .or .u64 (x : Int) (IntKind.u64.wrap (IntKind.u64.wrap (b : Int) * 2 ^ (8 * k))) = ((x + b * 256 ^ k : Nat) : Int) := by
  have h8 : (256 : Nat) ^ k * 256 ≤ 18446744073709551616 := by
    have := pow256_le (show k + 1 ≤ 8 by omega)
    rw [Nat.pow_succ] at this
    exact Nat.le_trans this (by decide)
  have hbk : b * 256 ^ k < 18446744073709551616 := by
    have : b * 256 ^ k < 256 * 256 ^ k := Nat.mul_lt_mul_of_pos_right hb (Nat.pow_pos (by omega))
    omega
  have w1 : IntKind.u64.wrap (b : Int) = b := IntWalk.u64_in _ (by omega)
  have w2 : ((b : Int) * 2 ^ (8 * k)) = ((b * 256 ^ k : Nat) : Int) := by rw [pow256]; push_cast; rfl
  have w3 : IntKind.u64.wrap ((b * 256 ^ k : Nat) : Int) = ((b * 256 ^ k : Nat) : Int) := IntWalk.u64_in _ (by omega)
  rw [w1, w2, w3, u64_or_nat _ _ (by omega) hbk]
  congr 1
  rw [pow256] at hx ⊢
  rw [Nat.or_comm, ← Nat.shiftLeft_eq, ← Nat.shiftLeft_add_eq_or_of_lt hx]
  omega

theorem numTo_eq (l : List UInt8) (p k : Nat) (h : p + k ≤ l.length) (hk : k ≤ 8) : numTo l p k = (leNat ((l.drop p).take k) : Nat) := by
  induction k with
  | zero => simp [numTo, leNat]
  | succ k ih =>
    have hlt : p + k < l.length := by omega
    have hg : (l.drop p)[k]? = some (l[p + k]'hlt) := by rw [List.getElem?_drop]; exact List.getElem?_eq_getElem hlt
    have e1 : l.getD (p + k) 0 = l[p + k]'hlt := by rw [List.getD_eq_getElem?_getD, List.getElem?_eq_getElem hlt]; rfl
    have e2 : ((l.drop p).take k).length = k := by rw [List.length_take, List.length_drop]; omega
    have e3 := leNat_lt ((l.drop p).take k)
    rw [e2] at e3
    rw [numTo, ih (by omega) (by omega), e1, or_step _ _ _ e3 (UInt8.toNat_lt _) (by omega)]
    congr 1
    rw [List.take_add_one, hg]
    simp only [Option.toList_some]
    rw [leNat_snoc, e2]

/-- What is read: n bytes from p on, if there are so many. -/
def rdN (l : List UInt8) (p n : Nat) : Nat := if (l.length : Int) - p < n then 0 else leNat ((l.drop p).take n)
theorem nbVal_eq {l : List UInt8} {p n : Nat} (hn : n ≤ 8) (hp : p ≤ l.length) : nbVal l p n = (rdN l p n : Nat) := by
  unfold nbVal rdN
  split
  · rfl
  · rename_i h
    exact numTo_eq l p n (by omega) hn
theorem rdN_lt (l : List UInt8) (p n : Nat) : rdN l p n < 256 ^ n := by
  unfold rdN
  split
  · exact Nat.pow_pos (by omega)
  · have := leNat_lt ((l.drop p).take n)
    refine Nat.lt_of_lt_of_le this (pow256_le ?_)
    rw [List.length_take]; omega

theorem num_any (b p n : Nat) (l : List UInt8) (w : World) (h : RdAt w b l p) (hn : n ≤ 8) :
    Calls Tryd.prog 34 #[.pointer (some ⟨b, 0, none⟩), .int .i64 n] w fun e w' =>
      e = .returned (.tuple #[.int .u64 (rdN l p n : Nat), .int .i64 (nbErr l p n)]) ∧ RdAt w' b l (nbPos l p n) ∧ w.grownBy w' (some b) :=
  (number_any b p n l w h hn).mono fun e w' ⟨h1, h2⟩ => ⟨by rw [h1, nbVal_eq hn h.2.1], h2⟩

theorem rU64_any (b p : Nat) (l : List UInt8) (w : World) (h : RdAt w b l p) :
    Calls Tryd.prog 52 #[.pointer (some ⟨b, 0, none⟩)] w fun e w' =>
      e = .returned (.tuple #[.int .u64 (rdN l p 8 : Nat), .int .i64 (nbErr l p 8)]) ∧ RdAt w' b l (nbPos l p 8) ∧ w.grownBy w' (some b) :=
  (rdU64_any b p l w h).mono fun e w' ⟨h1, h2⟩ => ⟨by rw [h1, nbVal_eq (by omega) h.2.1], h2⟩

theorem rU32_any (b p : Nat) (l : List UInt8) (w : World) (h : RdAt w b l p) :
    Calls Tryd.prog 36 #[.pointer (some ⟨b, 0, none⟩)] w fun e w' =>
      e = .returned (.tuple #[.int .i64 (rdN l p 4 : Nat), .int .i64 (nbErr l p 4)]) ∧ RdAt w' b l (nbPos l p 4) ∧ w.grownBy w' (some b) := by
  have H := Lib.hid (num_any b p 4 l w h (by omega))
  have hlt := rdN_lt l p 4
  have hw : IntKind.i64.wrap ((rdN l p 4 : Nat) : Int) = (rdN l p 4 : Nat) := by rw [IntKind.wrap_i64] <;> omega
  clear h
  generalize rdN l p 4 = v at *
  go_enter Tryd.func36, Tryd.ntmps36
  go_wp2_with fail
  refine H.out.mono ?_
  rintro e w' ⟨rfl, hR, hG⟩
  go_wp2_with fail
  go_ret2
  exact ⟨rfl, hR, hG⟩

def inErr (l : List UInt8) (p : Nat) : Int := if (l.length : Int) - p < 8 then 2 else if 4611686018427387904 ≤ leNat ((l.drop p).take 8) then 3 else 0
def inVal (l : List UInt8) (p : Nat) : Nat := if inErr l p = 0 then rdN l p 8 else 0
def inPos (l : List UInt8) (p : Nat) : Nat := if inErr l p = 0 then p + 8 else p

theorem rInt_any (b p : Nat) (l : List UInt8) (w : World) (h : RdAt w b l p) :
    Calls Tryd.prog 24 #[.pointer (some ⟨b, 0, none⟩)] w fun e w' =>
      e = .returned (.tuple #[.int .i64 (inVal l p : Nat), .int .i64 (inErr l p)]) ∧ RdAt w' b l (inPos l p) ∧ w.grownBy w' (some b) := by
  have H := Lib.hid (num_any b p 8 l w h (by omega))
  have hp := h.2.1
  have hl := h.2.2
  have hlt := rdN_lt l p 8
  clear h
  by_cases h0 : (l.length : Int) - p < 8
  · have he : Hid (inErr l p = 2 ∧ inVal l p = 0 ∧ inPos l p = p ∧ nbErr l p 8 = 2 ∧ nbPos l p 8 = p) := by
      have e : inErr l p = 2 := by unfold inErr; rw [if_pos h0]
      unfold Hid inVal inPos nbErr nbPos; rw [e, if_pos (show (l.length : Int) - p < (8 : Nat) from h0), if_pos (show (l.length : Int) - p < (8 : Nat) from h0)]; exact ⟨rfl, rfl, rfl, rfl, rfl⟩
    rw [he.out.2.2.2.1, he.out.2.2.2.2] at H
    generalize rdN l p 8 = v at *
    go_enter Tryd.func24, Tryd.ntmps24
    go_wp2_with fail
    refine H.out.mono ?_
    rintro e w' ⟨rfl, hR, hG⟩
    have HR := Lib.hid hR
    clear hR
    go_wp2_with fail
    go_ret2
    rw [he.out.1, he.out.2.1, he.out.2.2.1]
    exact ⟨rfl, HR.out, hG⟩
  · have hv : Hid (rdN l p 8 = leNat ((l.drop p).take 8)) := by unfold Hid rdN; rw [if_neg (show ¬ (l.length : Int) - p < (8 : Nat) from h0)]
    have hnb : nbErr l p 8 = 0 ∧ nbPos l p 8 = p + 8 := by
      unfold nbErr nbPos; rw [if_neg (show ¬ (l.length : Int) - p < (8 : Nat) from h0), if_neg (show ¬ (l.length : Int) - p < (8 : Nat) from h0)]; exact ⟨rfl, rfl⟩
    rw [hnb.1, hnb.2] at H
    clear hnb
    by_cases h1 : 4611686018427387904 ≤ rdN l p 8
    · have he : Hid (inErr l p = 3 ∧ inVal l p = 0 ∧ inPos l p = p) := by
        have e : inErr l p = 3 := by unfold inErr; rw [if_neg h0, if_pos (by rw [← hv.out]; exact h1)]
        unfold Hid inVal inPos; rw [e]; exact ⟨rfl, rfl, rfl⟩
      have hd : decide ((4611686018427387903 : Int) < ((rdN l p 8 : Nat) : Int)) = true := decide_eq_true (by omega)
      clear hv h0
      generalize rdN l p 8 = v at *
      go_enter Tryd.func24, Tryd.ntmps24
      go_wp2_with fail
      refine H.out.mono ?_
      rintro e w' ⟨rfl, hR, hG⟩
      have HR := Lib.hid hR
      have c1 := hR.c1
      have f1 := hR.fr 1
      have w1 : IntKind.i64.wrap ((p : Int) + 8 - 8) = p := by rw [IntKind.wrap_i64] <;> omega
      clear hR
      go_wp2_with fail
      go_ret2
      rw [he.out.1, he.out.2.1, he.out.2.2]
      exact ⟨rfl, HR.out.put hp, only_put hG _⟩
    · have he : Hid (inErr l p = 0 ∧ inVal l p = rdN l p 8 ∧ inPos l p = p + 8) := by
        have e : inErr l p = 0 := by unfold inErr; rw [if_neg h0, if_neg (by rw [← hv.out]; exact h1)]
        unfold Hid inVal inPos; rw [e]; exact ⟨rfl, rfl, rfl⟩
      have hw : IntKind.i64.wrap ((rdN l p 8 : Nat) : Int) = (rdN l p 8 : Nat) := by rw [IntKind.wrap_i64] <;> omega
      have hd : decide ((4611686018427387903 : Int) < ((rdN l p 8 : Nat) : Int)) = false := decide_eq_false (by omega)
      clear hv h0
      generalize rdN l p 8 = v at *
      go_enter Tryd.func24, Tryd.ntmps24
      go_wp2_with fail
      refine H.out.mono ?_
      rintro e w' ⟨rfl, hR, hG⟩
      have HR := Lib.hid hR
      clear hR
      go_wp2_with fail
      go_ret2
      rw [he.out.1, he.out.2.1, he.out.2.2]
      exact ⟨rfl, HR.out, hG⟩

theorem rd_rest (l : List UInt8) (p : Nat) (hp : p ≤ l.length) : (ByteArray.mk l.toArray).extract p l.length = ⟨(l.drop p).toArray⟩ := by
  apply ByteArray.ext
  rw [ByteArray.data_extract]
  simp [List.take_of_length_le]

theorem rZeros_any (b p : Nat) (l : List UInt8) (w : World) (h : RdAt w b l p) :
    Calls Tryd.prog 23 #[.pointer (some ⟨b, 0, none⟩)] w fun e w' => e = .returned (.bool (allZ (l.drop p))) ∧ ∃ n, w' = w.drewN n := by
  have c0 := h.c0
  have c1 := h.c1
  have hp := h.2.1
  have hl := h.2.2
  have hld : (l.drop p).length ≤ 9223372036854775807 := by rw [List.length_drop]; omega
  obtain ⟨t, ht1, ht2, hT⟩ := trim_any (l.drop p) hld
  have HT := Lib.hid hT
  have H2 := Lib.hid ht2
  clear hT ht2
  have HE := rd_rest l p hp
  have i0 : (0 : Int) ≤ p := by omega
  have i1 : (p : Int) ≤ l.length := by omega
  clear h
  generalize l.drop p = m at *
  go_enter Tryd.func23, Tryd.ntmps23
  go_wp2_with fail
  go_quiet ((go_at_call 33; exact Calls.quiet_of (HT.out _)))
  go_wp2_with fail
  go_ret
  exact ⟨ret_bool H2.out, nq, rfl⟩

theorem nilLeft_any (w : World) : Calls Tryd.prog 35 #[.pointer none] w fun e w' => e = .returned (.int .i64 0) ∧ w = w' := by
  go_enter Tryd.func35, Tryd.ntmps35
  go_wp2_with fail
  go_ret
  exact ⟨rfl, rfl⟩
theorem nilZeros_any (w : World) : Calls Tryd.prog 23 #[.pointer none] w fun e w' => e = .returned (.bool true) ∧ ∃ n, w' = w.drewN n := by
  go_enter Tryd.func23, Tryd.ntmps23
  go_wp2_with fail
  go_quiet (fail)
  go_wp2_with fail
  go_ret
  exact ⟨rfl, nq, rfl⟩
theorem nilTake_any (n : Nat) (w : World) (hn : n ≤ 9223372036854775807) : Calls Tryd.prog 25 #[.pointer none, .int .i64 n] w fun e w' => e = .returned (.tuple #[str [], .int .i64 2]) ∧ ∃ n, w' = w.drewN n := by
  have HL := Lib.hid nilLeft_any
  by_cases h0 : n = 0
  · subst h0
    go_enter Tryd.func25, Tryd.ntmps25
    go_wp2_with fail
    refine (HL.out _).mono ?_
    rintro e w' ⟨rfl, rfl⟩
    go_wp2_with fail
    go_ret2
    exact ⟨rfl, 0, rfl⟩
  · have h1 : 0 < (n : Int) := by omega
    go_enter Tryd.func25, Tryd.ntmps25
    go_wp2_with fail
    refine (HL.out _).mono ?_
    rintro e w' ⟨rfl, rfl⟩
    go_wp2_with fail
    go_ret2
    exact ⟨rfl, 0, rfl⟩

theorem nilNum_any (n : Nat) (w : World) (hn : 0 < n) (hn2 : n ≤ 8) :
    Calls Tryd.prog 34 #[.pointer none, .int .i64 n] w fun e w' => e = .returned (.tuple #[.int .u64 0, .int .i64 2]) ∧ w = w' := by
  go_enter Tryd.func34, Tryd.ntmps34
  go_wp2_with fail
  refine (nilLeft_any w).mono ?_
  rintro e w' ⟨rfl, rfl⟩
  go_wp2_with fail
  go_ret2
  exact ⟨rfl, rfl⟩
end Go.Proofs.YtkmmehhddagijaaDoor
