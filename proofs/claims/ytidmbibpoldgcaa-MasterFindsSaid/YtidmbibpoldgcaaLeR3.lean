/-
  More contracts of le's reader: numbers as what bytes come to; U32, Int, Zeros; the nil reader.
-/
import Derived.Test.YtidmbibpoldgcaaLeR
import Derived.Test.YtidmbibpoldgcaaTrim
import Derived.Laws.BitsAllLaws
namespace Go.Proofs.Ytidmbibpoldgcaa
open Go.RowKit
set_option linter.unusedVariables false

/-- What bytes come to, the lowest first. -/
def leNat : List UInt8 → Nat
  | [] => 0
  | x :: r => x.toNat + 256 * leNat r
theorem leNat_snoc (l : List UInt8) (x : UInt8) : leNat (l ++ [x]) = leNat l + x.toNat * 256 ^ l.length := by
  induction l with
  | nil => simp [leNat]
  | cons y l ih =>
    simp only [List.cons_append, leNat, ih, List.length_cons, Nat.pow_succ, Nat.mul_add]
    rw [show x.toNat * (256 ^ l.length * 256) = 256 * (x.toNat * 256 ^ l.length) by rw [Nat.mul_comm (256 ^ l.length) 256, Nat.mul_left_comm]]
    omega
theorem leNat_lt (l : List UInt8) : leNat l < 256 ^ l.length := by
  induction l with
  | nil => simp [leNat]
  | cons x l ih =>
    have := x.toNat_lt
    simp only [leNat, List.length_cons, Nat.pow_succ]
    omega
theorem leNat_layL (x n : Nat) : leNat (layL x n) = x % 256 ^ n := by
  induction n with
  | zero => simp [layL, leNat, Nat.mod_one]
  | succ n ih =>
    have e : x % 256 ^ (n + 1) = x % 256 ^ n + 256 ^ n * (x / 256 ^ n % 256) := by rw [Nat.pow_succ, Nat.mod_mul]
    rw [layL_succ, leNat_snoc, ih, layL_len, UInt8.toNat_ofNat', e, Nat.mul_comm]
theorem pow256 (k : Nat) : (256 : Nat) ^ k = 2 ^ (8 * k) := by rw [Nat.pow_mul]
theorem pow256_le {k n : Nat} (h : k ≤ n) : (256 : Nat) ^ k ≤ 256 ^ n := Nat.pow_le_pow_right (by omega) h

theorem or_step (x b k : Nat) (hx : x < 256 ^ k) (hb : b < 256) (hk : k < 8) :
    bits .or .u64 (x : Int) (IntKind.u64.wrap (IntKind.u64.wrap (b : Int) * 2 ^ (8 * k))) = ((x + b * 256 ^ k : Nat) : Int) := by
  have h8 : (256 : Nat) ^ k * 256 ≤ 18446744073709551616 := by
    have := pow256_le (show k + 1 ≤ 8 by omega)
    rw [Nat.pow_succ] at this
    exact Nat.le_trans this (by decide)
  have hbk : b * 256 ^ k < 18446744073709551616 := by
    have : b * 256 ^ k < 256 * 256 ^ k := Nat.mul_lt_mul_of_pos_right hb (Nat.pow_pos (by omega))
    omega
  have w1 : IntKind.u64.wrap (b : Int) = b := IntWalk.u64_in _ (by omega)
  have w2 : ((b : Int) * 2 ^ (8 * k)) = ((b * 256 ^ k : Nat) : Int) := by rw [pow256]; push_cast; rfl
  have w3 : IntKind.u64.wrap ((b * 256 ^ k : Nat) : Int) = ((b * 256 ^ k : Nat) : Int) := IntWalk.u64_in _ (by omega)
  rw [w1, w2, w3, u64_or_nat _ _ (by omega) hbk]
  congr 1
  rw [pow256] at hx ⊢
  rw [Nat.or_comm, ← Nat.shiftLeft_eq, ← Nat.shiftLeft_add_eq_or_of_lt hx]
  omega

theorem numTo_eq (l : List UInt8) (p k : Nat) (h : p + k ≤ l.length) (hk : k ≤ 8) : numTo l p k = (leNat ((l.drop p).take k) : Nat) := by
  induction k with
  | zero => simp [numTo, leNat]
  | succ k ih =>
    have hlt : p + k < l.length := by omega
    have hg : (l.drop p)[k]? = some (l[p + k]'hlt) := by rw [List.getElem?_drop]; exact List.getElem?_eq_getElem hlt
    have e1 : l.getD (p + k) 0 = l[p + k]'hlt := by rw [List.getD_eq_getElem?_getD, List.getElem?_eq_getElem hlt]; rfl
    have e2 : ((l.drop p).take k).length = k := by rw [List.length_take, List.length_drop]; omega
    have e3 := leNat_lt ((l.drop p).take k)
    rw [e2] at e3
    rw [numTo, ih (by omega) (by omega), e1, or_step _ _ _ e3 (UInt8.toNat_lt _) (by omega)]
    congr 1
    rw [List.take_add_one, hg]
    simp only [Option.toList_some]
    rw [leNat_snoc, e2]

/-- What is read: n bytes from p on, if there are so many. -/
def rdN (l : List UInt8) (p n : Nat) : Nat := if (l.length : Int) - p < n then 0 else leNat ((l.drop p).take n)
theorem nbVal_eq {l : List UInt8} {p n : Nat} (hn : n ≤ 8) (hp : p ≤ l.length) : nbVal l p n = (rdN l p n : Nat) := by
  unfold nbVal rdN
  split
  · rfl
  · rename_i h
    exact numTo_eq l p n (by omega) hn
theorem rdN_lt (l : List UInt8) (p n : Nat) : rdN l p n < 256 ^ n := by
  unfold rdN
  split
  · exact Nat.pow_pos (by omega)
  · have := leNat_lt ((l.drop p).take n)
    refine Nat.lt_of_lt_of_le this (pow256_le ?_)
    rw [List.length_take]; omega

def inErr (l : List UInt8) (p : Nat) : Int := if (l.length : Int) - p < 8 then 2 else if 4611686018427387904 ≤ leNat ((l.drop p).take 8) then 3 else 0
def inVal (l : List UInt8) (p : Nat) : Nat := if inErr l p = 0 then rdN l p 8 else 0
def inPos (l : List UInt8) (p : Nat) : Nat := if inErr l p = 0 then p + 8 else p

theorem rd_rest (l : List UInt8) (p : Nat) (hp : p ≤ l.length) : (ByteArray.mk l.toArray).extract p l.length = ⟨(l.drop p).toArray⟩ := by
  apply ByteArray.ext
  rw [ByteArray.data_extract]
  simp [List.take_of_length_le]

end Go.Proofs.Ytidmbibpoldgcaa
