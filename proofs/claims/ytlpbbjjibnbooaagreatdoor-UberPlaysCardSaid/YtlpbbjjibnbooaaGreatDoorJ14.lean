/-
  strings.Trim at the one byte zero: what is left is empty just if all bytes are zero.
  More contracts of le's reader: numbers as what bytes come to; U32, Int, Zeros; the nil reader.
  Plain words on what bytes are read as pointers.
  Contracts of fletch.Read and ptr.Read.
-/
import Derived.Test.YtlpbbjjibnbooaaGreatDoorJ12
import Derived.Test.YtlpbbjjibnbooaaGreatDoorJ13
import Derived.Laws.BitsAllLaws
import Derived.Test.YtlpbbjjibnbooaaGreatDoorJ01
namespace Go.Proofs.YtlpbbjjibnbooaaGreatDoor
open Go.RowKit
set_option linter.unusedVariables false

def tLen : Value → Nat
  | .string b => b.size
  | _ => 0
theorem ex_drop1 (l : List UInt8) (h : 0 < l.length) : (ByteArray.mk l.toArray).extract 1 l.length = ⟨(l.drop 1).toArray⟩ := by
  apply ByteArray.ext
  rw [ByteArray.data_extract]
  simp [List.take_of_length_le]
theorem ex_take1 (l : List UInt8) (m : Nat) (h : m ≤ l.length) : (ByteArray.mk l.toArray).extract 0 m = ⟨(l.take m).toArray⟩ := by
  apply ByteArray.ext
  rw [ByteArray.data_extract]
  simp [List.extract_eq_take_drop]

theorem trimL_any (c : UInt8) (l : List UInt8) (w : World) (hl : l.length ≤ 9223372036854775807) :
    Calls Tryz.prog 109 #[str l, .int .u8 c.toNat] w fun e w' => (∃ k, k ≤ l.length ∧ e = .returned (str (l.drop k)) ∧ (∀ j, j < k → l[j]? = some c) ∧ ∀ x, l[k]? = some x → x ≠ c) ∧ w = w' := by
  go_enter Tryz.func109, Tryz.ntmps109
  go_wp2
  go_loop [0] (fun s => ∃ k, k ≤ l.length ∧ s = str (l.drop k) ∧ ∀ j, j < k → l[j]? = some c) (fun s => tLen s)
  case atStart => exact ⟨0, Nat.zero_le _, rfl, fun j hj => absurd hj (by omega)⟩
  case round =>
    obtain ⟨k, hk, rfl, hno⟩ := hrel
    have HN := Lib.hid hno
    clear hno
    have HM : Hid ((l.drop k).length = l.length - k) := Lib.hid (List.length_drop ..)
    have hml : (l.drop k).length ≤ 9223372036854775807 := by rw [HM.out]; omega
    have HX : Hid (∀ i, (l.drop k)[i]? = l[k + i]?) := Lib.hid fun i => List.getElem?_drop ..
    have HD : Hid ((l.drop k).drop 1 = l.drop (k + 1)) := Lib.hid (by rw [List.drop_drop])
    generalize hm : l.drop k = m at *
    have HMM := Lib.hid hm
    clear hm
    by_cases h0 : 0 < m.length
    · have HE := Lib.hid (ex_drop1 m h0)
      have hx : m[0]? = some (m[0]'h0) := List.getElem?_eq_getElem h0
      have HXX := Lib.hid hx
      clear hx
      by_cases hq : m[0]'h0 = c
      · have q1 : ((((ByteArray.mk m.toArray)[0]'(by rw [ba_size]; exact h0)).toNat : Int) == (c.toNat : Int)) = true := by rw [ba_get]; simp [hq]
        have HQ := Lib.hid hq
        clear hq
        go_wp2_with fail
        go_round
        case rel =>
          refine ⟨k + 1, by have := HM.out; omega, ?_, fun j hj => ?_⟩
          · show Value.string _ = Value.string _
            rw [HE.out, HD.out]
          · rcases Nat.lt_or_ge j k with h | h
            · exact HN.out j h
            · obtain rfl : j = k := by omega
              rw [← HQ.out, ← HXX.out, HX.out]; rfl
        case measure =>
          rw [HE.out]
          simp [tLen, ba_size]
          omega
      · have q1 : ((((ByteArray.mk m.toArray)[0]'(by rw [ba_size]; exact h0)).toNat : Int) == (c.toNat : Int)) = false := by
          rw [ba_get, beq_eq_false_iff_ne]; intro h; exact hq (UInt8.toNat_inj.1 (by exact_mod_cast h))
        have HQ := Lib.hid hq
        clear hq
        go_wp2_with fail
        go_ret
        refine ⟨⟨k, hk, by rw [HMM.out]; rfl, HN.out, fun x hx => ?_⟩, rfl⟩
        have h1 := HX.out 0
        rw [HXX.out, Nat.add_zero, hx] at h1
        injection h1 with h1
        rw [← h1]; exact HQ.out
    · go_wp2_with fail
      go_ret
      refine ⟨⟨k, hk, by rw [HMM.out]; rfl, HN.out, fun x hx => ?_⟩, rfl⟩
      have h1 := HM.out
      have h2 := (List.getElem?_eq_some_iff.1 hx).1
      omega
theorem trimR_any (c : UInt8) (l : List UInt8) (w : World) (hl : l.length ≤ 9223372036854775807) :
    Calls Tryz.prog 110 #[str l, .int .u8 c.toNat] w fun e w' => (∃ k, k ≤ l.length ∧ e = .returned (str (l.take k)) ∧ (∀ j, k ≤ j → j < l.length → l[j]? = some c) ∧ ∀ x, 0 < k → l[k - 1]? = some x → x ≠ c) ∧ w = w' := by
  go_enter Tryz.func110, Tryz.ntmps110
  go_wp2
  go_loop [0] (fun s => ∃ k, k ≤ l.length ∧ s = str (l.take k) ∧ ∀ j, k ≤ j → j < l.length → l[j]? = some c) (fun s => tLen s)
  case atStart => exact ⟨l.length, Nat.le_refl _, by rw [List.take_length], fun j hj hj2 => absurd hj (by omega)⟩
  case round =>
    obtain ⟨k, hk, rfl, hno⟩ := hrel
    have HN := Lib.hid hno
    clear hno
    have HM : Hid ((l.take k).length = k) := Lib.hid (by rw [List.length_take]; omega)
    have hml : (l.take k).length ≤ 9223372036854775807 := by rw [HM.out]; omega
    have HX : Hid (∀ i, i < k → (l.take k)[i]? = l[i]?) := Lib.hid fun i hi => List.getElem?_take_of_lt hi
    have HD : Hid (∀ i, i ≤ k → (l.take k).take i = l.take i) := Lib.hid fun i hi => by rw [List.take_take]; congr 1; omega
    generalize hm : l.take k = m at *
    have HMM := Lib.hid hm
    clear hm
    by_cases h0 : 0 < m.length
    · have HE := Lib.hid (ex_take1 m (m.length - 1) (by omega))
      have h1 : m.length - 1 < m.length := by omega
      have hx : m[m.length - 1]? = some (m[m.length - 1]'h1) := List.getElem?_eq_getElem h1
      have HXX := Lib.hid hx
      have hi0 : (0 : Int) ≤ (m.length : Int) - 1 := by omega
      have hi1 : (m.length : Int) - 1 < m.length := by omega
      have ht : ((m.length : Int) - 1).toNat = m.length - 1 := by omega
      clear hx
      by_cases hq : m[m.length - 1]'h1 = c
      · have q1 : ((((ByteArray.mk m.toArray)[m.length - 1]'(by rw [ba_size]; exact h1)).toNat : Int) == (c.toNat : Int)) = true := by rw [ba_get]; simp [hq]
        have HQ := Lib.hid hq
        clear hq
        go_wp2_with fail
        go_round
        case rel =>
          have hk1 := HM.out
          refine ⟨m.length - 1, by omega, ?_, fun j hj hj2 => ?_⟩
          · show Value.string _ = Value.string _
            rw [HE.out, HD.out _ (by omega)]
          · rcases Nat.lt_or_ge j k with h | h
            · obtain rfl : j = m.length - 1 := by omega
              rw [← HX.out _ h, HXX.out, HQ.out]
            · exact HN.out j h hj2
        case measure =>
          rw [HE.out]
          simp [tLen, ba_size]
          omega
      · have q1 : ((((ByteArray.mk m.toArray)[m.length - 1]'(by rw [ba_size]; exact h1)).toNat : Int) == (c.toNat : Int)) = false := by
          rw [ba_get, beq_eq_false_iff_ne]; intro h; exact hq (UInt8.toNat_inj.1 (by exact_mod_cast h))
        have HQ := Lib.hid hq
        clear hq
        go_wp2_with fail
        go_ret
        refine ⟨⟨k, hk, by rw [HMM.out]; rfl, HN.out, fun x hk0 hx => ?_⟩, rfl⟩
        have h2 := HX.out (k - 1) (by omega)
        have h3 := HXX.out
        have h4 : m[m.length - 1]? = m[k - 1]? := by rw [show m.length = k from HM.out]
        rw [h4, h2, hx] at h3
        injection h3 with h3
        rw [h3]; exact HQ.out
    · go_wp2_with fail
      go_ret
      refine ⟨⟨k, hk, by rw [HMM.out]; rfl, HN.out, fun x hk0 hx => ?_⟩, rfl⟩
      have h1 := HM.out
      omega
theorem right_ex (c : UInt8) (l : List UInt8) : ∀ n, n ≤ l.length → ∃ k, k ≤ n ∧ (∀ j, k ≤ j → j < n → l[j]? = some c) ∧ ∀ x, 0 < k → l[k - 1]? = some x → x ≠ c
  | 0, _ => ⟨0, Nat.le_refl _, fun j _ h => absurd h (by omega), fun x h => absurd h (by omega)⟩
  | n + 1, hn => by
    by_cases h : l[n]? = some c
    · obtain ⟨k, h1, h2, h3⟩ := right_ex c l n (by omega)
      refine ⟨k, by omega, fun j hj hj2 => ?_, h3⟩
      rcases Nat.lt_or_ge j n with h4 | h4
      · exact h2 j hj h4
      · obtain rfl : j = n := by omega
        exact h
    · exact ⟨n + 1, Nat.le_refl _, fun j h1 h2 => absurd h1 (by omega), fun x _ hx e => h (by rw [← e]; exact hx)⟩
theorem left_ex (c : UInt8) : ∀ l : List UInt8, ∃ k, k ≤ l.length ∧ (∀ j, j < k → l[j]? = some c) ∧ ∀ x, l[k]? = some x → x ≠ c
  | [] => ⟨0, Nat.le_refl _, fun j h => absurd h (by omega), fun x h => by simp at h⟩
  | x :: r => by
    by_cases h : x = c
    · obtain ⟨k, h1, h2, h3⟩ := left_ex c r
      refine ⟨k + 1, by simp; omega, fun j hj => ?_, fun y hy => h3 y (by simpa using hy)⟩
      match j, hj with
      | 0, _ => simp [h]
      | j + 1, hj => simpa using h2 j (by omega)
    · exact ⟨0, Nat.zero_le _, fun j h => absurd h (by omega), fun y hy => by simp at hy; rw [← hy]; exact h⟩

set_option maxRecDepth 100000 in
theorem trim_any (l : List UInt8) (hl : l.length ≤ 9223372036854775807) : ∃ t : List UInt8, t.length ≤ l.length ∧ t.isEmpty = allZ l ∧
    ∀ w, Calls Tryz.prog 77 #[str l, .string ⟨#[0]⟩] w fun e w' => e = .returned (str t) ∧ ∃ n, w' = w.drewN n := by
  by_cases h0 : l = []
  · subst h0
    refine ⟨[], Nat.le_refl _, rfl, fun w => ?_⟩
    go_enter Tryz.func77, Tryz.ntmps77
    go_wp2_with fail
    go_ret
    exact ⟨rfl, 0, rfl⟩
  · have hn : l.isEmpty = false := by simpa using h0
    obtain ⟨k, hk, g1, g2⟩ := right_ex 0 l l.length (Nat.le_refl _)
    have HR : Hid (∀ W, Calls Tryz.prog 110 #[str l, .int .u8 0] W fun e w' => e = .returned (str (l.take k)) ∧ w' = W) := Lib.hid fun W => (trimR_any 0 l W hl).mono fun e w' ⟨⟨k', a, b, c, d⟩, hw⟩ => by
      have : k' = k := by
        rcases Nat.lt_trichotomy k' k with h | h | h
        · exact absurd rfl (g2 0 (by omega) (c (k - 1) (by omega) (by omega)))
        · exact h
        · exact absurd rfl (d 0 (by omega) (g1 (k' - 1) (by omega) (by omega)))
      subst this
      exact ⟨b, hw.symm⟩
    have HT : Hid ((l.take k).length = k) := Lib.hid (by rw [List.length_take]; omega)
    have HG : Hid (∀ i, i < k → (l.take k)[i]? = l[i]?) := Lib.hid fun i hi => List.getElem?_take_of_lt hi
    have hml : (l.take k).length ≤ 9223372036854775807 := by rw [HT.out]; omega
    have H1 := Lib.hid g1
    clear g1 g2
    generalize l.take k = m at *
    obtain ⟨q, hq, g3, g4⟩ := left_ex 0 m
    have HL : Hid (∀ W, Calls Tryz.prog 109 #[str m, .int .u8 0] W fun e w' => e = .returned (str (m.drop q)) ∧ w' = W) := Lib.hid fun W => (trimL_any 0 m W hml).mono fun e w' ⟨⟨q', a, b, c, d⟩, hw⟩ => by
      have : q' = q := by
        rcases Nat.lt_trichotomy q' q with h | h | h
        · exact absurd rfl (d 0 (g3 q' h))
        · exact h
        · exact absurd rfl (g4 0 (c q h))
      subst this
      exact ⟨b, hw.symm⟩
    have H3 := Lib.hid g3
    have H4 := Lib.hid g4
    have hz : (ByteArray.mk #[0])[0]'(by decide) = 0 := rfl
    have hl0 : 0 < l.length := List.length_pos_iff.2 h0
    have HD : Hid ((m.drop q).length = m.length - q) := Lib.hid (List.length_drop ..)
    clear h0 g3 g4
    generalize hd : m.drop q = d at *
    have HDD := Lib.hid hd
    clear hd
    refine ⟨d, by have := HT.out; rw [HD.out]; omega, ?_, fun w => ?_⟩
    rotate_left
    · go_enter Tryz.func77, Tryz.ntmps77
      go_wp2_with fail
      go_quiet ((first | (go_at_call 110; exact Calls.quiet_of_same (HR.out _)) | (go_at_call 109; exact Calls.quiet_of_same (HL.out _))))
      go_wp2_with fail
      go_ret
      exact ⟨rfl, nq, rfl⟩
    have hkm := HT.out
    rw [← HDD.out, Bool.eq_iff_iff, List.isEmpty_iff, List.drop_eq_nil_iff]
    unfold allZ
    rw [List.all_eq_true]
    constructor
    · intro hqe x hx
      obtain ⟨j, hj⟩ := List.mem_iff_getElem?.1 hx
      have hjl := (List.getElem?_eq_some_iff.1 hj).1
      rcases Nat.lt_or_ge j k with h | h
      · have := H3.out j (by omega)
        rw [HG.out j h, hj] at this
        injection this with this
        simp [this]
      · have := H1.out j h hjl
        rw [hj] at this
        injection this with this
        simp [this]
    · intro hall
      rcases Nat.lt_or_ge q k with h | h
      · exfalso
        have hqv : ∃ x, m[q]? = some x := ⟨_, List.getElem?_eq_getElem (by omega)⟩
        obtain ⟨x, hx⟩ := hqv
        have h5 := H4.out x hx
        rw [HG.out q h] at hx
        have := hall x (List.mem_of_getElem? hx)
        exact h5 (by simpa using this)
      · omega
end Go.Proofs.YtlpbbjjibnbooaaGreatDoor

namespace Go.Proofs.YtlpbbjjibnbooaaGreatDoor
open Go.RowKit
set_option linter.unusedVariables false

/-- What bytes come to, the lowest first. -/
def leNat : List UInt8 → Nat
  | [] => 0
  | x :: r => x.toNat + 256 * leNat r
theorem leNat_snoc (l : List UInt8) (x : UInt8) : leNat (l ++ [x]) = leNat l + x.toNat * 256 ^ l.length := by
  induction l with
  | nil => simp [leNat]
  | cons y l ih =>
    simp only [List.cons_append, leNat, ih, List.length_cons, Nat.pow_succ, Nat.mul_add]
    rw [show x.toNat * (256 ^ l.length * 256) = 256 * (x.toNat * 256 ^ l.length) by rw [Nat.mul_comm (256 ^ l.length) 256, Nat.mul_left_comm]]
    omega
theorem leNat_lt (l : List UInt8) : leNat l < 256 ^ l.length := by
  induction l with
  | nil => simp [leNat]
  | cons x l ih =>
    have := x.toNat_lt
    simp only [leNat, List.length_cons, Nat.pow_succ]
    omega
theorem leNat_layL (x n : Nat) : leNat (layL x n) = x % 256 ^ n := by
  induction n with
  | zero => simp [layL, leNat, Nat.mod_one]
  | succ n ih =>
    have e : x % 256 ^ (n + 1) = x % 256 ^ n + 256 ^ n * (x / 256 ^ n % 256) := by rw [Nat.pow_succ, Nat.mod_mul]
    rw [layL_succ, leNat_snoc, ih, layL_len, UInt8.toNat_ofNat', e, Nat.mul_comm]
theorem pow256 (k : Nat) : (256 : Nat) ^ k = 2 ^ (8 * k) := by rw [Nat.pow_mul]
theorem pow256_le {k n : Nat} (h : k ≤ n) : (256 : Nat) ^ k ≤ 256 ^ n := Nat.pow_le_pow_right (by omega) h

theorem or_step (x b k : Nat) (hx : x < 256 ^ k) (hb : b < 256) (hk : k < 8) :
    bits .or .u64 (x : Int) (IntKind.u64.wrap (IntKind.u64.wrap (b : Int) * 2 ^ (8 * k))) = ((x + b * 256 ^ k : Nat) : Int) := by
  have h8 : (256 : Nat) ^ k * 256 ≤ 18446744073709551616 := by
    have := pow256_le (show k + 1 ≤ 8 by omega)
    rw [Nat.pow_succ] at this
    exact Nat.le_trans this (by decide)
  have hbk : b * 256 ^ k < 18446744073709551616 := by
    have : b * 256 ^ k < 256 * 256 ^ k := Nat.mul_lt_mul_of_pos_right hb (Nat.pow_pos (by omega))
    omega
  have w1 : IntKind.u64.wrap (b : Int) = b := IntWalk.u64_in _ (by omega)
  have w2 : ((b : Int) * 2 ^ (8 * k)) = ((b * 256 ^ k : Nat) : Int) := by rw [pow256]; push_cast; rfl
  have w3 : IntKind.u64.wrap ((b * 256 ^ k : Nat) : Int) = ((b * 256 ^ k : Nat) : Int) := IntWalk.u64_in _ (by omega)
  rw [w1, w2, w3, u64_or_nat _ _ (by omega) hbk]
  congr 1
  rw [pow256] at hx ⊢
  rw [Nat.or_comm, ← Nat.shiftLeft_eq, ← Nat.shiftLeft_add_eq_or_of_lt hx]
  omega

theorem numTo_eq (l : List UInt8) (p k : Nat) (h : p + k ≤ l.length) (hk : k ≤ 8) : numTo l p k = (leNat ((l.drop p).take k) : Nat) := by
  induction k with
  | zero => simp [numTo, leNat]
  | succ k ih =>
    have hlt : p + k < l.length := by omega
    have hg : (l.drop p)[k]? = some (l[p + k]'hlt) := by rw [List.getElem?_drop]; exact List.getElem?_eq_getElem hlt
    have e1 : l.getD (p + k) 0 = l[p + k]'hlt := by rw [List.getD_eq_getElem?_getD, List.getElem?_eq_getElem hlt]; rfl
    have e2 : ((l.drop p).take k).length = k := by rw [List.length_take, List.length_drop]; omega
    have e3 := leNat_lt ((l.drop p).take k)
    rw [e2] at e3
    rw [numTo, ih (by omega) (by omega), e1, or_step _ _ _ e3 (UInt8.toNat_lt _) (by omega)]
    congr 1
    rw [List.take_add_one, hg]
    simp only [Option.toList_some]
    rw [leNat_snoc, e2]

/-- What is read: n bytes from p on, if there are so many. -/
def rdN (l : List UInt8) (p n : Nat) : Nat := if (l.length : Int) - p < n then 0 else leNat ((l.drop p).take n)
theorem nbVal_eq {l : List UInt8} {p n : Nat} (hn : n ≤ 8) (hp : p ≤ l.length) : nbVal l p n = (rdN l p n : Nat) := by
  unfold nbVal rdN
  split
  · rfl
  · rename_i h
    exact numTo_eq l p n (by omega) hn
theorem rdN_lt (l : List UInt8) (p n : Nat) : rdN l p n < 256 ^ n := by
  unfold rdN
  split
  · exact Nat.pow_pos (by omega)
  · have := leNat_lt ((l.drop p).take n)
    refine Nat.lt_of_lt_of_le this (pow256_le ?_)
    rw [List.length_take]; omega

theorem num_any (b p n : Nat) (l : List UInt8) (w : World) (h : RdAt w b l p) (hn : n ≤ 8) :
    Calls Tryz.prog 71 #[.pointer (some ⟨b, 0, none⟩), .int .i64 n] w fun e w' =>
      e = .returned (.tuple #[.int .u64 (rdN l p n : Nat), .int .i64 (nbErr l p n)]) ∧ RdAt w' b l (nbPos l p n) ∧ w.grownBy w' (some b) :=
  (number_any b p n l w h hn).mono fun e w' ⟨h1, h2⟩ => ⟨by rw [h1, nbVal_eq hn h.2.1], h2⟩

theorem rU64_any (b p : Nat) (l : List UInt8) (w : World) (h : RdAt w b l p) :
    Calls Tryz.prog 72 #[.pointer (some ⟨b, 0, none⟩)] w fun e w' =>
      e = .returned (.tuple #[.int .u64 (rdN l p 8 : Nat), .int .i64 (nbErr l p 8)]) ∧ RdAt w' b l (nbPos l p 8) ∧ w.grownBy w' (some b) :=
  (rdU64_any b p l w h).mono fun e w' ⟨h1, h2⟩ => ⟨by rw [h1, nbVal_eq (by omega) h.2.1], h2⟩

theorem rU32_any (b p : Nat) (l : List UInt8) (w : World) (h : RdAt w b l p) :
    Calls Tryz.prog 106 #[.pointer (some ⟨b, 0, none⟩)] w fun e w' =>
      e = .returned (.tuple #[.int .i64 (rdN l p 4 : Nat), .int .i64 (nbErr l p 4)]) ∧ RdAt w' b l (nbPos l p 4) ∧ w.grownBy w' (some b) := by
  have H := Lib.hid (num_any b p 4 l w h (by omega))
  have hlt := rdN_lt l p 4
  have hw : IntKind.i64.wrap ((rdN l p 4 : Nat) : Int) = (rdN l p 4 : Nat) := by rw [IntKind.wrap_i64] <;> omega
  clear h
  generalize rdN l p 4 = v at *
  go_enter Tryz.func106, Tryz.ntmps106
  go_wp2_with fail
  refine H.out.mono ?_
  rintro e w' ⟨rfl, hR, hG⟩
  go_wp2_with fail
  go_ret2
  exact ⟨rfl, hR, hG⟩

def inErr (l : List UInt8) (p : Nat) : Int := if (l.length : Int) - p < 8 then 2 else if 4611686018427387904 ≤ leNat ((l.drop p).take 8) then 3 else 0
def inVal (l : List UInt8) (p : Nat) : Nat := if inErr l p = 0 then rdN l p 8 else 0
def inPos (l : List UInt8) (p : Nat) : Nat := if inErr l p = 0 then p + 8 else p

theorem rInt_any (b p : Nat) (l : List UInt8) (w : World) (h : RdAt w b l p) :
    Calls Tryz.prog 32 #[.pointer (some ⟨b, 0, none⟩)] w fun e w' =>
      e = .returned (.tuple #[.int .i64 (inVal l p : Nat), .int .i64 (inErr l p)]) ∧ RdAt w' b l (inPos l p) ∧ w.grownBy w' (some b) := by
  have H := Lib.hid (num_any b p 8 l w h (by omega))
  have hp := h.2.1
  have hl := h.2.2
  have hlt := rdN_lt l p 8
  clear h
  by_cases h0 : (l.length : Int) - p < 8
  · have he : Hid (inErr l p = 2 ∧ inVal l p = 0 ∧ inPos l p = p ∧ nbErr l p 8 = 2 ∧ nbPos l p 8 = p) := by
      have e : inErr l p = 2 := by unfold inErr; rw [if_pos h0]
      unfold Hid inVal inPos nbErr nbPos; rw [e, if_pos (show (l.length : Int) - p < (8 : Nat) from h0), if_pos (show (l.length : Int) - p < (8 : Nat) from h0)]; exact ⟨rfl, rfl, rfl, rfl, rfl⟩
    rw [he.out.2.2.2.1, he.out.2.2.2.2] at H
    generalize rdN l p 8 = v at *
    go_enter Tryz.func32, Tryz.ntmps32
    go_wp2_with fail
    refine H.out.mono ?_
    rintro e w' ⟨rfl, hR, hG⟩
    have HR := Lib.hid hR
    clear hR
    go_wp2_with fail
    go_ret2
    rw [he.out.1, he.out.2.1, he.out.2.2.1]
    exact ⟨rfl, HR.out, hG⟩
  · have hv : Hid (rdN l p 8 = leNat ((l.drop p).take 8)) := by unfold Hid rdN; rw [if_neg (show ¬ (l.length : Int) - p < (8 : Nat) from h0)]
    have hnb : nbErr l p 8 = 0 ∧ nbPos l p 8 = p + 8 := by
      unfold nbErr nbPos; rw [if_neg (show ¬ (l.length : Int) - p < (8 : Nat) from h0), if_neg (show ¬ (l.length : Int) - p < (8 : Nat) from h0)]; exact ⟨rfl, rfl⟩
    rw [hnb.1, hnb.2] at H
    clear hnb
    by_cases h1 : 4611686018427387904 ≤ rdN l p 8
    · have he : Hid (inErr l p = 3 ∧ inVal l p = 0 ∧ inPos l p = p) := by
        have e : inErr l p = 3 := by unfold inErr; rw [if_neg h0, if_pos (by rw [← hv.out]; exact h1)]
        unfold Hid inVal inPos; rw [e]; exact ⟨rfl, rfl, rfl⟩
      have hd : decide ((4611686018427387903 : Int) < ((rdN l p 8 : Nat) : Int)) = true := decide_eq_true (by omega)
      clear hv h0
      generalize rdN l p 8 = v at *
      go_enter Tryz.func32, Tryz.ntmps32
      go_wp2_with fail
      refine H.out.mono ?_
      rintro e w' ⟨rfl, hR, hG⟩
      have HR := Lib.hid hR
      have c1 := hR.c1
      have f1 := hR.fr 1
      have w1 : IntKind.i64.wrap ((p : Int) + 8 - 8) = p := by rw [IntKind.wrap_i64] <;> omega
      clear hR
      go_wp2_with fail
      go_ret2
      rw [he.out.1, he.out.2.1, he.out.2.2]
      exact ⟨rfl, HR.out.put hp, only_put hG _⟩
    · have he : Hid (inErr l p = 0 ∧ inVal l p = rdN l p 8 ∧ inPos l p = p + 8) := by
        have e : inErr l p = 0 := by unfold inErr; rw [if_neg h0, if_neg (by rw [← hv.out]; exact h1)]
        unfold Hid inVal inPos; rw [e]; exact ⟨rfl, rfl, rfl⟩
      have hw : IntKind.i64.wrap ((rdN l p 8 : Nat) : Int) = (rdN l p 8 : Nat) := by rw [IntKind.wrap_i64] <;> omega
      have hd : decide ((4611686018427387903 : Int) < ((rdN l p 8 : Nat) : Int)) = false := decide_eq_false (by omega)
      clear hv h0
      generalize rdN l p 8 = v at *
      go_enter Tryz.func32, Tryz.ntmps32
      go_wp2_with fail
      refine H.out.mono ?_
      rintro e w' ⟨rfl, hR, hG⟩
      have HR := Lib.hid hR
      clear hR
      go_wp2_with fail
      go_ret2
      rw [he.out.1, he.out.2.1, he.out.2.2]
      exact ⟨rfl, HR.out, hG⟩

theorem rd_rest (l : List UInt8) (p : Nat) (hp : p ≤ l.length) : (ByteArray.mk l.toArray).extract p l.length = ⟨(l.drop p).toArray⟩ := by
  apply ByteArray.ext
  rw [ByteArray.data_extract]
  simp [List.take_of_length_le]

theorem rZeros_any (b p : Nat) (l : List UInt8) (w : World) (h : RdAt w b l p) :
    Calls Tryz.prog 36 #[.pointer (some ⟨b, 0, none⟩)] w fun e w' => e = .returned (.bool (allZ (l.drop p))) ∧ ∃ n, w' = w.drewN n := by
  have c0 := h.c0
  have c1 := h.c1
  have hp := h.2.1
  have hl := h.2.2
  have hld : (l.drop p).length ≤ 9223372036854775807 := by rw [List.length_drop]; omega
  obtain ⟨t, ht1, ht2, hT⟩ := trim_any (l.drop p) hld
  have HT := Lib.hid hT
  have H2 := Lib.hid ht2
  clear hT ht2
  have HE := rd_rest l p hp
  have i0 : (0 : Int) ≤ p := by omega
  have i1 : (p : Int) ≤ l.length := by omega
  clear h
  generalize l.drop p = m at *
  go_enter Tryz.func36, Tryz.ntmps36
  go_wp2_with fail
  go_quiet ((go_at_call 77; exact Calls.quiet_of (HT.out _)))
  go_wp2_with fail
  go_ret
  exact ⟨ret_bool H2.out, nq, rfl⟩

end Go.Proofs.YtlpbbjjibnbooaaGreatDoor

namespace Go.Proofs.YtlpbbjjibnbooaaGreatDoor
open Go.RowKit

theorem dropApp {a b : List UInt8} {k : Nat} (h : a.length = k) : (a ++ b).drop k = b := by rw [← h, List.drop_left]
theorem takeApp {a b : List UInt8} {k : Nat} (h : a.length = k) : (a ++ b).take k = a := by rw [← h, List.take_left]
theorem layL_cons (x n : Nat) : layL x (n + 1) = UInt8.ofNat x :: layL (x / 256) n := by
  simp [layL, List.range_succ_eq_map, Nat.div_div_eq_div_mul, Nat.pow_succ, Nat.mul_comm]
theorem layL_leNat : ∀ l : List UInt8, layL (leNat l) l.length = l
  | [] => rfl
  | x :: r => by
    have hx := x.toNat_lt
    rw [List.length_cons, layL_cons, leNat]
    have e1 : UInt8.ofNat (x.toNat + 256 * leNat r) = x := by
      apply UInt8.toNat_inj.1
      rw [UInt8.toNat_ofNat']; omega
    have e2 : (x.toNat + 256 * leNat r) / 256 = leNat r := by omega
    rw [e1, e2, layL_leNat r]

/-- The number of the n bytes from k on. -/
def subN (s : List UInt8) (k n : Nat) : Nat := leNat ((s.drop k).take n)
theorem subN_lt (s : List UInt8) (k n : Nat) : subN s k n < 256 ^ n :=
  Nat.lt_of_lt_of_le (leNat_lt _) (pow256_le (by rw [List.length_take]; omega))
theorem rdN_sub {s : List UInt8} {k n : Nat} (h : k + n ≤ s.length) : rdN s k n = subN s k n := by
  unfold rdN subN; rw [if_neg (by omega)]
def readP (s : List UInt8) : PtrD := ⟨subN s 0 4, subN s 4 4, subN s 8 4, subN s 12 4, decide (65536 ≤ subN s 16 4), (subN s 16 4 % 256 : Nat), (subN s 16 4 / 256 % 256 : Nat), subN s 20 4, subN s 24 8, subN s 32 8, subN s 40 8, subN s 48 8⟩
def readE (s : List UInt8) : Int := if s.length < 64 then 2 else if 64 < s.length then 3 else if 131071 < subN s 16 4 then 3 else if allZ (s.drop 56) then 0 else 3
def readV (s : List UInt8) : PtrD := if readE s = 0 then readP s else ptrZ

theorem subN_of {s a b : List UInt8} {x k n : Nat} (hd : s.drop k = a ++ b) (ha : a = layL x n) (hx : x < 256 ^ n) : subN s k n = x := by
  subst ha
  unfold subN
  rw [hd, takeApp (layL_len x n), leNat_layL, Nat.mod_eq_of_lt hx]
theorem drop_step {s a b : List UInt8} {k n : Nat} (hd : s.drop k = a ++ b) (ha : a.length = n) : s.drop (k + n) = b := by
  rw [← List.drop_drop, hd, dropApp ha]
/-- What is laid is read as it was. -/
theorem lay_back {p : PtrD} (hp : layOk p = true) (op : p.Ok) : readE (ptrL p) = 0 ∧ readP (ptrL p) = p ∧ (ptrL p).length = 64 := by
  obtain ⟨⟨a1, a2⟩, ⟨b1, b2⟩, ⟨c1, c2⟩, ⟨d1, d2⟩, ⟨e1, e2⟩, ⟨f1, f2⟩, ⟨g1, g2⟩⟩ := layOk_bd hp
  obtain ⟨o1, o2⟩ := ptrOne_bd hp
  obtain ⟨p0, p1, p2, p3, _⟩ := op
  have hone : ptrOne p ≤ 131071 := by unfold ptrOne; split <;> omega
  have h := ptrL_eq hp
  simp only [List.append_assoc] at h
  have hlen : (ptrL p).length = 64 := by rw [h]; simp [layL_len]
  generalize ptrL p = s at *
  have k0 : s.drop 0 = _ := h
  have k1 := drop_step k0 (layL_len _ _)
  have k2 := drop_step k1 (layL_len _ _)
  have k3 := drop_step k2 (layL_len _ _)
  have k4 := drop_step k3 (layL_len _ _)
  have k5 := drop_step k4 (layL_len _ _)
  have k6 := drop_step k5 (layL_len _ _)
  have k7 := drop_step k6 (layL_len _ _)
  have k8 := drop_step k7 (layL_len _ _)
  have k9 := drop_step k8 (layL_len _ _)
  have k10 := drop_step k9 (layL_len _ _)
  have m0 := subN_of k0 rfl (by omega)
  have m1 := subN_of k1 rfl (by omega)
  have m2 := subN_of k2 rfl (by omega)
  have m3 := subN_of k3 rfl (by omega)
  have m4 := subN_of k4 rfl (by omega)
  have m5 := subN_of k5 rfl (by omega)
  have m6 := subN_of k6 rfl (by omega)
  have m7 := subN_of k7 rfl (by omega)
  have m8 := subN_of k8 rfl (by omega)
  have m9 := subN_of k9 rfl (by omega)
  simp only [Nat.zero_add, Nat.reduceAdd] at m0 m1 m2 m3 m4 m5 m6 m7 m8 m9 k10
  refine ⟨?_, ?_, hlen⟩
  · unfold readE
    rw [if_neg (by omega), if_neg (by omega), m4, if_neg (by omega), k10, if_pos (by decide)]
  · have t : decide (65536 ≤ (ptrOne p).toNat) = p.two ∧ (((ptrOne p).toNat % 256 : Nat) : Int) = p.size ∧ (((ptrOne p).toNat / 256 % 256 : Nat) : Int) = p.level := by
      clear k0 k1 k2 k3 k4 k5 k6 k7 k8 k9 k10 m0 m1 m2 m3 m4 m5 m6 m7 m8 m9 h
      unfold ptrOne
      cases ht : p.two with
      | true => rw [if_pos rfl]; exact ⟨by simp; omega, by omega, by omega⟩
      | false => rw [if_neg (by simp)]; exact ⟨by simp; omega, by omega, by omega⟩
    unfold readP
    rw [m0, m1, m2, m3, m4, m5, m6, m7, m8, m9, t.1, t.2.1, t.2.2, Int.toNat_of_nonneg a1, Int.toNat_of_nonneg b1, Int.toNat_of_nonneg c1, Int.toNat_of_nonneg d1, Int.toNat_of_nonneg e1]
end Go.Proofs.YtlpbbjjibnbooaaGreatDoor

namespace Go.Proofs.YtlpbbjjibnbooaaGreatDoor
set_option linter.unusedVariables false
set_option linter.unusedSimpArgs false
open Go.RowKit

theorem nb_in {l : List UInt8} {p n : Nat} (h : p + n ≤ l.length) : nbErr l p n = 0 ∧ nbPos l p n = p + n := by
  unfold nbErr nbPos; rw [if_neg (by omega), if_neg (by omega)]; exact ⟨rfl, rfl⟩
theorem RdAt.far2 {w : World} {b p : Nat} {l : List UInt8} (h : RdAt w b l p) {q : Addr} (hq : b ≠ q.block) (u : Value) : RdAt (w.setCell q u) b l p := ⟨(Below.heap_setCell w q u b hq).trans h.1, h.2⟩
theorem RdAt.alloc1 {w : World} {b p : Nat} {l : List UInt8} (h : RdAt w b l p) (o : Obj) : RdAt (w.alloc o) b l p := ⟨(Below.heap_alloc w o b h.lt).trans h.1, h.2⟩
theorem RdAt.alloc2 {w : World} {b p : Nat} {l : List UInt8} (h : RdAt w b l p) (o o' : Obj) : RdAt ((w.alloc o).alloc o') b l p := (h.alloc1 o).alloc1 o'
def sumC (l : List UInt8) (p k : Nat) : Array Value := ((List.range 4).map fun i => if i < k then Value.int .u64 (subN l (p + 8 * i) 8 : Nat) else .int .u64 0).toArray
theorem sumC_put (l : List UInt8) (p : Nat) : ∀ k, k < 4 → (sumC l p k).setIfInBounds k (.int .u64 (subN l (p + 8 * k) 8 : Nat)) = sumC l p (k + 1)
  | 0, _ => rfl
  | 1, _ => rfl
  | 2, _ => rfl
  | 3, _ => rfl
theorem sumC_at (l : List UInt8) (p : Nat) : ∀ k j, k < 4 → ∃ v, (sumC l p j)[k]? = some v := by
  intro k j hk
  exact ⟨_, Array.getElem?_eq_getElem (by simp [sumC]; exact hk)⟩

set_option maxRecDepth 100000 in
set_option maxHeartbeats 1000000 in
theorem fread_any (b p : Nat) (l : List UInt8) (w : World) (h : RdAt w b l p) (hp : p + 32 ≤ l.length) :
    Calls Tryz.prog 33 #[.pointer (some ⟨b, 0, none⟩)] w fun e w' =>
      e = .returned (.tuple #[.agg #[.int .u64 (subN l p 8 : Nat), .int .u64 (subN l (p + 8) 8 : Nat), .int .u64 (subN l (p + 16) 8 : Nat), .int .u64 (subN l (p + 24) 8 : Nat)], .int .i64 0]) ∧ RdAt w' b l (p + 32) ∧ w.grownBy w' (some b) := by
  have hlt := h.lt
  have HR := Lib.hid h
  clear h
  go_enter Tryz.func33, Tryz.ntmps33
  go_wp2_with fail
  go_loopw [8] (fun t wr => ∃ k : Nat, k ≤ 4 ∧ t = .int .i64 k ∧ RdAt wr b l (p + 8 * k) ∧ Blk wr (w.heap.size + 1) 29 (sumC l p k) ∧ Blk wr w.heap.size 29 (sumC l p 0) ∧ w.grownBy wr (some b)) (fun t _ => 4 - (RowKit.intOf t).toNat)
  case atStart =>
    exact ⟨0, by omega, rfl, HR.out.alloc2 _ _, Blk.new2 w _ _ _, (Blk.new _ _ _).alloc _, only_alloc (only_alloc (World.grownBy.refl _ _) _) _⟩
  case round =>
    obtain ⟨k, hk, rfl, hR, hX, hZ, hG⟩ := hrel
    by_cases hlt4 : k < 4
    · have HN := Lib.hid (nb_in (l := l) (p := p + 8 * k) (n := 8) (by omega))
      have HV := Lib.hid (rdN_sub (s := l) (k := p + 8 * k) (n := 8) (by omega))
      have HG := Lib.hid hG
      have HX := Lib.hid hX
      have HZ := Lib.hid hZ
      have HRR := Lib.hid hR
      clear hR hX hZ hG
      go_wp2_with fail
      refine (rU64_any b _ l _ HRR.out).mono ?_
      rintro e w1 ⟨rfl, hR1, hG1⟩
      rw [HN.out.1, HV.out]
      rw [HN.out.2] at hR1
      have hX1 := HX.out.grown hG1 (by omega)
      have hZ1 := HZ.out.grown hG1 (by omega)
      have hG2 := only_then HG.out hG1 (.inl rfl)
      obtain ⟨v, hv⟩ := sumC_at l p k k hlt4
      have c1 := hX1.at_ hv
      have f1 := hX1.fr k
      have HX1 := Lib.hid hX1
      have HZ1 := Lib.hid hZ1
      have HR1 := Lib.hid hR1
      have i0 : (0 : Int) ≤ k := by omega
      have i1 : (k : Int) < 4 := by omega
      clear hX1 hZ1 hR1 hG1 HX HZ HG HRR hv
      go_wp2_with fail
      go_roundw
      case rel =>
        refine ⟨k + 1, by omega, by go_num, ?_, ?_, HZ1.out.far (by simp) _, only_set hG2 (.inr (by simp)) _⟩
        · exact HR1.out.far2 (by simp; omega) _
        · rw [← sumC_put l p k hlt4]; exact HX1.out.put k _
      case measure => simp [RowKit.intOf]; omega
    · obtain rfl : k = 4 := by omega
      have HG := Lib.hid hG
      have HX := Lib.hid hX
      have HZ := Lib.hid hZ
      have HRR := Lib.hid hR
      have x0 := hX.at_ (i := 0) (v := .int .u64 (subN l p 8 : Nat)) rfl
      have x1 := hX.at_ (i := 1) (v := .int .u64 (subN l (p + 8) 8 : Nat)) rfl
      have x2 := hX.at_ (i := 2) (v := .int .u64 (subN l (p + 16) 8 : Nat)) rfl
      have x3 := hX.at_ (i := 3) (v := .int .u64 (subN l (p + 24) 8 : Nat)) rfl
      have z0 := hZ.at_ (i := 0) (v := .int .u64 0) rfl
      have z1 := hZ.at_ (i := 1) (v := .int .u64 0) rfl
      have z2 := hZ.at_ (i := 2) (v := .int .u64 0) rfl
      have z3 := hZ.at_ (i := 3) (v := .int .u64 0) rfl
      have f0 := hZ.fr 0
      have f1 := hZ.fr 1
      have f2 := hZ.fr 2
      have f3 := hZ.fr 3
      clear hX hZ hG hR
      go_wp2_with fail
      refine bodyPost_ret (v := .tuple #[.agg (sumC l p 4), .int .i64 0]) (by simp [results, Tryz.results33, go_sem, sumC, z0, z1, z2, z3]) rfl ⟨rfl, ?_, ?_⟩
      · exact (((HRR.out.far2 (by simp; omega) _).far2 (by simp; omega) _).far2 (by simp; omega) _).far2 (by simp; omega) _
      · exact only_set (only_set (only_set (only_set HG.out (.inr (by simp)) _) (.inr (by simp)) _) (.inr (by simp)) _) (.inr (by simp)) _

theorem i64_and255 (n : Int) : bits .and .i64 n 255 = n % 256 := by
  have h : (BitVec.ofInt 64 255).toNat = 2 ^ 8 - 1 := by decide
  have key : (BitVec.ofInt 64 n &&& BitVec.ofInt 64 255).toNat = (n % ((2 ^ 64 : Nat) : Int)).toNat % 2 ^ 8 := by
    rw [BitVec.toNat_and, BitVec.toNat_ofInt, h, Nat.and_two_pow_sub_one_eq_mod]
  show IntKind.i64.wrap ((BitVec.ofInt 64 n &&& BitVec.ofInt 64 255).toNat : Nat) = n % 256
  rw [key, IntKind.wrap_i64]
  · omega
  all_goals omega
def intC (l : List UInt8) (k : Nat) : Array Value := ((List.range 6).map fun i => if i < k then Value.int .i64 (subN l (4 * i) 4 : Nat) else .int .i64 0).toArray
theorem intC_put (l : List UInt8) : ∀ k, k < 6 → (intC l k).setIfInBounds k (.int .i64 (subN l (4 * k) 4 : Nat)) = intC l (k + 1)
  | 0, _ => rfl
  | 1, _ => rfl
  | 2, _ => rfl
  | 3, _ => rfl
  | 4, _ => rfl
  | 5, _ => rfl
theorem intC_at (l : List UInt8) : ∀ k j, k < 6 → ∃ v, (intC l j)[k]? = some v := by
  intro k j hk
  exact ⟨_, Array.getElem?_eq_getElem (by simp [intC]; exact hk)⟩

set_option maxRecDepth 100000 in
set_option maxHeartbeats 2000000 in
theorem pread_any (s : List UInt8) (w : World) (hl : s.length ≤ 140737488351232) :
    Calls Tryz.prog 73 #[str s] w fun e w' => e = .returned (.tuple #[.agg (readV s).cells, .int .i64 (readE s)]) ∧ Below w.heap.size w w' := by
  by_cases h1 : s.length < 64
  · have he : Hid (readE s = 2 ∧ readV s = ptrZ) := by
      have : readE s = 2 := by unfold readE; rw [if_pos h1]
      unfold Hid readV; rw [this]; exact ⟨rfl, rfl⟩
    rw [he.out.1, he.out.2]
    go_enter Tryz.func73, Tryz.ntmps73
    go_wp2_with fail
    refine bodyPost_ret (v := .tuple #[.agg ptrZ.cells, .int .i64 2]) (by simp [results, Tryz.results73, go_sem, PtrD.cells, ptrZ]) rfl ⟨rfl, ?_⟩
    exact (Below.refl _ _).alloc (Nat.le_refl _) _
  · by_cases h2 : 64 < s.length
    · have he : Hid (readE s = 3 ∧ readV s = ptrZ) := by
        have : readE s = 3 := by unfold readE; rw [if_neg h1, if_pos h2]
        unfold Hid readV; rw [this]; exact ⟨rfl, rfl⟩
      rw [he.out.1, he.out.2]
      go_enter Tryz.func73, Tryz.ntmps73
      go_wp2_with fail
      refine bodyPost_ret (v := .tuple #[.agg ptrZ.cells, .int .i64 3]) (by simp [results, Tryz.results73, go_sem, PtrD.cells, ptrZ]) rfl ⟨rfl, ?_⟩
      exact (Below.refl _ _).alloc (Nat.le_refl _) _
    · have h3 : s.length = 64 := by omega
      have HL := Lib.hid h3
      clear h3
      go_enter Tryz.func73, Tryz.ntmps73
      go_wp2_with fail
      refine (new_any s _ hl).mono ?_
      rintro e w1 ⟨rfl, hR, hb⟩
      have hz : w.heap.size < (w.alloc (.cells ptrZ.cells 31)).heap.size := by simp
      have hb1 : Below w.heap.size w (w.alloc (.cells ptrZ.cells 31)) := (Below.refl _ _).alloc (Nat.le_refl _) _
      have hb2 : Below w.heap.size w w1 := hb1.trans (hb.mono hb1.size)
      have hZ : Blk w1 w.heap.size 31 ptrZ.cells := (Blk.new w 31 ptrZ.cells).below hb hz
      have hs : w.heap.size < w1.heap.size := Nat.lt_of_lt_of_le hz hb.size
      rw [World.size_alloc] at hR
      have HR := Lib.hid hR
      have HZ := Lib.hid hZ
      have hrb : w.heap.size + 1 < w1.heap.size := by have := hR.lt; simpa using this
      have HW : Hid (w.heap.size ≤ w1.heap.size) := Lib.hid (by omega)
      clear hR hZ hb hz hb1
      go_wp2_with fail
      go_loopw [21] (fun t wr => ∃ k : Nat, k ≤ 6 ∧ t = .int .i64 k ∧ RdAt wr (w.heap.size + 1) s (4 * k) ∧ Blk wr w1.heap.size 156 (intC s k) ∧ Blk wr w.heap.size 31 ptrZ.cells ∧ w1.grownBy wr (some (w.heap.size + 1))) (fun t _ => 6 - (RowKit.intOf t).toNat)
      case atStart => exact ⟨0, by omega, rfl, HR.out.alloc1 _, Blk.new _ _ _, HZ.out.alloc _, only_alloc (World.grownBy.refl _ _) _⟩
      case round =>
        obtain ⟨k, hk, rfl, hR, hX, hZ, hG⟩ := hrel
        by_cases hlt6 : k < 6
        · have HN := Lib.hid (nb_in (l := s) (p := 4 * k) (n := 4) (by have := HL.out; omega))
          have HV := Lib.hid (rdN_sub (s := s) (k := 4 * k) (n := 4) (by have := HL.out; omega))
          have HG := Lib.hid hG
          have HX := Lib.hid hX
          have HZ := Lib.hid hZ
          have HRR := Lib.hid hR
          clear hR hX hZ hG
          go_wp2_with fail
          refine (rU32_any _ _ s _ HRR.out).mono ?_
          rintro e w2 ⟨rfl, hR1, hG1⟩
          rw [HN.out.1, HV.out]
          rw [HN.out.2] at hR1
          have hX1 := HX.out.grown hG1 (by omega)
          have hZ1 := HZ.out.grown hG1 (by omega)
          have hG2 := only_then HG.out hG1 (.inl rfl)
          obtain ⟨v, hv⟩ := intC_at s k k hlt6
          have c1 := hX1.at_ hv
          have f1 := hX1.fr k
          have HX1 := Lib.hid hX1
          have HZ1 := Lib.hid hZ1
          have HR1 := Lib.hid hR1
          have i0 : (0 : Int) ≤ k := by omega
          have i1 : (k : Int) < 6 := by omega
          clear hX1 hZ1 hR1 hG1 HX HZ HG HRR hv
          go_wp2_with fail
          go_roundw
          case rel =>
            refine ⟨k + 1, by omega, by go_num, ?_, ?_, HZ1.out.far (by simp; omega) _, only_set hG2 (.inr (by simp)) _⟩
            · exact HR1.out.far2 (by simp; omega) _
            · rw [← intC_put s k hlt6]; exact HX1.out.put k _
          case measure => simp [RowKit.intOf]; omega
        · obtain rfl : k = 6 := by omega
          have hR24 : RdAt wr (w.heap.size + 1) s 24 := hR
          have HRR := Lib.hid (fread_any (w.heap.size + 1) 24 s wr hR24 (by have := HL.out; omega))
          have HX := Lib.hid hX
          have HZ := Lib.hid hZ
          have HG := Lib.hid hG
          have hsz := hG.size
          clear hR hR24 hX hZ hG
          go_wp2_with fail
          refine HRR.out.mono ?_
          rintro e w3 ⟨rfl, hR3, hG3⟩
          have hX3 := HX.out.grown hG3 (by omega)
          have hZ3 := HZ.out.grown hG3 (by omega)
          have hG4 := only_then HG.out hG3 (.inl rfl)
          have HB : Hid (Below w.heap.size w w3) := Lib.hid (below_only hb2 hG4 (by omega))
          have HXX := Lib.hid hX3
          have HZZ := Lib.hid hZ3
          have HR3 := Lib.hid hR3
          have hs3 : w1.heap.size < w3.heap.size := hX3.lt
          clear hX3 hZ3 hR3 hG3 hG4 HX HZ HG HRR hsz
          have x0 := HXX.out.at_ (i := 0) (v := .int .i64 (subN s 0 4 : Nat)) rfl
          have x1 := HXX.out.at_ (i := 1) (v := .int .i64 (subN s 4 4 : Nat)) rfl
          have x2 := HXX.out.at_ (i := 2) (v := .int .i64 (subN s 8 4 : Nat)) rfl
          have x3 := HXX.out.at_ (i := 3) (v := .int .i64 (subN s 12 4 : Nat)) rfl
          have x4 := HXX.out.at_ (i := 4) (v := .int .i64 (subN s 16 4 : Nat)) rfl
          have x5 := HXX.out.at_ (i := 5) (v := .int .i64 (subN s 20 4 : Nat)) rfl
          have z0 := HZZ.out.at_ (i := 0) (v := .int .i64 0) rfl
          have f0 := HZZ.out.fr 0
          have z1 := HZZ.out.at_ (i := 1) (v := .int .i64 0) rfl
          have f1 := HZZ.out.fr 1
          have z2 := HZZ.out.at_ (i := 2) (v := .int .i64 0) rfl
          have f2 := HZZ.out.fr 2
          have z3 := HZZ.out.at_ (i := 3) (v := .int .i64 0) rfl
          have f3 := HZZ.out.fr 3
          have z4 := HZZ.out.at_ (i := 4) (v := .bool false) rfl
          have f4 := HZZ.out.fr 4
          have z5 := HZZ.out.at_ (i := 5) (v := .int .i64 0) rfl
          have f5 := HZZ.out.fr 5
          have z6 := HZZ.out.at_ (i := 6) (v := .int .i64 0) rfl
          have f6 := HZZ.out.fr 6
          have z7 := HZZ.out.at_ (i := 7) (v := .int .i64 0) rfl
          have f7 := HZZ.out.fr 7
          have z8 := HZZ.out.at_ (i := 8) (v := .int .u64 0) rfl
          have f8 := HZZ.out.fr 8
          have z9 := HZZ.out.at_ (i := 9) (v := .int .u64 0) rfl
          have f9 := HZZ.out.fr 9
          have z10 := HZZ.out.at_ (i := 10) (v := .int .u64 0) rfl
          have f10 := HZZ.out.fr 10
          have z11 := HZZ.out.at_ (i := 11) (v := .int .u64 0) rfl
          have f11 := HZZ.out.fr 11
          have hw3 : w.heap.size < w3.heap.size := by omega
          have n4 := subN_lt s 16 4
          by_cases hbig : 131071 < subN s 16 4
          · have he : Hid (readE s = 3 ∧ readV s = ptrZ) := by
              have : readE s = 3 := by unfold readE; rw [if_neg h1, if_neg h2, if_pos hbig]
              unfold Hid readV; rw [this]; exact ⟨rfl, rfl⟩
            go_wp2_with fail
            refine bodyPost_ret (v := .tuple #[.agg ptrZ.cells, .int .i64 3]) (by simp [results, Tryz.results73, go_sem, PtrD.cells, ptrZ, hw3, z0, z1, z2, z3, z4, z5, z6, z7, z8, z9, z10, z11]) rfl ⟨by rw [he.out.1, he.out.2], ?_⟩
            repeat (first | (with_reducible exact HB.out) | (with_reducible refine keep_alloc ?_ _) | (with_reducible refine below_drewN ?_ _) | (with_reducible refine below_set ?_ _ _ _ (Nat.le_refl _)))
          · have HRA := HR3.out.alloc1 (.cells #[.int .u64 (subN s 24 8 : Nat), .int .u64 (subN s 32 8 : Nat), .int .u64 (subN s 40 8 : Nat), .int .u64 (subN s 48 8 : Nat)] 29)
            have HZR := Lib.hid (rZeros_any _ _ s _ HRA)
            clear HRA
            cases hz : allZ (s.drop 56) with
            | true =>
              have he : Hid (readE s = 0 ∧ readV s = readP s) := by
                have : readE s = 0 := by unfold readE; rw [if_neg h1, if_neg h2, if_neg hbig, if_pos hz]
                unfold Hid readV; rw [this]; exact ⟨rfl, rfl⟩
              have HZ5 := Lib.hid hz
              clear hz
              go_wp2_with fail
              refine HZR.out.mono ?_
              rintro e w4 ⟨rfl, k4, rfl⟩
              rw [HZ5.out]
              go_wp2_with fail
              have ha1 : bits .and .i64 ((subN s 16 4 : Nat) : Int) 255 = ((subN s 16 4 % 256 : Nat) : Int) := by rw [i64_and255]; omega
              have ha2 : bits .and .i64 (((subN s 16 4 : Nat) : Int) / 256) 255 = ((subN s 16 4 / 256 % 256 : Nat) : Int) := by rw [i64_and255]; omega
              have hbt : decide ((0 : Int) < ((subN s 16 4 : Nat) : Int) / 65536) = decide (65536 ≤ subN s 16 4) := decide_eq_decide.2 (by omega)
              rw [ha1, ha2, hbt]
              refine bodyPost_ret (v := .tuple #[.agg (readP s).cells, .int .i64 0]) (by simp [results, Tryz.results73, go_sem, PtrD.cells, readP, hw3, z0, z1, z2, z3, z4, z5, z6, z7, z8, z9, z10, z11]) rfl ⟨by rw [he.out.1, he.out.2], ?_⟩
              repeat (first | (with_reducible exact HB.out) | (with_reducible refine keep_alloc ?_ _) | (with_reducible refine below_drewN ?_ _) | (with_reducible refine below_set ?_ _ _ _ (Nat.le_refl _)))
            | false =>
              have he : Hid (readE s = 3 ∧ readV s = ptrZ) := by
                have : readE s = 3 := by unfold readE; rw [if_neg h1, if_neg h2, if_neg hbig, hz]; rfl
                unfold Hid readV; rw [this]; exact ⟨rfl, rfl⟩
              have HZ5 := Lib.hid hz
              clear hz
              go_wp2_with fail
              refine HZR.out.mono ?_
              rintro e w4 ⟨rfl, k4, rfl⟩
              rw [HZ5.out]
              go_wp2_with fail
              refine bodyPost_ret (v := .tuple #[.agg ptrZ.cells, .int .i64 3]) (by simp [results, Tryz.results73, go_sem, PtrD.cells, ptrZ, hw3, z0, z1, z2, z3, z4, z5, z6, z7, z8, z9, z10, z11]) rfl ⟨by rw [he.out.1, he.out.2], ?_⟩
              repeat (first | (with_reducible exact HB.out) | (with_reducible refine keep_alloc ?_ _) | (with_reducible refine below_drewN ?_ _) | (with_reducible refine below_set ?_ _ _ _ (Nat.le_refl _)))
end Go.Proofs.YtlpbbjjibnbooaaGreatDoor
