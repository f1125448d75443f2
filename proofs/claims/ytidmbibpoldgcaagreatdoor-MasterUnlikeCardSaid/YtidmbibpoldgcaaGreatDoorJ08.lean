/-
  strings.Trim at the one byte zero: what is left is empty just if all bytes are zero.
  More contracts of le's reader: numbers as what bytes come to; U32, Int, Zeros; the nil reader.
  Plain words on what bytes are read as pointers.
-/
import Derived.Test.YtidmbibpoldgcaaGreatDoorJ01
import Derived.Test.YtidmbibpoldgcaaGreatDoorJ07
import Derived.Laws.BitsAllLaws
namespace Go.Proofs.YtidmbibpoldgcaaGreatDoor
open Go.RowKit
set_option linter.unusedVariables false

def tLen : Value → Nat
  | .string b => b.size
  | _ => 0
theorem ex_drop1 (l : List UInt8) (h : 0 < l.length) : (ByteArray.mk l.toArray).extract 1 l.length = ⟨(l.drop 1).toArray⟩ := by
  apply ByteArray.ext
  rw [ByteArray.data_extract]
  simp [List.take_of_length_le]
theorem ex_take1 (l : List UInt8) (m : Nat) (h : m ≤ l.length) : (ByteArray.mk l.toArray).extract 0 m = ⟨(l.take m).toArray⟩ := by
  apply ByteArray.ext
  rw [ByteArray.data_extract]
  simp [List.extract_eq_take_drop]

theorem trimL_any (c : UInt8) (l : List UInt8) (w : World) (hl : l.length ≤ 9223372036854775807) :
    Calls Tryz.prog 61 #[str l, .int .u8 c.toNat] w fun e w' => (∃ k, k ≤ l.length ∧ e = .returned (str (l.drop k)) ∧ (∀ j, j < k → l[j]? = some c) ∧ ∀ x, l[k]? = some x → x ≠ c) ∧ w = w' := by
  go_enter Tryz.func61, Tryz.ntmps61
  go_wp2
  go_loop [0] (fun s => ∃ k, k ≤ l.length ∧ s = str (l.drop k) ∧ ∀ j, j < k → l[j]? = some c) (fun s => tLen s)
  case atStart => exact ⟨0, Nat.zero_le _, rfl, fun j hj => absurd hj (by omega)⟩
  case round =>
    obtain ⟨k, hk, rfl, hno⟩ := hrel
    have HN := Lib.hid hno
    clear hno
    have HM : Hid ((l.drop k).length = l.length - k) := Lib.hid (List.length_drop ..)
    have hml : (l.drop k).length ≤ 9223372036854775807 := by rw [HM.out]; omega
    have HX : Hid (∀ i, (l.drop k)[i]? = l[k + i]?) := Lib.hid fun i => List.getElem?_drop ..
    have HD : Hid ((l.drop k).drop 1 = l.drop (k + 1)) := Lib.hid (by rw [List.drop_drop])
    generalize hm : l.drop k = m at *
    have HMM := Lib.hid hm
    clear hm
    by_cases h0 : 0 < m.length
    · have HE := Lib.hid (ex_drop1 m h0)
      have hx : m[0]? = some (m[0]'h0) := List.getElem?_eq_getElem h0
      have HXX := Lib.hid hx
      clear hx
      by_cases hq : m[0]'h0 = c
      · have q1 : ((((ByteArray.mk m.toArray)[0]'(by rw [ba_size]; exact h0)).toNat : Int) == (c.toNat : Int)) = true := by rw [ba_get]; simp [hq]
        have HQ := Lib.hid hq
        clear hq
        go_wp2_with fail
        go_round
        case rel =>
          refine ⟨k + 1, by have := HM.out; omega, ?_, fun j hj => ?_⟩
          · show Value.string _ = Value.string _
            rw [HE.out, HD.out]
          · rcases Nat.lt_or_ge j k with h | h
            · exact HN.out j h
            · obtain rfl : j = k := by omega
              rw [← HQ.out, ← HXX.out, HX.out]; rfl
        case measure =>
          rw [HE.out]
          simp [tLen, ba_size]
          omega
      · have q1 : ((((ByteArray.mk m.toArray)[0]'(by rw [ba_size]; exact h0)).toNat : Int) == (c.toNat : Int)) = false := by
          rw [ba_get, beq_eq_false_iff_ne]; intro h; exact hq (UInt8.toNat_inj.1 (by exact_mod_cast h))
        have HQ := Lib.hid hq
        clear hq
        go_wp2_with fail
        go_ret
        refine ⟨⟨k, hk, by rw [HMM.out]; rfl, HN.out, fun x hx => ?_⟩, rfl⟩
        have h1 := HX.out 0
        rw [HXX.out, Nat.add_zero, hx] at h1
        injection h1 with h1
        rw [← h1]; exact HQ.out
    · go_wp2_with fail
      go_ret
      refine ⟨⟨k, hk, by rw [HMM.out]; rfl, HN.out, fun x hx => ?_⟩, rfl⟩
      have h1 := HM.out
      have h2 := (List.getElem?_eq_some_iff.1 hx).1
      omega
theorem trimR_any (c : UInt8) (l : List UInt8) (w : World) (hl : l.length ≤ 9223372036854775807) :
    Calls Tryz.prog 62 #[str l, .int .u8 c.toNat] w fun e w' => (∃ k, k ≤ l.length ∧ e = .returned (str (l.take k)) ∧ (∀ j, k ≤ j → j < l.length → l[j]? = some c) ∧ ∀ x, 0 < k → l[k - 1]? = some x → x ≠ c) ∧ w = w' := by
  go_enter Tryz.func62, Tryz.ntmps62
  go_wp2
  go_loop [0] (fun s => ∃ k, k ≤ l.length ∧ s = str (l.take k) ∧ ∀ j, k ≤ j → j < l.length → l[j]? = some c) (fun s => tLen s)
  case atStart => exact ⟨l.length, Nat.le_refl _, by rw [List.take_length], fun j hj hj2 => absurd hj (by omega)⟩
  case round =>
    obtain ⟨k, hk, rfl, hno⟩ := hrel
    have HN := Lib.hid hno
    clear hno
    have HM : Hid ((l.take k).length = k) := Lib.hid (by rw [List.length_take]; omega)
    have hml : (l.take k).length ≤ 9223372036854775807 := by rw [HM.out]; omega
    have HX : Hid (∀ i, i < k → (l.take k)[i]? = l[i]?) := Lib.hid fun i hi => List.getElem?_take_of_lt hi
    have HD : Hid (∀ i, i ≤ k → (l.take k).take i = l.take i) := Lib.hid fun i hi => by rw [List.take_take]; congr 1; omega
    generalize hm : l.take k = m at *
    have HMM := Lib.hid hm
    clear hm
    by_cases h0 : 0 < m.length
    · have HE := Lib.hid (ex_take1 m (m.length - 1) (by omega))
      have h1 : m.length - 1 < m.length := by omega
      have hx : m[m.length - 1]? = some (m[m.length - 1]'h1) := List.getElem?_eq_getElem h1
      have HXX := Lib.hid hx
      have hi0 : (0 : Int) ≤ (m.length : Int) - 1 := by omega
      have hi1 : (m.length : Int) - 1 < m.length := by omega
      have ht : ((m.length : Int) - 1).toNat = m.length - 1 := by omega
      clear hx
      by_cases hq : m[m.length - 1]'h1 = c
      · have q1 : ((((ByteArray.mk m.toArray)[m.length - 1]'(by rw [ba_size]; exact h1)).toNat : Int) == (c.toNat : Int)) = true := by rw [ba_get]; simp [hq]
        have HQ := Lib.hid hq
        clear hq
        go_wp2_with fail
        go_round
        case rel =>
          have hk1 := HM.out
          refine ⟨m.length - 1, by omega, ?_, fun j hj hj2 => ?_⟩
          · show Value.string _ = Value.string _
            rw [HE.out, HD.out _ (by omega)]
          · rcases Nat.lt_or_ge j k with h | h
            · obtain rfl : j = m.length - 1 := by omega
              rw [← HX.out _ h, HXX.out, HQ.out]
            · exact HN.out j h hj2
        case measure =>
          rw [HE.out]
          simp [tLen, ba_size]
          omega
      · have q1 : ((((ByteArray.mk m.toArray)[m.length - 1]'(by rw [ba_size]; exact h1)).toNat : Int) == (c.toNat : Int)) = false := by
          rw [ba_get, beq_eq_false_iff_ne]; intro h; exact hq (UInt8.toNat_inj.1 (by exact_mod_cast h))
        have HQ := Lib.hid hq
        clear hq
        go_wp2_with fail
        go_ret
        refine ⟨⟨k, hk, by rw [HMM.out]; rfl, HN.out, fun x hk0 hx => ?_⟩, rfl⟩
        have h2 := HX.out (k - 1) (by omega)
        have h3 := HXX.out
        have h4 : m[m.length - 1]? = m[k - 1]? := by rw [show m.length = k from HM.out]
        rw [h4, h2, hx] at h3
        injection h3 with h3
        rw [h3]; exact HQ.out
    · go_wp2_with fail
      go_ret
      refine ⟨⟨k, hk, by rw [HMM.out]; rfl, HN.out, fun x hk0 hx => ?_⟩, rfl⟩
      have h1 := HM.out
      omega
theorem right_ex (c : UInt8) (l : List UInt8) : ∀ n, n ≤ l.length → ∃ k, k ≤ n ∧ (∀ j, k ≤ j → j < n → l[j]? = some c) ∧ ∀ x, 0 < k → l[k - 1]? = some x → x ≠ c
  | 0, _ => ⟨0, Nat.le_refl _, fun j _ h => absurd h (by omega), fun x h => absurd h (by omega)⟩
  | n + 1, hn => by
    by_cases h : l[n]? = some c
    · obtain ⟨k, h1, h2, h3⟩ := right_ex c l n (by omega)
      refine ⟨k, by omega, fun j hj hj2 => ?_, h3⟩
      rcases Nat.lt_or_ge j n with h4 | h4
      · exact h2 j hj h4
      · obtain rfl : j = n := by omega
        exact h
    · exact ⟨n + 1, Nat.le_refl _, fun j h1 h2 => absurd h1 (by omega), fun x _ hx e => h (by rw [← e]; exact hx)⟩
theorem left_ex (c : UInt8) : ∀ l : List UInt8, ∃ k, k ≤ l.length ∧ (∀ j, j < k → l[j]? = some c) ∧ ∀ x, l[k]? = some x → x ≠ c
  | [] => ⟨0, Nat.le_refl _, fun j h => absurd h (by omega), fun x h => by simp at h⟩
  | x :: r => by
    by_cases h : x = c
    · obtain ⟨k, h1, h2, h3⟩ := left_ex c r
      refine ⟨k + 1, by simp; omega, fun j hj => ?_, fun y hy => h3 y (by simpa using hy)⟩
      match j, hj with
      | 0, _ => simp [h]
      | j + 1, hj => simpa using h2 j (by omega)
    · exact ⟨0, Nat.zero_le _, fun j h => absurd h (by omega), fun y hy => by simp at hy; rw [← hy]; exact h⟩

set_option maxRecDepth 100000 in
theorem trim_any (l : List UInt8) (hl : l.length ≤ 9223372036854775807) : ∃ t : List UInt8, t.length ≤ l.length ∧ t.isEmpty = allZ l ∧
    ∀ w, Calls Tryz.prog 50 #[str l, .string ⟨#[0]⟩] w fun e w' => e = .returned (str t) ∧ ∃ n, w' = w.drewN n := by
  by_cases h0 : l = []
  · subst h0
    refine ⟨[], Nat.le_refl _, rfl, fun w => ?_⟩
    go_enter Tryz.func50, Tryz.ntmps50
    go_wp2_with fail
    go_ret
    exact ⟨rfl, 0, rfl⟩
  · have hn : l.isEmpty = false := by simpa using h0
    obtain ⟨k, hk, g1, g2⟩ := right_ex 0 l l.length (Nat.le_refl _)
    have HR : Hid (∀ W, Calls Tryz.prog 62 #[str l, .int .u8 0] W fun e w' => e = .returned (str (l.take k)) ∧ w' = W) := Lib.hid fun W => (trimR_any 0 l W hl).mono fun e w' ⟨⟨k', a, b, c, d⟩, hw⟩ => by
      have : k' = k := by
        rcases Nat.lt_trichotomy k' k with h | h | h
        · exact absurd rfl (g2 0 (by omega) (c (k - 1) (by omega) (by omega)))
        · exact h
        · exact absurd rfl (d 0 (by omega) (g1 (k' - 1) (by omega) (by omega)))
      subst this
      exact ⟨b, hw.symm⟩
    have HT : Hid ((l.take k).length = k) := Lib.hid (by rw [List.length_take]; omega)
    have HG : Hid (∀ i, i < k → (l.take k)[i]? = l[i]?) := Lib.hid fun i hi => List.getElem?_take_of_lt hi
    have hml : (l.take k).length ≤ 9223372036854775807 := by rw [HT.out]; omega
    have H1 := Lib.hid g1
    clear g1 g2
    generalize l.take k = m at *
    obtain ⟨q, hq, g3, g4⟩ := left_ex 0 m
    have HL : Hid (∀ W, Calls Tryz.prog 61 #[str m, .int .u8 0] W fun e w' => e = .returned (str (m.drop q)) ∧ w' = W) := Lib.hid fun W => (trimL_any 0 m W hml).mono fun e w' ⟨⟨q', a, b, c, d⟩, hw⟩ => by
      have : q' = q := by
        rcases Nat.lt_trichotomy q' q with h | h | h
        · exact absurd rfl (d 0 (g3 q' h))
        · exact h
        · exact absurd rfl (g4 0 (c q h))
      subst this
      exact ⟨b, hw.symm⟩
    have H3 := Lib.hid g3
    have H4 := Lib.hid g4
    have hz : (ByteArray.mk #[0])[0]'(by decide) = 0 := rfl
    have hl0 : 0 < l.length := List.length_pos_iff.2 h0
    have HD : Hid ((m.drop q).length = m.length - q) := Lib.hid (List.length_drop ..)
    clear h0 g3 g4
    generalize hd : m.drop q = d at *
    have HDD := Lib.hid hd
    clear hd
    refine ⟨d, by have := HT.out; rw [HD.out]; omega, ?_, fun w => ?_⟩
    rotate_left
    · go_enter Tryz.func50, Tryz.ntmps50
      go_wp2_with fail
      go_quiet ((first | (go_at_call 62; exact Calls.quiet_of_same (HR.out _)) | (go_at_call 61; exact Calls.quiet_of_same (HL.out _))))
      go_wp2_with fail
      go_ret
      exact ⟨rfl, nq, rfl⟩
    have hkm := HT.out
    rw [← HDD.out, Bool.eq_iff_iff, List.isEmpty_iff, List.drop_eq_nil_iff]
    unfold allZ
    rw [List.all_eq_true]
    constructor
    · intro hqe x hx
      obtain ⟨j, hj⟩ := List.mem_iff_getElem?.1 hx
      have hjl := (List.getElem?_eq_some_iff.1 hj).1
      rcases Nat.lt_or_ge j k with h | h
      · have := H3.out j (by omega)
        rw [HG.out j h, hj] at this
        injection this with this
        simp [this]
      · have := H1.out j h hjl
        rw [hj] at this
        injection this with this
        simp [this]
    · intro hall
      rcases Nat.lt_or_ge q k with h | h
      · exfalso
        have hqv : ∃ x, m[q]? = some x := ⟨_, List.getElem?_eq_getElem (by omega)⟩
        obtain ⟨x, hx⟩ := hqv
        have h5 := H4.out x hx
        rw [HG.out q h] at hx
        have := hall x (List.mem_of_getElem? hx)
        exact h5 (by simpa using this)
      · omega
end Go.Proofs.YtidmbibpoldgcaaGreatDoor

namespace Go.Proofs.YtidmbibpoldgcaaGreatDoor
open Go.RowKit
set_option linter.unusedVariables false

/-- What bytes come to, the lowest first. -/
def leNat : List UInt8 → Nat
  | [] => 0
  | x :: r => x.toNat + 256 * leNat r
theorem leNat_snoc (l : List UInt8) (x : UInt8) : leNat (l ++ [x]) = leNat l + x.toNat * 256 ^ l.length := by
  induction l with
  | nil => simp [leNat]
  | cons y l ih =>
    simp only [List.cons_append, leNat, ih, List.length_cons, Nat.pow_succ, Nat.mul_add]
    rw [show x.toNat * (256 ^ l.length * 256) = 256 * (x.toNat * 256 ^ l.length) by rw [Nat.mul_comm (256 ^ l.length) 256, Nat.mul_left_comm]]
    omega
theorem leNat_lt (l : List UInt8) : leNat l < 256 ^ l.length := by
  induction l with
  | nil => simp [leNat]
  | cons x l ih =>
    have := x.toNat_lt
    simp only [leNat, List.length_cons, Nat.pow_succ]
    omega
theorem leNat_layL (x n : Nat) : leNat (layL x n) = x % 256 ^ n := by
  induction n with
  | zero => simp [layL, leNat, Nat.mod_one]
  | succ n ih =>
    have e : x % 256 ^ (n + 1) = x % 256 ^ n + 256 ^ n * (x / 256 ^ n % 256) := by rw [Nat.pow_succ, Nat.mod_mul]
    rw [layL_succ, leNat_snoc, ih, layL_len, UInt8.toNat_ofNat', e, Nat.mul_comm]
theorem pow256 (k : Nat) : (256 : Nat) ^ k = 2 ^ (8 * k) := by rw [Nat.pow_mul]
theorem pow256_le {k n : Nat} (h : k ≤ n) : (256 : Nat) ^ k ≤ 256 ^ n := Nat.pow_le_pow_right (by omega) h

theorem or_step (x b k : Nat) (hx : x < 256 ^ k) (hb : b < 256) (hk : k < 8) :
    bits .or .u64 (x : Int) (IntKind.u64.wrap (IntKind.u64.wrap (b : Int) * 2 ^ (8 * k))) = ((x + b * 256 ^ k : Nat) : Int) := by
  have h8 : (256 : Nat) ^ k * 256 ≤ 18446744073709551616 := by
    have := pow256_le (show k + 1 ≤ 8 by omega)
    rw [Nat.pow_succ] at this
    exact Nat.le_trans this (by decide)
  have hbk : b * 256 ^ k < 18446744073709551616 := by
    have : b * 256 ^ k < 256 * 256 ^ k := Nat.mul_lt_mul_of_pos_right hb (Nat.pow_pos (by omega))
    omega
  have w1 : IntKind.u64.wrap (b : Int) = b := IntWalk.u64_in _ (by omega)
  have w2 : ((b : Int) * 2 ^ (8 * k)) = ((b * 256 ^ k : Nat) : Int) := by rw [pow256]; push_cast; rfl
  have w3 : IntKind.u64.wrap ((b * 256 ^ k : Nat) : Int) = ((b * 256 ^ k : Nat) : Int) := IntWalk.u64_in _ (by omega)
  rw [w1, w2, w3, u64_or_nat _ _ (by omega) hbk]
  congr 1
  rw [pow256] at hx ⊢
  rw [Nat.or_comm, ← Nat.shiftLeft_eq, ← Nat.shiftLeft_add_eq_or_of_lt hx]
  omega

theorem numTo_eq (l : List UInt8) (p k : Nat) (h : p + k ≤ l.length) (hk : k ≤ 8) : numTo l p k = (leNat ((l.drop p).take k) : Nat) := by
  induction k with
  | zero => simp [numTo, leNat]
  | succ k ih =>
    have hlt : p + k < l.length := by omega
    have hg : (l.drop p)[k]? = some (l[p + k]'hlt) := by rw [List.getElem?_drop]; exact List.getElem?_eq_getElem hlt
    have e1 : l.getD (p + k) 0 = l[p + k]'hlt := by rw [List.getD_eq_getElem?_getD, List.getElem?_eq_getElem hlt]; rfl
    have e2 : ((l.drop p).take k).length = k := by rw [List.length_take, List.length_drop]; omega
    have e3 := leNat_lt ((l.drop p).take k)
    rw [e2] at e3
    rw [numTo, ih (by omega) (by omega), e1, or_step _ _ _ e3 (UInt8.toNat_lt _) (by omega)]
    congr 1
    rw [List.take_add_one, hg]
    simp only [Option.toList_some]
    rw [leNat_snoc, e2]

/-- What is read: n bytes from p on, if there are so many. -/
def rdN (l : List UInt8) (p n : Nat) : Nat := if (l.length : Int) - p < n then 0 else leNat ((l.drop p).take n)
theorem nbVal_eq {l : List UInt8} {p n : Nat} (hn : n ≤ 8) (hp : p ≤ l.length) : nbVal l p n = (rdN l p n : Nat) := by
  unfold nbVal rdN
  split
  · rfl
  · rename_i h
    exact numTo_eq l p n (by omega) hn
theorem rdN_lt (l : List UInt8) (p n : Nat) : rdN l p n < 256 ^ n := by
  unfold rdN
  split
  · exact Nat.pow_pos (by omega)
  · have := leNat_lt ((l.drop p).take n)
    refine Nat.lt_of_lt_of_le this (pow256_le ?_)
    rw [List.length_take]; omega

theorem num_any (b p n : Nat) (l : List UInt8) (w : World) (h : RdAt w b l p) (hn : n ≤ 8) :
    Calls Tryz.prog 60 #[.pointer (some ⟨b, 0, none⟩), .int .i64 n] w fun e w' =>
      e = .returned (.tuple #[.int .u64 (rdN l p n : Nat), .int .i64 (nbErr l p n)]) ∧ RdAt w' b l (nbPos l p n) ∧ w.grownBy w' (some b) :=
  (number_any b p n l w h hn).mono fun e w' ⟨h1, h2⟩ => ⟨by rw [h1, nbVal_eq hn h.2.1], h2⟩

theorem rU64_any (b p : Nat) (l : List UInt8) (w : World) (h : RdAt w b l p) :
    Calls Tryz.prog 94 #[.pointer (some ⟨b, 0, none⟩)] w fun e w' =>
      e = .returned (.tuple #[.int .u64 (rdN l p 8 : Nat), .int .i64 (nbErr l p 8)]) ∧ RdAt w' b l (nbPos l p 8) ∧ w.grownBy w' (some b) :=
  (rdU64_any b p l w h).mono fun e w' ⟨h1, h2⟩ => ⟨by rw [h1, nbVal_eq (by omega) h.2.1], h2⟩

theorem rU32_any (b p : Nat) (l : List UInt8) (w : World) (h : RdAt w b l p) :
    Calls Tryz.prog 78 #[.pointer (some ⟨b, 0, none⟩)] w fun e w' =>
      e = .returned (.tuple #[.int .i64 (rdN l p 4 : Nat), .int .i64 (nbErr l p 4)]) ∧ RdAt w' b l (nbPos l p 4) ∧ w.grownBy w' (some b) := by
  have H := Lib.hid (num_any b p 4 l w h (by omega))
  have hlt := rdN_lt l p 4
  have hw : IntKind.i64.wrap ((rdN l p 4 : Nat) : Int) = (rdN l p 4 : Nat) := by rw [IntKind.wrap_i64] <;> omega
  clear h
  generalize rdN l p 4 = v at *
  go_enter Tryz.func78, Tryz.ntmps78
  go_wp2_with fail
  refine H.out.mono ?_
  rintro e w' ⟨rfl, hR, hG⟩
  go_wp2_with fail
  go_ret2
  exact ⟨rfl, hR, hG⟩

def inErr (l : List UInt8) (p : Nat) : Int := if (l.length : Int) - p < 8 then 2 else if 4611686018427387904 ≤ leNat ((l.drop p).take 8) then 3 else 0
def inVal (l : List UInt8) (p : Nat) : Nat := if inErr l p = 0 then rdN l p 8 else 0
def inPos (l : List UInt8) (p : Nat) : Nat := if inErr l p = 0 then p + 8 else p

theorem rInt_any (b p : Nat) (l : List UInt8) (w : World) (h : RdAt w b l p) :
    Calls Tryz.prog 49 #[.pointer (some ⟨b, 0, none⟩)] w fun e w' =>
      e = .returned (.tuple #[.int .i64 (inVal l p : Nat), .int .i64 (inErr l p)]) ∧ RdAt w' b l (inPos l p) ∧ w.grownBy w' (some b) := by
  have H := Lib.hid (num_any b p 8 l w h (by omega))
  have hp := h.2.1
  have hl := h.2.2
  have hlt := rdN_lt l p 8
  clear h
  by_cases h0 : (l.length : Int) - p < 8
  · have he : Hid (inErr l p = 2 ∧ inVal l p = 0 ∧ inPos l p = p ∧ nbErr l p 8 = 2 ∧ nbPos l p 8 = p) := by
      have e : inErr l p = 2 := by unfold inErr; rw [if_pos h0]
      unfold Hid inVal inPos nbErr nbPos; rw [e, if_pos (show (l.length : Int) - p < (8 : Nat) from h0), if_pos (show (l.length : Int) - p < (8 : Nat) from h0)]; exact ⟨rfl, rfl, rfl, rfl, rfl⟩
    rw [he.out.2.2.2.1, he.out.2.2.2.2] at H
    generalize rdN l p 8 = v at *
    go_enter Tryz.func49, Tryz.ntmps49
    go_wp2_with fail
    refine H.out.mono ?_
    rintro e w' ⟨rfl, hR, hG⟩
    have HR := Lib.hid hR
    clear hR
    go_wp2_with fail
    go_ret2
    rw [he.out.1, he.out.2.1, he.out.2.2.1]
    exact ⟨rfl, HR.out, hG⟩
  · have hv : Hid (rdN l p 8 = leNat ((l.drop p).take 8)) := by unfold Hid rdN; rw [if_neg (show ¬ (l.length : Int) - p < (8 : Nat) from h0)]
    have hnb : nbErr l p 8 = 0 ∧ nbPos l p 8 = p + 8 := by
      unfold nbErr nbPos; rw [if_neg (show ¬ (l.length : Int) - p < (8 : Nat) from h0), if_neg (show ¬ (l.length : Int) - p < (8 : Nat) from h0)]; exact ⟨rfl, rfl⟩
    rw [hnb.1, hnb.2] at H
    clear hnb
    by_cases h1 : 4611686018427387904 ≤ rdN l p 8
    · have he : Hid (inErr l p = 3 ∧ inVal l p = 0 ∧ inPos l p = p) := by
        have e : inErr l p = 3 := by unfold inErr; rw [if_neg h0, if_pos (by rw [← hv.out]; exact h1)]
        unfold Hid inVal inPos; rw [e]; exact ⟨rfl, rfl, rfl⟩
      have hd : decide ((4611686018427387903 : Int) < ((rdN l p 8 : Nat) : Int)) = true := decide_eq_true (by omega)
      clear hv h0
      generalize rdN l p 8 = v at *
      go_enter Tryz.func49, Tryz.ntmps49
      go_wp2_with fail
      refine H.out.mono ?_
      rintro e w' ⟨rfl, hR, hG⟩
      have HR := Lib.hid hR
      have c1 := hR.c1
      have f1 := hR.fr 1
      have w1 : IntKind.i64.wrap ((p : Int) + 8 - 8) = p := by rw [IntKind.wrap_i64] <;> omega
      clear hR
      go_wp2_with fail
      go_ret2
      rw [he.out.1, he.out.2.1, he.out.2.2]
      exact ⟨rfl, HR.out.put hp, only_put hG _⟩
    · have he : Hid (inErr l p = 0 ∧ inVal l p = rdN l p 8 ∧ inPos l p = p + 8) := by
        have e : inErr l p = 0 := by unfold inErr; rw [if_neg h0, if_neg (by rw [← hv.out]; exact h1)]
        unfold Hid inVal inPos; rw [e]; exact ⟨rfl, rfl, rfl⟩
      have hw : IntKind.i64.wrap ((rdN l p 8 : Nat) : Int) = (rdN l p 8 : Nat) := by rw [IntKind.wrap_i64] <;> omega
      have hd : decide ((4611686018427387903 : Int) < ((rdN l p 8 : Nat) : Int)) = false := decide_eq_false (by omega)
      clear hv h0
      generalize rdN l p 8 = v at *
      go_enter Tryz.func49, Tryz.ntmps49
      go_wp2_with fail
      refine H.out.mono ?_
      rintro e w' ⟨rfl, hR, hG⟩
      have HR := Lib.hid hR
      clear hR
      go_wp2_with fail
      go_ret2
      rw [he.out.1, he.out.2.1, he.out.2.2]
      exact ⟨rfl, HR.out, hG⟩

theorem rd_rest (l : List UInt8) (p : Nat) (hp : p ≤ l.length) : (ByteArray.mk l.toArray).extract p l.length = ⟨(l.drop p).toArray⟩ := by
  apply ByteArray.ext
  rw [ByteArray.data_extract]
  simp [List.take_of_length_le]

theorem rZeros_any (b p : Nat) (l : List UInt8) (w : World) (h : RdAt w b l p) :
    Calls Tryz.prog 29 #[.pointer (some ⟨b, 0, none⟩)] w fun e w' => e = .returned (.bool (allZ (l.drop p))) ∧ ∃ n, w' = w.drewN n := by
  have c0 := h.c0
  have c1 := h.c1
  have hp := h.2.1
  have hl := h.2.2
  have hld : (l.drop p).length ≤ 9223372036854775807 := by rw [List.length_drop]; omega
  obtain ⟨t, ht1, ht2, hT⟩ := trim_any (l.drop p) hld
  have HT := Lib.hid hT
  have H2 := Lib.hid ht2
  clear hT ht2
  have HE := rd_rest l p hp
  have i0 : (0 : Int) ≤ p := by omega
  have i1 : (p : Int) ≤ l.length := by omega
  clear h
  generalize l.drop p = m at *
  go_enter Tryz.func29, Tryz.ntmps29
  go_wp2_with fail
  go_quiet ((go_at_call 50; exact Calls.quiet_of (HT.out _)))
  go_wp2_with fail
  go_ret
  exact ⟨ret_bool H2.out, nq, rfl⟩

theorem nilLeft_any (w : World) : Calls Tryz.prog 58 #[.pointer none] w fun e w' => e = .returned (.int .i64 0) ∧ w = w' := by
  go_enter Tryz.func58, Tryz.ntmps58
  go_wp2_with fail
  go_ret
  exact ⟨rfl, rfl⟩
theorem nilZeros_any (w : World) : Calls Tryz.prog 29 #[.pointer none] w fun e w' => e = .returned (.bool true) ∧ ∃ n, w' = w.drewN n := by
  go_enter Tryz.func29, Tryz.ntmps29
  go_wp2_with fail
  go_quiet (fail)
  go_wp2_with fail
  go_ret
  exact ⟨rfl, nq, rfl⟩
theorem nilTake_any (n : Nat) (w : World) (hn : n ≤ 9223372036854775807) : Calls Tryz.prog 46 #[.pointer none, .int .i64 n] w fun e w' => e = .returned (.tuple #[str [], .int .i64 2]) ∧ ∃ n, w' = w.drewN n := by
  have HL := Lib.hid nilLeft_any
  by_cases h0 : n = 0
  · subst h0
    go_enter Tryz.func46, Tryz.ntmps46
    go_wp2_with fail
    refine (HL.out _).mono ?_
    rintro e w' ⟨rfl, rfl⟩
    go_wp2_with fail
    go_ret2
    exact ⟨rfl, 0, rfl⟩
  · have h1 : 0 < (n : Int) := by omega
    go_enter Tryz.func46, Tryz.ntmps46
    go_wp2_with fail
    refine (HL.out _).mono ?_
    rintro e w' ⟨rfl, rfl⟩
    go_wp2_with fail
    go_ret2
    exact ⟨rfl, 0, rfl⟩

theorem nilNum_any (n : Nat) (w : World) (hn : 0 < n) (hn2 : n ≤ 8) :
    Calls Tryz.prog 60 #[.pointer none, .int .i64 n] w fun e w' => e = .returned (.tuple #[.int .u64 0, .int .i64 2]) ∧ w = w' := by
  go_enter Tryz.func60, Tryz.ntmps60
  go_wp2_with fail
  refine (nilLeft_any w).mono ?_
  rintro e w' ⟨rfl, rfl⟩
  go_wp2_with fail
  go_ret2
  exact ⟨rfl, rfl⟩
end Go.Proofs.YtidmbibpoldgcaaGreatDoor

namespace Go.Proofs.YtidmbibpoldgcaaGreatDoor
open Go.RowKit

theorem dropApp {a b : List UInt8} {k : Nat} (h : a.length = k) : (a ++ b).drop k = b := by rw [← h, List.drop_left]
theorem takeApp {a b : List UInt8} {k : Nat} (h : a.length = k) : (a ++ b).take k = a := by rw [← h, List.take_left]
theorem layL_cons (x n : Nat) : layL x (n + 1) = UInt8.ofNat x :: layL (x / 256) n := by
  simp [layL, List.range_succ_eq_map, Nat.div_div_eq_div_mul, Nat.pow_succ, Nat.mul_comm]
theorem layL_leNat : ∀ l : List UInt8, layL (leNat l) l.length = l
  | [] => rfl
  | x :: r => by
    have hx := x.toNat_lt
    rw [List.length_cons, layL_cons, leNat]
    have e1 : UInt8.ofNat (x.toNat + 256 * leNat r) = x := by
      apply UInt8.toNat_inj.1
      rw [UInt8.toNat_ofNat']; omega
    have e2 : (x.toNat + 256 * leNat r) / 256 = leNat r := by omega
    rw [e1, e2, layL_leNat r]

/-- The number of the n bytes from k on. -/
def subN (s : List UInt8) (k n : Nat) : Nat := leNat ((s.drop k).take n)
theorem subN_lt (s : List UInt8) (k n : Nat) : subN s k n < 256 ^ n :=
  Nat.lt_of_lt_of_le (leNat_lt _) (pow256_le (by rw [List.length_take]; omega))
theorem rdN_sub {s : List UInt8} {k n : Nat} (h : k + n ≤ s.length) : rdN s k n = subN s k n := by
  unfold rdN subN; rw [if_neg (by omega)]
theorem sub_lay (s : List UInt8) (k n : Nat) (h : k + n ≤ s.length) : layL (subN s k n) n = (s.drop k).take n := by
  have hl : ((s.drop k).take n).length = n := by rw [List.length_take, List.length_drop]; omega
  have := layL_leNat ((s.drop k).take n)
  rw [hl] at this
  exact this

def readP (s : List UInt8) : PtrD := ⟨subN s 0 4, subN s 4 4, subN s 8 4, subN s 12 4, decide (65536 ≤ subN s 16 4), (subN s 16 4 % 256 : Nat), (subN s 16 4 / 256 % 256 : Nat), subN s 20 4, subN s 24 8, subN s 32 8, subN s 40 8, subN s 48 8⟩
def readE (s : List UInt8) : Int := if s.length < 64 then 2 else if 64 < s.length then 3 else if 131071 < subN s 16 4 then 3 else if allZ (s.drop 56) then 0 else 3
def readV (s : List UInt8) : PtrD := if readE s = 0 then readP s else ptrZ

theorem readP_ok (s : List UInt8) : (readP s).Ok := by
  have h1 := subN_lt s 24 8
  have h2 := subN_lt s 32 8
  have h3 := subN_lt s 40 8
  have h4 := subN_lt s 48 8
  have h5 := subN_lt s 20 4
  unfold PtrD.Ok readP
  dsimp only
  omega
theorem ptrZ_Ok : ptrZ.Ok := by unfold PtrD.Ok ptrZ; decide
theorem readV_ok (s : List UInt8) : (readV s).Ok := by
  unfold readV; split
  · exact readP_ok s
  · exact ptrZ_Ok
theorem readP_lay (s : List UInt8) : layOk (readP s) = true := by
  have h0 := subN_lt s 0 4
  have h1 := subN_lt s 4 4
  have h2 := subN_lt s 8 4
  have h3 := subN_lt s 12 4
  have h5 := subN_lt s 20 4
  simp only [layOk, withinL, readP, List.all_cons, List.all_nil, Bool.and_true, Bool.and_eq_true, decide_eq_true_eq]
  omega
theorem readE_zero {s : List UInt8} (h : readE s = 0) : s.length = 64 ∧ subN s 16 4 ≤ 131071 ∧ allZ (s.drop 56) = true := by
  unfold readE at h
  split at h
  · cases h
  · split at h
    · cases h
    · split at h
      · cases h
      · split at h
        · rename_i h4; exact ⟨by omega, by omega, h4⟩
        · cases h
theorem allZ_eq {l : List UInt8} {n : Nat} (h : allZ l = true) (hl : l.length = n) : l = List.replicate n 0 := by
  rw [List.eq_replicate_iff]
  refine ⟨hl, fun x hx => ?_⟩
  simpa using List.all_eq_true.1 h x hx
theorem cutJoin (s : List UInt8) (k n : Nat) : (s.drop k).take n ++ s.drop (k + n) = s.drop k := by
  rw [← List.drop_drop, List.take_append_drop]

/-- What is read is what was laid. -/
theorem read_back {s : List UInt8} (h : readE s = 0) : ptrL (readP s) = s := by
  obtain ⟨hl, h1, hz⟩ := readE_zero h
  have ho : (ptrOne (readP s)).toNat = subN s 16 4 := by
    unfold ptrOne readP
    dsimp only
    by_cases h2 : 65536 ≤ subN s 16 4
    · rw [decide_eq_true h2, if_pos rfl]; omega
    · rw [decide_eq_false h2, if_neg (by simp)]; omega
  have hz' := allZ_eq hz (show (s.drop 56).length = 8 by rw [List.length_drop, hl])
  rw [ptrL_eq (readP_lay s), ho, ← hz']
  simp only [readP, Int.toNat_natCast]
  rw [sub_lay s 0 4 (by omega), sub_lay s 4 4 (by omega), sub_lay s 8 4 (by omega), sub_lay s 12 4 (by omega), sub_lay s 16 4 (by omega), sub_lay s 20 4 (by omega),
    sub_lay s 24 8 (by omega), sub_lay s 32 8 (by omega), sub_lay s 40 8 (by omega), sub_lay s 48 8 (by omega)]
  simp only [List.append_assoc]
  rw [cutJoin s 48 8, cutJoin s 40 8, cutJoin s 32 8, cutJoin s 24 8, cutJoin s 20 4, cutJoin s 16 4, cutJoin s 12 4, cutJoin s 8 4, cutJoin s 4 4, cutJoin s 0 4]
  rfl

theorem subN_of {s a b : List UInt8} {x k n : Nat} (hd : s.drop k = a ++ b) (ha : a = layL x n) (hx : x < 256 ^ n) : subN s k n = x := by
  subst ha
  unfold subN
  rw [hd, takeApp (layL_len x n), leNat_layL, Nat.mod_eq_of_lt hx]
theorem drop_step {s a b : List UInt8} {k n : Nat} (hd : s.drop k = a ++ b) (ha : a.length = n) : s.drop (k + n) = b := by
  rw [← List.drop_drop, hd, dropApp ha]
/-- What is laid is read as it was. -/
theorem lay_back {p : PtrD} (hp : layOk p = true) (op : p.Ok) : readE (ptrL p) = 0 ∧ readP (ptrL p) = p ∧ (ptrL p).length = 64 := by
  obtain ⟨⟨a1, a2⟩, ⟨b1, b2⟩, ⟨c1, c2⟩, ⟨d1, d2⟩, ⟨e1, e2⟩, ⟨f1, f2⟩, ⟨g1, g2⟩⟩ := layOk_bd hp
  obtain ⟨o1, o2⟩ := ptrOne_bd hp
  obtain ⟨p0, p1, p2, p3, _⟩ := op
  have hone : ptrOne p ≤ 131071 := by unfold ptrOne; split <;> omega
  have h := ptrL_eq hp
  simp only [List.append_assoc] at h
  have hlen : (ptrL p).length = 64 := by rw [h]; simp [layL_len]
  generalize ptrL p = s at *
  have k0 : s.drop 0 = _ := h
  have k1 := drop_step k0 (layL_len _ _)
  have k2 := drop_step k1 (layL_len _ _)
  have k3 := drop_step k2 (layL_len _ _)
  have k4 := drop_step k3 (layL_len _ _)
  have k5 := drop_step k4 (layL_len _ _)
  have k6 := drop_step k5 (layL_len _ _)
  have k7 := drop_step k6 (layL_len _ _)
  have k8 := drop_step k7 (layL_len _ _)
  have k9 := drop_step k8 (layL_len _ _)
  have k10 := drop_step k9 (layL_len _ _)
  have m0 := subN_of k0 rfl (by omega)
  have m1 := subN_of k1 rfl (by omega)
  have m2 := subN_of k2 rfl (by omega)
  have m3 := subN_of k3 rfl (by omega)
  have m4 := subN_of k4 rfl (by omega)
  have m5 := subN_of k5 rfl (by omega)
  have m6 := subN_of k6 rfl (by omega)
  have m7 := subN_of k7 rfl (by omega)
  have m8 := subN_of k8 rfl (by omega)
  have m9 := subN_of k9 rfl (by omega)
  simp only [Nat.zero_add, Nat.reduceAdd] at m0 m1 m2 m3 m4 m5 m6 m7 m8 m9 k10
  refine ⟨?_, ?_, hlen⟩
  · unfold readE
    rw [if_neg (by omega), if_neg (by omega), m4, if_neg (by omega), k10, if_pos (by decide)]
  · have t : decide (65536 ≤ (ptrOne p).toNat) = p.two ∧ (((ptrOne p).toNat % 256 : Nat) : Int) = p.size ∧ (((ptrOne p).toNat / 256 % 256 : Nat) : Int) = p.level := by
      clear k0 k1 k2 k3 k4 k5 k6 k7 k8 k9 k10 m0 m1 m2 m3 m4 m5 m6 m7 m8 m9 h
      unfold ptrOne
      cases ht : p.two with
      | true => rw [if_pos rfl]; exact ⟨by simp; omega, by omega, by omega⟩
      | false => rw [if_neg (by simp)]; exact ⟨by simp; omega, by omega, by omega⟩
    unfold readP
    rw [m0, m1, m2, m3, m4, m5, m6, m7, m8, m9, t.1, t.2.1, t.2.2, Int.toNat_of_nonneg a1, Int.toNat_of_nonneg b1, Int.toNat_of_nonneg c1, Int.toNat_of_nonneg d1, Int.toNat_of_nonneg e1]
end Go.Proofs.YtidmbibpoldgcaaGreatDoor
