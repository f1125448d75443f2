/-
  strings.Trim at the one byte zero: what is left is empty just if all bytes are zero.
-/
import Derived.Test.YtkmmehhddagijaaDoorLe
namespace Go.Proofs.YtkmmehhddagijaaDoor
open Go.RowKit
set_option linter.unusedVariables false

def tLen : Value → Nat
  | .string b => b.size
  | _ => 0
theorem ex_drop1 (l : List UInt8) (h : 0 < l.length) : (ByteArray.mk l.toArray).extract 1 l.length = ⟨(l.drop 1).toArray⟩ := by
  apply ByteArray.ext
  rw [ByteArray.data_extract]
  simp [List.take_of_length_le]
theorem ex_take1 (l : List UInt8) (m : Nat) (h : m ≤ l.length) : (ByteArray.mk l.toArray).extract 0 m = ⟨(l.take m).toArray⟩ := by
  apply ByteArray.ext
  rw [ByteArray.data_extract]
  simp [List.extract_eq_take_drop]

theorem trimL_any (c : UInt8) (l : List UInt8) (w : World) (hl : l.length ≤ 9223372036854775807) :
    Calls Tryd.prog 45 #[str l, .int .u8 c.toNat] w fun e w' => (∃ k, k ≤ l.length ∧ e = .returned (str (l.drop k)) ∧ (∀ j, j < k → l[j]? = some c) ∧ ∀ x, l[k]? = some x → x ≠ c) ∧ w = w' := by
  go_enter Tryd.func45, Tryd.ntmps45
  go_wp2
  go_loop [0] (fun s => ∃ k, k ≤ l.length ∧ s = str (l.drop k) ∧ ∀ j, j < k → l[j]? = some c) (fun s => tLen s)
  case atStart => exact ⟨0, Nat.zero_le _, rfl, fun j hj => absurd hj (by omega)⟩
  case round =>
    obtain ⟨k, hk, rfl, hno⟩ := hrel
    have HN := Lib.hid hno
    clear hno
    have HM : Hid ((l.drop k).length = l.length - k) := Lib.hid (List.length_drop ..)
    have hml : (l.drop k).length ≤ 9223372036854775807 := by rw [HM.out]; omega
    have HX : Hid (∀ i, (l.drop k)[i]? = l[k + i]?) := Lib.hid fun i => List.getElem?_drop ..
    have HD : Hid ((l.drop k).drop 1 = l.drop (k + 1)) := Lib.hid (by rw [List.drop_drop])
    generalize hm : l.drop k = m at *
    have HMM := Lib.hid hm
    clear hm
    by_cases h0 : 0 < m.length
    · have HE := Lib.hid (ex_drop1 m h0)
      have hx : m[0]? = some (m[0]'h0) := List.getElem?_eq_getElem h0
      have HXX := Lib.hid hx
      clear hx
      by_cases hq : m[0]'h0 = c
      · have q1 : ((((ByteArray.mk m.toArray)[0]'(by rw [ba_size]; exact h0)).toNat : Int) == (c.toNat : Int)) = true := by rw [ba_get]; simp [hq]
        have HQ := Lib.hid hq
        clear hq
        go_wp2_with fail
        go_round
        case rel =>
          refine ⟨k + 1, by have := HM.out; omega, ?_, fun j hj => ?_⟩
          · show Value.string _ = Value.string _
            rw [HE.out, HD.out]
          · rcases Nat.lt_or_ge j k with h | h
            · exact HN.out j h
            · obtain rfl : j = k := by omega
              rw [← HQ.out, ← HXX.out, HX.out]; rfl
        case measure =>
          rw [HE.out]
          simp [tLen, ba_size]
          omega
      · have q1 : ((((ByteArray.mk m.toArray)[0]'(by rw [ba_size]; exact h0)).toNat : Int) == (c.toNat : Int)) = false := by
          rw [ba_get, beq_eq_false_iff_ne]; intro h; exact hq (UInt8.toNat_inj.1 (by exact_mod_cast h))
        have HQ := Lib.hid hq
        clear hq
        go_wp2_with fail
        go_ret
        refine ⟨⟨k, hk, by rw [HMM.out]; rfl, HN.out, fun x hx => ?_⟩, rfl⟩
        have h1 := HX.out 0
        rw [HXX.out, Nat.add_zero, hx] at h1
        injection h1 with h1
        rw [← h1]; exact HQ.out
    · go_wp2_with fail
      go_ret
      refine ⟨⟨k, hk, by rw [HMM.out]; rfl, HN.out, fun x hx => ?_⟩, rfl⟩
      have h1 := HM.out
      have h2 := (List.getElem?_eq_some_iff.1 hx).1
      omega
theorem trimR_any (c : UInt8) (l : List UInt8) (w : World) (hl : l.length ≤ 9223372036854775807) :
    Calls Tryd.prog 46 #[str l, .int .u8 c.toNat] w fun e w' => (∃ k, k ≤ l.length ∧ e = .returned (str (l.take k)) ∧ (∀ j, k ≤ j → j < l.length → l[j]? = some c) ∧ ∀ x, 0 < k → l[k - 1]? = some x → x ≠ c) ∧ w = w' := by
  go_enter Tryd.func46, Tryd.ntmps46
  go_wp2
  go_loop [0] (fun s => ∃ k, k ≤ l.length ∧ s = str (l.take k) ∧ ∀ j, k ≤ j → j < l.length → l[j]? = some c) (fun s => tLen s)
  case atStart => exact ⟨l.length, Nat.le_refl _, by rw [List.take_length], fun j hj hj2 => absurd hj (by omega)⟩
  case round =>
    obtain ⟨k, hk, rfl, hno⟩ := hrel
    have HN := Lib.hid hno
    clear hno
    have HM : Hid ((l.take k).length = k) := Lib.hid (by rw [List.length_take]; omega)
    have hml : (l.take k).length ≤ 9223372036854775807 := by rw [HM.out]; omega
    have HX : Hid (∀ i, i < k → (l.take k)[i]? = l[i]?) := Lib.hid fun i hi => List.getElem?_take_of_lt hi
    have HD : Hid (∀ i, i ≤ k → (l.take k).take i = l.take i) := Lib.hid fun i hi => by rw [List.take_take]; congr 1; omega
    generalize hm : l.take k = m at *
    have HMM := Lib.hid hm
    clear hm
    by_cases h0 : 0 < m.length
    · have HE := Lib.hid (ex_take1 m (m.length - 1) (by omega))
      have h1 : m.length - 1 < m.length := by omega
      have hx : m[m.length - 1]? = some (m[m.length - 1]'h1) := List.getElem?_eq_getElem h1
      have HXX := Lib.hid hx
      have hi0 : (0 : Int) ≤ (m.length : Int) - 1 := by omega
      have hi1 : (m.length : Int) - 1 < m.length := by omega
      have ht : ((m.length : Int) - 1).toNat = m.length - 1 := by omega
      clear hx
      by_cases hq : m[m.length - 1]'h1 = c
      · have q1 : ((((ByteArray.mk m.toArray)[m.length - 1]'(by rw [ba_size]; exact h1)).toNat : Int) == (c.toNat : Int)) = true := by rw [ba_get]; simp [hq]
        have HQ := Lib.hid hq
        clear hq
        go_wp2_with fail
        go_round
        case rel =>
          have hk1 := HM.out
          refine ⟨m.length - 1, by omega, ?_, fun j hj hj2 => ?_⟩
          · show Value.string _ = Value.string _
            rw [HE.out, HD.out _ (by omega)]
          · rcases Nat.lt_or_ge j k with h | h
            · obtain rfl : j = m.length - 1 := by omega
              rw [← HX.out _ h, HXX.out, HQ.out]
            · exact HN.out j h hj2
        case measure =>
          rw [HE.out]
          simp [tLen, ba_size]
          omega
      · have q1 : ((((ByteArray.mk m.toArray)[m.length - 1]'(by rw [ba_size]; exact h1)).toNat : Int) == (c.toNat : Int)) = false := by
          rw [ba_get, beq_eq_false_iff_ne]; intro h; exact hq (UInt8.toNat_inj.1 (by exact_mod_cast h))
        have HQ := Lib.hid hq
        clear hq
        go_wp2_with fail
        go_ret
        refine ⟨⟨k, hk, by rw [HMM.out]; rfl, HN.out, fun x hk0 hx => ?_⟩, rfl⟩
        have h2 := HX.out (k - 1) (by omega)
        have h3 := HXX.out
        have h4 : m[m.length - 1]? = m[k - 1]? := by rw [show m.length = k from HM.out]
        rw [h4, h2, hx] at h3
        injection h3 with h3
        rw [h3]; exact HQ.out
    · go_wp2_with fail
      go_ret
      refine ⟨⟨k, hk, by rw [HMM.out]; rfl, HN.out, fun x hk0 hx => ?_⟩, rfl⟩
      have h1 := HM.out
      omega
theorem right_ex (c : UInt8) (l : List UInt8) : ∀ n, n ≤ l.length → ∃ k, k ≤ n ∧ (∀ j, k ≤ j → j < n → l[j]? = some c) ∧ ∀ x, 0 < k → l[k - 1]? = some x → x ≠ c
  | 0, _ => ⟨0, Nat.le_refl _, fun j _ h => absurd h (by omega), fun x h => absurd h (by omega)⟩
  | n + 1, hn => by
    by_cases h : l[n]? = some c
    · obtain ⟨k, h1, h2, h3⟩ := right_ex c l n (by omega)
      refine ⟨k, by omega, fun j hj hj2 => ?_, h3⟩
      rcases Nat.lt_or_ge j n with h4 | h4
      · exact h2 j hj h4
      · obtain rfl : j = n := by omega
        exact h
    · exact ⟨n + 1, Nat.le_refl _, fun j h1 h2 => absurd h1 (by omega), fun x _ hx e => h (by rw [← e]; exact hx)⟩
theorem left_ex (c : UInt8) : ∀ l : List UInt8, ∃ k, k ≤ l.length ∧ (∀ j, j < k → l[j]? = some c) ∧ ∀ x, l[k]? = some x → x ≠ c
  | [] => ⟨0, Nat.le_refl _, fun j h => absurd h (by omega), fun x h => by simp at h⟩
  | x :: r => by
    by_cases h : x = c
    · obtain ⟨k, h1, h2, h3⟩ := left_ex c r
      refine ⟨k + 1, by simp; omega, fun j hj => ?_, fun y hy => h3 y (by simpa using hy)⟩
      match j, hj with
      | 0, _ => simp [h]
      | j + 1, hj => simpa using h2 j (by omega)
    · exact ⟨0, Nat.zero_le _, fun j h => absurd h (by omega), fun y hy => by simp at hy; rw [← hy]; exact h⟩

set_option maxRecDepth 100000 in
theorem trim_any (l : List UInt8) (hl : l.length ≤ 9223372036854775807) : ∃ t : List UInt8, t.length ≤ l.length ∧ t.isEmpty = allZ l ∧
    ∀ w, Calls Tryd.prog 33 #[str l, .string ⟨#[0]⟩] w fun e w' => e = .returned (str t) ∧ ∃ n, w' = w.drewN n := by
  by_cases h0 : l = []
  · subst h0
    refine ⟨[], Nat.le_refl _, rfl, fun w => ?_⟩
    go_enter Tryd.func33, Tryd.ntmps33
    go_wp2_with fail
    go_ret
    exact ⟨rfl, 0, rfl⟩
  · have hn : l.isEmpty = false := by simpa using h0
    obtain ⟨k, hk, g1, g2⟩ := right_ex 0 l l.length (Nat.le_refl _)
    have HR : Hid (∀ W, Calls Tryd.prog 46 #[str l, .int .u8 0] W fun e w' => e = .returned (str (l.take k)) ∧ w' = W) := Lib.hid fun W => (trimR_any 0 l W hl).mono fun e w' ⟨⟨k', a, b, c, d⟩, hw⟩ => by
      have : k' = k := by
        rcases Nat.lt_trichotomy k' k with h | h | h
        · exact absurd rfl (g2 0 (by omega) (c (k - 1) (by omega) (by omega)))
        · exact h
        · exact absurd rfl (d 0 (by omega) (g1 (k' - 1) (by omega) (by omega)))
      subst this
      exact ⟨b, hw.symm⟩
    have HT : Hid ((l.take k).length = k) := Lib.hid (by rw [List.length_take]; omega)
    have HG : Hid (∀ i, i < k → (l.take k)[i]? = l[i]?) := Lib.hid fun i hi => List.getElem?_take_of_lt hi
    have hml : (l.take k).length ≤ 9223372036854775807 := by rw [HT.out]; omega
    have H1 := Lib.hid g1
    clear g1 g2
    generalize l.take k = m at *
    obtain ⟨q, hq, g3, g4⟩ := left_ex 0 m
    have HL : Hid (∀ W, Calls Tryd.prog 45 #[str m, .int .u8 0] W fun e w' => e = .returned (str (m.drop q)) ∧ w' = W) := Lib.hid fun W => (trimL_any 0 m W hml).mono fun e w' ⟨⟨q', a, b, c, d⟩, hw⟩ => by
      have : q' = q := by
        rcases Nat.lt_trichotomy q' q with h | h | h
        · exact absurd rfl (d 0 (g3 q' h))
        · exact h
        · exact absurd rfl (g4 0 (c q h))
      subst this
      exact ⟨b, hw.symm⟩
    have H3 := Lib.hid g3
    have H4 := Lib.hid g4
    have hz : (ByteArray.mk #[0])[0]'(by decide) = 0 := rfl
    have hl0 : 0 < l.length := List.length_pos_iff.2 h0
    have HD : Hid ((m.drop q).length = m.length - q) := Lib.hid (List.length_drop ..)
    clear h0 g3 g4
    generalize hd : m.drop q = d at *
    have HDD := Lib.hid hd
    clear hd
    refine ⟨d, by have := HT.out; rw [HD.out]; omega, ?_, fun w => ?_⟩
    rotate_left
    · go_enter Tryd.func33, Tryd.ntmps33
      go_wp2_with fail
      go_quiet ((first | (go_at_call 46; exact Calls.quiet_of_same (HR.out _)) | (go_at_call 45; exact Calls.quiet_of_same (HL.out _))))
      go_wp2_with fail
      go_ret
      exact ⟨rfl, nq, rfl⟩
    have hkm := HT.out
    rw [← HDD.out, Bool.eq_iff_iff, List.isEmpty_iff, List.drop_eq_nil_iff]
    unfold allZ
    rw [List.all_eq_true]
    constructor
    · intro hqe x hx
      obtain ⟨j, hj⟩ := List.mem_iff_getElem?.1 hx
      have hjl := (List.getElem?_eq_some_iff.1 hj).1
      rcases Nat.lt_or_ge j k with h | h
      · have := H3.out j (by omega)
        rw [HG.out j h, hj] at this
        injection this with this
        simp [this]
      · have := H1.out j h hjl
        rw [hj] at this
        injection this with this
        simp [this]
    · intro hall
      rcases Nat.lt_or_ge q k with h | h
      · exfalso
        have hqv : ∃ x, m[q]? = some x := ⟨_, List.getElem?_eq_getElem (by omega)⟩
        obtain ⟨x, hx⟩ := hqv
        have h5 := H4.out x hx
        rw [HG.out q h] at hx
        have := hall x (List.mem_of_getElem? hx)
        exact h5 (by simpa using this)
      · omega
end Go.Proofs.YtkmmehhddagijaaDoor
