/-
  Contracts of le's reader: New, Left, Take, number, U64.
  strings.Trim at the one byte zero: what is left is empty just if all bytes are zero.
  More contracts of le's reader: numbers as what bytes come to; U32, Int, Zeros; the nil reader.
  Plain words on what bytes are read as pointers.
  A block that is known whole; worlds in which one old block alone has turned.
-/
import Derived.Test.YtlpbbjjibnbooaaGreatDoorJ01
import Derived.Laws.BitsAllLaws
import Derived.Test.YtlpbbjjibnbooaaGreatDoorJ03
import Derived.Deep.MidRow
namespace Go.Proofs.YtlpbbjjibnbooaaGreatDoor
open Go.RowKit
set_option linter.unusedVariables false

/-- Block b is a reader of the bytes l that stands at p. -/
def RdAt (w : World) (b : Nat) (l : List UInt8) (p : Nat) : Prop := w.heap[b]? = some (.cells #[str l, .int .i64 p] 112 (0, 0)) ∧ p ≤ l.length ∧ l.length ≤ 140737488351232
theorem RdAt.lt {w : World} {b p : Nat} {l : List UInt8} (h : RdAt w b l p) : b < w.heap.size := lt_of_block h.1
theorem RdAt.c0 {w : World} {b p : Nat} {l : List UInt8} (h : RdAt w b l p) : w.cell? ⟨b, 0, none⟩ = some (str l) := cell_of_row w b 0 _ _ _ h.1
theorem RdAt.c1 {w : World} {b p : Nat} {l : List UInt8} (h : RdAt w b l p) : w.cell? ⟨b, 1, none⟩ = some (.int .i64 p) := cell_of_row w b 1 _ _ _ h.1
theorem RdAt.fr {w : World} {b p : Nat} {l : List UInt8} (h : RdAt w b l p) (i : Nat) : w.frozen? ⟨b, i, none⟩ = false := by simp [World.frozen?, h.1]
theorem RdAt.keep {w w' : World} {b p B : Nat} {l : List UInt8} (h : RdAt w b l p) (hb : Below B w w') (hB : b < B) : RdAt w' b l p := ⟨(hb.block b hB).trans h.1, h.2⟩
theorem RdAt.drewN {w : World} {b p : Nat} {l : List UInt8} (h : RdAt w b l p) (n : Nat) : RdAt (w.drewN n) b l p := h
theorem RdAt.put {w : World} {b p q : Nat} {l : List UInt8} (h : RdAt w b l p) (hq : q ≤ l.length) : RdAt (w.setCell ⟨b, 1, none⟩ (.int .i64 q)) b l q := by
  refine ⟨?_, hq, h.2.2⟩
  have h1 := h.1
  simp [World.setCell, Array.getElem?_modify, h1]
/-- Only block b, and what is new, has turned. -/
theorem only_put {a w : World} {b : Nat} (h : a.grownBy w (some b)) (v : Value) : a.grownBy (w.setCell ⟨b, 1, none⟩ v) (some b) :=
  ⟨h.os, h.tape, h.output, by simpa [World.setCell] using h.size, fun i hi hne => (Below.heap_setCell w ⟨b, 1, none⟩ v i (by rintro rfl; exact hne rfl)).trans (h.block i hi hne)⟩
theorem only_drewN {a w : World} {row : Option Nat} (h : a.grownBy w row) (n : Nat) : a.grownBy (w.drewN n) row := ⟨h.os, h.tape, h.output, h.size, h.block⟩

theorem new_any (l : List UInt8) (w : World) (hl : l.length ≤ 140737488351232) :
    Calls Tryz.prog 30 #[str l] w fun e w' => e = .returned (.pointer (some ⟨w.heap.size, 0, none⟩)) ∧ RdAt w' w.heap.size l 0 ∧ Below w.heap.size w w' := by
  go_enter Tryz.func30, Tryz.ntmps30
  go_wp2_with fail
  go_ret
  exact ⟨rfl, ⟨heap_alloc_new w _, Nat.zero_le _, hl⟩, (Below.refl _ _).alloc (Nat.le_refl _) _⟩

theorem left_any (b p : Nat) (l : List UInt8) (w : World) (h : RdAt w b l p) :
    Calls Tryz.prog 70 #[.pointer (some ⟨b, 0, none⟩)] w fun e w' => e = .returned (.int .i64 ((l.length : Int) - p)) ∧ ∃ n, w' = w.drewN n := by
  have c0 := h.c0
  have c1 := h.c1
  have hp := h.2.1
  have hl := h.2.2
  have e1 : IntKind.i64.wrap ((l.length : Int) - p) = (l.length : Int) - p := by rw [IntKind.wrap_i64]; omega
  clear h
  go_enter Tryz.func70, Tryz.ntmps70
  go_wp2_with fail
  go_quiet (fail)
  go_wp2_with fail
  go_ret
  exact ⟨rfl, nq, rfl⟩

theorem rd_extract (l : List UInt8) (p m : Nat) : (ByteArray.mk l.toArray).extract p (p + m) = ⟨((l.drop p).take m).toArray⟩ := by
  apply ByteArray.ext
  rw [ByteArray.data_extract]
  simp [List.extract_eq_take_drop]

def tkErr (l : List UInt8) (p : Nat) (n : Int) : Int := if n < 0 then 1 else if (l.length : Int) - p < n then 2 else 0
def tkStr (l : List UInt8) (p : Nat) (n : Int) : List UInt8 := if tkErr l p n = 0 then (l.drop p).take n.toNat else []
def tkPos (l : List UInt8) (p : Nat) (n : Int) : Nat := if tkErr l p n = 0 then p + n.toNat else p

theorem take_any (b p : Nat) (l : List UInt8) (n : Int) (w : World) (h : RdAt w b l p) (hn : n ≤ 9223372036854775807) :
    Calls Tryz.prog 31 #[.pointer (some ⟨b, 0, none⟩), .int .i64 n] w fun e w' =>
      e = .returned (.tuple #[str (tkStr l p n), .int .i64 (tkErr l p n)]) ∧ RdAt w' b l (tkPos l p n) ∧ w.grownBy w' (some b) := by
  have HL := Lib.hid (left_any b p l w h)
  have HR := Lib.hid h
  by_cases hneg : n < 0
  · have he : Hid (tkErr l p n = 1) := by unfold Hid tkErr; rw [if_pos hneg]
    have hs : Hid (tkStr l p n = [] ∧ tkPos l p n = p) := by unfold Hid tkStr tkPos; rw [he.out]; exact ⟨rfl, rfl⟩
    clear h
    go_enter Tryz.func31, Tryz.ntmps31
    go_wp2_with fail
    go_ret2
    rw [he.out, hs.out.1, hs.out.2]
    exact ⟨rfl, HR.out, World.grownBy.refl _ _⟩
  · obtain ⟨m, rfl⟩ := Int.eq_ofNat_of_zero_le (show 0 ≤ n by omega)
    by_cases hlt : (l.length : Int) - p < m
    · have he : Hid (tkErr l p m = 2) := by unfold Hid tkErr; rw [if_neg hneg, if_pos hlt]
      have hs : Hid (tkStr l p m = [] ∧ tkPos l p m = p) := by unfold Hid tkStr tkPos; rw [he.out]; exact ⟨rfl, rfl⟩
      clear h hneg
      go_enter Tryz.func31, Tryz.ntmps31
      go_wp2_with fail
      refine HL.out.mono ?_
      rintro e w' ⟨rfl, k, rfl⟩
      go_wp2_with fail
      go_ret2
      rw [he.out, hs.out.1, hs.out.2]
      exact ⟨rfl, HR.out.drewN k, only_drewN (World.grownBy.refl _ _) k⟩
    · have he : Hid (tkErr l p m = 0) := by unfold Hid tkErr; rw [if_neg hneg, if_neg hlt]
      have hs : Hid (tkStr l p m = (l.drop p).take m ∧ tkPos l p m = p + m) := by unfold Hid tkStr tkPos; rw [he.out]; exact ⟨rfl, rfl⟩
      have c0 := h.c0
      have c1 := h.c1
      have f1 := h.fr 1
      have hp := h.2.1
      have hl := h.2.2
      have hpm : p + m ≤ l.length := by omega
      have hi1 : (p : Int) + m ≤ l.length := by omega
      have w1 : IntKind.i64.wrap ((p : Int) + m - m) = p := by rw [IntKind.wrap_i64]; omega
      clear h hneg
      go_enter Tryz.func31, Tryz.ntmps31
      go_wp2_with fail
      refine HL.out.mono ?_
      rintro e w' ⟨rfl, k, rfl⟩
      go_wp2_with fail
      have hR2 : RdAt ((w.drewN k).setCell ⟨b, 1, none⟩ (.int .i64 ((p : Int) + m))) b l (p + m) := (HR.out.drewN k).put hpm
      have hG : w.grownBy ((w.drewN k).setCell ⟨b, 1, none⟩ (.int .i64 ((p : Int) + m))) (some b) := only_put (only_drewN (World.grownBy.refl _ _) k) _
      have g0 := hR2.c0
      have g1 : ((w.drewN k).setCell ⟨b, 1, none⟩ (.int .i64 ((p : Int) + m))).cell? ⟨b, 1, none⟩ = some (.int .i64 ((p : Int) + m)) := hR2.c1
      have hR3 := Lib.hid hR2
      clear hR2 c0 c1 f1
      generalize (w.drewN k).setCell ⟨b, 1, none⟩ (.int .i64 ((p : Int) + m)) = W at *
      have i1 : (0 : Int) ≤ p := by omega
      have i2 : (p : Int) ≤ p + m := by omega
      go_quiet (fail)
      go_wp2_with fail
      go_ret2
      rw [he.out, hs.out.1, hs.out.2]
      refine ⟨?_, hR3.out.drewN nq, only_drewN hG nq⟩
      exact congrArg (fun s => Ending.returned (.tuple #[Value.string s, .int .i64 0])) (rd_extract l p m)

/-- The number that the first k bytes from p on are. -/
def numTo (l : List UInt8) (p : Nat) : Nat → Int
  | 0 => 0
  | k + 1 => bits .or .u64 (numTo l p k) (IntKind.u64.wrap (IntKind.u64.wrap ((l.getD (p + k) 0).toNat : Int) * 2 ^ (8 * k)))

def nbErr (l : List UInt8) (p n : Nat) : Int := if (l.length : Int) - p < n then 2 else 0
def nbVal (l : List UInt8) (p n : Nat) : Int := if (l.length : Int) - p < n then 0 else numTo l p n
def nbPos (l : List UInt8) (p n : Nat) : Nat := if (l.length : Int) - p < n then p else p + n

theorem number_any (b p n : Nat) (l : List UInt8) (w : World) (h : RdAt w b l p) (hn : n ≤ 8) :
    Calls Tryz.prog 71 #[.pointer (some ⟨b, 0, none⟩), .int .i64 n] w fun e w' =>
      e = .returned (.tuple #[.int .u64 (nbVal l p n), .int .i64 (nbErr l p n)]) ∧ RdAt w' b l (nbPos l p n) ∧ w.grownBy w' (some b) := by
  have HL := Lib.hid (left_any b p l w h)
  have HR := Lib.hid h
  by_cases hlt : (l.length : Int) - p < n
  · have he : Hid (nbErr l p n = 2 ∧ nbVal l p n = 0 ∧ nbPos l p n = p) := by unfold Hid nbErr nbVal nbPos; rw [if_pos hlt, if_pos hlt, if_pos hlt]; exact ⟨rfl, rfl, rfl⟩
    clear h
    go_enter Tryz.func71, Tryz.ntmps71
    go_wp2_with fail
    refine HL.out.mono ?_
    rintro e w' ⟨rfl, k, rfl⟩
    go_wp2_with fail
    go_ret2
    rw [he.out.1, he.out.2.1, he.out.2.2]
    exact ⟨rfl, HR.out.drewN k, only_drewN (World.grownBy.refl _ _) k⟩
  · have he : Hid (nbErr l p n = 0 ∧ nbVal l p n = numTo l p n ∧ nbPos l p n = p + n) := by unfold Hid nbErr nbVal nbPos; rw [if_neg hlt, if_neg hlt, if_neg hlt]; exact ⟨rfl, rfl, rfl⟩
    have hp := h.2.1
    have hl := h.2.2
    have hpm : p + n ≤ l.length := by omega
    clear h
    go_enter Tryz.func71, Tryz.ntmps71
    go_wp2_with fail
    refine HL.out.mono ?_
    rintro e w' ⟨rfl, k0, rfl⟩
    go_wp2_with fail
    go_loopw [6, 13] (fun x t wr => ∃ k : Nat, k ≤ n ∧ t = .int .i64 k ∧ x = .int .u64 (numTo l p k) ∧ RdAt wr b l p ∧ w.grownBy wr (some b)) (fun _ t _ => n - (RowKit.intOf t).toNat)
    case atStart => exact ⟨0, Nat.zero_le _, rfl, rfl, HR.out.drewN k0, only_drewN (World.grownBy.refl _ _) k0⟩
    case round =>
      obtain ⟨k, hk, rfl, rfl, hR, hG⟩ := hrel
      have c0 := hR.c0
      have c1 := hR.c1
      have f1 := hR.fr 1
      have HR2 := Lib.hid hR
      clear hR
      by_cases hlt2 : k < n
      · have w1 : IntKind.i64.wrap ((p : Int) + k) = p + k := by rw [IntKind.wrap_i64]; omega
        have w2 : IntKind.i64.wrap (8 * (k : Int)) = 8 * k := by rw [IntKind.wrap_i64]; omega
        have i1 : (0 : Int) ≤ (p : Int) + k := by omega
        have i2 : (p : Int) + k < l.length := by omega
        go_wp2_with fail
        go_quiet (fail)
        go_wp2_with fail
        go_roundw
        case rel =>
          refine ⟨k + 1, by omega, by go_num, ?_, HR2.out.drewN nq, only_drewN hG nq⟩
          have hpk : p + k < l.length := by omega
          have hg : (ByteArray.mk l.toArray)[p + k]'(by rw [ba_size]; exact hpk) = l.getD (p + k) 0 := by
            rw [ba_get, List.getD_eq_getElem?_getD, List.getElem?_eq_getElem hpk]; rfl
          rw [hg]
          rfl
        case measure => simp [RowKit.intOf]; omega
      · obtain rfl : k = n := by omega
        go_wp2_with fail
        go_ret2
        rw [he.out.1, he.out.2.1, he.out.2.2]
        exact ⟨rfl, HR2.out.put hpm, only_put hG _⟩

theorem rdU64_any (b p : Nat) (l : List UInt8) (w : World) (h : RdAt w b l p) :
    Calls Tryz.prog 72 #[.pointer (some ⟨b, 0, none⟩)] w fun e w' =>
      e = .returned (.tuple #[.int .u64 (nbVal l p 8), .int .i64 (nbErr l p 8)]) ∧ RdAt w' b l (nbPos l p 8) ∧ w.grownBy w' (some b) := by
  have H := Lib.hid (number_any b p 8 l w h (by omega))
  clear h
  go_enter Tryz.func72, Tryz.ntmps72
  go_wp2_with fail
  refine H.out.mono ?_
  rintro e w' ⟨rfl, hR, hG⟩
  go_wp2_with fail
  go_ret2
  exact ⟨rfl, hR, hG⟩
end Go.Proofs.YtlpbbjjibnbooaaGreatDoor

namespace Go.Proofs.YtlpbbjjibnbooaaGreatDoor
open Go.RowKit
set_option linter.unusedVariables false

def tLen : Value → Nat
  | .string b => b.size
  | _ => 0
theorem ex_drop1 (l : List UInt8) (h : 0 < l.length) : (ByteArray.mk l.toArray).extract 1 l.length = ⟨(l.drop 1).toArray⟩ := by
  apply ByteArray.ext
  rw [ByteArray.data_extract]
  simp [List.take_of_length_le]
theorem ex_take1 (l : List UInt8) (m : Nat) (h : m ≤ l.length) : (ByteArray.mk l.toArray).extract 0 m = ⟨(l.take m).toArray⟩ := by
  apply ByteArray.ext
  rw [ByteArray.data_extract]
  simp [List.extract_eq_take_drop]

theorem trimL_any (c : UInt8) (l : List UInt8) (w : World) (hl : l.length ≤ 9223372036854775807) :
    Calls Tryz.prog 109 #[str l, .int .u8 c.toNat] w fun e w' => (∃ k, k ≤ l.length ∧ e = .returned (str (l.drop k)) ∧ (∀ j, j < k → l[j]? = some c) ∧ ∀ x, l[k]? = some x → x ≠ c) ∧ w = w' := by
  go_enter Tryz.func109, Tryz.ntmps109
  go_wp2
  go_loop [0] (fun s => ∃ k, k ≤ l.length ∧ s = str (l.drop k) ∧ ∀ j, j < k → l[j]? = some c) (fun s => tLen s)
  case atStart => exact ⟨0, Nat.zero_le _, rfl, fun j hj => absurd hj (by omega)⟩
  case round =>
    obtain ⟨k, hk, rfl, hno⟩ := hrel
    have HN := Lib.hid hno
    clear hno
    have HM : Hid ((l.drop k).length = l.length - k) := Lib.hid (List.length_drop ..)
    have hml : (l.drop k).length ≤ 9223372036854775807 := by rw [HM.out]; omega
    have HX : Hid (∀ i, (l.drop k)[i]? = l[k + i]?) := Lib.hid fun i => List.getElem?_drop ..
    have HD : Hid ((l.drop k).drop 1 = l.drop (k + 1)) := Lib.hid (by rw [List.drop_drop])
    generalize hm : l.drop k = m at *
    have HMM := Lib.hid hm
    clear hm
    by_cases h0 : 0 < m.length
    · have HE := Lib.hid (ex_drop1 m h0)
      have hx : m[0]? = some (m[0]'h0) := List.getElem?_eq_getElem h0
      have HXX := Lib.hid hx
      clear hx
      by_cases hq : m[0]'h0 = c
      · have q1 : ((((ByteArray.mk m.toArray)[0]'(by rw [ba_size]; exact h0)).toNat : Int) == (c.toNat : Int)) = true := by rw [ba_get]; simp [hq]
        have HQ := Lib.hid hq
        clear hq
        go_wp2_with fail
        go_round
        case rel =>
          refine ⟨k + 1, by have := HM.out; omega, ?_, fun j hj => ?_⟩
          · show Value.string _ = Value.string _
            rw [HE.out, HD.out]
          · rcases Nat.lt_or_ge j k with h | h
            · exact HN.out j h
            · obtain rfl : j = k := by omega
              rw [← HQ.out, ← HXX.out, HX.out]; rfl
        case measure =>
          rw [HE.out]
          simp [tLen, ba_size]
          omega
      · have q1 : ((((ByteArray.mk m.toArray)[0]'(by rw [ba_size]; exact h0)).toNat : Int) == (c.toNat : Int)) = false := by
          rw [ba_get, beq_eq_false_iff_ne]; intro h; exact hq (UInt8.toNat_inj.1 (by exact_mod_cast h))
        have HQ := Lib.hid hq
        clear hq
        go_wp2_with fail
        go_ret
        refine ⟨⟨k, hk, by rw [HMM.out]; rfl, HN.out, fun x hx => ?_⟩, rfl⟩
        have h1 := HX.out 0
        rw [HXX.out, Nat.add_zero, hx] at h1
        injection h1 with h1
        rw [← h1]; exact HQ.out
    · go_wp2_with fail
      go_ret
      refine ⟨⟨k, hk, by rw [HMM.out]; rfl, HN.out, fun x hx => ?_⟩, rfl⟩
      have h1 := HM.out
      have h2 := (List.getElem?_eq_some_iff.1 hx).1
      omega
theorem trimR_any (c : UInt8) (l : List UInt8) (w : World) (hl : l.length ≤ 9223372036854775807) :
    Calls Tryz.prog 110 #[str l, .int .u8 c.toNat] w fun e w' => (∃ k, k ≤ l.length ∧ e = .returned (str (l.take k)) ∧ (∀ j, k ≤ j → j < l.length → l[j]? = some c) ∧ ∀ x, 0 < k → l[k - 1]? = some x → x ≠ c) ∧ w = w' := by
  go_enter Tryz.func110, Tryz.ntmps110
  go_wp2
  go_loop [0] (fun s => ∃ k, k ≤ l.length ∧ s = str (l.take k) ∧ ∀ j, k ≤ j → j < l.length → l[j]? = some c) (fun s => tLen s)
  case atStart => exact ⟨l.length, Nat.le_refl _, by rw [List.take_length], fun j hj hj2 => absurd hj (by omega)⟩
  case round =>
    obtain ⟨k, hk, rfl, hno⟩ := hrel
    have HN := Lib.hid hno
    clear hno
    have HM : Hid ((l.take k).length = k) := Lib.hid (by rw [List.length_take]; omega)
    have hml : (l.take k).length ≤ 9223372036854775807 := by rw [HM.out]; omega
    have HX : Hid (∀ i, i < k → (l.take k)[i]? = l[i]?) := Lib.hid fun i hi => List.getElem?_take_of_lt hi
    have HD : Hid (∀ i, i ≤ k → (l.take k).take i = l.take i) := Lib.hid fun i hi => by rw [List.take_take]; congr 1; omega
    generalize hm : l.take k = m at *
    have HMM := Lib.hid hm
    clear hm
    by_cases h0 : 0 < m.length
    · have HE := Lib.hid (ex_take1 m (m.length - 1) (by omega))
      have h1 : m.length - 1 < m.length := by omega
      have hx : m[m.length - 1]? = some (m[m.length - 1]'h1) := List.getElem?_eq_getElem h1
      have HXX := Lib.hid hx
      have hi0 : (0 : Int) ≤ (m.length : Int) - 1 := by omega
      have hi1 : (m.length : Int) - 1 < m.length := by omega
      have ht : ((m.length : Int) - 1).toNat = m.length - 1 := by omega
      clear hx
      by_cases hq : m[m.length - 1]'h1 = c
      · have q1 : ((((ByteArray.mk m.toArray)[m.length - 1]'(by rw [ba_size]; exact h1)).toNat : Int) == (c.toNat : Int)) = true := by rw [ba_get]; simp [hq]
        have HQ := Lib.hid hq
        clear hq
        go_wp2_with fail
        go_round
        case rel =>
          have hk1 := HM.out
          refine ⟨m.length - 1, by omega, ?_, fun j hj hj2 => ?_⟩
          · show Value.string _ = Value.string _
            rw [HE.out, HD.out _ (by omega)]
          · rcases Nat.lt_or_ge j k with h | h
            · obtain rfl : j = m.length - 1 := by omega
              rw [← HX.out _ h, HXX.out, HQ.out]
            · exact HN.out j h hj2
        case measure =>
          rw [HE.out]
          simp [tLen, ba_size]
          omega
      · have q1 : ((((ByteArray.mk m.toArray)[m.length - 1]'(by rw [ba_size]; exact h1)).toNat : Int) == (c.toNat : Int)) = false := by
          rw [ba_get, beq_eq_false_iff_ne]; intro h; exact hq (UInt8.toNat_inj.1 (by exact_mod_cast h))
        have HQ := Lib.hid hq
        clear hq
        go_wp2_with fail
        go_ret
        refine ⟨⟨k, hk, by rw [HMM.out]; rfl, HN.out, fun x hk0 hx => ?_⟩, rfl⟩
        have h2 := HX.out (k - 1) (by omega)
        have h3 := HXX.out
        have h4 : m[m.length - 1]? = m[k - 1]? := by rw [show m.length = k from HM.out]
        rw [h4, h2, hx] at h3
        injection h3 with h3
        rw [h3]; exact HQ.out
    · go_wp2_with fail
      go_ret
      refine ⟨⟨k, hk, by rw [HMM.out]; rfl, HN.out, fun x hk0 hx => ?_⟩, rfl⟩
      have h1 := HM.out
      omega
theorem right_ex (c : UInt8) (l : List UInt8) : ∀ n, n ≤ l.length → ∃ k, k ≤ n ∧ (∀ j, k ≤ j → j < n → l[j]? = some c) ∧ ∀ x, 0 < k → l[k - 1]? = some x → x ≠ c
  | 0, _ => ⟨0, Nat.le_refl _, fun j _ h => absurd h (by omega), fun x h => absurd h (by omega)⟩
  | n + 1, hn => by
    by_cases h : l[n]? = some c
    · obtain ⟨k, h1, h2, h3⟩ := right_ex c l n (by omega)
      refine ⟨k, by omega, fun j hj hj2 => ?_, h3⟩
      rcases Nat.lt_or_ge j n with h4 | h4
      · exact h2 j hj h4
      · obtain rfl : j = n := by omega
        exact h
    · exact ⟨n + 1, Nat.le_refl _, fun j h1 h2 => absurd h1 (by omega), fun x _ hx e => h (by rw [← e]; exact hx)⟩
theorem left_ex (c : UInt8) : ∀ l : List UInt8, ∃ k, k ≤ l.length ∧ (∀ j, j < k → l[j]? = some c) ∧ ∀ x, l[k]? = some x → x ≠ c
  | [] => ⟨0, Nat.le_refl _, fun j h => absurd h (by omega), fun x h => by simp at h⟩
  | x :: r => by
    by_cases h : x = c
    · obtain ⟨k, h1, h2, h3⟩ := left_ex c r
      refine ⟨k + 1, by simp; omega, fun j hj => ?_, fun y hy => h3 y (by simpa using hy)⟩
      match j, hj with
      | 0, _ => simp [h]
      | j + 1, hj => simpa using h2 j (by omega)
    · exact ⟨0, Nat.zero_le _, fun j h => absurd h (by omega), fun y hy => by simp at hy; rw [← hy]; exact h⟩

set_option maxRecDepth 100000 in
theorem trim_any (l : List UInt8) (hl : l.length ≤ 9223372036854775807) : ∃ t : List UInt8, t.length ≤ l.length ∧ t.isEmpty = allZ l ∧
    ∀ w, Calls Tryz.prog 77 #[str l, .string ⟨#[0]⟩] w fun e w' => e = .returned (str t) ∧ ∃ n, w' = w.drewN n := by
  by_cases h0 : l = []
  · subst h0
    refine ⟨[], Nat.le_refl _, rfl, fun w => ?_⟩
    go_enter Tryz.func77, Tryz.ntmps77
    go_wp2_with fail
    go_ret
    exact ⟨rfl, 0, rfl⟩
  · have hn : l.isEmpty = false := by simpa using h0
    obtain ⟨k, hk, g1, g2⟩ := right_ex 0 l l.length (Nat.le_refl _)
    have HR : Hid (∀ W, Calls Tryz.prog 110 #[str l, .int .u8 0] W fun e w' => e = .returned (str (l.take k)) ∧ w' = W) := Lib.hid fun W => (trimR_any 0 l W hl).mono fun e w' ⟨⟨k', a, b, c, d⟩, hw⟩ => by
      have : k' = k := by
        rcases Nat.lt_trichotomy k' k with h | h | h
        · exact absurd rfl (g2 0 (by omega) (c (k - 1) (by omega) (by omega)))
        · exact h
        · exact absurd rfl (d 0 (by omega) (g1 (k' - 1) (by omega) (by omega)))
      subst this
      exact ⟨b, hw.symm⟩
    have HT : Hid ((l.take k).length = k) := Lib.hid (by rw [List.length_take]; omega)
    have HG : Hid (∀ i, i < k → (l.take k)[i]? = l[i]?) := Lib.hid fun i hi => List.getElem?_take_of_lt hi
    have hml : (l.take k).length ≤ 9223372036854775807 := by rw [HT.out]; omega
    have H1 := Lib.hid g1
    clear g1 g2
    generalize l.take k = m at *
    obtain ⟨q, hq, g3, g4⟩ := left_ex 0 m
    have HL : Hid (∀ W, Calls Tryz.prog 109 #[str m, .int .u8 0] W fun e w' => e = .returned (str (m.drop q)) ∧ w' = W) := Lib.hid fun W => (trimL_any 0 m W hml).mono fun e w' ⟨⟨q', a, b, c, d⟩, hw⟩ => by
      have : q' = q := by
        rcases Nat.lt_trichotomy q' q with h | h | h
        · exact absurd rfl (d 0 (g3 q' h))
        · exact h
        · exact absurd rfl (g4 0 (c q h))
      subst this
      exact ⟨b, hw.symm⟩
    have H3 := Lib.hid g3
    have H4 := Lib.hid g4
    have hz : (ByteArray.mk #[0])[0]'(by decide) = 0 := rfl
    have hl0 : 0 < l.length := List.length_pos_iff.2 h0
    have HD : Hid ((m.drop q).length = m.length - q) := Lib.hid (List.length_drop ..)
    clear h0 g3 g4
    generalize hd : m.drop q = d at *
    have HDD := Lib.hid hd
    clear hd
    refine ⟨d, by have := HT.out; rw [HD.out]; omega, ?_, fun w => ?_⟩
    rotate_left
    · go_enter Tryz.func77, Tryz.ntmps77
      go_wp2_with fail
      go_quiet ((first | (go_at_call 110; exact Calls.quiet_of_same (HR.out _)) | (go_at_call 109; exact Calls.quiet_of_same (HL.out _))))
      go_wp2_with fail
      go_ret
      exact ⟨rfl, nq, rfl⟩
    have hkm := HT.out
    rw [← HDD.out, Bool.eq_iff_iff, List.isEmpty_iff, List.drop_eq_nil_iff]
    unfold allZ
    rw [List.all_eq_true]
    constructor
    · intro hqe x hx
      obtain ⟨j, hj⟩ := List.mem_iff_getElem?.1 hx
      have hjl := (List.getElem?_eq_some_iff.1 hj).1
      rcases Nat.lt_or_ge j k with h | h
      · have := H3.out j (by omega)
        rw [HG.out j h, hj] at this
        injection this with this
        simp [this]
      · have := H1.out j h hjl
        rw [hj] at this
        injection this with this
        simp [this]
    · intro hall
      rcases Nat.lt_or_ge q k with h | h
      · exfalso
        have hqv : ∃ x, m[q]? = some x := ⟨_, List.getElem?_eq_getElem (by omega)⟩
        obtain ⟨x, hx⟩ := hqv
        have h5 := H4.out x hx
        rw [HG.out q h] at hx
        have := hall x (List.mem_of_getElem? hx)
        exact h5 (by simpa using this)
      · omega
end Go.Proofs.YtlpbbjjibnbooaaGreatDoor

namespace Go.Proofs.YtlpbbjjibnbooaaGreatDoor
open Go.RowKit
set_option linter.unusedVariables false

/-- What bytes come to, the lowest first. -/
def leNat : List UInt8 → Nat
  | [] => 0
  | x :: r => x.toNat + 256 * leNat r
theorem leNat_snoc (l : List UInt8) (x : UInt8) : leNat (l ++ [x]) = leNat l + x.toNat * 256 ^ l.length := by
  induction l with
  | nil => simp [leNat]
  | cons y l ih =>
    simp only [List.cons_append, leNat, ih, List.length_cons, Nat.pow_succ, Nat.mul_add]
    rw [show x.toNat * (256 ^ l.length * 256) = 256 * (x.toNat * 256 ^ l.length) by rw [Nat.mul_comm (256 ^ l.length) 256, Nat.mul_left_comm]]
    omega
theorem leNat_lt (l : List UInt8) : leNat l < 256 ^ l.length := by
  induction l with
  | nil => simp [leNat]
  | cons x l ih =>
    have := x.toNat_lt
    simp only [leNat, List.length_cons, Nat.pow_succ]
    omega
theorem leNat_layL (x n : Nat) : leNat (layL x n) = x % 256 ^ n := by
  induction n with
  | zero => simp [layL, leNat, Nat.mod_one]
  | succ n ih =>
    have e : x % 256 ^ (n + 1) = x % 256 ^ n + 256 ^ n * (x / 256 ^ n % 256) := by rw [Nat.pow_succ, Nat.mod_mul]
    rw [layL_succ, leNat_snoc, ih, layL_len, UInt8.toNat_ofNat', e, Nat.mul_comm]
theorem pow256 (k : Nat) : (256 : Nat) ^ k = 2 ^ (8 * k) := by rw [Nat.pow_mul]
theorem pow256_le {k n : Nat} (h : k ≤ n) : (256 : Nat) ^ k ≤ 256 ^ n := Nat.pow_le_pow_right (by omega) h

theorem or_step (x b k : Nat) (hx : x < 256 ^ k) (hb : b < 256) (hk : k < 8) :
    bits .or .u64 (x : Int) (IntKind.u64.wrap (IntKind.u64.wrap (b : Int) * 2 ^ (8 * k))) = ((x + b * 256 ^ k : Nat) : Int) := by
  have h8 : (256 : Nat) ^ k * 256 ≤ 18446744073709551616 := by
    have := pow256_le (show k + 1 ≤ 8 by omega)
    rw [Nat.pow_succ] at this
    exact Nat.le_trans this (by decide)
  have hbk : b * 256 ^ k < 18446744073709551616 := by
    have : b * 256 ^ k < 256 * 256 ^ k := Nat.mul_lt_mul_of_pos_right hb (Nat.pow_pos (by omega))
    omega
  have w1 : IntKind.u64.wrap (b : Int) = b := IntWalk.u64_in _ (by omega)
  have w2 : ((b : Int) * 2 ^ (8 * k)) = ((b * 256 ^ k : Nat) : Int) := by rw [pow256]; push_cast; rfl
  have w3 : IntKind.u64.wrap ((b * 256 ^ k : Nat) : Int) = ((b * 256 ^ k : Nat) : Int) := IntWalk.u64_in _ (by omega)
  rw [w1, w2, w3, u64_or_nat _ _ (by omega) hbk]
  congr 1
  rw [pow256] at hx ⊢
  rw [Nat.or_comm, ← Nat.shiftLeft_eq, ← Nat.shiftLeft_add_eq_or_of_lt hx]
  omega

theorem numTo_eq (l : List UInt8) (p k : Nat) (h : p + k ≤ l.length) (hk : k ≤ 8) : numTo l p k = (leNat ((l.drop p).take k) : Nat) := by
  induction k with
  | zero => simp [numTo, leNat]
  | succ k ih =>
    have hlt : p + k < l.length := by omega
    have hg : (l.drop p)[k]? = some (l[p + k]'hlt) := by rw [List.getElem?_drop]; exact List.getElem?_eq_getElem hlt
    have e1 : l.getD (p + k) 0 = l[p + k]'hlt := by rw [List.getD_eq_getElem?_getD, List.getElem?_eq_getElem hlt]; rfl
    have e2 : ((l.drop p).take k).length = k := by rw [List.length_take, List.length_drop]; omega
    have e3 := leNat_lt ((l.drop p).take k)
    rw [e2] at e3
    rw [numTo, ih (by omega) (by omega), e1, or_step _ _ _ e3 (UInt8.toNat_lt _) (by omega)]
    congr 1
    rw [List.take_add_one, hg]
    simp only [Option.toList_some]
    rw [leNat_snoc, e2]

/-- What is read: n bytes from p on, if there are so many. -/
def rdN (l : List UInt8) (p n : Nat) : Nat := if (l.length : Int) - p < n then 0 else leNat ((l.drop p).take n)
theorem nbVal_eq {l : List UInt8} {p n : Nat} (hn : n ≤ 8) (hp : p ≤ l.length) : nbVal l p n = (rdN l p n : Nat) := by
  unfold nbVal rdN
  split
  · rfl
  · rename_i h
    exact numTo_eq l p n (by omega) hn
theorem rdN_lt (l : List UInt8) (p n : Nat) : rdN l p n < 256 ^ n := by
  unfold rdN
  split
  · exact Nat.pow_pos (by omega)
  · have := leNat_lt ((l.drop p).take n)
    refine Nat.lt_of_lt_of_le this (pow256_le ?_)
    rw [List.length_take]; omega

theorem num_any (b p n : Nat) (l : List UInt8) (w : World) (h : RdAt w b l p) (hn : n ≤ 8) :
    Calls Tryz.prog 71 #[.pointer (some ⟨b, 0, none⟩), .int .i64 n] w fun e w' =>
      e = .returned (.tuple #[.int .u64 (rdN l p n : Nat), .int .i64 (nbErr l p n)]) ∧ RdAt w' b l (nbPos l p n) ∧ w.grownBy w' (some b) :=
  (number_any b p n l w h hn).mono fun e w' ⟨h1, h2⟩ => ⟨by rw [h1, nbVal_eq hn h.2.1], h2⟩

theorem rU64_any (b p : Nat) (l : List UInt8) (w : World) (h : RdAt w b l p) :
    Calls Tryz.prog 72 #[.pointer (some ⟨b, 0, none⟩)] w fun e w' =>
      e = .returned (.tuple #[.int .u64 (rdN l p 8 : Nat), .int .i64 (nbErr l p 8)]) ∧ RdAt w' b l (nbPos l p 8) ∧ w.grownBy w' (some b) :=
  (rdU64_any b p l w h).mono fun e w' ⟨h1, h2⟩ => ⟨by rw [h1, nbVal_eq (by omega) h.2.1], h2⟩

theorem rU32_any (b p : Nat) (l : List UInt8) (w : World) (h : RdAt w b l p) :
    Calls Tryz.prog 106 #[.pointer (some ⟨b, 0, none⟩)] w fun e w' =>
      e = .returned (.tuple #[.int .i64 (rdN l p 4 : Nat), .int .i64 (nbErr l p 4)]) ∧ RdAt w' b l (nbPos l p 4) ∧ w.grownBy w' (some b) := by
  have H := Lib.hid (num_any b p 4 l w h (by omega))
  have hlt := rdN_lt l p 4
  have hw : IntKind.i64.wrap ((rdN l p 4 : Nat) : Int) = (rdN l p 4 : Nat) := by rw [IntKind.wrap_i64] <;> omega
  clear h
  generalize rdN l p 4 = v at *
  go_enter Tryz.func106, Tryz.ntmps106
  go_wp2_with fail
  refine H.out.mono ?_
  rintro e w' ⟨rfl, hR, hG⟩
  go_wp2_with fail
  go_ret2
  exact ⟨rfl, hR, hG⟩

def inErr (l : List UInt8) (p : Nat) : Int := if (l.length : Int) - p < 8 then 2 else if 4611686018427387904 ≤ leNat ((l.drop p).take 8) then 3 else 0
def inVal (l : List UInt8) (p : Nat) : Nat := if inErr l p = 0 then rdN l p 8 else 0
def inPos (l : List UInt8) (p : Nat) : Nat := if inErr l p = 0 then p + 8 else p

theorem rInt_any (b p : Nat) (l : List UInt8) (w : World) (h : RdAt w b l p) :
    Calls Tryz.prog 32 #[.pointer (some ⟨b, 0, none⟩)] w fun e w' =>
      e = .returned (.tuple #[.int .i64 (inVal l p : Nat), .int .i64 (inErr l p)]) ∧ RdAt w' b l (inPos l p) ∧ w.grownBy w' (some b) := by
  have H := Lib.hid (num_any b p 8 l w h (by omega))
  have hp := h.2.1
  have hl := h.2.2
  have hlt := rdN_lt l p 8
  clear h
  by_cases h0 : (l.length : Int) - p < 8
  · have he : Hid (inErr l p = 2 ∧ inVal l p = 0 ∧ inPos l p = p ∧ nbErr l p 8 = 2 ∧ nbPos l p 8 = p) := by
      have e : inErr l p = 2 := by unfold inErr; rw [if_pos h0]
      unfold Hid inVal inPos nbErr nbPos; rw [e, if_pos (show (l.length : Int) - p < (8 : Nat) from h0), if_pos (show (l.length : Int) - p < (8 : Nat) from h0)]; exact ⟨rfl, rfl, rfl, rfl, rfl⟩
    rw [he.out.2.2.2.1, he.out.2.2.2.2] at H
    generalize rdN l p 8 = v at *
    go_enter Tryz.func32, Tryz.ntmps32
    go_wp2_with fail
    refine H.out.mono ?_
    rintro e w' ⟨rfl, hR, hG⟩
    have HR := Lib.hid hR
    clear hR
    go_wp2_with fail
    go_ret2
    rw [he.out.1, he.out.2.1, he.out.2.2.1]
    exact ⟨rfl, HR.out, hG⟩
  · have hv : Hid (rdN l p 8 = leNat ((l.drop p).take 8)) := by unfold Hid rdN; rw [if_neg (show ¬ (l.length : Int) - p < (8 : Nat) from h0)]
    have hnb : nbErr l p 8 = 0 ∧ nbPos l p 8 = p + 8 := by
      unfold nbErr nbPos; rw [if_neg (show ¬ (l.length : Int) - p < (8 : Nat) from h0), if_neg (show ¬ (l.length : Int) - p < (8 : Nat) from h0)]; exact ⟨rfl, rfl⟩
    rw [hnb.1, hnb.2] at H
    clear hnb
    by_cases h1 : 4611686018427387904 ≤ rdN l p 8
    · have he : Hid (inErr l p = 3 ∧ inVal l p = 0 ∧ inPos l p = p) := by
        have e : inErr l p = 3 := by unfold inErr; rw [if_neg h0, if_pos (by rw [← hv.out]; exact h1)]
        unfold Hid inVal inPos; rw [e]; exact ⟨rfl, rfl, rfl⟩
      have hd : decide ((4611686018427387903 : Int) < ((rdN l p 8 : Nat) : Int)) = true := decide_eq_true (by omega)
      clear hv h0
      generalize rdN l p 8 = v at *
      go_enter Tryz.func32, Tryz.ntmps32
      go_wp2_with fail
      refine H.out.mono ?_
      rintro e w' ⟨rfl, hR, hG⟩
      have HR := Lib.hid hR
      have c1 := hR.c1
      have f1 := hR.fr 1
      have w1 : IntKind.i64.wrap ((p : Int) + 8 - 8) = p := by rw [IntKind.wrap_i64] <;> omega
      clear hR
      go_wp2_with fail
      go_ret2
      rw [he.out.1, he.out.2.1, he.out.2.2]
      exact ⟨rfl, HR.out.put hp, only_put hG _⟩
    · have he : Hid (inErr l p = 0 ∧ inVal l p = rdN l p 8 ∧ inPos l p = p + 8) := by
        have e : inErr l p = 0 := by unfold inErr; rw [if_neg h0, if_neg (by rw [← hv.out]; exact h1)]
        unfold Hid inVal inPos; rw [e]; exact ⟨rfl, rfl, rfl⟩
      have hw : IntKind.i64.wrap ((rdN l p 8 : Nat) : Int) = (rdN l p 8 : Nat) := by rw [IntKind.wrap_i64] <;> omega
      have hd : decide ((4611686018427387903 : Int) < ((rdN l p 8 : Nat) : Int)) = false := decide_eq_false (by omega)
      clear hv h0
      generalize rdN l p 8 = v at *
      go_enter Tryz.func32, Tryz.ntmps32
      go_wp2_with fail
      refine H.out.mono ?_
      rintro e w' ⟨rfl, hR, hG⟩
      have HR := Lib.hid hR
      clear hR
      go_wp2_with fail
      go_ret2
      rw [he.out.1, he.out.2.1, he.out.2.2]
      exact ⟨rfl, HR.out, hG⟩

theorem rd_rest (l : List UInt8) (p : Nat) (hp : p ≤ l.length) : (ByteArray.mk l.toArray).extract p l.length = ⟨(l.drop p).toArray⟩ := by
  apply ByteArray.ext
  rw [ByteArray.data_extract]
  simp [List.take_of_length_le]

theorem rZeros_any (b p : Nat) (l : List UInt8) (w : World) (h : RdAt w b l p) :
    Calls Tryz.prog 36 #[.pointer (some ⟨b, 0, none⟩)] w fun e w' => e = .returned (.bool (allZ (l.drop p))) ∧ ∃ n, w' = w.drewN n := by
  have c0 := h.c0
  have c1 := h.c1
  have hp := h.2.1
  have hl := h.2.2
  have hld : (l.drop p).length ≤ 9223372036854775807 := by rw [List.length_drop]; omega
  obtain ⟨t, ht1, ht2, hT⟩ := trim_any (l.drop p) hld
  have HT := Lib.hid hT
  have H2 := Lib.hid ht2
  clear hT ht2
  have HE := rd_rest l p hp
  have i0 : (0 : Int) ≤ p := by omega
  have i1 : (p : Int) ≤ l.length := by omega
  clear h
  generalize l.drop p = m at *
  go_enter Tryz.func36, Tryz.ntmps36
  go_wp2_with fail
  go_quiet ((go_at_call 77; exact Calls.quiet_of (HT.out _)))
  go_wp2_with fail
  go_ret
  exact ⟨ret_bool H2.out, nq, rfl⟩

end Go.Proofs.YtlpbbjjibnbooaaGreatDoor

namespace Go.Proofs.YtlpbbjjibnbooaaGreatDoor
open Go.RowKit

theorem dropApp {a b : List UInt8} {k : Nat} (h : a.length = k) : (a ++ b).drop k = b := by rw [← h, List.drop_left]
theorem takeApp {a b : List UInt8} {k : Nat} (h : a.length = k) : (a ++ b).take k = a := by rw [← h, List.take_left]
/-- The number of the n bytes from k on. -/
def subN (s : List UInt8) (k n : Nat) : Nat := leNat ((s.drop k).take n)
theorem subN_lt (s : List UInt8) (k n : Nat) : subN s k n < 256 ^ n :=
  Nat.lt_of_lt_of_le (leNat_lt _) (pow256_le (by rw [List.length_take]; omega))
theorem rdN_sub {s : List UInt8} {k n : Nat} (h : k + n ≤ s.length) : rdN s k n = subN s k n := by
  unfold rdN subN; rw [if_neg (by omega)]
def readP (s : List UInt8) : PtrD := ⟨subN s 0 4, subN s 4 4, subN s 8 4, subN s 12 4, decide (65536 ≤ subN s 16 4), (subN s 16 4 % 256 : Nat), (subN s 16 4 / 256 % 256 : Nat), subN s 20 4, subN s 24 8, subN s 32 8, subN s 40 8, subN s 48 8⟩
def readE (s : List UInt8) : Int := if s.length < 64 then 2 else if 64 < s.length then 3 else if 131071 < subN s 16 4 then 3 else if allZ (s.drop 56) then 0 else 3
def readV (s : List UInt8) : PtrD := if readE s = 0 then readP s else ptrZ

theorem subN_of {s a b : List UInt8} {x k n : Nat} (hd : s.drop k = a ++ b) (ha : a = layL x n) (hx : x < 256 ^ n) : subN s k n = x := by
  subst ha
  unfold subN
  rw [hd, takeApp (layL_len x n), leNat_layL, Nat.mod_eq_of_lt hx]
theorem drop_step {s a b : List UInt8} {k n : Nat} (hd : s.drop k = a ++ b) (ha : a.length = n) : s.drop (k + n) = b := by
  rw [← List.drop_drop, hd, dropApp ha]
/-- What is laid is read as it was. -/
theorem lay_back {p : PtrD} (hp : layOk p = true) (op : p.Ok) : readE (ptrL p) = 0 ∧ readP (ptrL p) = p ∧ (ptrL p).length = 64 := by
  obtain ⟨⟨a1, a2⟩, ⟨b1, b2⟩, ⟨c1, c2⟩, ⟨d1, d2⟩, ⟨e1, e2⟩, ⟨f1, f2⟩, ⟨g1, g2⟩⟩ := layOk_bd hp
  obtain ⟨o1, o2⟩ := ptrOne_bd hp
  obtain ⟨p0, p1, p2, p3, _⟩ := op
  have hone : ptrOne p ≤ 131071 := by unfold ptrOne; split <;> omega
  have h := ptrL_eq hp
  simp only [List.append_assoc] at h
  have hlen : (ptrL p).length = 64 := by rw [h]; simp [layL_len]
  generalize ptrL p = s at *
  have k0 : s.drop 0 = _ := h
  have k1 := drop_step k0 (layL_len _ _)
  have k2 := drop_step k1 (layL_len _ _)
  have k3 := drop_step k2 (layL_len _ _)
  have k4 := drop_step k3 (layL_len _ _)
  have k5 := drop_step k4 (layL_len _ _)
  have k6 := drop_step k5 (layL_len _ _)
  have k7 := drop_step k6 (layL_len _ _)
  have k8 := drop_step k7 (layL_len _ _)
  have k9 := drop_step k8 (layL_len _ _)
  have k10 := drop_step k9 (layL_len _ _)
  have m0 := subN_of k0 rfl (by omega)
  have m1 := subN_of k1 rfl (by omega)
  have m2 := subN_of k2 rfl (by omega)
  have m3 := subN_of k3 rfl (by omega)
  have m4 := subN_of k4 rfl (by omega)
  have m5 := subN_of k5 rfl (by omega)
  have m6 := subN_of k6 rfl (by omega)
  have m7 := subN_of k7 rfl (by omega)
  have m8 := subN_of k8 rfl (by omega)
  have m9 := subN_of k9 rfl (by omega)
  simp only [Nat.zero_add, Nat.reduceAdd] at m0 m1 m2 m3 m4 m5 m6 m7 m8 m9 k10
  refine ⟨?_, ?_, hlen⟩
  · unfold readE
    rw [if_neg (by omega), if_neg (by omega), m4, if_neg (by omega), k10, if_pos (by decide)]
  · have t : decide (65536 ≤ (ptrOne p).toNat) = p.two ∧ (((ptrOne p).toNat % 256 : Nat) : Int) = p.size ∧ (((ptrOne p).toNat / 256 % 256 : Nat) : Int) = p.level := by
      clear k0 k1 k2 k3 k4 k5 k6 k7 k8 k9 k10 m0 m1 m2 m3 m4 m5 m6 m7 m8 m9 h
      unfold ptrOne
      cases ht : p.two with
      | true => rw [if_pos rfl]; exact ⟨by simp; omega, by omega, by omega⟩
      | false => rw [if_neg (by simp)]; exact ⟨by simp; omega, by omega, by omega⟩
    unfold readP
    rw [m0, m1, m2, m3, m4, m5, m6, m7, m8, m9, t.1, t.2.1, t.2.2, Int.toNat_of_nonneg a1, Int.toNat_of_nonneg b1, Int.toNat_of_nonneg c1, Int.toNat_of_nonneg d1, Int.toNat_of_nonneg e1]
end Go.Proofs.YtlpbbjjibnbooaaGreatDoor

namespace Go.Proofs.YtlpbbjjibnbooaaGreatDoor
set_option linter.unusedVariables false
set_option linter.unusedSimpArgs false
open Go.RowKit

/-- A mark: the walk stands at a region that draws its order (go_step would try long there). -/
theorem drawn_mark {P : Program} {id : Nat} {ops : Array Oper} {Q : Exit → Act → World → Prop} {a : Act} {w : World} (h : (Code.region id ops true).wp P Q a w) : (Code.region id ops true).wp P Q a w := h

/-- Block g is just these cells. -/
def Blk (w : World) (g : Nat) (t : TypeId) (cs : Array Value) : Prop := w.heap[g]? = some (.cells cs t (0, 0))
section
variable {w w' : World} {g : Nat} {t : TypeId} {cs : Array Value}
theorem Blk.lt (h : Blk w g t cs) : g < w.heap.size := lt_of_block h
theorem Blk.at_ (h : Blk w g t cs) {i : Nat} {v : Value} (hv : cs[i]? = some v) : w.cell? ⟨g, i, none⟩ = some v := (cell_of_row w g i cs t (0, 0) h).trans hv
theorem Blk.fr (h : Blk w g t cs) (i : Nat) : w.frozen? ⟨g, i, none⟩ = false := by unfold Blk at h; simp [World.frozen?, h]
theorem Blk.new (w : World) (t : TypeId) (cs : Array Value) : Blk (w.alloc (.cells cs t)) w.heap.size t cs := heap_alloc_new w _
theorem Blk.new2 (w : World) (o : Obj) (t : TypeId) (cs : Array Value) : Blk ((w.alloc o).alloc (.cells cs t)) (w.heap.size + 1) t cs := by
  have := Blk.new (w.alloc o) t cs
  rwa [World.size_alloc] at this
theorem Blk.drew (h : Blk w g t cs) : Blk w.drew g t cs := h
theorem Blk.drewN (h : Blk w g t cs) (n : Nat) : Blk (w.drewN n) g t cs := h
theorem Blk.alloc (h : Blk w g t cs) (o : Obj) : Blk (w.alloc o) g t cs := (Below.heap_alloc w o g h.lt).trans h
theorem Blk.put (h : Blk w g t cs) (i : Nat) (u : Value) : Blk (w.setCell ⟨g, i, none⟩ u) g t (cs.setIfInBounds i u) := by
  unfold Blk at h ⊢
  simp [World.setCell, Array.getElem?_modify, h]
theorem Blk.far (h : Blk w g t cs) {p : Addr} (hp : g ≠ p.block) (u : Value) : Blk (w.setCell p u) g t cs := (Below.heap_setCell w p u g hp).trans h
theorem Blk.below {B : Nat} (h : Blk w g t cs) (hb : Below B w w') (hg : g < B) : Blk w' g t cs := (hb.block g hg).trans h
theorem Blk.grown {r : Nat} (h : Blk w g t cs) (hG : w.grownBy w' (some r)) (hne : g ≠ r) : Blk w' g t cs := (hG.block g h.lt (fun e => hne (by injection e))).trans h
end

/-- Cells from o on, written one after the other. -/
def wrFrom (A : Array Value) (o : Nat) : List Value → Array Value
  | [] => A
  | v :: r => wrFrom (A.setIfInBounds o v) (o + 1) r
theorem wrFrom_get : ∀ (vs : List Value) (A : Array Value) (o i : Nat), o + vs.length ≤ A.size → (wrFrom A o vs)[i]? = if o ≤ i ∧ i < o + vs.length then vs[i - o]? else A[i]?
  | [], A, o, i, _ => by rw [if_neg (by rw [List.length_nil]; omega)]; rfl
  | v :: r, A, o, i, h => by
    rw [List.length_cons] at h
    rw [wrFrom, wrFrom_get r _ _ _ (by rw [Array.size_setIfInBounds]; omega), Array.getElem?_setIfInBounds]
    by_cases h1 : o = i
    · subst h1
      rw [if_neg (by omega), if_pos rfl, if_pos (by omega), if_pos (by rw [List.length_cons]; omega), Nat.sub_self]; rfl
    · by_cases h2 : o + 1 ≤ i ∧ i < o + 1 + r.length
      · rw [if_pos h2, if_pos (by rw [List.length_cons]; omega), show i - o = (i - (o + 1)) + 1 by omega]; rfl
      · rw [if_neg h2, if_neg h1, if_neg (by rw [List.length_cons]; omega)]
theorem wrFrom_all (A : Array Value) (vs : List Value) (h : A.size = vs.length) : wrFrom A 0 vs = vs.toArray := by
  have hsz : ∀ (vs : List Value) (A : Array Value) (o : Nat), (wrFrom A o vs).size = A.size := by
    intro vs
    induction vs with
    | nil => intro A o; rfl
    | cons v r ih => intro A o; rw [wrFrom, ih]; simp
  apply Array.ext_getElem?
  intro i
  rw [wrFrom_get vs A 0 i (by omega)]
  by_cases hi : i < vs.length
  · rw [if_pos (by omega)]; simp
  · rw [if_neg (by omega), Array.getElem?_eq_none (by omega), Array.getElem?_eq_none (by simp; omega)]
theorem Blk.puts {g : Nat} {t : TypeId} : ∀ (vs : List Value) (o : Nat) {w : World} {A : Array Value}, Blk w g t A → Blk (w.setCells g o vs) g t (wrFrom A o vs)
  | [], _, _, _, h => h
  | v :: r, o, _, _, h => by
    rw [World.setCells, wrFrom]
    exact Blk.puts r (o + 1) (h.put o v)
theorem Blk.putAll {g : Nat} {t : TypeId} {w : World} {A : Array Value} (h : Blk w g t A) (vs : Array Value) (hs : A.size = vs.size) : Blk (w.setCells g 0 vs.toList) g t vs := by
  have := h.puts vs.toList 0
  rwa [wrFrom_all A vs.toList (by simpa using hs)] at this
theorem below_sets {B : Nat} {a : World} {g : Nat} : ∀ (vs : List Value) (o : Nat) {w : World}, Below B a w → B ≤ g → Below B a (w.setCells g o vs)
  | [], _, _, h, _ => h
  | v :: r, o, _, h, hg => by
    rw [World.setCells]
    exact below_sets r (o + 1) (Below.setCell h hg v) hg
theorem Blk.fars {g b : Nat} {t : TypeId} {A : Array Value} (hne : g ≠ b) : ∀ (vs : List Value) (o : Nat) {w : World}, Blk w g t A → Blk (w.setCells b o vs) g t A
  | [], _, _, h => h
  | v :: r, o, _, h => by
    rw [World.setCells]
    exact Blk.fars hne r (o + 1) (h.far (by simpa using hne) v)
theorem Blk.there {g : Nat} {t : TypeId} {w : World} {A : Array Value} (h : Blk w g t A) {o n : Nat} (hn : o + n ≤ A.size) : w.there g o n := fun j hj => by
  refine ⟨?_, h.fr _⟩
  rw [h.at_ (Array.getElem?_eq_getElem (by omega))]; rfl

section
variable {a w w' : World} {r : Nat}
theorem below_set {B : Nat} (h : Below B a w) (g i : Nat) (u : Value) (hg : B ≤ g) : Below B a (w.setCell ⟨g, i, none⟩ u) := Below.setCell h hg u
theorem only_then {b : Nat} (h : a.grownBy w (some r)) (k : w.grownBy w' (some b)) (hb : b = r ∨ a.heap.size ≤ b) : a.grownBy w' (some r) :=
  ⟨k.os.trans h.os, k.tape.trans h.tape, k.output.trans h.output, Nat.le_trans h.size k.size, fun i hi hne => (k.block i (Nat.lt_of_lt_of_le hi h.size) (by
    intro e
    injection e with e
    rcases hb with hb | hb
    · exact hne (by rw [e, hb])
    · omega)).trans (h.block i hi hne)⟩
theorem only_alloc (h : a.grownBy w (some r)) (o : Obj) : a.grownBy (w.alloc o) (some r) :=
  ⟨h.os, h.tape, h.output, Nat.le_trans h.size (by simp), fun i hi hne => (Below.heap_alloc w o i (Nat.lt_of_lt_of_le hi h.size)).trans (h.block i hi hne)⟩
theorem only_set (h : a.grownBy w (some r)) {p : Addr} (hp : p.block = r ∨ a.heap.size ≤ p.block) (u : Value) : a.grownBy (w.setCell p u) (some r) :=
  ⟨h.os, h.tape, h.output, by simpa [World.setCell] using h.size, fun i hi hne => (Below.heap_setCell w p u i (by
    rintro rfl
    rcases hp with hp | hp
    · exact hne (by rw [hp])
    · omega)).trans (h.block i hi hne)⟩
/-- What turned is new: then nothing old has. -/
theorem below_only (h : Below a.heap.size a w) (hG : w.grownBy w' (some r)) (hr : a.heap.size ≤ r) : Below a.heap.size a w' :=
  ⟨hG.os.trans h.os, hG.tape.trans h.tape, hG.output.trans h.output, Nat.le_trans h.size hG.size, fun i hi => (hG.block i (Nat.lt_of_lt_of_le hi h.size) (by intro e; injection e; omega)).trans (h.block i hi)⟩
end
end Go.Proofs.YtlpbbjjibnbooaaGreatDoor
