/-
  Contracts of le's reader: New, Left, Take, number, U64.
-/
import Derived.Test.YtkmmehhddagijaaDoorLe2
namespace Go.Proofs.YtkmmehhddagijaaDoor
open Go.RowKit
set_option linter.unusedVariables false

/-- Block b is a reader of the bytes l that stands at p. -/
def RdAt (w : World) (b : Nat) (l : List UInt8) (p : Nat) : Prop := w.heap[b]? = some (.cells #[str l, .int .i64 p] 83 (0, 0)) ∧ p ≤ l.length ∧ l.length ≤ 140737488351232
theorem RdAt.lt {w : World} {b p : Nat} {l : List UInt8} (h : RdAt w b l p) : b < w.heap.size := lt_of_block h.1
theorem RdAt.c0 {w : World} {b p : Nat} {l : List UInt8} (h : RdAt w b l p) : w.cell? ⟨b, 0, none⟩ = some (str l) := cell_of_row w b 0 _ _ _ h.1
theorem RdAt.c1 {w : World} {b p : Nat} {l : List UInt8} (h : RdAt w b l p) : w.cell? ⟨b, 1, none⟩ = some (.int .i64 p) := cell_of_row w b 1 _ _ _ h.1
theorem RdAt.fr {w : World} {b p : Nat} {l : List UInt8} (h : RdAt w b l p) (i : Nat) : w.frozen? ⟨b, i, none⟩ = false := by simp [World.frozen?, h.1]
theorem RdAt.keep {w w' : World} {b p B : Nat} {l : List UInt8} (h : RdAt w b l p) (hb : Below B w w') (hB : b < B) : RdAt w' b l p := ⟨(hb.block b hB).trans h.1, h.2⟩
theorem RdAt.drewN {w : World} {b p : Nat} {l : List UInt8} (h : RdAt w b l p) (n : Nat) : RdAt (w.drewN n) b l p := h
theorem RdAt.put {w : World} {b p q : Nat} {l : List UInt8} (h : RdAt w b l p) (hq : q ≤ l.length) : RdAt (w.setCell ⟨b, 1, none⟩ (.int .i64 q)) b l q := by
  refine ⟨?_, hq, h.2.2⟩
  have h1 := h.1
  simp [World.setCell, Array.getElem?_modify, h1]
/-- Only block b, and what is new, has turned. -/
theorem only_put {a w : World} {b : Nat} (h : a.grownBy w (some b)) (v : Value) : a.grownBy (w.setCell ⟨b, 1, none⟩ v) (some b) :=
  ⟨h.os, h.tape, h.output, by simpa [World.setCell] using h.size, fun i hi hne => (Below.heap_setCell w ⟨b, 1, none⟩ v i (by rintro rfl; exact hne rfl)).trans (h.block i hi hne)⟩
theorem only_drewN {a w : World} {row : Option Nat} (h : a.grownBy w row) (n : Nat) : a.grownBy (w.drewN n) row := ⟨h.os, h.tape, h.output, h.size, h.block⟩

theorem new_any (l : List UInt8) (w : World) (hl : l.length ≤ 140737488351232) :
    Calls Tryd.prog 22 #[str l] w fun e w' => e = .returned (.pointer (some ⟨w.heap.size, 0, none⟩)) ∧ RdAt w' w.heap.size l 0 ∧ Below w.heap.size w w' := by
  go_enter Tryd.func22, Tryd.ntmps22
  go_wp2_with fail
  go_ret
  exact ⟨rfl, ⟨heap_alloc_new w _, Nat.zero_le _, hl⟩, (Below.refl _ _).alloc (Nat.le_refl _) _⟩

theorem left_any (b p : Nat) (l : List UInt8) (w : World) (h : RdAt w b l p) :
    Calls Tryd.prog 35 #[.pointer (some ⟨b, 0, none⟩)] w fun e w' => e = .returned (.int .i64 ((l.length : Int) - p)) ∧ ∃ n, w' = w.drewN n := by
  have c0 := h.c0
  have c1 := h.c1
  have hp := h.2.1
  have hl := h.2.2
  have e1 : IntKind.i64.wrap ((l.length : Int) - p) = (l.length : Int) - p := by rw [IntKind.wrap_i64]; omega
  clear h
  go_enter Tryd.func35, Tryd.ntmps35
  go_wp2_with fail
  go_quiet (fail)
  go_wp2_with fail
  go_ret
  exact ⟨rfl, nq, rfl⟩

theorem rd_extract (l : List UInt8) (p m : Nat) : (ByteArray.mk l.toArray).extract p (p + m) = ⟨((l.drop p).take m).toArray⟩ := by
  apply ByteArray.ext
  rw [ByteArray.data_extract]
  simp [List.extract_eq_take_drop]

def tkErr (l : List UInt8) (p : Nat) (n : Int) : Int := if n < 0 then 1 else if (l.length : Int) - p < n then 2 else 0
def tkStr (l : List UInt8) (p : Nat) (n : Int) : List UInt8 := if tkErr l p n = 0 then (l.drop p).take n.toNat else []
def tkPos (l : List UInt8) (p : Nat) (n : Int) : Nat := if tkErr l p n = 0 then p + n.toNat else p

theorem take_any (b p : Nat) (l : List UInt8) (n : Int) (w : World) (h : RdAt w b l p) (hn : n ≤ 9223372036854775807) :
    Calls Tryd.prog 25 #[.pointer (some ⟨b, 0, none⟩), .int .i64 n] w fun e w' =>
      e = .returned (.tuple #[str (tkStr l p n), .int .i64 (tkErr l p n)]) ∧ RdAt w' b l (tkPos l p n) ∧ w.grownBy w' (some b) := by
  have HL := Lib.hid (left_any b p l w h)
  have HR := Lib.hid h
  by_cases hneg : n < 0
  · have he : Hid (tkErr l p n = 1) := by unfold Hid tkErr; rw [if_pos hneg]
    have hs : Hid (tkStr l p n = [] ∧ tkPos l p n = p) := by unfold Hid tkStr tkPos; rw [he.out]; exact ⟨rfl, rfl⟩
    clear h
    go_enter Tryd.func25, Tryd.ntmps25
    go_wp2_with fail
    go_ret2
    rw [he.out, hs.out.1, hs.out.2]
    exact ⟨rfl, HR.out, World.grownBy.refl _ _⟩
  · obtain ⟨m, rfl⟩ := Int.eq_ofNat_of_zero_le (show 0 ≤ n by omega)
    by_cases hlt : (l.length : Int) - p < m
    · have he : Hid (tkErr l p m = 2) := by unfold Hid tkErr; rw [if_neg hneg, if_pos hlt]
      have hs : Hid (tkStr l p m = [] ∧ tkPos l p m = p) := by unfold Hid tkStr tkPos; rw [he.out]; exact ⟨rfl, rfl⟩
      clear h hneg
      go_enter Tryd.func25, Tryd.ntmps25
      go_wp2_with fail
      refine HL.out.mono ?_
      rintro e w' ⟨rfl, k, rfl⟩
      go_wp2_with fail
      go_ret2
      rw [he.out, hs.out.1, hs.out.2]
      exact ⟨rfl, HR.out.drewN k, only_drewN (World.grownBy.refl _ _) k⟩
    · have he : Hid (tkErr l p m = 0) := by unfold Hid tkErr; rw [if_neg hneg, if_neg hlt]
      have hs : Hid (tkStr l p m = (l.drop p).take m ∧ tkPos l p m = p + m) := by unfold Hid tkStr tkPos; rw [he.out]; exact ⟨rfl, rfl⟩
      have c0 := h.c0
      have c1 := h.c1
      have f1 := h.fr 1
      have hp := h.2.1
      have hl := h.2.2
      have hpm : p + m ≤ l.length := by omega
      have hi1 : (p : Int) + m ≤ l.length := by omega
      have w1 : IntKind.i64.wrap ((p : Int) + m - m) = p := by rw [IntKind.wrap_i64]; omega
      clear h hneg
      go_enter Tryd.func25, Tryd.ntmps25
      go_wp2_with fail
      refine HL.out.mono ?_
      rintro e w' ⟨rfl, k, rfl⟩
      go_wp2_with fail
      have hR2 : RdAt ((w.drewN k).setCell ⟨b, 1, none⟩ (.int .i64 ((p : Int) + m))) b l (p + m) := (HR.out.drewN k).put hpm
      have hG : w.grownBy ((w.drewN k).setCell ⟨b, 1, none⟩ (.int .i64 ((p : Int) + m))) (some b) := only_put (only_drewN (World.grownBy.refl _ _) k) _
      have g0 := hR2.c0
      have g1 : ((w.drewN k).setCell ⟨b, 1, none⟩ (.int .i64 ((p : Int) + m))).cell? ⟨b, 1, none⟩ = some (.int .i64 ((p : Int) + m)) := hR2.c1
      have hR3 := Lib.hid hR2
      clear hR2 c0 c1 f1
      generalize (w.drewN k).setCell ⟨b, 1, none⟩ (.int .i64 ((p : Int) + m)) = W at *
      have i1 : (0 : Int) ≤ p := by omega
      have i2 : (p : Int) ≤ p + m := by omega
      go_quiet (fail)
      go_wp2_with fail
      go_ret2
      rw [he.out, hs.out.1, hs.out.2]
      refine ⟨?_, hR3.out.drewN nq, only_drewN hG nq⟩
      exact congrArg (fun s => Ending.returned (.tuple #[Value.string s, .int .i64 0])) (rd_extract l p m)

/-- The number that the first k bytes from p on are. -/
def numTo (l : List UInt8) (p : Nat) : Nat → Int
  | 0 => 0
  | k + 1 => bits .or .u64 (numTo l p k) (IntKind.u64.wrap (IntKind.u64.wrap ((l.getD (p + k) 0).toNat : Int) * 2 ^ (8 * k)))

def nbErr (l : List UInt8) (p n : Nat) : Int := if (l.length : Int) - p < n then 2 else 0
def nbVal (l : List UInt8) (p n : Nat) : Int := if (l.length : Int) - p < n then 0 else numTo l p n
def nbPos (l : List UInt8) (p n : Nat) : Nat := if (l.length : Int) - p < n then p else p + n

theorem number_any (b p n : Nat) (l : List UInt8) (w : World) (h : RdAt w b l p) (hn : n ≤ 8) :
    Calls Tryd.prog 34 #[.pointer (some ⟨b, 0, none⟩), .int .i64 n] w fun e w' =>
      e = .returned (.tuple #[.int .u64 (nbVal l p n), .int .i64 (nbErr l p n)]) ∧ RdAt w' b l (nbPos l p n) ∧ w.grownBy w' (some b) := by
  have HL := Lib.hid (left_any b p l w h)
  have HR := Lib.hid h
  by_cases hlt : (l.length : Int) - p < n
  · have he : Hid (nbErr l p n = 2 ∧ nbVal l p n = 0 ∧ nbPos l p n = p) := by unfold Hid nbErr nbVal nbPos; rw [if_pos hlt, if_pos hlt, if_pos hlt]; exact ⟨rfl, rfl, rfl⟩
    clear h
    go_enter Tryd.func34, Tryd.ntmps34
    go_wp2_with fail
    refine HL.out.mono ?_
    rintro e w' ⟨rfl, k, rfl⟩
    go_wp2_with fail
    go_ret2
    rw [he.out.1, he.out.2.1, he.out.2.2]
    exact ⟨rfl, HR.out.drewN k, only_drewN (World.grownBy.refl _ _) k⟩
  · have he : Hid (nbErr l p n = 0 ∧ nbVal l p n = numTo l p n ∧ nbPos l p n = p + n) := by unfold Hid nbErr nbVal nbPos; rw [if_neg hlt, if_neg hlt, if_neg hlt]; exact ⟨rfl, rfl, rfl⟩
    have hp := h.2.1
    have hl := h.2.2
    have hpm : p + n ≤ l.length := by omega
    clear h
    go_enter Tryd.func34, Tryd.ntmps34
    go_wp2_with fail
    refine HL.out.mono ?_
    rintro e w' ⟨rfl, k0, rfl⟩
    go_wp2_with fail
    go_loopw [6, 13] (fun x t wr => ∃ k : Nat, k ≤ n ∧ t = .int .i64 k ∧ x = .int .u64 (numTo l p k) ∧ RdAt wr b l p ∧ w.grownBy wr (some b)) (fun _ t _ => n - (intOf t).toNat)
    case atStart => exact ⟨0, Nat.zero_le _, rfl, rfl, HR.out.drewN k0, only_drewN (World.grownBy.refl _ _) k0⟩
    case round =>
      obtain ⟨k, hk, rfl, rfl, hR, hG⟩ := hrel
      have c0 := hR.c0
      have c1 := hR.c1
      have f1 := hR.fr 1
      have HR2 := Lib.hid hR
      clear hR
      by_cases hlt2 : k < n
      · have w1 : IntKind.i64.wrap ((p : Int) + k) = p + k := by rw [IntKind.wrap_i64]; omega
        have w2 : IntKind.i64.wrap (8 * (k : Int)) = 8 * k := by rw [IntKind.wrap_i64]; omega
        have i1 : (0 : Int) ≤ (p : Int) + k := by omega
        have i2 : (p : Int) + k < l.length := by omega
        go_wp2_with fail
        go_quiet (fail)
        go_wp2_with fail
        go_roundw
        case rel =>
          refine ⟨k + 1, by omega, by go_num, ?_, HR2.out.drewN nq, only_drewN hG nq⟩
          have hpk : p + k < l.length := by omega
          have hg : (ByteArray.mk l.toArray)[p + k]'(by rw [ba_size]; exact hpk) = l.getD (p + k) 0 := by
            rw [ba_get, List.getD_eq_getElem?_getD, List.getElem?_eq_getElem hpk]; rfl
          rw [hg]
          rfl
        case measure => simp [intOf]; omega
      · obtain rfl : k = n := by omega
        go_wp2_with fail
        go_ret2
        rw [he.out.1, he.out.2.1, he.out.2.2]
        exact ⟨rfl, HR2.out.put hpm, only_put hG _⟩

theorem rdU64_any (b p : Nat) (l : List UInt8) (w : World) (h : RdAt w b l p) :
    Calls Tryd.prog 52 #[.pointer (some ⟨b, 0, none⟩)] w fun e w' =>
      e = .returned (.tuple #[.int .u64 (nbVal l p 8), .int .i64 (nbErr l p 8)]) ∧ RdAt w' b l (nbPos l p 8) ∧ w.grownBy w' (some b) := by
  have H := Lib.hid (number_any b p 8 l w h (by omega))
  clear h
  go_enter Tryd.func52, Tryd.ntmps52
  go_wp2_with fail
  refine H.out.mono ?_
  rintro e w' ⟨rfl, hR, hG⟩
  go_wp2_with fail
  go_ret2
  exact ⟨rfl, hR, hG⟩
end Go.Proofs.YtkmmehhddagijaaDoor
