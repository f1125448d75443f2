/-
  Contracts of package node: Level, Data.Text; the document's examples.
-/
import Derived.Test.YtkmmehhddagijaaDoorRows
import Derived.Test.YtkmmehhddagijaaDoorLe2
namespace Go.Proofs.YtkmmehhddagijaaDoor
set_option linter.unusedVariables false
set_option linter.unusedSimpArgs false
open Go.RowKit

def levN (size : Int) : Nat := if size ≤ 256 then 0 else if size ≤ 1024 then 1 else if size ≤ 4096 then 2 else 3
theorem levN_le (size : Int) : levN size ≤ 3 := by unfold levN; (repeat' split) <;> omega
theorem levN_mono {a b : Int} (h : a ≤ b) : levN a ≤ levN b := by unfold levN; (repeat' split) <;> omega

theorem level_any (size : Int) (w : World) : Calls Tryd.prog 15 #[.int .i64 size] w fun e w' => e = .returned (.int .i64 (levN size)) ∧ w = w' := by
  have HV : Hid (levN size = if size ≤ 256 then 0 else if size ≤ 1024 then 1 else if size ≤ 4096 then 2 else 3) := Lib.hid rfl
  go_enter Tryd.func15, Tryd.ntmps15
  go_wp2_with fail
  go_loop [3, 4] (fun l m => ∃ k : Nat, k ≤ 3 ∧ l = .int .i64 k ∧ ((k = 0 ∧ m = .int .i64 256) ∨ (k = 1 ∧ m = .int .i64 1024 ∧ 256 < size) ∨ (k = 2 ∧ m = .int .i64 4096 ∧ 1024 < size) ∨ (k = 3 ∧ m = .int .i64 16384 ∧ 4096 < size))) (fun l _ => 3 - (intOf l).toNat)
  case atStart => exact ⟨0, by omega, rfl, .inl ⟨rfl, rfl⟩⟩
  case round =>
    obtain ⟨k, hk, rfl, hc⟩ := hrel
    rcases hc with ⟨rfl, rfl⟩ | ⟨rfl, rfl, hlt⟩ | ⟨rfl, rfl, hlt⟩ | ⟨rfl, rfl, hlt⟩
    · by_cases h : 256 < size
      · go_wp2_with fail
        go_round
        case rel => exact ⟨1, by omega, rfl, .inr (.inl ⟨rfl, rfl, h⟩)⟩
        case measure => simp [intOf]
      · go_wp2_with fail
        go_ret
        refine ⟨ret_int ?_, rfl⟩
        rw [HV.out, if_pos (by omega)]; rfl
    · by_cases h : 1024 < size
      · go_wp2_with fail
        go_round
        case rel => exact ⟨2, by omega, rfl, .inr (.inr (.inl ⟨rfl, rfl, h⟩))⟩
        case measure => simp [intOf]
      · go_wp2_with fail
        go_ret
        refine ⟨ret_int ?_, rfl⟩
        rw [HV.out, if_neg (by omega), if_pos (by omega)]; rfl
    · by_cases h : 4096 < size
      · go_wp2_with fail
        go_round
        case rel => exact ⟨3, by omega, rfl, .inr (.inr (.inr ⟨rfl, rfl, h⟩))⟩
        case measure => simp [intOf]
      · go_wp2_with fail
        go_ret
        refine ⟨ret_int ?_, rfl⟩
        rw [HV.out, if_neg (by omega), if_neg (by omega), if_pos (by omega)]; rfl
    · have hr : Hid (levN size = 3) := by unfold Hid; rw [HV.out, if_neg (by omega), if_neg (by omega), if_neg (by omega)]
      by_cases h : 16384 < size
      · go_wp2_with fail
        go_ret
        exact ⟨ret_int (by rw [hr.out]; rfl), rfl⟩
      · go_wp2_with fail
        go_ret
        exact ⟨ret_int (by rw [hr.out]; rfl), rfl⟩

def textL (s : List UInt8) : List UInt8 := if 256 < s.length then [] else padL s 64
theorem dText_any (s : List UInt8) (w : World) (hl : s.length ≤ 9223372036854775807) :
    Calls Tryd.prog 8 #[.agg #[str s]] w fun e w' => e = .returned (str (textL s)) ∧ Below w.heap.size w w' := by
  by_cases h : 256 < s.length
  · have he : Hid (textL s = []) := by unfold Hid textL; rw [if_pos h]
    go_enter Tryd.func8, Tryd.ntmps8
    go_wp2_with fail
    go_ret
    exact ⟨ret_str he.out.symm, (Below.refl _ _).alloc (Nat.le_refl _) _⟩
  · have he : Hid (textL s = padL s 64) := by unfold Hid textL; rw [if_neg h]
    have HP := Lib.hid fun W => pad_any s 64 W (by omega)
    have hb := (Below.refl w.heap.size w).alloc (Nat.le_refl _) (.cells #[str s] 39)
    go_enter Tryd.func8, Tryd.ntmps8
    go_wp2_with fail
    refine (HP.out _).mono ?_
    rintro e w1 ⟨rfl, hb1⟩
    go_wp2_with fail
    go_ret
    exact ⟨ret_str he.out.symm, keep_below hb1 hb⟩

theorem rd_take (l : List UInt8) (m : Nat) : (ByteArray.mk l.toArray).extract 0 m = ⟨(l.take m).toArray⟩ := by
  apply ByteArray.ext
  rw [ByteArray.data_extract]
  simp [List.extract_eq_take_drop]
theorem awake13_any (w : World) : Calls Tryd.prog 6 #[] w fun e w' => e = .returned (.bool true) ∧ Below w.heap.size w w' := by
  have h1 : Hid (textL [97, 98, 99] = [97, 98, 99] ++ List.replicate 61 0) := by unfold Hid; decide
  have hl : ([97, 98, 99] ++ List.replicate 61 0 : List UInt8).length ≤ 64 := by decide
  have hl2 : 64 ≤ ([97, 98, 99] ++ List.replicate 61 0 : List UInt8).length := by decide
  have hx := rd_take ([97, 98, 99] ++ List.replicate 61 0) 3
  have h3 : ([97, 98, 99] ++ List.replicate 61 0 : List UInt8).take 3 = [97, 98, 99] := by decide
  rw [h3] at hx
  have HT := Lib.hid fun W => dText_any [97, 98, 99] W (by decide)
  rw [h1.out] at HT
  have HV := Lib.hid fun W => level_any 257 W
  rw [show levN 257 = 1 by decide] at HV
  clear h3 h1
  generalize ([97, 98, 99] ++ List.replicate 61 0 : List UInt8) = T at *
  go_enter Tryd.func6, Tryd.ntmps6
  go_wp2_with fail
  refine (HT.out _).mono ?_
  rintro e w1 ⟨rfl, hb1⟩
  go_wp2_with fail
  refine (HT.out _).mono ?_
  rintro e w2 ⟨rfl, hb2⟩
  go_wp2_with fail
  refine (HV.out _).mono ?_
  rintro e w3 ⟨rfl, rfl⟩
  go_wp2_with fail
  go_ret
  exact ⟨rfl, keep_below hb2 hb1⟩
end Go.Proofs.YtkmmehhddagijaaDoor
