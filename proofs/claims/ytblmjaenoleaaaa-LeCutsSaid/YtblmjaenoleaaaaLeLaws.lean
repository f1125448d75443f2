/-
  The walks of LeLays, LeUnlike, LePads.
-/
import Derived.Test.YtblmjaenoleaaaaLe2
namespace Go.Proofs.Ytblmjaenoleaaaa
open Go.RowKit
set_option linter.unusedVariables false

theorem long_any {n : Nat} (l : List UInt8) (h : 3000 < l.length) (hl : l.length ≤ 140737488351232) : (3000 : Int) < (l.length : Int) := by omega

theorem lays_any (n : Int) (x : Nat) (l : List UInt8) (tt : Int) (w : World) (hx : x < 18446744073709551616) (hl : l.length ≤ 9223372036854775807) :
    Calls Try.prog 5 #[.int .i64 n, .int .u64 x, str l, .int .i64 tt] w fun e w' => e = .returned (.bool true) ∧ Below w.heap.size w w' := by
  by_cases hlong : 3000 < l.length
  · go_enter Try.func5, Try.ntmps5
    go_wp2_with fail
    refine (awake_any _).mono ?_
    rintro e w1 ⟨rfl, hb1⟩
    go_wp2_with fail
    refine (awake_any _).mono ?_
    rintro e w2 ⟨rfl, hb2⟩
    go_wp2_with fail
    go_ret
    exact ⟨rfl, hb1.trans (hb2.mono hb1.size)⟩
  · have hx' := Lib.hid hx
    clear hx
    go_enter Try.func5, Try.ntmps5
    go_wp2_with fail
    refine (awake_any _).mono ?_
    rintro e w1 ⟨rfl, hb1⟩
    go_wp2_with fail
    refine (u32_any n _).mono ?_
    rintro e w2 ⟨rfl, hb2⟩
    have hc2 := hb1.trans (hb2.mono hb1.size)
    clear hb1 hb2
    go_wp2_with fail
    refine (refU32_any n _).mono ?_
    rintro e w3 ⟨rfl, hb3⟩
    have hc3 := hc2.trans (hb3.mono hc2.size)
    clear hc2 hb3
    go_wp2_with fail
    refine (u64_any x _ hx'.out).mono ?_
    rintro e w4 ⟨rfl, hb4⟩
    have hc4 := hc3.trans (hb4.mono hc3.size)
    clear hc3 hb4
    go_wp2_with fail
    refine (lay_any x 8 _ hx'.out (by omega)).mono ?_
    rintro e w5 ⟨rfl, hb5⟩
    have hc5 := hc4.trans (hb5.mono hc4.size)
    clear hc4 hb5
    go_wp2_with fail
    refine (int_any n _).mono ?_
    rintro e w6 ⟨rfl, hb6⟩
    have hc6 := hc5.trans (hb6.mono hc5.size)
    clear hc5 hb6
    go_wp2_with fail
    refine (refInt_any n _).mono ?_
    rintro e w7 ⟨rfl, hb7⟩
    have hc7 := hc6.trans (hb7.mono hc6.size)
    clear hc6 hb7
    go_wp2_with fail
    refine (pad_any l tt _ (by omega)).mono ?_
    rintro e w8 ⟨rfl, hb8⟩
    have hc8 := hc7.trans (hb8.mono hc7.size)
    clear hc7 hb8
    go_wp2_with fail
    refine (refPad_any l tt _ (by omega)).mono ?_
    rintro e w9 ⟨rfl, hb9⟩
    have hc9 := hc8.trans (hb9.mono hc8.size)
    clear hc8 hb9
    go_wp2_with fail
    go_ret
    exact ⟨rfl, hc9⟩
end Go.Proofs.Ytblmjaenoleaaaa
