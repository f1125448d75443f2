/-
  The walk of LeNil.
-/
import Derived.Test.YtblmjaenoleaaaaDoorLeR3
import Derived.Test.YtblmjaenoleaaaaDoorLeLaws
import Derived.Test.YtblmjaenoleaaaaDoorCls
namespace Go.Proofs.YtblmjaenoleaaaaDoor
open Go.RowKit
set_option linter.unusedVariables false

theorem nilU32_any (w : World) : Calls Tryd.prog 6 #[.pointer none] w fun e w' => e = .returned (.tuple #[.int .i64 0, .int .i64 2]) ∧ w = w' := by
  go_enter Tryd.func6, Tryd.ntmps6
  go_wp2_with fail
  refine (nilNum_any 4 w (by omega) (by omega)).mono ?_
  rintro e w' ⟨rfl, rfl⟩
  go_wp2_with fail
  go_ret2
  exact ⟨rfl, rfl⟩
theorem nilU64_any (w : World) : Calls Tryd.prog 7 #[.pointer none] w fun e w' => e = .returned (.tuple #[.int .u64 0, .int .i64 2]) ∧ w = w' := by
  go_enter Tryd.func7, Tryd.ntmps7
  go_wp2_with fail
  refine (nilNum_any 8 w (by omega) (by omega)).mono ?_
  rintro e w' ⟨rfl, rfl⟩
  go_wp2_with fail
  go_ret2
  exact ⟨rfl, rfl⟩
theorem nilInt_any (w : World) : Calls Tryd.prog 8 #[.pointer none] w fun e w' => e = .returned (.tuple #[.int .i64 0, .int .i64 2]) ∧ w = w' := by
  go_enter Tryd.func8, Tryd.ntmps8
  go_wp2_with fail
  refine (nilNum_any 8 w (by omega) (by omega)).mono ?_
  rintro e w' ⟨rfl, rfl⟩
  go_wp2_with fail
  go_ret2
  exact ⟨rfl, rfl⟩

set_option maxRecDepth 100000 in
theorem nilLaw_any (n : Int) (w : World) (h1 : -9223372036854775808 ≤ n) (h2 : n ≤ 9223372036854775807) :
    Calls Tryd.prog 3 #[.int .i64 n] w fun e w' => e = .returned (.bool true) ∧ Below w.heap.size w w' := by
  obtain ⟨m, hm, hm2⟩ : ∃ m : Nat, max n 0 = (m : Int) ∧ m ≤ 9223372036854775807 := ⟨(max n 0).toNat, by omega, by omega⟩
  have HM := Lib.hid hm
  go_enter Tryd.func3, Tryd.ntmps3
  go_wp2_with fail
  refine (nilU32_any _).mono ?_
  rintro e w' ⟨rfl, rfl⟩
  go_wp2_with fail
  refine (nilU64_any _).mono ?_
  rintro e w' ⟨rfl, rfl⟩
  go_wp2_with fail
  refine (nilInt_any _).mono ?_
  rintro e w' ⟨rfl, rfl⟩
  go_wp2_with fail
  refine (nilTake_any m _ hm2).mono ?_
  rintro e w' ⟨rfl, k, rfl⟩
  have hb : Below w.heap.size w (w.drewN k) := below_drewN (Below.refl _ _) k
  generalize w.drewN k = w1 at *
  clear hm
  go_wp2_with fail
  refine (awake_any _).mono ?_
  rintro e w2 ⟨rfl, hb1⟩
  have hb2 := hb.trans (hb1.mono hb.size)
  go_wp2_with fail
  refine (nilLeft_any _).mono ?_
  rintro e w' ⟨rfl, rfl⟩
  go_wp2_with fail
  refine (nilZeros_any _).mono ?_
  rintro e w' ⟨rfl, k2, rfl⟩
  go_wp2_with fail
  go_ret
  exact ⟨rfl, below_drewN hb2 _⟩
end Go.Proofs.YtblmjaenoleaaaaDoor
