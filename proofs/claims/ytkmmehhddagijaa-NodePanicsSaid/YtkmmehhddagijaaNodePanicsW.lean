/-
  The walk of NodePanics.
-/
import Derived.Test.YtkmmehhddagijaaNodeP
import Derived.Test.YtkmmehhddagijaaNode
import Derived.Test.YtkmmehhddagijaaLawQ
namespace Go.Proofs.Ytkmmehhddagijaa
set_option linter.unusedVariables false
set_option linter.unusedSimpArgs false
open Go.RowKit

set_option maxRecDepth 100000 in
set_option maxHeartbeats 2000000 in
theorem panicsLaw_any (l : List UInt8) (cs : Array Value) (w : World) (h48 : cs.size = 48) (h1 : cs.all (·.oneCell') = true)
    (hbd : ∀ W : World, (Instr.build 37 #[(0, .agg cs)]).run Try.prog W = .ok (.agg cs) W) :
    Calls Try.prog 3 #[str l, .agg cs] w fun e w' => e = .returned (.bool true) ∧ Below w.heap.size w w' := by
  have hi : (Try.prog.info? 29).map (·.size) = some cs.size := by rw [h48]; kernel_rfl
  have hk : ∃ w0, w0 = w.alloc (.cells cs 29) := ⟨_, rfl⟩
  obtain ⟨w0, hw0⟩ := hk
  have hb0 : Below w.heap.size w w0 := by rw [hw0]; exact (Below.refl _ _).alloc (Nat.le_refl _) _
  have hs0 : w.heap.size < w0.heap.size := by rw [hw0]; simp
  have HB0 : Hid (Blk w0 w.heap.size 29 cs) := by rw [hw0]; exact Lib.hid (Blk.new _ _ _)
  have HD := Lib.hid fun W => panics_yes (.iface 33 (.agg #[str l])) _ W (ta_data _)
  have HH := Lib.hid fun (v : Value) W => panics_yes (.iface 35 v) _ W (ta_hole v)
  have HN := Lib.hid fun W => panics_yes .nilIface _ W ta_nil
  have HI := Lib.hid fun W => panics_no cs W h48 h1
  clear h48 h1
  go_enter Try.func3, Try.ntmps3
  go_wp2_with fail
  rw [← hw0]
  clear hw0
  refine (awake13_any _).mono ?_
  rintro e w1 ⟨rfl, hb1⟩
  have hd1 := keep_below hb1 hb0
  have HB1 := Lib.hid (HB0.out.below hb1 hs0)
  have hs1 : w.heap.size < w1.heap.size := keep_size hb1 hs0
  go_wp2_with fail
  refine (HD.out _).mono ?_
  rintro e w2 ⟨rfl, hb2⟩
  have hd2 := keep_below hb2 hd1
  have HB2 := Lib.hid (HB1.out.below hb2 hs1)
  have hs2 : w.heap.size < w2.heap.size := keep_size hb2 hs1
  go_wp2_with fail
  refine (HH.out _ _).mono ?_
  rintro e w3 ⟨rfl, hb3⟩
  have hd3 := keep_below hb3 hd2
  have HB3 := Lib.hid (HB2.out.below hb3 hs2)
  have hs3 : w.heap.size < w3.heap.size := keep_size hb3 hs2
  go_wp2_with fail
  refine (HN.out _).mono ?_
  rintro e w4 ⟨rfl, hb4⟩
  have hd4 := keep_below hb4 hd3
  have HB4 := Lib.hid (HB3.out.below hb4 hs3)
  have hB := HB4.out
  go_wp2_with (first
    | ((with_reducible refine wpList_load_want ?qw 29 (.tmp 3) ?q2 w.heap.size ?q3 29 cs _ hB Try.underlying29 rfl hi ?_); (case q2 => rfl); (case q3 => rfl); (case qw => rfl))
    | ((with_reducible refine wpList_build_want ?bq 37 #[(0, .tmp 21)] ?r2 #[(0, .agg cs)] ?r3 (.agg cs) (hbd _) ?_); (case r2 => rfl); (case r3 => simp [Act.eval, Act.put]); (case bq => rfl)))
  refine (HI.out _).mono ?_
  rintro e w5 ⟨rfl, hb5⟩
  go_wp2_with fail
  go_ret
  exact ⟨ret_bool (by simp), keep_below hb5 hd4⟩

theorem build_index (p q r s : PtrD) (W : World) : (Instr.build 37 #[(0, .agg (ptrs4 p q r s))]).run Try.prog W = .ok (.agg (ptrs4 p q r s)) W := by kernel_rfl
theorem ptrs_one (p q r s : PtrD) : (ptrs4 p q r s).all (·.oneCell') = true := by kernel_rfl
theorem ptrs_size (p q r s : PtrD) : (ptrs4 p q r s).size = 48 := by kernel_rfl
theorem panicsLaw_ptrs (l : List UInt8) (p q r s : PtrD) (w : World) :
    Calls Try.prog 3 #[str l, .agg (ptrs4 p q r s)] w fun e w' => e = .returned (.bool true) ∧ Below w.heap.size w w' :=
  panicsLaw_any l (ptrs4 p q r s) w (ptrs_size p q r s) (ptrs_one p q r s) (build_index p q r s)
end Go.Proofs.Ytkmmehhddagijaa
