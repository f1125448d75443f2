/-
  The walk of ModelNil.
-/
import Derived.Test.YtckicdbiiepngaaLawM
namespace Go.Proofs.Ytckicdbiiepngaa
set_option linter.unusedVariables false
set_option linter.unusedSimpArgs false
open Go.RowKit Go.Maps Go.Lib Go.Shelf

set_option maxRecDepth 20000 in
theorem modelNil_any (a : MAct) (snap : Int) (h : a.Ok) (w : World) : Calls Try.prog 7 #[.agg a.cells, .int .i64 snap] w fun e w' => e = .returned (.bool true) ∧ Below w.heap.size w w' := by
  have HD := Lib.hid (do_nil a h)
  obtain ⟨dn, id, off, n, fill⟩ := a
  simp only [MAct.cells] at HD ⊢
  clear h
  go_enter Try.func7, Try.ntmps7
  go_wp2_with fail
  obtain ⟨w1, hw1⟩ : ∃ x, x = w.alloc (.cells #[.int .u8 dn, .int .i64 id, .int .i64 off, .int .i64 n, .int .u8 fill.toNat] 37) := ⟨_, rfl⟩
  have hb1 : Below w.heap.size w w1 := by rw [hw1]; exact keep_alloc (Below.refl _ _) _
  have hx1 : Blk w1 w.heap.size 37 #[.int .u8 dn, .int .i64 id, .int .i64 off, .int .i64 n, .int .u8 fill.toNat] := by rw [hw1]; exact Blk.new _ _ _
  rw [← hw1]
  have HB1 := Lib.hid hb1
  have HX1 := Lib.hid hx1
  clear hw1 hb1 hx1
  refine (awake_any w1).mono ?_
  rintro e w2 ⟨rfl, hb2⟩
  have hx2 := HX1.out.below hb2 HX1.out.lt
  have g0 := hx2.at_ (i := 0) rfl
  have g1 := hx2.at_ (i := 1) rfl
  have g2 := hx2.at_ (i := 2) rfl
  have g3 := hx2.at_ (i := 3) rfl
  have g4 := hx2.at_ (i := 4) rfl
  have HB2 := Lib.hid (keep_below hb2 HB1.out)
  clear hb2 hx2
  go_wp2_with fail
  refine (keep_nil w2).mono ?_
  rintro e w3 ⟨rfl, rfl⟩
  go_wp2_with fail
  refine (back_nil w2).mono ?_
  rintro e w3 ⟨rfl, rfl⟩
  go_wp2_with fail
  refine (read_nil _ _ _ _ w2).mono ?_
  rintro e w3 ⟨rfl, rfl⟩
  go_wp2_with fail
  refine (list_nil _ w2).mono ?_
  rintro e w3 ⟨rfl, rfl⟩
  go_wp2_with fail
  refine (HD.out w2).mono ?_
  rintro e w3 ⟨rfl, hb3⟩
  have HB3 := Lib.hid (keep_below hb3 HB2.out)
  clear hb3 g0 g1 g2 g3 g4
  go_wp2_with fail
  refine (snaps_nil w3).mono ?_
  rintro e w4 ⟨rfl, rfl⟩
  go_wp2_with fail
  refine (copy_nil w3).mono ?_
  rintro e w4 ⟨rfl, rfl⟩
  go_wp2_with fail
  refine (new_any w3).mono ?_
  rintro e w4 ⟨v, rfl, hm, hb4⟩
  have HB4 := Lib.hid (keep_below hb4 HB3.out)
  have HS := Lib.hid hm.at_same
  clear hm hb4
  go_wp2_with fail
  refine (same_nil HS.out).mono ?_
  rintro e w5 ⟨rfl, hb5⟩
  have HB5 := Lib.hid (keep_below hb5 HB4.out)
  clear hb5
  go_wp2_with fail
  go_ret
  exact ⟨rfl, HB5.out⟩
end Go.Proofs.Ytckicdbiiepngaa
