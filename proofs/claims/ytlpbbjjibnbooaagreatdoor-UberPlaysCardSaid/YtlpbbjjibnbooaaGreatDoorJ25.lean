/-
  Uberblocks where none can be: no devices; a slot that is none.
  The reference's number of digits.
  Contracts of polderref09 (May, Bytes) and of polderref02.Bytes.
  Rows of whole numbers.
-/
import Derived.Test.YtlpbbjjibnbooaaGreatDoorJ21
import Derived.Test.YtlpbbjjibnbooaaGreatDoorJ11
import Derived.Test.YtlpbbjjibnbooaaGreatDoorJ14
import Derived.Test.YtlpbbjjibnbooaaGreatDoorJ15
import Derived.Test.YtlpbbjjibnbooaaGreatDoorJ01
import Derived.Test.YtlpbbjjibnbooaaGreatDoorJ09
namespace Go.Proofs.YtlpbbjjibnbooaaGreatDoor
set_option linter.unusedVariables false
set_option linter.unusedSimpArgs false
open Go.RowKit

/-- The zero Devs are no measure's. -/
theorem ubrightZ (w : World) : Calls Tryz.prog 41 #[.agg vZ] w fun e w' => e = .returned (.bool false) ∧ Below w.heap.size w w' := by
  obtain ⟨w1, hw1⟩ : ∃ y, w.alloc (.cells vZ 50) = y := ⟨_, rfl⟩
  have B1 : Blk w1 w.heap.size 50 vZ := by rw [← hw1]; exact Blk.new _ _ _
  have D1 : Below w.heap.size w w1 := by rw [← hw1]; exact keep_alloc (Below.refl _ _) _
  have HG : Hid (∀ W, Below w1.heap.size w1 W → Calls Tryz.prog 24 #[.agg #[.slice none 0 0, .int .i64 0]] W fun e w' => e = .returned (.bool false) ∧ Below W.heap.size W w') := Lib.hid (fun W _ => by
    exact right_any none 0 0 [] 0 W ⟨rfl, by decide, fun h => absurd h (Nat.lt_irrefl 0)⟩)
  have HD1 := Lib.hid D1
  have HB1 := Lib.hid B1
  have HW1 := Lib.hid hw1
  clear D1 B1 hw1
  go_enter Tryz.func41, Tryz.ntmps41
  repeat' (first
    | go_values
    | go_skip
    | go_guarded
    | ((fail_if_success (with_reducible refine drawn_mark ?_))
       first
         | go_step
         | go_upon
         | go_back
         | (simp only [Int.not_lt, Int.not_le] at *; go_simp)
         | (go_values <;> (try go_simp))
         | (go_ite <;> go_prune <;> (try go_simp))
         | (split <;> (first | (rename_i hx; exact (hx _ rfl).elim) | go_prune))))
  rw [HW1.out]
  obtain ⟨C, hCd, hCw, hCB, hCK, hCD⟩ := cls_below w1
  have f0 : ∀ W, C W → W.cell? ⟨w.heap.size, 0, none⟩ = some (.slice none 0 0) := fun W h => keep_cell (hCB W h) (HB1.out.at_ rfl) HB1.out.lt
  have f1 : ∀ W, C W → W.cell? ⟨w.heap.size, 1, none⟩ = some (.int .i64 0) := fun W h => keep_cell (hCB W h) (HB1.out.at_ rfl) HB1.out.lt
  refine wp_region_cls C (by kernel_rfl) (by kernel_rfl) hCd ?_
  repeat (first
    | go_big_quiet_skip
    | (go_big_quiet_want
       go_big_quiet_op
       first
         | go_big_quiet_on
         | (apply Exists.intro
            refine ⟨fun W hW => ?_, ?_⟩
            · first
                | exact rfl
                | exact ⟨rfl, rfl⟩
                | (have e0 := f0 W hW; have e1 := f1 W hW; simp only [e0, e1, Result.andThen_ok]; done)
                | (have e0 := f0 W hW; have e1 := f1 W hW; simp only [e0, e1, Result.andThen_ok]; first | exact ⟨trivial, rfl⟩ | exact rfl | exact ⟨rfl, rfl⟩)
                | (with_reducible refine (HG.out W (hCB W hW)).mono ?_; rintro e w' ⟨rfl, hb⟩; exact ⟨rfl, hCK _ _ hW hb⟩)
            go_big_quiet_on)))
  refine wpQuiet_nil ?_
  intro w2 hw2
  have HC2 := Lib.hid (keep_below (hCB w2 hw2) HD1.out)
  clear hCd hCw hCB hCK hCD f0 f1 hw2
  go_wp2_with fail
  go_ret
  exact ⟨rfl, HC2.out⟩
set_option maxRecDepth 20000 in
set_option maxHeartbeats 4000000 in
theorem ubestZ (w : World) : Calls Tryz.prog 14 #[.agg vZ] w fun e w' => e = .returned (.tuple #[.agg #[.int .i64 0, .int .i64 0, .int .i64 0, .int .i64 0, .int .i64 0, .int .i64 0, .bool false, .int .i64 0, .int .i64 0, .int .i64 0, .int .u64 0, .int .u64 0, .int .u64 0, .int .u64 0], .int .i64 1]) ∧ Below w.heap.size w w' := by
  have hbz := build_ubZ
  obtain ⟨w2, hw2⟩ : ∃ z, (w.alloc (.cells vZ 50)).alloc (.cells #[.int .i64 0, .int .i64 0, .int .i64 0, .int .i64 0, .int .i64 0, .int .i64 0, .bool false, .int .i64 0, .int .i64 0, .int .i64 0, .int .u64 0, .int .u64 0, .int .u64 0, .int .u64 0] 35) = z := ⟨_, rfl⟩
  have B1 : Blk w2 w.heap.size 50 vZ := by rw [← hw2]; exact (Blk.new _ _ _).alloc _
  have B2 : Blk w2 (w.heap.size + 1) 35 #[.int .i64 0, .int .i64 0, .int .i64 0, .int .i64 0, .int .i64 0, .int .i64 0, .bool false, .int .i64 0, .int .i64 0, .int .i64 0, .int .u64 0, .int .u64 0, .int .u64 0, .int .u64 0] := by rw [← hw2]; exact Blk.new2 _ _ _ _
  have D2 : Below w.heap.size w w2 := by rw [← hw2]; exact keep_alloc (keep_alloc (Below.refl _ _) _) _
  have HVR := Lib.hid (ubrightZ w2)
  have HB := Lib.hid (And.intro B1 (And.intro B2 D2))
  have HW2 := Lib.hid hw2
  have x0 := B1.at_ (i := 0) (v := .slice none 0 0) rfl
  have x1 := B1.at_ (i := 1) (v := .int .i64 0) rfl
  have x2 := B1.at_ (i := 2) (v := .slice none 0 0) rfl
  have x3 := B1.at_ (i := 3) (v := .slice none 0 0) rfl
  rw [← hw2] at x0 x1 x2 x3
  clear B1 B2 D2 hw2
  go_enter Tryz.func14, Tryz.ntmps14
  go_wp2_with fail
  rw [HW2.out]
  refine HVR.out.mono ?_
  rintro e w3 ⟨rfl, hb3⟩
  have hbw := keep_below hb3 HB.out.2.2
  have HZ3 := Lib.hid (HB.out.2.1.below hb3 HB.out.2.1.lt)
  clear x0 x1 x2 x3 hb3
  have z0 := (HZ3.out).at_ (i := 0) (v := .int .i64 0) rfl
  have z1 := (HZ3.out).at_ (i := 1) (v := .int .i64 0) rfl
  have z2 := (HZ3.out).at_ (i := 2) (v := .int .i64 0) rfl
  have z3 := (HZ3.out).at_ (i := 3) (v := .int .i64 0) rfl
  have z4 := (HZ3.out).at_ (i := 4) (v := .int .i64 0) rfl
  have z5 := (HZ3.out).at_ (i := 5) (v := .int .i64 0) rfl
  have z6 := (HZ3.out).at_ (i := 6) (v := .bool false) rfl
  have z7 := (HZ3.out).at_ (i := 7) (v := .int .i64 0) rfl
  have z8 := (HZ3.out).at_ (i := 8) (v := .int .i64 0) rfl
  have z9 := (HZ3.out).at_ (i := 9) (v := .int .i64 0) rfl
  have z10 := (HZ3.out).at_ (i := 10) (v := .int .u64 0) rfl
  have z11 := (HZ3.out).at_ (i := 11) (v := .int .u64 0) rfl
  have z12 := (HZ3.out).at_ (i := 12) (v := .int .u64 0) rfl
  have z13 := (HZ3.out).at_ (i := 13) (v := .int .u64 0) rfl
  have fr0 := (HZ3.out).fr 0
  have fr1 := (HZ3.out).fr 1
  have fr2 := (HZ3.out).fr 2
  have fr3 := (HZ3.out).fr 3
  have fr4 := (HZ3.out).fr 4
  have fr5 := (HZ3.out).fr 5
  have fr6 := (HZ3.out).fr 6
  have fr7 := (HZ3.out).fr 7
  have fr8 := (HZ3.out).fr 8
  have fr9 := (HZ3.out).fr 9
  have fr10 := (HZ3.out).fr 10
  have fr11 := (HZ3.out).fr 11
  have fr12 := (HZ3.out).fr 12
  have fr13 := (HZ3.out).fr 13
  go_wp2_with fail
  refine bodyPost_ret (v := .tuple #[.agg #[.int .i64 0, .int .i64 0, .int .i64 0, .int .i64 0, .int .i64 0, .int .i64 0, .bool false, .int .i64 0, .int .i64 0, .int .i64 0, .int .u64 0, .int .u64 0, .int .u64 0, .int .u64 0], .int .i64 1]) (by simp [results, Tryz.f14, go_sem, z0, z1, z2, z3, z4, z5, z6, z7, z8, z9, z10, z11, z12, z13]) rfl ⟨rfl, ?_⟩
  repeat (first | (with_reducible exact hbw) | (with_reducible refine keep_alloc ?_ _) | (with_reducible refine below_set ?_ _ _ _ (Nat.le_succ _)))
set_option maxRecDepth 20000 in
set_option maxHeartbeats 4000000 in
theorem uon_bad {w : World} {S : Nat → Nat → Prop} {U : Nat → Prop} {y : VX} {aw : List Bool} {ds : List DevD} (h : VdIn w S U y aw ds) (few : y.bd.length ≤ 1000) (d slot : Int) (hbad : ¬ (0 ≤ d ∧ d < y.bd.length ∧ 0 ≤ slot ∧ slot < 4)) :
    Calls Tryz.prog 19 #[y.val, .int .i64 d, .int .i64 slot] w fun e w' => e = .returned (.tuple #[.agg #[.int .i64 0, .int .i64 0, .int .i64 0, .int .i64 0, .int .i64 0, .int .i64 0, .bool false, .int .i64 0, .int .i64 0, .int .i64 0, .int .u64 0, .int .u64 0, .int .u64 0, .int .u64 0], .int .i64 1]) ∧ Below w.heap.size w w' := by
  have hbz := build_ubZ
  obtain ⟨w2, hw2⟩ : ∃ z, (w.alloc (.cells y.cells 50)).alloc (.cells #[.int .i64 0, .int .i64 0, .int .i64 0, .int .i64 0, .int .i64 0, .int .i64 0, .bool false, .int .i64 0, .int .i64 0, .int .i64 0, .int .u64 0, .int .u64 0, .int .u64 0, .int .u64 0] 35) = z := ⟨_, rfl⟩
  have B1 : Blk w2 w.heap.size 50 y.cells := by rw [← hw2]; exact (Blk.new _ _ _).alloc _
  have B2 : Blk w2 (w.heap.size + 1) 35 #[.int .i64 0, .int .i64 0, .int .i64 0, .int .i64 0, .int .i64 0, .int .i64 0, .bool false, .int .i64 0, .int .i64 0, .int .i64 0, .int .u64 0, .int .u64 0, .int .u64 0, .int .u64 0] := by rw [← hw2]; exact Blk.new2 _ _ _ _
  have D2 : Below w.heap.size w w2 := by rw [← hw2]; exact keep_alloc (keep_alloc (Below.refl _ _) _) _
  have HVR := Lib.hid (vright_any (h.below D2) few)
  have HB := Lib.hid (And.intro B1 (And.intro B2 D2))
  have HW2 := Lib.hid hw2
  have x0 := (B1).at_ (i := 0) (v := .slice (some ⟨y.gb, 0, none⟩) y.m y.cc) rfl
  have x1 := (B1).at_ (i := 1) (v := .int .i64 y.secs) rfl
  have x2 := (B1).at_ (i := 2) (v := .slice (some ⟨y.lb, 0, none⟩) y.bd.length y.lc) rfl
  have x3 := (B1).at_ (i := 3) (v := .slice (some ⟨y.ab, 0, none⟩) y.bd.length y.bd.length) rfl
  rw [← hw2] at x0 x1 x2 x3
  clear h B1 B2 D2 hw2
  go_enter Tryz.func19, Tryz.ntmps19
  go_wp2_with fail
  rw [HW2.out]
  refine HVR.out.mono ?_
  rintro e w3 ⟨rfl, hb3⟩
  have HB3 := Lib.hid (And.intro (HB.out.1.below hb3 HB.out.1.lt) (And.intro (HB.out.2.1.below hb3 HB.out.2.1.lt) (keep_below hb3 HB.out.2.2)))
  clear x0 x1 x2 x3 hb3
  by_cases h1 : d < 0
  · have hd0 : decide (d < 0) = true := decide_eq_true h1
    clear hbad h1
    have x0 := (HB3.out.1).at_ (i := 0) (v := .slice (some ⟨y.gb, 0, none⟩) y.m y.cc) rfl
    have x1 := (HB3.out.1).at_ (i := 1) (v := .int .i64 y.secs) rfl
    have x2 := (HB3.out.1).at_ (i := 2) (v := .slice (some ⟨y.lb, 0, none⟩) y.bd.length y.lc) rfl
    have x3 := (HB3.out.1).at_ (i := 3) (v := .slice (some ⟨y.ab, 0, none⟩) y.bd.length y.bd.length) rfl
    have z0 := (HB3.out.2.1).at_ (i := 0) (v := .int .i64 0) rfl
    have z1 := (HB3.out.2.1).at_ (i := 1) (v := .int .i64 0) rfl
    have z2 := (HB3.out.2.1).at_ (i := 2) (v := .int .i64 0) rfl
    have z3 := (HB3.out.2.1).at_ (i := 3) (v := .int .i64 0) rfl
    have z4 := (HB3.out.2.1).at_ (i := 4) (v := .int .i64 0) rfl
    have z5 := (HB3.out.2.1).at_ (i := 5) (v := .int .i64 0) rfl
    have z6 := (HB3.out.2.1).at_ (i := 6) (v := .bool false) rfl
    have z7 := (HB3.out.2.1).at_ (i := 7) (v := .int .i64 0) rfl
    have z8 := (HB3.out.2.1).at_ (i := 8) (v := .int .i64 0) rfl
    have z9 := (HB3.out.2.1).at_ (i := 9) (v := .int .i64 0) rfl
    have z10 := (HB3.out.2.1).at_ (i := 10) (v := .int .u64 0) rfl
    have z11 := (HB3.out.2.1).at_ (i := 11) (v := .int .u64 0) rfl
    have z12 := (HB3.out.2.1).at_ (i := 12) (v := .int .u64 0) rfl
    have z13 := (HB3.out.2.1).at_ (i := 13) (v := .int .u64 0) rfl
    have fr0 := (HB3.out.2.1).fr 0
    have fr1 := (HB3.out.2.1).fr 1
    have fr2 := (HB3.out.2.1).fr 2
    have fr3 := (HB3.out.2.1).fr 3
    have fr4 := (HB3.out.2.1).fr 4
    have fr5 := (HB3.out.2.1).fr 5
    have fr6 := (HB3.out.2.1).fr 6
    have fr7 := (HB3.out.2.1).fr 7
    have fr8 := (HB3.out.2.1).fr 8
    have fr9 := (HB3.out.2.1).fr 9
    have fr10 := (HB3.out.2.1).fr 10
    have fr11 := (HB3.out.2.1).fr 11
    have fr12 := (HB3.out.2.1).fr 12
    have fr13 := (HB3.out.2.1).fr 13
    have hbw := HB3.out.2.2
    go_wp2_with fail
    refine bodyPost_ret (v := .tuple #[.agg #[.int .i64 0, .int .i64 0, .int .i64 0, .int .i64 0, .int .i64 0, .int .i64 0, .bool false, .int .i64 0, .int .i64 0, .int .i64 0, .int .u64 0, .int .u64 0, .int .u64 0, .int .u64 0], .int .i64 1]) (by simp [results, Tryz.f19, go_sem, z0, z1, z2, z3, z4, z5, z6, z7, z8, z9, z10, z11, z12, z13]) rfl ⟨rfl, ?_⟩
    repeat (first | (with_reducible exact hbw) | (with_reducible refine keep_alloc ?_ _) | (with_reducible refine below_set ?_ _ _ _ (Nat.le_succ _)))
  · have hd0 : decide (d < 0) = false := decide_eq_false h1
    by_cases h2 : (y.bd.length : Int) ≤ d
    · have hd1 : decide ((y.bd.length : Int) ≤ d) = true := decide_eq_true h2
      clear hbad h1 h2
      have x0 := (HB3.out.1).at_ (i := 0) (v := .slice (some ⟨y.gb, 0, none⟩) y.m y.cc) rfl
      have x1 := (HB3.out.1).at_ (i := 1) (v := .int .i64 y.secs) rfl
      have x2 := (HB3.out.1).at_ (i := 2) (v := .slice (some ⟨y.lb, 0, none⟩) y.bd.length y.lc) rfl
      have x3 := (HB3.out.1).at_ (i := 3) (v := .slice (some ⟨y.ab, 0, none⟩) y.bd.length y.bd.length) rfl
      have z0 := (HB3.out.2.1).at_ (i := 0) (v := .int .i64 0) rfl
      have z1 := (HB3.out.2.1).at_ (i := 1) (v := .int .i64 0) rfl
      have z2 := (HB3.out.2.1).at_ (i := 2) (v := .int .i64 0) rfl
      have z3 := (HB3.out.2.1).at_ (i := 3) (v := .int .i64 0) rfl
      have z4 := (HB3.out.2.1).at_ (i := 4) (v := .int .i64 0) rfl
      have z5 := (HB3.out.2.1).at_ (i := 5) (v := .int .i64 0) rfl
      have z6 := (HB3.out.2.1).at_ (i := 6) (v := .bool false) rfl
      have z7 := (HB3.out.2.1).at_ (i := 7) (v := .int .i64 0) rfl
      have z8 := (HB3.out.2.1).at_ (i := 8) (v := .int .i64 0) rfl
      have z9 := (HB3.out.2.1).at_ (i := 9) (v := .int .i64 0) rfl
      have z10 := (HB3.out.2.1).at_ (i := 10) (v := .int .u64 0) rfl
      have z11 := (HB3.out.2.1).at_ (i := 11) (v := .int .u64 0) rfl
      have z12 := (HB3.out.2.1).at_ (i := 12) (v := .int .u64 0) rfl
      have z13 := (HB3.out.2.1).at_ (i := 13) (v := .int .u64 0) rfl
      have fr0 := (HB3.out.2.1).fr 0
      have fr1 := (HB3.out.2.1).fr 1
      have fr2 := (HB3.out.2.1).fr 2
      have fr3 := (HB3.out.2.1).fr 3
      have fr4 := (HB3.out.2.1).fr 4
      have fr5 := (HB3.out.2.1).fr 5
      have fr6 := (HB3.out.2.1).fr 6
      have fr7 := (HB3.out.2.1).fr 7
      have fr8 := (HB3.out.2.1).fr 8
      have fr9 := (HB3.out.2.1).fr 9
      have fr10 := (HB3.out.2.1).fr 10
      have fr11 := (HB3.out.2.1).fr 11
      have fr12 := (HB3.out.2.1).fr 12
      have fr13 := (HB3.out.2.1).fr 13
      have hbw := HB3.out.2.2
      go_wp2_with fail
      refine bodyPost_ret (v := .tuple #[.agg #[.int .i64 0, .int .i64 0, .int .i64 0, .int .i64 0, .int .i64 0, .int .i64 0, .bool false, .int .i64 0, .int .i64 0, .int .i64 0, .int .u64 0, .int .u64 0, .int .u64 0, .int .u64 0], .int .i64 1]) (by simp [results, Tryz.f19, go_sem, z0, z1, z2, z3, z4, z5, z6, z7, z8, z9, z10, z11, z12, z13]) rfl ⟨rfl, ?_⟩
      repeat (first | (with_reducible exact hbw) | (with_reducible refine keep_alloc ?_ _) | (with_reducible refine below_set ?_ _ _ _ (Nat.le_succ _)))
    · have hd1 : decide ((y.bd.length : Int) ≤ d) = false := decide_eq_false h2
      by_cases h3 : slot < 0
      · have hs0 : decide (slot < 0) = true := decide_eq_true h3
        clear hbad h1 h2 h3
        have x0 := (HB3.out.1).at_ (i := 0) (v := .slice (some ⟨y.gb, 0, none⟩) y.m y.cc) rfl
        have x1 := (HB3.out.1).at_ (i := 1) (v := .int .i64 y.secs) rfl
        have x2 := (HB3.out.1).at_ (i := 2) (v := .slice (some ⟨y.lb, 0, none⟩) y.bd.length y.lc) rfl
        have x3 := (HB3.out.1).at_ (i := 3) (v := .slice (some ⟨y.ab, 0, none⟩) y.bd.length y.bd.length) rfl
        have z0 := (HB3.out.2.1).at_ (i := 0) (v := .int .i64 0) rfl
        have z1 := (HB3.out.2.1).at_ (i := 1) (v := .int .i64 0) rfl
        have z2 := (HB3.out.2.1).at_ (i := 2) (v := .int .i64 0) rfl
        have z3 := (HB3.out.2.1).at_ (i := 3) (v := .int .i64 0) rfl
        have z4 := (HB3.out.2.1).at_ (i := 4) (v := .int .i64 0) rfl
        have z5 := (HB3.out.2.1).at_ (i := 5) (v := .int .i64 0) rfl
        have z6 := (HB3.out.2.1).at_ (i := 6) (v := .bool false) rfl
        have z7 := (HB3.out.2.1).at_ (i := 7) (v := .int .i64 0) rfl
        have z8 := (HB3.out.2.1).at_ (i := 8) (v := .int .i64 0) rfl
        have z9 := (HB3.out.2.1).at_ (i := 9) (v := .int .i64 0) rfl
        have z10 := (HB3.out.2.1).at_ (i := 10) (v := .int .u64 0) rfl
        have z11 := (HB3.out.2.1).at_ (i := 11) (v := .int .u64 0) rfl
        have z12 := (HB3.out.2.1).at_ (i := 12) (v := .int .u64 0) rfl
        have z13 := (HB3.out.2.1).at_ (i := 13) (v := .int .u64 0) rfl
        have fr0 := (HB3.out.2.1).fr 0
        have fr1 := (HB3.out.2.1).fr 1
        have fr2 := (HB3.out.2.1).fr 2
        have fr3 := (HB3.out.2.1).fr 3
        have fr4 := (HB3.out.2.1).fr 4
        have fr5 := (HB3.out.2.1).fr 5
        have fr6 := (HB3.out.2.1).fr 6
        have fr7 := (HB3.out.2.1).fr 7
        have fr8 := (HB3.out.2.1).fr 8
        have fr9 := (HB3.out.2.1).fr 9
        have fr10 := (HB3.out.2.1).fr 10
        have fr11 := (HB3.out.2.1).fr 11
        have fr12 := (HB3.out.2.1).fr 12
        have fr13 := (HB3.out.2.1).fr 13
        have hbw := HB3.out.2.2
        go_wp2_with fail
        refine bodyPost_ret (v := .tuple #[.agg #[.int .i64 0, .int .i64 0, .int .i64 0, .int .i64 0, .int .i64 0, .int .i64 0, .bool false, .int .i64 0, .int .i64 0, .int .i64 0, .int .u64 0, .int .u64 0, .int .u64 0, .int .u64 0], .int .i64 1]) (by simp [results, Tryz.f19, go_sem, z0, z1, z2, z3, z4, z5, z6, z7, z8, z9, z10, z11, z12, z13]) rfl ⟨rfl, ?_⟩
        repeat (first | (with_reducible exact hbw) | (with_reducible refine keep_alloc ?_ _) | (with_reducible refine below_set ?_ _ _ _ (Nat.le_succ _)))
      · have hs0 : decide (slot < 0) = false := decide_eq_false h3
        have hs1 : decide ((4 : Int) ≤ slot) = true := decide_eq_true (by omega)
        clear hbad h1 h2 h3
        have x0 := (HB3.out.1).at_ (i := 0) (v := .slice (some ⟨y.gb, 0, none⟩) y.m y.cc) rfl
        have x1 := (HB3.out.1).at_ (i := 1) (v := .int .i64 y.secs) rfl
        have x2 := (HB3.out.1).at_ (i := 2) (v := .slice (some ⟨y.lb, 0, none⟩) y.bd.length y.lc) rfl
        have x3 := (HB3.out.1).at_ (i := 3) (v := .slice (some ⟨y.ab, 0, none⟩) y.bd.length y.bd.length) rfl
        have z0 := (HB3.out.2.1).at_ (i := 0) (v := .int .i64 0) rfl
        have z1 := (HB3.out.2.1).at_ (i := 1) (v := .int .i64 0) rfl
        have z2 := (HB3.out.2.1).at_ (i := 2) (v := .int .i64 0) rfl
        have z3 := (HB3.out.2.1).at_ (i := 3) (v := .int .i64 0) rfl
        have z4 := (HB3.out.2.1).at_ (i := 4) (v := .int .i64 0) rfl
        have z5 := (HB3.out.2.1).at_ (i := 5) (v := .int .i64 0) rfl
        have z6 := (HB3.out.2.1).at_ (i := 6) (v := .bool false) rfl
        have z7 := (HB3.out.2.1).at_ (i := 7) (v := .int .i64 0) rfl
        have z8 := (HB3.out.2.1).at_ (i := 8) (v := .int .i64 0) rfl
        have z9 := (HB3.out.2.1).at_ (i := 9) (v := .int .i64 0) rfl
        have z10 := (HB3.out.2.1).at_ (i := 10) (v := .int .u64 0) rfl
        have z11 := (HB3.out.2.1).at_ (i := 11) (v := .int .u64 0) rfl
        have z12 := (HB3.out.2.1).at_ (i := 12) (v := .int .u64 0) rfl
        have z13 := (HB3.out.2.1).at_ (i := 13) (v := .int .u64 0) rfl
        have fr0 := (HB3.out.2.1).fr 0
        have fr1 := (HB3.out.2.1).fr 1
        have fr2 := (HB3.out.2.1).fr 2
        have fr3 := (HB3.out.2.1).fr 3
        have fr4 := (HB3.out.2.1).fr 4
        have fr5 := (HB3.out.2.1).fr 5
        have fr6 := (HB3.out.2.1).fr 6
        have fr7 := (HB3.out.2.1).fr 7
        have fr8 := (HB3.out.2.1).fr 8
        have fr9 := (HB3.out.2.1).fr 9
        have fr10 := (HB3.out.2.1).fr 10
        have fr11 := (HB3.out.2.1).fr 11
        have fr12 := (HB3.out.2.1).fr 12
        have fr13 := (HB3.out.2.1).fr 13
        have hbw := HB3.out.2.2
        go_wp2_with fail
        refine bodyPost_ret (v := .tuple #[.agg #[.int .i64 0, .int .i64 0, .int .i64 0, .int .i64 0, .int .i64 0, .int .i64 0, .bool false, .int .i64 0, .int .i64 0, .int .i64 0, .int .u64 0, .int .u64 0, .int .u64 0, .int .u64 0], .int .i64 1]) (by simp [results, Tryz.f19, go_sem, z0, z1, z2, z3, z4, z5, z6, z7, z8, z9, z10, z11, z12, z13]) rfl ⟨rfl, ?_⟩
        repeat (first | (with_reducible exact hbw) | (with_reducible refine keep_alloc ?_ _) | (with_reducible refine below_set ?_ _ _ _ (Nat.le_succ _)))
end Go.Proofs.YtlpbbjjibnbooaaGreatDoor

namespace Go.Proofs.YtlpbbjjibnbooaaGreatDoor
set_option linter.unusedVariables false
set_option linter.unusedSimpArgs false
open Go.RowKit

theorem numRef_any (m : List UInt8) (w : World) (hm : m.length ≤ 8) :
    Calls Tryz.prog 55 #[str m] w fun e w' => e = .returned (.int .u64 (leNat m : Nat)) ∧ w = w' := by
  have H0 : Hid (leNat (m.drop m.length) = 0) := by unfold Hid; rw [List.drop_length]; rfl
  go_enter Tryz.func55, Tryz.ntmps55
  go_wp2
  go_loop [3, 4] (fun x t => ∃ k : Nat, k ≤ m.length ∧ t = .int .i64 ((k : Int) - 1) ∧ x = .int .u64 (leNat (m.drop k) : Nat)) (fun _ t => (RowKit.intOf t + 1).toNat)
  case atStart => exact ⟨m.length, Nat.le_refl _, rfl, by rw [H0.out]; rfl⟩
  case round =>
    obtain ⟨k, hk, rfl, rfl⟩ := hrel
    by_cases h0 : 0 < k
    · have hd : m.drop (k - 1) = m[k - 1] :: m.drop k := by
        have := List.drop_eq_getElem_cons (show k - 1 < m.length by omega)
        rw [show k - 1 + 1 = k by omega] at this
        exact this
      have hb := leNat_lt (m.drop (k - 1))
      have hp := pow256_le (show (m.drop (k - 1)).length ≤ 8 by rw [List.length_drop]; omega)
      have hb2 : leNat (m.drop (k - 1)) < 18446744073709551616 := Nat.lt_of_lt_of_le hb (Nat.le_trans hp (by decide))
      rw [hd, leNat] at hb2
      have HV : Hid (leNat (m.drop (k - 1)) = (m[k - 1]'(by omega)).toNat + 256 * leNat (m.drop k)) := by unfold Hid; rw [hd, leNat]
      have hx0 := (m[k - 1]'(by omega)).toNat_lt
      have hi0 : (0 : Int) ≤ (k : Int) - 1 := by omega
      have hi1 : (k : Int) - 1 < m.length := by omega
      have ht : ((k : Int) - 1).toNat = k - 1 := by omega
      clear hb hp hd
      generalize leNat (m.drop k) = v at *
      go_wp2_with fail
      go_round
      case rel =>
        refine ⟨k - 1, by omega, ?_, ?_⟩
        · congr 1; omega
        · have e1 : IntKind.u64.wrap (((ByteArray.mk m.toArray)[k - 1]'(by rw [ba_size]; omega)).toNat : Int) = ((m[k - 1]'(by omega)).toNat : Int) := by rw [ba_get]; exact IntWalk.u64_in _ (by omega)
          rw [HV.out, e1, IntWalk.u64_in _ (by omega)]; congr 1; omega
      case measure => simp [RowKit.intOf]; omega
    · obtain rfl : k = 0 := by omega
      go_wp2_with fail
      go_ret
      exact ⟨rfl, rfl⟩
end Go.Proofs.YtlpbbjjibnbooaaGreatDoor

namespace Go.Proofs.YtlpbbjjibnbooaaGreatDoor
set_option linter.unusedVariables false
set_option linter.unusedSimpArgs false
open Go.RowKit

set_option maxRecDepth 100000 in
set_option maxHeartbeats 2000000 in
theorem may9_any (p : PtrD) (w : World) :
    Calls Tryz.prog 49 #[.agg p.cells] w fun e w' => e = .returned (.bool (layOk p)) ∧ Below w.heap.size w w' := by
  obtain ⟨w2, hw2⟩ : ∃ w2, w2 = ((w.alloc (.cells p.cells 31)).alloc (.cells #[.int .i64 p.ag, .int .i64 p.aa, .int .i64 p.bg, .int .i64 p.ba, .int .i64 p.birth] 3)) := ⟨_, rfl⟩
  have hb0 : Below w.heap.size w w2 := by rw [hw2]; exact ((Below.refl _ _).alloc (Nat.le_refl _) _).alloc (by simp) _
  have HI : Hid (IntsAt w2 (w.heap.size + 1) 0 [p.ag, p.aa, p.bg, p.ba, p.birth]) := by
    have := IntsAt.new (w.alloc (.cells p.cells 31)) [p.ag, p.aa, p.bg, p.ba, p.birth] 3
    rw [World.size_alloc] at this
    rw [hw2]; exact Lib.hid this
  have h5 : w2.cell? ⟨w.heap.size, 5, none⟩ = some (.int .i64 p.size) := by rw [hw2]; exact cell_alloc (cell_new rfl rfl) _
  have h6 : w2.cell? ⟨w.heap.size, 6, none⟩ = some (.int .i64 p.level) := by rw [hw2]; exact cell_alloc (cell_new rfl rfl) _
  have HL : Hid (layOk p = (withinL 4294967295 [p.ag, p.aa, p.bg, p.ba, p.birth] && withinL 255 [p.size, p.level])) := Lib.hid rfl
  have hw2' : w2 = ((w.alloc (.cells #[.int .i64 p.ag, .int .i64 p.aa, .int .i64 p.bg, .int .i64 p.ba, .bool p.two, .int .i64 p.size, .int .i64 p.level, .int .i64 p.birth, .int .u64 p.s0, .int .u64 p.s1, .int .u64 p.s2, .int .u64 p.s3] 31)).alloc (.cells #[.int .i64 p.ag, .int .i64 p.aa, .int .i64 p.bg, .int .i64 p.ba, .int .i64 p.birth] 3)) := hw2
  rw [show (Value.agg p.cells) = .agg #[.int .i64 p.ag, .int .i64 p.aa, .int .i64 p.bg, .int .i64 p.ba, .bool p.two, .int .i64 p.size, .int .i64 p.level, .int .i64 p.birth, .int .u64 p.s0, .int .u64 p.s1, .int .u64 p.s2, .int .u64 p.s3] from rfl]
  clear hw2
  go_enter Tryz.func49, Tryz.ntmps49
  go_wp2_with fail
  rw [← hw2']
  clear hw2'
  have Hl : Hid ([p.ag, p.aa, p.bg, p.ba, p.birth].length = 5) := Lib.hid rfl
  generalize [p.ag, p.aa, p.bg, p.ba, p.birth] = l at *
  go_loop [4] (fun t => ∃ k : Nat, k ≤ 5 ∧ t = .int .i64 k ∧ ∀ j x, j < k → l[j]? = some x → 0 ≤ x ∧ x ≤ 4294967295) (fun t => 5 - (RowKit.intOf t).toNat)
  case atStart => exact ⟨0, Nat.zero_le _, rfl, fun j x hj => absurd hj (by omega)⟩
  case round =>
    obtain ⟨k, hk, rfl, hz⟩ := hrel
    have HZ := Lib.hid hz
    clear hz
    by_cases hlt : k < 5
    · obtain ⟨x, hx⟩ : ∃ x, l[k]? = some x := ⟨_, List.getElem?_eq_getElem (by have := Hl.out; omega)⟩
      have hc : w2.cell? ⟨w.heap.size + 1, k, none⟩ = some (.int .i64 x) := by have := HI.out.2 k x hx; rwa [Nat.zero_add] at this
      have HX := Lib.hid hx
      have hk0 : (0 : Int) ≤ k := by omega
      have hk1 : (k : Int) < 5 := by omega
      clear hx
      by_cases h0 : 0 ≤ x ∧ x ≤ 4294967295
      · obtain ⟨g1, g2⟩ := h0
        go_wp2_with fail
        go_round
        case rel =>
          refine ⟨k + 1, by omega, by go_num, fun j y hj hy => ?_⟩
          rcases Nat.lt_or_ge j k with h | h
          · exact HZ.out j y h hy
          · obtain rfl : j = k := by omega
            rw [HX.out] at hy
            injection hy with hy
            rw [← hy]; exact ⟨g1, g2⟩
        case measure => simp [RowKit.intOf]; omega
      · have HV : Hid (layOk p = false) := by
          unfold Hid
          rw [HL.out, show withinL 4294967295 l = false from by
            unfold withinL
            rw [List.all_eq_false]
            exact ⟨x, List.mem_of_getElem? HX.out, by simp; omega⟩]
          rfl
        have h1 : x < 0 ∨ 4294967295 < x := by omega
        clear h0
        rcases h1 with h1 | h1
        all_goals
          go_wp2_with fail
          all_goals go_ret
          all_goals exact ⟨ret_bool HV.out.symm, hb0⟩
    · have HV : Hid (layOk p = withinL 255 [p.size, p.level]) := by
        unfold Hid
        rw [HL.out, show withinL 4294967295 l = true from by
          unfold withinL
          rw [List.all_eq_true]
          intro x hx
          obtain ⟨j, hj⟩ := List.mem_iff_getElem?.1 hx
          have := HZ.out j x (by have := (List.getElem?_eq_some_iff.1 hj).1; have := Hl.out; omega) hj
          simp [this]]
        rfl
      have hcs : (0 ≤ p.size ∧ p.size ≤ 255 ∧ 0 ≤ p.level ∧ p.level ≤ 255) ∨ p.size < 0 ∨ (0 ≤ p.size ∧ 255 < p.size) ∨ (0 ≤ p.size ∧ p.size ≤ 255 ∧ p.level < 0) ∨ (0 ≤ p.size ∧ p.size ≤ 255 ∧ 0 ≤ p.level ∧ 255 < p.level) := by omega
      have HW : Hid (withinL 255 [p.size, p.level] = decide (0 ≤ p.size ∧ p.size ≤ 255 ∧ 0 ≤ p.level ∧ p.level ≤ 255)) := by
        unfold Hid; rw [Bool.eq_iff_iff]; simp [withinL]; omega
      rcases hcs with ⟨c1, c2, c3, c4⟩ | c1 | ⟨c1, c2⟩ | ⟨c1, c2, c3⟩ | ⟨c1, c2, c3, c4⟩
      all_goals
        go_wp2_with fail
        all_goals go_ret
        all_goals (refine ⟨ret_bool ?_, hb0⟩; rw [HV.out, HW.out]; first | (exact decide_eq_decide.2 (by omega)) | (symm; rw [decide_eq_true_eq]; omega) | (symm; rw [decide_eq_false_iff_not]; omega))

theorem mk_app3 (a b c : List UInt8) : ByteArray.mk a.toArray ++ ByteArray.mk b.toArray ++ ByteArray.mk c.toArray = ByteArray.mk (a ++ b ++ c).toArray := by
  rw [ByteArray.mk_append_mk, ByteArray.mk_append_mk]
set_option maxRecDepth 100000 in
set_option maxHeartbeats 2000000 in
theorem refSum_any (s0 s1 s2 s3 : Nat) (w : World) (h0 : s0 < 18446744073709551616) (h1 : s1 < 18446744073709551616) (h2 : s2 < 18446744073709551616) (h3 : s3 < 18446744073709551616) :
    Calls Tryz.prog 51 #[.agg #[.int .u64 s0, .int .u64 s1, .int .u64 s2, .int .u64 s3]] w fun e w' => e = .returned (str (sumL [s0, s1, s2, s3])) ∧ Below w.heap.size w w' := by
  obtain ⟨w1, hw1⟩ : ∃ w1, w1 = w.alloc (.cells #[.int .u64 s0, .int .u64 s1, .int .u64 s2, .int .u64 s3] 29) := ⟨_, rfl⟩
  have hb0 : Below w.heap.size w w1 := by rw [hw1]; exact (Below.refl _ _).alloc (Nat.le_refl _) _
  have hlt : w.heap.size < w1.heap.size := by rw [hw1]; simp
  have c0 : w1.cell? ⟨w.heap.size, 0, none⟩ = some (.int .u64 s0) := by rw [hw1]; exact cell_new rfl rfl
  have c1 : w1.cell? ⟨w.heap.size, 1, none⟩ = some (.int .u64 s1) := by rw [hw1]; exact cell_new rfl rfl
  have c2 : w1.cell? ⟨w.heap.size, 2, none⟩ = some (.int .u64 s2) := by rw [hw1]; exact cell_new rfl rfl
  have c3 : w1.cell? ⟨w.heap.size, 3, none⟩ = some (.int .u64 s3) := by rw [hw1]; exact cell_new rfl rfl
  have H0 : Hid (∀ W, Calls Tryz.prog 88 #[.int .u64 s0, .int .i64 8] W fun e w' => e = .returned (str (layL s0 8)) ∧ Below W.heap.size W w') := Lib.hid fun W => lay_any s0 8 W h0 (Nat.le_refl _)
  have H1 : Hid (∀ W, Calls Tryz.prog 88 #[.int .u64 s1, .int .i64 8] W fun e w' => e = .returned (str (layL s1 8)) ∧ Below W.heap.size W w') := Lib.hid fun W => lay_any s1 8 W h1 (Nat.le_refl _)
  have H2 : Hid (∀ W, Calls Tryz.prog 88 #[.int .u64 s2, .int .i64 8] W fun e w' => e = .returned (str (layL s2 8)) ∧ Below W.heap.size W w') := Lib.hid fun W => lay_any s2 8 W h2 (Nat.le_refl _)
  have H3 : Hid (∀ W, Calls Tryz.prog 88 #[.int .u64 s3, .int .i64 8] W fun e w' => e = .returned (str (layL s3 8)) ∧ Below W.heap.size W w') := Lib.hid fun W => lay_any s3 8 W h3 (Nat.le_refl _)
  have HS : Hid (sumL [s0, s1, s2, s3] = layL s0 8 ++ (layL s1 8 ++ (layL s2 8 ++ layL s3 8))) := by simp [Hid, sumL]
  have l0 := layL_len s0 8
  have l1 := layL_len s1 8
  have l2 := layL_len s2 8
  have l3 := layL_len s3 8
  generalize layL s0 8 = a0 at *
  generalize layL s1 8 = a1 at *
  generalize layL s2 8 = a2 at *
  generalize layL s3 8 = a3 at *
  have g1 : a0.length + a1.length ≤ 9223372036854775807 := by omega
  have g2 : a0.length + a1.length + a2.length ≤ 9223372036854775807 := by omega
  have g3 : a0.length + a1.length + a2.length + a3.length ≤ 9223372036854775807 := by omega
  clear l0 l1 l2 l3 h0 h1 h2 h3
  go_enter Tryz.func51, Tryz.ntmps51
  go_wp2_with fail
  rw [← hw1]
  clear hw1
  obtain ⟨C, hC, hC0, hCB, hCK, hCd⟩ := cls_below w1
  have f0 : ∀ W, C W → W.cell? ⟨w.heap.size, 0, none⟩ = some (.int .u64 s0) := fun W h => keep_cell (hCB W h) c0 hlt
  have f1 : ∀ W, C W → W.cell? ⟨w.heap.size, 1, none⟩ = some (.int .u64 s1) := fun W h => keep_cell (hCB W h) c1 hlt
  have f2 : ∀ W, C W → W.cell? ⟨w.heap.size, 2, none⟩ = some (.int .u64 s2) := fun W h => keep_cell (hCB W h) c2 hlt
  have f3 : ∀ W, C W → W.cell? ⟨w.heap.size, 3, none⟩ = some (.int .u64 s3) := fun W h => keep_cell (hCB W h) c3 hlt
  clear c0 c1 c2 c3
  refine wp_region_cls C (by kernel_rfl) (by kernel_rfl) hC ?_
  repeat (first
    | go_big_quiet_skip
    | (go_big_quiet_want
       go_big_quiet_op
       first
         | go_big_quiet_on
         | (apply Exists.intro
            refine ⟨fun W hW => ?_, ?_⟩
            · first
                | exact rfl
                | exact ⟨rfl, rfl⟩
                | (have e0 := f0 W hW; have e1 := f1 W hW; have e2 := f2 W hW; have e3 := f3 W hW; simp only [e0, e1, e2, e3, Result.andThen_ok]; done)
                | (have e0 := f0 W hW; have e1 := f1 W hW; have e2 := f2 W hW; have e3 := f3 W hW; simp only [e0, e1, e2, e3, Result.andThen_ok]; first | exact ⟨trivial, rfl⟩ | exact rfl | exact ⟨rfl, rfl⟩)
                | ((first | (with_reducible refine (H0.out W).mono ?_) | (with_reducible refine (H1.out W).mono ?_) | (with_reducible refine (H2.out W).mono ?_) | (with_reducible refine (H3.out W).mono ?_)); rintro e w' ⟨rfl, hb⟩; exact ⟨rfl, hCK _ _ hW hb⟩)
            go_big_quiet_on)))
  refine wpQuiet_nil ?_
  intro w' hw'
  go_wp2_with fail
  go_ret
  refine ⟨?_, hb0.trans ((hCB w' hw').mono hb0.size)⟩
  rw [HS.out, mk_app3, ByteArray.mk_append_mk]
  simp

set_option maxRecDepth 100000 in
set_option maxHeartbeats 8000000 in
theorem refPBytes_any (p : PtrD) (w : World) (op : p.Ok) (hlay : layOk p = true) :
    Calls Tryz.prog 91 #[.agg p.cells] w fun e w' => e = .returned (str (ptrL p)) ∧ Below w.heap.size w w' := by
  obtain ⟨⟨a1, a2⟩, ⟨b1, b2⟩, ⟨c1, c2⟩, ⟨d1, d2⟩, ⟨e1, e2⟩, ⟨f1, f2⟩, ⟨g1, g2⟩⟩ := layOk_bd hlay
  obtain ⟨q0, q1, q2, q3, _⟩ := op
  obtain ⟨w1, hw1⟩ : ∃ w1, w1 = w.alloc (.cells #[.int .i64 p.ag, .int .i64 p.aa, .int .i64 p.bg, .int .i64 p.ba, .bool p.two, .int .i64 p.size, .int .i64 p.level, .int .i64 p.birth, .int .u64 p.s0, .int .u64 p.s1, .int .u64 p.s2, .int .u64 p.s3] 31) := ⟨_, rfl⟩
  have hb0 : Below w.heap.size w w1 := by rw [hw1]; exact (Below.refl _ _).alloc (Nat.le_refl _) _
  have hlt : w.heap.size < w1.heap.size := by rw [hw1]; simp
  have hP : PtrAt w1 w.heap.size 0 p := by rw [hw1]; exact PtrAt.new _ _ _
  have HP := Lib.hid hP
  have HPL : Hid (ptrL p = padL (smallL [p.ag, p.aa, p.bg, p.ba, ptrOne p, p.birth] ++ sumL [p.s0, p.s1, p.s2, p.s3]) 64) := Lib.hid rfl
  have HSM : Hid (smallL [p.ag, p.aa, p.bg, p.ba, ptrOne p, p.birth] = u32L p.ag ++ (u32L p.aa ++ (u32L p.bg ++ (u32L p.ba ++ (u32L (ptrOne p) ++ u32L p.birth))))) := by simp [Hid, smallL]
  rw [show (Value.agg p.cells) = .agg #[.int .i64 p.ag, .int .i64 p.aa, .int .i64 p.bg, .int .i64 p.ba, .bool p.two, .int .i64 p.size, .int .i64 p.level, .int .i64 p.birth, .int .u64 p.s0, .int .u64 p.s1, .int .u64 p.s2, .int .u64 p.s3] from rfl]
  have HSUM := Lib.hid fun W => refSum_any p.s0 p.s1 p.s2 p.s3 W q0 q1 q2 q3
  have hsl : (sumL [p.s0, p.s1, p.s2, p.s3]).length ≤ 32 := Nat.le_of_eq (sumL_len [p.s0, p.s1, p.s2, p.s3])
  have H0 := Lib.hid fun W => refU32_any p.ag W
  have H1 := Lib.hid fun W => refU32_any p.aa W
  have H2 := Lib.hid fun W => refU32_any p.bg W
  have H3 := Lib.hid fun W => refU32_any p.ba W
  have H4 := Lib.hid fun W => refU32_any (ptrOne p) W
  have H5 := Lib.hid fun W => refU32_any p.birth W
  have l0 := u32L_len p.ag
  have l1 := u32L_len p.aa
  have l2 := u32L_len p.bg
  have l3 := u32L_len p.ba
  have l4 := u32L_len (ptrOne p)
  have l5 := u32L_len p.birth
  generalize u32L p.ag = x0 at *
  generalize u32L p.aa = x1 at *
  generalize u32L p.bg = x2 at *
  generalize u32L p.ba = x3 at *
  generalize u32L (ptrOne p) = x4 at *
  generalize u32L p.birth = x5 at *
  generalize sumL [p.s0, p.s1, p.s2, p.s3] = ss at *
  have HPAD := Lib.hid fun W => refPad_any (x0 ++ x1 ++ x2 ++ x3 ++ x4 ++ x5 ++ ss) 64 W (by simp only [List.length_append]; omega)
  have k1 : x0.length + x1.length ≤ 9223372036854775807 := by omega
  have k2 : x0.length + x1.length + x2.length ≤ 9223372036854775807 := by omega
  have k3 : x0.length + x1.length + x2.length + x3.length ≤ 9223372036854775807 := by omega
  have k4 : x0.length + x1.length + x2.length + x3.length + x4.length ≤ 9223372036854775807 := by omega
  have k5 : x0.length + x1.length + x2.length + x3.length + x4.length + x5.length ≤ 9223372036854775807 := by omega
  have k6 : x0.length + x1.length + x2.length + x3.length + x4.length + x5.length + ss.length ≤ 9223372036854775807 := by omega
  have ho : Hid (ptrOne p = p.size + p.level * 256 + if p.two then 65536 else 0) := Lib.hid rfl
  clear l0 l1 l2 l3 l4 l5 hsl a1 a2 b1 b2 c1 c2 d1 d2 e1 e2 hlay q0 q1 q2 q3
  go_enter Tryz.func91, Tryz.ntmps91
  obtain ⟨p0, p1, p2, p3, p4, p5, p6, p7, p8, p9, pa, pb⟩ := hP
  simp only [Nat.zero_add] at p1 p2 p3 p4 p5 p6 p7 p8 p9 pa pb
  cases ht : p.two with
  | true =>
    rw [ht] at p4 ho hw1
    have ho4 : ptrOne p = p.size + 256 * p.level + 65536 := by rw [ho.out]; simp; omega
    rw [ho4] at H4
    clear ho4
    go_wp2_with fail
    rw [← hw1]
    clear hw1
    go_wp2_with fail
    obtain ⟨C, hC, hC0, hCB, hCK, hCd⟩ := cls_below w1
    have f0 : ∀ W, C W → W.cell? ⟨w.heap.size, 0, none⟩ = some (.int .i64 p.ag) := fun W h => keep_cell (hCB W h) p0 hlt
    have f1 : ∀ W, C W → W.cell? ⟨w.heap.size, 1, none⟩ = some (.int .i64 p.aa) := fun W h => keep_cell (hCB W h) p1 hlt
    have f2 : ∀ W, C W → W.cell? ⟨w.heap.size, 2, none⟩ = some (.int .i64 p.bg) := fun W h => keep_cell (hCB W h) p2 hlt
    have f3 : ∀ W, C W → W.cell? ⟨w.heap.size, 3, none⟩ = some (.int .i64 p.ba) := fun W h => keep_cell (hCB W h) p3 hlt
    have f7 : ∀ W, C W → W.cell? ⟨w.heap.size, 7, none⟩ = some (.int .i64 p.birth) := fun W h => keep_cell (hCB W h) p7 hlt
    refine wp_region_cls C (by kernel_rfl) (by kernel_rfl) hC ?_
    repeat (first
      | go_big_quiet_skip
      | (go_big_quiet_want
         go_big_quiet_op
         first
           | go_big_quiet_on
           | (apply Exists.intro
              refine ⟨fun W hW => ?_, ?_⟩
              · first
                  | exact rfl
                  | exact ⟨rfl, rfl⟩
                  | (have e0 := f0 W hW; have e1 := f1 W hW; have e2 := f2 W hW; have e3 := f3 W hW; have e4 := f7 W hW; simp only [e0, e1, e2, e3, e4, Result.andThen_ok]; done)
                  | (have e0 := f0 W hW; have e1 := f1 W hW; have e2 := f2 W hW; have e3 := f3 W hW; have e4 := f7 W hW; simp only [e0, e1, e2, e3, e4, Result.andThen_ok]; first | exact ⟨trivial, rfl⟩ | exact rfl | exact ⟨rfl, rfl⟩)
                  | ((first | (with_reducible refine (H0.out W).mono ?_) | (with_reducible refine (H1.out W).mono ?_) | (with_reducible refine (H2.out W).mono ?_) | (with_reducible refine (H3.out W).mono ?_) | (with_reducible refine (H4.out W).mono ?_) | (with_reducible refine (H5.out W).mono ?_)); rintro e w' ⟨rfl, hb⟩; exact ⟨rfl, hCK _ _ hW hb⟩)
              go_big_quiet_on)))
    refine wpQuiet_nil ?_
    intro w' hw'
    have hwB := hCB w' hw'
    have hP' := HP.out.keep hwB hlt
    clear p0 p1 p2 p3 p4 p5 p6 p7 p8 p9 pa pb f0 f1 f2 f3 f7 hCK hCd hCB hC hC0
    obtain ⟨p0, p1, p2, p3, p4, p5, p6, p7, p8, p9, pa, pb⟩ := hP'
    simp only [Nat.zero_add] at p1 p2 p3 p4 p5 p6 p7 p8 p9 pa pb
    go_wp2_with fail
    refine (HSUM.out _).mono ?_
    rintro e w3 ⟨rfl, hb3⟩
    go_wp2_with fail
    rw [ByteArray.mk_append_mk, ByteArray.mk_append_mk, ByteArray.mk_append_mk, ByteArray.mk_append_mk, ByteArray.mk_append_mk, ByteArray.mk_append_mk]
    refine (HPAD.out _).mono ?_
    rintro e w4 ⟨rfl, hb4⟩
    go_wp2_with fail
    go_ret
    refine ⟨ret_str ?_, keep_below hb4 (keep_below hb3 (keep_below hwB hb0))⟩
    rw [HPL.out, HSM.out]
    congr 1
    simp only [List.append_assoc]
  | false =>
    rw [ht] at p4 ho hw1
    have ho4 : ptrOne p = p.size + 256 * p.level := by rw [ho.out]; simp; omega
    rw [ho4] at H4
    clear ho4
    go_wp2_with fail
    rw [← hw1]
    clear hw1
    go_wp2_with fail
    obtain ⟨C, hC, hC0, hCB, hCK, hCd⟩ := cls_below w1
    have f0 : ∀ W, C W → W.cell? ⟨w.heap.size, 0, none⟩ = some (.int .i64 p.ag) := fun W h => keep_cell (hCB W h) p0 hlt
    have f1 : ∀ W, C W → W.cell? ⟨w.heap.size, 1, none⟩ = some (.int .i64 p.aa) := fun W h => keep_cell (hCB W h) p1 hlt
    have f2 : ∀ W, C W → W.cell? ⟨w.heap.size, 2, none⟩ = some (.int .i64 p.bg) := fun W h => keep_cell (hCB W h) p2 hlt
    have f3 : ∀ W, C W → W.cell? ⟨w.heap.size, 3, none⟩ = some (.int .i64 p.ba) := fun W h => keep_cell (hCB W h) p3 hlt
    have f7 : ∀ W, C W → W.cell? ⟨w.heap.size, 7, none⟩ = some (.int .i64 p.birth) := fun W h => keep_cell (hCB W h) p7 hlt
    refine wp_region_cls C (by kernel_rfl) (by kernel_rfl) hC ?_
    repeat (first
      | go_big_quiet_skip
      | (go_big_quiet_want
         go_big_quiet_op
         first
           | go_big_quiet_on
           | (apply Exists.intro
              refine ⟨fun W hW => ?_, ?_⟩
              · first
                  | exact rfl
                  | exact ⟨rfl, rfl⟩
                  | (have e0 := f0 W hW; have e1 := f1 W hW; have e2 := f2 W hW; have e3 := f3 W hW; have e4 := f7 W hW; simp only [e0, e1, e2, e3, e4, Result.andThen_ok]; done)
                  | (have e0 := f0 W hW; have e1 := f1 W hW; have e2 := f2 W hW; have e3 := f3 W hW; have e4 := f7 W hW; simp only [e0, e1, e2, e3, e4, Result.andThen_ok]; first | exact ⟨trivial, rfl⟩ | exact rfl | exact ⟨rfl, rfl⟩)
                  | ((first | (with_reducible refine (H0.out W).mono ?_) | (with_reducible refine (H1.out W).mono ?_) | (with_reducible refine (H2.out W).mono ?_) | (with_reducible refine (H3.out W).mono ?_) | (with_reducible refine (H4.out W).mono ?_) | (with_reducible refine (H5.out W).mono ?_)); rintro e w' ⟨rfl, hb⟩; exact ⟨rfl, hCK _ _ hW hb⟩)
              go_big_quiet_on)))
    refine wpQuiet_nil ?_
    intro w' hw'
    have hwB := hCB w' hw'
    have hP' := HP.out.keep hwB hlt
    clear p0 p1 p2 p3 p4 p5 p6 p7 p8 p9 pa pb f0 f1 f2 f3 f7 hCK hCd hCB hC hC0
    obtain ⟨p0, p1, p2, p3, p4, p5, p6, p7, p8, p9, pa, pb⟩ := hP'
    simp only [Nat.zero_add] at p1 p2 p3 p4 p5 p6 p7 p8 p9 pa pb
    go_wp2_with fail
    refine (HSUM.out _).mono ?_
    rintro e w3 ⟨rfl, hb3⟩
    go_wp2_with fail
    rw [ByteArray.mk_append_mk, ByteArray.mk_append_mk, ByteArray.mk_append_mk, ByteArray.mk_append_mk, ByteArray.mk_append_mk, ByteArray.mk_append_mk]
    refine (HPAD.out _).mono ?_
    rintro e w4 ⟨rfl, hb4⟩
    go_wp2_with fail
    go_ret
    refine ⟨ret_str ?_, keep_below hb4 (keep_below hb3 (keep_below hwB hb0))⟩
    rw [HPL.out, HSM.out]
    congr 1
    simp only [List.append_assoc]
end Go.Proofs.YtlpbbjjibnbooaaGreatDoor

namespace Go.Proofs.YtlpbbjjibnbooaaGreatDoor
set_option linter.unusedVariables false
set_option linter.unusedSimpArgs false
open Go.RowKit

theorem Tryz.infoInt : (Tryz.prog.info? 3).map (fun i => (i.zero, i.size, i.bytes)) = some (some (.int .i64 0), 1, 8) := by kernel_rfl
end Go.Proofs.YtlpbbjjibnbooaaGreatDoor
