/-
  The contract of node.Right.
-/
import Derived.Test.YtkmmehhddagijaaNode
import Derived.Test.YtkmmehhddagijaaPtr4
import Derived.Test.YtkmmehhddagijaaBlk
namespace Go.Proofs.Ytkmmehhddagijaa
set_option linter.unusedVariables false
set_option linter.unusedSimpArgs false
open Go.RowKit

def nRightB (gs : List (Int × Int)) (secs n : Int) (p : PtrD) : Bool := decide (0 ≤ n ∧ n ≤ 16384) && (noneB p || rightB gs secs p && decide (p.level = levN n))
theorem nodeAt_new (w : World) (n : Int) (p : PtrD) (t : TypeId) : PtrAt (w.alloc (.cells #[.int .i64 n, .int .i64 p.ag, .int .i64 p.aa, .int .i64 p.bg, .int .i64 p.ba, .bool p.two, .int .i64 p.size, .int .i64 p.level, .int .i64 p.birth, .int .u64 p.s0, .int .u64 p.s1, .int .u64 p.s2, .int .u64 p.s3] t)) w.heap.size 1 p :=
  ⟨cell_new rfl rfl, cell_new rfl rfl, cell_new rfl rfl, cell_new rfl rfl, cell_new rfl rfl, cell_new rfl rfl, cell_new rfl rfl, cell_new rfl rfl, cell_new rfl rfl, cell_new rfl rfl, cell_new rfl rfl, cell_new rfl rfl⟩

set_option maxRecDepth 100000 in
set_option maxHeartbeats 4000000 in
theorem nright_any (A : Option Addr) (m c : Nat) (gs : List (Int × Int)) (secs n : Int) (p : PtrD) (w : World) (hg : GeoAt w A m gs) :
    Calls Try.prog 8 #[.agg #[.slice A m c, .int .i64 secs], .agg #[.int .i64 n, .int .i64 p.ag, .int .i64 p.aa, .int .i64 p.bg, .int .i64 p.ba, .bool p.two, .int .i64 p.size, .int .i64 p.level, .int .i64 p.birth, .int .u64 p.s0, .int .u64 p.s1, .int .u64 p.s2, .int .u64 p.s3]] w fun e w' => e = .returned (.bool (nRightB gs secs n p)) ∧ Below w.heap.size w w' := by
  obtain ⟨w0, hw0⟩ : ∃ w0, w0 = ((w.alloc (Obj.cells #[Value.slice A m c, Value.int IntKind.i64 secs] 41)).alloc (.cells #[.int .i64 n, .int .i64 p.ag, .int .i64 p.aa, .int .i64 p.bg, .int .i64 p.ba, .bool p.two, .int .i64 p.size, .int .i64 p.level, .int .i64 p.birth, .int .u64 p.s0, .int .u64 p.s1, .int .u64 p.s2, .int .u64 p.s3] 43)) := ⟨_, rfl⟩
  have hb0 : Below w.heap.size w w0 := by rw [hw0]; exact ((Below.refl _ _).alloc (Nat.le_refl _) _).alloc (by simp) _
  have hs0 : w.heap.size + 2 ≤ w0.heap.size := by rw [hw0]; simp
  have HP0 : Hid (PtrAt w0 (w.heap.size + 1) 1 p) := by
    have := nodeAt_new (w.alloc (Obj.cells #[Value.slice A m c, Value.int IntKind.i64 secs] 41)) n p 43
    rw [World.size_alloc] at this
    rw [hw0]; exact Lib.hid this
  have k1 : w0.cell? ⟨w.heap.size, 0, none⟩ = some (.slice A m c) := by rw [hw0]; exact cell_alloc (cell_new rfl rfl) _
  have k2 : w0.cell? ⟨w.heap.size, 1, none⟩ = some (.int .i64 secs) := by rw [hw0]; exact cell_alloc (cell_new rfl rfl) _
  have k3 : w0.cell? ⟨w.heap.size + 1, 0, none⟩ = some (.int .i64 n) := by rw [hw0]; exact cell_new (by simp) rfl
  have HV : Hid (nRightB gs secs n p = (decide (0 ≤ n ∧ n ≤ 16384) && (noneB p || rightB gs secs p && decide (p.level = levN n)))) := Lib.hid rfl
  have HNO : Hid (∀ W, Calls Try.prog 12 #[.agg #[.int .i64 p.ag, .int .i64 p.aa, .int .i64 p.bg, .int .i64 p.ba, .bool p.two, .int .i64 p.size, .int .i64 p.level, .int .i64 p.birth, .int .u64 p.s0, .int .u64 p.s1, .int .u64 p.s2, .int .u64 p.s3]] W fun e w' => e = .returned (.bool (noneB p)) ∧ Below W.heap.size W w') := Lib.hid fun W => none_any p W
  have HRT : Hid (∀ W, Below w.heap.size w W → Calls Try.prog 13 #[.agg #[.slice A m c, .int .i64 secs], .agg #[.int .i64 p.ag, .int .i64 p.aa, .int .i64 p.bg, .int .i64 p.ba, .bool p.two, .int .i64 p.size, .int .i64 p.level, .int .i64 p.birth, .int .u64 p.s0, .int .u64 p.s1, .int .u64 p.s2, .int .u64 p.s3]] W fun e w' => e = .returned (.bool (rightB gs secs p)) ∧ Below W.heap.size W w') :=
    Lib.hid fun W hB => pright_any A m c gs secs p W (hg.below hB (Nat.le_refl _))
  by_cases hn : 0 ≤ n ∧ n ≤ 16384
  · rw [decide_eq_true hn, Bool.true_and] at HV
    obtain ⟨hn1, hn2⟩ := hn
    have HL := Lib.hid fun W => (level_any n W).mono (R' := fun e w' => e = .returned (.int .i64 (levN n)) ∧ w' = W) fun e w' h => ⟨h.1, h.2.symm⟩
    have hRT : Hid (∀ W, Below w0.heap.size w0 W → Calls Try.prog 13 #[.agg #[.slice A m c, .int .i64 secs], .agg #[.int .i64 p.ag, .int .i64 p.aa, .int .i64 p.bg, .int .i64 p.ba, .bool p.two, .int .i64 p.size, .int .i64 p.level, .int .i64 p.birth, .int .u64 p.s0, .int .u64 p.s1, .int .u64 p.s2, .int .u64 p.s3]] W fun e w' => e = .returned (.bool (rightB gs secs p)) ∧ Below W.heap.size W w') :=
      Lib.hid fun W hB => HRT.out W (hb0.trans (hB.mono hb0.size))
    clear HRT
    have HRT := hRT
    clear hRT
    go_enter Try.func8, Try.ntmps8
    repeat' (first
      | go_values
      | go_skip
      | go_guarded
      | ((fail_if_success (with_reducible refine drawn_mark ?_))
         first
           | go_step
           | go_upon
           | go_back
           | (simp only [Int.not_lt, Int.not_le] at *; go_simp)
           | (go_values <;> (try go_simp))
           | (go_ite <;> go_prune <;> (try go_simp))
           | (split <;> (first | (rename_i hx; exact (hx _ rfl).elim) | go_prune))))
    rw [← hw0]
    clear hw0
    obtain ⟨C, hC, hC0, hCB, hCK, hCd⟩ := cls_below w0
    have hPC : ∀ W, C W → PtrAt W (w.heap.size + 1) 1 p := fun W h => HP0.out.keep (hCB W h) (by omega)
    have f0 : ∀ W, C W → W.cell? ⟨w.heap.size + 1, 1, none⟩ = some (.int .i64 p.ag) := fun W h => (hPC W h).1
    have f1 : ∀ W, C W → W.cell? ⟨w.heap.size + 1, 2, none⟩ = some (.int .i64 p.aa) := fun W h => (hPC W h).2.1
    have f2 : ∀ W, C W → W.cell? ⟨w.heap.size + 1, 3, none⟩ = some (.int .i64 p.bg) := fun W h => (hPC W h).2.2.1
    have f3 : ∀ W, C W → W.cell? ⟨w.heap.size + 1, 4, none⟩ = some (.int .i64 p.ba) := fun W h => (hPC W h).2.2.2.1
    have f4 : ∀ W, C W → W.cell? ⟨w.heap.size + 1, 5, none⟩ = some (.bool p.two) := fun W h => (hPC W h).2.2.2.2.1
    have f5 : ∀ W, C W → W.cell? ⟨w.heap.size + 1, 6, none⟩ = some (.int .i64 p.size) := fun W h => (hPC W h).2.2.2.2.2.1
    have f6 : ∀ W, C W → W.cell? ⟨w.heap.size + 1, 7, none⟩ = some (.int .i64 p.level) := fun W h => (hPC W h).2.2.2.2.2.2.1
    have f7 : ∀ W, C W → W.cell? ⟨w.heap.size + 1, 8, none⟩ = some (.int .i64 p.birth) := fun W h => (hPC W h).2.2.2.2.2.2.2.1
    have f8 : ∀ W, C W → W.cell? ⟨w.heap.size + 1, 9, none⟩ = some (.int .u64 p.s0) := fun W h => (hPC W h).2.2.2.2.2.2.2.2.1
    have f9 : ∀ W, C W → W.cell? ⟨w.heap.size + 1, 10, none⟩ = some (.int .u64 p.s1) := fun W h => (hPC W h).2.2.2.2.2.2.2.2.2.1
    have f10 : ∀ W, C W → W.cell? ⟨w.heap.size + 1, 11, none⟩ = some (.int .u64 p.s2) := fun W h => (hPC W h).2.2.2.2.2.2.2.2.2.2.1
    have f11 : ∀ W, C W → W.cell? ⟨w.heap.size + 1, 12, none⟩ = some (.int .u64 p.s3) := fun W h => (hPC W h).2.2.2.2.2.2.2.2.2.2.2
    have fn : ∀ W, C W → W.cell? ⟨w.heap.size + 1, 0, none⟩ = some (.int .i64 n) := fun W h => keep_cell (hCB W h) k3 (by omega)
    have fg0 : ∀ W, C W → W.cell? ⟨w.heap.size, 0, none⟩ = some (.slice A m c) := fun W h => keep_cell (hCB W h) k1 (by omega)
    have fg1 : ∀ W, C W → W.cell? ⟨w.heap.size, 1, none⟩ = some (.int .i64 secs) := fun W h => keep_cell (hCB W h) k2 (by omega)
    clear k1 k2 k3
    generalize levN n = L at *
    cases hno : noneB p with
    | true =>
      rw [hno] at HNO HV
      clear hno
      refine wp_region_cls C (by kernel_rfl) (by kernel_rfl) hC ?_
      repeat (first
        | go_big_quiet_skip
        | (go_big_quiet_want
           go_big_quiet_op
           first
             | go_big_quiet_on
             | (apply Exists.intro
                refine ⟨fun W hW => ?_, ?_⟩
                · first
                    | exact rfl
                    | exact ⟨rfl, rfl⟩
                    | (have e0 := f0 W hW; have e1 := f1 W hW; have e2 := f2 W hW; have e3 := f3 W hW; have e4 := f4 W hW; have e5 := f5 W hW; have e6 := f6 W hW; have e7 := f7 W hW; have e8 := f8 W hW; have e9 := f9 W hW; have e10 := f10 W hW; have e11 := f11 W hW; have e12 := fn W hW; have e13 := fg0 W hW; have e14 := fg1 W hW; simp only [e0, e1, e2, e3, e4, e5, e6, e7, e8, e9, e10, e11, e12, e13, e14, Result.andThen_ok]; done)
                    | (have e0 := f0 W hW; have e1 := f1 W hW; have e2 := f2 W hW; have e3 := f3 W hW; have e4 := f4 W hW; have e5 := f5 W hW; have e6 := f6 W hW; have e7 := f7 W hW; have e8 := f8 W hW; have e9 := f9 W hW; have e10 := f10 W hW; have e11 := f11 W hW; have e12 := fn W hW; have e13 := fg0 W hW; have e14 := fg1 W hW; simp only [e0, e1, e2, e3, e4, e5, e6, e7, e8, e9, e10, e11, e12, e13, e14, Result.andThen_ok]; first | exact ⟨trivial, rfl⟩ | exact rfl | exact ⟨rfl, rfl⟩)
                    | ((first | (go_at_call 12; refine (HNO.out W).mono ?_) | (go_at_call 13; refine (HRT.out W (hCB W hW)).mono ?_)); rintro e w' ⟨rfl, hb⟩; exact ⟨rfl, hCK _ _ hW hb⟩)
                    | ((go_at_call 7; refine (HL.out W).mono ?_; rintro e w' ⟨rfl, rfl⟩; exact ⟨rfl, hW⟩))
                go_big_quiet_on)))
      refine wpQuiet_nil ?_
      intro v4 hv4
      have hwB := hCB v4 hv4
      go_wp2_with fail
      go_ret
      exact ⟨ret_bool (by first | exact HV.out.symm | (rw [HV.out]; simp; done) | (rw [HV.out, Bool.eq_iff_iff]; simp)), keep_below hwB hb0⟩
    | false =>
      rw [hno] at HNO HV
      clear hno
      cases hr : rightB gs secs p with
      | true =>
        rw [hr] at HRT HV
        clear hr
        refine wp_region_cls C (by kernel_rfl) (by kernel_rfl) hC ?_
        repeat (first
          | go_big_quiet_skip
          | (go_big_quiet_want
             go_big_quiet_op
             first
               | go_big_quiet_on
               | (apply Exists.intro
                  refine ⟨fun W hW => ?_, ?_⟩
                  · first
                      | exact rfl
                      | exact ⟨rfl, rfl⟩
                      | (have e0 := f0 W hW; have e1 := f1 W hW; have e2 := f2 W hW; have e3 := f3 W hW; have e4 := f4 W hW; have e5 := f5 W hW; have e6 := f6 W hW; have e7 := f7 W hW; have e8 := f8 W hW; have e9 := f9 W hW; have e10 := f10 W hW; have e11 := f11 W hW; have e12 := fn W hW; have e13 := fg0 W hW; have e14 := fg1 W hW; simp only [e0, e1, e2, e3, e4, e5, e6, e7, e8, e9, e10, e11, e12, e13, e14, Result.andThen_ok]; done)
                      | (have e0 := f0 W hW; have e1 := f1 W hW; have e2 := f2 W hW; have e3 := f3 W hW; have e4 := f4 W hW; have e5 := f5 W hW; have e6 := f6 W hW; have e7 := f7 W hW; have e8 := f8 W hW; have e9 := f9 W hW; have e10 := f10 W hW; have e11 := f11 W hW; have e12 := fn W hW; have e13 := fg0 W hW; have e14 := fg1 W hW; simp only [e0, e1, e2, e3, e4, e5, e6, e7, e8, e9, e10, e11, e12, e13, e14, Result.andThen_ok]; first | exact ⟨trivial, rfl⟩ | exact rfl | exact ⟨rfl, rfl⟩)
                      | ((first | (go_at_call 12; refine (HNO.out W).mono ?_) | (go_at_call 13; refine (HRT.out W (hCB W hW)).mono ?_)); rintro e w' ⟨rfl, hb⟩; exact ⟨rfl, hCK _ _ hW hb⟩)
                      | ((go_at_call 7; refine (HL.out W).mono ?_; rintro e w' ⟨rfl, rfl⟩; exact ⟨rfl, hW⟩))
                  go_big_quiet_on)))
        refine wpQuiet_nil ?_
        intro v4 hv4
        have hwB := hCB v4 hv4
        go_wp2_with fail
        go_ret
        exact ⟨ret_bool (by first | exact HV.out.symm | (rw [HV.out]; simp; done) | (rw [HV.out, Bool.eq_iff_iff]; simp)), keep_below hwB hb0⟩
      | false =>
        rw [hr] at HRT HV
        clear hr
        refine wp_region_cls C (by kernel_rfl) (by kernel_rfl) hC ?_
        repeat (first
          | go_big_quiet_skip
          | (go_big_quiet_want
             go_big_quiet_op
             first
               | go_big_quiet_on
               | (apply Exists.intro
                  refine ⟨fun W hW => ?_, ?_⟩
                  · first
                      | exact rfl
                      | exact ⟨rfl, rfl⟩
                      | (have e0 := f0 W hW; have e1 := f1 W hW; have e2 := f2 W hW; have e3 := f3 W hW; have e4 := f4 W hW; have e5 := f5 W hW; have e6 := f6 W hW; have e7 := f7 W hW; have e8 := f8 W hW; have e9 := f9 W hW; have e10 := f10 W hW; have e11 := f11 W hW; have e12 := fn W hW; have e13 := fg0 W hW; have e14 := fg1 W hW; simp only [e0, e1, e2, e3, e4, e5, e6, e7, e8, e9, e10, e11, e12, e13, e14, Result.andThen_ok]; done)
                      | (have e0 := f0 W hW; have e1 := f1 W hW; have e2 := f2 W hW; have e3 := f3 W hW; have e4 := f4 W hW; have e5 := f5 W hW; have e6 := f6 W hW; have e7 := f7 W hW; have e8 := f8 W hW; have e9 := f9 W hW; have e10 := f10 W hW; have e11 := f11 W hW; have e12 := fn W hW; have e13 := fg0 W hW; have e14 := fg1 W hW; simp only [e0, e1, e2, e3, e4, e5, e6, e7, e8, e9, e10, e11, e12, e13, e14, Result.andThen_ok]; first | exact ⟨trivial, rfl⟩ | exact rfl | exact ⟨rfl, rfl⟩)
                      | ((first | (go_at_call 12; refine (HNO.out W).mono ?_) | (go_at_call 13; refine (HRT.out W (hCB W hW)).mono ?_)); rintro e w' ⟨rfl, hb⟩; exact ⟨rfl, hCK _ _ hW hb⟩)
                      | ((go_at_call 7; refine (HL.out W).mono ?_; rintro e w' ⟨rfl, rfl⟩; exact ⟨rfl, hW⟩))
                  go_big_quiet_on)))
        refine wpQuiet_nil ?_
        intro v4 hv4
        have hwB := hCB v4 hv4
        go_wp2_with fail
        go_ret
        exact ⟨ret_bool (by first | exact HV.out.symm | (rw [HV.out]; simp; done) | (rw [HV.out, Bool.eq_iff_iff]; simp)), keep_below hwB hb0⟩
  · have hv : Hid (nRightB gs secs n p = false) := by unfold Hid; rw [HV.out, decide_eq_false hn]; rfl
    have hn' : n < 0 ∨ (0 ≤ n ∧ 16384 < n) := by omega
    clear hn
    rcases hn' with hn | ⟨hn, hn2⟩
    all_goals
      go_enter Try.func8, Try.ntmps8
      go_wp2_with fail
      all_goals go_ret
      all_goals exact ⟨ret_bool hv.out.symm, by rw [← hw0]; exact hb0⟩
end Go.Proofs.Ytkmmehhddagijaa
