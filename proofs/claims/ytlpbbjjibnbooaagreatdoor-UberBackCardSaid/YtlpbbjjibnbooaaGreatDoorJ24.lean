/-
  The contract of polderref13.Right.
  Uberblocks compared; the bytes of a text in a new block.
  The statement UberBack, walked.
  A world for the witness in which the library tables that the rows list hold what their texts lay.
-/
import Derived.Test.YtlpbbjjibnbooaaGreatDoorJ23
import Derived.Test.YtlpbbjjibnbooaaGreatDoorJ08
import Derived.Test.YtlpbbjjibnbooaaGreatDoorJ07
import Derived.Test.YtlpbbjjibnbooaaGreatDoorJ16
import Derived.Test.YtlpbbjjibnbooaaGreatDoorRows
import Derived.Deep.DeepHandedRow
namespace Go.Proofs.YtlpbbjjibnbooaaGreatDoor
set_option linter.unusedVariables false
set_option linter.unusedSimpArgs false
open Go.RowKit

theorem build_ptr13 (W : World) : (Instr.build 31 #[]).run Tryz.prog W = .ok (.agg #[.int .i64 0, .int .i64 0, .int .i64 0, .int .i64 0, .bool false, .int .i64 0, .int .i64 0, .int .i64 0, .int .u64 0, .int .u64 0, .int .u64 0, .int .u64 0]) W := by kernel_rfl
theorem refLevel_any (size : Int) (w : World) : Calls Tryz.prog 38 #[.int .i64 size] w fun e w' => e = .returned (.int .i64 (levN size)) ∧ w' = w := by
  have hl : levN size = if size ≤ 256 then 0 else if size ≤ 1024 then 1 else if size ≤ 4096 then 2 else 3 := rfl
  have HL := Lib.hid hl
  clear hl
  by_cases h1 : size ≤ 256
  · have hv : Hid ((levN size : Nat) = 0) := Lib.hid (by rw [HL.out, if_pos h1])
    go_enter Tryz.func38, Tryz.ntmps38
    go_wp2_with fail
    go_ret
    exact ⟨by rw [hv.out]; rfl, rfl⟩
  by_cases h2 : size ≤ 1024
  · have hv : Hid ((levN size : Nat) = 1) := Lib.hid (by rw [HL.out, if_neg h1, if_pos h2])
    go_enter Tryz.func38, Tryz.ntmps38
    go_wp2_with fail
    go_ret
    exact ⟨by rw [hv.out]; rfl, rfl⟩
  by_cases h3 : size ≤ 4096
  · have hv : Hid ((levN size : Nat) = 2) := Lib.hid (by rw [HL.out, if_neg h1, if_neg h2, if_pos h3])
    go_enter Tryz.func38, Tryz.ntmps38
    go_wp2_with fail
    go_ret
    exact ⟨by rw [hv.out]; rfl, rfl⟩
  · have hv : Hid ((levN size : Nat) = 3) := Lib.hid (by rw [HL.out, if_neg h1, if_neg h2, if_neg h3])
    go_enter Tryz.func38, Tryz.ntmps38
    go_wp2_with fail
    go_ret
    exact ⟨by rw [hv.out]; rfl, rfl⟩
set_option maxRecDepth 100000 in
set_option maxHeartbeats 4000000 in
theorem refRight13_any (A : Option Addr) (m c : Nat) (gs : List (Int × Int)) (secs n : Int) (p : PtrD) (w : World) (hg : GeoAt w A m gs) :
    Calls Tryz.prog 11 #[.agg #[.slice A m c, .int .i64 secs], .agg #[.int .i64 n, .int .i64 p.ag, .int .i64 p.aa, .int .i64 p.bg, .int .i64 p.ba, .bool p.two, .int .i64 p.size, .int .i64 p.level, .int .i64 p.birth, .int .u64 p.s0, .int .u64 p.s1, .int .u64 p.s2, .int .u64 p.s3]] w fun e w' => e = .returned (.bool (nRightB gs secs n p)) ∧ Below w.heap.size w w' := by
  have hbz := build_ptr13
  obtain ⟨w0, hw0⟩ : ∃ w0, w0 = ((w.alloc (Obj.cells #[Value.slice A m c, Value.int IntKind.i64 secs] 24)).alloc (.cells #[.int .i64 n, .int .i64 p.ag, .int .i64 p.aa, .int .i64 p.bg, .int .i64 p.ba, .bool p.two, .int .i64 p.size, .int .i64 p.level, .int .i64 p.birth, .int .u64 p.s0, .int .u64 p.s1, .int .u64 p.s2, .int .u64 p.s3] 33)) := ⟨_, rfl⟩
  have hb0 : Below w.heap.size w w0 := by rw [hw0]; exact ((Below.refl _ _).alloc (Nat.le_refl _) _).alloc (by simp) _
  have hs0 : w.heap.size + 2 ≤ w0.heap.size := by rw [hw0]; simp
  have HP0 : Hid (PtrAt w0 (w.heap.size + 1) 1 p) := by
    have := nodeAt_new (w.alloc (Obj.cells #[Value.slice A m c, Value.int IntKind.i64 secs] 24)) n p 33
    rw [World.size_alloc] at this
    rw [hw0]; exact Lib.hid this
  have k1 : w0.cell? ⟨w.heap.size, 0, none⟩ = some (.slice A m c) := by rw [hw0]; exact cell_alloc (cell_new rfl rfl) _
  have k2 : w0.cell? ⟨w.heap.size, 1, none⟩ = some (.int .i64 secs) := by rw [hw0]; exact cell_alloc (cell_new rfl rfl) _
  have k3 : w0.cell? ⟨w.heap.size + 1, 0, none⟩ = some (.int .i64 n) := by rw [hw0]; exact cell_new (by simp) rfl
  have HV : Hid (nRightB gs secs n p = (decide (0 ≤ n ∧ n ≤ 16384) && (noneB p || rightB gs secs p && decide (p.level = levN n)))) := Lib.hid rfl
  by_cases hn : 0 ≤ n ∧ n ≤ 16384
  · rw [decide_eq_true hn, Bool.true_and] at HV
    obtain ⟨hn1, hn2⟩ := hn
    have HL := Lib.hid fun W => refLevel_any n W
    have HRT : Hid (∀ W, Below w0.heap.size w0 W → Calls Tryz.prog 37 #[.agg #[.slice A m c, .int .i64 secs], .agg #[.int .i64 p.ag, .int .i64 p.aa, .int .i64 p.bg, .int .i64 p.ba, .bool p.two, .int .i64 p.size, .int .i64 p.level, .int .i64 p.birth, .int .u64 p.s0, .int .u64 p.s1, .int .u64 p.s2, .int .u64 p.s3]] W fun e w' => e = .returned (.bool (rightB gs secs p)) ∧ Below W.heap.size W w') :=
      Lib.hid fun W hB => refRight9_any A m c gs secs p W (hg.below (hb0.trans (hB.mono hb0.size)) (Nat.le_refl _))
    go_enter Tryz.func11, Tryz.ntmps11
    repeat' (first
      | go_values
      | go_skip
      | go_guarded
      | ((fail_if_success (with_reducible refine drawn_mark ?_))
         first
           | go_step
           | go_upon
           | go_back
           | (simp only [Int.not_lt, Int.not_le] at *; go_simp)
           | (go_values <;> (try go_simp))
           | (go_ite <;> go_prune <;> (try go_simp))
           | (split <;> (first | (rename_i hx; exact (hx _ rfl).elim) | go_prune))))
    rw [← hw0]
    clear hw0
    obtain ⟨C, hC, hC0, hCB, hCK, hCd⟩ := cls_below w0
    have hPC : ∀ W, C W → PtrAt W (w.heap.size + 1) 1 p := fun W h => HP0.out.keep (hCB W h) (by omega)
    have f0 : ∀ W, C W → W.cell? ⟨w.heap.size + 1, 1, none⟩ = some (.int .i64 p.ag) := fun W h => (hPC W h).1
    have f1 : ∀ W, C W → W.cell? ⟨w.heap.size + 1, 2, none⟩ = some (.int .i64 p.aa) := fun W h => (hPC W h).2.1
    have f2 : ∀ W, C W → W.cell? ⟨w.heap.size + 1, 3, none⟩ = some (.int .i64 p.bg) := fun W h => (hPC W h).2.2.1
    have f3 : ∀ W, C W → W.cell? ⟨w.heap.size + 1, 4, none⟩ = some (.int .i64 p.ba) := fun W h => (hPC W h).2.2.2.1
    have f4 : ∀ W, C W → W.cell? ⟨w.heap.size + 1, 5, none⟩ = some (.bool p.two) := fun W h => (hPC W h).2.2.2.2.1
    have f5 : ∀ W, C W → W.cell? ⟨w.heap.size + 1, 6, none⟩ = some (.int .i64 p.size) := fun W h => (hPC W h).2.2.2.2.2.1
    have f6 : ∀ W, C W → W.cell? ⟨w.heap.size + 1, 7, none⟩ = some (.int .i64 p.level) := fun W h => (hPC W h).2.2.2.2.2.2.1
    have f7 : ∀ W, C W → W.cell? ⟨w.heap.size + 1, 8, none⟩ = some (.int .i64 p.birth) := fun W h => (hPC W h).2.2.2.2.2.2.2.1
    have f8 : ∀ W, C W → W.cell? ⟨w.heap.size + 1, 9, none⟩ = some (.int .u64 p.s0) := fun W h => (hPC W h).2.2.2.2.2.2.2.2.1
    have f9 : ∀ W, C W → W.cell? ⟨w.heap.size + 1, 10, none⟩ = some (.int .u64 p.s1) := fun W h => (hPC W h).2.2.2.2.2.2.2.2.2.1
    have f10 : ∀ W, C W → W.cell? ⟨w.heap.size + 1, 11, none⟩ = some (.int .u64 p.s2) := fun W h => (hPC W h).2.2.2.2.2.2.2.2.2.2.1
    have f11 : ∀ W, C W → W.cell? ⟨w.heap.size + 1, 12, none⟩ = some (.int .u64 p.s3) := fun W h => (hPC W h).2.2.2.2.2.2.2.2.2.2.2
    have fn : ∀ W, C W → W.cell? ⟨w.heap.size + 1, 0, none⟩ = some (.int .i64 n) := fun W h => keep_cell (hCB W h) k3 (by omega)
    have fg0 : ∀ W, C W → W.cell? ⟨w.heap.size, 0, none⟩ = some (.slice A m c) := fun W h => keep_cell (hCB W h) k1 (by omega)
    have fg1 : ∀ W, C W → W.cell? ⟨w.heap.size, 1, none⟩ = some (.int .i64 secs) := fun W h => keep_cell (hCB W h) k2 (by omega)
    have he : ∀ W, (binOp .eql 31 (.agg #[.int .i64 p.ag, .int .i64 p.aa, .int .i64 p.bg, .int .i64 p.ba, .bool p.two, .int .i64 p.size, .int .i64 p.level, .int .i64 p.birth, .int .u64 p.s0, .int .u64 p.s1, .int .u64 p.s2, .int .u64 p.s3])
      (.agg #[.int .i64 0, .int .i64 0, .int .i64 0, .int .i64 0, .bool false, .int .i64 0, .int .i64 0, .int .i64 0, .int .u64 0, .int .u64 0, .int .u64 0, .int .u64 0])).run Tryz.prog W = .ok (.bool (noneB p)) W := fun W => eql_ptr p ptrZ W
    clear k1 k2 k3
    generalize levN n = L at *
    cases hno : noneB p with
    | true =>
      rw [hno] at he HV
      clear hno
      refine wp_region_cls C (by kernel_rfl) (by kernel_rfl) hC ?_
      repeat (first
        | go_big_quiet_skip
        | (go_big_quiet_want
           go_big_quiet_op
           first
             | go_big_quiet_on
             | (apply Exists.intro
                refine ⟨fun W hW => ?_, ?_⟩
                · first
                    | exact rfl
                    | exact ⟨rfl, rfl⟩
                    | (have e0 := f0 W hW; have e1 := f1 W hW; have e2 := f2 W hW; have e3 := f3 W hW; have e4 := f4 W hW; have e5 := f5 W hW; have e6 := f6 W hW; have e7 := f7 W hW; have e8 := f8 W hW; have e9 := f9 W hW; have e10 := f10 W hW; have e11 := f11 W hW; have e12 := fn W hW; have e13 := fg0 W hW; have e14 := fg1 W hW; simp only [e0, e1, e2, e3, e4, e5, e6, e7, e8, e9, e10, e11, e12, e13, e14, Result.andThen_ok]; done)
                    | (have e0 := f0 W hW; have e1 := f1 W hW; have e2 := f2 W hW; have e3 := f3 W hW; have e4 := f4 W hW; have e5 := f5 W hW; have e6 := f6 W hW; have e7 := f7 W hW; have e8 := f8 W hW; have e9 := f9 W hW; have e10 := f10 W hW; have e11 := f11 W hW; have e12 := fn W hW; have e13 := fg0 W hW; have e14 := fg1 W hW; simp only [e0, e1, e2, e3, e4, e5, e6, e7, e8, e9, e10, e11, e12, e13, e14, Result.andThen_ok]; first | exact ⟨trivial, rfl⟩ | exact rfl | exact ⟨rfl, rfl⟩)
                    | ((go_at_call 37; refine (HRT.out W (hCB W hW)).mono ?_; rintro e w' ⟨rfl, hb⟩; exact ⟨rfl, hCK _ _ hW hb⟩))
                    | ((go_at_call 38; refine (HL.out W).mono ?_; rintro e w' ⟨rfl, rfl⟩; exact ⟨rfl, hW⟩))
                go_big_quiet_on)))
      refine wpQuiet_nil ?_
      intro v4 hv4
      have hwB := hCB v4 hv4
      go_wp2_with fail
      go_ret
      exact ⟨ret_bool (by first | exact HV.out.symm | (rw [HV.out]; simp; done) | (rw [HV.out, Bool.eq_iff_iff]; simp)), keep_below hwB hb0⟩
    | false =>
      rw [hno] at he HV
      clear hno
      cases hr : rightB gs secs p with
      | true =>
        rw [hr] at HRT HV
        clear hr
        refine wp_region_cls C (by kernel_rfl) (by kernel_rfl) hC ?_
        repeat (first
          | go_big_quiet_skip
          | (go_big_quiet_want
             go_big_quiet_op
             first
               | go_big_quiet_on
               | (apply Exists.intro
                  refine ⟨fun W hW => ?_, ?_⟩
                  · first
                      | exact rfl
                      | exact ⟨rfl, rfl⟩
                      | (have e0 := f0 W hW; have e1 := f1 W hW; have e2 := f2 W hW; have e3 := f3 W hW; have e4 := f4 W hW; have e5 := f5 W hW; have e6 := f6 W hW; have e7 := f7 W hW; have e8 := f8 W hW; have e9 := f9 W hW; have e10 := f10 W hW; have e11 := f11 W hW; have e12 := fn W hW; have e13 := fg0 W hW; have e14 := fg1 W hW; simp only [e0, e1, e2, e3, e4, e5, e6, e7, e8, e9, e10, e11, e12, e13, e14, Result.andThen_ok]; done)
                      | (have e0 := f0 W hW; have e1 := f1 W hW; have e2 := f2 W hW; have e3 := f3 W hW; have e4 := f4 W hW; have e5 := f5 W hW; have e6 := f6 W hW; have e7 := f7 W hW; have e8 := f8 W hW; have e9 := f9 W hW; have e10 := f10 W hW; have e11 := f11 W hW; have e12 := fn W hW; have e13 := fg0 W hW; have e14 := fg1 W hW; simp only [e0, e1, e2, e3, e4, e5, e6, e7, e8, e9, e10, e11, e12, e13, e14, Result.andThen_ok]; first | exact ⟨trivial, rfl⟩ | exact rfl | exact ⟨rfl, rfl⟩)
                      | ((go_at_call 37; refine (HRT.out W (hCB W hW)).mono ?_; rintro e w' ⟨rfl, hb⟩; exact ⟨rfl, hCK _ _ hW hb⟩))
                      | ((go_at_call 38; refine (HL.out W).mono ?_; rintro e w' ⟨rfl, rfl⟩; exact ⟨rfl, hW⟩))
                  go_big_quiet_on)))
        refine wpQuiet_nil ?_
        intro v4 hv4
        have hwB := hCB v4 hv4
        go_wp2_with fail
        go_ret
        exact ⟨ret_bool (by first | exact HV.out.symm | (rw [HV.out]; simp; done) | (rw [HV.out, Bool.eq_iff_iff]; simp)), keep_below hwB hb0⟩
      | false =>
        rw [hr] at HRT HV
        clear hr
        refine wp_region_cls C (by kernel_rfl) (by kernel_rfl) hC ?_
        repeat (first
          | go_big_quiet_skip
          | (go_big_quiet_want
             go_big_quiet_op
             first
               | go_big_quiet_on
               | (apply Exists.intro
                  refine ⟨fun W hW => ?_, ?_⟩
                  · first
                      | exact rfl
                      | exact ⟨rfl, rfl⟩
                      | (have e0 := f0 W hW; have e1 := f1 W hW; have e2 := f2 W hW; have e3 := f3 W hW; have e4 := f4 W hW; have e5 := f5 W hW; have e6 := f6 W hW; have e7 := f7 W hW; have e8 := f8 W hW; have e9 := f9 W hW; have e10 := f10 W hW; have e11 := f11 W hW; have e12 := fn W hW; have e13 := fg0 W hW; have e14 := fg1 W hW; simp only [e0, e1, e2, e3, e4, e5, e6, e7, e8, e9, e10, e11, e12, e13, e14, Result.andThen_ok]; done)
                      | (have e0 := f0 W hW; have e1 := f1 W hW; have e2 := f2 W hW; have e3 := f3 W hW; have e4 := f4 W hW; have e5 := f5 W hW; have e6 := f6 W hW; have e7 := f7 W hW; have e8 := f8 W hW; have e9 := f9 W hW; have e10 := f10 W hW; have e11 := f11 W hW; have e12 := fn W hW; have e13 := fg0 W hW; have e14 := fg1 W hW; simp only [e0, e1, e2, e3, e4, e5, e6, e7, e8, e9, e10, e11, e12, e13, e14, Result.andThen_ok]; first | exact ⟨trivial, rfl⟩ | exact rfl | exact ⟨rfl, rfl⟩)
                      | ((go_at_call 37; refine (HRT.out W (hCB W hW)).mono ?_; rintro e w' ⟨rfl, hb⟩; exact ⟨rfl, hCK _ _ hW hb⟩))
                      | ((go_at_call 38; refine (HL.out W).mono ?_; rintro e w' ⟨rfl, rfl⟩; exact ⟨rfl, hW⟩))
                  go_big_quiet_on)))
        refine wpQuiet_nil ?_
        intro v4 hv4
        have hwB := hCB v4 hv4
        go_wp2_with fail
        go_ret
        exact ⟨ret_bool (by first | exact HV.out.symm | (rw [HV.out]; simp; done) | (rw [HV.out, Bool.eq_iff_iff]; simp)), keep_below hwB hb0⟩
  · have hv : Hid (nRightB gs secs n p = false) := by unfold Hid; rw [HV.out, decide_eq_false hn]; rfl
    have hn' : n < 0 ∨ (0 ≤ n ∧ 16384 < n) := by omega
    clear hn
    rcases hn' with hn | ⟨hn, hn2⟩
    all_goals
      go_enter Tryz.func11, Tryz.ntmps11
      go_wp2_with fail
      all_goals go_ret
      all_goals exact ⟨ret_bool hv.out.symm, by rw [← hw0]; exact hb0⟩
end Go.Proofs.YtlpbbjjibnbooaaGreatDoor

namespace Go.Proofs.YtlpbbjjibnbooaaGreatDoor
set_option linter.unusedVariables false
set_option linter.unusedSimpArgs false
open Go.RowKit

theorem Tryz.stoodUber18 : Tryz.prog.stoodInHeld 35 = false := by kernel_rfl
theorem eqIn_node18 (n m : Int) (p q : PtrD) (d : Nat) (w : World) : (Op.equalIn (d + 4) 33 (.agg #[.int .i64 n, .int .i64 p.ag, .int .i64 p.aa, .int .i64 p.bg, .int .i64 p.ba, .bool p.two, .int .i64 p.size, .int .i64 p.level, .int .i64 p.birth, .int .u64 p.s0, .int .u64 p.s1, .int .u64 p.s2, .int .u64 p.s3]) (.agg #[.int .i64 m, .int .i64 q.ag, .int .i64 q.aa, .int .i64 q.bg, .int .i64 q.ba, .bool q.two, .int .i64 q.size, .int .i64 q.level, .int .i64 q.birth, .int .u64 q.s0, .int .u64 q.s1, .int .u64 q.s2, .int .u64 q.s3])).run Tryz.prog w = .ok (n == m && ptrEq p q) w := by
  rw [run_equalIn_struct w (d + 3) _ _ _ (by kernel_rfl) Tryz.stoodNode]
  simp [go_sem, Tryz.underlying33, eqIn_ptr]
  by_cases h1 : n = m <;> cases ptrEq p q <;> simp [h1]
theorem eqIn_uber18 (t s n m : Int) (p q : PtrD) (d : Nat) (w : World) : (Op.equalIn (d + 5) 35 (.agg #[.int .i64 t, .int .i64 n, .int .i64 p.ag, .int .i64 p.aa, .int .i64 p.bg, .int .i64 p.ba, .bool p.two, .int .i64 p.size, .int .i64 p.level, .int .i64 p.birth, .int .u64 p.s0, .int .u64 p.s1, .int .u64 p.s2, .int .u64 p.s3]) (.agg #[.int .i64 s, .int .i64 m, .int .i64 q.ag, .int .i64 q.aa, .int .i64 q.bg, .int .i64 q.ba, .bool q.two, .int .i64 q.size, .int .i64 q.level, .int .i64 q.birth, .int .u64 q.s0, .int .u64 q.s1, .int .u64 q.s2, .int .u64 q.s3])).run Tryz.prog w = .ok (t == s && (n == m && ptrEq p q)) w := by
  rw [run_equalIn_struct w (d + 4) _ _ _ (by kernel_rfl) Tryz.stoodUber18]
  simp [go_sem, Tryz.underlying35, eqIn_node18]
  by_cases h0 : t = s <;> by_cases h1 : n = m <;> cases ptrEq p q <;> simp [h0, h1]
theorem eql_uber18 (t s n m : Int) (p q : PtrD) (w : World) : (binOp .eql 35 (.agg #[.int .i64 t, .int .i64 n, .int .i64 p.ag, .int .i64 p.aa, .int .i64 p.bg, .int .i64 p.ba, .bool p.two, .int .i64 p.size, .int .i64 p.level, .int .i64 p.birth, .int .u64 p.s0, .int .u64 p.s1, .int .u64 p.s2, .int .u64 p.s3]) (.agg #[.int .i64 s, .int .i64 m, .int .i64 q.ag, .int .i64 q.aa, .int .i64 q.bg, .int .i64 q.ba, .bool q.two, .int .i64 q.size, .int .i64 q.level, .int .i64 q.birth, .int .u64 q.s0, .int .u64 q.s1, .int .u64 q.s2, .int .u64 q.s3])).run Tryz.prog w = .ok (.bool (t == s && (n == m && ptrEq p q))) w := by
  rw [run_eql_struct, eqIn_uber18 t s n m p q 9995]; rfl
theorem neq_uber18 (t s n m : Int) (p q : PtrD) (w : World) : (binOp .neq 35 (.agg #[.int .i64 t, .int .i64 n, .int .i64 p.ag, .int .i64 p.aa, .int .i64 p.bg, .int .i64 p.ba, .bool p.two, .int .i64 p.size, .int .i64 p.level, .int .i64 p.birth, .int .u64 p.s0, .int .u64 p.s1, .int .u64 p.s2, .int .u64 p.s3]) (.agg #[.int .i64 s, .int .i64 m, .int .i64 q.ag, .int .i64 q.aa, .int .i64 q.bg, .int .i64 q.ba, .bool q.two, .int .i64 q.size, .int .i64 q.level, .int .i64 q.birth, .int .u64 q.s0, .int .u64 q.s1, .int .u64 q.s2, .int .u64 q.s3])).run Tryz.prog w = .ok (.bool (!(t == s && (n == m && ptrEq p q)))) w := by
  rw [run_neq_struct, eqIn_uber18 t s n m p q 9995]; rfl
/-- The bytes of a text in a new block. -/
theorem bytes_new18 (w : World) (s : List UInt8) : ∃ (c : Nat) (w' : World), (convert 9 43 (str s)).run Tryz.prog w = .ok (.slice (some ⟨w.heap.size, 0, none⟩) s.length c) w' ∧ Below w.heap.size w w' ∧ w'.heap.size = w.heap.size + 1 ∧
    (∀ j u, s[j]? = some u → w'.cell? ⟨w.heap.size, j, none⟩ = some (.int .u8 u.toNat)) ∧ ∀ j, j < s.length → w'.frozen? ⟨w.heap.size, j, none⟩ = false := by
  have h := run_bytes_of_string (P := Tryz.prog) w 9 43 5 ⟨s.toArray⟩ Tryz.underlying9 Tryz.underlying43 Tryz.underlying5
  have hsz : (⟨s.toArray⟩ : ByteArray).size = s.length := by simp [ByteArray.size]
  rw [hsz] at h
  generalize grownCap w s.length 0 5 = c at h
  have hlen : s.length ≤ (bytesRow ⟨s.toArray⟩ c).size := by simp [bytesRow, ByteArray.size]
  refine ⟨c, _, h, (Below.refl _ w).drew.alloc (Nat.le_refl _) _, by show (w.drew.alloc _).heap.size = w.drew.heap.size + 1; simp, fun j u hu => ?_, fun j hj => ?_⟩
  · obtain ⟨hj, rfl⟩ := List.getElem?_eq_some_iff.1 hu
    have := bytesRow_at ⟨s.toArray⟩ c j (by simpa using hj)
    have h2 : w.drew.heap.size = w.heap.size := rfl
    rw [← h2, cell_of_row _ _ _ _ _ _ (heap_alloc_new w.drew _), this]
    simp
  · have h2 : w.drew.heap.size = w.heap.size := rfl
    rw [← h2]
    simp only [World.frozen?, heap_alloc_new]
    simp only [Bool.and_eq_false_imp, decide_eq_true_eq, decide_eq_false_iff_not]
    omega
/-- What the spoilt bytes are read as. -/
theorem ur_spoil {gs : List (Int × Int)} {secs t n : Int} {p : PtrD} (h : ubOk gs secs t n p = true) (op : p.Ok) {i : Nat} {x b : UInt8} (hi : i < 256) (hx : (ubL gs secs t n p)[i]? = some x) :
    urD gs secs ((ubL gs secs t n p).set i (x ^^^ b)) = if b = 0 then (if nRightB gs secs n p then (⟨t, n, p⟩, 0) else (ubZ, 3)) else (ubZ, 4) := by
  have hnk := (ubOk_parts h).2.2.2
  by_cases hb : b = 0
  · subst hb
    have hxx : x ^^^ 0 = x := by simp
    have hset : (ubL gs secs t n p).set i x = ubL gs secs t n p := by
      apply List.ext_getElem?
      intro j
      rw [List.getElem?_set]
      split
      · rename_i e
        subst e
        rw [if_pos (List.getElem?_eq_some_iff.1 hx).1, hx]
      · rfl
    rw [if_pos rfl, hxx, hset, ur_back h op]
  · rw [if_neg hb]
    refine ur_flip hnk op hi hx ?_
    intro e
    apply hb
    have h1 : x ^^^ (x ^^^ b) = x ^^^ x := congrArg (fun y => x ^^^ y) e
    rw [← UInt8.xor_assoc, UInt8.xor_self, UInt8.zero_xor] at h1
    exact h1
end Go.Proofs.YtlpbbjjibnbooaaGreatDoor

namespace Go.Proofs.YtlpbbjjibnbooaaGreatDoor
set_option linter.unusedVariables false
set_option linter.unusedSimpArgs false
open Go.RowKit

theorem ubF18 {W : World} {g : Nat} {t n : Int} {p : PtrD} (h : Blk W g 35 #[.int .i64 t, .int .i64 n, .int .i64 p.ag, .int .i64 p.aa, .int .i64 p.bg, .int .i64 p.ba, .bool p.two, .int .i64 p.size, .int .i64 p.level, .int .i64 p.birth, .int .u64 p.s0, .int .u64 p.s1, .int .u64 p.s2, .int .u64 p.s3]) : W.cell? ⟨g, 0, none⟩ = some (.int .i64 t) ∧ W.cell? ⟨g, 1, none⟩ = some (.int .i64 n) ∧ W.cell? ⟨g, 2, none⟩ = some (.int .i64 p.ag) ∧ W.cell? ⟨g, 3, none⟩ = some (.int .i64 p.aa) ∧ W.cell? ⟨g, 4, none⟩ = some (.int .i64 p.bg) ∧ W.cell? ⟨g, 5, none⟩ = some (.int .i64 p.ba) ∧ W.cell? ⟨g, 6, none⟩ = some (.bool p.two) ∧ W.cell? ⟨g, 7, none⟩ = some (.int .i64 p.size) ∧ W.cell? ⟨g, 8, none⟩ = some (.int .i64 p.level) ∧ W.cell? ⟨g, 9, none⟩ = some (.int .i64 p.birth) ∧ W.cell? ⟨g, 10, none⟩ = some (.int .u64 p.s0) ∧ W.cell? ⟨g, 11, none⟩ = some (.int .u64 p.s1) ∧ W.cell? ⟨g, 12, none⟩ = some (.int .u64 p.s2) ∧ W.cell? ⟨g, 13, none⟩ = some (.int .u64 p.s3) :=
  ⟨h.at_ (i := 0) rfl, h.at_ (i := 1) rfl, h.at_ (i := 2) rfl, h.at_ (i := 3) rfl, h.at_ (i := 4) rfl, h.at_ (i := 5) rfl, h.at_ (i := 6) rfl, h.at_ (i := 7) rfl, h.at_ (i := 8) rfl, h.at_ (i := 9) rfl, h.at_ (i := 10) rfl, h.at_ (i := 11) rfl, h.at_ (i := 12) rfl, h.at_ (i := 13) rfl⟩
set_option maxRecDepth 20000 in
set_option maxHeartbeats 4000000 in
theorem uberBack_any (A : Option Addr) (m c : Nat) (gs : List (Int × Int)) (secs t n : Int) (p : PtrD) (op : p.Ok) (at_ : Nat) (hat : at_ < 65536) (by_ : UInt8) {w : World} (hg : GeoAt w A m gs) :
    Calls Tryz.prog 3 #[.agg #[.slice A m c, .int .i64 secs], .agg #[.int .i64 t, .int .i64 n, .int .i64 p.ag, .int .i64 p.aa, .int .i64 p.bg, .int .i64 p.ba, .bool p.two, .int .i64 p.size, .int .i64 p.level, .int .i64 p.birth, .int .u64 p.s0, .int .u64 p.s1, .int .u64 p.s2, .int .u64 p.s3], .int .u16 at_, .int .u8 by_.toNat] w fun e w' => e = .returned (.bool true) ∧ Below w.heap.size w w' := by
  have hbz := build_ubZ
  obtain ⟨w2, hw2⟩ : ∃ z, (w.alloc (.cells #[.slice A m c, .int .i64 secs] 24)).alloc (.cells #[.int .i64 t, .int .i64 n, .int .i64 p.ag, .int .i64 p.aa, .int .i64 p.bg, .int .i64 p.ba, .bool p.two, .int .i64 p.size, .int .i64 p.level, .int .i64 p.birth, .int .u64 p.s0, .int .u64 p.s1, .int .u64 p.s2, .int .u64 p.s3] 35) = z := ⟨_, rfl⟩
  have B1 : Blk w2 w.heap.size 24 #[.slice A m c, .int .i64 secs] := by rw [← hw2]; exact (Blk.new _ _ _).alloc _
  have B2 : Blk w2 (w.heap.size + 1) 35 #[.int .i64 t, .int .i64 n, .int .i64 p.ag, .int .i64 p.aa, .int .i64 p.bg, .int .i64 p.ba, .bool p.two, .int .i64 p.size, .int .i64 p.level, .int .i64 p.birth, .int .u64 p.s0, .int .u64 p.s1, .int .u64 p.s2, .int .u64 p.s3] := by rw [← hw2]; exact Blk.new2 _ _ _ _
  have D2 : Below w.heap.size w w2 := by rw [← hw2]; exact keep_alloc (keep_alloc (Below.refl _ _) _) _
  have HB := Lib.hid (And.intro B1 (And.intro B2 D2))
  have HW2 := Lib.hid hw2
  have HG := Lib.hid hg
  have hml : gs.length = m := hg.1
  clear B1 B2 D2 hw2 hg
  go_enter Tryz.func3, Tryz.ntmps3
  go_wp2_with fail
  rw [HW2.out]
  refine (awake18_any w2).mono ?_
  rintro e w3 ⟨rfl, hb3⟩
  have HB3 := Lib.hid (And.intro (HB.out.1.below hb3 HB.out.1.lt) (And.intro (HB.out.2.1.below hb3 HB.out.2.1.lt) (keep_below hb3 HB.out.2.2)))
  have g0 := HB3.out.1.at_ (i := 0) (v := .slice A m c) rfl
  have g1 := HB3.out.1.at_ (i := 1) (v := .int .i64 secs) rfl
  clear hb3
  by_cases hm : 100 < m
  · have hd : decide ((100 : Int) < (m : Int)) = true := decide_eq_true (by omega)
    clear hm
    go_wp2_with fail
    refine (awake18_any w3).mono ?_
    rintro e w4 ⟨rfl, hb4⟩
    have HB4 := Lib.hid (keep_below hb4 HB3.out.2.2)
    clear hb4 g0 g1
    go_wp2_with fail
    go_ret
    exact ⟨rfl, HB4.out⟩
  have hd : decide ((100 : Int) < (m : Int)) = false := decide_eq_false (by omega)
  have hub := ubytes_any A m c gs secs t n p w3 (HG.out.below HB3.out.2.2 (Nat.le_refl _)) op
  have u0 := (HB3.out.2.1).at_ (i := 0) (v := .int .i64 t) rfl
  have u1 := (HB3.out.2.1).at_ (i := 1) (v := .int .i64 n) rfl
  have u2 := (HB3.out.2.1).at_ (i := 2) (v := .int .i64 p.ag) rfl
  have u3 := (HB3.out.2.1).at_ (i := 3) (v := .int .i64 p.aa) rfl
  have u4 := (HB3.out.2.1).at_ (i := 4) (v := .int .i64 p.bg) rfl
  have u5 := (HB3.out.2.1).at_ (i := 5) (v := .int .i64 p.ba) rfl
  have u6 := (HB3.out.2.1).at_ (i := 6) (v := .bool p.two) rfl
  have u7 := (HB3.out.2.1).at_ (i := 7) (v := .int .i64 p.size) rfl
  have u8 := (HB3.out.2.1).at_ (i := 8) (v := .int .i64 p.level) rfl
  have u9 := (HB3.out.2.1).at_ (i := 9) (v := .int .i64 p.birth) rfl
  have ua := (HB3.out.2.1).at_ (i := 10) (v := .int .u64 p.s0) rfl
  have ub := (HB3.out.2.1).at_ (i := 11) (v := .int .u64 p.s1) rfl
  have uc := (HB3.out.2.1).at_ (i := 12) (v := .int .u64 p.s2) rfl
  have ud := (HB3.out.2.1).at_ (i := 13) (v := .int .u64 p.s3) rfl
  cases hok : ubOk gs secs t n p with
  | false =>
    have hS : ubS gs secs t n p = [] := by unfold ubS; rw [hok]; rfl
    have hE : ubE gs secs t n p = 1 := by unfold ubE; rw [hok]; rfl
    rw [hS, hE] at hub
    have HUB := Lib.hid hub
    clear hub hS hE hok hm
    go_wp2_with fail
    refine HUB.out.mono ?_
    rintro e w4 ⟨rfl, hb4⟩
    have HB4 := Lib.hid (keep_below hb4 HB3.out.2.2)
    clear hb4 g0 g1 u0 u1 u2 u3 u4 u5 u6 u7 u8 u9 ua ub uc ud
    go_wp2_with fail
    go_ret
    exact ⟨rfl, HB4.out⟩
  | true =>
    have hnk := (ubOk_parts hok).2.2.2
    have hS : ubS gs secs t n p = ubL gs secs t n p := by unfold ubS; rw [hok]; rfl
    have hE : ubE gs secs t n p = 0 := by unfold ubE; rw [hok]; rfl
    have hsl := ubL_len (gs := gs) (secs := secs) (t := t) hnk op
    have hbk := ur_back hok op
    have hix : at_ % 256 < 256 := Nat.mod_lt _ (by decide)
    obtain ⟨ix, hixx⟩ : ∃ ix, at_ % 256 = ix := ⟨_, rfl⟩
    rw [hixx] at hix
    have hm1 : (at_ : Int) % 256 = (ix : Int) := by omega
    have hm2 : (at_ : Int).tmod 256 = (ix : Int) := by rw [← hixx]; exact (Int.ofNat_tmod _ _).symm
    obtain ⟨s, hs⟩ : ∃ s, ubL gs secs t n p = s := ⟨_, rfl⟩
    have hx0 : ∃ x, (ubL gs secs t n p)[ix]? = some x := ⟨_, List.getElem?_eq_getElem (by omega)⟩
    obtain ⟨x, hx⟩ := hx0
    have hsp := ur_spoil (b := by_) hok op hix hx
    rw [hS, hE, hs] at hub
    rw [hs] at hsl hbk hx hsp
    obtain ⟨rb, hrb⟩ : ∃ rb, nRightB gs secs n p = rb := ⟨_, rfl⟩
    rw [hrb] at hbk hsp
    have HUB := Lib.hid hub
    have HSL := Lib.hid (And.intro hsl (And.intro hx hix))
    have HBK := Lib.hid hbk
    have HSP := Lib.hid hsp
    have HRB := Lib.hid hrb
    clear hub hS hE hok hm hs hsl hbk hx hsp hrb hixx hnk
    go_wp2_with fail
    refine HUB.out.mono ?_
    rintro e w4 ⟨rfl, hb4⟩
    have HB4 := Lib.hid (And.intro (HB3.out.1.below hb4 HB3.out.1.lt) (And.intro (HB3.out.2.1.below hb4 HB3.out.2.1.lt) (keep_below hb4 HB3.out.2.2)))
    clear hb4 g0 g1 u0 u1 u2 u3 u4 u5 u6 u7 u8 u9 ua ub uc ud
    have g0 := HB4.out.1.at_ (i := 0) (v := .slice A m c) rfl
    have g1 := HB4.out.1.at_ (i := 1) (v := .int .i64 secs) rfl
    have hrd := uread_any A m c gs secs s w4 (HG.out.below HB4.out.2.2 (Nat.le_refl _)) (by have := HSL.out.1; omega)
    rw [HBK.out] at hrd
    obtain ⟨⟨⟨xt, xn, xp⟩, ex⟩, hX⟩ : ∃ q : UbD × Int, (if rb = true then ((⟨t, n, p⟩ : UbD), (0 : Int)) else (ubZ, 3)) = q := ⟨_, rfl⟩
    rw [hX] at hrd
    dsimp only [UbD.cells] at hrd
    have HX := Lib.hid hX
    have HRD := Lib.hid hrd
    clear hrd hX
    obtain ⟨bN, hbN⟩ : ∃ bN, by_.toNat = bN := ⟨_, rfl⟩
    have hxc := xor_cell x by_
    rw [hbN] at hxc ⊢
    have HBN := Lib.hid hbN
    clear hbN
    go_wp2_with fail
    refine HRD.out.mono ?_
    rintro e w5 ⟨rfl, hb5⟩
    obtain ⟨w6, hw6⟩ : ∃ z, w5.alloc (.cells #[.int .i64 xt, .int .i64 xn, .int .i64 xp.ag, .int .i64 xp.aa, .int .i64 xp.bg, .int .i64 xp.ba, .bool xp.two, .int .i64 xp.size, .int .i64 xp.level, .int .i64 xp.birth, .int .u64 xp.s0, .int .u64 xp.s1, .int .u64 xp.s2, .int .u64 xp.s3] 35) = z := ⟨_, rfl⟩
    have hX6 : Blk w6 w5.heap.size 35 #[.int .i64 xt, .int .i64 xn, .int .i64 xp.ag, .int .i64 xp.aa, .int .i64 xp.bg, .int .i64 xp.ba, .bool xp.two, .int .i64 xp.size, .int .i64 xp.level, .int .i64 xp.birth, .int .u64 xp.s0, .int .u64 xp.s1, .int .u64 xp.s2, .int .u64 xp.s3] := by rw [← hw6]; exact Blk.new _ _ _
    have hb6 : Below w4.heap.size w4 w6 := by rw [← hw6]; exact keep_alloc hb5 _
    obtain ⟨c8, w7, r8, hb7, hs7, hc7, hf7⟩ := bytes_new18 w6 s
    rw [HSL.out.1] at r8
    have y1 := hc7 ix x HSL.out.2.1
    have y2 := hf7 ix (by have := HSL.out; omega)
    obtain ⟨s', hs'⟩ : ∃ s', s.set ix (x ^^^ by_) = s' := ⟨_, rfl⟩
    have hsl' : s'.length = 256 := by rw [← hs', List.length_set]; exact HSL.out.1
    obtain ⟨w8, hw8⟩ : ∃ z, w7.setCell ⟨w6.heap.size, ix, none⟩ (.int .u8 ((x.toNat ^^^ by_.toNat : Nat) : Int)) = z := ⟨_, rfl⟩
    have cellw : ∀ i y, s'[i]? = some y → w8.cell? ⟨w6.heap.size, i, none⟩ = some (.int .u8 y.toNat) := by
      intro i y hy
      rw [← hs', List.getElem?_set] at hy
      rw [← hw8]
      by_cases e : ix = i
      · subst e
        rw [if_pos rfl, if_pos (by have := HSL.out; omega)] at hy
        cases hy
        rw [UInt8.toNat_xor]
        exact World.cell?_setCell_same _ _ _ y1
      · rw [if_neg e] at hy
        rw [World.cell?_setCell_other _ _ _ _ (by intro h; injection h with _ h; exact e h)]
        exact hc7 i y hy
    have hback := run_convert_bytes_back (P := Tryz.prog) w8 43 9 5 ⟨w6.heap.size, 0, none⟩ c8 s' Tryz.underlying43 Tryz.underlying5 Tryz.underlying9
      (fun i hi => by
        have := cellw i _ (List.getElem?_eq_getElem hi)
        rw [Addr.add_mid, Nat.zero_add]; exact this)
    rw [hsl'] at hback
    have hb8 : Below w6.heap.size w6 w8 := by rw [← hw8]; exact below_set hb7 _ _ _ (Nat.le_refl _)
    have hb48 := keep_below hb8 hb6
    have hX8 := hX6.below hb8 hX6.lt
    have HB8 := Lib.hid (And.intro (HB4.out.1.below hb48 HB4.out.1.lt) (And.intro (HB4.out.2.1.below hb48 HB4.out.2.1.lt) (And.intro (keep_below hb48 HB4.out.2.2) hX8)))
    have HG6 := Lib.hid (And.intro (HB4.out.1.below hb6 HB4.out.1.lt) hX6)
    have hrd := uread_any A m c gs secs s' w8 (HG.out.below HB8.out.2.2.1 (Nat.le_refl _)) (by omega)
    rw [← hs', HSP.out] at hrd
    rw [hs'] at hrd
    obtain ⟨⟨⟨yt, yn, yp⟩, ey⟩, hY⟩ : ∃ q : UbD × Int, (if by_ = 0 then (if rb = true then ((⟨t, n, p⟩ : UbD), (0 : Int)) else (ubZ, 3)) else (ubZ, 4)) = q := ⟨_, rfl⟩
    rw [hY] at hrd
    dsimp only [UbD.cells] at hrd
    have HY := Lib.hid hY
    have HRD2 := Lib.hid hrd
    have HW6 := Lib.hid hw6
    have HW8 := Lib.hid hw8
    have hix := HSL.out.2.2
    have g0' := HB8.out.1.at_ (i := 0) (v := .slice A m c) rfl
    have g1' := HB8.out.1.at_ (i := 1) (v := .int .i64 secs) rfl
    rw [← hw8] at g0' g1' hback
    clear g0 g1 hrd hY hb5 hX6 hb6 hb7 hs7 hc7 hf7 hs' cellw hb8 hb48 hX8 hw6 hw8 HRD
    go_wp2_with fail
    rw [HW6.out]
    simp only [r8, Result.andThen, Oper.upon]
    go_wp2_with fail
    rw [HW8.out]
    refine HRD2.out.mono ?_
    rintro e w9 ⟨rfl, hb9⟩
    obtain ⟨w10, hw10⟩ : ∃ z, w9.alloc (.cells #[.int .i64 yt, .int .i64 yn, .int .i64 yp.ag, .int .i64 yp.aa, .int .i64 yp.bg, .int .i64 yp.ba, .bool yp.two, .int .i64 yp.size, .int .i64 yp.level, .int .i64 yp.birth, .int .u64 yp.s0, .int .u64 yp.s1, .int .u64 yp.s2, .int .u64 yp.s3] 35) = z := ⟨_, rfl⟩
    have hY10 : Blk w10 w9.heap.size 35 #[.int .i64 yt, .int .i64 yn, .int .i64 yp.ag, .int .i64 yp.aa, .int .i64 yp.bg, .int .i64 yp.ba, .bool yp.two, .int .i64 yp.size, .int .i64 yp.level, .int .i64 yp.birth, .int .u64 yp.s0, .int .u64 yp.s1, .int .u64 yp.s2, .int .u64 yp.s3] := by rw [← hw10]; exact Blk.new _ _ _
    have hb10 : Below w8.heap.size w8 w10 := by rw [← hw10]; exact keep_alloc hb9 _
    have HB10 := Lib.hid (And.intro (HB8.out.1.below hb10 HB8.out.1.lt) (And.intro (HB8.out.2.1.below hb10 HB8.out.2.1.lt) (And.intro (keep_below hb10 HB8.out.2.2.1) (And.intro (HB8.out.2.2.2.below hb10 HB8.out.2.2.2.lt) hY10))))
    have hrt := refRight13_any A m c gs secs n p w10 (HG.out.below HB10.out.2.2.1 (Nat.le_refl _))
    rw [HRB.out] at hrt
    have HRT := Lib.hid hrt
    have HW10 := Lib.hid hw10
    clear g0' g1' hback r8 y1 y2 hxc hsl' hix hm1 hm2
    have g0 := HB10.out.1.at_ (i := 0) (v := .slice A m c) rfl
    have g1 := HB10.out.1.at_ (i := 1) (v := .int .i64 secs) rfl
    have u0 := (HB10.out.2.1).at_ (i := 0) (v := .int .i64 t) rfl
    have u1 := (HB10.out.2.1).at_ (i := 1) (v := .int .i64 n) rfl
    have u2 := (HB10.out.2.1).at_ (i := 2) (v := .int .i64 p.ag) rfl
    have u3 := (HB10.out.2.1).at_ (i := 3) (v := .int .i64 p.aa) rfl
    have u4 := (HB10.out.2.1).at_ (i := 4) (v := .int .i64 p.bg) rfl
    have u5 := (HB10.out.2.1).at_ (i := 5) (v := .int .i64 p.ba) rfl
    have u6 := (HB10.out.2.1).at_ (i := 6) (v := .bool p.two) rfl
    have u7 := (HB10.out.2.1).at_ (i := 7) (v := .int .i64 p.size) rfl
    have u8 := (HB10.out.2.1).at_ (i := 8) (v := .int .i64 p.level) rfl
    have u9 := (HB10.out.2.1).at_ (i := 9) (v := .int .i64 p.birth) rfl
    have ua := (HB10.out.2.1).at_ (i := 10) (v := .int .u64 p.s0) rfl
    have ub := (HB10.out.2.1).at_ (i := 11) (v := .int .u64 p.s1) rfl
    have uc := (HB10.out.2.1).at_ (i := 12) (v := .int .u64 p.s2) rfl
    have ud := (HB10.out.2.1).at_ (i := 13) (v := .int .u64 p.s3) rfl
    rw [← hw10] at g0 g1 u0 u1 u2 u3 u4 u5 u6 u7 u8 u9 ua ub uc ud
    clear hrt hw10 hY10 hb10 hb9
    go_wp2_with fail
    rw [HW10.out]
    refine HRT.out.mono ?_
    rintro e w11 ⟨rfl, hb11⟩
    have HB11 := Lib.hid (And.intro (HB10.out.2.1.below hb11 HB10.out.2.1.lt) (And.intro (HB10.out.2.2.2.1.below hb11 HB10.out.2.2.2.1.lt) (And.intro (HB10.out.2.2.2.2.below hb11 HB10.out.2.2.2.2.lt) (keep_below hb11 HB10.out.2.2.1))))
    clear g0 g1 u0 u1 u2 u3 u4 u5 u6 u7 u8 u9 ua ub uc ud hb11
    obtain ⟨u0, u1, u2, u3, u4, u5, u6, u7, u8, u9, ua, ub, uc, ud⟩ := ubF18 HB11.out.1
    obtain ⟨x0, x1, x2, x3, x4, x5, x6, x7, x8, x9, xa, xb, xc, xd⟩ := ubF18 HB11.out.2.1
    obtain ⟨y0, y1, y2, y3, y4, y5, y6, y7, y8, y9, ya, yb, yc, yd⟩ := ubF18 HB11.out.2.2.1
    have HFB := Lib.hid HB11.out.2.2.2
    have hnq : ∀ W, (binOp .neq 35 (.agg #[.int .i64 t, .int .i64 n, .int .i64 p.ag, .int .i64 p.aa, .int .i64 p.bg, .int .i64 p.ba, .bool p.two, .int .i64 p.size, .int .i64 p.level, .int .i64 p.birth, .int .u64 p.s0, .int .u64 p.s1, .int .u64 p.s2, .int .u64 p.s3]) (.agg #[.int .i64 t, .int .i64 n, .int .i64 p.ag, .int .i64 p.aa, .int .i64 p.bg, .int .i64 p.ba, .bool p.two, .int .i64 p.size, .int .i64 p.level, .int .i64 p.birth, .int .u64 p.s0, .int .u64 p.s1, .int .u64 p.s2, .int .u64 p.s3])).run Tryz.prog W = .ok (.bool false) W := fun W => (neq_uber18 t t n n p p W).trans (by simp [ptrEq])
    have hez : ∀ W, (binOp .eql 35 (.agg #[.int .i64 0, .int .i64 0, .int .i64 0, .int .i64 0, .int .i64 0, .int .i64 0, .bool false, .int .i64 0, .int .i64 0, .int .i64 0, .int .u64 0, .int .u64 0, .int .u64 0, .int .u64 0]) (.agg #[.int .i64 0, .int .i64 0, .int .i64 0, .int .i64 0, .int .i64 0, .int .i64 0, .bool false, .int .i64 0, .int .i64 0, .int .i64 0, .int .u64 0, .int .u64 0, .int .u64 0, .int .u64 0])).run Tryz.prog W = .ok (.bool true) W := fun W => (eql_uber18 0 0 0 0 ptrZ ptrZ W).trans (by rw [show ((0 : Int) == 0 && ((0 : Int) == 0 && ptrEq ptrZ ptrZ)) = true by decide +kernel])
    have hez2 : ∀ W, (binOp .eql 35 (.agg #[.int .i64 0, .int .i64 0, .int .i64 ptrZ.ag, .int .i64 ptrZ.aa, .int .i64 ptrZ.bg, .int .i64 ptrZ.ba, .bool ptrZ.two, .int .i64 ptrZ.size, .int .i64 ptrZ.level, .int .i64 ptrZ.birth, .int .u64 ptrZ.s0, .int .u64 ptrZ.s1, .int .u64 ptrZ.s2, .int .u64 ptrZ.s3]) (.agg #[.int .i64 0, .int .i64 0, .int .i64 0, .int .i64 0, .int .i64 0, .int .i64 0, .bool false, .int .i64 0, .int .i64 0, .int .i64 0, .int .u64 0, .int .u64 0, .int .u64 0, .int .u64 0])).run Tryz.prog W = .ok (.bool true) W := hez
    have hX := HX.out
    have hY := HY.out
    clear HX HY HB11 HB10 HB8 HRT
    by_cases hb0 : by_ = 0
    · have hbn : bN = 0 := by rw [← HBN.out, hb0]; rfl
      rw [if_pos hb0, hX] at hY
      clear hb0 HBN HSP
      subst hbn
      cases hY
      cases rb with
      | true =>
        rw [if_pos rfl] at hX
        cases hX
        go_wp2_with fail
        refine bodyPost_ret (v := .bool true) (by simp [results, Tryz.f3, go_sem]) rfl ⟨rfl, HFB.out⟩
      | false =>
        rw [if_neg Bool.false_ne_true] at hX
        cases hX
        go_wp2_with fail
        refine bodyPost_ret (v := .bool true) (by simp [results, Tryz.f3, go_sem]) rfl ⟨rfl, HFB.out⟩
    · have hbn : ((bN : Int) == 0) = false := by
        rw [beq_eq_false_iff_ne]
        intro e
        exact hb0 (UInt8.toNat_inj.1 (by rw [HBN.out]; show bN = 0; omega))
      have hb3 : ¬ bN = 0 := fun e => hb0 (UInt8.toNat_inj.1 (by rw [HBN.out]; exact e))
      have hb4 : ¬ (bN : Int) = 0 := by omega
      have hb5 : ((bN : Int) != 0) = true := by simp [hb3]
      rw [if_neg hb0] at hY
      clear hb0 HBN HSP
      cases hY
      cases rb with
      | true =>
        rw [if_pos rfl] at hX
        cases hX
        go_wp2_with fail
        refine bodyPost_ret (v := .bool true) (by simp [results, Tryz.f3, go_sem]) rfl ⟨rfl, HFB.out⟩
      | false =>
        rw [if_neg Bool.false_ne_true] at hX
        cases hX
        go_wp2_with fail
        refine bodyPost_ret (v := .bool true) (by simp [results, Tryz.f3, go_sem]) rfl ⟨rfl, HFB.out⟩
theorem uberBack_nat (A : Option Addr) (m c : Nat) (gs : List (Int × Int)) (secs t n : Int) (p : PtrD) (op : p.Ok) (at_ : Nat) (hat : at_ < 65536) (b : Nat) (hb : b < 256) {w : World} (hg : GeoAt w A m gs) :
    Calls Tryz.prog 3 #[.agg #[.slice A m c, .int .i64 secs], .agg #[.int .i64 t, .int .i64 n, .int .i64 p.ag, .int .i64 p.aa, .int .i64 p.bg, .int .i64 p.ba, .bool p.two, .int .i64 p.size, .int .i64 p.level, .int .i64 p.birth, .int .u64 p.s0, .int .u64 p.s1, .int .u64 p.s2, .int .u64 p.s3], .int .u16 at_, .int .u8 b] w fun e w' => e = .returned (.bool true) ∧ Below w.heap.size w w' := by
  have h := uberBack_any A m c gs secs t n p op at_ hat (UInt8.ofNat b) hg
  rw [UInt8.toNat_ofNat_of_lt' hb] at h
  exact h
end Go.Proofs.YtlpbbjjibnbooaaGreatDoor

namespace Go.Proofs.YtlpbbjjibnbooaaGreatDoor

def litOf : DataW Unit → Value
  | .lit (.int k n) => .int k n
  | _ => .int .i64 0
def partsOf : DataW Unit → List (DataW Unit)
  | .agg l => l
  | _ => []
def firstCells : Array Value := ((partsOf Rows.laid_unicode_utf8_first).map litOf).toArray
def rangeCells : Array Value := ((partsOf (Rows.laid_unicode_utf8_acceptRanges (H := Unit))).flatMap fun d => (partsOf d).map litOf).toArray
def layCells (cs : Array Value) : Obj → Obj
  | .cells _ t frozen => .cells cs t frozen
  | o => o
noncomputable def laidWorld (os : Os) : World :=
  { World.holding Tryz.prog os ⟨#[], #[], []⟩ with heap := Array.modify (Array.modify (World.holding Tryz.prog os ⟨#[], #[], []⟩).heap 1 (layCells firstCells)) 2 (layCells rangeCells) }
end Go.Proofs.YtlpbbjjibnbooaaGreatDoor
