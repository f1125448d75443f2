/-
  Layer 17: Right.
  A region that draws its order, of plain reads and a chain of operations that turn the world, without a forced tail. No program stands here.
-/
import Derived.Test.YtidmbibpoldgcaaGreatDoorJ19
import Derived.Test.YtidmbibpoldgcaaGreatDoorJ14
import Derived.Test.YtidmbibpoldgcaaGreatDoorJ04
namespace Go.Proofs.YtidmbibpoldgcaaGreatDoor
set_option linter.unusedVariables false
set_option linter.unusedSimpArgs false
open Go.RowKit

theorem row_ints {w : World} {g : Nat} {z : ScanA} (h : Blk w g 3 #[.int .i64 z.x0, .int .i64 z.x1, .int .i64 z.x2, .int .i64 z.x3, .int .i64 z.x4, .int .i64 z.x5, .int .i64 z.x6, .int .i64 z.x7, .int .i64 z.x8]) : RowAt w (.slice (some ⟨g, 0, none⟩) 9 9) (scanI z).length ((scanI z).flatMap intL1) :=
  ⟨some ⟨g, 0, none⟩, 9, rfl, fun _ => ⟨g, 0, rfl, h.lt, fun j u hu => by rw [Nat.zero_add]; exact h.at_ (by simpa [scanI, intL1] using hu)⟩⟩
theorem all_any {α : Type} (p : α → Bool) : ∀ l : List α, (l.any fun x => !p x) = !l.all p
  | [] => rfl
  | x :: l => by rw [List.any_cons, List.all_cons, all_any p l, Bool.not_and]
set_option maxRecDepth 20000 in
set_option maxHeartbeats 2000000 in
theorem mright_any (A : Option Addr) (m c : Nat) (gs : List (Int × Int)) (secs : Int) (s : StA) (sv tv : Value) {w : World} (hg : GeoAt w A m gs) (h : StIn w s sv tv) (f1 : s.snaps.length ≤ 100) (f2 : s.stale.length ≤ 100) (hcap : CapOk sv) :
    Calls Tryz.prog 7 #[.agg #[.slice A m c, .int .i64 secs], .agg (stC s sv tv)] w fun e w' => e = .returned (.bool (mRight gs secs s)) ∧ Below w.heap.size w w' := by
  obtain ⟨A1, c1, rfl⟩ := h.snaps.form
  obtain ⟨A2, c2, rfl⟩ := h.stale.form
  obtain ⟨cA, hcA⟩ : ∃ x, x = stC s (.slice A1 s.snaps.length c1) (.slice A2 s.stale.length c2) := ⟨_, rfl⟩
  rw [← hcA]
  obtain ⟨w2, hw2⟩ : ∃ x, (w.alloc (.cells #[.slice A m c, .int .i64 secs] 24)).alloc (.cells cA 48) = x := ⟨_, rfl⟩
  have G2 : Blk w2 w.heap.size 24 #[.slice A m c, .int .i64 secs] := by rw [← hw2]; exact (Blk.new _ _ _).alloc _
  have S2 : Blk w2 (w.heap.size + 1) 48 cA := by rw [← hw2]; exact Blk.new2 w _ _ _
  have d2 : Below w.heap.size w w2 := by rw [← hw2]; exact keep_alloc (keep_alloc (Below.refl _ _) _) _
  rw [hcA] at S2
  have HG2 := Lib.hid G2
  have HS2 := Lib.hid S2
  have HD2 := Lib.hid d2
  have HG := Lib.hid hg
  have H := Lib.hid h
  have HCAP := Lib.hid hcap
  have HW2 := Lib.hid hw2
  clear hcA G2 S2 d2 hg h hcap hw2
  go_enter Tryz.func7, Tryz.ntmps7
  repeat' (first
    | go_values
    | go_skip
    | go_guarded
    | ((fail_if_success (with_reducible refine drawn_mark ?_))
       first
         | go_step
         | go_upon
         | go_back
         | (simp only [Int.not_lt, Int.not_le] at *; go_simp)
         | (go_values <;> (try go_simp))
         | (go_ite <;> go_prune <;> (try go_simp))
         | (split <;> (first | (rename_i hx; exact (hx _ rfl).elim) | go_prune))))
  rw [HW2.out]
  obtain ⟨C, hC, hC0, hCB, hCK, hCd⟩ := cls_below w2
  have fg0 : ∀ W, C W → W.cell? ⟨w.heap.size, 0, none⟩ = some (.slice A m c) := fun W h => (HG2.out.below (hCB W h) HG2.out.lt).at_ rfl
  have fg1 : ∀ W, C W → W.cell? ⟨w.heap.size, 1, none⟩ = some (.int .i64 secs) := fun W h => (HG2.out.below (hCB W h) HG2.out.lt).at_ rfl
  have fs : ∀ W, C W → Blk W (w.heap.size + 1) 48 (stC s (.slice A1 s.snaps.length c1) (.slice A2 s.stale.length c2)) := fun W h => HS2.out.below (hCB W h) HS2.out.lt
  have f0 : ∀ W, C W → W.cell? ⟨w.heap.size + 1, 0, none⟩ = some (.int .i64 s.n) := fun W h => (fs W h).at_ rfl
  have f1 : ∀ W, C W → W.cell? ⟨w.heap.size + 1, 1, none⟩ = some (.int .i64 s.p.ag) := fun W h => (fs W h).at_ rfl
  have f2 : ∀ W, C W → W.cell? ⟨w.heap.size + 1, 2, none⟩ = some (.int .i64 s.p.aa) := fun W h => (fs W h).at_ rfl
  have f3 : ∀ W, C W → W.cell? ⟨w.heap.size + 1, 3, none⟩ = some (.int .i64 s.p.bg) := fun W h => (fs W h).at_ rfl
  have f4 : ∀ W, C W → W.cell? ⟨w.heap.size + 1, 4, none⟩ = some (.int .i64 s.p.ba) := fun W h => (fs W h).at_ rfl
  have f5 : ∀ W, C W → W.cell? ⟨w.heap.size + 1, 5, none⟩ = some (.bool s.p.two) := fun W h => (fs W h).at_ rfl
  have f6 : ∀ W, C W → W.cell? ⟨w.heap.size + 1, 6, none⟩ = some (.int .i64 s.p.size) := fun W h => (fs W h).at_ rfl
  have f7 : ∀ W, C W → W.cell? ⟨w.heap.size + 1, 7, none⟩ = some (.int .i64 s.p.level) := fun W h => (fs W h).at_ rfl
  have f8 : ∀ W, C W → W.cell? ⟨w.heap.size + 1, 8, none⟩ = some (.int .i64 s.p.birth) := fun W h => (fs W h).at_ rfl
  have f9 : ∀ W, C W → W.cell? ⟨w.heap.size + 1, 9, none⟩ = some (.int .u64 s.p.s0) := fun W h => (fs W h).at_ rfl
  have f10 : ∀ W, C W → W.cell? ⟨w.heap.size + 1, 10, none⟩ = some (.int .u64 s.p.s1) := fun W h => (fs W h).at_ rfl
  have f11 : ∀ W, C W → W.cell? ⟨w.heap.size + 1, 11, none⟩ = some (.int .u64 s.p.s2) := fun W h => (fs W h).at_ rfl
  have f12 : ∀ W, C W → W.cell? ⟨w.heap.size + 1, 12, none⟩ = some (.int .u64 s.p.s3) := fun W h => (fs W h).at_ rfl
  have f13 : ∀ W, C W → W.cell? ⟨w.heap.size + 1, 13, none⟩ = some (.slice A1 s.snaps.length c1) := fun W h => (fs W h).at_ rfl
  have f14 : ∀ W, C W → W.cell? ⟨w.heap.size + 1, 14, none⟩ = some (.int .i64 s.z.x0) := fun W h => (fs W h).at_ rfl
  have f23 : ∀ W, C W → W.cell? ⟨w.heap.size + 1, 23, none⟩ = some (.slice A2 s.stale.length c2) := fun W h => (fs W h).at_ rfl
  have hgW : ∀ W, C W → GeoAt W A m gs := fun W hW => HG.out.below (HD2.out.trans ((hCB W hW).mono HD2.out.size)) (Nat.le_refl _)
  have hbW : ∀ W, C W → Below w.heap.size w W := fun W hW => HD2.out.trans ((hCB W hW).mono HD2.out.size)
  have hl1 : s.snaps.length ≤ 100 := by assumption
  have hl2 : s.stale.length ≤ 100 := by assumption
  have HGR : Hid (∀ W, C W → Calls Tryz.prog 14 #[.agg #[.slice A m c, .int .i64 secs]] W fun e w' => e = .returned (.bool (gRight gs secs)) ∧ Below W.heap.size W w') := Lib.hid fun W hW => right_any A m c gs secs W (hgW W hW)
  have HNR : Hid (∀ W, C W → Calls Tryz.prog 15 #[.agg #[.slice A m c, .int .i64 secs], .agg #[.int .i64 s.n, .int .i64 s.p.ag, .int .i64 s.p.aa, .int .i64 s.p.bg, .int .i64 s.p.ba, .bool s.p.two, .int .i64 s.p.size, .int .i64 s.p.level, .int .i64 s.p.birth, .int .u64 s.p.s0, .int .u64 s.p.s1, .int .u64 s.p.s2, .int .u64 s.p.s3]] W fun e w' => e = .returned (.bool (nRightB gs secs s.n s.p)) ∧ Below W.heap.size W w') := Lib.hid fun W hW => nright_any A m c gs secs s.n s.p W (hgW W hW)
  have HSB : Hid (∀ W, C W → Calls Tryz.prog 16 #[.agg #[.slice A m c, .int .i64 secs], .slice A1 s.snaps.length c1] W fun e w' => e = .returned (.bool (snapsB gs secs s.snaps)) ∧ Below W.heap.size W w') := Lib.hid fun W hW => snaps_any A m c gs secs (hgW W hW) (H.out.snaps.below (hbW W hW)) hl1 HCAP.out
  have HDV : Hid (∀ W, C W → Calls Tryz.prog 17 #[.agg #[.slice A m c, .int .i64 secs]] W fun e w' => e = .returned (.int .i64 (gDevs gs secs)) ∧ Below W.heap.size W w') := Lib.hid fun W hW => devs_any A m c gs secs W (hgW W hW)
  have HM : Hid (mRight gs secs s = (gRight gs secs && (nRightB gs secs s.n s.p && (snapsB gs secs s.snaps && (decide (s.z.x0 ≤ 2) && (decide ((s.stale.length : Int) = gDevs gs secs) && ((scanI s.z).all inCnt && s.stale.all rgOk))))))) := Lib.hid rfl
  clear fs hgW hbW hC0 hCd HW2 HG HG2
  generalize gRight gs secs = gr at *
  generalize nRightB gs secs s.n s.p = nr at *
  generalize snapsB gs secs s.snaps = sb at *
  generalize gDevs gs secs = dv at *
  cases gr with
  | false =>
    have HV : Hid (mRight gs secs s = false) := Lib.hid HM.out
    clear HM
    refine wp_region_cls C (by kernel_rfl) (by kernel_rfl) hC ?_
    repeat (first
      | go_big_quiet_skip
      | (go_big_quiet_want
         go_big_quiet_op
         first
           | go_big_quiet_on
           | (apply Exists.intro
              refine ⟨fun W hW => ?_, ?_⟩
              · first
                  | exact rfl
                  | exact ⟨rfl, rfl⟩
                  | (have e0 := fg0 W hW; have e1 := fg1 W hW; have e2 := f0 W hW; have e3 := f1 W hW; have e4 := f2 W hW; have e5 := f3 W hW; have e6 := f4 W hW; have e7 := f5 W hW; have e8 := f6 W hW; have e9 := f7 W hW; have e10 := f8 W hW; have e11 := f9 W hW; have e12 := f10 W hW; have e13 := f11 W hW; have e14 := f12 W hW; have e15 := f13 W hW; have e16 := f14 W hW; have e17 := f23 W hW; simp only [e0, e1, e2, e3, e4, e5, e6, e7, e8, e9, e10, e11, e12, e13, e14, e15, e16, e17, Result.andThen_ok]; done)
                  | (have e0 := fg0 W hW; have e1 := fg1 W hW; have e2 := f0 W hW; have e3 := f1 W hW; have e4 := f2 W hW; have e5 := f3 W hW; have e6 := f4 W hW; have e7 := f5 W hW; have e8 := f6 W hW; have e9 := f7 W hW; have e10 := f8 W hW; have e11 := f9 W hW; have e12 := f10 W hW; have e13 := f11 W hW; have e14 := f12 W hW; have e15 := f13 W hW; have e16 := f14 W hW; have e17 := f23 W hW; simp only [e0, e1, e2, e3, e4, e5, e6, e7, e8, e9, e10, e11, e12, e13, e14, e15, e16, e17, Result.andThen_ok]; first | exact ⟨trivial, rfl⟩ | exact rfl | exact ⟨rfl, rfl⟩)
                  | ((go_at_call 14; with_reducible refine (HGR.out W hW).mono ?_; rintro e w' ⟨rfl, hb⟩; exact ⟨rfl, hCK _ _ hW hb⟩))
                  | ((go_at_call 15; with_reducible refine (HNR.out W hW).mono ?_; rintro e w' ⟨rfl, hb⟩; exact ⟨rfl, hCK _ _ hW hb⟩))
                  | ((go_at_call 16; with_reducible refine (HSB.out W hW).mono ?_; rintro e w' ⟨rfl, hb⟩; exact ⟨rfl, hCK _ _ hW hb⟩))
                  | ((go_at_call 17; with_reducible refine (HDV.out W hW).mono ?_; rintro e w' ⟨rfl, hb⟩; exact ⟨rfl, hCK _ _ hW hb⟩))
              go_big_quiet_on)))
    refine wpQuiet_nil ?_
    intro w3 hw3
    have HB3 := Lib.hid (HD2.out.trans ((hCB w3 hw3).mono HD2.out.size))
    have HS3 := Lib.hid (HS2.out.below (hCB w3 hw3) HS2.out.lt)
    clear hC hw3 hCB hCK fg0 fg1 f0 f1 f2 f3 f4 f5 f6 f7 f8 f9 f10 f11 f12 f13 f14 f23 HGR HNR HSB HDV
    go_wp2_with fail
    go_ret
    exact ⟨ret_bool HV.out.symm, HB3.out⟩
  | true =>
    rw [Bool.true_and] at HM
    cases nr with
    | false =>
      have HV : Hid (mRight gs secs s = false) := Lib.hid HM.out
      clear HM
      refine wp_region_cls C (by kernel_rfl) (by kernel_rfl) hC ?_
      repeat (first
        | go_big_quiet_skip
        | (go_big_quiet_want
           go_big_quiet_op
           first
             | go_big_quiet_on
             | (apply Exists.intro
                refine ⟨fun W hW => ?_, ?_⟩
                · first
                    | exact rfl
                    | exact ⟨rfl, rfl⟩
                    | (have e0 := fg0 W hW; have e1 := fg1 W hW; have e2 := f0 W hW; have e3 := f1 W hW; have e4 := f2 W hW; have e5 := f3 W hW; have e6 := f4 W hW; have e7 := f5 W hW; have e8 := f6 W hW; have e9 := f7 W hW; have e10 := f8 W hW; have e11 := f9 W hW; have e12 := f10 W hW; have e13 := f11 W hW; have e14 := f12 W hW; have e15 := f13 W hW; have e16 := f14 W hW; have e17 := f23 W hW; simp only [e0, e1, e2, e3, e4, e5, e6, e7, e8, e9, e10, e11, e12, e13, e14, e15, e16, e17, Result.andThen_ok]; done)
                    | (have e0 := fg0 W hW; have e1 := fg1 W hW; have e2 := f0 W hW; have e3 := f1 W hW; have e4 := f2 W hW; have e5 := f3 W hW; have e6 := f4 W hW; have e7 := f5 W hW; have e8 := f6 W hW; have e9 := f7 W hW; have e10 := f8 W hW; have e11 := f9 W hW; have e12 := f10 W hW; have e13 := f11 W hW; have e14 := f12 W hW; have e15 := f13 W hW; have e16 := f14 W hW; have e17 := f23 W hW; simp only [e0, e1, e2, e3, e4, e5, e6, e7, e8, e9, e10, e11, e12, e13, e14, e15, e16, e17, Result.andThen_ok]; first | exact ⟨trivial, rfl⟩ | exact rfl | exact ⟨rfl, rfl⟩)
                    | ((go_at_call 14; with_reducible refine (HGR.out W hW).mono ?_; rintro e w' ⟨rfl, hb⟩; exact ⟨rfl, hCK _ _ hW hb⟩))
                    | ((go_at_call 15; with_reducible refine (HNR.out W hW).mono ?_; rintro e w' ⟨rfl, hb⟩; exact ⟨rfl, hCK _ _ hW hb⟩))
                    | ((go_at_call 16; with_reducible refine (HSB.out W hW).mono ?_; rintro e w' ⟨rfl, hb⟩; exact ⟨rfl, hCK _ _ hW hb⟩))
                    | ((go_at_call 17; with_reducible refine (HDV.out W hW).mono ?_; rintro e w' ⟨rfl, hb⟩; exact ⟨rfl, hCK _ _ hW hb⟩))
                go_big_quiet_on)))
      refine wpQuiet_nil ?_
      intro w3 hw3
      have HB3 := Lib.hid (HD2.out.trans ((hCB w3 hw3).mono HD2.out.size))
      have HS3 := Lib.hid (HS2.out.below (hCB w3 hw3) HS2.out.lt)
      clear hC hw3 hCB hCK fg0 fg1 f0 f1 f2 f3 f4 f5 f6 f7 f8 f9 f10 f11 f12 f13 f14 f23 HGR HNR HSB HDV
      go_wp2_with fail
      go_ret
      exact ⟨ret_bool HV.out.symm, HB3.out⟩
    | true =>
      rw [Bool.true_and] at HM
      cases sb with
      | false =>
        have HV : Hid (mRight gs secs s = false) := Lib.hid HM.out
        clear HM
        refine wp_region_cls C (by kernel_rfl) (by kernel_rfl) hC ?_
        repeat (first
          | go_big_quiet_skip
          | (go_big_quiet_want
             go_big_quiet_op
             first
               | go_big_quiet_on
               | (apply Exists.intro
                  refine ⟨fun W hW => ?_, ?_⟩
                  · first
                      | exact rfl
                      | exact ⟨rfl, rfl⟩
                      | (have e0 := fg0 W hW; have e1 := fg1 W hW; have e2 := f0 W hW; have e3 := f1 W hW; have e4 := f2 W hW; have e5 := f3 W hW; have e6 := f4 W hW; have e7 := f5 W hW; have e8 := f6 W hW; have e9 := f7 W hW; have e10 := f8 W hW; have e11 := f9 W hW; have e12 := f10 W hW; have e13 := f11 W hW; have e14 := f12 W hW; have e15 := f13 W hW; have e16 := f14 W hW; have e17 := f23 W hW; simp only [e0, e1, e2, e3, e4, e5, e6, e7, e8, e9, e10, e11, e12, e13, e14, e15, e16, e17, Result.andThen_ok]; done)
                      | (have e0 := fg0 W hW; have e1 := fg1 W hW; have e2 := f0 W hW; have e3 := f1 W hW; have e4 := f2 W hW; have e5 := f3 W hW; have e6 := f4 W hW; have e7 := f5 W hW; have e8 := f6 W hW; have e9 := f7 W hW; have e10 := f8 W hW; have e11 := f9 W hW; have e12 := f10 W hW; have e13 := f11 W hW; have e14 := f12 W hW; have e15 := f13 W hW; have e16 := f14 W hW; have e17 := f23 W hW; simp only [e0, e1, e2, e3, e4, e5, e6, e7, e8, e9, e10, e11, e12, e13, e14, e15, e16, e17, Result.andThen_ok]; first | exact ⟨trivial, rfl⟩ | exact rfl | exact ⟨rfl, rfl⟩)
                      | ((go_at_call 14; with_reducible refine (HGR.out W hW).mono ?_; rintro e w' ⟨rfl, hb⟩; exact ⟨rfl, hCK _ _ hW hb⟩))
                      | ((go_at_call 15; with_reducible refine (HNR.out W hW).mono ?_; rintro e w' ⟨rfl, hb⟩; exact ⟨rfl, hCK _ _ hW hb⟩))
                      | ((go_at_call 16; with_reducible refine (HSB.out W hW).mono ?_; rintro e w' ⟨rfl, hb⟩; exact ⟨rfl, hCK _ _ hW hb⟩))
                      | ((go_at_call 17; with_reducible refine (HDV.out W hW).mono ?_; rintro e w' ⟨rfl, hb⟩; exact ⟨rfl, hCK _ _ hW hb⟩))
                  go_big_quiet_on)))
        refine wpQuiet_nil ?_
        intro w3 hw3
        have HB3 := Lib.hid (HD2.out.trans ((hCB w3 hw3).mono HD2.out.size))
        have HS3 := Lib.hid (HS2.out.below (hCB w3 hw3) HS2.out.lt)
        clear hC hw3 hCB hCK fg0 fg1 f0 f1 f2 f3 f4 f5 f6 f7 f8 f9 f10 f11 f12 f13 f14 f23 HGR HNR HSB HDV
        go_wp2_with fail
        go_ret
        exact ⟨ret_bool HV.out.symm, HB3.out⟩
      | true =>
        rw [Bool.true_and] at HM
        by_cases hx0 : s.z.x0 ≤ 2
        · have dx : decide (2 < s.z.x0) = false := decide_eq_false (by omega)
          rw [decide_eq_true hx0, Bool.true_and] at HM
          clear hx0
          by_cases hdv : (s.stale.length : Int) = dv
          · have dd : ((s.stale.length : Int) != dv) = false := by rw [hdv]; simp
            rw [decide_eq_true hdv, Bool.true_and] at HM
            clear hdv
            refine wp_region_cls C (by kernel_rfl) (by kernel_rfl) hC ?_
            repeat (first
              | go_big_quiet_skip
              | (go_big_quiet_want
                 go_big_quiet_op
                 first
                   | go_big_quiet_on
                   | (apply Exists.intro
                      refine ⟨fun W hW => ?_, ?_⟩
                      · first
                          | exact rfl
                          | exact ⟨rfl, rfl⟩
                          | (have e0 := fg0 W hW; have e1 := fg1 W hW; have e2 := f0 W hW; have e3 := f1 W hW; have e4 := f2 W hW; have e5 := f3 W hW; have e6 := f4 W hW; have e7 := f5 W hW; have e8 := f6 W hW; have e9 := f7 W hW; have e10 := f8 W hW; have e11 := f9 W hW; have e12 := f10 W hW; have e13 := f11 W hW; have e14 := f12 W hW; have e15 := f13 W hW; have e16 := f14 W hW; have e17 := f23 W hW; simp only [e0, e1, e2, e3, e4, e5, e6, e7, e8, e9, e10, e11, e12, e13, e14, e15, e16, e17, Result.andThen_ok]; done)
                          | (have e0 := fg0 W hW; have e1 := fg1 W hW; have e2 := f0 W hW; have e3 := f1 W hW; have e4 := f2 W hW; have e5 := f3 W hW; have e6 := f4 W hW; have e7 := f5 W hW; have e8 := f6 W hW; have e9 := f7 W hW; have e10 := f8 W hW; have e11 := f9 W hW; have e12 := f10 W hW; have e13 := f11 W hW; have e14 := f12 W hW; have e15 := f13 W hW; have e16 := f14 W hW; have e17 := f23 W hW; simp only [e0, e1, e2, e3, e4, e5, e6, e7, e8, e9, e10, e11, e12, e13, e14, e15, e16, e17, Result.andThen_ok]; first | exact ⟨trivial, rfl⟩ | exact rfl | exact ⟨rfl, rfl⟩)
                          | ((go_at_call 14; with_reducible refine (HGR.out W hW).mono ?_; rintro e w' ⟨rfl, hb⟩; exact ⟨rfl, hCK _ _ hW hb⟩))
                          | ((go_at_call 15; with_reducible refine (HNR.out W hW).mono ?_; rintro e w' ⟨rfl, hb⟩; exact ⟨rfl, hCK _ _ hW hb⟩))
                          | ((go_at_call 16; with_reducible refine (HSB.out W hW).mono ?_; rintro e w' ⟨rfl, hb⟩; exact ⟨rfl, hCK _ _ hW hb⟩))
                          | ((go_at_call 17; with_reducible refine (HDV.out W hW).mono ?_; rintro e w' ⟨rfl, hb⟩; exact ⟨rfl, hCK _ _ hW hb⟩))
                      go_big_quiet_on)))
            refine wpQuiet_nil ?_
            intro w3 hw3
            have HB3 := Lib.hid (HD2.out.trans ((hCB w3 hw3).mono HD2.out.size))
            have HS3 := Lib.hid (HS2.out.below (hCB w3 hw3) HS2.out.lt)
            clear hC hw3 hCB hCK fg0 fg1 f0 f1 f2 f3 f4 f5 f6 f7 f8 f9 f10 f11 f12 f13 f14 f23 HGR HNR HSB HDV
            have b3 : ∀ i v, (stC s (.slice A1 s.snaps.length c1) (.slice A2 s.stale.length c2))[i]? = some v → w3.cell? ⟨w.heap.size + 1, i, none⟩ = some v := fun i v hv => HS3.out.at_ hv
            have e14 : w3.cell? ⟨w.heap.size + 1, 14, none⟩ = some (.int .i64 s.z.x0) := b3 14 _ rfl
            have e15 : w3.cell? ⟨w.heap.size + 1, 15, none⟩ = some (.int .i64 s.z.x1) := b3 15 _ rfl
            have e16 : w3.cell? ⟨w.heap.size + 1, 16, none⟩ = some (.int .i64 s.z.x2) := b3 16 _ rfl
            have e17 : w3.cell? ⟨w.heap.size + 1, 17, none⟩ = some (.int .i64 s.z.x3) := b3 17 _ rfl
            have e18 : w3.cell? ⟨w.heap.size + 1, 18, none⟩ = some (.int .i64 s.z.x4) := b3 18 _ rfl
            have e19 : w3.cell? ⟨w.heap.size + 1, 19, none⟩ = some (.int .i64 s.z.x5) := b3 19 _ rfl
            have e20 : w3.cell? ⟨w.heap.size + 1, 20, none⟩ = some (.int .i64 s.z.x6) := b3 20 _ rfl
            have e21 : w3.cell? ⟨w.heap.size + 1, 21, none⟩ = some (.int .i64 s.z.x7) := b3 21 _ rfl
            have e22 : w3.cell? ⟨w.heap.size + 1, 22, none⟩ = some (.int .i64 s.z.x8) := b3 22 _ rfl
            clear b3 dx dd
            go_wp2_with fail
            refine (numbers2_any s.z w3).mono ?_
            rintro e w4 ⟨g, rfl, hN4, hg4, hb4⟩
            have HN4 := Lib.hid hN4
            have HS4 := Lib.hid (HS3.out.below hb4 HS3.out.lt)
            have HB4 := Lib.hid (keep_below hb4 HB3.out)
            clear hN4 hg4 hb4 e14 e15 e16 e17 e18 e19 e20 e21 e22
            go_wp2_with fail
            refine (conI_any 20 #[] (fun n => !inCnt n) (row_ints HN4.out) (show 9 ≤ 100 by decide) goesR1 (fun n W _ => right1m_any n W)).mono ?_
            rintro e w5 ⟨rfl, hb5⟩
            rw [all_any]
            have HS5 := Lib.hid (HS4.out.below hb5 HS4.out.lt)
            have HB5 := Lib.hid (keep_below hb5 HB4.out)
            have e23 : w5.cell? ⟨w.heap.size + 1, 23, none⟩ = some (.slice A2 s.stale.length c2) := HS5.out.at_ rfl
            clear hb5
            generalize (scanI s.z).all inCnt = za at *
            cases za with
            | false =>
              have HV : Hid (mRight gs secs s = false) := Lib.hid HM.out
              clear HM
              go_wp2_with fail
              go_ret
              exact ⟨ret_bool HV.out.symm, HB5.out⟩
            | true =>
              rw [Bool.true_and] at HM
              have hrow := H.out.stale.below HB5.out
              have HROW := Lib.hid hrow
              clear hrow
              go_wp2_with fail
              refine (conR_any 23 #[] (fun r => !rgOk r) HROW.out hl2 goesR2 (fun r W _ => right2m_any r W)).mono ?_
              rintro e w6 ⟨rfl, hb6⟩
              rw [all_any]
              have HB6 := Lib.hid (keep_below hb6 HB5.out)
              clear hb6 e23
              go_wp2_with fail
              go_ret
              exact ⟨ret_bool HM.out.symm, HB6.out⟩
          · have dd : ((s.stale.length : Int) != dv) = true := bne_iff_ne.2 hdv
            rw [decide_eq_false hdv] at HM
            have HV : Hid (mRight gs secs s = false) := Lib.hid HM.out
            clear HM hdv
            refine wp_region_cls C (by kernel_rfl) (by kernel_rfl) hC ?_
            repeat (first
              | go_big_quiet_skip
              | (go_big_quiet_want
                 go_big_quiet_op
                 first
                   | go_big_quiet_on
                   | (apply Exists.intro
                      refine ⟨fun W hW => ?_, ?_⟩
                      · first
                          | exact rfl
                          | exact ⟨rfl, rfl⟩
                          | (have e0 := fg0 W hW; have e1 := fg1 W hW; have e2 := f0 W hW; have e3 := f1 W hW; have e4 := f2 W hW; have e5 := f3 W hW; have e6 := f4 W hW; have e7 := f5 W hW; have e8 := f6 W hW; have e9 := f7 W hW; have e10 := f8 W hW; have e11 := f9 W hW; have e12 := f10 W hW; have e13 := f11 W hW; have e14 := f12 W hW; have e15 := f13 W hW; have e16 := f14 W hW; have e17 := f23 W hW; simp only [e0, e1, e2, e3, e4, e5, e6, e7, e8, e9, e10, e11, e12, e13, e14, e15, e16, e17, Result.andThen_ok]; done)
                          | (have e0 := fg0 W hW; have e1 := fg1 W hW; have e2 := f0 W hW; have e3 := f1 W hW; have e4 := f2 W hW; have e5 := f3 W hW; have e6 := f4 W hW; have e7 := f5 W hW; have e8 := f6 W hW; have e9 := f7 W hW; have e10 := f8 W hW; have e11 := f9 W hW; have e12 := f10 W hW; have e13 := f11 W hW; have e14 := f12 W hW; have e15 := f13 W hW; have e16 := f14 W hW; have e17 := f23 W hW; simp only [e0, e1, e2, e3, e4, e5, e6, e7, e8, e9, e10, e11, e12, e13, e14, e15, e16, e17, Result.andThen_ok]; first | exact ⟨trivial, rfl⟩ | exact rfl | exact ⟨rfl, rfl⟩)
                          | ((go_at_call 14; with_reducible refine (HGR.out W hW).mono ?_; rintro e w' ⟨rfl, hb⟩; exact ⟨rfl, hCK _ _ hW hb⟩))
                          | ((go_at_call 15; with_reducible refine (HNR.out W hW).mono ?_; rintro e w' ⟨rfl, hb⟩; exact ⟨rfl, hCK _ _ hW hb⟩))
                          | ((go_at_call 16; with_reducible refine (HSB.out W hW).mono ?_; rintro e w' ⟨rfl, hb⟩; exact ⟨rfl, hCK _ _ hW hb⟩))
                          | ((go_at_call 17; with_reducible refine (HDV.out W hW).mono ?_; rintro e w' ⟨rfl, hb⟩; exact ⟨rfl, hCK _ _ hW hb⟩))
                      go_big_quiet_on)))
            refine wpQuiet_nil ?_
            intro w3 hw3
            have HB3 := Lib.hid (HD2.out.trans ((hCB w3 hw3).mono HD2.out.size))
            have HS3 := Lib.hid (HS2.out.below (hCB w3 hw3) HS2.out.lt)
            clear hC hw3 hCB hCK fg0 fg1 f0 f1 f2 f3 f4 f5 f6 f7 f8 f9 f10 f11 f12 f13 f14 f23 HGR HNR HSB HDV
            go_wp2_with fail
            go_ret
            exact ⟨ret_bool HV.out.symm, HB3.out⟩
        · have dx : decide (2 < s.z.x0) = true := decide_eq_true (by omega)
          rw [decide_eq_false hx0] at HM
          have HV : Hid (mRight gs secs s = false) := Lib.hid HM.out
          clear HM hx0
          refine wp_region_cls C (by kernel_rfl) (by kernel_rfl) hC ?_
          repeat (first
            | go_big_quiet_skip
            | (go_big_quiet_want
               go_big_quiet_op
               first
                 | go_big_quiet_on
                 | (apply Exists.intro
                    refine ⟨fun W hW => ?_, ?_⟩
                    · first
                        | exact rfl
                        | exact ⟨rfl, rfl⟩
                        | (have e0 := fg0 W hW; have e1 := fg1 W hW; have e2 := f0 W hW; have e3 := f1 W hW; have e4 := f2 W hW; have e5 := f3 W hW; have e6 := f4 W hW; have e7 := f5 W hW; have e8 := f6 W hW; have e9 := f7 W hW; have e10 := f8 W hW; have e11 := f9 W hW; have e12 := f10 W hW; have e13 := f11 W hW; have e14 := f12 W hW; have e15 := f13 W hW; have e16 := f14 W hW; have e17 := f23 W hW; simp only [e0, e1, e2, e3, e4, e5, e6, e7, e8, e9, e10, e11, e12, e13, e14, e15, e16, e17, Result.andThen_ok]; done)
                        | (have e0 := fg0 W hW; have e1 := fg1 W hW; have e2 := f0 W hW; have e3 := f1 W hW; have e4 := f2 W hW; have e5 := f3 W hW; have e6 := f4 W hW; have e7 := f5 W hW; have e8 := f6 W hW; have e9 := f7 W hW; have e10 := f8 W hW; have e11 := f9 W hW; have e12 := f10 W hW; have e13 := f11 W hW; have e14 := f12 W hW; have e15 := f13 W hW; have e16 := f14 W hW; have e17 := f23 W hW; simp only [e0, e1, e2, e3, e4, e5, e6, e7, e8, e9, e10, e11, e12, e13, e14, e15, e16, e17, Result.andThen_ok]; first | exact ⟨trivial, rfl⟩ | exact rfl | exact ⟨rfl, rfl⟩)
                        | ((go_at_call 14; with_reducible refine (HGR.out W hW).mono ?_; rintro e w' ⟨rfl, hb⟩; exact ⟨rfl, hCK _ _ hW hb⟩))
                        | ((go_at_call 15; with_reducible refine (HNR.out W hW).mono ?_; rintro e w' ⟨rfl, hb⟩; exact ⟨rfl, hCK _ _ hW hb⟩))
                        | ((go_at_call 16; with_reducible refine (HSB.out W hW).mono ?_; rintro e w' ⟨rfl, hb⟩; exact ⟨rfl, hCK _ _ hW hb⟩))
                        | ((go_at_call 17; with_reducible refine (HDV.out W hW).mono ?_; rintro e w' ⟨rfl, hb⟩; exact ⟨rfl, hCK _ _ hW hb⟩))
                    go_big_quiet_on)))
          refine wpQuiet_nil ?_
          intro w3 hw3
          have HB3 := Lib.hid (HD2.out.trans ((hCB w3 hw3).mono HD2.out.size))
          have HS3 := Lib.hid (HS2.out.below (hCB w3 hw3) HS2.out.lt)
          clear hC hw3 hCB hCK fg0 fg1 f0 f1 f2 f3 f4 f5 f6 f7 f8 f9 f10 f11 f12 f13 f14 f23 HGR HNR HSB HDV
          go_wp2_with fail
          go_ret
          exact ⟨ret_bool HV.out.symm, HB3.out⟩
end Go.Proofs.YtidmbibpoldgcaaGreatDoor

namespace Go.Proofs.YtidmbibpoldgcaaGreatDoor
set_option linter.unusedVariables false
set_option linter.unusedSimpArgs false
open Go.RowKit
section
variable {P : Program} {ops : Array Oper} {md : Region.Mode} {S : World → Prop} {eff : Nat → Bool}
theorem no_ready {n j : Nat} {listed : Array Bool} (hsz : n = ops.size) (h : n ≤ j) : j ∉ Region.ready md ops listed := fun hj => by
  obtain ⟨_, o, ho, _⟩ := mem_ready.1 hj
  have := (Array.getElem?_eq_some_iff.1 ho).1
  omega
/-- A read may be taken first. -/
theorem wpAnyE_pureA {n i : Nat} {oi : Oper} {v : Value} {L : Array Bool → Act → World → Prop} (hi : ops[i]? = some oi) (hie : eff i = false) (hsel : ∀ (j : Nat) (o : Oper) cs b, ops[j]? = some o → o.op ≠ .select cs b)
    (hsz : n = ops.size) (hin : i < n)
    (hdone : ∀ listed a w, L listed a w → ∀ j ∈ Region.ready md ops listed, n ≤ j) :
    ∀ (f : Nat) (listed : Array Bool) (a : Act) (w : World), S w → HeadInv md ops n listed →
      (∀ j oj, ops[j]? = some oj → j ≠ i → listed.getD j true = false → (∀ e ∈ oj.after, Region.binds md e = true → e.on ≠ i) → oi.apart ops oj = true) →
      i ∈ Region.ready md ops listed → YieldsIn P ops S oi v a →
      wpAnyE P md ops S eff n L f (listed.setIfInBounds i true) (a.put oi.dst v) w → wpAnyE P md ops S eff n L (f + 1) listed a w := by
  have step : ∀ {K : Act → World → Prop} {a : Act} {w : World}, YieldsIn P ops S oi v a → K (a.put oi.dst v) w → efOp P ops S eff i K a w := by
    intro K a w hy h
    unfold efOp
    simp only [hi, hie]
    rcases hy with ⟨hw, hv⟩ | ⟨hw, rfl⟩
    · simp only [hw, if_true]; exact ⟨v, hv, h⟩
    · simp only [hw]; exact h
  intro f
  induction f with
  | zero =>
    intro listed a w _ inv _ hr hy H
    have hun := (mem_ready.1 hr).1
    refine ⟨fun h => (by rw [h] at hr; cases hr), fun j hj => ?_⟩
    have hjn : j < n := by
      rcases Nat.lt_or_ge j n with h | h
      · exact h
      · exact absurd hj (no_ready hsz h)
    refine ⟨hjn, ?_⟩
    by_cases hji : j = i
    · subst hji; exact step hy H
    · have := hdone _ _ _ H j (ready_mono hj hji)
      omega
  | succ f ih =>
    intro listed a w hw inv hfree hr hy H
    have hun := (mem_ready.1 hr).1
    refine ⟨fun h => (by rw [h] at hr; cases hr), fun j hj => ?_⟩
    have hjn : j < n := by
      rcases Nat.lt_or_ge j n with h | h
      · exact h
      · exact absurd hj (no_ready hsz h)
    refine ⟨hjn, ?_⟩
    by_cases hji : j = i
    · subst hji; exact step hy H
    · have h1 := (H.2 j (ready_mono hj hji)).2
      obtain ⟨hjun, oj, hoj, hall⟩ := mem_ready.1 hj
      have hnot : ∀ e ∈ oj.after, Region.binds md e = true → e.on ≠ i := fun e he hb heq => by
        have h1 := hall e he hb
        rw [heq, getD_both hun] at h1
        cases h1
      have hap := hfree j oj hoj hji hjun hnot
      obtain ⟨p1, p2, p3⟩ := Oper.apart_spec hap
      have hfree' : ∀ k ok, ops[k]? = some ok → k ≠ i → (listed.setIfInBounds j true).getD k true = false →
          (∀ e ∈ ok.after, Region.binds md e = true → e.on ≠ i) → oi.apart ops ok = true := fun k ok hk hki hun hno => by
        refine hfree k ok hk hki ?_ hno
        by_cases hjk : j = k
        · subst hjk; exact hjun
        · rw [getD_set_ne true hjk] at hun; exact hun
      have hsi := fun cs b => hsel i oi cs b hi
      have hsj := fun cs b => hsel j oj cs b hoj
      have go : ∀ (a' : Act) (w' : World), S w' → YieldsIn P ops S oi v a' → wpAnyE P md ops S eff n L f ((listed.setIfInBounds i true).setIfInBounds j true) (a'.put oi.dst v) w' →
          wpAnyE P md ops S eff n L (f + 1) (listed.setIfInBounds j true) a' w' := fun a' w' hw' hy' h' => by
        refine ih (listed.setIfInBounds j true) a' w' hw' (inv.set hj hjn) hfree' (ready_mono hr (Ne.symm hji)) hy' ?_
        rw [Array.setIfInBounds_comm _ _ hji]
        exact h'
      cases hej : eff j with
      | true =>
        unfold efOp at h1 ⊢
        simp only [hoj, hej, if_true] at h1 ⊢
        refine wpn_mono (fun a' w' hh => ?_) (wpn_put (execOp_put oj hsj a oi.dst v p1) p2 h1)
        obtain ⟨⟨ds, u, rfl⟩, hS, hK⟩ := hh
        refine ⟨hS, go _ _ hS ?_ hK⟩
        have hy2 : YieldsIn P ops S oi v ({ a with defers := ds } : Act) := hy.of_same rfl rfl
        exact hy2.of_same (execOp_put oi hsi _ oj.dst u p3) (wanted_put oi _ oj.dst u p3)
      | false =>
        have h2 : qOp P ops S j (fun a' => wpAnyE P md ops S eff n L f ((listed.setIfInBounds i true).setIfInBounds j true) a' w) (a.put oi.dst v) := by
          unfold efOp at h1
          unfold qOp
          simp only [hoj, hej] at h1 ⊢
          exact h1
        have h3 := qOp_put hoj hap hsi hsj hy h2
        unfold qOp at h3
        unfold efOp
        simp only [hoj, hej, Bool.false_eq_true, if_false] at h3 ⊢
        split
        · rename_i hwn
          simp only [hwn, if_true] at h3
          exact Oper.quiet_mono (fun a' h' => go a' w hw h'.1 h'.2) h3
        · rename_i hwn
          simp only [hwn] at h3
          exact go _ w hw h3.1 h3.2

/-- An operation that turns the world may be taken first. -/
theorem wpAnyE_effA {n i : Nat} {oi : Oper} {L : Array Bool → Act → World → Prop} (hi : ops[i]? = some oi) (hie : eff i = true) (hsel : ∀ (j : Nat) (o : Oper) cs b, ops[j]? = some o → o.op ≠ .select cs b)
    (hsz : n = ops.size) (hin : i < n) (hch : Chain md ops eff) (hne : ∀ i o, ops[i]? = some o → i < n → eff i = false → NoEnter P o)
    (hdone : ∀ listed a w, L listed a w → ∀ j ∈ Region.ready md ops listed, n ≤ j) :
    ∀ (f : Nat) (listed : Array Bool) (a : Act) (w : World), S w → HeadInv md ops n listed → EffInv ops eff i listed →
      (∀ j oj, ops[j]? = some oj → j ≠ i → listed.getD j true = false → (∀ e ∈ oj.after, Region.binds md e = true → e.on ≠ i) → oi.apart ops oj = true) →
      i ∈ Region.ready md ops listed →
      Oper.wpn P oi a w (fun a' w' => S w' ∧ wpAnyE P md ops S eff n L f (listed.setIfInBounds i true) a' w') → wpAnyE P md ops S eff n L (f + 1) listed a w := by
  have step : ∀ {K : Act → World → Prop} {a : Act} {w : World}, Oper.wpn P oi a w (fun a' w' => S w' ∧ K a' w') → efOp P ops S eff i K a w := by
    intro K a w h
    unfold efOp
    simp only [hi, hie, if_true]
    exact h
  intro f
  induction f with
  | zero =>
    intro listed a w _ inv _ _ hr H
    have hun := (mem_ready.1 hr).1
    refine ⟨fun h => (by rw [h] at hr; cases hr), fun j hj => ?_⟩
    have hjn : j < n := by
      rcases Nat.lt_or_ge j n with h | h
      · exact h
      · exact absurd hj (no_ready hsz h)
    refine ⟨hjn, ?_⟩
    by_cases hji : j = i
    · subst hji; exact step H
    · obtain ⟨a', w', _, h⟩ := wpn_some H
      have := hdone _ _ _ h j (ready_mono hj hji)
      omega
  | succ f ih =>
    intro listed a w hw inv einv hfree hr H
    have hun := (mem_ready.1 hr).1
    refine ⟨fun h => (by rw [h] at hr; cases hr), fun j hj => ?_⟩
    have hjn : j < n := by
      rcases Nat.lt_or_ge j n with h | h
      · exact h
      · exact absurd hj (no_ready hsz h)
    refine ⟨hjn, ?_⟩
    by_cases hji : j = i
    · subst hji; exact step H
    · have hej := eff_waits hch einv hie hj hji
      obtain ⟨hjun, oj, hoj, hall⟩ := mem_ready.1 hj
      have hnot : ∀ e ∈ oj.after, Region.binds md e = true → e.on ≠ i := fun e he hb heq => by
        have h1 := hall e he hb
        rw [heq, getD_both hun] at h1
        cases h1
      have hap := hfree j oj hoj hji hjun hnot
      obtain ⟨p1, p2, p3⟩ := Oper.apart_spec hap
      have hfree' : ∀ k ok, ops[k]? = some ok → k ≠ i → (listed.setIfInBounds j true).getD k true = false →
          (∀ e ∈ ok.after, Region.binds md e = true → e.on ≠ i) → oi.apart ops ok = true := fun k ok hk hki hun hno => by
        refine hfree k ok hk hki ?_ hno
        by_cases hjk : j = k
        · subst hjk; exact hjun
        · rw [getD_set_ne true hjk] at hun; exact hun
      have hsi := fun cs b => hsel i oi cs b hi
      have hsj := fun cs b => hsel j oj cs b hoj
      have p2' : ∀ e, oj.dst = some e → oi.dst ≠ some e := fun e h1 h2 => p2 e h2 h1
      -- what the read does in a frame of oi's making
      have look : ∀ (a' : Act) (w' : World), S w' → Shape oi a a' → wpAnyE P md ops S eff n L (f + 1) (listed.setIfInBounds i true) a' w' →
          (Region.wanted oj (yielded ops a.tmps) = true ∧ ∃ u, (∀ W, S W → oj.quietAt P a S W u) ∧ wpAnyE P md ops S eff n L f ((listed.setIfInBounds i true).setIfInBounds j true) (a'.put oj.dst u) w') ∨
          (Region.wanted oj (yielded ops a.tmps) = false ∧ wpAnyE P md ops S eff n L f ((listed.setIfInBounds i true).setIfInBounds j true) (a'.put oj.dst undef) w') := by
        intro a' w' hS hsh h
        obtain ⟨ds, v, rfl⟩ := hsh
        have h1 := (h.2 j (ready_mono hj hji)).2
        unfold efOp at h1
        simp only [hoj, hej] at h1
        have e1 : execOp ((({ a with defers := ds } : Act).put oi.dst v)).eval oj = execOp a.eval oj := execOp_put oj hsj ({ a with defers := ds } : Act) oi.dst v p1
        have e2 : Region.wanted oj (yielded ops ((({ a with defers := ds } : Act).put oi.dst v)).tmps) = Region.wanted oj (yielded ops a.tmps) := wanted_put oj ({ a with defers := ds } : Act) oi.dst v p1
        rw [e2] at h1
        cases hwn : Region.wanted oj (yielded ops a.tmps) with
        | true =>
          simp only [hwn, if_true] at h1
          obtain ⟨u, hu, hk⟩ := h1
          refine .inl ⟨rfl, u, fun W hW => ?_, hk⟩
          have := hu W hW
          unfold Oper.quietAt at this ⊢
          rw [← e1]; exact this
        | false => simp only [hwn] at h1; exact .inr ⟨rfl, h1⟩
      have uniq : ∀ {u u' : Value} {W : World}, S W → (∀ W, S W → oj.quietAt P a S W u) → (∀ W, S W → oj.quietAt P a S W u') → u = u' := by
        intro u u' W hW h1 h2
        have h1 := h1 W hW
        have h2 := h2 W hW
        unfold Oper.quietAt at h1 h2
        have hN := hne j oj hoj hjn hej a.eval W
        generalize (execOp a.eval oj).run P W = r at *
        cases r with
        | ok nx w' =>
          cases nx <;> simp only [Oper.quietUpon] at h1 h2
          case value x => exact h1.2.symm.trans h2.2
          case skip => exact h1.2.trans h2.2.symm
          case enter f args => exact absurd (hN _ _ rfl) (by simp [entersB])
        | halt x w' => simp only [Oper.quietUpon] at h1
      have H0 : Oper.wpn P oi a w (fun a' w' => Shape oi a a' ∧ S w' ∧ wpAnyE P md ops S eff n L (f + 1) (listed.setIfInBounds i true) a' w') := by
        have := wpn_put (P := P) (o := oi) (a := a) (d := none) (v := undef) rfl (fun e h => by cases h) H
        exact wpn_mono (fun a' w' h => h) this
      obtain ⟨a1, w1, hsh1, hS1, h1⟩ := wpn_some H0
      have next : ∀ u, (∀ (a' : Act) (w' : World), S w' → Shape oi a a' → wpAnyE P md ops S eff n L (f + 1) (listed.setIfInBounds i true) a' w' → wpAnyE P md ops S eff n L f ((listed.setIfInBounds i true).setIfInBounds j true) (a'.put oj.dst u) w') →
          wpAnyE P md ops S eff n L (f + 1) (listed.setIfInBounds j true) (a.put oj.dst u) w := by
        intro u hu
        refine ih (listed.setIfInBounds j true) (a.put oj.dst u) w hw (inv.set hj hjn) (einv.set hej) hfree' (ready_mono hr (Ne.symm hji)) ?_
        rw [Array.setIfInBounds_comm _ _ hji]
        refine wpn_mono (fun a'' w'' hh => ?_) (wpn_unput (execOp_put oi hsi a oj.dst u p3) p2' H0)
        obtain ⟨a', _, rfl, hsh, hS, h'⟩ := hh
        exact ⟨hS, hu a' w'' hS hsh h'⟩
      unfold efOp
      simp only [hoj, hej, Bool.false_eq_true, if_false]
      rcases look a1 w1 hS1 hsh1 h1 with ⟨hwn, u, hu, _⟩ | ⟨hwn, _⟩
      · simp only [hwn, if_true]
        refine ⟨u, hu, next u fun a' w' hS hsh h' => ?_⟩
        rcases look a' w' hS hsh h' with ⟨_, u', hu', h2⟩ | ⟨hwn', _⟩
        · rw [uniq hS hu hu']; exact h2
        · rw [hwn] at hwn'; cases hwn'
      · simp only [hwn]
        refine next undef fun a' w' hS hsh h' => ?_
        rcases look a' w' hS hsh h' with ⟨hwn', _⟩ | ⟨_, h2⟩
        · rw [hwn] at hwn'; cases hwn'
        · exact h2

theorem wpAnyE_lexA {n g : Nat} {Lq : Act → World → Prop} (hsel : Region.noSelect ops = true) (hsz : n = ops.size)
    (hg : ∀ i o, ops[i]? = some o → eff i = true → o.guard = none) (hne : ∀ i o, ops[i]? = some o → i < n → eff i = false → NoEnter P o) (hch : Chain md ops eff) :
    ∀ (l : List Oper) (k : Nat) (listed : Array Bool) (a : Act) (w : World), S w → (∀ j, j < l.length → l[j]? = ops[k + j]?) → k + l.length = n → HeadInv md ops n listed → EffInv ops eff k listed →
    Region.lexHead md ops g l.length k listed = true → wpLexE P ops S eff Lq l k a w →
    wpAnyE P md ops S eff n (fun listed' a' w' => Region.seqB md ops g n listed' = true ∧ Lq a' w') l.length listed a w
  | [], k, listed, a, w, _, _, hk, _, _, hB, h => by
    have : k = n := by simpa using hk
    subst this
    exact ⟨by simpa [Region.lexHead] using hB, h⟩
  | o :: l, k, listed, a, w, hw, hl, hk, inv, einv, hB, h => by
    have h0 : ops[k]? = some o := by simpa using (hl 0 (by simp)).symm
    simp only [List.length_cons, Region.lexHead, Bool.and_eq_true] at hB
    obtain ⟨⟨hr, hf⟩, hB'⟩ := hB
    have hkn : k < n := by simp only [List.length_cons] at hk; omega
    have hr' : k ∈ Region.ready md ops listed := by simpa using hr
    have hl' : ∀ j, j < l.length → l[j]? = ops[k + 1 + j]? := fun j hj => by have := hl (j + 1) (by simp; omega); simpa [Nat.add_assoc, Nat.add_comm 1 j] using this
    have hk' : k + 1 + l.length = n := by simp only [List.length_cons] at hk; omega
    have einv' : EffInv ops eff (k + 1) (listed.setIfInBounds k true) := by
      refine ⟨fun j hj he => ?_, fun j hj hs he => ?_⟩
      · by_cases e : j = k
        · subst e; exact getD_set_self
        · rw [getD_set_ne true (Ne.symm e)]; exact einv.lo j (by omega) he
      · rw [getD_set_ne true (by omega)]; exact einv.hi j (by omega) hs he
    cases hek : eff k with
    | true =>
      simp only [wpLexE, hek, if_true] at h
      refine wpAnyE_effA h0 hek (Region.noSelect_spec hsel) hsz hkn hch hne (fun listed' a' w' hL => seqB_ready hL.1) l.length listed a w hw inv einv (Region.free_spec h0 hf) hr' ?_
      exact wpn_mono (fun a' w' hh => ⟨hh.1, wpAnyE_lexA hsel hsz hg hne hch l (k + 1) _ a' w' hh.1 hl' hk' (inv.set hr' hkn) einv' hB' hh.2⟩) h
    | false =>
      simp only [wpLexE, hek, Bool.false_eq_true, if_false] at h
      have hst : qOp P ops S k (fun a' => wpLexE P ops S eff Lq l (k + 1) a' w) a := by unfold qOp; simp only [h0]; exact h
      obtain ⟨v, hy, hK⟩ := yieldsIn_of_qOp h0 hst
      exact wpAnyE_pureA h0 hek (Region.noSelect_spec hsel) hsz hkn (fun listed' a' w' hL => seqB_ready hL.1) l.length listed a w hw inv (Region.free_spec h0 hf) hr' hy
        (wpAnyE_lexA hsel hsz hg hne hch l (k + 1) _ _ w hw hl' hk' (inv.set hr' hkn) einv' hB' hK)


/-- A region of reads and of effects in one forced order: S: the worlds that the reads may see. -/
theorem wp_region_effA {id : Nat} {Q : Exit → Act → World → Prop} {a : Act} {w : World} {l : List Oper} (S : World → Prop) (cuts : List Nat) (hm : P.follows .mixedOrders = true)
    (hB : (Region.noSelect l.toArray && Region.lexHead .any l.toArray 0 l.length 0 (Array.replicate l.toArray.size false)) = true)
    (hE : effB .any l.toArray l.length (fun i => cuts.contains i) = true) (hS : S w.drew)
    (h : wpLexE P l.toArray S (fun i => cuts.contains i) (fun a' w' => Q .normal a' w') l 0 a w.drew) : (Code.region id l.toArray true).wp P Q a w := by
  obtain ⟨hg, hne, hch⟩ := effB_spec (P := P) hE
  simp only [Bool.and_eq_true] at hB
  obtain ⟨hsel, hlex⟩ := hB
  have inv0 : HeadInv .any l.toArray l.length (Array.replicate l.toArray.size false) :=
    ⟨by simp, fun j oj _ hl => (by rw [getD_replicate_false] at hl; cases hl), fun t h1 h2 => by simp at h2; omega⟩
  have einv0 : EffInv l.toArray (fun i => cuts.contains i) 0 (Array.replicate l.toArray.size false) := ⟨fun j hj => by omega, fun j _ hj _ => getD_in (by simpa using hj) (getD_replicate_false _ _)⟩
  have H := wpAnyE_lexA (md := .any) (g := 0) hsel (by simp) hg hne hch l 0 _ a w.drew hS (fun j hj => by simp) (by simp) inv0 einv0 hlex h
  refine wp_region_any hm ?_
  have := wpAny_of_eff (Q' := Q) (g := 0) hg hne (fun listed a' w' _ hL => by
    exact ⟨by simpa [Region.seqB] using hL.1, hL.2⟩) _ _ _ _ hS H
  simpa using this
end
end Go.Proofs.YtidmbibpoldgcaaGreatDoor
