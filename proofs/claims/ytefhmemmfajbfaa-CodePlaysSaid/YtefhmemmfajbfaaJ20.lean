/-
  Contracts of polderref06: First, May.
-/
import Derived.Test.YtefhmemmfajbfaaJ19
import Derived.Test.YtefhmemmfajbfaaJ05
namespace Go.Proofs.Ytefhmemmfajbfaa
set_option linter.unusedVariables false
set_option linter.unusedSimpArgs false
open Go.RowKit

set_option maxHeartbeats 2000000 in
theorem refFirst_any (A : Option Addr) (n c : Nat) (gs : List (Int × Int)) (secs : Int) (k : Nat) (w : World) (hg : GeoAt w A n gs) (hh : gHas gs secs k = true) :
    Calls Try.prog 12 #[.agg #[.slice A n c, .int .i64 secs], .int .i64 k] w fun e w' => e = .returned (.int .i64 (gFirst gs secs k)) ∧ Below w.heap.size w w' := by
  obtain ⟨k', x, hk', hk, hl4, hs1, hs2, hx, hgx, ho⟩ := gHas_true hh
  obtain rfl : k' = k := by omega
  have hr : gRight gs secs = true := by simp only [gHas, Bool.and_eq_true] at hh; exact hh.1.1
  have hF : Hid (gFirst gs secs k' = gSum (gs.take k')) := by unfold Hid gFirst; rw [hh]; rfl
  have HB := Lib.hid (sum_take_bd hr)
  obtain ⟨b, off, rfl, hgs⟩ := hg.2.2 (by have := hg.1; omega)
  have Hl := Lib.hid hg.1
  have hkn : (k' : Int) < n := by have := hg.1; omega
  have hn2 := hg.2.1
  clear hh hx hgx ho hr hk' hg
  have hb1 : Below w.heap.size w (w.alloc (Obj.cells #[Value.slice (some ⟨b, off, none⟩) n c, Value.int IntKind.i64 secs] 24)) := (Below.refl _ _).alloc (Nat.le_refl _) _
  go_enter Try.func12, Try.ntmps12
  go_wp2
  have k1 : (w.alloc (Obj.cells #[Value.slice (some ⟨b, off, none⟩) n c, Value.int IntKind.i64 secs] 24)).cell? ⟨w.heap.size, 0, none⟩ = some (.slice (some ⟨b, off, none⟩) n c) := cell_new rfl rfl
  have hs1 : w.heap.size < (w.alloc (Obj.cells #[Value.slice (some ⟨b, off, none⟩) n c, Value.int IntKind.i64 secs] 24)).heap.size := by simp
  generalize w.alloc (Obj.cells #[Value.slice (some ⟨b, off, none⟩) n c, Value.int IntKind.i64 secs] 24) = w1 at *
  go_loopw [5, 6] (fun s t wr => ∃ j : Nat, j ≤ k' ∧ t = .int .i64 j ∧ s = .int .i64 (gSum (gs.take j)) ∧ Below w1.heap.size w1 wr) (fun _ t _ => k' - (RowKit.intOf t).toNat)
  case atStart => exact ⟨0, Nat.zero_le _, rfl, rfl, Below.refl _ _⟩
  case round =>
    obtain ⟨j, hj, rfl, rfl, hb⟩ := hrel
    have k2 := keep_cell hb k1 hs1
    by_cases hlt : j < k'
    · obtain ⟨x, hx⟩ : ∃ x, gs[j]? = some x := ⟨_, List.getElem?_eq_getElem (by have := Hl.out; omega)⟩
      obtain ⟨hc1, hc2⟩ := (hgs.below (hb1.trans (hb.mono hb1.size)) (Nat.le_refl _)).2 j x hx
      have hs := Lib.hid (gSum_take hx)
      have hB1 := HB.out j
      have hB2 := HB.out (j + 1)
      rw [hs.out] at hB2
      have hj0 : (0 : Int) ≤ j := by omega
      have hj1 : (j : Int) < n := by omega
      clear hx
      go_wp2
      go_roundw
      case rel => exact ⟨j + 1, by omega, by go_num, by rw [hs.out], hb⟩
      case measure => simp [RowKit.intOf]; omega
    · obtain rfl : j = k' := by omega
      go_wp2
      go_ret
      exact ⟨ret_int hF.out.symm, hb1.trans (hb.mono hb1.size)⟩

set_option maxHeartbeats 4000000 in
theorem refMay_any (A : Option Addr) (n c : Nat) (gs : List (Int × Int)) (secs pg pa size : Int) (w : World) (hg : GeoAt w A n gs) :
    Calls Try.prog 18 #[.agg #[.slice A n c, .int .i64 secs], .agg #[.int .i64 pg, .int .i64 pa], .int .i64 size] w fun e w' => e = .returned (.bool (cMay gs secs pg pa size)) ∧ Below w.heap.size w w' := by
  have hb0 : Below w.heap.size w ((w.alloc (Obj.cells #[Value.slice A n c, Value.int IntKind.i64 secs] 24)).alloc (Obj.cells #[Value.int IntKind.i64 pg, Value.int IntKind.i64 pa] 26)) :=
    ((Below.refl _ _).alloc (Nat.le_refl _) _).alloc (by simp) _
  have HR := Lib.hid (refRight_any A n c gs secs _ (hg.below hb0 (Nat.le_refl _)))
  by_cases hr : gRight gs secs = true
  · obtain ⟨hl1, hl4, hs1, hs2, hone⟩ := gRight_parts hr
    rw [hr] at HR
    have Hl := hg.1
    by_cases hv : 1 ≤ size ∧ size ≤ 4 ∧ 0 ≤ pg ∧ pg < n ∧ 0 ≤ pa ∧ pa ≤ 100000
    · obtain ⟨v1, v2, v3, v4, v5, v6⟩ := hv
      obtain ⟨k, rfl⟩ := Int.eq_ofNat_of_zero_le v3
      obtain ⟨x, hx⟩ : ∃ x, gs[k]? = some x := ⟨_, List.getElem?_eq_getElem (by omega)⟩
      have ho := hone x (List.mem_of_getElem? hx)
      have hhas : gHas gs secs k = true := by unfold gHas; rw [hr]; simp; omega
      have hgx : grAt gs k = x := by unfold grAt; rw [Int.toNat_natCast, List.getD_eq_getElem?_getD, hx]; rfl
      have hT : gTakes gs secs k size = gTake1 x size := by unfold gTakes; rw [hhas, decide_eq_true v1, decide_eq_true v2, hgx]; rfl
      have hTb := gTakes_bd gs secs k size
      rw [hT] at hTb
      have hS : gSectors gs secs k = if x.1 == 1 then (secs - 16) * x.2 else secs - 16 := by unfold gSectors; rw [hhas, hgx]; rfl
      have HT := Lib.hid fun W => refTakes_any x size W ho v1 v2
      have hT0 : 0 < gTake1 x size := by
        unfold gTake1
        rcases gOne_true ho with ⟨e, g1, g2⟩ | ⟨e, g1, g2⟩
        · rw [e]; simp; omega
        · rw [e]
          have := par_rows v1 v2 g1 g2
          simp only [show ((1 : Int) == 0) = false from rfl, Bool.false_eq_true, if_false]
          omega
      have hC : Hid (cMay gs secs k pa size = decide (pa + gTake1 x size ≤ if x.1 == 1 then (secs - 16) * x.2 else secs - 16)) := by
        unfold Hid cMay; rw [hT, hS, decide_eq_true hT0, decide_eq_true v5, Bool.true_and, Bool.true_and]
        congr 1
        rw [eq_iff_iff]
        constructor <;> intro h <;> omega
      obtain ⟨b, off, rfl, hgs⟩ := hg.2.2 (by omega)
      have HX := Lib.hid hx
      have ho' := gOne_true ho
      obtain ⟨kd, wd⟩ := x
      obtain ⟨tb1, tb2⟩ := hTb
      clear hr hx ho hone hhas hgx hT hS hg hT0
      generalize gTake1 (kd, wd) size = T at *
      go_enter Try.func18, Try.ntmps18
      go_wp2_with fail
      refine HR.out.mono ?_
      rintro e w1 ⟨rfl, hb1⟩
      have hb2 := hb0.trans (hb1.mono (by simp; omega))
      have k1 : w1.cell? ⟨w.heap.size, 0, none⟩ = some (.slice (some ⟨b, off, none⟩) n c) := keep_cell hb1 (cell_alloc (cell_new rfl rfl) _) (by simp; omega)
      have k2 : w1.cell? ⟨w.heap.size, 1, none⟩ = some (.int .i64 secs) := keep_cell hb1 (cell_alloc (cell_new rfl rfl) _) (by simp; omega)
      have k3 : w1.cell? ⟨w.heap.size + 1, 0, none⟩ = some (.int .i64 k) := keep_cell hb1 (cell_new (by simp) rfl) (by simp)
      have k4 : w1.cell? ⟨w.heap.size + 1, 1, none⟩ = some (.int .i64 pa) := keep_cell hb1 (cell_new (by simp) rfl) (by simp)
      obtain ⟨z1, z2⟩ := (hgs.below hb2 (Nat.le_refl _)).2 k _ HX.out
      have hsz : w.heap.size + 2 ≤ w1.heap.size := by have := hb1.size; simp at this; omega
      have a2 := fun X => cell_alloc k2 X
      have a4 := fun X => cell_alloc k4 X
      have a1 := fun X => cell_alloc k1 X
      have hb3 := fun X => hb2.alloc hb2.size X
      have HB3 := Lib.hid hb3
      clear hb1 hb0 hgs hb3
      rcases ho' with ⟨e, g1, g2⟩ | ⟨e, g1, g2⟩
      · subst e
        go_wp2_with fail
        have g0 := cell_new (W := w1) (k := w1.heap.size) (o := 0) (cs := #[.int .i64 0, .int .i64 wd]) (t := 37) rfl rfl
        have g3 := cell_new (W := w1) (k := w1.heap.size) (o := 1) (cs := #[.int .i64 0, .int .i64 wd]) (t := 37) rfl rfl
        have g4 := a4 (.cells #[.int .i64 0, .int .i64 wd] 37)
        have hb3 := HB3.out (.cells #[.int .i64 0, .int .i64 wd] 37)
        have hz : w1.heap.size < (w1.alloc (.cells #[.int .i64 0, .int .i64 wd] 37)).heap.size := by simp
        clear k1 k2 k3 k4 a1 a2 a4 z1 z2
        generalize w1.alloc (.cells #[.int .i64 0, .int .i64 wd] 37) = w2 at *
        obtain ⟨C, hCd, _, hCB, hCK, hCD⟩ := cls_below w2
        have f1 : ∀ W, C W → W.cell? ⟨w.heap.size + 1, 1, none⟩ = some (.int .i64 pa) := fun W h => keep_cell (hCB W h) g4 (by omega)
        have f2 : ∀ W, C W → W.cell? ⟨w1.heap.size, 0, none⟩ = some (.int .i64 0) := fun W h => keep_cell (hCB W h) g0 hz
        have f3 : ∀ W, C W → W.cell? ⟨w1.heap.size, 1, none⟩ = some (.int .i64 wd) := fun W h => keep_cell (hCB W h) g3 hz
        have wT : IntKind.i64.wrap (pa + T) = pa + T := by rw [IntKind.wrap_i64] <;> omega
        clear g0 g3 g4
        refine wp_region_cls C (by kernel_rfl) (by kernel_rfl) hCd ?_
        repeat (first
          | go_big_quiet_skip
          | (go_big_quiet_want
             go_big_quiet_op
             first
               | go_big_quiet_on
               | (apply Exists.intro
                  refine ⟨fun W hW => ?_, ?_⟩
                  · first
                      | exact rfl
                      | exact ⟨rfl, rfl⟩
                      | (have e0 := f1 W hW; have e1 := f2 W hW; have e2 := f3 W hW; simp only [e0, e1, e2, Result.andThen_ok]; done)
                      | (have e0 := f1 W hW; have e1 := f2 W hW; have e2 := f3 W hW; simp only [e0, e1, e2, Result.andThen_ok]; first | exact ⟨trivial, rfl⟩ | exact rfl | exact ⟨rfl, rfl⟩)
                      | (refine (HT.out W).mono ?_; rintro e w' ⟨rfl, hb⟩; exact ⟨rfl, hCK _ _ hW hb⟩)
                  go_big_quiet_on)))
        refine wpQuiet_nil ?_
        intro w' hw'
        have hwB := hCB w' hw'
        go_wp2_with fail
        go_ret
        exact ⟨ret_bool hC.out.symm, hb3.trans (hwB.mono hb3.size)⟩
      · subst e
        have hm := mul_bd (a := secs - 16) (b := wd) (by omega) (by omega) (by omega) g2
        go_wp2_with fail
        have g0 := cell_new (W := w1) (k := w1.heap.size) (o := 0) (cs := #[.int .i64 1, .int .i64 wd]) (t := 37) rfl rfl
        have g3 := cell_new (W := w1) (k := w1.heap.size) (o := 1) (cs := #[.int .i64 1, .int .i64 wd]) (t := 37) rfl rfl
        have g4 := a4 (.cells #[.int .i64 1, .int .i64 wd] 37)
        have hb3 := HB3.out (.cells #[.int .i64 1, .int .i64 wd] 37)
        have hz : w1.heap.size < (w1.alloc (.cells #[.int .i64 1, .int .i64 wd] 37)).heap.size := by simp
        clear k1 k2 k3 k4 a1 a2 a4 z1 z2
        generalize w1.alloc (.cells #[.int .i64 1, .int .i64 wd] 37) = w2 at *
        obtain ⟨C, hCd, _, hCB, hCK, hCD⟩ := cls_below w2
        have f1 : ∀ W, C W → W.cell? ⟨w.heap.size + 1, 1, none⟩ = some (.int .i64 pa) := fun W h => keep_cell (hCB W h) g4 (by omega)
        have f2 : ∀ W, C W → W.cell? ⟨w1.heap.size, 0, none⟩ = some (.int .i64 1) := fun W h => keep_cell (hCB W h) g0 hz
        have f3 : ∀ W, C W → W.cell? ⟨w1.heap.size, 1, none⟩ = some (.int .i64 wd) := fun W h => keep_cell (hCB W h) g3 hz
        have wT : IntKind.i64.wrap (pa + T) = pa + T := by rw [IntKind.wrap_i64] <;> omega
        clear g0 g3 g4
        refine wp_region_cls C (by kernel_rfl) (by kernel_rfl) hCd ?_
        repeat (first
          | go_big_quiet_skip
          | (go_big_quiet_want
             go_big_quiet_op
             first
               | go_big_quiet_on
               | (apply Exists.intro
                  refine ⟨fun W hW => ?_, ?_⟩
                  · first
                      | exact rfl
                      | exact ⟨rfl, rfl⟩
                      | (have e0 := f1 W hW; have e1 := f2 W hW; have e2 := f3 W hW; simp only [e0, e1, e2, Result.andThen_ok]; done)
                      | (have e0 := f1 W hW; have e1 := f2 W hW; have e2 := f3 W hW; simp only [e0, e1, e2, Result.andThen_ok]; first | exact ⟨trivial, rfl⟩ | exact rfl | exact ⟨rfl, rfl⟩)
                      | (refine (HT.out W).mono ?_; rintro e w' ⟨rfl, hb⟩; exact ⟨rfl, hCK _ _ hW hb⟩)
                  go_big_quiet_on)))
        refine wpQuiet_nil ?_
        intro w' hw'
        have hwB := hCB w' hw'
        go_wp2_with fail
        go_ret
        exact ⟨ret_bool hC.out.symm, hb3.trans (hwB.mono hb3.size)⟩
    · have hC : Hid (cMay gs secs pg pa size = false) := by
        unfold Hid
        rw [Bool.eq_false_iff]
        intro h
        have h' := cMay_true h
        have hS := gSectors_bd gs secs pg
        have hT := gTakes_bd gs secs pg size
        obtain ⟨q1, q2, q3, q4, q5, q6⟩ := h'
        obtain ⟨k', x, e, hk, _⟩ := gHas_true q1
        exact hv ⟨q2, q3, by omega, by omega, q4, by omega⟩
      clear hr hone hg
      go_enter Try.func18, Try.ntmps18
      go_wp2_with fail
      refine HR.out.mono ?_
      rintro e w1 ⟨rfl, hb1⟩
      have hb2 := hb0.trans (hb1.mono (by simp; omega))
      have k1 : w1.cell? ⟨w.heap.size, 0, none⟩ = some (.slice A n c) := keep_cell hb1 (cell_alloc (cell_new rfl rfl) _) (by simp; omega)
      have k2 : w1.cell? ⟨w.heap.size, 1, none⟩ = some (.int .i64 secs) := keep_cell hb1 (cell_alloc (cell_new rfl rfl) _) (by simp; omega)
      have k3 : w1.cell? ⟨w.heap.size + 1, 0, none⟩ = some (.int .i64 pg) := keep_cell hb1 (cell_new (by simp) rfl) (by simp)
      have k4 : w1.cell? ⟨w.heap.size + 1, 1, none⟩ = some (.int .i64 pa) := keep_cell hb1 (cell_new (by simp) rfl) (by simp)
      clear hb1 hb0
      go_wp2_with fail
      all_goals first | (exfalso; omega) | go_ret
      all_goals exact ⟨ret_bool hC.out.symm, hb2⟩
  · have hr' : gRight gs secs = false := by simpa using hr
    have hC : Hid (cMay gs secs pg pa size = false) := by
      unfold Hid
      rw [Bool.eq_false_iff]
      intro h
      have := (cMay_true h).1
      unfold gHas at this
      rw [hr'] at this
      simp at this
    rw [hr'] at HR
    clear hr hr' hg
    go_enter Try.func18, Try.ntmps18
    go_wp2_with fail
    refine HR.out.mono ?_
    rintro e w1 ⟨rfl, hb1⟩
    go_wp2_with fail
    go_ret
    exact ⟨ret_bool hC.out.symm, hb0.trans (hb1.mono (by simp; omega))⟩
end Go.Proofs.Ytefhmemmfajbfaa
