/-
  Contracts of polderref06: First, May.
  polderref06.Of: the columns of a block, as the reference counts them.
-/
import Derived.Test.YtppccdbfnhgdbaaJ19
import Derived.Test.YtppccdbfnhgdbaaJ07
import Derived.Test.YtppccdbfnhgdbaaJ14
import Derived.Deep.RegionHeldLaw
namespace Go.Proofs.Ytppccdbfnhgdbaa
set_option linter.unusedVariables false
set_option linter.unusedSimpArgs false
open Go.RowKit

set_option maxHeartbeats 2000000 in
theorem refFirst_any (A : Option Addr) (n c : Nat) (gs : List (Int × Int)) (secs : Int) (k : Nat) (w : World) (hg : GeoAt w A n gs) (hh : gHas gs secs k = true) :
    Calls Try.prog 32 #[.agg #[.slice A n c, .int .i64 secs], .int .i64 k] w fun e w' => e = .returned (.int .i64 (gFirst gs secs k)) ∧ Below w.heap.size w w' := by
  obtain ⟨k', x, hk', hk, hl4, hs1, hs2, hx, hgx, ho⟩ := gHas_true hh
  obtain rfl : k' = k := by omega
  have hr : gRight gs secs = true := by simp only [gHas, Bool.and_eq_true] at hh; exact hh.1.1
  have hF : Hid (gFirst gs secs k' = gSum (gs.take k')) := by unfold Hid gFirst; rw [hh]; rfl
  have HB := Lib.hid (sum_take_bd hr)
  obtain ⟨b, off, rfl, hgs⟩ := hg.2.2 (by have := hg.1; omega)
  have Hl := Lib.hid hg.1
  have hkn : (k' : Int) < n := by have := hg.1; omega
  have hn2 := hg.2.1
  clear hh hx hgx ho hr hk' hg
  have hb1 : Below w.heap.size w (w.alloc (Obj.cells #[Value.slice (some ⟨b, off, none⟩) n c, Value.int IntKind.i64 secs] 24)) := (Below.refl _ _).alloc (Nat.le_refl _) _
  go_enter Try.func32, Try.ntmps32
  go_wp2
  have k1 : (w.alloc (Obj.cells #[Value.slice (some ⟨b, off, none⟩) n c, Value.int IntKind.i64 secs] 24)).cell? ⟨w.heap.size, 0, none⟩ = some (.slice (some ⟨b, off, none⟩) n c) := cell_new rfl rfl
  have hs1 : w.heap.size < (w.alloc (Obj.cells #[Value.slice (some ⟨b, off, none⟩) n c, Value.int IntKind.i64 secs] 24)).heap.size := by simp
  generalize w.alloc (Obj.cells #[Value.slice (some ⟨b, off, none⟩) n c, Value.int IntKind.i64 secs] 24) = w1 at *
  go_loopw [5, 6] (fun s t wr => ∃ j : Nat, j ≤ k' ∧ t = .int .i64 j ∧ s = .int .i64 (gSum (gs.take j)) ∧ Below w1.heap.size w1 wr) (fun _ t _ => k' - (RowKit.intOf t).toNat)
  case atStart => exact ⟨0, Nat.zero_le _, rfl, rfl, Below.refl _ _⟩
  case round =>
    obtain ⟨j, hj, rfl, rfl, hb⟩ := hrel
    have k2 := keep_cell hb k1 hs1
    by_cases hlt : j < k'
    · obtain ⟨x, hx⟩ : ∃ x, gs[j]? = some x := ⟨_, List.getElem?_eq_getElem (by have := Hl.out; omega)⟩
      obtain ⟨hc1, hc2⟩ := (hgs.below (hb1.trans (hb.mono hb1.size)) (Nat.le_refl _)).2 j x hx
      have hs := Lib.hid (gSum_take hx)
      have hB1 := HB.out j
      have hB2 := HB.out (j + 1)
      rw [hs.out] at hB2
      have hj0 : (0 : Int) ≤ j := by omega
      have hj1 : (j : Int) < n := by omega
      clear hx
      go_wp2
      go_roundw
      case rel => exact ⟨j + 1, by omega, by go_num, by rw [hs.out], hb⟩
      case measure => simp [RowKit.intOf]; omega
    · obtain rfl : j = k' := by omega
      go_wp2
      go_ret
      exact ⟨ret_int hF.out.symm, hb1.trans (hb.mono hb1.size)⟩

set_option maxHeartbeats 4000000 in
theorem refMay_any (A : Option Addr) (n c : Nat) (gs : List (Int × Int)) (secs pg pa size : Int) (w : World) (hg : GeoAt w A n gs) :
    Calls Try.prog 17 #[.agg #[.slice A n c, .int .i64 secs], .agg #[.int .i64 pg, .int .i64 pa], .int .i64 size] w fun e w' => e = .returned (.bool (cMay gs secs pg pa size)) ∧ Below w.heap.size w w' := by
  have hb0 : Below w.heap.size w ((w.alloc (Obj.cells #[Value.slice A n c, Value.int IntKind.i64 secs] 24)).alloc (Obj.cells #[Value.int IntKind.i64 pg, Value.int IntKind.i64 pa] 26)) :=
    ((Below.refl _ _).alloc (Nat.le_refl _) _).alloc (by simp) _
  have HR := Lib.hid (refRight_any A n c gs secs _ (hg.below hb0 (Nat.le_refl _)))
  by_cases hr : gRight gs secs = true
  · obtain ⟨hl1, hl4, hs1, hs2, hone⟩ := gRight_parts hr
    rw [hr] at HR
    have Hl := hg.1
    by_cases hv : 1 ≤ size ∧ size ≤ 4 ∧ 0 ≤ pg ∧ pg < n ∧ 0 ≤ pa ∧ pa ≤ 100000
    · obtain ⟨v1, v2, v3, v4, v5, v6⟩ := hv
      obtain ⟨k, rfl⟩ := Int.eq_ofNat_of_zero_le v3
      obtain ⟨x, hx⟩ : ∃ x, gs[k]? = some x := ⟨_, List.getElem?_eq_getElem (by omega)⟩
      have ho := hone x (List.mem_of_getElem? hx)
      have hhas : gHas gs secs k = true := by unfold gHas; rw [hr]; simp; omega
      have hgx : grAt gs k = x := by unfold grAt; rw [Int.toNat_natCast, List.getD_eq_getElem?_getD, hx]; rfl
      have hT : gTakes gs secs k size = gTake1 x size := by unfold gTakes; rw [hhas, decide_eq_true v1, decide_eq_true v2, hgx]; rfl
      have hTb := gTakes_bd gs secs k size
      rw [hT] at hTb
      have hS : gSectors gs secs k = if x.1 == 1 then (secs - 16) * x.2 else secs - 16 := by unfold gSectors; rw [hhas, hgx]; rfl
      have HT := Lib.hid fun W => refTakes_any x size W ho v1 v2
      have hT0 : 0 < gTake1 x size := by
        unfold gTake1
        rcases gOne_true ho with ⟨e, g1, g2⟩ | ⟨e, g1, g2⟩
        · rw [e]; simp; omega
        · rw [e]
          have := par_rows v1 v2 g1 g2
          simp only [show ((1 : Int) == 0) = false from rfl, Bool.false_eq_true, if_false]
          omega
      have hC : Hid (cMay gs secs k pa size = decide (pa + gTake1 x size ≤ if x.1 == 1 then (secs - 16) * x.2 else secs - 16)) := by
        unfold Hid cMay; rw [hT, hS, decide_eq_true hT0, decide_eq_true v5, Bool.true_and, Bool.true_and]
        congr 1
        rw [eq_iff_iff]
        constructor <;> intro h <;> omega
      obtain ⟨b, off, rfl, hgs⟩ := hg.2.2 (by omega)
      have HX := Lib.hid hx
      have ho' := gOne_true ho
      obtain ⟨kd, wd⟩ := x
      obtain ⟨tb1, tb2⟩ := hTb
      clear hr hx ho hone hhas hgx hT hS hg hT0
      generalize gTake1 (kd, wd) size = T at *
      go_enter Try.func17, Try.ntmps17
      go_wp2_with fail
      refine HR.out.mono ?_
      rintro e w1 ⟨rfl, hb1⟩
      have hb2 := hb0.trans (hb1.mono (by simp; omega))
      have k1 : w1.cell? ⟨w.heap.size, 0, none⟩ = some (.slice (some ⟨b, off, none⟩) n c) := keep_cell hb1 (cell_alloc (cell_new rfl rfl) _) (by simp; omega)
      have k2 : w1.cell? ⟨w.heap.size, 1, none⟩ = some (.int .i64 secs) := keep_cell hb1 (cell_alloc (cell_new rfl rfl) _) (by simp; omega)
      have k3 : w1.cell? ⟨w.heap.size + 1, 0, none⟩ = some (.int .i64 k) := keep_cell hb1 (cell_new (by simp) rfl) (by simp)
      have k4 : w1.cell? ⟨w.heap.size + 1, 1, none⟩ = some (.int .i64 pa) := keep_cell hb1 (cell_new (by simp) rfl) (by simp)
      obtain ⟨z1, z2⟩ := (hgs.below hb2 (Nat.le_refl _)).2 k _ HX.out
      have hsz : w.heap.size + 2 ≤ w1.heap.size := by have := hb1.size; simp at this; omega
      have a2 := fun X => cell_alloc k2 X
      have a4 := fun X => cell_alloc k4 X
      have a1 := fun X => cell_alloc k1 X
      have hb3 := fun X => hb2.alloc hb2.size X
      have HB3 := Lib.hid hb3
      clear hb1 hb0 hgs hb3
      rcases ho' with ⟨e, g1, g2⟩ | ⟨e, g1, g2⟩
      · subst e
        go_wp2_with fail
        have g0 := cell_new (W := w1) (k := w1.heap.size) (o := 0) (cs := #[.int .i64 0, .int .i64 wd]) (t := 55) rfl rfl
        have g3 := cell_new (W := w1) (k := w1.heap.size) (o := 1) (cs := #[.int .i64 0, .int .i64 wd]) (t := 55) rfl rfl
        have g4 := a4 (.cells #[.int .i64 0, .int .i64 wd] 55)
        have hb3 := HB3.out (.cells #[.int .i64 0, .int .i64 wd] 55)
        have hz : w1.heap.size < (w1.alloc (.cells #[.int .i64 0, .int .i64 wd] 55)).heap.size := by simp
        clear k1 k2 k3 k4 a1 a2 a4 z1 z2
        generalize w1.alloc (.cells #[.int .i64 0, .int .i64 wd] 55) = w2 at *
        obtain ⟨C, hCd, _, hCB, hCK, hCD⟩ := cls_below w2
        have f1 : ∀ W, C W → W.cell? ⟨w.heap.size + 1, 1, none⟩ = some (.int .i64 pa) := fun W h => keep_cell (hCB W h) g4 (by omega)
        have f2 : ∀ W, C W → W.cell? ⟨w1.heap.size, 0, none⟩ = some (.int .i64 0) := fun W h => keep_cell (hCB W h) g0 hz
        have f3 : ∀ W, C W → W.cell? ⟨w1.heap.size, 1, none⟩ = some (.int .i64 wd) := fun W h => keep_cell (hCB W h) g3 hz
        have wT : IntKind.i64.wrap (pa + T) = pa + T := by rw [IntKind.wrap_i64] <;> omega
        clear g0 g3 g4
        refine wp_region_cls C (by kernel_rfl) (by kernel_rfl) hCd ?_
        repeat (first
          | go_big_quiet_skip
          | (go_big_quiet_want
             go_big_quiet_op
             first
               | go_big_quiet_on
               | (apply Exists.intro
                  refine ⟨fun W hW => ?_, ?_⟩
                  · first
                      | exact rfl
                      | exact ⟨rfl, rfl⟩
                      | (have e0 := f1 W hW; have e1 := f2 W hW; have e2 := f3 W hW; simp only [e0, e1, e2, Result.andThen_ok]; done)
                      | (have e0 := f1 W hW; have e1 := f2 W hW; have e2 := f3 W hW; simp only [e0, e1, e2, Result.andThen_ok]; first | exact ⟨trivial, rfl⟩ | exact rfl | exact ⟨rfl, rfl⟩)
                      | (refine (HT.out W).mono ?_; rintro e w' ⟨rfl, hb⟩; exact ⟨rfl, hCK _ _ hW hb⟩)
                  go_big_quiet_on)))
        refine wpQuiet_nil ?_
        intro w' hw'
        have hwB := hCB w' hw'
        go_wp2_with fail
        go_ret
        exact ⟨ret_bool hC.out.symm, hb3.trans (hwB.mono hb3.size)⟩
      · subst e
        have hm := mul_bd (a := secs - 16) (b := wd) (by omega) (by omega) (by omega) g2
        go_wp2_with fail
        have g0 := cell_new (W := w1) (k := w1.heap.size) (o := 0) (cs := #[.int .i64 1, .int .i64 wd]) (t := 55) rfl rfl
        have g3 := cell_new (W := w1) (k := w1.heap.size) (o := 1) (cs := #[.int .i64 1, .int .i64 wd]) (t := 55) rfl rfl
        have g4 := a4 (.cells #[.int .i64 1, .int .i64 wd] 55)
        have hb3 := HB3.out (.cells #[.int .i64 1, .int .i64 wd] 55)
        have hz : w1.heap.size < (w1.alloc (.cells #[.int .i64 1, .int .i64 wd] 55)).heap.size := by simp
        clear k1 k2 k3 k4 a1 a2 a4 z1 z2
        generalize w1.alloc (.cells #[.int .i64 1, .int .i64 wd] 55) = w2 at *
        obtain ⟨C, hCd, _, hCB, hCK, hCD⟩ := cls_below w2
        have f1 : ∀ W, C W → W.cell? ⟨w.heap.size + 1, 1, none⟩ = some (.int .i64 pa) := fun W h => keep_cell (hCB W h) g4 (by omega)
        have f2 : ∀ W, C W → W.cell? ⟨w1.heap.size, 0, none⟩ = some (.int .i64 1) := fun W h => keep_cell (hCB W h) g0 hz
        have f3 : ∀ W, C W → W.cell? ⟨w1.heap.size, 1, none⟩ = some (.int .i64 wd) := fun W h => keep_cell (hCB W h) g3 hz
        have wT : IntKind.i64.wrap (pa + T) = pa + T := by rw [IntKind.wrap_i64] <;> omega
        clear g0 g3 g4
        refine wp_region_cls C (by kernel_rfl) (by kernel_rfl) hCd ?_
        repeat (first
          | go_big_quiet_skip
          | (go_big_quiet_want
             go_big_quiet_op
             first
               | go_big_quiet_on
               | (apply Exists.intro
                  refine ⟨fun W hW => ?_, ?_⟩
                  · first
                      | exact rfl
                      | exact ⟨rfl, rfl⟩
                      | (have e0 := f1 W hW; have e1 := f2 W hW; have e2 := f3 W hW; simp only [e0, e1, e2, Result.andThen_ok]; done)
                      | (have e0 := f1 W hW; have e1 := f2 W hW; have e2 := f3 W hW; simp only [e0, e1, e2, Result.andThen_ok]; first | exact ⟨trivial, rfl⟩ | exact rfl | exact ⟨rfl, rfl⟩)
                      | (refine (HT.out W).mono ?_; rintro e w' ⟨rfl, hb⟩; exact ⟨rfl, hCK _ _ hW hb⟩)
                  go_big_quiet_on)))
        refine wpQuiet_nil ?_
        intro w' hw'
        have hwB := hCB w' hw'
        go_wp2_with fail
        go_ret
        exact ⟨ret_bool hC.out.symm, hb3.trans (hwB.mono hb3.size)⟩
    · have hC : Hid (cMay gs secs pg pa size = false) := by
        unfold Hid
        rw [Bool.eq_false_iff]
        intro h
        have h' := cMay_true h
        have hS := gSectors_bd gs secs pg
        have hT := gTakes_bd gs secs pg size
        obtain ⟨q1, q2, q3, q4, q5, q6⟩ := h'
        obtain ⟨k', x, e, hk, _⟩ := gHas_true q1
        exact hv ⟨q2, q3, by omega, by omega, q4, by omega⟩
      clear hr hone hg
      go_enter Try.func17, Try.ntmps17
      go_wp2_with fail
      refine HR.out.mono ?_
      rintro e w1 ⟨rfl, hb1⟩
      have hb2 := hb0.trans (hb1.mono (by simp; omega))
      have k1 : w1.cell? ⟨w.heap.size, 0, none⟩ = some (.slice A n c) := keep_cell hb1 (cell_alloc (cell_new rfl rfl) _) (by simp; omega)
      have k2 : w1.cell? ⟨w.heap.size, 1, none⟩ = some (.int .i64 secs) := keep_cell hb1 (cell_alloc (cell_new rfl rfl) _) (by simp; omega)
      have k3 : w1.cell? ⟨w.heap.size + 1, 0, none⟩ = some (.int .i64 pg) := keep_cell hb1 (cell_new (by simp) rfl) (by simp)
      have k4 : w1.cell? ⟨w.heap.size + 1, 1, none⟩ = some (.int .i64 pa) := keep_cell hb1 (cell_new (by simp) rfl) (by simp)
      clear hb1 hb0
      go_wp2_with fail
      all_goals first | (exfalso; omega) | go_ret
      all_goals exact ⟨ret_bool hC.out.symm, hb2⟩
  · have hr' : gRight gs secs = false := by simpa using hr
    have hC : Hid (cMay gs secs pg pa size = false) := by
      unfold Hid
      rw [Bool.eq_false_iff]
      intro h
      have := (cMay_true h).1
      unfold gHas at this
      rw [hr'] at this
      simp at this
    rw [hr'] at HR
    clear hr hr' hg
    go_enter Try.func17, Try.ntmps17
    go_wp2_with fail
    refine HR.out.mono ?_
    rintro e w1 ⟨rfl, hb1⟩
    go_wp2_with fail
    go_ret
    exact ⟨ret_bool hC.out.symm, hb0.trans (hb1.mono (by simp; omega))⟩
end Go.Proofs.Ytppccdbfnhgdbaa

namespace Go.Proofs.Ytppccdbfnhgdbaa
set_option linter.unusedVariables false
set_option linter.unusedSimpArgs false
open Go.RowKit

/-- Columns out of their shape. -/
def layC (first wide at_ : Int) : Nat → List (Bool × Int) → List Col
  | _, [] => []
  | j, c :: r => pcol first wide at_ j c.1 c.2 :: layC first wide at_ (j + 1) r
theorem layC_snoc (first wide at_ : Int) (c : Bool × Int) : ∀ (S : List (Bool × Int)) (j : Nat), layC first wide at_ j (S ++ [c]) = layC first wide at_ j S ++ [pcol first wide at_ (j + S.length) c.1 c.2]
  | [], j => by simp [layC]
  | d :: S, j => by
    simp only [List.cons_append, layC, layC_snoc first wide at_ c S (j + 1), List.length_cons]
    rw [show j + 1 + S.length = j + (S.length + 1) by omega]
theorem layC_len (first wide at_ : Int) : ∀ (S : List (Bool × Int)) (j : Nat), (layC first wide at_ j S).length = S.length
  | [], _ => rfl
  | _ :: S, j => by simp [layC, layC_len first wide at_ S (j + 1)]
theorem layC_get (first wide at_ : Int) : ∀ (S : List (Bool × Int)) (j k : Nat), (layC first wide at_ j S)[k]? = (S[k]?).map fun c => pcol first wide at_ (j + k) c.1 c.2
  | [], _, _ => by simp [layC]
  | c :: S, j, 0 => by simp [layC]
  | c :: S, j, k + 1 => by
    simp only [layC, List.getElem?_cons_succ, layC_get first wide at_ S (j + 1) k]
    rw [show j + 1 + k = j + (k + 1) by omega]
theorem parTo_layC (first wide at_ : Int) (n : Nat) : parTo first wide at_ n = layC first wide at_ 0 ((parTo 0 wide 0 n).map (·.2.2)) := by
  apply List.ext_getElem?
  intro k
  rw [layC_get, ← parTo_shape first wide at_ n, List.getElem?_map]
  cases h : (parTo first wide at_ n)[k]? with
  | none => rfl
  | some x =>
    obtain ⟨p, r, e⟩ := parTo_get _ _ _ _ _ _ h
    simp only [Option.map_some, Nat.zero_add]
    rw [e]
    rfl

/-- A row's shape, up to k; a block's, row by row. -/
def rowS (n : Nat) (r : Int) (k : Nat) : List (Bool × Int) := ((true, r) :: List.replicate n (false, r)).take k
theorem rowS_step {n k : Nat} (r : Int) (h : k ≤ n) : rowS n r (k + 1) = rowS n r k ++ [(((k : Int) == 0), r)] := by
  unfold rowS
  rw [List.take_add_one]
  congr 1
  cases k with
  | zero => rfl
  | succ k =>
    have h0 : ((((k + 1 : Nat) : Int)) == 0) = false := by simp; omega
    rw [h0]
    simp [List.getElem?_replicate]; omega
theorem rowS_len {n k : Nat} (r : Int) (h : k ≤ n + 1) : (rowS n r k).length = k := by
  unfold rowS; rw [List.length_take]; simp; omega
def refS (wide : Nat) : Nat → Nat → Int → List (Bool × Int)
  | 0, _, _ => []
  | f + 1, s, r => if s = 0 then [] else rowS (min s (wide - 1)) r (min s (wide - 1) + 1) ++ refS wide f (s - min s (wide - 1)) (r + 1)
theorem refS_zero (wide f : Nat) (r : Int) : refS wide f 0 r = [] := by cases f <;> simp [refS]
theorem refS_ok : ∀ w ∈ List.range 9, 3 ≤ w → ∀ s ∈ List.range 5, refS w s s 0 = (parTo 0 w 0 s).map (·.2.2) := by decide +kernel

set_option maxRecDepth 100000 in
set_option maxHeartbeats 8000000 in
theorem refOf_any (A : Option Addr) (n c : Nat) (gs : List (Int × Int)) (secs pg pa size : Int) (w : World) (hg : GeoAt w A n gs) (hp : cMay gs secs pg pa size = true) :
    Calls Try.prog 11 #[.agg #[.slice A n c, .int .i64 secs], .agg #[.int .i64 pg, .int .i64 pa], .int .i64 size] w fun e w' =>
      ∃ v, e = .returned v ∧ w'.ownsRow w.heap.size 44 4 v (colsOf gs secs pg pa size).length (colsCells (colsOf gs secs pg pa size)) ∧ Below w.heap.size w w' := by
  have hb0 : Below w.heap.size w ((w.alloc (Obj.cells #[Value.slice A n c, Value.int IntKind.i64 secs] 24)).alloc (Obj.cells #[Value.int IntKind.i64 pg, Value.int IntKind.i64 pa] 26)) :=
    ((Below.refl _ _).alloc (Nat.le_refl _) _).alloc (by simp) _
  obtain ⟨i0, hi, hz0, hz1, hz2⟩ := info_parts Try.infoCol
  obtain ⟨hhas, hzz1, hzz2, hp1, hp2, _⟩ := cMay_true hp
  have hS := gSectors_bd gs secs pg
  have hT := gTakes_bd gs secs pg size
  have hp3 : pa ≤ 100000 := by omega
  obtain ⟨k, x, rfl, hk, hl4, hs1, hs2, hx, hgx, ho⟩ := gHas_true hhas
  have H2 : Hid (∀ w1, Below w.heap.size w w1 → Calls Try.prog 32 #[.agg #[.slice A n c, .int .i64 secs], .int .i64 k] w1 fun e w' => e = .returned (.int .i64 (gFirst gs secs k)) ∧ Below w1.heap.size w1 w') :=
    Lib.hid fun w1 hb => refFirst_any A n c gs secs k w1 (hg.below hb (Nat.le_refl _)) hhas
  have hfirst : 0 ≤ gFirst gs secs k ∧ gFirst gs secs k ≤ 100 := by
    unfold gFirst; rw [hhas]
    have hr : gRight gs secs = true := by simp only [gHas, Bool.and_eq_true] at hhas; exact hhas.1.1
    have := sum_take_bd hr (k : Int).toNat
    simp only [if_true]; omega
  obtain ⟨hF0, hF1⟩ := hfirst
  have HC : Hid (colsOf gs secs k pa size = if x.1 == 0 then mirror (gFirst gs secs k) pa x.2.toNat size.toNat else parTo (gFirst gs secs k) x.2 pa size.toNat) := by
    unfold Hid colsOf; rw [hgx]
  obtain ⟨b, off, rfl, hgs⟩ := hg.2.2 (by have := hg.1; omega)
  have hkn : (k : Int) < n := by have := hg.1; omega
  have hkn0 : (0 : Int) ≤ k := by omega
  have ho' := gOne_true ho
  have HX := Lib.hid hx
  obtain ⟨kd, wd⟩ := x
  obtain ⟨sz, rfl⟩ := Int.eq_ofNat_of_zero_le (show 0 ≤ size by omega)
  obtain ⟨wn, rfl⟩ := Int.eq_ofNat_of_zero_le (show 0 ≤ wd by simp only at ho'; omega)
  simp only [Int.toNat_natCast] at HC
  have hsz4 : sz ≤ 4 := by omega
  have hwn8 : wn ≤ 8 := by simp only at ho'; omega
  clear hx hgx ho hp hhas hS hT hp2 hg
  generalize gFirst gs secs k = F at *
  generalize colsOf gs secs k pa sz = L at *
  have z1 := fun X Y => cell_alloc (cell_alloc (hgs.2 k _ HX.out).1 X) Y
  have z2 := fun X Y => cell_alloc (cell_alloc (hgs.2 k _ HX.out).2 X) Y
  go_enter Try.func11, Try.ntmps11
  go_wp2_with fail
  have x1 := cell_new (W := ((w.alloc (Obj.cells #[Value.slice (some ⟨b, off, none⟩) n c, Value.int IntKind.i64 secs] 24)).alloc (Obj.cells #[Value.int IntKind.i64 k, Value.int IntKind.i64 pa] 26))) (k := w.heap.size + 2) (o := 0) (cs := #[.int .i64 kd, .int .i64 wn]) (t := 55) (by simp) rfl
  have x2 := cell_new (W := ((w.alloc (Obj.cells #[Value.slice (some ⟨b, off, none⟩) n c, Value.int IntKind.i64 secs] 24)).alloc (Obj.cells #[Value.int IntKind.i64 k, Value.int IntKind.i64 pa] 26))) (k := w.heap.size + 2) (o := 1) (cs := #[.int .i64 kd, .int .i64 wn]) (t := 55) (by simp) rfl
  have y4 := cell_alloc (cell_new (W := w.alloc (Obj.cells #[Value.slice (some ⟨b, off, none⟩) n c, Value.int IntKind.i64 secs] 24)) (k := w.heap.size + 1) (o := 1) (cs := #[.int .i64 k, .int .i64 pa]) (t := 26) (by simp) rfl) (.cells #[.int .i64 kd, .int .i64 wn] 55)
  have hb1 := hb0.alloc hb0.size (.cells #[.int .i64 kd, .int .i64 wn] 55)
  have hs1 : w.heap.size + 3 ≤ (((w.alloc (Obj.cells #[Value.slice (some ⟨b, off, none⟩) n c, Value.int IntKind.i64 secs] 24)).alloc (Obj.cells #[Value.int IntKind.i64 k, Value.int IntKind.i64 pa] 26)).alloc (.cells #[.int .i64 kd, .int .i64 wn] 55)).heap.size := by simp
  refine (H2.out _ hb1).mono ?_
  rintro e w3 ⟨rfl, hb3⟩
  have m1 := keep_cell hb3 x1 (by omega)
  have m2 := keep_cell hb3 x2 (by omega)
  have m4 := keep_cell hb3 y4 (by omega)
  have hs3 := keep_size hb3 hs1
  have hb4 := hb1.trans (hb3.mono hb1.size)
  clear x1 x2 y4 z1 z2 hb0 hb1 hb3 hs1 hgs
  rcases ho' with ⟨e, hw1, hw2⟩ | ⟨e, hw1, hw2⟩
  · subst e
    have HCL : Hid (L = mirror F pa wn sz) := by unfold Hid; rw [HC.out]; rfl
    clear HC
    go_wp2_with fail
    go_loopw [7, 10] (fun v t wr => ∃ d : Nat, d ≤ wn ∧ t = .int .i64 d ∧ wr.ownsRow w3.heap.size 44 4 v (mirTo F pa sz d 0).length (colsCells (mirTo F pa sz d 0)) ∧ Below w3.heap.size w3 wr)
      (fun _ t _ => wn - (RowKit.intOf t).toNat)
    case atStart => exact ⟨0, Nat.zero_le _, rfl, World.ownsRow_nil _ _ _ _, Below.refl _ _⟩
    case round =>
      obtain ⟨d, hd, rfl, hown, hb⟩ := hrel
      obtain ⟨wo, rfl⟩ : ∃ wo : World, wo = wr := ⟨_, rfl⟩
      have n2 := keep_cell hb m2 (by omega)
      by_cases hlt : d < wn
      · go_wp2_with fail
        go_loopw [7, 11] (fun v t wr => ∃ i : Nat, i ≤ sz ∧ t = .int .i64 i ∧ wr.ownsRow w3.heap.size 44 4 v (mirTo F pa sz d i).length (colsCells (mirTo F pa sz d i)) ∧ Below w3.heap.size w3 wr)
          (fun _ t _ => sz - (RowKit.intOf t).toNat)
        case atStart => exact ⟨0, Nat.zero_le _, rfl, hown, hb⟩
        case round =>
          obtain ⟨i, hi', rfl, hown1, hb1⟩ := hrel
          clear hown hb n2
          have n4 := keep_cell hb1 m4 (by omega)
          by_cases hlt2 : i < sz
          · have hlen := Lib.hid (mirTo_len F pa sz d i)
            have hlb : (mirTo F pa sz d i).length ≤ 64 := by
              rw [hlen.out]
              have : d * sz ≤ 8 * 4 := Nat.mul_le_mul (by omega) (by omega)
              omega
            go_wp2_with (at_builtin; refine wpList_append_own _ rfl _ _ 41 rfl w3.heap.size 44 i0 _ 4 32 Try.underlying41 hi hz0 hz1 hz2 rfl (by decide) _ _ _ rfl (hown1.alloc _) ⟨wr.heap.size, 0, none⟩ 1 1 (colCells (mcol F pa d i)) rfl rfl ?c1 (col_one _) (by unfold maxLen; omega) (by omega) ?c5 ?_)
            case c1 => exact col_new _ _ _
            case c5 => have := hb1.size; simp; omega
            intro v' w5 hown' hgrow _
            rw [← colsCells_snoc, ← mirTo_step, show (mirTo F pa sz d i).length + 1 = (mirTo F pa sz d (i + 1)).length from by rw [mirTo_len, mirTo_len]; omega] at hown'
            have hb2 : Below w3.heap.size w3 w5 := (hb1.alloc hb1.size _).grown hgrow (by have := hb1.size; simp; omega) (fun k hk => (hown1.lt k hk).1)
            clear hown1 hgrow
            go_wp2_with fail
            go_roundw
            case rel => exact ⟨i + 1, by omega, by go_num, hown', hb2⟩
            case measure => simp [RowKit.intOf]; omega
          · obtain rfl : i = sz := by omega
            rw [← mirTo_row] at hown1
            go_wp2_with fail
            go_roundw
            case rel => exact ⟨d + 1, by omega, by go_num, hown1, hb1⟩
            case measure => simp [RowKit.intOf]; omega
      · obtain rfl : d = wn := by omega
        go_wp2_with fail
        go_ret
        rw [HCL.out]
        exact ⟨_, rfl, own_mono hown hb4.size, hb4.trans (hb.mono hb4.size)⟩
  · subst e
    have HCL : Hid (L = parTo F wn pa sz) := by unfold Hid; rw [HC.out]; rfl
    clear HC
    have hSl : (refS wn sz sz 0).length ≤ 8 := by
      rw [refS_ok wn (by simp; omega) (by omega) sz (by simp; omega), List.length_map]
      have := parTo_len 0 wn 0 sz
      omega
    have HSS : Hid (layC F wn pa 0 (refS wn sz sz 0) = L) := by
      unfold Hid
      rw [HCL.out, parTo_layC, refS_ok wn (by simp; omega) (by omega) sz (by simp; omega)]
    generalize hS0 : refS wn sz sz 0 = S at *
    have HS0 := Lib.hid hS0
    clear hS0
    go_wp2_with fail
    go_loopw [2, 7, 12, 13] (fun s' v a r wr => ∃ (f t rr : Nat) (D : List (Bool × Int)), t ≤ f ∧ f ≤ 4 ∧ s' = .int .i64 t ∧ r = .int .i64 rr ∧ a = .int .i64 (pa + (D.length : Int)) ∧ D ++ refS wn f t rr = S ∧ rr ≤ D.length ∧
        wr.ownsRow w3.heap.size 44 4 v (layC F wn pa 0 D).length (colsCells (layC F wn pa 0 D)) ∧ Below w3.heap.size w3 wr) (fun s' _ _ _ _ => (RowKit.intOf s').toNat)
    case atStart => exact ⟨sz, sz, 0, [], Nat.le_refl _, by omega, rfl, rfl, by simp, by rw [List.nil_append]; exact HS0.out, Nat.le_refl _, World.ownsRow_nil _ _ _ _, Below.refl _ _⟩
    case round =>
      obtain ⟨f, t, rr, D, htf, hf4, rfl, rfl, rfl, hD, hrD, hown, hb⟩ := hrel
      obtain ⟨wo, rfl⟩ : ∃ wo : World, wo = wr := ⟨_, rfl⟩
      have hDl : D.length ≤ 8 := by rw [← hD, List.length_append] at hSl; omega
      have n2 := keep_cell hb m2 (by omega)
      rcases Nat.eq_zero_or_pos t with ht0 | ht0
      · subst ht0
        rw [refS_zero, List.append_nil] at hD
        subst hD
        go_wp2_with fail
        go_ret
        rw [← HSS.out]
        exact ⟨_, rfl, own_mono hown hb4.size, hb4.trans (hb.mono hb4.size)⟩
      · obtain ⟨f, rfl⟩ : ∃ f', f = f' + 1 := ⟨f - 1, by omega⟩
        rw [refS, if_neg (by omega)] at hD
        obtain ⟨m, hm⟩ : ∃ m, m = min t (wn - 1) := ⟨_, rfl⟩
        rw [← hm] at hD
        have hcas : ((wn : Int) - 1 < (t : Int) ∧ (m : Int) ≤ wn - 1 ∧ (wn : Int) - 1 ≤ m) ∨ ((t : Int) ≤ (wn : Int) - 1 ∧ (m : Int) ≤ t ∧ (t : Int) ≤ m) := by omega
        have hm1 : 1 ≤ m := by omega
        have hm2 : m ≤ t := by omega
        have HD := Lib.hid hD
        have hDS := congrArg List.length hD
        rw [List.length_append, List.length_append, rowS_len _ (Nat.le_refl _)] at hDS
        have hDm : D.length + m + 1 ≤ 8 := by omega
        have ht1 : (0 : Int) < (t : Int) := by omega
        clear hD hm hDS
        rcases hcas with ⟨hc1, hc2, hc3⟩ | ⟨hc1, hc2, hc3⟩
        all_goals
          go_wp2_with fail
          go_loopw [7, 12, 15] (fun v a kk wr => ∃ k : Nat, k ≤ m + 1 ∧ kk = .int .i64 k ∧ a = .int .i64 (pa + ((D.length : Int) + k)) ∧
              wr.ownsRow w3.heap.size 44 4 v (layC F wn pa 0 (D ++ rowS m rr k)).length (colsCells (layC F wn pa 0 (D ++ rowS m rr k))) ∧ Below w3.heap.size w3 wr) (fun _ _ kk _ => m + 1 - (RowKit.intOf kk).toNat)
          case atStart => exact ⟨0, Nat.zero_le _, rfl, by simp, by rw [show rowS m (rr : Int) 0 = [] from rfl, List.append_nil]; exact hown, hb⟩
          case round =>
            obtain ⟨k, hk, rfl, rfl, hown1, hb1⟩ := hrel
            clear hown hb n2
            have n4 := keep_cell hb1 m2 (by omega)
            by_cases hlt : k ≤ m
            · have hX0 : 0 ≤ pa + ((D.length : Int) + k) := by omega
              have hX1 : pa + ((D.length : Int) + k) ≤ 100100 := by omega
              have HV : Hid (pcol F wn pa (D.length + k) ((k : Int) == 0) rr = (F + (pa + ((D.length : Int) + k)) % wn, 16 + (pa + ((D.length : Int) + k)) / wn, ((k : Int) == 0), (rr : Int))) := by
                unfold Hid pcol; rw [Int.natCast_add]
              have HST := Lib.hid (rowS_step (n := m) (k := k) (rr : Int) hlt)
              have hDk : (D ++ rowS m rr k).length = D.length + k := by rw [List.length_append, rowS_len _ (by omega)]
              have hlay : layC F wn pa 0 (D ++ rowS m rr (k + 1)) = layC F wn pa 0 (D ++ rowS m rr k) ++ [pcol F wn pa (D.length + k) ((k : Int) == 0) rr] := by
                rw [HST.out, ← List.append_assoc, layC_snoc, hDk, Nat.zero_add]
              have HLY := Lib.hid hlay
              have hll : (layC F wn pa 0 (D ++ rowS m rr k)).length = D.length + k := by rw [layC_len, hDk]
              have HLL := Lib.hid hll
              have hl8 : (layC F wn pa 0 (D ++ rowS m rr k)).length ≤ 8 := by omega
              have r1 : 0 ≤ (pa + ((D.length : Int) + k)) % wn := Int.emod_nonneg _ (by omega)
              have r2 : (pa + ((D.length : Int) + k)) % wn < wn := Int.emod_lt_of_pos _ (by omega)
              have q1 : 0 ≤ (pa + ((D.length : Int) + k)) / wn := Int.ediv_nonneg (by omega) (by omega)
              have q2 : (pa + ((D.length : Int) + k)) / wn ≤ pa + ((D.length : Int) + k) := Int.ediv_le_self _ (by omega)
              have e0 : ¬ (wn : Int) = 0 := by omega
              have e1 : (pa + ((D.length : Int) + k)).tmod wn = (pa + ((D.length : Int) + k)) % wn := Int.tmod_eq_emod_of_nonneg (by omega)
              have e4 : (pa + ((D.length : Int) + k)).tdiv wn = (pa + ((D.length : Int) + k)) / wn := Int.tdiv_eq_ediv_of_nonneg (by omega)
              have e2 : IntKind.i64.wrap ((pa + ((D.length : Int) + k)) % wn) = (pa + ((D.length : Int) + k)) % wn := by rw [IntKind.wrap_i64]; omega
              have e5 : IntKind.i64.wrap ((pa + ((D.length : Int) + k)) / wn) = (pa + ((D.length : Int) + k)) / wn := by rw [IntKind.wrap_i64]; omega
              have e3 : IntKind.i64.wrap (F + (pa + ((D.length : Int) + k)) % wn) = F + (pa + ((D.length : Int) + k)) % wn := by rw [IntKind.wrap_i64]; omega
              have e6 : IntKind.i64.wrap (16 + (pa + ((D.length : Int) + k)) / wn) = 16 + (pa + ((D.length : Int) + k)) / wn := by rw [IntKind.wrap_i64]; omega
              clear hlay hll hDk r1 r2 q1 q2
              go_wp2_with fail
              have F1 := Lib.hid hb1
              have F2 := Lib.hid hl8
              have n5 : wr.cell? ⟨w.heap.size + 1 + 1, 1, none⟩ = some (.int .i64 wn) := n4
              clear n4 hX0 hX1 hl8
              go_region_held_law (fun W => W.cell? ⟨w.heap.size + 1 + 1, 1, none⟩ = some (.int .i64 wn))
                (first | exact n5 | exact cell_alloc (by assumption) _ | exact g2 | assumption)
                ((refine step_append_lies _ (by rfl) (.tmp 70) (.tmp 86) 41 (by rfl) w3.heap.size 44 i0 _ 4 32 Try.underlying41 hi hz0 hz1 hz2 rfl (by decide) _ _ _ (by rfl) (hown1.alloc _) ⟨wr.heap.size, 0, none⟩ 1 1 (colCells (pcol F wn pa (D.length + k) ((k : Int) == 0) rr)) (by rfl) rfl (by rw [HV.out]; exact col_new wr (_, _, _, _) _) (col_one _) (by decide) (by have := F2.out; unfold maxLen; omega) (by have := F2.out; omega) (by have := F1.out.size; simp; omega) _ rfl ?_; intro g cap w5 hown' hgrow hat hlt; have hbw : Below w3.heap.size w3 w5 := (((F1.out).drew).alloc F1.out.size _).grown hgrow (by have := F1.out.size; simp; omega) (fun k hk => (hown1.lt k hk).1); have g2 := keep_cell hbw m2 (by omega)))
              all_goals
                have hown2 : w5.ownsRow w3.heap.size 44 4 (.slice (some ⟨g, 0, none⟩) ((layC F wn pa 0 (D ++ rowS m rr k)).length + 1) cap) (layC F wn pa 0 (D ++ rowS m rr (k + 1))).length (colsCells (layC F wn pa 0 (D ++ rowS m rr (k + 1)))) := by
                  rw [HLY.out, colsCells_snoc, List.length_append]; exact hown'
                clear hown' hgrow hat hlt hown1
                go_wp2_with fail
                go_roundw
                case rel => exact ⟨k + 1, by omega, by go_num, by first | rfl | (congr 1; done) | (congr 1; omega), hown2, hbw⟩
                case measure => first | (simp [RowKit.intOf]; done) | (simp [RowKit.intOf]; omega)
            · obtain rfl : k = m + 1 := by omega
              go_wp2_with fail
              go_roundw
              case rel =>
                refine ⟨f, t - m, rr + 1, D ++ rowS m rr (m + 1), by omega, by omega, by congr 1; omega, by go_num, ?_, ?_, ?_, hown1, hb1⟩
                · rw [List.length_append, rowS_len _ (Nat.le_refl _)]; congr 1
                · rw [List.append_assoc]; exact HD.out
                · rw [List.length_append, rowS_len _ (Nat.le_refl _)]; omega
              case measure => first | (simp [RowKit.intOf]; done) | (simp [RowKit.intOf]; omega)
end Go.Proofs.Ytppccdbfnhgdbaa
