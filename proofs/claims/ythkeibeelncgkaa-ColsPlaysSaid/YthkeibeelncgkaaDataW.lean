/-
  The walk of ColsData.
-/
import Derived.Test.YthkeibeelncgkaaApart
import Derived.Test.YthkeibeelncgkaaData4
namespace Go.Proofs.Ythkeibeelncgkaa
open Go.RowKit
set_option linter.unusedVariables false

theorem eql_col (x y : Col) (w : World) : (binOp .eql 34 (.agg #[.int .i64 x.1, .int .i64 x.2.1, .bool x.2.2.1, .int .i64 x.2.2.2]) (.agg #[.int .i64 y.1, .int .i64 y.2.1, .bool y.2.2.1, .int .i64 y.2.2.2])).run Try.prog w = .ok (.bool (colEq x y)) w := by
  rw [run_eql_struct, run_equalIn_agg w _ _ _ _ (by kernel_rfl) Try.stoodCol]
  simp [go_sem, Try.underlying34]
  unfold colEq
  by_cases h1 : x.1 = y.1 <;> by_cases h2 : x.2.1 = y.2.1 <;> by_cases h3 : x.2.2.1 = y.2.2.1 <;> by_cases h4 : x.2.2.2 = y.2.2.2 <;> simp [h1, h2, h3, h4]

theorem pars_next {L : List Col} {j : Nat} {x : Col} (hx : L[j]? = some x) : ((L.take (j + 1)).filter (fun x => x.2.2.1)).length = ((L.take j).filter (fun x => x.2.2.1)).length + (if x.2.2.1 then 1 else 0) := by
  rw [List.take_add_one, hx]; cases h : x.2.2.1 <;> simp [List.filter_append, h]
theorem pars_le (L : List Col) (j : Nat) : ((L.take j).filter (fun x => x.2.2.1)).length ≤ L.length := Nat.le_trans (List.length_filter_le _ _) (by rw [List.length_take]; omega)

set_option maxRecDepth 100000 in
set_option maxHeartbeats 8000000 in
theorem dataLaw_any (A : Option Addr) (n c : Nat) (gs : List (Int × Int)) (secs pg pa size : Int) (w : World) (hg : GeoAt w A n gs) :
    Calls Try.prog 4 #[.agg #[.slice A n c, .int .i64 secs], .agg #[.int .i64 pg, .int .i64 pa], .int .i64 size] w fun e w' =>
      e = .returned (.bool true) ∧ Below w.heap.size w w' := by
  have hb0 : Below w.heap.size w ((w.alloc (Obj.cells #[Value.slice A n c, Value.int IntKind.i64 secs] 24)).alloc (Obj.cells #[Value.int IntKind.i64 pg, Value.int IntKind.i64 pa] 26)) :=
    ((Below.refl _ _).alloc (Nat.le_refl _) _).alloc (by simp) _
  have HO := Lib.hid (of_any A n c gs secs pg pa size _ (hg.below hb0 (Nat.le_refl _)))
  go_enter Try.func4, Try.ntmps4
  go_wp2_with fail
  refine HO.out.mono ?_
  rintro e w1 ⟨v1, rfl, hown1, hb1⟩
  have hb2 := hb0.trans (hb1.mono (by simp; omega))
  have k1 : w1.cell? ⟨w.heap.size, 0, none⟩ = some (.slice A n c) := keep_cell hb1 (cell_alloc (cell_new rfl rfl) _) (by simp; omega)
  have k2 : w1.cell? ⟨w.heap.size, 1, none⟩ = some (.int .i64 secs) := keep_cell hb1 (cell_alloc (cell_new rfl rfl) _) (by simp; omega)
  have k3 : w1.cell? ⟨w.heap.size + 1, 0, none⟩ = some (.int .i64 pg) := keep_cell hb1 (cell_new (by simp) rfl) (by simp)
  have k4 : w1.cell? ⟨w.heap.size + 1, 1, none⟩ = some (.int .i64 pa) := keep_cell hb1 (cell_new (by simp) rfl) (by simp)
  have hsz : w.heap.size + 2 ≤ w1.heap.size := by have := hb1.size; simp at this; omega
  clear hb1 hb0
  go_wp2_with fail
  refine (awake_any _).mono ?_
  rintro e w3 ⟨rfl, hb5⟩
  have hb6 := hb2.trans (hb5.mono hb2.size)
  by_cases hp : cMay gs secs pg pa size = true
  · obtain ⟨e1, e2⟩ := of_good hp
    rw [e2] at hown1
    rw [e1]
    clear e1 e2
    have hl1 := colsOf_len hp
    obtain ⟨A1, cp1, rfl, hL⟩ := slC_of_own hown1 (by omega)
    have HL := Lib.hid (hL.below hb5 (Nat.le_refl _))
    obtain ⟨P0, P1, P2⟩ := data_pure hp
    obtain ⟨hhas, hz1, hz2, _⟩ := cMay_true hp
    obtain ⟨sz, rfl⟩ := Int.eq_ofNat_of_zero_le (show 0 ≤ size by omega)
    rw [Int.toNat_natCast] at P2
    have HP0 := Lib.hid P0
    have HP1 := Lib.hid P1
    have HP2 := Lib.hid P2
    have HD : Hid (∀ (i : Int) W, Below w3.heap.size w3 W → Calls Try.prog 12 #[.agg #[.slice A n c, .int .i64 secs], .agg #[.int .i64 pg, .int .i64 pa], .int .i64 sz, .int .i64 i] W fun e w' =>
        ∃ A' m c', e = .returned (.tuple #[.slice A' m c', .bool (dataOk gs secs pg pa sz i)]) ∧ SlC w' A' m (dataOf gs secs pg pa sz i) ∧ Below W.heap.size W w') :=
      Lib.hid fun i W hb => data_any A n c gs secs pg pa sz i W (hg.below (hb6.trans (hb.mono hb6.size)) (Nat.le_refl _))
    have m1 := keep_cell hb5 k1 (by omega)
    have m2 := keep_cell hb5 k2 (by omega)
    have m3 := keep_cell hb5 k3 (by omega)
    have m4 := keep_cell hb5 k4 (by omega)
    have hsz3 := keep_size hb5 hsz
    have hNle : Hid (∀ i : Nat, i ≤ sz → dataN gs secs pg pa sz i ≤ 1000) := Lib.hid fun i hi => by
      unfold dataN; split
      · exact Nat.le_trans (List.length_filter_le _ _) (by omega)
      · omega
    generalize colsOf gs secs pg pa sz = L at *
    clear P0 P1 P2 hL hown1 hhas HO k1 k2 k3 k4 hb2 hb5 hsz hp hg
    go_wp2_with fail
    go_loopw [9, 10] (fun s t wr => ∃ i : Nat, i ≤ sz ∧ s = .int .i64 (dataN gs secs pg pa sz i) ∧ t = .int .i64 i ∧ Below w3.heap.size w3 wr) (fun _ t _ => sz - (intOf t).toNat)
    case atStart => exact ⟨0, Nat.zero_le _, by rw [HP0.out]; rfl, rfl, Below.refl _ _⟩
    case round =>
      obtain ⟨i, hi, rfl, rfl, hb⟩ := hrel
      obtain ⟨wo, rfl⟩ : ∃ wo : World, wo = wr := ⟨_, rfl⟩
      by_cases hlt : i < sz
      · have n1 := (hb.cell (p := ⟨w.heap.size, 0, none⟩) (by show w.heap.size < w3.heap.size; omega)).trans m1
        have n2 := (hb.cell (p := ⟨w.heap.size, 1, none⟩) (by show w.heap.size < w3.heap.size; omega)).trans m2
        have n3 := (hb.cell (p := ⟨w.heap.size + 1, 0, none⟩) (by show w.heap.size + 1 < w3.heap.size; omega)).trans m3
        have n4 := (hb.cell (p := ⟨w.heap.size + 1, 1, none⟩) (by show w.heap.size + 1 < w3.heap.size; omega)).trans m4
        go_wp2_with fail
        refine (HD.out i wo hb).mono ?_
        rintro e w4 ⟨A2, m, c2, rfl, hM, hb7⟩
        have hb8 := hb.trans (hb7.mono hb.size)
        obtain ⟨Q1, Q2, Q3, Q4⟩ := HP1.out i (by omega)
        rw [Q1]
        have HM := Lib.hid hM
        have HQ2 := Lib.hid Q2
        have HQ4 := Lib.hid Q4
        generalize dataOf gs secs pg pa sz i = M at *
        have hml := hM.1
        have hN1 := hNle.out i (by omega)
        clear n1 n2 n3 n4 Q1 Q2 Q4 hM
        generalize hNN : dataN gs secs pg pa sz i = N at *
        have HNN := Lib.hid hNN
        clear hNN
        go_wp2_with fail
        go_loopw [9, 13] (fun s t wr => ∃ k : Nat, k ≤ m ∧ s = .int .i64 ((N + k : Nat) : Int) ∧ t = .int .i64 k ∧ Below w4.heap.size w4 wr) (fun _ t _ => m - (intOf t).toNat)
        case atStart => exact ⟨0, Nat.zero_le _, rfl, rfl, Below.refl _ _⟩
        case round =>
          obtain ⟨k, hk, rfl, rfl, hb9⟩ := hrel
          obtain ⟨wp, rfl⟩ : ∃ wp : World, wp = wr := ⟨_, rfl⟩
          by_cases hlt2 : k < m
          · obtain ⟨y, hy⟩ : ∃ y, M[k]? = some y := ⟨_, List.getElem?_eq_getElem (by omega)⟩
            obtain ⟨y5, j0, hj0⟩ := HQ4.out k y hy
            have HJ := Lib.hid hj0
            have HY := Lib.hid hy
            have hj0l : j0 < L.length := (List.getElem?_eq_some_iff.1 hj0).1
            obtain ⟨b2, o2, eB, hCM⟩ := HM.out.2.2 (by omega)
            subst eB
            obtain ⟨b1, o1, eA, hCL⟩ := HL.out.2.2 (by omega)
            subst eA
            have hk0 : (0 : Int) ≤ k := by omega
            have hk1 : (k : Int) < m := by omega
            have HY5 := Lib.hid y5
            clear hy hj0 y5
            go_wp2_with fail
            go_loopw [14, 15] (fun s t wr => ∃ (j : Nat) (f : Bool), j ≤ L.length ∧ s = .bool f ∧ t = .int .i64 j ∧ (j0 < j → f = true) ∧ Below w4.heap.size w4 wr) (fun _ t _ => L.length - (intOf t).toNat)
            case atStart => exact ⟨0, false, Nat.zero_le _, rfl, rfl, fun h => absurd h (by omega), hb9⟩
            case round =>
              obtain ⟨j, f, hj, rfl, rfl, hf, hb10⟩ := hrel
              obtain ⟨wq, rfl⟩ : ∃ wq : World, wq = wr := ⟨_, rfl⟩
              have HF := Lib.hid hf
              clear hf
              by_cases hlt3 : j < L.length
              · obtain ⟨x, hx⟩ : ∃ x, L[j]? = some x := ⟨_, List.getElem?_eq_getElem hlt3⟩
                obtain ⟨x1, x2, x3, x4⟩ := (hCL.below (hb8.trans (hb10.mono hb8.size)) (Nat.le_refl _)).2 j x hx
                obtain ⟨y1, y2, y3, y4⟩ := (hCM.below hb10 (Nat.le_refl _)).2 k y HY.out
                have hj1 : (0 : Int) ≤ j := by omega
                have hj2 : (j : Int) < L.length := by omega
                have HX := Lib.hid hx
                clear hx
                cases f with
                | true =>
                  go_wp2_with fail
                  go_quiet (fail)
                  go_wp2_with fail
                  go_roundw
                  case rel =>
                    (repeat apply Exists.intro)
                    exact ⟨⟨j + 1, true, by omega, rfl, by go_num, fun _ => rfl, below_drewN hb10 _⟩, rfl⟩
                  case measure => simp [intOf]; omega
                | false =>
                  have hcls : ∃ C : World → Prop, C wq.drew ∧ (∀ W, C W → Below w4.heap.size w4 W) ∧
                      (∀ W, C W → W.cell? ⟨b1, o1 + j * 4, none⟩ = some (.int .i64 x.1)) ∧ (∀ W, C W → W.cell? ⟨b1, o1 + j * 4 + 1, none⟩ = some (.int .i64 x.2.1)) ∧
                      (∀ W, C W → W.cell? ⟨b1, o1 + j * 4 + 2, none⟩ = some (.bool x.2.2.1)) ∧ (∀ W, C W → W.cell? ⟨b1, o1 + j * 4 + 3, none⟩ = some (.int .i64 x.2.2.2)) ∧
                      (∀ W, C W → W.cell? ⟨b2, o2 + k * 4, none⟩ = some (.int .i64 y.1)) ∧ (∀ W, C W → W.cell? ⟨b2, o2 + k * 4 + 1, none⟩ = some (.int .i64 y.2.1)) ∧
                      (∀ W, C W → W.cell? ⟨b2, o2 + k * 4 + 2, none⟩ = some (.bool y.2.2.1)) ∧ (∀ W, C W → W.cell? ⟨b2, o2 + k * 4 + 3, none⟩ = some (.int .i64 y.2.2.2)) :=
                    ⟨fun W => Below w4.heap.size w4 W, hb10.drew, fun _ h => h,
                      fun W h => ((hCL.below (hb8.trans (h.mono hb8.size)) (Nat.le_refl _)).2 j x HX.out).1, fun W h => ((hCL.below (hb8.trans (h.mono hb8.size)) (Nat.le_refl _)).2 j x HX.out).2.1,
                      fun W h => ((hCL.below (hb8.trans (h.mono hb8.size)) (Nat.le_refl _)).2 j x HX.out).2.2.1, fun W h => ((hCL.below (hb8.trans (h.mono hb8.size)) (Nat.le_refl _)).2 j x HX.out).2.2.2,
                      fun W h => ((hCM.below h (Nat.le_refl _)).2 k y HY.out).1, fun W h => ((hCM.below h (Nat.le_refl _)).2 k y HY.out).2.1,
                      fun W h => ((hCM.below h (Nat.le_refl _)).2 k y HY.out).2.2.1, fun W h => ((hCM.below h (Nat.le_refl _)).2 k y HY.out).2.2.2⟩
                  obtain ⟨C, hC, hCB, f1, f2, f3, f4, f5, f6, f7, f8⟩ := hcls
                  clear x1 x2 x3 x4 y1 y2 y3 y4
                  by_cases hxy : x = y
                  · have hpar : x.2.2.1 = false := by rw [hxy]; exact HY5.out
                    have hce : colEq (x.1, x.2.1, false, x.2.2.2) y = true := by
                      rw [colEq_iff, ← hxy, ← hpar]
                    have he := fun W => eql_col (x.1, x.2.1, false, x.2.2.2) y W
                    rw [hpar] at f3
                    simp only [hce] at he
                    have HCE := Lib.hid hce
                    clear hxy hpar hce
                    go_wp2_with fail
                    refine wp_region_cls C (by kernel_rfl) (by kernel_rfl) hC ?_
                    repeat (first
                      | go_big_quiet_skip
                      | (go_big_quiet_want
                         go_big_quiet_op
                         first
                           | go_big_quiet_on
                           | (apply Exists.intro
                              refine ⟨fun W hW => ?_, ?_⟩
                              · first
                                  | exact rfl
                                  | exact ⟨rfl, rfl⟩
                                  | (have e0 := f1 W hW; have e1 := f2 W hW; have e2 := f3 W hW; have e3 := f4 W hW; have e4 := f5 W hW; have e5 := f6 W hW; have e6 := f7 W hW; have e7 := f8 W hW; simp only [e0, e1, e2, e3, e4, e5, e6, e7, Result.andThen_ok]; done)
                                  | (have e0 := f1 W hW; have e1 := f2 W hW; have e2 := f3 W hW; have e3 := f4 W hW; have e4 := f5 W hW; have e5 := f6 W hW; have e6 := f7 W hW; have e7 := f8 W hW; simp only [e0, e1, e2, e3, e4, e5, e6, e7, Result.andThen_ok]; first | exact ⟨trivial, rfl⟩ | exact rfl | exact ⟨rfl, rfl⟩)
                              go_big_quiet_on)))
                    refine wpQuiet_nil ?_
                    intro w' hw'
                    have hwB := hCB w' hw'
                    go_wp2_with fail
                    go_roundw
                    case rel => exact ⟨j + 1, true, by omega, rfl, by go_num, fun _ => rfl, hwB⟩
                    case measure => simp [intOf]; omega
                  · have he : ∀ W, _ := fun W => eql_col x y W
                    have hce : colEq x y = false := by
                      cases h : colEq x y with
                      | false => rfl
                      | true => exact absurd ((colEq_iff x y).1 h) hxy
                    simp only [hce] at he
                    have hjj : Hid (j0 < j + 1 → false = true) := Lib.hid fun h => by
                      have hne : j0 ≠ j := fun e => hxy (by have h1 := HX.out; rw [← e, HJ.out] at h1; injection h1 with h1; exact h1.symm)
                      exact HF.out (by omega)
                    clear hxy hce
                    go_wp2_with fail
                    refine wp_region_cls C (by kernel_rfl) (by kernel_rfl) hC ?_
                    repeat (first
                      | go_big_quiet_skip
                      | (go_big_quiet_want
                         go_big_quiet_op
                         first
                           | go_big_quiet_on
                           | (apply Exists.intro
                              refine ⟨fun W hW => ?_, ?_⟩
                              · first
                                  | exact rfl
                                  | exact ⟨rfl, rfl⟩
                                  | (have e0 := f1 W hW; have e1 := f2 W hW; have e2 := f3 W hW; have e3 := f4 W hW; have e4 := f5 W hW; have e5 := f6 W hW; have e6 := f7 W hW; have e7 := f8 W hW; simp only [e0, e1, e2, e3, e4, e5, e6, e7, Result.andThen_ok]; done)
                                  | (have e0 := f1 W hW; have e1 := f2 W hW; have e2 := f3 W hW; have e3 := f4 W hW; have e4 := f5 W hW; have e5 := f6 W hW; have e6 := f7 W hW; have e7 := f8 W hW; simp only [e0, e1, e2, e3, e4, e5, e6, e7, Result.andThen_ok]; first | exact ⟨trivial, rfl⟩ | exact rfl | exact ⟨rfl, rfl⟩)
                              go_big_quiet_on)))
                    refine wpQuiet_nil ?_
                    intro w' hw'
                    have hwB := hCB w' hw'
                    go_wp2_with fail
                    go_roundw
                    case rel => exact ⟨j + 1, false, by omega, rfl, by go_num, hjj.out, hwB⟩
                    case measure => simp [intOf]; omega
              · obtain rfl : f = true := HF.out (by omega)
                go_wp2_with fail
                go_roundw
                case rel => exact ⟨k + 1, by omega, by go_num, by go_num, hb10⟩
                case measure => simp [intOf]; omega
          · obtain rfl : k = m := by omega
            go_wp2_with fail
            go_roundw
            case rel => exact ⟨i + 1, by omega, by rw [HQ2.out, hml], by go_num, hb8.trans (hb9.mono hb8.size)⟩
            case measure => simp [intOf]; omega
      · obtain rfl : i = sz := by omega
        have hN1 := hNle.out i (by omega)
        have HQ := HP2
        generalize dataN gs secs pg pa i i = N at *
        clear HP1 HP2 HP0 hNle HD
        go_wp2_with fail
        go_loopw [16, 17] (fun s t wr => ∃ j : Nat, j ≤ L.length ∧ s = .int .i64 (((L.take j).filter (fun x => x.2.2.1)).length : Nat) ∧ t = .int .i64 j ∧ Below w3.heap.size w3 wr) (fun _ t _ => L.length - (intOf t).toNat)
        case atStart => exact ⟨0, Nat.zero_le _, rfl, rfl, hb⟩
        case round =>
          obtain ⟨j, hj, rfl, rfl, hb9⟩ := hrel
          obtain ⟨wp, rfl⟩ : ∃ wp : World, wp = wr := ⟨_, rfl⟩
          have hpl := pars_le L j
          by_cases hlt2 : j < L.length
          · obtain ⟨x, hx⟩ : ∃ x, L[j]? = some x := ⟨_, List.getElem?_eq_getElem hlt2⟩
            obtain ⟨b1, o1, eA, hCL⟩ := HL.out.2.2 (by omega)
            subst eA
            obtain ⟨x1, x2, x3, x4⟩ := (hCL.below hb9 (Nat.le_refl _)).2 j x hx
            have HN := Lib.hid (pars_next hx)
            generalize ((L.take j).filter (fun x => x.2.2.1)).length = q at *
            clear hx
            cases hpar : x.2.2.1 with
            | true =>
              rw [hpar] at x3 HN
              go_wp2_with fail
              go_roundw
              case rel => exact ⟨j + 1, by omega, by rw [HN.out]; go_num, by go_num, hb9⟩
              case measure => simp [intOf]; omega
            | false =>
              rw [hpar] at x3 HN
              go_wp2_with fail
              go_roundw
              case rel => exact ⟨j + 1, by omega, by rw [HN.out]; go_num, by go_num, hb9⟩
              case measure => simp [intOf]; omega
          · obtain rfl : j = L.length := by omega
            rw [List.take_length] at *
            generalize (L.filter (fun x => x.2.2.1)).length = q at *
            go_wp2_with fail
            go_ret
            refine ⟨ret_bool ?_, hb6.trans (hb9.mono hb6.size)⟩
            have := HQ.out
            simp; omega
  · have e1 := of_bad hp
    rw [e1]
    clear e1 hown1
    go_wp2_with fail
    refine (awake_any _).mono ?_
    rintro e w4 ⟨rfl, hb7⟩
    go_wp2_with fail
    go_ret
    exact ⟨rfl, hb6.trans (hb7.mono hb6.size)⟩
end Go.Proofs.Ythkeibeelncgkaa
