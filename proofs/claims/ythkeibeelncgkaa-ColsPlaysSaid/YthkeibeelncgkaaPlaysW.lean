/-
  The walk of ColsPlays.
-/
import Derived.Test.YthkeibeelncgkaaApart
import Derived.Test.YthkeibeelncgkaaDevs
import Derived.Test.YthkeibeelncgkaaDataW
import Derived.Test.YthkeibeelncgkaaPlaysP
import Derived.Test.YthkeibeelncgkaaRef06c
namespace Go.Proofs.Ythkeibeelncgkaa
open Go.RowKit
set_option linter.unusedVariables false

set_option maxRecDepth 100000 in
set_option maxHeartbeats 8000000 in
theorem playsLaw_any (A : Option Addr) (n c : Nat) (gs : List (Int × Int)) (secs pg pa size i : Int) (w : World) (hg : GeoAt w A n gs) :
    Calls Try.prog 7 #[.agg #[.slice A n c, .int .i64 secs], .agg #[.int .i64 pg, .int .i64 pa], .int .i64 size, .int .i64 i] w fun e w' =>
      e = .returned (.bool true) ∧ Below w.heap.size w w' := by
  have hb0 : Below w.heap.size w ((w.alloc (Obj.cells #[Value.slice A n c, Value.int IntKind.i64 secs] 24)).alloc (Obj.cells #[Value.int IntKind.i64 pg, Value.int IntKind.i64 pa] 26)) :=
    ((Below.refl _ _).alloc (Nat.le_refl _) _).alloc (by simp) _
  go_enter Try.func7, Try.ntmps7
  go_wp2_with fail
  refine (awake_any _).mono ?_
  rintro e w1 ⟨rfl, hb1⟩
  have hb2 := hb0.trans (hb1.mono (by simp; omega))
  have k1 : w1.cell? ⟨w.heap.size, 0, none⟩ = some (.slice A n c) := keep_cell hb1 (cell_alloc (cell_new rfl rfl) _) (by simp; omega)
  have k2 : w1.cell? ⟨w.heap.size, 1, none⟩ = some (.int .i64 secs) := keep_cell hb1 (cell_alloc (cell_new rfl rfl) _) (by simp; omega)
  have k3 : w1.cell? ⟨w.heap.size + 1, 0, none⟩ = some (.int .i64 pg) := keep_cell hb1 (cell_new (by simp) rfl) (by simp)
  have k4 : w1.cell? ⟨w.heap.size + 1, 1, none⟩ = some (.int .i64 pa) := keep_cell hb1 (cell_new (by simp) rfl) (by simp)
  have hsz : w.heap.size + 2 ≤ w1.heap.size := by have := hb1.size; simp at this; omega
  clear hb1 hb0
  by_cases hn : (100 : Int) < n
  · go_wp2_with fail
    refine (awake_any _).mono ?_
    rintro e w2 ⟨rfl, hb3⟩
    go_wp2_with fail
    go_ret
    exact ⟨rfl, hb2.trans (hb3.mono hb2.size)⟩
  · have hn1 : (n : Int) ≤ 100 := by omega
    have HO := Lib.hid (of_any A n c gs secs pg pa size _ (hg.below hb2 (Nat.le_refl _)))
    go_wp2_with fail
    refine HO.out.mono ?_
    rintro e w2 ⟨v1, rfl, hown1, hb3⟩
    have hb4 := hb2.trans (hb3.mono hb2.size)
    have l1 := keep_cell hb3 k1 (by omega)
    have l2 := keep_cell hb3 k2 (by omega)
    have l3 := keep_cell hb3 k3 (by omega)
    have l4 := keep_cell hb3 k4 (by omega)
    have hs2 := keep_size hb3 hsz
    clear HO hb3 k1 k2 k3 k4
    go_wp2_with fail
    refine (data_any A n c gs secs pg pa size i _ (hg.below hb4 (Nat.le_refl _))).mono ?_
    rintro e w3 ⟨A2, mm, c2, rfl, hM, hb5⟩
    have hb6 := hb4.trans (hb5.mono hb4.size)
    have m1 := keep_cell hb5 l1 (by omega)
    have m2 := keep_cell hb5 l2 (by omega)
    have m3 := keep_cell hb5 l3 (by omega)
    have m4 := keep_cell hb5 l4 (by omega)
    have hs3 := keep_size hb5 hs2
    have hown3 := own_below hown1 hb5
    clear l1 l2 l3 l4 hown1
    go_wp2_with fail
    refine (refMay_any A n c gs secs pg pa size _ (hg.below hb6 (Nat.le_refl _))).mono ?_
    rintro e w4 ⟨rfl, hb7⟩
    have hb8 := hb6.trans (hb7.mono hb6.size)
    have n1 := keep_cell hb7 m1 (by omega)
    have n2 := keep_cell hb7 m2 (by omega)
    have n3 := keep_cell hb7 m3 (by omega)
    have n4 := keep_cell hb7 m4 (by omega)
    have hs4 := keep_size hb7 hs3
    have hown4 := own_below hown3 hb7
    have hM4 := hM.below hb7 (Nat.le_refl _)
    clear m1 m3 m4 hown3 hM
    by_cases hp : cMay gs secs pg pa size = true
    · rw [hp]
      obtain ⟨e1, e2⟩ := of_good hp
      rw [e2] at hown4
      rw [e1]
      clear e1 e2
      have hl1 := colsOf_len hp
      have hl0 := (cols_bd hp).1
      obtain ⟨A1, cp1, rfl, hL⟩ := slC_of_own hown4 (by omega)
      have HL := Lib.hid hL
      have hcas : (dataOk gs secs pg pa size i = true ∧ decide (0 ≤ i) = true ∧ decide (i < size) = true) ∨ (dataOk gs secs pg pa size i = false ∧ decide (0 ≤ i) = true ∧ decide (i < size) = false) ∨ (dataOk gs secs pg pa size i = false ∧ decide (0 ≤ i) = false) := by
        unfold dataOk; rw [hp]
        cases decide (0 ≤ i) <;> cases decide (i < size) <;> simp
      have HRO := Lib.hid (refOf_any A n c gs secs pg pa size _ (hg.below hb8 (Nat.le_refl _)) hp)
      have HRD : Hid (∀ W, Below w4.heap.size w4 W → _) := Lib.hid fun W hb => refData_any A n c gs secs pg pa size i W (hg.below (hb8.trans (hb.mono hb8.size)) (Nat.le_refl _)) hp
      have HDV := Lib.hid fun W hb => devsC_any A1 _ cp1 _ W (hL.below hb (Nat.le_refl _)) hl0 (by omega)
      have HGD : Hid (∀ W, Below w4.heap.size w4 W → Calls Try.prog 11 #[.agg #[.slice A n c, .int .i64 secs]] W fun e w' => e = .returned (.int .i64 (gDevs gs secs)) ∧ Below W.heap.size W w') :=
        Lib.hid fun W hb => devs_any A n c gs secs W (hg.below (hb8.trans (hb.mono hb8.size)) (Nat.le_refl _))
      have HHT := Lib.hid (hasTo_all (colsOf gs secs pg pa size))
      have HIN := Lib.hid (devsL_spec (colsOf gs secs pg pa size)).1
      have hdl := devsL_len (colsOf gs secs pg pa size)
      have hml : (dataOf gs secs pg pa size i).length ≤ 1000 := by
        unfold dataOf
        split
        · split
          · exact Nat.le_trans (List.length_filter_le _ _) (by omega)
          · exact Nat.le_trans (List.length_take_le _ _) (by omega)
        · simp
      have hgd : 0 ≤ gDevs gs secs ∧ gDevs gs secs ≤ 32 := by
        have hr : gRight gs secs = true := gHas_right (cMay_true hp).1
        have := sum_take_bd hr gs.length
        rw [List.take_length] at this
        unfold gDevs; rw [hr]; exact this
      have HLT : Hid (∀ d ∈ devsL (colsOf gs secs pg pa size), 0 ≤ d ∧ d < gDevs gs secs) := by
        have hhas := (cMay_true hp).1
        obtain ⟨kind, s, wd, q1, q2, _, _, _, _, _, _, q9, _, _⟩ := devs_pure hp
        obtain ⟨k, z, hkk, hk, _, _, _, hz, hgz, _⟩ := gHas_true hhas
        subst hkk
        have h1 := gFirst_devs hhas hz
        have h2 := sum_take_bd (gHas_right hhas) k
        have h3 : gFirst gs secs k = gSum (gs.take k) := by unfold gFirst; rw [hhas]; rfl
        rw [hgz] at q2
        intro d hd
        have := q9 d hd
        omega
      obtain ⟨hgd0, hgd1⟩ := hgd
      generalize colsOf gs secs pg pa size = L at *
      generalize dataOf gs secs pg pa size i = M at *
      generalize gDevs gs secs = GD at *
      obtain ⟨GD, rfl⟩ := Int.eq_ofNat_of_zero_le hgd0
      generalize devsL L = D at *
      have HM4 := Lib.hid hM4
      have HMN : Hid (M.length = mm) := Lib.hid hM4.1
      have hmb : mm ≤ 1000 := by have := hml; have := hM4.1; omega
      rw [hp] at *
      clear hp hg hown4 hL hM4
      go_wp2_with fail
      refine HRO.out.mono ?_
      rintro e w5 ⟨v5, rfl, hown5, hb9⟩
      obtain ⟨A5, cp5, rfl, hL5⟩ := slC_of_own hown5 (by omega)
      have o1 := keep_cell hb9 n1 (by omega)
      have o2 := keep_cell hb9 n2 (by omega)
      have o3 := keep_cell hb9 n3 (by omega)
      have o4 := keep_cell hb9 n4 (by omega)
      go_wp2_with fail
      refine (same_any _ _ _ _ _ _ L L _ (HL.out.below hb9 (Nat.le_refl _)) hL5).mono ?_
      rintro e w6 ⟨rfl, hb10⟩
      have hb11 := hb9.trans (hb10.mono hb9.size)
      have q1 := keep_cell hb11 n1 (by omega)
      have q2 := keep_cell hb11 n2 (by omega)
      have q3 := keep_cell hb11 n3 (by omega)
      have q4 := keep_cell hb11 n4 (by omega)
      rw [decide_eq_true (rfl : L = L)]
      clear o1 o2 o3 o4 hown5 hL5
      rcases hcas with ⟨u1, u2, u3⟩ | ⟨u1, u2, u3⟩ | ⟨u1, u2⟩
      all_goals
        rw [u1]
        go_wp2_with fail
        refine (HRD.out w6 hb11).mono ?_
        rintro e w7 ⟨v7, rfl, hown7, hb12⟩
        obtain ⟨A7, n7, cp7, rfl⟩ : ∃ a n c, v7 = .slice a n c := by obtain ⟨a, c', e⟩ := own_slice hown7; exact ⟨a, _, c', e⟩
        have hM7 : SlC w7 A7 n7 M := by
          obtain ⟨a, c', e, h⟩ := slC_of_own hown7 (by rw [HMN.out]; omega)
          injection e with e1 e2 e3
          subst e1 e2
          exact h
        have hb13 := hb11.trans (hb12.mono hb11.size)
        go_wp2_with fail
        refine (same_any _ _ _ _ _ _ M M _ (HM4.out.below hb13 (Nat.le_refl _)) hM7).mono ?_
        rintro e w8 ⟨rfl, hb14⟩
        have hb15 := hb13.trans (hb14.mono hb13.size)
        rw [decide_eq_true (rfl : M = M)]
        clear hown7 hM7 hb12 hb14 q1 q2 q3 q4
        go_wp2_with fail
        refine (HDV.out w8 hb15).mono ?_
        rintro e w9 ⟨v9, rfl, hown9, hb16⟩
        have hb17 := hb15.trans (hb16.mono hb15.size)
        obtain ⟨A9, cp9, rfl⟩ := own_slice hown9
        have HW := Lib.hid hown9
        have HL9 : Hid (SlC w9 A1 L.length L) := Lib.hid (HL.out.below hb17 (Nat.le_refl _))
        obtain ⟨bl, ol, rfl, hcs⟩ := HL9.out.2.2 (by omega)
        have HCS := Lib.hid hcs
        have c1 := keep_cell hb17 n1 (by omega)
        have c2' := keep_cell hb17 n2 (by omega)
        have hs9 := keep_size hb17 hs4
        clear hcs hown9
        go_wp2_with fail
        go_loopw [14, 15] (fun s t wr => ∃ x : Nat, x ≤ GD ∧ s = .int .i64 (cnt D x) ∧ t = .int .i64 x ∧ Below w9.heap.size w9 wr) (fun _ t _ => GD - (intOf t).toNat)
        case atStart => exact ⟨0, Nat.zero_le _, by rw [show cnt D ((0 : Nat) : Int) = 0 from cnt_zero fun d hd => (HLT.out d hd).1]; rfl, rfl, Below.refl _ _⟩
        case round =>
          obtain ⟨x, hx, rfl, rfl, hb⟩ := hrel
          have d1 := keep_cell hb c1 (by omega)
          have d2 := keep_cell hb c2' (by omega)
          have HCN := Lib.hid (cnt_step HIN.out (x : Int))
          have hcl := cnt_le D x
          by_cases hlt : x < GD
          · go_wp2_with fail
            refine (HGD.out wr (hb17.trans (hb.mono hb17.size))).mono ?_
            rintro e wa ⟨rfl, hba⟩
            have hbb := hb.trans (hba.mono hb.size)
            go_wp2_with fail
            go_loopw [16, 17] (fun s t wr => ∃ k : Nat, k ≤ L.length ∧ s = .bool (hasTo L x k) ∧ t = .int .i64 k ∧ Below w9.heap.size w9 wr) (fun _ t _ => L.length - (intOf t).toNat)
            case atStart => exact ⟨0, Nat.zero_le _, rfl, rfl, hbb⟩
            case round =>
              obtain ⟨k, hk, rfl, rfl, hbk⟩ := hrel
              by_cases hlk : k < L.length
              · obtain ⟨y, hy⟩ : ∃ y, L[k]? = some y := ⟨_, List.getElem?_eq_getElem hlk⟩
                obtain ⟨y1, _, _, _⟩ := (HCS.out.below hbk (Nat.le_refl _)).2 k y hy
                have HS := Lib.hid (hasTo_step (x := (x : Int)) hy)
                have hk0 : (0 : Int) ≤ k := by omega
                have hk1 : (k : Int) < L.length := by omega
                clear hy
                cases hh : hasTo L x k with
                | true =>
                  rw [hh, Bool.true_or] at HS
                  go_wp2_with fail
                  go_roundw
                  case rel => exact ⟨k + 1, by omega, by rw [HS.out], by go_num, hbk⟩
                  case measure => simp [intOf]; omega
                | false =>
                  rw [hh, Bool.false_or] at HS
                  go_wp2_with fail
                  go_roundw
                  case rel => exact ⟨k + 1, by omega, by rw [HS.out], by go_num, hbk⟩
                  case measure => simp [intOf]; omega
              · obtain rfl : k = L.length := by omega
                rw [HHT.out]
                by_cases hm : (x : Int) ∈ D
                · obtain ⟨z1, z2⟩ := HCN.out.1 hm
                  have HZ := Lib.hid z2
                  have hcl2 : cnt D x < D.length := by
                    rcases Nat.lt_or_ge (cnt D x) D.length with h | h
                    · exact h
                    · rw [List.getElem?_eq_none h] at z1; exact absurd z1 (by simp)
                  obtain ⟨g, cap, e4, _, _⟩ := HW.out.form (by omega)
                  injection e4 with e5 e6 e7
                  subst e5 e7
                  have hcq : _ := (own_below HW.out hbk).cellAt (cnt D x) (by omega)
                  rw [intCells_get z1] at hcq
                  have hc0 : (0 : Int) ≤ (cnt D x : Nat) := by omega
                  have hc1 : ((cnt D x : Nat) : Int) < D.length := by omega
                  rw [decide_eq_true hm]
                  clear z1 z2
                  go_wp2_with fail
                  go_roundw
                  case rel => exact ⟨x + 1, by omega, by rw [show ((x + 1 : Nat) : Int) = (x : Int) + 1 from by push_cast; rfl, HZ.out]; go_num, by go_num, hbk⟩
                  case measure => simp [intOf]; omega
                · rw [decide_eq_false hm]
                  have HZ := Lib.hid (HCN.out.2 hm)
                  go_wp2_with fail
                  go_roundw
                  case rel => exact ⟨x + 1, by omega, by rw [show ((x + 1 : Nat) : Int) = (x : Int) + 1 from by push_cast; rfl, HZ.out], by go_num, hbk⟩
                  case measure => simp [intOf]; omega
          · obtain rfl : x = GD := by omega
            have hce : cnt D x = D.length := cnt_all fun d hd => (HLT.out d hd).2
            go_wp2_with fail
            refine (HGD.out wr (hb17.trans (hb.mono hb17.size))).mono ?_
            rintro e wa ⟨rfl, hba⟩
            go_wp2_with fail
            go_ret
            refine ⟨ret_bool (by simp), hb8.trans ((hb17.trans ((hb.trans (hba.mono hb.size)).mono hb17.size)).mono hb8.size)⟩
    · have hp' : cMay gs secs pg pa size = false := by simpa using hp
      rw [hp']
      have e1 := of_bad hp
      have hv : ∃ v c, v1 = .slice v 0 c := by
        have : (ofList gs secs pg pa size) = [] := by unfold ofList; rw [if_neg hp]
        rw [this] at hown4
        obtain ⟨a, c', e⟩ := own_slice hown4
        exact ⟨a, c', e⟩
      obtain ⟨v, c', rfl⟩ := hv
      rw [e1]
      have hdk : dataOk gs secs pg pa size i = false := by unfold dataOk; rw [hp']; rfl
      have hm0 : mm = 0 := by
        have : dataOf gs secs pg pa size i = [] := by unfold dataOf; rw [hdk]; rfl
        rw [this] at hM4
        exact hM4.1.symm
      subst hm0
      rw [hdk]
      have hS0 : SlC w4 v 0 [] := ⟨rfl, by omega, fun h => absurd h (by omega)⟩
      go_wp2_with fail
      refine (rows_any v 0 c' [] w4 hS0 (fun x hx => absurd hx (by simp))).mono ?_
      rintro e w5 ⟨rfl, hb9⟩
      go_wp2_with fail
      go_ret
      exact ⟨rfl, hb8.trans (hb9.mono hb8.size)⟩
end Go.Proofs.Ythkeibeelncgkaa
