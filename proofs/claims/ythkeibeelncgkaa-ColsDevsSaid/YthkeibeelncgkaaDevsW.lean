/-
  The walk of ColsDevs.
-/
import Derived.Test.YthkeibeelncgkaaApart
import Derived.Test.YthkeibeelncgkaaDevs
import Derived.Test.YthkeibeelncgkaaDevsQ
namespace Go.Proofs.Ythkeibeelncgkaa
open Go.RowKit
set_option linter.unusedVariables false

set_option maxRecDepth 100000 in
set_option maxHeartbeats 8000000 in
theorem devsLaw_any (A : Option Addr) (n c : Nat) (gs : List (Int × Int)) (secs pg pa size : Int) (w : World) (hg : GeoAt w A n gs) :
    Calls Try.prog 6 #[.agg #[.slice A n c, .int .i64 secs], .agg #[.int .i64 pg, .int .i64 pa], .int .i64 size] w fun e w' =>
      e = .returned (.bool true) ∧ Below w.heap.size w w' := by
  have hb0 : Below w.heap.size w ((w.alloc (Obj.cells #[Value.slice A n c, Value.int IntKind.i64 secs] 24)).alloc (Obj.cells #[Value.int IntKind.i64 pg, Value.int IntKind.i64 pa] 26)) :=
    ((Below.refl _ _).alloc (Nat.le_refl _) _).alloc (by simp) _
  have HO := Lib.hid (of_any A n c gs secs pg pa size _ (hg.below hb0 (Nat.le_refl _)))
  go_enter Try.func6, Try.ntmps6
  go_wp2_with fail
  refine HO.out.mono ?_
  rintro e w1 ⟨v1, rfl, hown1, hb1⟩
  have hb2 := hb0.trans (hb1.mono (by simp; omega))
  have k1 : w1.cell? ⟨w.heap.size, 0, none⟩ = some (.slice A n c) := keep_cell hb1 (cell_alloc (cell_new rfl rfl) _) (by simp; omega)
  have k2 : w1.cell? ⟨w.heap.size, 1, none⟩ = some (.int .i64 secs) := keep_cell hb1 (cell_alloc (cell_new rfl rfl) _) (by simp; omega)
  have k3 : w1.cell? ⟨w.heap.size + 1, 0, none⟩ = some (.int .i64 pg) := keep_cell hb1 (cell_new (by simp) rfl) (by simp)
  have k4 : w1.cell? ⟨w.heap.size + 1, 1, none⟩ = some (.int .i64 pa) := keep_cell hb1 (cell_new (by simp) rfl) (by simp)
  have hsz : w.heap.size + 2 ≤ w1.heap.size := by have := hb1.size; simp at this; omega
  clear hb1 hb0
  go_wp2_with fail
  refine (awake_any _).mono ?_
  rintro e w3 ⟨rfl, hb5⟩
  have hb6 := hb2.trans (hb5.mono hb2.size)
  by_cases hp : cMay gs secs pg pa size = true
  · obtain ⟨e1, e2⟩ := of_good hp
    rw [e2] at hown1
    rw [e1]
    clear e1 e2
    have hl1 := colsOf_len hp
    have hl0 := (cols_bd hp).1
    obtain ⟨A1, cp1, rfl, hL⟩ := slC_of_own hown1 (by omega)
    have hL3 := hL.below hb5 (Nat.le_refl _)
    have HDV := Lib.hid (devsC_any A1 _ cp1 _ w3 hL3 hl0 (by omega))
    obtain ⟨kind, s, wd, q1, q2, rfl, q4, q5, q6, q7, q8, q9, q10, q11⟩ := devs_pure hp
    have hdinc := (devsL_spec (colsOf gs secs pg pa s)).1
    have hdl := devsL_len (colsOf gs secs pg pa s)
    obtain ⟨hhas, _, _, _⟩ := cMay_true hp
    have hFb : 0 ≤ gFirst gs secs pg ∧ gFirst gs secs pg ≤ 32 := by
      unfold gFirst; rw [hhas]
      have hr : gRight gs secs = true := gHas_right hhas
      have := sum_take_bd hr pg.toNat
      simp only [if_true]; omega
    obtain ⟨hF0, hF1⟩ := hFb
    have hT := gTakes_bd gs secs pg s
    have HF : Hid (∀ W, Below w3.heap.size w3 W → Calls Try.prog 15 #[.agg #[.slice A n c, .int .i64 secs], .int .i64 pg] W fun e w' => e = .returned (.int .i64 (gFirst gs secs pg)) ∧ Below W.heap.size W w') :=
      Lib.hid fun W hb => first_any A n c gs secs pg W (hg.below (hb6.trans (hb.mono hb6.size)) (Nat.le_refl _))
    have HT : Hid (∀ W, Below w3.heap.size w3 W → Calls Try.prog 10 #[.agg #[.slice A n c, .int .i64 secs], .int .i64 pg, .int .i64 s] W fun e w' => e = .returned (.int .i64 (gTakes gs secs pg s)) ∧ Below W.heap.size W w') :=
      Lib.hid fun W hb => takes_any A n c gs secs pg s W (hg.below (hb6.trans (hb.mono hb6.size)) (Nat.le_refl _))
    obtain ⟨k, z, rfl, hk, hl4, hs1, hs2, hz, hgz, ho⟩ := gHas_true hhas
    have hg3 := hg.below hb6 (Nat.le_refl _)
    obtain ⟨bg, og, rfl, hgs⟩ := hg3.2.2 (by have := hg.1; omega)
    have hkn : (k : Int) < n := by have := hg.1; omega
    have hkn0 : (0 : Int) ≤ k := by omega
    obtain ⟨kd, wd'⟩ := z
    rw [hgz] at q1 q2
    simp only at q1 q2
    subst q1 q2
    have HZ := Lib.hid hz
    have m1 := keep_cell hb5 k1 (by omega)
    have m2 := keep_cell hb5 k2 (by omega)
    have m3 := keep_cell hb5 k3 (by omega)
    have m4 := keep_cell hb5 k4 (by omega)
    have hsz3 := keep_size hb5 hsz
    have HG : Hid (GsAt w3 bg og gs) := Lib.hid hgs
    have HQ1 := Lib.hid q9
    have HQ2 := Lib.hid q10
    have HQ3 := Lib.hid q11
    have HQ4 := Lib.hid hdinc
    obtain ⟨ht1, ht2⟩ := hT
    generalize gFirst gs secs k = F at *
    generalize gTakes gs secs k s = T at *
    generalize devsL (colsOf gs secs k pa s) = D at *
    generalize colsOf gs secs k pa s = L at *
    clear hL hown1 hhas HO k1 k2 k3 k4 hb2 hb5 hsz hp hg hL3 hz hgz ho hg3 hgs q9 q10 q11 hdinc
    go_wp2_with fail
    refine HDV.out.mono ?_
    rintro e w4 ⟨v, rfl, hown, hb7⟩
    have n1 := keep_cell hb7 m1 (by omega)
    have n2 := keep_cell hb7 m2 (by omega)
    have n3 := keep_cell hb7 m3 (by omega)
    have n4 := keep_cell hb7 m4 (by omega)
    obtain ⟨ao, cp, rfl⟩ := own_slice hown
    go_wp2_with fail
    refine (HF.out w4 hb7).mono ?_
    rintro e w5 ⟨rfl, hb8⟩
    have hown5 := own_below hown hb8
    have hb9 := hb7.trans (hb8.mono hb7.size)
    have p1 := keep_cell hb8 n1 (by have := hb7.size; omega)
    have p2 := keep_cell hb8 n2 (by have := hb7.size; omega)
    have p3 := keep_cell hb8 n3 (by have := hb7.size; omega)
    have p4 := keep_cell hb8 n4 (by have := hb7.size; omega)
    obtain ⟨z1, z2⟩ := (HG.out.below hb9 (Nat.le_refl _)).2 k _ HZ.out
    have HOWN := Lib.hid (hown5.alloc (.cells #[.int .i64 kind, .int .i64 wd] 43))
    have hb10 := hb9.alloc hb9.size (.cells #[.int .i64 kind, .int .i64 wd] 43)
    clear hown hown5 n1 n2 n3 n4
    go_wp2_with fail
    obtain ⟨w6, hw6⟩ : ∃ w6 : World, w6 = w5.alloc (.cells #[.int .i64 kind, .int .i64 wd] 43) := ⟨_, rfl⟩
    have x1 : w6.cell? ⟨w5.heap.size, 0, none⟩ = some (.int .i64 kind) := by rw [hw6]; simp
    have x2 : w6.cell? ⟨w5.heap.size, 1, none⟩ = some (.int .i64 wd) := by rw [hw6]; simp
    have hsz6 : w5.heap.size < w6.heap.size := by rw [hw6]; simp
    have r1 := cell_alloc p1 (.cells #[.int .i64 kind, .int .i64 wd] 43)
    have r2 := cell_alloc p2 (.cells #[.int .i64 kind, .int .i64 wd] 43)
    have r3 := cell_alloc p3 (.cells #[.int .i64 kind, .int .i64 wd] 43)
    rw [← hw6] at HOWN hb10 r1 r2 r3 ⊢
    clear hw6 p1 p2 p3 p4 z1 z2
    go_loopw [12] (fun t wr => ∃ i : Nat, i ≤ D.length ∧ t = .int .i64 i ∧ Below w6.heap.size w6 wr) (fun t _ => D.length - (intOf t).toNat)
    case atStart => exact ⟨0, Nat.zero_le _, rfl, Below.refl _ _⟩
    case round =>
      obtain ⟨i, hi, rfl, hb⟩ := hrel
      obtain ⟨wo, rfl⟩ : ∃ wo : World, wo = wr := ⟨_, rfl⟩
      have s1 := keep_cell hb x1 hsz6
      have s2 := keep_cell hb x2 hsz6
      by_cases hlt : i < D.length
      · obtain ⟨d, hd⟩ : ∃ d, D[i]? = some d := ⟨_, List.getElem?_eq_getElem hlt⟩
        obtain ⟨g, cap, e4, _, _⟩ := HOWN.out.form (by omega)
        injection e4 with e5 e6 e7
        subst e5 e7
        have hown2 := own_below HOWN.out hb
        have hcq : wo.cell? ⟨g, i, none⟩ = some (.int .i64 d) := by rw [hown2.cellAt i (by omega)]; exact intCells_get hd
        obtain ⟨d1, d2⟩ := HQ1.out d (List.mem_of_getElem? hd)
        have b1 : decide (d < F) = false := by simp; omega
        have b2 : decide (F + (wd : Int) ≤ d) = false := by simp; omega
        have hw1 : IntKind.i64.wrap (F + (wd : Int)) = F + (wd : Int) := by rw [IntKind.wrap_i64]; omega
        have hi0 : (0 : Int) ≤ i := by omega
        have hi1 : (i : Int) < D.length := by omega
        cases i with
        | zero =>
          clear hd hown2
          go_wp2_with fail
          go_quiet (fail)
          go_wp2_with fail
          go_roundw
          case rel => exact ⟨0 + 1, by omega, by go_num, below_drewN hb _⟩
          case measure => simp [intOf]; omega
        | succ j =>
          obtain ⟨d', hd'⟩ : ∃ d', D[j]? = some d' := ⟨_, List.getElem?_eq_getElem (by omega)⟩
          have hcj : wo.cell? ⟨g, j, none⟩ = some (.int .i64 d') := by rw [hown2.cellAt j (by omega)]; exact intCells_get hd'
          have hdd : d' < d := by
            have := List.pairwise_iff_getElem.1 HQ4.out j (j + 1) (by omega) hlt (by omega)
            rw [List.getElem?_eq_getElem (by omega)] at hd hd'
            injection hd with hd
            injection hd' with hd'
            rw [hd, hd'] at this
            exact this
          have b3 : decide (d ≤ d') = false := by simp; omega
          have b4 : decide ((0 : Int) < ((j + 1 : Nat) : Int)) = true := decide_eq_true (by omega)
          have b5 : decide ((0 : Int) < (j : Int) + 1) = true := decide_eq_true (by omega)
          have hw2 : IntKind.i64.wrap ((j : Int) + 1 - 1) = (j : Int) := by rw [IntKind.wrap_i64] <;> omega
          have hj0 : (0 : Int) ≤ j := by omega
          have hj1 : (j : Int) < D.length := by omega
          clear hd hd' hown2 hdd
          go_wp2_with fail
          go_quiet (fail)
          go_wp2_with fail
          go_roundw
          case rel => exact ⟨j + 1 + 1, by omega, by go_num, below_drewN hb _⟩
          case measure => simp [intOf]; omega
      · obtain rfl : i = D.length := by omega
        have hbb := hb10.trans (hb.mono hb10.size)
        rcases q8 with rfl | rfl
        · obtain ⟨t1, t2⟩ := HQ2.out rfl
          have hww : IntKind.i64.wrap ((s : Int) * (wd : Int)) = ((L.length : Nat) : Int) := by
            have h4 := Nat.mul_le_mul q7 q5
            rw [t2, IntKind.wrap_i64] <;> push_cast <;> omega
          go_wp2_with fail
          go_ret
          refine ⟨ret_bool ?_, hb6.trans (hbb.mono hb6.size)⟩
          simp
        · obtain ⟨t1, t2, t3⟩ := HQ3.out rfl
          have hu : w.heap.size + 2 ≤ w6.heap.size := by have := hb7.size; have := hb8.size; omega
          have u1 := keep_cell hb r1 (by omega)
          have u2 := keep_cell hb r2 (by omega)
          have u3 := keep_cell hb r3 (by omega)
          have c1 : decide ((s : Int) < (L.length : Int)) = true := decide_eq_true (by omega)
          go_wp2_with fail
          refine (HT.out wo hbb).mono ?_
          rintro e w7 ⟨rfl, hb11⟩
          go_wp2_with fail
          go_ret
          refine ⟨ret_bool ?_, hb6.trans ((hbb.trans (hb11.mono hbb.size)).mono hb6.size)⟩
          first | (simp; done) | (simp; omega)
  · have e1 := of_bad hp
    have hv : ∃ v c, v1 = .slice v 0 c := by
      have : (ofList gs secs pg pa size) = [] := by unfold ofList; rw [if_neg hp]
      rw [this] at hown1
      obtain ⟨a, c', e⟩ := own_slice hown1
      exact ⟨a, c', e⟩
    obtain ⟨v, c', rfl⟩ := hv
    rw [e1]
    clear e1 hown1
    go_wp2_with fail
    refine (awake_any _).mono ?_
    rintro e w4 ⟨rfl, hb7⟩
    go_wp2_with fail
    go_ret
    exact ⟨rfl, hb6.trans (hb7.mono hb6.size)⟩
end Go.Proofs.Ythkeibeelncgkaa
