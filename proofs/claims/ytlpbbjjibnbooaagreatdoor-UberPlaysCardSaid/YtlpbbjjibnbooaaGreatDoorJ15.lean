/-
  Contracts of package ptr: Places, apart, Right.
  The walk of PtrOrder.
  The walk of PtrPlaces.
-/
import Derived.Test.YtlpbbjjibnbooaaGreatDoorJ13
namespace Go.Proofs.YtlpbbjjibnbooaaGreatDoor
set_option linter.unusedVariables false
set_option linter.unusedSimpArgs false
open Go.RowKit

set_option maxRecDepth 100000 in
set_option maxHeartbeats 2000000 in
theorem apart_any (A : Option Addr) (n c : Nat) (gs : List (Int × Int)) (secs ag aa bg ba size : Int) (w : World) (hg : GeoAt w A n gs) (hba : 0 ≤ ba) (hba1 : ba ≤ 100000) (haa : 0 ≤ aa) (haa1 : aa ≤ 100000) :
    Calls Tryz.prog 108 #[.agg #[.slice A n c, .int .i64 secs], .agg #[.int .i64 ag, .int .i64 aa], .agg #[.int .i64 bg, .int .i64 ba], .int .i64 size] w fun e w' => e = .returned (.bool (apB gs secs ag aa bg ba size)) ∧ Below w.heap.size w w' := by
  have hb0 : Below w.heap.size w (((w.alloc (Obj.cells #[Value.slice A n c, Value.int IntKind.i64 secs] 24)).alloc (Obj.cells #[Value.int IntKind.i64 ag, Value.int IntKind.i64 aa] 26)).alloc (Obj.cells #[Value.int IntKind.i64 bg, Value.int IntKind.i64 ba] 26)) :=
    (((Below.refl _ _).alloc (Nat.le_refl _) _).alloc (by simp) _).alloc (by simp; omega) _
  go_enter Tryz.func108, Tryz.ntmps108
  go_wp2_with fail
  obtain ⟨ht1, ht2⟩ := gTakes_bd gs secs ag size
  obtain ⟨ht3, ht4⟩ := gTakes_bd gs secs bg size
  obtain ⟨w3, hw3⟩ : ∃ w3 : World, w3 = (((w.alloc (Obj.cells #[Value.slice A n c, Value.int IntKind.i64 secs] 24)).alloc (Obj.cells #[Value.int IntKind.i64 ag, Value.int IntKind.i64 aa] 26)).alloc (Obj.cells #[Value.int IntKind.i64 bg, Value.int IntKind.i64 ba] 26)) := ⟨_, rfl⟩
  have m1 : w3.cell? ⟨w.heap.size, 0, none⟩ = some (.slice A n c) := by rw [hw3]; exact cell_alloc (cell_alloc (cell_new rfl rfl) _) _
  have m2 : w3.cell? ⟨w.heap.size, 1, none⟩ = some (.int .i64 secs) := by rw [hw3]; exact cell_alloc (cell_alloc (cell_new rfl rfl) _) _
  have m3 : w3.cell? ⟨w.heap.size + 1, 0, none⟩ = some (.int .i64 ag) := by rw [hw3]; exact cell_alloc (cell_new (by simp) rfl) _
  have m4 : w3.cell? ⟨w.heap.size + 1, 1, none⟩ = some (.int .i64 aa) := by rw [hw3]; exact cell_alloc (cell_new (by simp) rfl) _
  have m5 : w3.cell? ⟨w.heap.size + 2, 0, none⟩ = some (.int .i64 bg) := by rw [hw3]; exact cell_new (by simp) rfl
  have m6 : w3.cell? ⟨w.heap.size + 2, 1, none⟩ = some (.int .i64 ba) := by rw [hw3]; exact cell_new (by simp) rfl
  have hs3 : w.heap.size + 3 ≤ w3.heap.size := by rw [hw3]; simp
  rw [← hw3] at hb0 ⊢
  clear hw3
  have HT : Hid (∀ (g s : Int) W, Below w3.heap.size w3 W → Calls Tryz.prog 131 #[.agg #[.slice A n c, .int .i64 secs], .int .i64 g, .int .i64 s] W fun e w' => e = .returned (.int .i64 (gTakes gs secs g s)) ∧ Below W.heap.size W w') :=
    Lib.hid fun g s W hb => takes_any A n c gs secs g s W (hg.below (hb0.trans (hb.mono hb0.size)) (Nat.le_refl _))
  have w1' : IntKind.i64.wrap (aa + gTakes gs secs ag size) = aa + gTakes gs secs ag size := by rw [IntKind.wrap_i64]; omega
  have w2' : IntKind.i64.wrap (ba + gTakes gs secs bg size) = ba + gTakes gs secs bg size := by rw [IntKind.wrap_i64]; omega
  obtain ⟨C, hC, hC0, hCB, hCK, hCd⟩ := cls_below w3
  have f1 : ∀ W, C W → W.cell? ⟨w.heap.size, 0, none⟩ = some (.slice A n c) := fun W h => keep_cell (hCB W h) m1 (by omega)
  have f2 : ∀ W, C W → W.cell? ⟨w.heap.size, 1, none⟩ = some (.int .i64 secs) := fun W h => keep_cell (hCB W h) m2 (by omega)
  have f3 : ∀ W, C W → W.cell? ⟨w.heap.size + 1, 0, none⟩ = some (.int .i64 ag) := fun W h => keep_cell (hCB W h) m3 (by omega)
  have f4 : ∀ W, C W → W.cell? ⟨w.heap.size + 1, 1, none⟩ = some (.int .i64 aa) := fun W h => keep_cell (hCB W h) m4 (by omega)
  have f5 : ∀ W, C W → W.cell? ⟨w.heap.size + 2, 0, none⟩ = some (.int .i64 bg) := fun W h => keep_cell (hCB W h) m5 (by omega)
  have f6 : ∀ W, C W → W.cell? ⟨w.heap.size + 2, 1, none⟩ = some (.int .i64 ba) := fun W h => keep_cell (hCB W h) m6 (by omega)
  have HA : Hid (apB gs secs ag aa bg ba size = ((ag != bg) || (decide (aa + gTakes gs secs ag size ≤ ba) || decide (ba + gTakes gs secs bg size ≤ aa)))) := Lib.hid rfl
  clear m1 m2 m3 m4 m5 m6 hg ht1 ht2 ht3 ht4
  cases h1 : (ag != bg) with
  | true =>
    have hv : Hid (apB gs secs ag aa bg ba size = true) := by unfold Hid; rw [HA.out, h1]; rfl
    refine wp_region_cls C (by kernel_rfl) (by kernel_rfl) hC ?_
    repeat (first
      | go_big_quiet_skip
      | (go_big_quiet_want
         go_big_quiet_op
         first
           | go_big_quiet_on
           | (apply Exists.intro
              refine ⟨fun W hW => ?_, ?_⟩
              · first
                  | exact rfl
                  | exact ⟨rfl, rfl⟩
                  | (have e0 := f1 W hW; have e1 := f2 W hW; have e2 := f3 W hW; have e3 := f4 W hW; have e4 := f5 W hW; have e5 := f6 W hW; simp only [e0, e1, e2, e3, e4, e5, Result.andThen_ok]; done)
                  | (have e0 := f1 W hW; have e1 := f2 W hW; have e2 := f3 W hW; have e3 := f4 W hW; have e4 := f5 W hW; have e5 := f6 W hW; simp only [e0, e1, e2, e3, e4, e5, Result.andThen_ok]; first | exact ⟨trivial, rfl⟩ | exact rfl | exact ⟨rfl, rfl⟩)
                  | (refine (HT.out _ _ W (hCB W hW)).mono ?_; rintro e w' ⟨rfl, hb⟩; exact ⟨rfl, hCK _ _ hW hb⟩)
              go_big_quiet_on)))
    refine wpQuiet_nil ?_
    intro w' hw'
    go_wp2_with fail
    go_ret
    exact ⟨ret_bool hv.out.symm, hb0.trans ((hCB w' hw').mono hb0.size)⟩
  | false =>
    cases h2 : decide (aa + gTakes gs secs ag size ≤ ba) with
    | true =>
      have hv : Hid (apB gs secs ag aa bg ba size = true) := by unfold Hid; rw [HA.out, h1, h2]; rfl
      refine wp_region_cls C (by kernel_rfl) (by kernel_rfl) hC ?_
      repeat (first
        | go_big_quiet_skip
        | (go_big_quiet_want
           go_big_quiet_op
           first
             | go_big_quiet_on
             | (apply Exists.intro
                refine ⟨fun W hW => ?_, ?_⟩
                · first
                    | exact rfl
                    | exact ⟨rfl, rfl⟩
                    | (have e0 := f1 W hW; have e1 := f2 W hW; have e2 := f3 W hW; have e3 := f4 W hW; have e4 := f5 W hW; have e5 := f6 W hW; simp only [e0, e1, e2, e3, e4, e5, Result.andThen_ok]; done)
                    | (have e0 := f1 W hW; have e1 := f2 W hW; have e2 := f3 W hW; have e3 := f4 W hW; have e4 := f5 W hW; have e5 := f6 W hW; simp only [e0, e1, e2, e3, e4, e5, Result.andThen_ok]; first | exact ⟨trivial, rfl⟩ | exact rfl | exact ⟨rfl, rfl⟩)
                    | (refine (HT.out _ _ W (hCB W hW)).mono ?_; rintro e w' ⟨rfl, hb⟩; exact ⟨rfl, hCK _ _ hW hb⟩)
                go_big_quiet_on)))
      refine wpQuiet_nil ?_
      intro w' hw'
      go_wp2_with fail
      go_ret
      exact ⟨ret_bool hv.out.symm, hb0.trans ((hCB w' hw').mono hb0.size)⟩
    | false =>
      have hv : Hid (apB gs secs ag aa bg ba size = decide (ba + gTakes gs secs bg size ≤ aa)) := by unfold Hid; rw [HA.out, h1, h2]; rfl
      refine wp_region_cls C (by kernel_rfl) (by kernel_rfl) hC ?_
      repeat (first
        | go_big_quiet_skip
        | (go_big_quiet_want
           go_big_quiet_op
           first
             | go_big_quiet_on
             | (apply Exists.intro
                refine ⟨fun W hW => ?_, ?_⟩
                · first
                    | exact rfl
                    | exact ⟨rfl, rfl⟩
                    | (have e0 := f1 W hW; have e1 := f2 W hW; have e2 := f3 W hW; have e3 := f4 W hW; have e4 := f5 W hW; have e5 := f6 W hW; simp only [e0, e1, e2, e3, e4, e5, Result.andThen_ok]; done)
                    | (have e0 := f1 W hW; have e1 := f2 W hW; have e2 := f3 W hW; have e3 := f4 W hW; have e4 := f5 W hW; have e5 := f6 W hW; simp only [e0, e1, e2, e3, e4, e5, Result.andThen_ok]; first | exact ⟨trivial, rfl⟩ | exact rfl | exact ⟨rfl, rfl⟩)
                    | (refine (HT.out _ _ W (hCB W hW)).mono ?_; rintro e w' ⟨rfl, hb⟩; exact ⟨rfl, hCK _ _ hW hb⟩)
                go_big_quiet_on)))
      refine wpQuiet_nil ?_
      intro w' hw'
      go_wp2_with fail
      go_ret
      exact ⟨ret_bool hv.out.symm, hb0.trans ((hCB w' hw').mono hb0.size)⟩

set_option maxRecDepth 100000 in
set_option maxHeartbeats 2000000 in
theorem pright_any (A : Option Addr) (n c : Nat) (gs : List (Int × Int)) (secs : Int) (p : PtrD) (w : World) (hg : GeoAt w A n gs) :
    Calls Tryz.prog 75 #[.agg #[.slice A n c, .int .i64 secs], .agg p.cells] w fun e w' => e = .returned (.bool (rightB gs secs p)) ∧ Below w.heap.size w w' := by
  have hb0 : Below w.heap.size w ((w.alloc (Obj.cells #[Value.slice A n c, Value.int IntKind.i64 secs] 24)).alloc (.cells p.cells 31)) :=
    ((Below.refl _ _).alloc (Nat.le_refl _) _).alloc (by simp) _
  have HP := Lib.hid (PtrAt.new (w.alloc (Obj.cells #[Value.slice A n c, Value.int IntKind.i64 secs] 24)) p 31)
  rw [World.size_alloc] at HP
  have h := HP.out
  obtain ⟨h0, h1, h2, h3, h4, h5, h6, h7, h8, h9, ha, hc⟩ := h
  simp only [Nat.zero_add] at h1 h2 h3 h4 h5 h6 h7 h8 h9 ha hc
  have hs0 : w.heap.size + 2 ≤ ((w.alloc (Obj.cells #[Value.slice A n c, Value.int IntKind.i64 secs] 24)).alloc (.cells p.cells 31)).heap.size := by simp
  have k1 : ((w.alloc (Obj.cells #[Value.slice A n c, Value.int IntKind.i64 secs] 24)).alloc (.cells p.cells 31)).cell? ⟨w.heap.size, 0, none⟩ = some (.slice A n c) := cell_alloc (cell_new rfl rfl) _
  have k2 : ((w.alloc (Obj.cells #[Value.slice A n c, Value.int IntKind.i64 secs] 24)).alloc (.cells p.cells 31)).cell? ⟨w.heap.size, 1, none⟩ = some (.int .i64 secs) := cell_alloc (cell_new rfl rfl) _
  by_cases hgood : (0 ≤ p.level ∧ p.level ≤ 3) ∧ (1 ≤ p.birth ∧ p.birth ≤ 4294967295)
  · obtain ⟨⟨g1, g2⟩, g3, g4⟩ := hgood
    have HR : Hid (rightB gs secs p = (cMay gs secs p.ag p.aa p.size && (if p.two then cMay gs secs p.bg p.ba p.size && apB gs secs p.ag p.aa p.bg p.ba p.size else p.bg == 0 && p.ba == 0))) := by
      unfold Hid rightB; rw [decide_eq_true g1, decide_eq_true g2, decide_eq_true g3, decide_eq_true g4]; rfl
    go_enter Tryz.func75, Tryz.ntmps75
    go_wp2_with fail
    refine (of_any A n c gs secs p.ag p.aa p.size _ (hg.below hb0 (Nat.le_refl _))).mono ?_
    rintro e w1 ⟨v1, rfl, _, hb1⟩
    have hP1 := HP.out.keep hb1 (by omega)
    have hb2 := hb0.trans (hb1.mono hb0.size)
    have hs1 := keep_size hb1 hs0
    have l1 := keep_cell hb1 k1 (by omega)
    have l2 := keep_cell hb1 k2 (by omega)
    clear h0 h1 h2 h3 h4 h5 h6 h7 h8 h9 ha hc hb1 k1 k2
    by_cases hp : cMay gs secs p.ag p.aa p.size = true
    · have e1 : ofErr gs secs p.ag p.aa p.size = 0 := by unfold ofErr; rw [if_pos hp]
      have hbd := cMay_bd hp
      rw [e1]
      rw [hp, Bool.true_and] at HR
      clear hp e1
      have HP1 := Lib.hid hP1
      obtain ⟨h0, h1, h2, h3, h4, h5, h6, h7, h8, h9, ha, hc⟩ := hP1
      simp only [Nat.zero_add] at h1 h2 h3 h4 h5 h6 h7 h8 h9 ha hc
      cases ht : p.two with
      | false =>
        rw [ht] at h4 HR
        rw [if_neg (by simp)] at HR
        have he := fun W => eql_place p.bg p.ba 0 0 W
        go_wp2_with fail
        go_ret
        exact ⟨ret_bool HR.out.symm, hb2⟩
      | true =>
        rw [ht] at h4 HR
        rw [if_pos rfl] at HR
        go_wp2_with fail
        refine (of_any A n c gs secs p.bg p.ba p.size _ (hg.below hb2 (Nat.le_refl _))).mono ?_
        rintro e w2 ⟨v2, rfl, _, hb3⟩
        have hP2 := HP1.out.keep hb3 (by omega)
        have hb4 := hb2.trans (hb3.mono hb2.size)
        have hs2 := keep_size hb3 hs1
        have n1 := keep_cell hb3 l1 (by omega)
        have n2 := keep_cell hb3 l2 (by omega)
        clear h0 h1 h2 h3 h4 h5 h6 h7 h8 h9 ha hc hb3 l1 l2
        by_cases hq : cMay gs secs p.bg p.ba p.size = true
        · have e1 : ofErr gs secs p.bg p.ba p.size = 0 := by unfold ofErr; rw [if_pos hq]
          have hbq := cMay_bd hq
          rw [e1]
          rw [hq, Bool.true_and] at HR
          clear hq e1
          obtain ⟨h0, h1, h2, h3, h4, h5, h6, h7, h8, h9, ha, hc⟩ := hP2
          simp only [Nat.zero_add] at h1 h2 h3 h4 h5 h6 h7 h8 h9 ha hc
          rw [ht] at h4
          go_wp2_with fail
          refine (apart_any A n c gs secs p.ag p.aa p.bg p.ba p.size _ (hg.below hb4 (Nat.le_refl _)) (by omega) (by omega) (by omega) (by omega)).mono ?_
          rintro e w3 ⟨rfl, hb5⟩
          go_wp2_with fail
          go_ret
          exact ⟨ret_bool HR.out.symm, hb4.trans (hb5.mono hb4.size)⟩
        · have e1 : ofErr gs secs p.bg p.ba p.size = 1 := by unfold ofErr; rw [if_neg hq]
          have hq' : cMay gs secs p.bg p.ba p.size = false := by simpa using hq
          rw [e1]
          rw [hq', Bool.false_and] at HR
          go_wp2_with fail
          go_ret
          exact ⟨ret_bool HR.out.symm, hb4⟩
    · have e1 : ofErr gs secs p.ag p.aa p.size = 1 := by unfold ofErr; rw [if_neg hp]
      have hp' : cMay gs secs p.ag p.aa p.size = false := by simpa using hp
      rw [e1]
      rw [hp', Bool.false_and] at HR
      go_wp2_with fail
      go_ret
      exact ⟨ret_bool HR.out.symm, hb2⟩
  · have HR : Hid (rightB gs secs p = false) := by
      unfold Hid
      cases hr : rightB gs secs p with
      | false => rfl
      | true =>
        simp only [rightB, Bool.and_eq_true, decide_eq_true_eq] at hr
        exact absurd ⟨⟨hr.1.1.1.1.1, hr.1.1.1.1.2⟩, hr.1.1.1.2, hr.1.1.2⟩ hgood
    go_enter Tryz.func75, Tryz.ntmps75
    go_wp2_with fail
    all_goals first | (exfalso; omega) | (go_ret; exact ⟨ret_bool HR.out.symm, hb0⟩)
end Go.Proofs.YtlpbbjjibnbooaaGreatDoor

namespace Go.Proofs.YtlpbbjjibnbooaaGreatDoor
open Go.RowKit
set_option linter.unusedVariables false

theorem ptrZ_ok : ptrZ.Ok := by unfold PtrD.Ok ptrZ; decide
end Go.Proofs.YtlpbbjjibnbooaaGreatDoor

namespace Go.Proofs.YtlpbbjjibnbooaaGreatDoor
set_option linter.unusedVariables false
set_option linter.unusedSimpArgs false
open Go.RowKit

end Go.Proofs.YtlpbbjjibnbooaaGreatDoor
