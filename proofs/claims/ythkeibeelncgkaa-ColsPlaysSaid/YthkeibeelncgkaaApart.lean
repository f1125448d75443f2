/-
  The walk of ColsApart.
-/
import Derived.Test.YthkeibeelncgkaaCols7
import Derived.Deep.DeepCutAuto
namespace Go.Proofs.Ythkeibeelncgkaa
open Go.RowKit
set_option linter.unusedVariables false

theorem cell_alloc {W : World} {b o : Nat} {v : Value} (h : W.cell? ⟨b, o, none⟩ = some v) (X : Obj) : (W.alloc X).cell? ⟨b, o, none⟩ = some v :=
  (World.cell?_alloc_lt W X _ (World.block_lt_of_cell? W _ h)).trans h
theorem cell_new {W : World} {k o : Nat} {cs : Array Value} {t : TypeId} {v : Value} (hk : k = W.heap.size) (h : cs[o]? = some v) : (W.alloc (.cells cs t)).cell? ⟨k, o, none⟩ = some v := by
  subst hk
  rw [cell_of_row _ _ _ cs t (0, 0) (heap_alloc_new W _)]
  exact h

theorem wp_region_cls {P : Program} {id : Nat} {Q : Exit → Act → World → Prop} {a : Act} {w : World} {l : List Oper} (C : World → Prop) (hm : P.follows .mixedOrders = true) (hB : Region.lexB .any l.toArray = true)
    (hC : C w.drew) (h : wpQuiet P l.toArray C (fun a' => ∀ w', C w' → Q .normal a' w') l a) : (Code.region id l.toArray true).wp P Q a w :=
  wp_region_quiet (C := C) hm hB hC (by simpa using h)

theorem of_bad {gs : List (Int × Int)} {secs pg pa size : Int} (h : ¬ cMay gs secs pg pa size = true) : ofErr gs secs pg pa size = 1 := by unfold ofErr; rw [if_neg h]
theorem of_good {gs : List (Int × Int)} {secs pg pa size : Int} (h : cMay gs secs pg pa size = true) : ofErr gs secs pg pa size = 0 ∧ ofList gs secs pg pa size = colsOf gs secs pg pa size := by
  unfold ofErr ofList; rw [if_pos h, if_pos h]; exact ⟨rfl, rfl⟩

theorem colsOf_len {gs : List (Int × Int)} {secs pg pa size : Int} (h : cMay gs secs pg pa size = true) : (colsOf gs secs pg pa size).length ≤ 64 := by
  obtain ⟨hhas, hz1, hz2, _⟩ := cMay_true h
  obtain ⟨sz, rfl⟩ := Int.eq_ofNat_of_zero_le (show 0 ≤ size by omega)
  obtain ⟨g, x, rfl, hk, hl4, hs1, hs2, hx, hgx, ho⟩ := gHas_true hhas
  unfold colsOf
  rw [hgx]
  obtain ⟨kd, wd⟩ := x
  split
  · rw [mirror, mirTo_len]
    have : wd.toNat ≤ 8 := by have := gOne_true ho; simp only at this; omega
    have := Nat.mul_le_mul this (show (sz : Int).toNat ≤ 4 by omega)
    simp only at this ⊢
    omega
  · have := parTo_len (gFirst gs secs g) wd pa (sz : Int).toNat
    simp only at this ⊢
    omega

set_option maxRecDepth 100000 in
set_option maxHeartbeats 8000000 in
theorem apart_any (A : Option Addr) (n c : Nat) (gs : List (Int × Int)) (secs pg pa qg qa a b : Int) (w : World) (hg : GeoAt w A n gs) :
    Calls Try.prog 3 #[.agg #[.slice A n c, .int .i64 secs], .agg #[.int .i64 pg, .int .i64 pa], .agg #[.int .i64 qg, .int .i64 qa], .int .i64 a, .int .i64 b] w fun e w' =>
      e = .returned (.bool true) ∧ Below w.heap.size w w' := by
  have hb0 : Below w.heap.size w (((w.alloc (Obj.cells #[Value.slice A n c, Value.int IntKind.i64 secs] 24)).alloc (Obj.cells #[Value.int IntKind.i64 pg, Value.int IntKind.i64 pa] 26)).alloc (Obj.cells #[Value.int IntKind.i64 qg, Value.int IntKind.i64 qa] 26)) :=
    (((Below.refl _ _).alloc (Nat.le_refl _) _).alloc (by simp) _).alloc (by simp; omega) _
  have HO : Hid (∀ (pg pa a : Int) w1, Below w.heap.size w w1 → Calls Try.prog 8 #[.agg #[.slice A n c, .int .i64 secs], .agg #[.int .i64 pg, .int .i64 pa], .int .i64 a] w1 fun e w' => ∃ v, e = .returned (.tuple #[v, .int .i64 (ofErr gs secs pg pa a)]) ∧
        w'.ownsRow w1.heap.size 34 4 v (ofList gs secs pg pa a).length (colsCells (ofList gs secs pg pa a)) ∧ Below w1.heap.size w1 w') :=
    Lib.hid fun pg pa a w1 hb => of_any A n c gs secs pg pa a w1 (hg.below hb (Nat.le_refl _))
  go_enter Try.func3, Try.ntmps3
  go_wp2_with fail
  refine (HO.out _ _ _ _ hb0).mono ?_
  rintro e w1 ⟨v1, rfl, hown1, hb1⟩
  have hb2 := hb0.trans (hb1.mono (by simp; omega))
  have hs0 : w.heap.size + 3 = (((w.alloc (Obj.cells #[Value.slice A n c, Value.int IntKind.i64 secs] 24)).alloc (Obj.cells #[Value.int IntKind.i64 pg, Value.int IntKind.i64 pa] 26)).alloc (Obj.cells #[Value.int IntKind.i64 qg, Value.int IntKind.i64 qa] 26)).heap.size := by simp
  have k1 : w1.cell? ⟨w.heap.size, 0, none⟩ = some (.slice A n c) := keep_cell hb1 (cell_alloc (cell_alloc (cell_new rfl rfl) _) _) (by omega)
  have k2 : w1.cell? ⟨w.heap.size, 1, none⟩ = some (.int .i64 secs) := keep_cell hb1 (cell_alloc (cell_alloc (cell_new rfl rfl) _) _) (by omega)
  have k3 : w1.cell? ⟨w.heap.size + 1, 0, none⟩ = some (.int .i64 pg) := keep_cell hb1 (cell_alloc (cell_new (by simp) rfl) _) (by omega)
  have k4 : w1.cell? ⟨w.heap.size + 1, 1, none⟩ = some (.int .i64 pa) := keep_cell hb1 (cell_alloc (cell_new (by simp) rfl) _) (by omega)
  have k5 : w1.cell? ⟨w.heap.size + 2, 0, none⟩ = some (.int .i64 qg) := keep_cell hb1 (cell_new (by simp) rfl) (by omega)
  have k6 : w1.cell? ⟨w.heap.size + 2, 1, none⟩ = some (.int .i64 qa) := keep_cell hb1 (cell_new (by simp) rfl) (by omega)
  have hsz : w.heap.size + 3 ≤ w1.heap.size := by have := hb1.size; simp at this; omega
  clear hs0 hb1 hb0
  go_wp2_with fail
  refine (HO.out _ _ _ _ hb2).mono ?_
  rintro e w2 ⟨v2, rfl, hown2, hb3⟩
  have hb4 := hb2.trans (hb3.mono hb2.size)
  have l1 := keep_cell hb3 k1 (by omega)
  have l2 := keep_cell hb3 k2 (by omega)
  have l3 := keep_cell hb3 k3 (by omega)
  have l4 := keep_cell hb3 k4 (by omega)
  have l5 := keep_cell hb3 k5 (by omega)
  have l6 := keep_cell hb3 k6 (by omega)
  have hsz2 := keep_size hb3 hsz
  clear k1 k2 k3 k4 k5 k6
  go_wp2_with fail
  refine (awake_any _).mono ?_
  rintro e w3 ⟨rfl, hb5⟩
  have hb6 := hb4.trans (hb5.mono hb4.size)
  by_cases hp : cMay gs secs pg pa a = true
  · by_cases hq : cMay gs secs qg qa b = true
    · obtain ⟨e1, e2⟩ := of_good hp
      obtain ⟨e3, e4⟩ := of_good hq
      rw [e2] at hown1
      rw [e4] at hown2
      rw [e1, e3]
      clear e1 e2 e3 e4
      have hl1 := colsOf_len hp
      have hl2 := colsOf_len hq
      obtain ⟨A1, cp1, rfl, hL⟩ := slC_of_own hown1 (by omega)
      obtain ⟨A2, cp2, rfl, hM⟩ := slC_of_own hown2 (by omega)
      have HL := Lib.hid ((hL.below hb3 (Nat.le_refl _)).below hb5 (Nat.le_refl _))
      have HM := Lib.hid (hM.below hb5 (Nat.le_refl _))
      obtain ⟨P1, P2, P3⟩ := apart_pure hp hq
      have HP1 := Lib.hid P1
      have HP2 := Lib.hid P2
      have HP3 := Lib.hid P3
      obtain ⟨hhas, _, _, hp1, hp2, _⟩ := cMay_true hp
      obtain ⟨hhas', _, _, hq1, hq2, _⟩ := cMay_true hq
      have hS1 := gSectors_bd gs secs pg
      have hS2 := gSectors_bd gs secs qg
      have hT1 := gTakes_bd gs secs pg a
      have hT2 := gTakes_bd gs secs qg b
      have hpa : pa ≤ 100000 := by omega
      have hqa : qa ≤ 100000 := by omega
      have HA : Hid (apartB gs secs pg pa qg qa a b = ((pg != qg) || (decide (pa + gTakes gs secs pg a ≤ qa) || decide (qa + gTakes gs secs qg b ≤ pa)))) := Lib.hid rfl
      have HT : Hid (∀ (g s : Int) W, Below w3.heap.size w3 W → Calls Try.prog 10 #[.agg #[.slice A n c, .int .i64 secs], .int .i64 g, .int .i64 s] W fun e w' => e = .returned (.int .i64 (gTakes gs secs g s)) ∧ Below W.heap.size W w') :=
        Lib.hid fun g s W hb => takes_any A n c gs secs g s W (hg.below (hb6.trans (hb.mono hb6.size)) (Nat.le_refl _))
      have HD : Hid (∀ W, Below w3.heap.size w3 W → Calls Try.prog 11 #[.agg #[.slice A n c, .int .i64 secs]] W fun e w' => e = .returned (.int .i64 (gDevs gs secs)) ∧ Below W.heap.size W w') :=
        Lib.hid fun W hb => devs_any A n c gs secs W (hg.below (hb6.trans (hb.mono hb6.size)) (Nat.le_refl _))
      have m1 := keep_cell hb5 l1 (by omega)
      have m2 := keep_cell hb5 l2 (by omega)
      have m3 := keep_cell hb5 l3 (by omega)
      have m4 := keep_cell hb5 l4 (by omega)
      have m5 := keep_cell hb5 l5 (by omega)
      have m6 := keep_cell hb5 l6 (by omega)
      have hsz3 := keep_size hb5 hsz2
      clear P1 P2 P3 hL hM hown1 hown2 hp hq hhas hhas' hp2 hq2 hS1 hS2 HO l1 l2 l3 l4 l5 l6 hb2 hb3 hb4 hb5 hsz hsz2
      go_wp2_with fail
      go_cut [15] (fun s15 wx => s15 = .bool (apartB gs secs pg pa qg qa a b) ∧ Below w3.heap.size w3 wx)
      case first =>
        clear HL HM HP1 HP2 HP3 HD hl1 hl2
        obtain ⟨ht1, ht2⟩ := hT1
        obtain ⟨ht3, ht4⟩ := hT2
        have w1' : IntKind.i64.wrap (pa + gTakes gs secs pg a) = pa + gTakes gs secs pg a := by rw [IntKind.wrap_i64]; omega
        have w2' : IntKind.i64.wrap (qa + gTakes gs secs qg b) = qa + gTakes gs secs qg b := by rw [IntKind.wrap_i64]; omega
        have hbd := hb6
        by_cases hne : pg = qg
        · have h1 : (pg != qg) = false := by simpa using hne
          clear hne
          have hcls : ∃ C : World → Prop, C w3.drew ∧ (∀ W, C W → Below w3.heap.size w3 W) ∧ (∀ W, C W → W.cell? ⟨w.heap.size, 0, none⟩ = some (.slice A n c)) ∧ (∀ W, C W → W.cell? ⟨w.heap.size, 1, none⟩ = some (.int .i64 secs)) ∧
              (∀ W, C W → W.cell? ⟨w.heap.size + 1, 0, none⟩ = some (.int .i64 pg)) ∧ (∀ W, C W → W.cell? ⟨w.heap.size + 1, 1, none⟩ = some (.int .i64 pa)) ∧ (∀ W, C W → W.cell? ⟨w.heap.size + 2, 0, none⟩ = some (.int .i64 qg)) ∧ (∀ W, C W → W.cell? ⟨w.heap.size + 2, 1, none⟩ = some (.int .i64 qa)) ∧
              (∀ W W', C W → Below W.heap.size W W' → C W') :=
            ⟨fun W => Below w3.heap.size w3 W, (Below.refl _ _).drew, fun _ h => h, fun W h => (h.cell (p := ⟨w.heap.size, 0, none⟩) (by show w.heap.size < w3.heap.size; omega)).trans m1, fun W h => (h.cell (p := ⟨w.heap.size, 1, none⟩) (by show w.heap.size < w3.heap.size; omega)).trans m2,
              fun W h => (h.cell (p := ⟨w.heap.size + 1, 0, none⟩) (by show w.heap.size + 1 < w3.heap.size; omega)).trans m3, fun W h => (h.cell (p := ⟨w.heap.size + 1, 1, none⟩) (by show w.heap.size + 1 < w3.heap.size; omega)).trans m4,
              fun W h => (h.cell (p := ⟨w.heap.size + 2, 0, none⟩) (by show w.heap.size + 2 < w3.heap.size; omega)).trans m5, fun W h => (h.cell (p := ⟨w.heap.size + 2, 1, none⟩) (by show w.heap.size + 2 < w3.heap.size; omega)).trans m6,
              fun W W' h h' => h.trans (h'.mono h.size)⟩
          obtain ⟨C, hC, hCB, f1, f2, f3, f4, f5, f6, hCK⟩ := hcls
          clear m1 m2 m3 m4 m5 m6
          by_cases hc1 : pa + gTakes gs secs pg a ≤ qa
          · have h2 : decide (pa + gTakes gs secs pg a ≤ qa) = true := by simpa using hc1
            have hv : Hid (apartB gs secs pg pa qg qa a b = true) := by unfold Hid; rw [HA.out, h1, h2]; rfl
            clear HA hc1 hg
            refine wp_region_cls C (by kernel_rfl) (by kernel_rfl) hC ?_
            repeat (first
              | go_big_quiet_skip
              | (go_big_quiet_want
                 go_big_quiet_op
                 first
                   | go_big_quiet_on
                   | (apply Exists.intro
                      refine ⟨fun W hW => ?_, ?_⟩
                      · first
                          | exact rfl
                          | exact ⟨rfl, rfl⟩
                          | (have e0 := f1 W hW; have e1 := f2 W hW; have e2 := f3 W hW; have e3 := f4 W hW; have e4 := f5 W hW; have e5 := f6 W hW; simp only [e0, e1, e2, e3, e4, e5, Result.andThen_ok]; done)
                          | (have e0 := f1 W hW; have e1 := f2 W hW; have e2 := f3 W hW; have e3 := f4 W hW; have e4 := f5 W hW; have e5 := f6 W hW; simp only [e0, e1, e2, e3, e4, e5, Result.andThen_ok]; first | exact ⟨trivial, rfl⟩ | exact rfl | exact ⟨rfl, rfl⟩)
                          | (refine (HT.out _ _ W (hCB W hW)).mono ?_; rintro e w' ⟨rfl, hb⟩; exact ⟨rfl, hCK _ _ hW hb⟩)
                      go_big_quiet_on)))
            refine wpQuiet_nil ?_
            intro w' hw'
            have hwB := hCB w' hw'
            go_wp2_with fail
            go_meet
            exact ⟨by rw [hv.out], hwB⟩
          · have h2 : decide (pa + gTakes gs secs pg a ≤ qa) = false := by simpa using hc1
            have hv : Hid (apartB gs secs pg pa qg qa a b = decide (qa + gTakes gs secs qg b ≤ pa)) := by unfold Hid; rw [HA.out, h1, h2]; rfl
            clear HA hc1 hg
            refine wp_region_cls C (by kernel_rfl) (by kernel_rfl) hC ?_
            repeat (first
              | go_big_quiet_skip
              | (go_big_quiet_want
                 go_big_quiet_op
                 first
                   | go_big_quiet_on
                   | (apply Exists.intro
                      refine ⟨fun W hW => ?_, ?_⟩
                      · first
                          | exact rfl
                          | exact ⟨rfl, rfl⟩
                          | (have e0 := f1 W hW; have e1 := f2 W hW; have e2 := f3 W hW; have e3 := f4 W hW; have e4 := f5 W hW; have e5 := f6 W hW; simp only [e0, e1, e2, e3, e4, e5, Result.andThen_ok]; done)
                          | (have e0 := f1 W hW; have e1 := f2 W hW; have e2 := f3 W hW; have e3 := f4 W hW; have e4 := f5 W hW; have e5 := f6 W hW; simp only [e0, e1, e2, e3, e4, e5, Result.andThen_ok]; first | exact ⟨trivial, rfl⟩ | exact rfl | exact ⟨rfl, rfl⟩)
                          | (refine (HT.out _ _ W (hCB W hW)).mono ?_; rintro e w' ⟨rfl, hb⟩; exact ⟨rfl, hCK _ _ hW hb⟩)
                      go_big_quiet_on)))
            refine wpQuiet_nil ?_
            intro w' hw'
            have hwB := hCB w' hw'
            go_wp2_with fail
            go_meet
            exact ⟨by rw [hv.out], hwB⟩
        · have h1 : (pg != qg) = true := by simpa using hne
          have hv : Hid (apartB gs secs pg pa qg qa a b = true) := by unfold Hid; rw [HA.out, h1]; rfl
          clear HA HT hne
          go_quiet (fail)
          go_wp2_with fail
          go_meet
          exact ⟨by rw [hv.out], below_drewN (Below.refl _ _) _⟩
      case rest =>
        obtain ⟨rfl, hbx⟩ := hcut
        generalize colsOf gs secs pg pa a = L at *
        generalize colsOf gs secs qg qa b = M at *
        generalize apartB gs secs pg pa qg qa a b = ap at *
        generalize gDevs gs secs = D at *
        clear HT HA hT1 hT2 hp1 hq1 hpa hqa
        go_wp2
        go_loopw [16] (fun t wr => ∃ i : Nat, i ≤ L.length ∧ t = .int .i64 i ∧ Below w3.heap.size w3 wr) (fun t _ => L.length - (intOf t).toNat)
        case atStart => exact ⟨0, Nat.zero_le _, rfl, hbx⟩
        case round =>
          obtain ⟨i, hi, rfl, hb⟩ := hrel
          obtain ⟨wo, rfl⟩ : ∃ wo : World, wo = wr := ⟨_, rfl⟩
          by_cases hlt : i < L.length
          · obtain ⟨x, hx⟩ : ∃ x, L[i]? = some x := ⟨_, List.getElem?_eq_getElem hlt⟩
            have HX := Lib.hid hx
            obtain ⟨d1, d2, d3, d4⟩ := HP1.out i x hx
            obtain ⟨b1, o1, eA, hCL⟩ := HL.out.2.2 (by omega)
            subst eA
            obtain ⟨x1, x2, _, _⟩ := (hCL.below hb (Nat.le_refl _)).2 i x hx
            have n1 := (hb.cell (p := ⟨w.heap.size, 0, none⟩) (by show w.heap.size < w3.heap.size; omega)).trans m1
            have n2 := (hb.cell (p := ⟨w.heap.size, 1, none⟩) (by show w.heap.size < w3.heap.size; omega)).trans m2
            have g1 : decide (x.1 < 0) = false := by simp; omega
            have g2 : decide (D ≤ x.1) = false := by simp; omega
            have g3 : decide (x.2.1 < 16) = false := by simp; omega
            have g4 : decide (secs ≤ x.2.1) = false := by simp; omega
            have hi0 : (0 : Int) ≤ i := by omega
            have hi1 : (i : Int) < L.length := by omega
            have hll := hCL.1
            clear hx d1 d2 d3 d4
            go_wp2_with fail
            go_cut [114] (fun s wx => s = .bool false ∧ Below w3.heap.size w3 wx)
            case first =>
              have hcls : ∃ C : World → Prop, C wo.drew ∧ (∀ W, C W → Below w3.heap.size w3 W) ∧ (∀ W, C W → W.cell? ⟨w.heap.size, 0, none⟩ = some (.slice A n c)) ∧ (∀ W, C W → W.cell? ⟨w.heap.size, 1, none⟩ = some (.int .i64 secs)) ∧
                  (∀ W, C W → W.cell? ⟨b1, o1 + i * 4, none⟩ = some (.int .i64 x.1)) ∧ (∀ W, C W → W.cell? ⟨b1, o1 + i * 4 + 1, none⟩ = some (.int .i64 x.2.1)) ∧ (∀ W W', C W → Below W.heap.size W W' → C W') :=
                ⟨fun W => Below w3.heap.size w3 W, hb.drew, fun _ h => h, fun W h => (h.cell (p := ⟨w.heap.size, 0, none⟩) (by show w.heap.size < w3.heap.size; omega)).trans m1, fun W h => (h.cell (p := ⟨w.heap.size, 1, none⟩) (by show w.heap.size < w3.heap.size; omega)).trans m2,
                  fun W h => ((hCL.below h (Nat.le_refl _)).2 i x HX.out).1, fun W h => ((hCL.below h (Nat.le_refl _)).2 i x HX.out).2.1, fun W W' h h' => h.trans (h'.mono h.size)⟩
              obtain ⟨C, hC, hCB, f1, f2, f3, f4, hCK⟩ := hcls
              refine wp_region_cls C (by kernel_rfl) (by kernel_rfl) hC ?_
              repeat (first
                | go_big_quiet_skip
                | (go_big_quiet_want
                   go_big_quiet_op
                   first
                     | go_big_quiet_on
                     | (apply Exists.intro
                        refine ⟨fun W hW => ?_, ?_⟩
                        · first
                            | exact rfl
                            | exact ⟨rfl, rfl⟩
                            | (have e0 := f1 W hW; have e1 := f2 W hW; have e2 := f3 W hW; have e3 := f4 W hW; simp only [e0, e1, e2, e3, Result.andThen_ok]; done)
                            | (have e0 := f1 W hW; have e1 := f2 W hW; have e2 := f3 W hW; have e3 := f4 W hW; simp only [e0, e1, e2, e3, Result.andThen_ok]; first | exact ⟨trivial, rfl⟩ | exact rfl | exact ⟨rfl, rfl⟩)
                            | (refine (HD.out W (hCB W hW)).mono ?_; rintro e w' ⟨rfl, hb⟩; exact ⟨rfl, hCK _ _ hW hb⟩)
                        go_big_quiet_on)))
              refine wpQuiet_nil ?_
              intro w' hw'
              have hwB := hCB w' hw'
              go_wp2_with fail
              go_meet
              exact ⟨rfl, hwB⟩
            case rest =>
              obtain ⟨rfl, hb4⟩ := hcut
              clear n1 n2 g1 g2 g3 g4
              go_wp2_with fail
              go_loopw [17] (fun t wr => ∃ k : Nat, k ≤ i ∧ t = .int .i64 k ∧ Below w3.heap.size w3 wr) (fun t _ => i - (intOf t).toNat)
              case atStart => exact ⟨0, Nat.zero_le _, rfl, hb4⟩
              case round =>
                obtain ⟨k, hk, rfl, hb7⟩ := hrel
                obtain ⟨wp, rfl⟩ : ∃ wp : World, wp = wr := ⟨_, rfl⟩
                by_cases hlt2 : k < i
                · obtain ⟨y, hy⟩ : ∃ y, L[k]? = some y := ⟨_, List.getElem?_eq_getElem (by omega)⟩
                  have hxy := HP2.out i k x y hlt2 HX.out hy
                  obtain ⟨x1, x2, _, _⟩ := (hCL.below hb7 (Nat.le_refl _)).2 i x HX.out
                  obtain ⟨y1, y2, _, _⟩ := (hCL.below hb7 (Nat.le_refl _)).2 k y hy
                  have hk0 : (0 : Int) ≤ k := by omega
                  have hk1 : (k : Int) < L.length := by omega
                  clear hy
                  by_cases hd : x.1 = y.1
                  · have q1 : (x.1 == y.1) = true := by simpa using hd
                    have q2 : (x.2.1 == y.2.1) = false := by simp; exact fun h => hxy ⟨hd, h⟩
                    clear hd hxy
                    go_wp2_with fail
                    go_quiet (fail)
                    go_wp2_with fail
                    go_roundw
                    case rel => exact ⟨k + 1, by omega, by go_num, below_drewN hb7 _⟩
                    case measure => simp [intOf]; omega
                  · have q1 : (x.1 == y.1) = false := by simpa using hd
                    clear hd hxy
                    go_wp2_with fail
                    go_quiet (fail)
                    go_wp2_with fail
                    go_roundw
                    case rel => exact ⟨k + 1, by omega, by go_num, below_drewN hb7 _⟩
                    case measure => simp [intOf]; omega
                · go_wp2_with fail
                  go_loopw [18] (fun t wr => ∃ k : Nat, k ≤ M.length ∧ t = .int .i64 k ∧ Below w3.heap.size w3 wr) (fun t _ => M.length - (intOf t).toNat)
                  case atStart => exact ⟨0, Nat.zero_le _, rfl, hb7⟩
                  case round =>
                    obtain ⟨k2, hk2, rfl, hb8⟩ := hrel
                    obtain ⟨wq, rfl⟩ : ∃ wq : World, wq = wr := ⟨_, rfl⟩
                    by_cases hap : ap = true
                    · subst hap
                      by_cases hlt3 : k2 < M.length
                      · obtain ⟨y, hy⟩ : ∃ y, M[k2]? = some y := ⟨_, List.getElem?_eq_getElem (by omega)⟩
                        have hxy := HP3.out rfl i k2 x y HX.out hy
                        obtain ⟨b2, o2, eB, hCM⟩ := HM.out.2.2 (by omega)
                        subst eB
                        obtain ⟨x1, x2, _, _⟩ := (hCL.below hb8 (Nat.le_refl _)).2 i x HX.out
                        obtain ⟨y1, y2, _, _⟩ := (hCM.below hb8 (Nat.le_refl _)).2 k2 y hy
                        have hk0 : (0 : Int) ≤ k2 := by omega
                        have hk1 : (k2 : Int) < M.length := by omega
                        clear hy hCM
                        by_cases hd : x.1 = y.1
                        · have q1 : (x.1 == y.1) = true := by simpa using hd
                          have q2 : (x.2.1 == y.2.1) = false := by simp; exact fun h => hxy ⟨hd, h⟩
                          clear hd hxy
                          go_wp2_with fail
                          go_quiet (fail)
                          go_wp2_with fail
                          go_roundw
                          case rel => exact ⟨k2 + 1, by omega, by go_num, below_drewN hb8 _⟩
                          case measure => simp [intOf]; omega
                        · have q1 : (x.1 == y.1) = false := by simpa using hd
                          clear hd hxy
                          go_wp2_with fail
                          go_quiet (fail)
                          go_wp2_with fail
                          go_roundw
                          case rel => exact ⟨k2 + 1, by omega, by go_num, below_drewN hb8 _⟩
                          case measure => simp [intOf]; omega
                      · go_wp2_with fail
                        go_roundw
                        case rel => exact ⟨i + 1, by omega, by go_num, hb8⟩
                        case measure => simp [intOf]; omega
                    · obtain rfl : ap = false := by simpa using hap
                      clear hap
                      go_wp2_with fail
                      go_roundw
                      case rel => exact ⟨i + 1, by omega, by go_num, hb8⟩
                      case measure => simp [intOf]; omega
          · go_wp2_with fail
            go_ret
            exact ⟨rfl, hb6.trans (hb.mono hb6.size)⟩
    · have e1 := of_bad hq
      have e2 := (of_good hp).1
      rw [e1, e2]
      clear e1 e2 hown1 hown2
      go_wp2_with fail
      refine (awake_any _).mono ?_
      rintro e w4 ⟨rfl, hb7⟩
      go_wp2_with fail
      go_ret
      exact ⟨rfl, hb6.trans (hb7.mono hb6.size)⟩
  · have e1 := of_bad hp
    rw [e1]
    clear e1 hown1 hown2
    go_wp2_with fail
    refine (awake_any _).mono ?_
    rintro e w4 ⟨rfl, hb7⟩
    go_wp2_with fail
    go_ret
    exact ⟨rfl, hb6.trans (hb7.mono hb6.size)⟩
end Go.Proofs.Ythkeibeelncgkaa
