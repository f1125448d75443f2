/-
  The contract of polderref09.Right.
-/
import Derived.Test.YtnagcmfecggllaaDoorRef06
import Derived.Test.YtnagcmfecggllaaDoorPtrPlacesW
import Derived.Test.YtnagcmfecggllaaDoorBlk
namespace Go.Proofs.YtnagcmfecggllaaDoor
set_option linter.unusedVariables false
set_option linter.unusedSimpArgs false
open Go.RowKit

theorem apB_same (gs : List (Int × Int)) (secs : Int) (p : PtrD) (T : Int) (h : p.ag = p.bg) (hT : gTakes gs secs p.ag p.size = T) : apB gs secs p.ag p.aa p.bg p.ba p.size = (decide (p.aa + T ≤ p.ba) || decide (p.ba + T ≤ p.aa)) := by
  unfold apB; rw [← h, hT]; simp

set_option maxRecDepth 100000 in
set_option maxHeartbeats 4000000 in
theorem refRight9_any (A : Option Addr) (n c : Nat) (gs : List (Int × Int)) (secs : Int) (p : PtrD) (w : World) (hg : GeoAt w A n gs) :
    Calls Tryd.prog 13 #[.agg #[.slice A n c, .int .i64 secs], .agg p.cells] w fun e w' => e = .returned (.bool (rightB gs secs p)) ∧ Below w.heap.size w w' := by
  obtain ⟨w0, hw0⟩ : ∃ w0, w0 = ((w.alloc (Obj.cells #[Value.slice A n c, Value.int IntKind.i64 secs] 39)).alloc (.cells #[.int .i64 p.ag, .int .i64 p.aa, .int .i64 p.bg, .int .i64 p.ba, .bool p.two, .int .i64 p.size, .int .i64 p.level, .int .i64 p.birth, .int .u64 p.s0, .int .u64 p.s1, .int .u64 p.s2, .int .u64 p.s3] 28)) := ⟨_, rfl⟩
  have hb0 : Below w.heap.size w w0 := by rw [hw0]; exact ((Below.refl _ _).alloc (Nat.le_refl _) _).alloc (by simp) _
  have HP : Hid (PtrAt w0 (w.heap.size + 1) 0 p) := by
    have := PtrAt.new (w.alloc (Obj.cells #[Value.slice A n c, Value.int IntKind.i64 secs] 39)) p 28
    rw [World.size_alloc] at this
    rw [hw0]; exact Lib.hid this
  have hs0 : w.heap.size + 2 ≤ w0.heap.size := by rw [hw0]; simp
  have k1 : w0.cell? ⟨w.heap.size, 0, none⟩ = some (.slice A n c) := by rw [hw0]; exact cell_alloc (cell_new rfl rfl) _
  have k2 : w0.cell? ⟨w.heap.size, 1, none⟩ = some (.int .i64 secs) := by rw [hw0]; exact cell_alloc (cell_new rfl rfl) _
  rw [show (Value.agg p.cells) = .agg #[.int .i64 p.ag, .int .i64 p.aa, .int .i64 p.bg, .int .i64 p.ba, .bool p.two, .int .i64 p.size, .int .i64 p.level, .int .i64 p.birth, .int .u64 p.s0, .int .u64 p.s1, .int .u64 p.s2, .int .u64 p.s3] from rfl]
  by_cases hgood : (0 ≤ p.level ∧ p.level ≤ 3) ∧ (1 ≤ p.birth ∧ p.birth ≤ 4294967295)
  · obtain ⟨⟨g1, g2⟩, g3, g4⟩ := hgood
    have HR : Hid (rightB gs secs p = (cMay gs secs p.ag p.aa p.size && (if p.two then cMay gs secs p.bg p.ba p.size && apB gs secs p.ag p.aa p.bg p.ba p.size else p.bg == 0 && p.ba == 0))) := by
      unfold Hid rightB; rw [decide_eq_true g1, decide_eq_true g2, decide_eq_true g3, decide_eq_true g4]; rfl
    have h := HP.out
    obtain ⟨h0, h1, h2, h3, h4, h5, h6, h7, h8, h9, ha, hc⟩ := h
    simp only [Nat.zero_add] at h1 h2 h3 h4 h5 h6 h7 h8 h9 ha hc
    go_enter Tryd.func13, Tryd.ntmps13
    go_wp2_with fail
    rw [← hw0]
    clear hw0
    refine (refMay_any A n c gs secs p.ag p.aa p.size _ (hg.below hb0 (Nat.le_refl _))).mono ?_
    rintro e w1 ⟨rfl, hb1⟩
    have hP1 := HP.out.keep hb1 (by omega)
    have hb2 := hb0.trans (hb1.mono hb0.size)
    have hs1 := keep_size hb1 hs0
    have l1 := keep_cell hb1 k1 (by omega)
    have l2 := keep_cell hb1 k2 (by omega)
    clear h0 h1 h2 h3 h4 h5 h6 h7 h8 h9 ha hc hb1 k1 k2
    by_cases hp : cMay gs secs p.ag p.aa p.size = true
    · have hct := cMay_true hp
      have hbd := cMay_bd hp
      rw [hp, Bool.true_and] at HR
      rw [hp]
      clear hp
      have HP1 := Lib.hid hP1
      obtain ⟨h0, h1, h2, h3, h4, h5, h6, h7, h8, h9, ha, hc⟩ := hP1
      simp only [Nat.zero_add] at h1 h2 h3 h4 h5 h6 h7 h8 h9 ha hc
      cases ht : p.two with
      | false =>
        rw [ht] at h4 HR
        rw [if_neg (by simp)] at HR
        have he := fun W => eql_place p.bg p.ba 0 0 W
        clear hct
        go_wp2_with fail
        go_ret
        exact ⟨ret_bool HR.out.symm, hb2⟩
      | true =>
        rw [ht] at h4 HR
        rw [if_pos rfl] at HR
        have HC := Lib.hid hct
        clear hct
        go_wp2_with fail
        refine (refMay_any A n c gs secs p.bg p.ba p.size _ (hg.below hb2 (Nat.le_refl _))).mono ?_
        rintro e w2 ⟨rfl, hb3⟩
        have hP2 := HP1.out.keep hb3 (by omega)
        have hb4 := hb2.trans (hb3.mono hb2.size)
        have hs2 := keep_size hb3 hs1
        have n1 := keep_cell hb3 l1 (by omega)
        have n2 := keep_cell hb3 l2 (by omega)
        clear h0 h1 h2 h3 h4 h5 h6 h7 h8 h9 ha hc hb3 l1 l2
        by_cases hq : cMay gs secs p.bg p.ba p.size = true
        · have hbq := cMay_bd hq
          rw [hq, Bool.true_and] at HR
          rw [hq]
          clear hq
          obtain ⟨hhas, hz1, hz2, hp1, hp2, hp3⟩ := HC.out
          obtain ⟨k, x, hk', hk, hl4, hs1', hs2', hx, hgx, ho⟩ := gHas_true hhas
          have hT : gTakes gs secs p.ag p.size = gTake1 x p.size := by unfold gTakes; rw [hhas, decide_eq_true hz1, decide_eq_true hz2, hk', hgx]; rfl
          have hTb := gTakes_bd gs secs p.ag p.size
          rw [hT] at hTb
          obtain ⟨b, off, rfl, hgs⟩ := hg.2.2 (by have := hg.1; omega)
          obtain ⟨y1, y2⟩ := (hgs.below hb4 (Nat.le_refl _)).2 k _ hx
          have hglt := (hgs.below hb4 (Nat.le_refl _)).1
          have hkn : (k : Int) < n := by have := hg.1; omega
          have hkn2 : k < n := by omega
          have HTK := Lib.hid fun W => refTakes_any x p.size W ho hz1 hz2
          have HAP : Hid (p.ag = p.bg → apB gs secs p.ag p.aa p.bg p.ba p.size = (decide (p.aa + gTake1 x p.size ≤ p.ba) || decide (p.ba + gTake1 x p.size ≤ p.aa))) := Lib.hid fun h => apB_same gs secs p _ h hT
          have HAN : Hid (p.ag ≠ p.bg → apB gs secs p.ag p.aa p.bg p.ba p.size = true) := Lib.hid fun h => by unfold apB; rw [show (p.ag != p.bg) = true by simpa using h]; rfl
          have HK := Lib.hid hk'
          have hk0 : (0 : Int) ≤ p.ag := by omega
          have hk1 : p.ag < n := by omega
          have hkt : p.ag.toNat = k := by omega
          clear hhas hx hgx hT hz1 hz2 hp1 hp2 hp3 HC hk' hgs
          obtain ⟨xa, xb⟩ := x
          simp only at y1 y2 HTK
          generalize gTake1 (xa, xb) p.size = T at *
          obtain ⟨C, hC, hC0, hCB, hCK, hCd⟩ := cls_below w2
          have hPC : ∀ W, C W → PtrAt W (w.heap.size + 1) 0 p := fun W h => hP2.keep (hCB W h) (by omega)
          have f0 : ∀ W, C W → W.cell? ⟨w.heap.size + 1, 0, none⟩ = some (.int .i64 p.ag) := fun W h => (hPC W h).1
          have f5 : ∀ W, C W → W.cell? ⟨w.heap.size + 1, 5, none⟩ = some (.int .i64 p.size) := fun W h => (hPC W h).2.2.2.2.2.1
          have fg : ∀ W, C W → W.cell? ⟨w.heap.size, 0, none⟩ = some (.slice (some ⟨b, off, none⟩) n c) := fun W h => keep_cell (hCB W h) n1 (by omega)
          have fx : ∀ W, C W → W.cell? ⟨b, off + k * 2, none⟩ = some (.int .i64 xa) := fun W h => keep_cell (hCB W h) y1 hglt
          have fy : ∀ W, C W → W.cell? ⟨b, off + k * 2 + 1, none⟩ = some (.int .i64 xb) := fun W h => keep_cell (hCB W h) y2 hglt
          clear n1 n2 y1 y2
          repeat' (first
            | go_values
            | go_skip
            | go_guarded
            | ((fail_if_success (with_reducible refine drawn_mark ?_))
               first
                 | go_step
                 | go_upon
                 | go_back
                 | (simp only [Int.not_lt, Int.not_le] at *; go_simp)
                 | (go_values <;> (try go_simp))
                 | (go_ite <;> go_prune <;> (try go_simp))
                 | (split <;> (first | (rename_i hx; exact (hx _ rfl).elim) | go_prune))))
          refine wp_region_cls C (by kernel_rfl) (by kernel_rfl) hC ?_
          repeat (first
            | go_big_quiet_skip
            | (go_big_quiet_want
               go_big_quiet_op
               first
                 | go_big_quiet_on
                 | (apply Exists.intro
                    refine ⟨fun W hW => ?_, ?_⟩
                    · first
                        | exact rfl
                        | exact ⟨rfl, rfl⟩
                        | (have e0 := f0 W hW; have e1 := f5 W hW; have e2 := fg W hW; have e3 := fx W hW; have e4 := fy W hW; simp only [e0, e1, e2, e3, e4, Result.andThen_ok]; done)
                        | (have e0 := f0 W hW; have e1 := f5 W hW; have e2 := fg W hW; have e3 := fx W hW; have e4 := fy W hW; simp only [e0, e1, e2, e3, e4, Result.andThen_ok]; first | exact ⟨trivial, rfl⟩ | exact rfl | exact ⟨rfl, rfl⟩)
                        | ((refine (HTK.out W).mono ?_; rintro e w' ⟨rfl, hb⟩; exact ⟨rfl, hCK _ _ hW hb⟩))
                    go_big_quiet_on)))
          refine wpQuiet_nil ?_
          intro w' hw'
          have hwB := hCB w' hw'
          have hP3 := hPC w' hw'
          clear f0 f5 fg fx fy hPC hCK hCd hCB hC hC0 HTK
          obtain ⟨h0, h1, h2, h3, h4, h5, h6, h7, h8, h9, ha, hc⟩ := hP3
          simp only [Nat.zero_add] at h1 h2 h3 h4 h5 h6 h7 h8 h9 ha hc
          by_cases hag : p.ag = p.bg
          · have hv := HAP.out hag
            have HV : Hid (rightB gs secs p = (decide (p.aa + T ≤ p.ba) || decide (p.ba + T ≤ p.aa))) := by unfold Hid; rw [HR.out, hv]
            have hqq : (p.ag == p.bg) = true := by simpa using hag
            clear hv hag hkt
            by_cases o1 : p.aa < p.ba + T
            · by_cases o2 : p.ba < p.aa + T
              · repeat' (first
                  | go_values
                  | go_skip
                  | go_guarded
                  | ((fail_if_success (with_reducible refine drawn_mark ?_))
                     first
                       | go_step
                       | go_upon
                       | go_back
                       | (simp only [Int.not_lt, Int.not_le] at *; go_simp)
                       | (go_values <;> (try go_simp))
                       | (go_ite <;> go_prune <;> (try go_simp))
                       | (split <;> (first | (rename_i hx; exact (hx _ rfl).elim) | go_prune))))
                all_goals go_ret
                all_goals (refine ⟨ret_bool ?_, keep_below hwB hb4⟩; rw [HV.out]; simp; omega)
              · repeat' (first
                  | go_values
                  | go_skip
                  | go_guarded
                  | ((fail_if_success (with_reducible refine drawn_mark ?_))
                     first
                       | go_step
                       | go_upon
                       | go_back
                       | (simp only [Int.not_lt, Int.not_le] at *; go_simp)
                       | (go_values <;> (try go_simp))
                       | (go_ite <;> go_prune <;> (try go_simp))
                       | (split <;> (first | (rename_i hx; exact (hx _ rfl).elim) | go_prune))))
                all_goals go_ret
                all_goals (refine ⟨ret_bool ?_, keep_below hwB hb4⟩; rw [HV.out]; simp; omega)
            · repeat' (first
                | go_values
                | go_skip
                | go_guarded
                | ((fail_if_success (with_reducible refine drawn_mark ?_))
                   first
                     | go_step
                     | go_upon
                     | go_back
                     | (simp only [Int.not_lt, Int.not_le] at *; go_simp)
                     | (go_values <;> (try go_simp))
                     | (go_ite <;> go_prune <;> (try go_simp))
                     | (split <;> (first | (rename_i hx; exact (hx _ rfl).elim) | go_prune))))
              all_goals go_ret
              all_goals (refine ⟨ret_bool ?_, keep_below hwB hb4⟩; rw [HV.out]; simp; omega)
          · have HV : Hid (rightB gs secs p = true) := by unfold Hid; rw [HR.out, HAN.out hag]
            have hqq : (p.ag == p.bg) = false := by simpa using hag
            clear hag hkt
            repeat' (first
              | go_values
              | go_skip
              | go_guarded
              | ((fail_if_success (with_reducible refine drawn_mark ?_))
                 first
                   | go_step
                   | go_upon
                   | go_back
                   | (simp only [Int.not_lt, Int.not_le] at *; go_simp)
                   | (go_values <;> (try go_simp))
                   | (go_ite <;> go_prune <;> (try go_simp))
                   | (split <;> (first | (rename_i hx; exact (hx _ rfl).elim) | go_prune))))
            all_goals go_ret
            all_goals exact ⟨ret_bool HV.out.symm, keep_below hwB hb4⟩
        · have hq' : cMay gs secs p.bg p.ba p.size = false := by simpa using hq
          rw [hq', Bool.false_and] at HR
          rw [hq']
          go_wp2_with fail
          go_ret
          exact ⟨ret_bool HR.out.symm, hb4⟩
    · have hp' : cMay gs secs p.ag p.aa p.size = false := by simpa using hp
      rw [hp', Bool.false_and] at HR
      rw [hp']
      go_wp2_with fail
      go_ret
      exact ⟨ret_bool HR.out.symm, hb2⟩
  · have HR : Hid (rightB gs secs p = false) := by
      unfold Hid
      cases hr : rightB gs secs p with
      | false => rfl
      | true =>
        simp only [rightB, Bool.and_eq_true, decide_eq_true_eq] at hr
        exact absurd ⟨⟨hr.1.1.1.1.1, hr.1.1.1.1.2⟩, hr.1.1.1.2, hr.1.1.2⟩ hgood
    have h := HP.out
    obtain ⟨h0, h1, h2, h3, h4, h5, h6, h7, h8, h9, ha, hc⟩ := h
    go_enter Tryd.func13, Tryd.ntmps13
    go_wp2_with fail
    all_goals first | (exfalso; omega) | (go_ret; exact ⟨ret_bool HR.out.symm, by rw [← hw0]; exact hb0⟩)
end Go.Proofs.YtnagcmfecggllaaDoor
