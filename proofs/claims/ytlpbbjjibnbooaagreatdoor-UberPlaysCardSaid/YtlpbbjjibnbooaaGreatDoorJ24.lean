/-
  The contract of polderref09.Right.
  The contract of polderref13.Right.
  Uberblocks compared; the bytes of a text in a new block.
  The best uberblock, by what each slot reads as: plain law of UberBest.
  The last uberblock, spoilt on all devices but one: plain law of UberBest.
-/
import Derived.Test.YtlpbbjjibnbooaaGreatDoorJ23
import Derived.Test.YtlpbbjjibnbooaaGreatDoorJ15
import Derived.Test.YtlpbbjjibnbooaaGreatDoorJ01
import Derived.Test.YtlpbbjjibnbooaaGreatDoorJ17
import Derived.Test.YtlpbbjjibnbooaaGreatDoorJ16
import Derived.Test.YtlpbbjjibnbooaaGreatDoorJ04
import Derived.Test.YtlpbbjjibnbooaaGreatDoorJ11
import Derived.Test.YtlpbbjjibnbooaaGreatDoorJ20
import Derived.Test.YtlpbbjjibnbooaaGreatDoorJ22
namespace Go.Proofs.YtlpbbjjibnbooaaGreatDoor
set_option linter.unusedVariables false
set_option linter.unusedSimpArgs false
open Go.RowKit

theorem apB_same (gs : List (Int × Int)) (secs : Int) (p : PtrD) (T : Int) (h : p.ag = p.bg) (hT : gTakes gs secs p.ag p.size = T) : apB gs secs p.ag p.aa p.bg p.ba p.size = (decide (p.aa + T ≤ p.ba) || decide (p.ba + T ≤ p.aa)) := by
  unfold apB; rw [← h, hT]; simp

set_option maxRecDepth 100000 in
set_option maxHeartbeats 4000000 in
theorem refRight9_any (A : Option Addr) (n c : Nat) (gs : List (Int × Int)) (secs : Int) (p : PtrD) (w : World) (hg : GeoAt w A n gs) :
    Calls Tryz.prog 37 #[.agg #[.slice A n c, .int .i64 secs], .agg p.cells] w fun e w' => e = .returned (.bool (rightB gs secs p)) ∧ Below w.heap.size w w' := by
  obtain ⟨w0, hw0⟩ : ∃ w0, w0 = ((w.alloc (Obj.cells #[Value.slice A n c, Value.int IntKind.i64 secs] 24)).alloc (.cells #[.int .i64 p.ag, .int .i64 p.aa, .int .i64 p.bg, .int .i64 p.ba, .bool p.two, .int .i64 p.size, .int .i64 p.level, .int .i64 p.birth, .int .u64 p.s0, .int .u64 p.s1, .int .u64 p.s2, .int .u64 p.s3] 31)) := ⟨_, rfl⟩
  have hb0 : Below w.heap.size w w0 := by rw [hw0]; exact ((Below.refl _ _).alloc (Nat.le_refl _) _).alloc (by simp) _
  have HP : Hid (PtrAt w0 (w.heap.size + 1) 0 p) := by
    have := PtrAt.new (w.alloc (Obj.cells #[Value.slice A n c, Value.int IntKind.i64 secs] 24)) p 31
    rw [World.size_alloc] at this
    rw [hw0]; exact Lib.hid this
  have hs0 : w.heap.size + 2 ≤ w0.heap.size := by rw [hw0]; simp
  have k1 : w0.cell? ⟨w.heap.size, 0, none⟩ = some (.slice A n c) := by rw [hw0]; exact cell_alloc (cell_new rfl rfl) _
  have k2 : w0.cell? ⟨w.heap.size, 1, none⟩ = some (.int .i64 secs) := by rw [hw0]; exact cell_alloc (cell_new rfl rfl) _
  rw [show (Value.agg p.cells) = .agg #[.int .i64 p.ag, .int .i64 p.aa, .int .i64 p.bg, .int .i64 p.ba, .bool p.two, .int .i64 p.size, .int .i64 p.level, .int .i64 p.birth, .int .u64 p.s0, .int .u64 p.s1, .int .u64 p.s2, .int .u64 p.s3] from rfl]
  by_cases hgood : (0 ≤ p.level ∧ p.level ≤ 3) ∧ (1 ≤ p.birth ∧ p.birth ≤ 4294967295)
  · obtain ⟨⟨g1, g2⟩, g3, g4⟩ := hgood
    have HR : Hid (rightB gs secs p = (cMay gs secs p.ag p.aa p.size && (if p.two then cMay gs secs p.bg p.ba p.size && apB gs secs p.ag p.aa p.bg p.ba p.size else p.bg == 0 && p.ba == 0))) := by
      unfold Hid rightB; rw [decide_eq_true g1, decide_eq_true g2, decide_eq_true g3, decide_eq_true g4]; rfl
    have h := HP.out
    obtain ⟨h0, h1, h2, h3, h4, h5, h6, h7, h8, h9, ha, hc⟩ := h
    simp only [Nat.zero_add] at h1 h2 h3 h4 h5 h6 h7 h8 h9 ha hc
    go_enter Tryz.func37, Tryz.ntmps37
    go_wp2_with fail
    rw [← hw0]
    clear hw0
    refine (refMay_any A n c gs secs p.ag p.aa p.size _ (hg.below hb0 (Nat.le_refl _))).mono ?_
    rintro e w1 ⟨rfl, hb1⟩
    have hP1 := HP.out.keep hb1 (by omega)
    have hb2 := hb0.trans (hb1.mono hb0.size)
    have hs1 := keep_size hb1 hs0
    have l1 := keep_cell hb1 k1 (by omega)
    have l2 := keep_cell hb1 k2 (by omega)
    clear h0 h1 h2 h3 h4 h5 h6 h7 h8 h9 ha hc hb1 k1 k2
    by_cases hp : cMay gs secs p.ag p.aa p.size = true
    · have hct := cMay_true hp
      have hbd := cMay_bd hp
      rw [hp, Bool.true_and] at HR
      rw [hp]
      clear hp
      have HP1 := Lib.hid hP1
      obtain ⟨h0, h1, h2, h3, h4, h5, h6, h7, h8, h9, ha, hc⟩ := hP1
      simp only [Nat.zero_add] at h1 h2 h3 h4 h5 h6 h7 h8 h9 ha hc
      cases ht : p.two with
      | false =>
        rw [ht] at h4 HR
        rw [if_neg (by simp)] at HR
        have he := fun W => eql_place p.bg p.ba 0 0 W
        clear hct
        go_wp2_with fail
        go_ret
        exact ⟨ret_bool HR.out.symm, hb2⟩
      | true =>
        rw [ht] at h4 HR
        rw [if_pos rfl] at HR
        have HC := Lib.hid hct
        clear hct
        go_wp2_with fail
        refine (refMay_any A n c gs secs p.bg p.ba p.size _ (hg.below hb2 (Nat.le_refl _))).mono ?_
        rintro e w2 ⟨rfl, hb3⟩
        have hP2 := HP1.out.keep hb3 (by omega)
        have hb4 := hb2.trans (hb3.mono hb2.size)
        have hs2 := keep_size hb3 hs1
        have n1 := keep_cell hb3 l1 (by omega)
        have n2 := keep_cell hb3 l2 (by omega)
        clear h0 h1 h2 h3 h4 h5 h6 h7 h8 h9 ha hc hb3 l1 l2
        by_cases hq : cMay gs secs p.bg p.ba p.size = true
        · have hbq := cMay_bd hq
          rw [hq, Bool.true_and] at HR
          rw [hq]
          clear hq
          obtain ⟨hhas, hz1, hz2, hp1, hp2, hp3⟩ := HC.out
          obtain ⟨k, x, hk', hk, hl4, hs1', hs2', hx, hgx, ho⟩ := gHas_true hhas
          have hT : gTakes gs secs p.ag p.size = gTake1 x p.size := by unfold gTakes; rw [hhas, decide_eq_true hz1, decide_eq_true hz2, hk', hgx]; rfl
          have hTb := gTakes_bd gs secs p.ag p.size
          rw [hT] at hTb
          obtain ⟨b, off, rfl, hgs⟩ := hg.2.2 (by have := hg.1; omega)
          obtain ⟨y1, y2⟩ := (hgs.below hb4 (Nat.le_refl _)).2 k _ hx
          have hglt := (hgs.below hb4 (Nat.le_refl _)).1
          have hkn : (k : Int) < n := by have := hg.1; omega
          have hkn2 : k < n := by omega
          have HTK := Lib.hid fun W => refTakes_any x p.size W ho hz1 hz2
          have HAP : Hid (p.ag = p.bg → apB gs secs p.ag p.aa p.bg p.ba p.size = (decide (p.aa + gTake1 x p.size ≤ p.ba) || decide (p.ba + gTake1 x p.size ≤ p.aa))) := Lib.hid fun h => apB_same gs secs p _ h hT
          have HAN : Hid (p.ag ≠ p.bg → apB gs secs p.ag p.aa p.bg p.ba p.size = true) := Lib.hid fun h => by unfold apB; rw [show (p.ag != p.bg) = true by simpa using h]; rfl
          have HK := Lib.hid hk'
          have hk0 : (0 : Int) ≤ p.ag := by omega
          have hk1 : p.ag < n := by omega
          have hkt : p.ag.toNat = k := by omega
          clear hhas hx hgx hT hz1 hz2 hp1 hp2 hp3 HC hk' hgs
          obtain ⟨xa, xb⟩ := x
          simp only at y1 y2 HTK
          generalize gTake1 (xa, xb) p.size = T at *
          obtain ⟨C, hC, hC0, hCB, hCK, hCd⟩ := cls_below w2
          have hPC : ∀ W, C W → PtrAt W (w.heap.size + 1) 0 p := fun W h => hP2.keep (hCB W h) (by omega)
          have f0 : ∀ W, C W → W.cell? ⟨w.heap.size + 1, 0, none⟩ = some (.int .i64 p.ag) := fun W h => (hPC W h).1
          have f5 : ∀ W, C W → W.cell? ⟨w.heap.size + 1, 5, none⟩ = some (.int .i64 p.size) := fun W h => (hPC W h).2.2.2.2.2.1
          have fg : ∀ W, C W → W.cell? ⟨w.heap.size, 0, none⟩ = some (.slice (some ⟨b, off, none⟩) n c) := fun W h => keep_cell (hCB W h) n1 (by omega)
          have fx : ∀ W, C W → W.cell? ⟨b, off + k * 2, none⟩ = some (.int .i64 xa) := fun W h => keep_cell (hCB W h) y1 hglt
          have fy : ∀ W, C W → W.cell? ⟨b, off + k * 2 + 1, none⟩ = some (.int .i64 xb) := fun W h => keep_cell (hCB W h) y2 hglt
          clear n1 n2 y1 y2
          repeat' (first
            | go_values
            | go_skip
            | go_guarded
            | ((fail_if_success (with_reducible refine drawn_mark ?_))
               first
                 | go_step
                 | go_upon
                 | go_back
                 | (simp only [Int.not_lt, Int.not_le] at *; go_simp)
                 | (go_values <;> (try go_simp))
                 | (go_ite <;> go_prune <;> (try go_simp))
                 | (split <;> (first | (rename_i hx; exact (hx _ rfl).elim) | go_prune))))
          refine wp_region_cls C (by kernel_rfl) (by kernel_rfl) hC ?_
          repeat (first
            | go_big_quiet_skip
            | (go_big_quiet_want
               go_big_quiet_op
               first
                 | go_big_quiet_on
                 | (apply Exists.intro
                    refine ⟨fun W hW => ?_, ?_⟩
                    · first
                        | exact rfl
                        | exact ⟨rfl, rfl⟩
                        | (have e0 := f0 W hW; have e1 := f5 W hW; have e2 := fg W hW; have e3 := fx W hW; have e4 := fy W hW; simp only [e0, e1, e2, e3, e4, Result.andThen_ok]; done)
                        | (have e0 := f0 W hW; have e1 := f5 W hW; have e2 := fg W hW; have e3 := fx W hW; have e4 := fy W hW; simp only [e0, e1, e2, e3, e4, Result.andThen_ok]; first | exact ⟨trivial, rfl⟩ | exact rfl | exact ⟨rfl, rfl⟩)
                        | ((refine (HTK.out W).mono ?_; rintro e w' ⟨rfl, hb⟩; exact ⟨rfl, hCK _ _ hW hb⟩))
                    go_big_quiet_on)))
          refine wpQuiet_nil ?_
          intro w' hw'
          have hwB := hCB w' hw'
          have hP3 := hPC w' hw'
          clear f0 f5 fg fx fy hPC hCK hCd hCB hC hC0 HTK
          obtain ⟨h0, h1, h2, h3, h4, h5, h6, h7, h8, h9, ha, hc⟩ := hP3
          simp only [Nat.zero_add] at h1 h2 h3 h4 h5 h6 h7 h8 h9 ha hc
          by_cases hag : p.ag = p.bg
          · have hv := HAP.out hag
            have HV : Hid (rightB gs secs p = (decide (p.aa + T ≤ p.ba) || decide (p.ba + T ≤ p.aa))) := by unfold Hid; rw [HR.out, hv]
            have hqq : (p.ag == p.bg) = true := by simpa using hag
            clear hv hag hkt
            by_cases o1 : p.aa < p.ba + T
            · by_cases o2 : p.ba < p.aa + T
              · repeat' (first
                  | go_values
                  | go_skip
                  | go_guarded
                  | ((fail_if_success (with_reducible refine drawn_mark ?_))
                     first
                       | go_step
                       | go_upon
                       | go_back
                       | (simp only [Int.not_lt, Int.not_le] at *; go_simp)
                       | (go_values <;> (try go_simp))
                       | (go_ite <;> go_prune <;> (try go_simp))
                       | (split <;> (first | (rename_i hx; exact (hx _ rfl).elim) | go_prune))))
                all_goals go_ret
                all_goals (refine ⟨ret_bool ?_, keep_below hwB hb4⟩; rw [HV.out]; simp; omega)
              · repeat' (first
                  | go_values
                  | go_skip
                  | go_guarded
                  | ((fail_if_success (with_reducible refine drawn_mark ?_))
                     first
                       | go_step
                       | go_upon
                       | go_back
                       | (simp only [Int.not_lt, Int.not_le] at *; go_simp)
                       | (go_values <;> (try go_simp))
                       | (go_ite <;> go_prune <;> (try go_simp))
                       | (split <;> (first | (rename_i hx; exact (hx _ rfl).elim) | go_prune))))
                all_goals go_ret
                all_goals (refine ⟨ret_bool ?_, keep_below hwB hb4⟩; rw [HV.out]; simp; omega)
            · repeat' (first
                | go_values
                | go_skip
                | go_guarded
                | ((fail_if_success (with_reducible refine drawn_mark ?_))
                   first
                     | go_step
                     | go_upon
                     | go_back
                     | (simp only [Int.not_lt, Int.not_le] at *; go_simp)
                     | (go_values <;> (try go_simp))
                     | (go_ite <;> go_prune <;> (try go_simp))
                     | (split <;> (first | (rename_i hx; exact (hx _ rfl).elim) | go_prune))))
              all_goals go_ret
              all_goals (refine ⟨ret_bool ?_, keep_below hwB hb4⟩; rw [HV.out]; simp; omega)
          · have HV : Hid (rightB gs secs p = true) := by unfold Hid; rw [HR.out, HAN.out hag]
            have hqq : (p.ag == p.bg) = false := by simpa using hag
            clear hag hkt
            repeat' (first
              | go_values
              | go_skip
              | go_guarded
              | ((fail_if_success (with_reducible refine drawn_mark ?_))
                 first
                   | go_step
                   | go_upon
                   | go_back
                   | (simp only [Int.not_lt, Int.not_le] at *; go_simp)
                   | (go_values <;> (try go_simp))
                   | (go_ite <;> go_prune <;> (try go_simp))
                   | (split <;> (first | (rename_i hx; exact (hx _ rfl).elim) | go_prune))))
            all_goals go_ret
            all_goals exact ⟨ret_bool HV.out.symm, keep_below hwB hb4⟩
        · have hq' : cMay gs secs p.bg p.ba p.size = false := by simpa using hq
          rw [hq', Bool.false_and] at HR
          rw [hq']
          go_wp2_with fail
          go_ret
          exact ⟨ret_bool HR.out.symm, hb4⟩
    · have hp' : cMay gs secs p.ag p.aa p.size = false := by simpa using hp
      rw [hp', Bool.false_and] at HR
      rw [hp']
      go_wp2_with fail
      go_ret
      exact ⟨ret_bool HR.out.symm, hb2⟩
  · have HR : Hid (rightB gs secs p = false) := by
      unfold Hid
      cases hr : rightB gs secs p with
      | false => rfl
      | true =>
        simp only [rightB, Bool.and_eq_true, decide_eq_true_eq] at hr
        exact absurd ⟨⟨hr.1.1.1.1.1, hr.1.1.1.1.2⟩, hr.1.1.1.2, hr.1.1.2⟩ hgood
    have h := HP.out
    obtain ⟨h0, h1, h2, h3, h4, h5, h6, h7, h8, h9, ha, hc⟩ := h
    go_enter Tryz.func37, Tryz.ntmps37
    go_wp2_with fail
    all_goals first | (exfalso; omega) | (go_ret; exact ⟨ret_bool HR.out.symm, by rw [← hw0]; exact hb0⟩)
end Go.Proofs.YtlpbbjjibnbooaaGreatDoor

namespace Go.Proofs.YtlpbbjjibnbooaaGreatDoor
set_option linter.unusedVariables false
set_option linter.unusedSimpArgs false
open Go.RowKit

theorem build_ptr13 (W : World) : (Instr.build 31 #[]).run Tryz.prog W = .ok (.agg #[.int .i64 0, .int .i64 0, .int .i64 0, .int .i64 0, .bool false, .int .i64 0, .int .i64 0, .int .i64 0, .int .u64 0, .int .u64 0, .int .u64 0, .int .u64 0]) W := by kernel_rfl
theorem refLevel_any (size : Int) (w : World) : Calls Tryz.prog 38 #[.int .i64 size] w fun e w' => e = .returned (.int .i64 (levN size)) ∧ w' = w := by
  have hl : levN size = if size ≤ 256 then 0 else if size ≤ 1024 then 1 else if size ≤ 4096 then 2 else 3 := rfl
  have HL := Lib.hid hl
  clear hl
  by_cases h1 : size ≤ 256
  · have hv : Hid ((levN size : Nat) = 0) := Lib.hid (by rw [HL.out, if_pos h1])
    go_enter Tryz.func38, Tryz.ntmps38
    go_wp2_with fail
    go_ret
    exact ⟨by rw [hv.out]; rfl, rfl⟩
  by_cases h2 : size ≤ 1024
  · have hv : Hid ((levN size : Nat) = 1) := Lib.hid (by rw [HL.out, if_neg h1, if_pos h2])
    go_enter Tryz.func38, Tryz.ntmps38
    go_wp2_with fail
    go_ret
    exact ⟨by rw [hv.out]; rfl, rfl⟩
  by_cases h3 : size ≤ 4096
  · have hv : Hid ((levN size : Nat) = 2) := Lib.hid (by rw [HL.out, if_neg h1, if_neg h2, if_pos h3])
    go_enter Tryz.func38, Tryz.ntmps38
    go_wp2_with fail
    go_ret
    exact ⟨by rw [hv.out]; rfl, rfl⟩
  · have hv : Hid ((levN size : Nat) = 3) := Lib.hid (by rw [HL.out, if_neg h1, if_neg h2, if_neg h3])
    go_enter Tryz.func38, Tryz.ntmps38
    go_wp2_with fail
    go_ret
    exact ⟨by rw [hv.out]; rfl, rfl⟩
set_option maxRecDepth 100000 in
set_option maxHeartbeats 4000000 in
theorem refRight13_any (A : Option Addr) (m c : Nat) (gs : List (Int × Int)) (secs n : Int) (p : PtrD) (w : World) (hg : GeoAt w A m gs) :
    Calls Tryz.prog 11 #[.agg #[.slice A m c, .int .i64 secs], .agg #[.int .i64 n, .int .i64 p.ag, .int .i64 p.aa, .int .i64 p.bg, .int .i64 p.ba, .bool p.two, .int .i64 p.size, .int .i64 p.level, .int .i64 p.birth, .int .u64 p.s0, .int .u64 p.s1, .int .u64 p.s2, .int .u64 p.s3]] w fun e w' => e = .returned (.bool (nRightB gs secs n p)) ∧ Below w.heap.size w w' := by
  have hbz := build_ptr13
  obtain ⟨w0, hw0⟩ : ∃ w0, w0 = ((w.alloc (Obj.cells #[Value.slice A m c, Value.int IntKind.i64 secs] 24)).alloc (.cells #[.int .i64 n, .int .i64 p.ag, .int .i64 p.aa, .int .i64 p.bg, .int .i64 p.ba, .bool p.two, .int .i64 p.size, .int .i64 p.level, .int .i64 p.birth, .int .u64 p.s0, .int .u64 p.s1, .int .u64 p.s2, .int .u64 p.s3] 33)) := ⟨_, rfl⟩
  have hb0 : Below w.heap.size w w0 := by rw [hw0]; exact ((Below.refl _ _).alloc (Nat.le_refl _) _).alloc (by simp) _
  have hs0 : w.heap.size + 2 ≤ w0.heap.size := by rw [hw0]; simp
  have HP0 : Hid (PtrAt w0 (w.heap.size + 1) 1 p) := by
    have := nodeAt_new (w.alloc (Obj.cells #[Value.slice A m c, Value.int IntKind.i64 secs] 24)) n p 33
    rw [World.size_alloc] at this
    rw [hw0]; exact Lib.hid this
  have k1 : w0.cell? ⟨w.heap.size, 0, none⟩ = some (.slice A m c) := by rw [hw0]; exact cell_alloc (cell_new rfl rfl) _
  have k2 : w0.cell? ⟨w.heap.size, 1, none⟩ = some (.int .i64 secs) := by rw [hw0]; exact cell_alloc (cell_new rfl rfl) _
  have k3 : w0.cell? ⟨w.heap.size + 1, 0, none⟩ = some (.int .i64 n) := by rw [hw0]; exact cell_new (by simp) rfl
  have HV : Hid (nRightB gs secs n p = (decide (0 ≤ n ∧ n ≤ 16384) && (noneB p || rightB gs secs p && decide (p.level = levN n)))) := Lib.hid rfl
  by_cases hn : 0 ≤ n ∧ n ≤ 16384
  · rw [decide_eq_true hn, Bool.true_and] at HV
    obtain ⟨hn1, hn2⟩ := hn
    have HL := Lib.hid fun W => refLevel_any n W
    have HRT : Hid (∀ W, Below w0.heap.size w0 W → Calls Tryz.prog 37 #[.agg #[.slice A m c, .int .i64 secs], .agg #[.int .i64 p.ag, .int .i64 p.aa, .int .i64 p.bg, .int .i64 p.ba, .bool p.two, .int .i64 p.size, .int .i64 p.level, .int .i64 p.birth, .int .u64 p.s0, .int .u64 p.s1, .int .u64 p.s2, .int .u64 p.s3]] W fun e w' => e = .returned (.bool (rightB gs secs p)) ∧ Below W.heap.size W w') :=
      Lib.hid fun W hB => refRight9_any A m c gs secs p W (hg.below (hb0.trans (hB.mono hb0.size)) (Nat.le_refl _))
    go_enter Tryz.func11, Tryz.ntmps11
    repeat' (first
      | go_values
      | go_skip
      | go_guarded
      | ((fail_if_success (with_reducible refine drawn_mark ?_))
         first
           | go_step
           | go_upon
           | go_back
           | (simp only [Int.not_lt, Int.not_le] at *; go_simp)
           | (go_values <;> (try go_simp))
           | (go_ite <;> go_prune <;> (try go_simp))
           | (split <;> (first | (rename_i hx; exact (hx _ rfl).elim) | go_prune))))
    rw [← hw0]
    clear hw0
    obtain ⟨C, hC, hC0, hCB, hCK, hCd⟩ := cls_below w0
    have hPC : ∀ W, C W → PtrAt W (w.heap.size + 1) 1 p := fun W h => HP0.out.keep (hCB W h) (by omega)
    have f0 : ∀ W, C W → W.cell? ⟨w.heap.size + 1, 1, none⟩ = some (.int .i64 p.ag) := fun W h => (hPC W h).1
    have f1 : ∀ W, C W → W.cell? ⟨w.heap.size + 1, 2, none⟩ = some (.int .i64 p.aa) := fun W h => (hPC W h).2.1
    have f2 : ∀ W, C W → W.cell? ⟨w.heap.size + 1, 3, none⟩ = some (.int .i64 p.bg) := fun W h => (hPC W h).2.2.1
    have f3 : ∀ W, C W → W.cell? ⟨w.heap.size + 1, 4, none⟩ = some (.int .i64 p.ba) := fun W h => (hPC W h).2.2.2.1
    have f4 : ∀ W, C W → W.cell? ⟨w.heap.size + 1, 5, none⟩ = some (.bool p.two) := fun W h => (hPC W h).2.2.2.2.1
    have f5 : ∀ W, C W → W.cell? ⟨w.heap.size + 1, 6, none⟩ = some (.int .i64 p.size) := fun W h => (hPC W h).2.2.2.2.2.1
    have f6 : ∀ W, C W → W.cell? ⟨w.heap.size + 1, 7, none⟩ = some (.int .i64 p.level) := fun W h => (hPC W h).2.2.2.2.2.2.1
    have f7 : ∀ W, C W → W.cell? ⟨w.heap.size + 1, 8, none⟩ = some (.int .i64 p.birth) := fun W h => (hPC W h).2.2.2.2.2.2.2.1
    have f8 : ∀ W, C W → W.cell? ⟨w.heap.size + 1, 9, none⟩ = some (.int .u64 p.s0) := fun W h => (hPC W h).2.2.2.2.2.2.2.2.1
    have f9 : ∀ W, C W → W.cell? ⟨w.heap.size + 1, 10, none⟩ = some (.int .u64 p.s1) := fun W h => (hPC W h).2.2.2.2.2.2.2.2.2.1
    have f10 : ∀ W, C W → W.cell? ⟨w.heap.size + 1, 11, none⟩ = some (.int .u64 p.s2) := fun W h => (hPC W h).2.2.2.2.2.2.2.2.2.2.1
    have f11 : ∀ W, C W → W.cell? ⟨w.heap.size + 1, 12, none⟩ = some (.int .u64 p.s3) := fun W h => (hPC W h).2.2.2.2.2.2.2.2.2.2.2
    have fn : ∀ W, C W → W.cell? ⟨w.heap.size + 1, 0, none⟩ = some (.int .i64 n) := fun W h => keep_cell (hCB W h) k3 (by omega)
    have fg0 : ∀ W, C W → W.cell? ⟨w.heap.size, 0, none⟩ = some (.slice A m c) := fun W h => keep_cell (hCB W h) k1 (by omega)
    have fg1 : ∀ W, C W → W.cell? ⟨w.heap.size, 1, none⟩ = some (.int .i64 secs) := fun W h => keep_cell (hCB W h) k2 (by omega)
    have he : ∀ W, (binOp .eql 31 (.agg #[.int .i64 p.ag, .int .i64 p.aa, .int .i64 p.bg, .int .i64 p.ba, .bool p.two, .int .i64 p.size, .int .i64 p.level, .int .i64 p.birth, .int .u64 p.s0, .int .u64 p.s1, .int .u64 p.s2, .int .u64 p.s3])
      (.agg #[.int .i64 0, .int .i64 0, .int .i64 0, .int .i64 0, .bool false, .int .i64 0, .int .i64 0, .int .i64 0, .int .u64 0, .int .u64 0, .int .u64 0, .int .u64 0])).run Tryz.prog W = .ok (.bool (noneB p)) W := fun W => eql_ptr p ptrZ W
    clear k1 k2 k3
    generalize levN n = L at *
    cases hno : noneB p with
    | true =>
      rw [hno] at he HV
      clear hno
      refine wp_region_cls C (by kernel_rfl) (by kernel_rfl) hC ?_
      repeat (first
        | go_big_quiet_skip
        | (go_big_quiet_want
           go_big_quiet_op
           first
             | go_big_quiet_on
             | (apply Exists.intro
                refine ⟨fun W hW => ?_, ?_⟩
                · first
                    | exact rfl
                    | exact ⟨rfl, rfl⟩
                    | (have e0 := f0 W hW; have e1 := f1 W hW; have e2 := f2 W hW; have e3 := f3 W hW; have e4 := f4 W hW; have e5 := f5 W hW; have e6 := f6 W hW; have e7 := f7 W hW; have e8 := f8 W hW; have e9 := f9 W hW; have e10 := f10 W hW; have e11 := f11 W hW; have e12 := fn W hW; have e13 := fg0 W hW; have e14 := fg1 W hW; simp only [e0, e1, e2, e3, e4, e5, e6, e7, e8, e9, e10, e11, e12, e13, e14, Result.andThen_ok]; done)
                    | (have e0 := f0 W hW; have e1 := f1 W hW; have e2 := f2 W hW; have e3 := f3 W hW; have e4 := f4 W hW; have e5 := f5 W hW; have e6 := f6 W hW; have e7 := f7 W hW; have e8 := f8 W hW; have e9 := f9 W hW; have e10 := f10 W hW; have e11 := f11 W hW; have e12 := fn W hW; have e13 := fg0 W hW; have e14 := fg1 W hW; simp only [e0, e1, e2, e3, e4, e5, e6, e7, e8, e9, e10, e11, e12, e13, e14, Result.andThen_ok]; first | exact ⟨trivial, rfl⟩ | exact rfl | exact ⟨rfl, rfl⟩)
                    | ((go_at_call 37; refine (HRT.out W (hCB W hW)).mono ?_; rintro e w' ⟨rfl, hb⟩; exact ⟨rfl, hCK _ _ hW hb⟩))
                    | ((go_at_call 38; refine (HL.out W).mono ?_; rintro e w' ⟨rfl, rfl⟩; exact ⟨rfl, hW⟩))
                go_big_quiet_on)))
      refine wpQuiet_nil ?_
      intro v4 hv4
      have hwB := hCB v4 hv4
      go_wp2_with fail
      go_ret
      exact ⟨ret_bool (by first | exact HV.out.symm | (rw [HV.out]; simp; done) | (rw [HV.out, Bool.eq_iff_iff]; simp)), keep_below hwB hb0⟩
    | false =>
      rw [hno] at he HV
      clear hno
      cases hr : rightB gs secs p with
      | true =>
        rw [hr] at HRT HV
        clear hr
        refine wp_region_cls C (by kernel_rfl) (by kernel_rfl) hC ?_
        repeat (first
          | go_big_quiet_skip
          | (go_big_quiet_want
             go_big_quiet_op
             first
               | go_big_quiet_on
               | (apply Exists.intro
                  refine ⟨fun W hW => ?_, ?_⟩
                  · first
                      | exact rfl
                      | exact ⟨rfl, rfl⟩
                      | (have e0 := f0 W hW; have e1 := f1 W hW; have e2 := f2 W hW; have e3 := f3 W hW; have e4 := f4 W hW; have e5 := f5 W hW; have e6 := f6 W hW; have e7 := f7 W hW; have e8 := f8 W hW; have e9 := f9 W hW; have e10 := f10 W hW; have e11 := f11 W hW; have e12 := fn W hW; have e13 := fg0 W hW; have e14 := fg1 W hW; simp only [e0, e1, e2, e3, e4, e5, e6, e7, e8, e9, e10, e11, e12, e13, e14, Result.andThen_ok]; done)
                      | (have e0 := f0 W hW; have e1 := f1 W hW; have e2 := f2 W hW; have e3 := f3 W hW; have e4 := f4 W hW; have e5 := f5 W hW; have e6 := f6 W hW; have e7 := f7 W hW; have e8 := f8 W hW; have e9 := f9 W hW; have e10 := f10 W hW; have e11 := f11 W hW; have e12 := fn W hW; have e13 := fg0 W hW; have e14 := fg1 W hW; simp only [e0, e1, e2, e3, e4, e5, e6, e7, e8, e9, e10, e11, e12, e13, e14, Result.andThen_ok]; first | exact ⟨trivial, rfl⟩ | exact rfl | exact ⟨rfl, rfl⟩)
                      | ((go_at_call 37; refine (HRT.out W (hCB W hW)).mono ?_; rintro e w' ⟨rfl, hb⟩; exact ⟨rfl, hCK _ _ hW hb⟩))
                      | ((go_at_call 38; refine (HL.out W).mono ?_; rintro e w' ⟨rfl, rfl⟩; exact ⟨rfl, hW⟩))
                  go_big_quiet_on)))
        refine wpQuiet_nil ?_
        intro v4 hv4
        have hwB := hCB v4 hv4
        go_wp2_with fail
        go_ret
        exact ⟨ret_bool (by first | exact HV.out.symm | (rw [HV.out]; simp; done) | (rw [HV.out, Bool.eq_iff_iff]; simp)), keep_below hwB hb0⟩
      | false =>
        rw [hr] at HRT HV
        clear hr
        refine wp_region_cls C (by kernel_rfl) (by kernel_rfl) hC ?_
        repeat (first
          | go_big_quiet_skip
          | (go_big_quiet_want
             go_big_quiet_op
             first
               | go_big_quiet_on
               | (apply Exists.intro
                  refine ⟨fun W hW => ?_, ?_⟩
                  · first
                      | exact rfl
                      | exact ⟨rfl, rfl⟩
                      | (have e0 := f0 W hW; have e1 := f1 W hW; have e2 := f2 W hW; have e3 := f3 W hW; have e4 := f4 W hW; have e5 := f5 W hW; have e6 := f6 W hW; have e7 := f7 W hW; have e8 := f8 W hW; have e9 := f9 W hW; have e10 := f10 W hW; have e11 := f11 W hW; have e12 := fn W hW; have e13 := fg0 W hW; have e14 := fg1 W hW; simp only [e0, e1, e2, e3, e4, e5, e6, e7, e8, e9, e10, e11, e12, e13, e14, Result.andThen_ok]; done)
                      | (have e0 := f0 W hW; have e1 := f1 W hW; have e2 := f2 W hW; have e3 := f3 W hW; have e4 := f4 W hW; have e5 := f5 W hW; have e6 := f6 W hW; have e7 := f7 W hW; have e8 := f8 W hW; have e9 := f9 W hW; have e10 := f10 W hW; have e11 := f11 W hW; have e12 := fn W hW; have e13 := fg0 W hW; have e14 := fg1 W hW; simp only [e0, e1, e2, e3, e4, e5, e6, e7, e8, e9, e10, e11, e12, e13, e14, Result.andThen_ok]; first | exact ⟨trivial, rfl⟩ | exact rfl | exact ⟨rfl, rfl⟩)
                      | ((go_at_call 37; refine (HRT.out W (hCB W hW)).mono ?_; rintro e w' ⟨rfl, hb⟩; exact ⟨rfl, hCK _ _ hW hb⟩))
                      | ((go_at_call 38; refine (HL.out W).mono ?_; rintro e w' ⟨rfl, rfl⟩; exact ⟨rfl, hW⟩))
                  go_big_quiet_on)))
        refine wpQuiet_nil ?_
        intro v4 hv4
        have hwB := hCB v4 hv4
        go_wp2_with fail
        go_ret
        exact ⟨ret_bool (by first | exact HV.out.symm | (rw [HV.out]; simp; done) | (rw [HV.out, Bool.eq_iff_iff]; simp)), keep_below hwB hb0⟩
  · have hv : Hid (nRightB gs secs n p = false) := by unfold Hid; rw [HV.out, decide_eq_false hn]; rfl
    have hn' : n < 0 ∨ (0 ≤ n ∧ 16384 < n) := by omega
    clear hn
    rcases hn' with hn | ⟨hn, hn2⟩
    all_goals
      go_enter Tryz.func11, Tryz.ntmps11
      go_wp2_with fail
      all_goals go_ret
      all_goals exact ⟨ret_bool hv.out.symm, by rw [← hw0]; exact hb0⟩
end Go.Proofs.YtlpbbjjibnbooaaGreatDoor

namespace Go.Proofs.YtlpbbjjibnbooaaGreatDoor
set_option linter.unusedVariables false
set_option linter.unusedSimpArgs false
open Go.RowKit

theorem Tryz.stoodUber18 : Tryz.prog.stoodInHeld 35 = false := by kernel_rfl
theorem eqIn_node18 (n m : Int) (p q : PtrD) (d : Nat) (w : World) : (Op.equalIn (d + 4) 33 (.agg #[.int .i64 n, .int .i64 p.ag, .int .i64 p.aa, .int .i64 p.bg, .int .i64 p.ba, .bool p.two, .int .i64 p.size, .int .i64 p.level, .int .i64 p.birth, .int .u64 p.s0, .int .u64 p.s1, .int .u64 p.s2, .int .u64 p.s3]) (.agg #[.int .i64 m, .int .i64 q.ag, .int .i64 q.aa, .int .i64 q.bg, .int .i64 q.ba, .bool q.two, .int .i64 q.size, .int .i64 q.level, .int .i64 q.birth, .int .u64 q.s0, .int .u64 q.s1, .int .u64 q.s2, .int .u64 q.s3])).run Tryz.prog w = .ok (n == m && ptrEq p q) w := by
  rw [run_equalIn_struct w (d + 3) _ _ _ (by kernel_rfl) Tryz.stoodNode]
  simp [go_sem, Tryz.underlying33, eqIn_ptr]
  by_cases h1 : n = m <;> cases ptrEq p q <;> simp [h1]
theorem eqIn_uber18 (t s n m : Int) (p q : PtrD) (d : Nat) (w : World) : (Op.equalIn (d + 5) 35 (.agg #[.int .i64 t, .int .i64 n, .int .i64 p.ag, .int .i64 p.aa, .int .i64 p.bg, .int .i64 p.ba, .bool p.two, .int .i64 p.size, .int .i64 p.level, .int .i64 p.birth, .int .u64 p.s0, .int .u64 p.s1, .int .u64 p.s2, .int .u64 p.s3]) (.agg #[.int .i64 s, .int .i64 m, .int .i64 q.ag, .int .i64 q.aa, .int .i64 q.bg, .int .i64 q.ba, .bool q.two, .int .i64 q.size, .int .i64 q.level, .int .i64 q.birth, .int .u64 q.s0, .int .u64 q.s1, .int .u64 q.s2, .int .u64 q.s3])).run Tryz.prog w = .ok (t == s && (n == m && ptrEq p q)) w := by
  rw [run_equalIn_struct w (d + 4) _ _ _ (by kernel_rfl) Tryz.stoodUber18]
  simp [go_sem, Tryz.underlying35, eqIn_node18]
  by_cases h0 : t = s <;> by_cases h1 : n = m <;> cases ptrEq p q <;> simp [h0, h1]
theorem eql_uber18 (t s n m : Int) (p q : PtrD) (w : World) : (binOp .eql 35 (.agg #[.int .i64 t, .int .i64 n, .int .i64 p.ag, .int .i64 p.aa, .int .i64 p.bg, .int .i64 p.ba, .bool p.two, .int .i64 p.size, .int .i64 p.level, .int .i64 p.birth, .int .u64 p.s0, .int .u64 p.s1, .int .u64 p.s2, .int .u64 p.s3]) (.agg #[.int .i64 s, .int .i64 m, .int .i64 q.ag, .int .i64 q.aa, .int .i64 q.bg, .int .i64 q.ba, .bool q.two, .int .i64 q.size, .int .i64 q.level, .int .i64 q.birth, .int .u64 q.s0, .int .u64 q.s1, .int .u64 q.s2, .int .u64 q.s3])).run Tryz.prog w = .ok (.bool (t == s && (n == m && ptrEq p q))) w := by
  rw [run_eql_struct, eqIn_uber18 t s n m p q 9995]; rfl
end Go.Proofs.YtlpbbjjibnbooaaGreatDoor

namespace Go.Proofs.YtlpbbjjibnbooaaGreatDoor
set_option linter.unusedVariables false
set_option linter.unusedSimpArgs false
open Go.RowKit

/-- Devices, some of them lost. -/
theorem ubls_ok {ll : List Bool} {n k secs : Nat} (h1 : 1 ≤ secs) (h2 : secs ≤ 4096) : DsOk 0 secs (lsT ll (DevD.blank secs 0) n k) := fun d hd => by
  unfold lsT at hd
  obtain ⟨i, _, rfl⟩ := List.mem_map.1 hd
  split
  · exact ⟨(blank_ok h1 h2).lose, by simp [DevD.blank, DevD.lose], rfl, fun k => Nat.zero_le _⟩
  · exact ⟨blank_ok h1 h2, by simp [DevD.blank], rfl, fun k => Nat.zero_le _⟩
theorem ubls_here {al ll : List Bool} {n secs i : Nat} (hi : i < n) : hereD (awT al n n) (lsT ll (DevD.blank secs 0) n n) i = (!bAt al i && !bAt ll i) := by
  rw [hereD_at (awT_at hi) (lsT_at hi), decide_eq_true hi, Bool.true_and, Bool.true_and]
  cases bAt ll i <;> rfl
/-- What a slot may read as behind the writing of the last one. -/
def upTo (last : UbD) (x : UbD × Int) : Prop := x.2 = 0 → x.1 = last ∨ x.1.t < last.t
section
variable {gs : List (Int × Int)} {secs : Int} {aw : List Bool} {ds : List DevD} {last : UbD}
end
/-- Behind writings with rising groups. -/
structure BInv (gs : List (Int × Int)) (secs : Int) (aw : List Bool) (ds : List DevD) (n : Nat) (last : UbD) : Prop where
  up : ∀ e, e < n → ∀ j, j < 4 → upTo last (uoD gs secs aw ds e j)
  hit : last = ubZ ∨ (0 < last.t ∧ (∃ e, e < n ∧ hereD aw ds e = true) ∧ ubOk gs secs last.t last.n last.p = true ∧ last.p.Ok ∧ nRightB gs secs last.n last.p = true ∧ ∀ e, e < n → hereD aw ds e = true → slotL ds e (last.t.toNat % 4 * 4) 4 = ubL gs secs last.t last.n last.p)
theorem uoD_out {gs : List (Int × Int)} {secs : Int} {aw : List Bool} {ds : List DevD} {e j : Nat} (h : hereD aw ds e = false) : uoD gs secs aw ds e j = (ubZ, 6) := by
  unfold uoD
  rw [h]
  rfl
theorem uoD_in {gs : List (Int × Int)} {secs : Int} {aw : List Bool} {ds : List DevD} {e j : Nat} (h : hereD aw ds e = true) : uoD gs secs aw ds e j = urD gs secs (slotL ds e (j * 4) 4) := by
  unfold uoD
  rw [h]
  rfl
theorem slotL_congr {ds es : List DevD} {e : Nat} (h : ds[e]? = es[e]?) (b i : Nat) : slotL ds e b i = slotL es e b i := by
  unfold slotL
  congr 1
  refine List.map_congr_left fun j _ => ?_
  unfold look
  show (match ds[(ubCol e b j).1.toNat]? with | some d => _ | none => _) = _
  have e1 : (ubCol e b j).1.toNat = e := Int.toNat_natCast _
  rw [e1, h]
  rfl
end Go.Proofs.YtlpbbjjibnbooaaGreatDoor

namespace Go.Proofs.YtlpbbjjibnbooaaGreatDoor
set_option linter.unusedVariables false
set_option linter.unusedSimpArgs false
open Go.RowKit

section
variable {k : Nat} {a p : Int} {b : UInt8} {ds : List DevD}
end
section
variable {ds es : List DevD} {d : DevD} {e base secs N : Nat} {a p : Int} {b : UInt8}
end
end Go.Proofs.YtlpbbjjibnbooaaGreatDoor
