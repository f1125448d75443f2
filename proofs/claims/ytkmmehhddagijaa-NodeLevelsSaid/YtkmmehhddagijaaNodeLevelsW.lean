/-
  The walk of NodeLevels.
-/
import Derived.Test.YtkmmehhddagijaaNodeR
namespace Go.Proofs.Ytkmmehhddagijaa
set_option linter.unusedVariables false
set_option linter.unusedSimpArgs false
open Go.RowKit

def mostN : Nat → Int
  | 0 => 256
  | 1 => 1024
  | 2 => 4096
  | _ => 16384
theorem mostN_step (k : Nat) (h : k < 3) : mostN (k + 1) = mostN k * 4 := by
  match k, h with
  | 0, _ => rfl
  | 1, _ => rfl
  | 2, _ => rfl
theorem mostN_bd (k : Nat) : 256 ≤ mostN k ∧ mostN k ≤ 16384 := by
  match k with
  | 0 => exact ⟨by decide, by decide⟩
  | 1 => exact ⟨by decide, by decide⟩
  | 2 => exact ⟨by decide, by decide⟩
  | k + 3 => exact ⟨show (256 : Int) ≤ 16384 by decide, show (16384 : Int) ≤ 16384 by decide⟩

theorem levN_most {n : Int} (h : n ≤ 16384) : n ≤ mostN (levN n) ∧ (levN n = 0 ∨ mostN (levN n) / 4 < n) := by
  unfold levN
  (repeat' split) <;> simp [mostN] <;> omega

set_option maxRecDepth 100000 in
set_option maxHeartbeats 8000000 in
theorem levelsLaw_any (A : Option Addr) (m c : Nat) (gs : List (Int × Int)) (secs n : Int) (p : PtrD) (a b : Int) (w : World) (hg : GeoAt w A m gs) :
    Calls Try.prog 4 #[.agg #[.slice A m c, .int .i64 secs], .agg #[.int .i64 n, .int .i64 p.ag, .int .i64 p.aa, .int .i64 p.bg, .int .i64 p.ba, .bool p.two, .int .i64 p.size, .int .i64 p.level, .int .i64 p.birth, .int .u64 p.s0, .int .u64 p.s1, .int .u64 p.s2, .int .u64 p.s3], .int .i64 a, .int .i64 b] w fun e w' => e = .returned (.bool true) ∧ Below w.heap.size w w' := by
  obtain ⟨w0, hw0⟩ : ∃ w0, w0 = ((w.alloc (Obj.cells #[Value.slice A m c, Value.int IntKind.i64 secs] 41)).alloc (.cells #[.int .i64 n, .int .i64 p.ag, .int .i64 p.aa, .int .i64 p.bg, .int .i64 p.ba, .bool p.two, .int .i64 p.size, .int .i64 p.level, .int .i64 p.birth, .int .u64 p.s0, .int .u64 p.s1, .int .u64 p.s2, .int .u64 p.s3] 43)) := ⟨_, rfl⟩
  have hb0 : Below w.heap.size w w0 := by rw [hw0]; exact ((Below.refl _ _).alloc (Nat.le_refl _) _).alloc (by simp) _
  have hs0 : w.heap.size + 2 ≤ w0.heap.size := by rw [hw0]; simp
  have HP0 : Hid (PtrAt w0 (w.heap.size + 1) 1 p) := by
    have := nodeAt_new (w.alloc (Obj.cells #[Value.slice A m c, Value.int IntKind.i64 secs] 41)) n p 43
    rw [World.size_alloc] at this
    rw [hw0]; exact Lib.hid this
  have k1 : w0.cell? ⟨w.heap.size, 0, none⟩ = some (.slice A m c) := by rw [hw0]; exact cell_alloc (cell_new rfl rfl) _
  have k2 : w0.cell? ⟨w.heap.size, 1, none⟩ = some (.int .i64 secs) := by rw [hw0]; exact cell_alloc (cell_new rfl rfl) _
  have k3 : w0.cell? ⟨w.heap.size + 1, 0, none⟩ = some (.int .i64 n) := by rw [hw0]; exact cell_new (by simp) rfl
  have HLa := Lib.hid fun W => (level_any a W).mono (R' := fun e w' => e = .returned (.int .i64 (levN a)) ∧ w' = W) fun e w' h => ⟨h.1, h.2.symm⟩
  have HLb := Lib.hid fun W => (level_any b W).mono (R' := fun e w' => e = .returned (.int .i64 (levN b)) ∧ w' = W) fun e w' h => ⟨h.1, h.2.symm⟩
  have HL := Lib.hid fun W => (level_any n W).mono (R' := fun e w' => e = .returned (.int .i64 (levN n)) ∧ w' = W) fun e w' h => ⟨h.1, h.2.symm⟩
  have HM : Hid (a ≤ b → levN a ≤ levN b) := Lib.hid levN_mono
  have hla := levN_le a
  have hlb := levN_le b
  have HRN := Lib.hid (nright_any A m c gs secs n p)
  have HNR : Hid (nRightB gs secs n p = true → (n ≤ mostN (levN n) ∧ (levN n = 0 ∨ mostN (levN n) / 4 < n)) ∧ (noneB p = true ∨ (noneB p = false ∧ p.level = levN n))) := Lib.hid fun h => by
    simp only [nRightB, Bool.and_eq_true, Bool.or_eq_true, decide_eq_true_eq] at h
    refine ⟨levN_most h.1.2, ?_⟩
    cases hno : noneB p with
    | true => exact .inl rfl
    | false =>
      rw [hno] at h
      exact .inr ⟨rfl, by simpa using (by simpa using h.2 : rightB gs secs p = true ∧ p.level = (levN n : Int)).2⟩
  have hln := levN_le n
  generalize levN a = la at *
  generalize levN b = lb at *
  generalize levN n = L at *
  go_enter Try.func4, Try.ntmps4
  go_wp2_with fail
  rw [← hw0]
  clear hw0
  refine (awake13_any _).mono ?_
  rintro e w1 ⟨rfl, hb1⟩
  have l1 := keep_cell hb1 k1 (by omega)
  have l2 := keep_cell hb1 k2 (by omega)
  have l3 := keep_cell hb1 k3 (by omega)
  have HP1 := Lib.hid (HP0.out.keep hb1 (by omega))
  have hd1 := keep_below hb1 hb0
  have hs1 := keep_size hb1 hs0
  clear k1 k2 k3 HP0 hb1 hb0 hs0
  by_cases hm : (100 : Int) < m
  · go_wp2_with fail
    refine (awake13_any _).mono ?_
    rintro e w2 ⟨rfl, hb2⟩
    have m1 := keep_cell hb2 l1 (by omega)
    go_wp2_with fail
    go_ret
    exact ⟨ret_bool (by simp), keep_below hb2 hd1⟩
  · have hm2 : (m : Int) ≤ 100 := by omega
    clear hm
    have hmain : ∀ (K : Unit), True := fun _ => trivial
    by_cases hab : a ≤ b
    · have hlab := HM.out hab
      have hh := trivial
      · go_wp2_with fail
        refine (HLa.out _).mono ?_
        rintro e w2 ⟨rfl, rfl⟩
        go_wp2_with fail
        refine (HLb.out _).mono ?_
        rintro e w2 ⟨rfl, rfl⟩
        go_wp2_with fail
        refine (HLa.out _).mono ?_
        rintro e w2 ⟨rfl, rfl⟩
        go_wp2_with fail
        refine (HLa.out _).mono ?_
        rintro e w2 ⟨rfl, rfl⟩
        have h := HP1.out
        obtain ⟨p0, p1, p2, p3, p4, p5, p6, p7, p8, p9, pa, pb⟩ := h
        simp only [Nat.reduceAdd] at p1 p2 p3 p4 p5 p6 p7 p8 p9 pa pb
        go_wp2_with fail
        refine (HRN.out _ (hg.below hd1 (Nat.le_refl _))).mono ?_
        rintro e w3 ⟨rfl, hb3⟩
        have m3 := keep_cell hb3 l3 (by omega)
        have HP3 := Lib.hid (HP1.out.keep hb3 (by omega))
        have hd3 := keep_below hb3 hd1
        have hs3 := keep_size hb3 hs1
        clear p0 p1 p2 p3 p4 p5 p6 p7 p8 p9 pa pb l1 l2 l3 HP1 hd1 hs1
        cases hr : nRightB gs secs n p with
        | false =>
          go_wp2_with fail
          go_ret
          exact ⟨rfl, hd3⟩
        | true =>
          obtain ⟨⟨q1, q2⟩, q3⟩ := HNR.out hr
          have Q := Lib.hid (And.intro q1 (And.intro q2 q3))
          clear q1 q2 q3 hr
          go_wp2_with fail
          go_loop [9, 10] (fun mo i => ∃ k : Nat, k ≤ L ∧ i = .int .i64 k ∧ mo = .int .i64 (mostN k)) (fun _ i => L - (intOf i).toNat)
          case atStart => exact ⟨0, Nat.zero_le _, rfl, rfl⟩
          case round =>
            obtain ⟨k, hk, rfl, rfl⟩ := hrel
            by_cases hlt : k < L
            · have hst := mostN_step k (by omega)
              have hbd := mostN_bd k
              have HS := Lib.hid hst
              obtain ⟨hb1, hb2⟩ := hbd
              clear hst
              generalize mostN k = M at *
              go_wp2_with fail
              refine (HL.out _).mono ?_
              rintro e w4 ⟨rfl, rfl⟩
              go_wp2_with fail
              go_round
              case rel => exact ⟨k + 1, by omega, by go_num, by rw [HS.out]⟩
              case measure => simp [intOf]; omega
            · obtain rfl : k = L := by omega
              obtain ⟨q1, q2, q3⟩ := Q.out
              have hbd := mostN_bd k
              generalize mostN k = M at *
              obtain ⟨hb1, hb2⟩ := hbd
              go_wp2_with fail
              refine (HL.out _).mono ?_
              rintro e w4 ⟨rfl, rfl⟩
              obtain ⟨C, hC, hC0, hCB, hCK, hCd⟩ := cls_below w4
              have hPC : ∀ W, C W → PtrAt W (w.heap.size + 1) 1 p := fun W h => HP3.out.keep (hCB W h) (by omega)
              have f0 : ∀ W, C W → W.cell? ⟨w.heap.size + 1, 1, none⟩ = some (.int .i64 p.ag) := fun W h => (hPC W h).1
              have f1 : ∀ W, C W → W.cell? ⟨w.heap.size + 1, 2, none⟩ = some (.int .i64 p.aa) := fun W h => (hPC W h).2.1
              have f2 : ∀ W, C W → W.cell? ⟨w.heap.size + 1, 3, none⟩ = some (.int .i64 p.bg) := fun W h => (hPC W h).2.2.1
              have f3 : ∀ W, C W → W.cell? ⟨w.heap.size + 1, 4, none⟩ = some (.int .i64 p.ba) := fun W h => (hPC W h).2.2.2.1
              have f4 : ∀ W, C W → W.cell? ⟨w.heap.size + 1, 5, none⟩ = some (.bool p.two) := fun W h => (hPC W h).2.2.2.2.1
              have f5 : ∀ W, C W → W.cell? ⟨w.heap.size + 1, 6, none⟩ = some (.int .i64 p.size) := fun W h => (hPC W h).2.2.2.2.2.1
              have f6 : ∀ W, C W → W.cell? ⟨w.heap.size + 1, 7, none⟩ = some (.int .i64 p.level) := fun W h => (hPC W h).2.2.2.2.2.2.1
              have f7 : ∀ W, C W → W.cell? ⟨w.heap.size + 1, 8, none⟩ = some (.int .i64 p.birth) := fun W h => (hPC W h).2.2.2.2.2.2.2.1
              have f8 : ∀ W, C W → W.cell? ⟨w.heap.size + 1, 9, none⟩ = some (.int .u64 p.s0) := fun W h => (hPC W h).2.2.2.2.2.2.2.2.1
              have f9 : ∀ W, C W → W.cell? ⟨w.heap.size + 1, 10, none⟩ = some (.int .u64 p.s1) := fun W h => (hPC W h).2.2.2.2.2.2.2.2.2.1
              have f10 : ∀ W, C W → W.cell? ⟨w.heap.size + 1, 11, none⟩ = some (.int .u64 p.s2) := fun W h => (hPC W h).2.2.2.2.2.2.2.2.2.2.1
              have f11 : ∀ W, C W → W.cell? ⟨w.heap.size + 1, 12, none⟩ = some (.int .u64 p.s3) := fun W h => (hPC W h).2.2.2.2.2.2.2.2.2.2.2
              have fn : ∀ W, C W → W.cell? ⟨w.heap.size + 1, 0, none⟩ = some (.int .i64 n) := fun W h => keep_cell (hCB W h) m3 (by omega)
              have hq : ∀ W, (binOp .eql 28 (.agg #[.int .i64 p.ag, .int .i64 p.aa, .int .i64 p.bg, .int .i64 p.ba, .bool p.two, .int .i64 p.size, .int .i64 p.level, .int .i64 p.birth, .int .u64 p.s0, .int .u64 p.s1, .int .u64 p.s2, .int .u64 p.s3]) (.agg #[.int .i64 0, .int .i64 0, .int .i64 0, .int .i64 0, .bool false, .int .i64 0, .int .i64 0, .int .i64 0, .int .u64 0, .int .u64 0, .int .u64 0, .int .u64 0])).run Try.prog W = .ok (.bool (noneB p)) W := fun W => eql_ptr p ptrZ W
              repeat' (first
                | go_values
                | go_skip
                | go_guarded
                | ((fail_if_success (with_reducible refine drawn_mark ?_))
                   first
                     | go_step
                     | go_upon
                     | go_back
                     | (simp only [Int.not_lt, Int.not_le] at *; go_simp)
                     | (go_values <;> (try go_simp))
                     | (go_ite <;> go_prune <;> (try go_simp))
                     | (split <;> (first | (rename_i hx; exact (hx _ rfl).elim) | go_prune))))
              have hle : decide (n ≤ M) = true := decide_eq_true q1
              have htd : M.tdiv 4 = M / 4 := Int.tdiv_eq_ediv_of_nonneg (by omega)
              have hw4 : IntKind.i64.wrap (M / 4) = M / 4 := IntWalk.i64_in (M / 4) (by omega)
              have q2' : ((k : Int) == 0) = true ∨ (((k : Int) == 0) = false ∧ decide (M / 4 < n) = true) := by
                by_cases h0 : k = 0
                · exact .inl (by simp [h0])
                · exact .inr ⟨by simp [h0], decide_eq_true (by omega)⟩
              have q3' : noneB p = true ∨ (noneB p = false ∧ (p.level == (k : Int)) = true) := by
                rcases q3 with h | ⟨h, h'⟩
                · exact .inl h
                · exact .inr ⟨h, by simp [h']⟩
              clear q1 q2 q3 hk hlt Q HNR HRN
              rcases q2' with q2 | ⟨q2, q4⟩
              · rcases q3' with q3 | ⟨q3, q5⟩
                · rw [q3] at hq
                  clear q3
                  refine wp_region_cls C (by kernel_rfl) (by kernel_rfl) hC ?_
                  repeat (first
                    | go_big_quiet_skip
                    | (go_big_quiet_want
                       go_big_quiet_op
                       first
                         | go_big_quiet_on
                         | (apply Exists.intro
                            refine ⟨fun W hW => ?_, ?_⟩
                            · first
                                | exact rfl
                                | exact ⟨rfl, rfl⟩
                                | (have e0 := f0 W hW; have e1 := f1 W hW; have e2 := f2 W hW; have e3 := f3 W hW; have e4 := f4 W hW; have e5 := f5 W hW; have e6 := f6 W hW; have e7 := f7 W hW; have e8 := f8 W hW; have e9 := f9 W hW; have e10 := f10 W hW; have e11 := f11 W hW; have e12 := fn W hW; simp only [e0, e1, e2, e3, e4, e5, e6, e7, e8, e9, e10, e11, e12, Result.andThen_ok]; done)
                                | (have e0 := f0 W hW; have e1 := f1 W hW; have e2 := f2 W hW; have e3 := f3 W hW; have e4 := f4 W hW; have e5 := f5 W hW; have e6 := f6 W hW; have e7 := f7 W hW; have e8 := f8 W hW; have e9 := f9 W hW; have e10 := f10 W hW; have e11 := f11 W hW; have e12 := fn W hW; simp only [e0, e1, e2, e3, e4, e5, e6, e7, e8, e9, e10, e11, e12, Result.andThen_ok]; first | exact ⟨trivial, rfl⟩ | exact rfl | exact ⟨rfl, rfl⟩)
                                | ((go_at_call 7; refine (HL.out W).mono ?_; rintro e w' ⟨rfl, rfl⟩; exact ⟨rfl, hW⟩))
                            go_big_quiet_on)))
                  refine wpQuiet_nil ?_
                  intro v4 hv4
                  have hwB := hCB v4 hv4
                  go_wp2_with fail
                  go_ret
                  exact ⟨ret_bool (by simp), keep_below hwB hd3⟩
                · rw [q3] at hq
                  clear q3
                  refine wp_region_cls C (by kernel_rfl) (by kernel_rfl) hC ?_
                  repeat (first
                    | go_big_quiet_skip
                    | (go_big_quiet_want
                       go_big_quiet_op
                       first
                         | go_big_quiet_on
                         | (apply Exists.intro
                            refine ⟨fun W hW => ?_, ?_⟩
                            · first
                                | exact rfl
                                | exact ⟨rfl, rfl⟩
                                | (have e0 := f0 W hW; have e1 := f1 W hW; have e2 := f2 W hW; have e3 := f3 W hW; have e4 := f4 W hW; have e5 := f5 W hW; have e6 := f6 W hW; have e7 := f7 W hW; have e8 := f8 W hW; have e9 := f9 W hW; have e10 := f10 W hW; have e11 := f11 W hW; have e12 := fn W hW; simp only [e0, e1, e2, e3, e4, e5, e6, e7, e8, e9, e10, e11, e12, Result.andThen_ok]; done)
                                | (have e0 := f0 W hW; have e1 := f1 W hW; have e2 := f2 W hW; have e3 := f3 W hW; have e4 := f4 W hW; have e5 := f5 W hW; have e6 := f6 W hW; have e7 := f7 W hW; have e8 := f8 W hW; have e9 := f9 W hW; have e10 := f10 W hW; have e11 := f11 W hW; have e12 := fn W hW; simp only [e0, e1, e2, e3, e4, e5, e6, e7, e8, e9, e10, e11, e12, Result.andThen_ok]; first | exact ⟨trivial, rfl⟩ | exact rfl | exact ⟨rfl, rfl⟩)
                                | ((go_at_call 7; refine (HL.out W).mono ?_; rintro e w' ⟨rfl, rfl⟩; exact ⟨rfl, hW⟩))
                            go_big_quiet_on)))
                  refine wpQuiet_nil ?_
                  intro v4 hv4
                  have hwB := hCB v4 hv4
                  go_wp2_with fail
                  go_ret
                  exact ⟨ret_bool (by simp), keep_below hwB hd3⟩
              · rcases q3' with q3 | ⟨q3, q5⟩
                · rw [q3] at hq
                  clear q3
                  refine wp_region_cls C (by kernel_rfl) (by kernel_rfl) hC ?_
                  repeat (first
                    | go_big_quiet_skip
                    | (go_big_quiet_want
                       go_big_quiet_op
                       first
                         | go_big_quiet_on
                         | (apply Exists.intro
                            refine ⟨fun W hW => ?_, ?_⟩
                            · first
                                | exact rfl
                                | exact ⟨rfl, rfl⟩
                                | (have e0 := f0 W hW; have e1 := f1 W hW; have e2 := f2 W hW; have e3 := f3 W hW; have e4 := f4 W hW; have e5 := f5 W hW; have e6 := f6 W hW; have e7 := f7 W hW; have e8 := f8 W hW; have e9 := f9 W hW; have e10 := f10 W hW; have e11 := f11 W hW; have e12 := fn W hW; simp only [e0, e1, e2, e3, e4, e5, e6, e7, e8, e9, e10, e11, e12, Result.andThen_ok]; done)
                                | (have e0 := f0 W hW; have e1 := f1 W hW; have e2 := f2 W hW; have e3 := f3 W hW; have e4 := f4 W hW; have e5 := f5 W hW; have e6 := f6 W hW; have e7 := f7 W hW; have e8 := f8 W hW; have e9 := f9 W hW; have e10 := f10 W hW; have e11 := f11 W hW; have e12 := fn W hW; simp only [e0, e1, e2, e3, e4, e5, e6, e7, e8, e9, e10, e11, e12, Result.andThen_ok]; first | exact ⟨trivial, rfl⟩ | exact rfl | exact ⟨rfl, rfl⟩)
                                | ((go_at_call 7; refine (HL.out W).mono ?_; rintro e w' ⟨rfl, rfl⟩; exact ⟨rfl, hW⟩))
                            go_big_quiet_on)))
                  refine wpQuiet_nil ?_
                  intro v4 hv4
                  have hwB := hCB v4 hv4
                  go_wp2_with fail
                  go_ret
                  exact ⟨ret_bool (by simp), keep_below hwB hd3⟩
                · rw [q3] at hq
                  clear q3
                  refine wp_region_cls C (by kernel_rfl) (by kernel_rfl) hC ?_
                  repeat (first
                    | go_big_quiet_skip
                    | (go_big_quiet_want
                       go_big_quiet_op
                       first
                         | go_big_quiet_on
                         | (apply Exists.intro
                            refine ⟨fun W hW => ?_, ?_⟩
                            · first
                                | exact rfl
                                | exact ⟨rfl, rfl⟩
                                | (have e0 := f0 W hW; have e1 := f1 W hW; have e2 := f2 W hW; have e3 := f3 W hW; have e4 := f4 W hW; have e5 := f5 W hW; have e6 := f6 W hW; have e7 := f7 W hW; have e8 := f8 W hW; have e9 := f9 W hW; have e10 := f10 W hW; have e11 := f11 W hW; have e12 := fn W hW; simp only [e0, e1, e2, e3, e4, e5, e6, e7, e8, e9, e10, e11, e12, Result.andThen_ok]; done)
                                | (have e0 := f0 W hW; have e1 := f1 W hW; have e2 := f2 W hW; have e3 := f3 W hW; have e4 := f4 W hW; have e5 := f5 W hW; have e6 := f6 W hW; have e7 := f7 W hW; have e8 := f8 W hW; have e9 := f9 W hW; have e10 := f10 W hW; have e11 := f11 W hW; have e12 := fn W hW; simp only [e0, e1, e2, e3, e4, e5, e6, e7, e8, e9, e10, e11, e12, Result.andThen_ok]; first | exact ⟨trivial, rfl⟩ | exact rfl | exact ⟨rfl, rfl⟩)
                                | ((go_at_call 7; refine (HL.out W).mono ?_; rintro e w' ⟨rfl, rfl⟩; exact ⟨rfl, hW⟩))
                            go_big_quiet_on)))
                  refine wpQuiet_nil ?_
                  intro v4 hv4
                  have hwB := hCB v4 hv4
                  go_wp2_with fail
                  go_ret
                  exact ⟨ret_bool (by simp), keep_below hwB hd3⟩
    · have hba : b < a := by omega
      clear hab
      have hh := trivial
      · go_wp2_with fail
        refine (HLa.out _).mono ?_
        rintro e w2 ⟨rfl, rfl⟩
        go_wp2_with fail
        refine (HLa.out _).mono ?_
        rintro e w2 ⟨rfl, rfl⟩
        have h := HP1.out
        obtain ⟨p0, p1, p2, p3, p4, p5, p6, p7, p8, p9, pa, pb⟩ := h
        simp only [Nat.reduceAdd] at p1 p2 p3 p4 p5 p6 p7 p8 p9 pa pb
        go_wp2_with fail
        refine (HRN.out _ (hg.below hd1 (Nat.le_refl _))).mono ?_
        rintro e w3 ⟨rfl, hb3⟩
        have m3 := keep_cell hb3 l3 (by omega)
        have HP3 := Lib.hid (HP1.out.keep hb3 (by omega))
        have hd3 := keep_below hb3 hd1
        have hs3 := keep_size hb3 hs1
        clear p0 p1 p2 p3 p4 p5 p6 p7 p8 p9 pa pb l1 l2 l3 HP1 hd1 hs1
        cases hr : nRightB gs secs n p with
        | false =>
          go_wp2_with fail
          go_ret
          exact ⟨rfl, hd3⟩
        | true =>
          obtain ⟨⟨q1, q2⟩, q3⟩ := HNR.out hr
          have Q := Lib.hid (And.intro q1 (And.intro q2 q3))
          clear q1 q2 q3 hr
          go_wp2_with fail
          go_loop [9, 10] (fun mo i => ∃ k : Nat, k ≤ L ∧ i = .int .i64 k ∧ mo = .int .i64 (mostN k)) (fun _ i => L - (intOf i).toNat)
          case atStart => exact ⟨0, Nat.zero_le _, rfl, rfl⟩
          case round =>
            obtain ⟨k, hk, rfl, rfl⟩ := hrel
            by_cases hlt : k < L
            · have hst := mostN_step k (by omega)
              have hbd := mostN_bd k
              have HS := Lib.hid hst
              obtain ⟨hb1, hb2⟩ := hbd
              clear hst
              generalize mostN k = M at *
              go_wp2_with fail
              refine (HL.out _).mono ?_
              rintro e w4 ⟨rfl, rfl⟩
              go_wp2_with fail
              go_round
              case rel => exact ⟨k + 1, by omega, by go_num, by rw [HS.out]⟩
              case measure => simp [intOf]; omega
            · obtain rfl : k = L := by omega
              obtain ⟨q1, q2, q3⟩ := Q.out
              have hbd := mostN_bd k
              generalize mostN k = M at *
              obtain ⟨hb1, hb2⟩ := hbd
              go_wp2_with fail
              refine (HL.out _).mono ?_
              rintro e w4 ⟨rfl, rfl⟩
              obtain ⟨C, hC, hC0, hCB, hCK, hCd⟩ := cls_below w4
              have hPC : ∀ W, C W → PtrAt W (w.heap.size + 1) 1 p := fun W h => HP3.out.keep (hCB W h) (by omega)
              have f0 : ∀ W, C W → W.cell? ⟨w.heap.size + 1, 1, none⟩ = some (.int .i64 p.ag) := fun W h => (hPC W h).1
              have f1 : ∀ W, C W → W.cell? ⟨w.heap.size + 1, 2, none⟩ = some (.int .i64 p.aa) := fun W h => (hPC W h).2.1
              have f2 : ∀ W, C W → W.cell? ⟨w.heap.size + 1, 3, none⟩ = some (.int .i64 p.bg) := fun W h => (hPC W h).2.2.1
              have f3 : ∀ W, C W → W.cell? ⟨w.heap.size + 1, 4, none⟩ = some (.int .i64 p.ba) := fun W h => (hPC W h).2.2.2.1
              have f4 : ∀ W, C W → W.cell? ⟨w.heap.size + 1, 5, none⟩ = some (.bool p.two) := fun W h => (hPC W h).2.2.2.2.1
              have f5 : ∀ W, C W → W.cell? ⟨w.heap.size + 1, 6, none⟩ = some (.int .i64 p.size) := fun W h => (hPC W h).2.2.2.2.2.1
              have f6 : ∀ W, C W → W.cell? ⟨w.heap.size + 1, 7, none⟩ = some (.int .i64 p.level) := fun W h => (hPC W h).2.2.2.2.2.2.1
              have f7 : ∀ W, C W → W.cell? ⟨w.heap.size + 1, 8, none⟩ = some (.int .i64 p.birth) := fun W h => (hPC W h).2.2.2.2.2.2.2.1
              have f8 : ∀ W, C W → W.cell? ⟨w.heap.size + 1, 9, none⟩ = some (.int .u64 p.s0) := fun W h => (hPC W h).2.2.2.2.2.2.2.2.1
              have f9 : ∀ W, C W → W.cell? ⟨w.heap.size + 1, 10, none⟩ = some (.int .u64 p.s1) := fun W h => (hPC W h).2.2.2.2.2.2.2.2.2.1
              have f10 : ∀ W, C W → W.cell? ⟨w.heap.size + 1, 11, none⟩ = some (.int .u64 p.s2) := fun W h => (hPC W h).2.2.2.2.2.2.2.2.2.2.1
              have f11 : ∀ W, C W → W.cell? ⟨w.heap.size + 1, 12, none⟩ = some (.int .u64 p.s3) := fun W h => (hPC W h).2.2.2.2.2.2.2.2.2.2.2
              have fn : ∀ W, C W → W.cell? ⟨w.heap.size + 1, 0, none⟩ = some (.int .i64 n) := fun W h => keep_cell (hCB W h) m3 (by omega)
              have hq : ∀ W, (binOp .eql 28 (.agg #[.int .i64 p.ag, .int .i64 p.aa, .int .i64 p.bg, .int .i64 p.ba, .bool p.two, .int .i64 p.size, .int .i64 p.level, .int .i64 p.birth, .int .u64 p.s0, .int .u64 p.s1, .int .u64 p.s2, .int .u64 p.s3]) (.agg #[.int .i64 0, .int .i64 0, .int .i64 0, .int .i64 0, .bool false, .int .i64 0, .int .i64 0, .int .i64 0, .int .u64 0, .int .u64 0, .int .u64 0, .int .u64 0])).run Try.prog W = .ok (.bool (noneB p)) W := fun W => eql_ptr p ptrZ W
              repeat' (first
                | go_values
                | go_skip
                | go_guarded
                | ((fail_if_success (with_reducible refine drawn_mark ?_))
                   first
                     | go_step
                     | go_upon
                     | go_back
                     | (simp only [Int.not_lt, Int.not_le] at *; go_simp)
                     | (go_values <;> (try go_simp))
                     | (go_ite <;> go_prune <;> (try go_simp))
                     | (split <;> (first | (rename_i hx; exact (hx _ rfl).elim) | go_prune))))
              have hle : decide (n ≤ M) = true := decide_eq_true q1
              have htd : M.tdiv 4 = M / 4 := Int.tdiv_eq_ediv_of_nonneg (by omega)
              have hw4 : IntKind.i64.wrap (M / 4) = M / 4 := IntWalk.i64_in (M / 4) (by omega)
              have q2' : ((k : Int) == 0) = true ∨ (((k : Int) == 0) = false ∧ decide (M / 4 < n) = true) := by
                by_cases h0 : k = 0
                · exact .inl (by simp [h0])
                · exact .inr ⟨by simp [h0], decide_eq_true (by omega)⟩
              have q3' : noneB p = true ∨ (noneB p = false ∧ (p.level == (k : Int)) = true) := by
                rcases q3 with h | ⟨h, h'⟩
                · exact .inl h
                · exact .inr ⟨h, by simp [h']⟩
              clear q1 q2 q3 hk hlt Q HNR HRN
              rcases q2' with q2 | ⟨q2, q4⟩
              · rcases q3' with q3 | ⟨q3, q5⟩
                · rw [q3] at hq
                  clear q3
                  refine wp_region_cls C (by kernel_rfl) (by kernel_rfl) hC ?_
                  repeat (first
                    | go_big_quiet_skip
                    | (go_big_quiet_want
                       go_big_quiet_op
                       first
                         | go_big_quiet_on
                         | (apply Exists.intro
                            refine ⟨fun W hW => ?_, ?_⟩
                            · first
                                | exact rfl
                                | exact ⟨rfl, rfl⟩
                                | (have e0 := f0 W hW; have e1 := f1 W hW; have e2 := f2 W hW; have e3 := f3 W hW; have e4 := f4 W hW; have e5 := f5 W hW; have e6 := f6 W hW; have e7 := f7 W hW; have e8 := f8 W hW; have e9 := f9 W hW; have e10 := f10 W hW; have e11 := f11 W hW; have e12 := fn W hW; simp only [e0, e1, e2, e3, e4, e5, e6, e7, e8, e9, e10, e11, e12, Result.andThen_ok]; done)
                                | (have e0 := f0 W hW; have e1 := f1 W hW; have e2 := f2 W hW; have e3 := f3 W hW; have e4 := f4 W hW; have e5 := f5 W hW; have e6 := f6 W hW; have e7 := f7 W hW; have e8 := f8 W hW; have e9 := f9 W hW; have e10 := f10 W hW; have e11 := f11 W hW; have e12 := fn W hW; simp only [e0, e1, e2, e3, e4, e5, e6, e7, e8, e9, e10, e11, e12, Result.andThen_ok]; first | exact ⟨trivial, rfl⟩ | exact rfl | exact ⟨rfl, rfl⟩)
                                | ((go_at_call 7; refine (HL.out W).mono ?_; rintro e w' ⟨rfl, rfl⟩; exact ⟨rfl, hW⟩))
                            go_big_quiet_on)))
                  refine wpQuiet_nil ?_
                  intro v4 hv4
                  have hwB := hCB v4 hv4
                  go_wp2_with fail
                  go_ret
                  exact ⟨ret_bool (by simp), keep_below hwB hd3⟩
                · rw [q3] at hq
                  clear q3
                  refine wp_region_cls C (by kernel_rfl) (by kernel_rfl) hC ?_
                  repeat (first
                    | go_big_quiet_skip
                    | (go_big_quiet_want
                       go_big_quiet_op
                       first
                         | go_big_quiet_on
                         | (apply Exists.intro
                            refine ⟨fun W hW => ?_, ?_⟩
                            · first
                                | exact rfl
                                | exact ⟨rfl, rfl⟩
                                | (have e0 := f0 W hW; have e1 := f1 W hW; have e2 := f2 W hW; have e3 := f3 W hW; have e4 := f4 W hW; have e5 := f5 W hW; have e6 := f6 W hW; have e7 := f7 W hW; have e8 := f8 W hW; have e9 := f9 W hW; have e10 := f10 W hW; have e11 := f11 W hW; have e12 := fn W hW; simp only [e0, e1, e2, e3, e4, e5, e6, e7, e8, e9, e10, e11, e12, Result.andThen_ok]; done)
                                | (have e0 := f0 W hW; have e1 := f1 W hW; have e2 := f2 W hW; have e3 := f3 W hW; have e4 := f4 W hW; have e5 := f5 W hW; have e6 := f6 W hW; have e7 := f7 W hW; have e8 := f8 W hW; have e9 := f9 W hW; have e10 := f10 W hW; have e11 := f11 W hW; have e12 := fn W hW; simp only [e0, e1, e2, e3, e4, e5, e6, e7, e8, e9, e10, e11, e12, Result.andThen_ok]; first | exact ⟨trivial, rfl⟩ | exact rfl | exact ⟨rfl, rfl⟩)
                                | ((go_at_call 7; refine (HL.out W).mono ?_; rintro e w' ⟨rfl, rfl⟩; exact ⟨rfl, hW⟩))
                            go_big_quiet_on)))
                  refine wpQuiet_nil ?_
                  intro v4 hv4
                  have hwB := hCB v4 hv4
                  go_wp2_with fail
                  go_ret
                  exact ⟨ret_bool (by simp), keep_below hwB hd3⟩
              · rcases q3' with q3 | ⟨q3, q5⟩
                · rw [q3] at hq
                  clear q3
                  refine wp_region_cls C (by kernel_rfl) (by kernel_rfl) hC ?_
                  repeat (first
                    | go_big_quiet_skip
                    | (go_big_quiet_want
                       go_big_quiet_op
                       first
                         | go_big_quiet_on
                         | (apply Exists.intro
                            refine ⟨fun W hW => ?_, ?_⟩
                            · first
                                | exact rfl
                                | exact ⟨rfl, rfl⟩
                                | (have e0 := f0 W hW; have e1 := f1 W hW; have e2 := f2 W hW; have e3 := f3 W hW; have e4 := f4 W hW; have e5 := f5 W hW; have e6 := f6 W hW; have e7 := f7 W hW; have e8 := f8 W hW; have e9 := f9 W hW; have e10 := f10 W hW; have e11 := f11 W hW; have e12 := fn W hW; simp only [e0, e1, e2, e3, e4, e5, e6, e7, e8, e9, e10, e11, e12, Result.andThen_ok]; done)
                                | (have e0 := f0 W hW; have e1 := f1 W hW; have e2 := f2 W hW; have e3 := f3 W hW; have e4 := f4 W hW; have e5 := f5 W hW; have e6 := f6 W hW; have e7 := f7 W hW; have e8 := f8 W hW; have e9 := f9 W hW; have e10 := f10 W hW; have e11 := f11 W hW; have e12 := fn W hW; simp only [e0, e1, e2, e3, e4, e5, e6, e7, e8, e9, e10, e11, e12, Result.andThen_ok]; first | exact ⟨trivial, rfl⟩ | exact rfl | exact ⟨rfl, rfl⟩)
                                | ((go_at_call 7; refine (HL.out W).mono ?_; rintro e w' ⟨rfl, rfl⟩; exact ⟨rfl, hW⟩))
                            go_big_quiet_on)))
                  refine wpQuiet_nil ?_
                  intro v4 hv4
                  have hwB := hCB v4 hv4
                  go_wp2_with fail
                  go_ret
                  exact ⟨ret_bool (by simp), keep_below hwB hd3⟩
                · rw [q3] at hq
                  clear q3
                  refine wp_region_cls C (by kernel_rfl) (by kernel_rfl) hC ?_
                  repeat (first
                    | go_big_quiet_skip
                    | (go_big_quiet_want
                       go_big_quiet_op
                       first
                         | go_big_quiet_on
                         | (apply Exists.intro
                            refine ⟨fun W hW => ?_, ?_⟩
                            · first
                                | exact rfl
                                | exact ⟨rfl, rfl⟩
                                | (have e0 := f0 W hW; have e1 := f1 W hW; have e2 := f2 W hW; have e3 := f3 W hW; have e4 := f4 W hW; have e5 := f5 W hW; have e6 := f6 W hW; have e7 := f7 W hW; have e8 := f8 W hW; have e9 := f9 W hW; have e10 := f10 W hW; have e11 := f11 W hW; have e12 := fn W hW; simp only [e0, e1, e2, e3, e4, e5, e6, e7, e8, e9, e10, e11, e12, Result.andThen_ok]; done)
                                | (have e0 := f0 W hW; have e1 := f1 W hW; have e2 := f2 W hW; have e3 := f3 W hW; have e4 := f4 W hW; have e5 := f5 W hW; have e6 := f6 W hW; have e7 := f7 W hW; have e8 := f8 W hW; have e9 := f9 W hW; have e10 := f10 W hW; have e11 := f11 W hW; have e12 := fn W hW; simp only [e0, e1, e2, e3, e4, e5, e6, e7, e8, e9, e10, e11, e12, Result.andThen_ok]; first | exact ⟨trivial, rfl⟩ | exact rfl | exact ⟨rfl, rfl⟩)
                                | ((go_at_call 7; refine (HL.out W).mono ?_; rintro e w' ⟨rfl, rfl⟩; exact ⟨rfl, hW⟩))
                            go_big_quiet_on)))
                  refine wpQuiet_nil ?_
                  intro v4 hv4
                  have hwB := hCB v4 hv4
                  go_wp2_with fail
                  go_ret
                  exact ⟨ret_bool (by simp), keep_below hwB hd3⟩
end Go.Proofs.Ytkmmehhddagijaa
