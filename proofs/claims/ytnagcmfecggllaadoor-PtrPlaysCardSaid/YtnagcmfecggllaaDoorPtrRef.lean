/-
  Contracts of polderref09 (May, Bytes) and of polderref02.Bytes.
-/
import Derived.Test.YtnagcmfecggllaaDoorPtrPlacesW
import Derived.Test.YtnagcmfecggllaaDoorPtrRP
import Derived.Test.YtnagcmfecggllaaDoorBlk
import Derived.Test.YtnagcmfecggllaaDoorNum
namespace Go.Proofs.YtnagcmfecggllaaDoor
set_option linter.unusedVariables false
set_option linter.unusedSimpArgs false
open Go.RowKit

set_option maxRecDepth 100000 in
set_option maxHeartbeats 2000000 in
theorem may9_any (p : PtrD) (w : World) :
    Calls Tryd.prog 9 #[.agg p.cells] w fun e w' => e = .returned (.bool (layOk p)) ∧ Below w.heap.size w w' := by
  obtain ⟨w2, hw2⟩ : ∃ w2, w2 = ((w.alloc (.cells p.cells 28)).alloc (.cells #[.int .i64 p.ag, .int .i64 p.aa, .int .i64 p.bg, .int .i64 p.ba, .int .i64 p.birth] 3)) := ⟨_, rfl⟩
  have hb0 : Below w.heap.size w w2 := by rw [hw2]; exact ((Below.refl _ _).alloc (Nat.le_refl _) _).alloc (by simp) _
  have HI : Hid (IntsAt w2 (w.heap.size + 1) 0 [p.ag, p.aa, p.bg, p.ba, p.birth]) := by
    have := IntsAt.new (w.alloc (.cells p.cells 28)) [p.ag, p.aa, p.bg, p.ba, p.birth] 3
    rw [World.size_alloc] at this
    rw [hw2]; exact Lib.hid this
  have h5 : w2.cell? ⟨w.heap.size, 5, none⟩ = some (.int .i64 p.size) := by rw [hw2]; exact cell_alloc (cell_new rfl rfl) _
  have h6 : w2.cell? ⟨w.heap.size, 6, none⟩ = some (.int .i64 p.level) := by rw [hw2]; exact cell_alloc (cell_new rfl rfl) _
  have HL : Hid (layOk p = (withinL 4294967295 [p.ag, p.aa, p.bg, p.ba, p.birth] && withinL 255 [p.size, p.level])) := Lib.hid rfl
  have hw2' : w2 = ((w.alloc (.cells #[.int .i64 p.ag, .int .i64 p.aa, .int .i64 p.bg, .int .i64 p.ba, .bool p.two, .int .i64 p.size, .int .i64 p.level, .int .i64 p.birth, .int .u64 p.s0, .int .u64 p.s1, .int .u64 p.s2, .int .u64 p.s3] 28)).alloc (.cells #[.int .i64 p.ag, .int .i64 p.aa, .int .i64 p.bg, .int .i64 p.ba, .int .i64 p.birth] 3)) := hw2
  rw [show (Value.agg p.cells) = .agg #[.int .i64 p.ag, .int .i64 p.aa, .int .i64 p.bg, .int .i64 p.ba, .bool p.two, .int .i64 p.size, .int .i64 p.level, .int .i64 p.birth, .int .u64 p.s0, .int .u64 p.s1, .int .u64 p.s2, .int .u64 p.s3] from rfl]
  clear hw2
  go_enter Tryd.func9, Tryd.ntmps9
  go_wp2_with fail
  rw [← hw2']
  clear hw2'
  have Hl : Hid ([p.ag, p.aa, p.bg, p.ba, p.birth].length = 5) := Lib.hid rfl
  generalize [p.ag, p.aa, p.bg, p.ba, p.birth] = l at *
  go_loop [4] (fun t => ∃ k : Nat, k ≤ 5 ∧ t = .int .i64 k ∧ ∀ j x, j < k → l[j]? = some x → 0 ≤ x ∧ x ≤ 4294967295) (fun t => 5 - (intOf t).toNat)
  case atStart => exact ⟨0, Nat.zero_le _, rfl, fun j x hj => absurd hj (by omega)⟩
  case round =>
    obtain ⟨k, hk, rfl, hz⟩ := hrel
    have HZ := Lib.hid hz
    clear hz
    by_cases hlt : k < 5
    · obtain ⟨x, hx⟩ : ∃ x, l[k]? = some x := ⟨_, List.getElem?_eq_getElem (by have := Hl.out; omega)⟩
      have hc : w2.cell? ⟨w.heap.size + 1, k, none⟩ = some (.int .i64 x) := by have := HI.out.2 k x hx; rwa [Nat.zero_add] at this
      have HX := Lib.hid hx
      have hk0 : (0 : Int) ≤ k := by omega
      have hk1 : (k : Int) < 5 := by omega
      clear hx
      by_cases h0 : 0 ≤ x ∧ x ≤ 4294967295
      · obtain ⟨g1, g2⟩ := h0
        go_wp2_with fail
        go_round
        case rel =>
          refine ⟨k + 1, by omega, by go_num, fun j y hj hy => ?_⟩
          rcases Nat.lt_or_ge j k with h | h
          · exact HZ.out j y h hy
          · obtain rfl : j = k := by omega
            rw [HX.out] at hy
            injection hy with hy
            rw [← hy]; exact ⟨g1, g2⟩
        case measure => simp [intOf]; omega
      · have HV : Hid (layOk p = false) := by
          unfold Hid
          rw [HL.out, show withinL 4294967295 l = false from by
            unfold withinL
            rw [List.all_eq_false]
            exact ⟨x, List.mem_of_getElem? HX.out, by simp; omega⟩]
          rfl
        have h1 : x < 0 ∨ 4294967295 < x := by omega
        clear h0
        rcases h1 with h1 | h1
        all_goals
          go_wp2_with fail
          all_goals go_ret
          all_goals exact ⟨ret_bool HV.out.symm, hb0⟩
    · have HV : Hid (layOk p = withinL 255 [p.size, p.level]) := by
        unfold Hid
        rw [HL.out, show withinL 4294967295 l = true from by
          unfold withinL
          rw [List.all_eq_true]
          intro x hx
          obtain ⟨j, hj⟩ := List.mem_iff_getElem?.1 hx
          have := HZ.out j x (by have := (List.getElem?_eq_some_iff.1 hj).1; have := Hl.out; omega) hj
          simp [this]]
        rfl
      have hcs : (0 ≤ p.size ∧ p.size ≤ 255 ∧ 0 ≤ p.level ∧ p.level ≤ 255) ∨ p.size < 0 ∨ (0 ≤ p.size ∧ 255 < p.size) ∨ (0 ≤ p.size ∧ p.size ≤ 255 ∧ p.level < 0) ∨ (0 ≤ p.size ∧ p.size ≤ 255 ∧ 0 ≤ p.level ∧ 255 < p.level) := by omega
      have HW : Hid (withinL 255 [p.size, p.level] = decide (0 ≤ p.size ∧ p.size ≤ 255 ∧ 0 ≤ p.level ∧ p.level ≤ 255)) := by
        unfold Hid; rw [Bool.eq_iff_iff]; simp [withinL]; omega
      rcases hcs with ⟨c1, c2, c3, c4⟩ | c1 | ⟨c1, c2⟩ | ⟨c1, c2, c3⟩ | ⟨c1, c2, c3, c4⟩
      all_goals
        go_wp2_with fail
        all_goals go_ret
        all_goals (refine ⟨ret_bool ?_, hb0⟩; rw [HV.out, HW.out]; first | (exact decide_eq_decide.2 (by omega)) | (symm; rw [decide_eq_true_eq]; omega) | (symm; rw [decide_eq_false_iff_not]; omega))

theorem mk_app3 (a b c : List UInt8) : ByteArray.mk a.toArray ++ ByteArray.mk b.toArray ++ ByteArray.mk c.toArray = ByteArray.mk (a ++ b ++ c).toArray := by
  rw [ByteArray.mk_append_mk, ByteArray.mk_append_mk]
set_option maxRecDepth 100000 in
set_option maxHeartbeats 2000000 in
theorem refSum_any (s0 s1 s2 s3 : Nat) (w : World) (h0 : s0 < 18446744073709551616) (h1 : s1 < 18446744073709551616) (h2 : s2 < 18446744073709551616) (h3 : s3 < 18446744073709551616) :
    Calls Tryd.prog 26 #[.agg #[.int .u64 s0, .int .u64 s1, .int .u64 s2, .int .u64 s3]] w fun e w' => e = .returned (str (sumL [s0, s1, s2, s3])) ∧ Below w.heap.size w w' := by
  obtain ⟨w1, hw1⟩ : ∃ w1, w1 = w.alloc (.cells #[.int .u64 s0, .int .u64 s1, .int .u64 s2, .int .u64 s3] 26) := ⟨_, rfl⟩
  have hb0 : Below w.heap.size w w1 := by rw [hw1]; exact (Below.refl _ _).alloc (Nat.le_refl _) _
  have hlt : w.heap.size < w1.heap.size := by rw [hw1]; simp
  have c0 : w1.cell? ⟨w.heap.size, 0, none⟩ = some (.int .u64 s0) := by rw [hw1]; exact cell_new rfl rfl
  have c1 : w1.cell? ⟨w.heap.size, 1, none⟩ = some (.int .u64 s1) := by rw [hw1]; exact cell_new rfl rfl
  have c2 : w1.cell? ⟨w.heap.size, 2, none⟩ = some (.int .u64 s2) := by rw [hw1]; exact cell_new rfl rfl
  have c3 : w1.cell? ⟨w.heap.size, 3, none⟩ = some (.int .u64 s3) := by rw [hw1]; exact cell_new rfl rfl
  have H0 : Hid (∀ W, Calls Tryd.prog 38 #[.int .u64 s0, .int .i64 8] W fun e w' => e = .returned (str (layL s0 8)) ∧ Below W.heap.size W w') := Lib.hid fun W => lay_any s0 8 W h0 (Nat.le_refl _)
  have H1 : Hid (∀ W, Calls Tryd.prog 38 #[.int .u64 s1, .int .i64 8] W fun e w' => e = .returned (str (layL s1 8)) ∧ Below W.heap.size W w') := Lib.hid fun W => lay_any s1 8 W h1 (Nat.le_refl _)
  have H2 : Hid (∀ W, Calls Tryd.prog 38 #[.int .u64 s2, .int .i64 8] W fun e w' => e = .returned (str (layL s2 8)) ∧ Below W.heap.size W w') := Lib.hid fun W => lay_any s2 8 W h2 (Nat.le_refl _)
  have H3 : Hid (∀ W, Calls Tryd.prog 38 #[.int .u64 s3, .int .i64 8] W fun e w' => e = .returned (str (layL s3 8)) ∧ Below W.heap.size W w') := Lib.hid fun W => lay_any s3 8 W h3 (Nat.le_refl _)
  have HS : Hid (sumL [s0, s1, s2, s3] = layL s0 8 ++ (layL s1 8 ++ (layL s2 8 ++ layL s3 8))) := by simp [Hid, sumL]
  have l0 := layL_len s0 8
  have l1 := layL_len s1 8
  have l2 := layL_len s2 8
  have l3 := layL_len s3 8
  generalize layL s0 8 = a0 at *
  generalize layL s1 8 = a1 at *
  generalize layL s2 8 = a2 at *
  generalize layL s3 8 = a3 at *
  have g1 : a0.length + a1.length ≤ 9223372036854775807 := by omega
  have g2 : a0.length + a1.length + a2.length ≤ 9223372036854775807 := by omega
  have g3 : a0.length + a1.length + a2.length + a3.length ≤ 9223372036854775807 := by omega
  clear l0 l1 l2 l3 h0 h1 h2 h3
  go_enter Tryd.func26, Tryd.ntmps26
  go_wp2_with fail
  rw [← hw1]
  clear hw1
  obtain ⟨C, hC, hC0, hCB, hCK, hCd⟩ := cls_below w1
  have f0 : ∀ W, C W → W.cell? ⟨w.heap.size, 0, none⟩ = some (.int .u64 s0) := fun W h => keep_cell (hCB W h) c0 hlt
  have f1 : ∀ W, C W → W.cell? ⟨w.heap.size, 1, none⟩ = some (.int .u64 s1) := fun W h => keep_cell (hCB W h) c1 hlt
  have f2 : ∀ W, C W → W.cell? ⟨w.heap.size, 2, none⟩ = some (.int .u64 s2) := fun W h => keep_cell (hCB W h) c2 hlt
  have f3 : ∀ W, C W → W.cell? ⟨w.heap.size, 3, none⟩ = some (.int .u64 s3) := fun W h => keep_cell (hCB W h) c3 hlt
  clear c0 c1 c2 c3
  refine wp_region_cls C (by kernel_rfl) (by kernel_rfl) hC ?_
  repeat (first
    | go_big_quiet_skip
    | (go_big_quiet_want
       go_big_quiet_op
       first
         | go_big_quiet_on
         | (apply Exists.intro
            refine ⟨fun W hW => ?_, ?_⟩
            · first
                | exact rfl
                | exact ⟨rfl, rfl⟩
                | (have e0 := f0 W hW; have e1 := f1 W hW; have e2 := f2 W hW; have e3 := f3 W hW; simp only [e0, e1, e2, e3, Result.andThen_ok]; done)
                | (have e0 := f0 W hW; have e1 := f1 W hW; have e2 := f2 W hW; have e3 := f3 W hW; simp only [e0, e1, e2, e3, Result.andThen_ok]; first | exact ⟨trivial, rfl⟩ | exact rfl | exact ⟨rfl, rfl⟩)
                | ((first | (with_reducible refine (H0.out W).mono ?_) | (with_reducible refine (H1.out W).mono ?_) | (with_reducible refine (H2.out W).mono ?_) | (with_reducible refine (H3.out W).mono ?_)); rintro e w' ⟨rfl, hb⟩; exact ⟨rfl, hCK _ _ hW hb⟩)
            go_big_quiet_on)))
  refine wpQuiet_nil ?_
  intro w' hw'
  go_wp2_with fail
  go_ret
  refine ⟨?_, hb0.trans ((hCB w' hw').mono hb0.size)⟩
  rw [HS.out, mk_app3, ByteArray.mk_append_mk]
  simp

set_option maxRecDepth 100000 in
set_option maxHeartbeats 8000000 in
theorem refPBytes_any (p : PtrD) (w : World) (op : p.Ok) (hlay : layOk p = true) :
    Calls Tryd.prog 10 #[.agg p.cells] w fun e w' => e = .returned (str (ptrL p)) ∧ Below w.heap.size w w' := by
  obtain ⟨⟨a1, a2⟩, ⟨b1, b2⟩, ⟨c1, c2⟩, ⟨d1, d2⟩, ⟨e1, e2⟩, ⟨f1, f2⟩, ⟨g1, g2⟩⟩ := layOk_bd hlay
  obtain ⟨q0, q1, q2, q3, _⟩ := op
  obtain ⟨w1, hw1⟩ : ∃ w1, w1 = w.alloc (.cells #[.int .i64 p.ag, .int .i64 p.aa, .int .i64 p.bg, .int .i64 p.ba, .bool p.two, .int .i64 p.size, .int .i64 p.level, .int .i64 p.birth, .int .u64 p.s0, .int .u64 p.s1, .int .u64 p.s2, .int .u64 p.s3] 28) := ⟨_, rfl⟩
  have hb0 : Below w.heap.size w w1 := by rw [hw1]; exact (Below.refl _ _).alloc (Nat.le_refl _) _
  have hlt : w.heap.size < w1.heap.size := by rw [hw1]; simp
  have hP : PtrAt w1 w.heap.size 0 p := by rw [hw1]; exact PtrAt.new _ _ _
  have HP := Lib.hid hP
  have HPL : Hid (ptrL p = padL (smallL [p.ag, p.aa, p.bg, p.ba, ptrOne p, p.birth] ++ sumL [p.s0, p.s1, p.s2, p.s3]) 64) := Lib.hid rfl
  have HSM : Hid (smallL [p.ag, p.aa, p.bg, p.ba, ptrOne p, p.birth] = u32L p.ag ++ (u32L p.aa ++ (u32L p.bg ++ (u32L p.ba ++ (u32L (ptrOne p) ++ u32L p.birth))))) := by simp [Hid, smallL]
  rw [show (Value.agg p.cells) = .agg #[.int .i64 p.ag, .int .i64 p.aa, .int .i64 p.bg, .int .i64 p.ba, .bool p.two, .int .i64 p.size, .int .i64 p.level, .int .i64 p.birth, .int .u64 p.s0, .int .u64 p.s1, .int .u64 p.s2, .int .u64 p.s3] from rfl]
  have HSUM := Lib.hid fun W => refSum_any p.s0 p.s1 p.s2 p.s3 W q0 q1 q2 q3
  have hsl : (sumL [p.s0, p.s1, p.s2, p.s3]).length ≤ 32 := Nat.le_of_eq (sumL_len [p.s0, p.s1, p.s2, p.s3])
  have H0 := Lib.hid fun W => refU32_any p.ag W
  have H1 := Lib.hid fun W => refU32_any p.aa W
  have H2 := Lib.hid fun W => refU32_any p.bg W
  have H3 := Lib.hid fun W => refU32_any p.ba W
  have H4 := Lib.hid fun W => refU32_any (ptrOne p) W
  have H5 := Lib.hid fun W => refU32_any p.birth W
  have l0 := u32L_len p.ag
  have l1 := u32L_len p.aa
  have l2 := u32L_len p.bg
  have l3 := u32L_len p.ba
  have l4 := u32L_len (ptrOne p)
  have l5 := u32L_len p.birth
  generalize u32L p.ag = x0 at *
  generalize u32L p.aa = x1 at *
  generalize u32L p.bg = x2 at *
  generalize u32L p.ba = x3 at *
  generalize u32L (ptrOne p) = x4 at *
  generalize u32L p.birth = x5 at *
  generalize sumL [p.s0, p.s1, p.s2, p.s3] = ss at *
  have HPAD := Lib.hid fun W => refPad_any (x0 ++ x1 ++ x2 ++ x3 ++ x4 ++ x5 ++ ss) 64 W (by simp only [List.length_append]; omega)
  have k1 : x0.length + x1.length ≤ 9223372036854775807 := by omega
  have k2 : x0.length + x1.length + x2.length ≤ 9223372036854775807 := by omega
  have k3 : x0.length + x1.length + x2.length + x3.length ≤ 9223372036854775807 := by omega
  have k4 : x0.length + x1.length + x2.length + x3.length + x4.length ≤ 9223372036854775807 := by omega
  have k5 : x0.length + x1.length + x2.length + x3.length + x4.length + x5.length ≤ 9223372036854775807 := by omega
  have k6 : x0.length + x1.length + x2.length + x3.length + x4.length + x5.length + ss.length ≤ 9223372036854775807 := by omega
  have ho : Hid (ptrOne p = p.size + p.level * 256 + if p.two then 65536 else 0) := Lib.hid rfl
  clear l0 l1 l2 l3 l4 l5 hsl a1 a2 b1 b2 c1 c2 d1 d2 e1 e2 hlay q0 q1 q2 q3
  go_enter Tryd.func10, Tryd.ntmps10
  obtain ⟨p0, p1, p2, p3, p4, p5, p6, p7, p8, p9, pa, pb⟩ := hP
  simp only [Nat.zero_add] at p1 p2 p3 p4 p5 p6 p7 p8 p9 pa pb
  cases ht : p.two with
  | true =>
    rw [ht] at p4 ho hw1
    have ho4 : ptrOne p = p.size + 256 * p.level + 65536 := by rw [ho.out]; simp; omega
    rw [ho4] at H4
    clear ho4
    go_wp2_with fail
    rw [← hw1]
    clear hw1
    go_wp2_with fail
    obtain ⟨C, hC, hC0, hCB, hCK, hCd⟩ := cls_below w1
    have f0 : ∀ W, C W → W.cell? ⟨w.heap.size, 0, none⟩ = some (.int .i64 p.ag) := fun W h => keep_cell (hCB W h) p0 hlt
    have f1 : ∀ W, C W → W.cell? ⟨w.heap.size, 1, none⟩ = some (.int .i64 p.aa) := fun W h => keep_cell (hCB W h) p1 hlt
    have f2 : ∀ W, C W → W.cell? ⟨w.heap.size, 2, none⟩ = some (.int .i64 p.bg) := fun W h => keep_cell (hCB W h) p2 hlt
    have f3 : ∀ W, C W → W.cell? ⟨w.heap.size, 3, none⟩ = some (.int .i64 p.ba) := fun W h => keep_cell (hCB W h) p3 hlt
    have f7 : ∀ W, C W → W.cell? ⟨w.heap.size, 7, none⟩ = some (.int .i64 p.birth) := fun W h => keep_cell (hCB W h) p7 hlt
    refine wp_region_cls C (by kernel_rfl) (by kernel_rfl) hC ?_
    repeat (first
      | go_big_quiet_skip
      | (go_big_quiet_want
         go_big_quiet_op
         first
           | go_big_quiet_on
           | (apply Exists.intro
              refine ⟨fun W hW => ?_, ?_⟩
              · first
                  | exact rfl
                  | exact ⟨rfl, rfl⟩
                  | (have e0 := f0 W hW; have e1 := f1 W hW; have e2 := f2 W hW; have e3 := f3 W hW; have e4 := f7 W hW; simp only [e0, e1, e2, e3, e4, Result.andThen_ok]; done)
                  | (have e0 := f0 W hW; have e1 := f1 W hW; have e2 := f2 W hW; have e3 := f3 W hW; have e4 := f7 W hW; simp only [e0, e1, e2, e3, e4, Result.andThen_ok]; first | exact ⟨trivial, rfl⟩ | exact rfl | exact ⟨rfl, rfl⟩)
                  | ((first | (with_reducible refine (H0.out W).mono ?_) | (with_reducible refine (H1.out W).mono ?_) | (with_reducible refine (H2.out W).mono ?_) | (with_reducible refine (H3.out W).mono ?_) | (with_reducible refine (H4.out W).mono ?_) | (with_reducible refine (H5.out W).mono ?_)); rintro e w' ⟨rfl, hb⟩; exact ⟨rfl, hCK _ _ hW hb⟩)
              go_big_quiet_on)))
    refine wpQuiet_nil ?_
    intro w' hw'
    have hwB := hCB w' hw'
    have hP' := HP.out.keep hwB hlt
    clear p0 p1 p2 p3 p4 p5 p6 p7 p8 p9 pa pb f0 f1 f2 f3 f7 hCK hCd hCB hC hC0
    obtain ⟨p0, p1, p2, p3, p4, p5, p6, p7, p8, p9, pa, pb⟩ := hP'
    simp only [Nat.zero_add] at p1 p2 p3 p4 p5 p6 p7 p8 p9 pa pb
    go_wp2_with fail
    refine (HSUM.out _).mono ?_
    rintro e w3 ⟨rfl, hb3⟩
    go_wp2_with fail
    rw [ByteArray.mk_append_mk, ByteArray.mk_append_mk, ByteArray.mk_append_mk, ByteArray.mk_append_mk, ByteArray.mk_append_mk, ByteArray.mk_append_mk]
    refine (HPAD.out _).mono ?_
    rintro e w4 ⟨rfl, hb4⟩
    go_wp2_with fail
    go_ret
    refine ⟨ret_str ?_, keep_below hb4 (keep_below hb3 (keep_below hwB hb0))⟩
    rw [HPL.out, HSM.out]
    congr 1
    simp only [List.append_assoc]
  | false =>
    rw [ht] at p4 ho hw1
    have ho4 : ptrOne p = p.size + 256 * p.level := by rw [ho.out]; simp; omega
    rw [ho4] at H4
    clear ho4
    go_wp2_with fail
    rw [← hw1]
    clear hw1
    go_wp2_with fail
    obtain ⟨C, hC, hC0, hCB, hCK, hCd⟩ := cls_below w1
    have f0 : ∀ W, C W → W.cell? ⟨w.heap.size, 0, none⟩ = some (.int .i64 p.ag) := fun W h => keep_cell (hCB W h) p0 hlt
    have f1 : ∀ W, C W → W.cell? ⟨w.heap.size, 1, none⟩ = some (.int .i64 p.aa) := fun W h => keep_cell (hCB W h) p1 hlt
    have f2 : ∀ W, C W → W.cell? ⟨w.heap.size, 2, none⟩ = some (.int .i64 p.bg) := fun W h => keep_cell (hCB W h) p2 hlt
    have f3 : ∀ W, C W → W.cell? ⟨w.heap.size, 3, none⟩ = some (.int .i64 p.ba) := fun W h => keep_cell (hCB W h) p3 hlt
    have f7 : ∀ W, C W → W.cell? ⟨w.heap.size, 7, none⟩ = some (.int .i64 p.birth) := fun W h => keep_cell (hCB W h) p7 hlt
    refine wp_region_cls C (by kernel_rfl) (by kernel_rfl) hC ?_
    repeat (first
      | go_big_quiet_skip
      | (go_big_quiet_want
         go_big_quiet_op
         first
           | go_big_quiet_on
           | (apply Exists.intro
              refine ⟨fun W hW => ?_, ?_⟩
              · first
                  | exact rfl
                  | exact ⟨rfl, rfl⟩
                  | (have e0 := f0 W hW; have e1 := f1 W hW; have e2 := f2 W hW; have e3 := f3 W hW; have e4 := f7 W hW; simp only [e0, e1, e2, e3, e4, Result.andThen_ok]; done)
                  | (have e0 := f0 W hW; have e1 := f1 W hW; have e2 := f2 W hW; have e3 := f3 W hW; have e4 := f7 W hW; simp only [e0, e1, e2, e3, e4, Result.andThen_ok]; first | exact ⟨trivial, rfl⟩ | exact rfl | exact ⟨rfl, rfl⟩)
                  | ((first | (with_reducible refine (H0.out W).mono ?_) | (with_reducible refine (H1.out W).mono ?_) | (with_reducible refine (H2.out W).mono ?_) | (with_reducible refine (H3.out W).mono ?_) | (with_reducible refine (H4.out W).mono ?_) | (with_reducible refine (H5.out W).mono ?_)); rintro e w' ⟨rfl, hb⟩; exact ⟨rfl, hCK _ _ hW hb⟩)
              go_big_quiet_on)))
    refine wpQuiet_nil ?_
    intro w' hw'
    have hwB := hCB w' hw'
    have hP' := HP.out.keep hwB hlt
    clear p0 p1 p2 p3 p4 p5 p6 p7 p8 p9 pa pb f0 f1 f2 f3 f7 hCK hCd hCB hC hC0
    obtain ⟨p0, p1, p2, p3, p4, p5, p6, p7, p8, p9, pa, pb⟩ := hP'
    simp only [Nat.zero_add] at p1 p2 p3 p4 p5 p6 p7 p8 p9 pa pb
    go_wp2_with fail
    refine (HSUM.out _).mono ?_
    rintro e w3 ⟨rfl, hb3⟩
    go_wp2_with fail
    rw [ByteArray.mk_append_mk, ByteArray.mk_append_mk, ByteArray.mk_append_mk, ByteArray.mk_append_mk, ByteArray.mk_append_mk, ByteArray.mk_append_mk]
    refine (HPAD.out _).mono ?_
    rintro e w4 ⟨rfl, hb4⟩
    go_wp2_with fail
    go_ret
    refine ⟨ret_str ?_, keep_below hb4 (keep_below hb3 (keep_below hwB hb0))⟩
    rw [HPL.out, HSM.out]
    congr 1
    simp only [List.append_assoc]
end Go.Proofs.YtnagcmfecggllaaDoor
