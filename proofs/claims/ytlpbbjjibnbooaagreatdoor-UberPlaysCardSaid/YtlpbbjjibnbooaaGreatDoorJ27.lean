/-
  The document's answers: a node's bytes, a node read.
-/
import Derived.Test.YtlpbbjjibnbooaaGreatDoorJ26
namespace Go.Proofs.YtlpbbjjibnbooaaGreatDoor
set_option linter.unusedVariables false
set_option linter.unusedSimpArgs false
open Go.RowKit

/-- A text's part. -/
theorem cutL {s : List UInt8} {a b : Nat} (h : a ≤ b) (hb : b ≤ s.length) (t : List UInt8) (ht : (s.drop a).take (b - a) = t) (W : World) :
    (Instr.slice 9 (str s) (some (.int .i64 (a : Int))) (some (.int .i64 (b : Int))) none).run Tryz.prog W = .ok (str t) W := by
  have := run_slice_string (P := Tryz.prog) W 9 (ByteArray.mk s.toArray) .i64 .i64 (a : Int) (b : Int) Tryz.underlying9 (by omega) (by omega) (by simp [ByteArray.size]; omega)
  rw [this]
  have e3 : (ByteArray.mk s.toArray).extract a b = ⟨t.toArray⟩ := by
    apply ByteArray.ext
    rw [← ht]
    simp only [ByteArray.data_extract, List.extract_toArray, List.extract_eq_take_drop]
  rw [Int.toNat_natCast, Int.toNat_natCast, e3]
theorem cutL_to {s : List UInt8} {b : Nat} (hb : b ≤ s.length) (t : List UInt8) (ht : s.take b = t) (W : World) :
    (Instr.slice 9 (str s) none (some (.int .i64 (b : Int))) none).run Tryz.prog W = .ok (str t) W := by
  have := run_slice_string_h (P := Tryz.prog) (w := W) (t := 9) (ht := Tryz.underlying9) (s := ByteArray.mk s.toArray) .i64 (b : Int) (by omega) (by simp [ByteArray.size]; omega)
  rw [this]
  have e3 : (ByteArray.mk s.toArray).extract 0 b = ⟨t.toArray⟩ := by
    apply ByteArray.ext
    rw [← ht]
    simp only [ByteArray.data_extract, List.extract_toArray, List.extract_eq_take_drop]
    simp
  rw [Int.toNat_natCast, e3]
theorem cutX {s : List UInt8} {a b : Nat} (t : List UInt8) (ht : (s.drop a).take (b - a) = t) : (ByteArray.mk s.toArray).extract a b = ⟨t.toArray⟩ := by
  apply ByteArray.ext
  rw [← ht]
  simp only [ByteArray.data_extract, List.extract_toArray, List.extract_eq_take_drop]
theorem refSumB_any (x : Nat × Nat × Nat × Nat) (h : x.1 < 18446744073709551616 ∧ x.2.1 < 18446744073709551616 ∧ x.2.2.1 < 18446744073709551616 ∧ x.2.2.2 < 18446744073709551616) (w : World) :
    Calls Tryz.prog 51 #[.agg (fcells x)] w fun e w' => e = .returned (str (sum4 x)) ∧ Below w.heap.size w w' :=
  refSum_any x.1 x.2.1 x.2.2.1 x.2.2.2 w h.1 h.2.1 h.2.2.1 h.2.2.2
set_option maxRecDepth 20000 in
set_option maxHeartbeats 1000000 in
theorem refNBytes_any (n : Int) (p : PtrD) (w : World) (op : p.Ok) (hok : nodeOk n p = true) :
    Calls Tryz.prog 54 #[.agg #[.int .i64 n, .int .i64 p.ag, .int .i64 p.aa, .int .i64 p.bg, .int .i64 p.ba, .bool p.two, .int .i64 p.size, .int .i64 p.level, .int .i64 p.birth, .int .u64 p.s0, .int .u64 p.s1, .int .u64 p.s2, .int .u64 p.s3]] w fun e w' => e = .returned (str (nodeL n p)) ∧ Below w.heap.size w w' := by
  obtain ⟨w2, hw2⟩ : ∃ z, w.alloc (.cells #[.int .i64 n, .int .i64 p.ag, .int .i64 p.aa, .int .i64 p.bg, .int .i64 p.ba, .bool p.two, .int .i64 p.size, .int .i64 p.level, .int .i64 p.birth, .int .u64 p.s0, .int .u64 p.s1, .int .u64 p.s2, .int .u64 p.s3] 33) = z := ⟨_, rfl⟩
  have B1 : Blk w2 w.heap.size 33 #[.int .i64 n, .int .i64 p.ag, .int .i64 p.aa, .int .i64 p.bg, .int .i64 p.ba, .bool p.two, .int .i64 p.size, .int .i64 p.level, .int .i64 p.birth, .int .u64 p.s0, .int .u64 p.s1, .int .u64 p.s2, .int .u64 p.s3] := by rw [← hw2]; exact Blk.new _ _ _
  have D1 : Below w.heap.size w w2 := by rw [← hw2]; exact keep_alloc (Below.refl _ _) _
  have hok' := hok
  unfold nodeOk at hok'
  simp only [Bool.and_eq_true, decide_eq_true_eq] at hok'
  obtain ⟨hn, hly⟩ := hok'
  have hi : intL n = layL n.toNat 8 := by unfold intL; rw [if_pos hn]
  have hi1 : intL 1 = layL 1 8 := by unfold intL; rw [if_pos (by omega)]; rfl
  have l0 := layL_len n.toNat 8
  have l1 := layL_len 1 8
  have hpl := ptrL_len hly op
  have hNL : nodeL n p = padL (layL n.toNat 8 ++ (layL 1 8 ++ ptrL p)) 128 := rfl
  have hnl := nodeL_len hok op
  obtain ⟨a, ha⟩ : ∃ a, layL n.toNat 8 = a := ⟨_, rfl⟩
  obtain ⟨b, hb⟩ : ∃ b, layL 1 8 = b := ⟨_, rfl⟩
  obtain ⟨d, hd⟩ : ∃ d, ptrL p = d := ⟨_, rfl⟩
  obtain ⟨r, hr⟩ : ∃ r, nodeL n p = r := ⟨_, rfl⟩
  rw [hr, ha, hb, hd] at hNL
  rw [ha] at hi l0
  rw [hb] at hi1 l1
  rw [hd] at hpl
  rw [hr] at hnl ⊢
  have HI : Hid (∀ W, Calls Tryz.prog 48 #[.int .i64 n] W fun e w' => e = .returned (str a) ∧ Below W.heap.size W w') := Lib.hid fun W => by have := refInt_any n W; rwa [hi] at this
  have HI1 : Hid (∀ W, Calls Tryz.prog 48 #[.int .i64 1] W fun e w' => e = .returned (str b) ∧ Below W.heap.size W w') := Lib.hid fun W => by have := refInt_any 1 W; rwa [hi1] at this
  have HPB : Hid (∀ W, Calls Tryz.prog 91 #[.agg #[.int .i64 p.ag, .int .i64 p.aa, .int .i64 p.bg, .int .i64 p.ba, .bool p.two, .int .i64 p.size, .int .i64 p.level, .int .i64 p.birth, .int .u64 p.s0, .int .u64 p.s1, .int .u64 p.s2, .int .u64 p.s3]] W fun e w' => e = .returned (str d) ∧ Below W.heap.size W w') := Lib.hid fun W => by have := refPBytes_any p W op hly; rwa [hd] at this
  have HPD : Hid (∀ W, Calls Tryz.prog 50 #[.string ((({ data := a.toArray } : ByteArray) ++ { data := b.toArray }) ++ { data := d.toArray }), .int .i64 128] W fun e w' => e = .returned (str r) ∧ Below W.heap.size W w') := Lib.hid fun W => by
    have := refPad_any (a ++ b ++ d) 128 W (by simp only [List.length_append]; omega)
    rw [List.append_assoc, ← hNL] at this
    rw [ba_app, ba_app, List.append_assoc]
    exact this
  have k1 : a.length + b.length ≤ 9223372036854775807 := by omega
  have k2 : a.length + b.length + d.length ≤ 9223372036854775807 := by omega
  have HW2 := Lib.hid hw2
  have HD1 := Lib.hid D1
  obtain ⟨C, hCd, hCw, hCB, hCK, hCD⟩ := cls_below w2
  have fn0 : ∀ W, C W → W.cell? ⟨w.heap.size, 0, none⟩ = some (.int .i64 n) := fun W h => keepU (B1.at_ (i := 0) rfl) (hCB W h)
  have fn1 : ∀ W, C W → W.cell? ⟨w.heap.size, 1, none⟩ = some (.int .i64 p.ag) := fun W h => keepU (B1.at_ (i := 1) rfl) (hCB W h)
  have fn2 : ∀ W, C W → W.cell? ⟨w.heap.size, 2, none⟩ = some (.int .i64 p.aa) := fun W h => keepU (B1.at_ (i := 2) rfl) (hCB W h)
  have fn3 : ∀ W, C W → W.cell? ⟨w.heap.size, 3, none⟩ = some (.int .i64 p.bg) := fun W h => keepU (B1.at_ (i := 3) rfl) (hCB W h)
  have fn4 : ∀ W, C W → W.cell? ⟨w.heap.size, 4, none⟩ = some (.int .i64 p.ba) := fun W h => keepU (B1.at_ (i := 4) rfl) (hCB W h)
  have fn5 : ∀ W, C W → W.cell? ⟨w.heap.size, 5, none⟩ = some (.bool p.two) := fun W h => keepU (B1.at_ (i := 5) rfl) (hCB W h)
  have fn6 : ∀ W, C W → W.cell? ⟨w.heap.size, 6, none⟩ = some (.int .i64 p.size) := fun W h => keepU (B1.at_ (i := 6) rfl) (hCB W h)
  have fn7 : ∀ W, C W → W.cell? ⟨w.heap.size, 7, none⟩ = some (.int .i64 p.level) := fun W h => keepU (B1.at_ (i := 7) rfl) (hCB W h)
  have fn8 : ∀ W, C W → W.cell? ⟨w.heap.size, 8, none⟩ = some (.int .i64 p.birth) := fun W h => keepU (B1.at_ (i := 8) rfl) (hCB W h)
  have fn9 : ∀ W, C W → W.cell? ⟨w.heap.size, 9, none⟩ = some (.int .u64 p.s0) := fun W h => keepU (B1.at_ (i := 9) rfl) (hCB W h)
  have fn10 : ∀ W, C W → W.cell? ⟨w.heap.size, 10, none⟩ = some (.int .u64 p.s1) := fun W h => keepU (B1.at_ (i := 10) rfl) (hCB W h)
  have fn11 : ∀ W, C W → W.cell? ⟨w.heap.size, 11, none⟩ = some (.int .u64 p.s2) := fun W h => keepU (B1.at_ (i := 11) rfl) (hCB W h)
  have fn12 : ∀ W, C W → W.cell? ⟨w.heap.size, 12, none⟩ = some (.int .u64 p.s3) := fun W h => keepU (B1.at_ (i := 12) rfl) (hCB W h)
  have HC := Lib.hid hCB
  clear hok hn hly hi hi1 l0 l1 hpl hNL hnl ha hb hd hr hw2 D1 B1 hCB hCw hCD op
  go_enter Tryz.func54, Tryz.ntmps54
  repeat' (first
    | go_values
    | go_skip
    | go_guarded
    | ((fail_if_success (with_reducible refine drawn_mark ?_))
       first
         | go_step
         | go_upon
         | go_back
         | (simp only [Int.not_lt, Int.not_le] at *; go_simp)
         | (go_values <;> (try go_simp))
         | (go_ite <;> go_prune <;> (try go_simp))
         | (split <;> (first | (rename_i hx; exact (hx _ rfl).elim) | go_prune))))
  rw [HW2.out]
  refine wp_region_cls C (by kernel_rfl) (by kernel_rfl) hCd ?_
  repeat (first
    | go_big_quiet_skip
    | (go_big_quiet_want
       go_big_quiet_op
       first
         | go_big_quiet_on
         | (apply Exists.intro
            refine ⟨fun W hW => ?_, ?_⟩
            · first
                | exact rfl
                | exact ⟨rfl, rfl⟩
                | (have e0 := fn0 W hW; have e1 := fn1 W hW; have e2 := fn2 W hW; have e3 := fn3 W hW; have e4 := fn4 W hW; have e5 := fn5 W hW; have e6 := fn6 W hW; have e7 := fn7 W hW; have e8 := fn8 W hW; have e9 := fn9 W hW; have e10 := fn10 W hW; have e11 := fn11 W hW; have e12 := fn12 W hW; simp only [e0, e1, e2, e3, e4, e5, e6, e7, e8, e9, e10, e11, e12, Result.andThen_ok]; done)
                | (have e0 := fn0 W hW; have e1 := fn1 W hW; have e2 := fn2 W hW; have e3 := fn3 W hW; have e4 := fn4 W hW; have e5 := fn5 W hW; have e6 := fn6 W hW; have e7 := fn7 W hW; have e8 := fn8 W hW; have e9 := fn9 W hW; have e10 := fn10 W hW; have e11 := fn11 W hW; have e12 := fn12 W hW; simp only [e0, e1, e2, e3, e4, e5, e6, e7, e8, e9, e10, e11, e12, Result.andThen_ok]; first | exact ⟨trivial, rfl⟩ | exact rfl | exact ⟨rfl, rfl⟩)
                | (first | (with_reducible refine (HI1.out W).mono ?_; rintro e w' ⟨rfl, hb⟩; exact ⟨rfl, hCK _ _ hW hb⟩) | (with_reducible refine (HI.out W).mono ?_; rintro e w' ⟨rfl, hb⟩; exact ⟨rfl, hCK _ _ hW hb⟩) | (with_reducible refine (HPB.out W).mono ?_; rintro e w' ⟨rfl, hb⟩; exact ⟨rfl, hCK _ _ hW hb⟩) | (with_reducible refine (HPD.out W).mono ?_; rintro e w' ⟨rfl, hb⟩; exact ⟨rfl, hCK _ _ hW hb⟩))
            go_big_quiet_on)))
  refine wpQuiet_nil ?_
  intro w5 hw5
  have HB5 := Lib.hid (keep_below (HC.out w5 hw5) HD1.out)
  clear fn0 fn1 fn2 fn3 fn4 fn5 fn6 fn7 fn8 fn9 fn10 fn11 fn12 hCd hCK hw5 k1 k2
  go_wp2_with fail
  go_ret
  exact ⟨rfl, HB5.out⟩
theorem build_nodeP13 (n : Int) (q : PtrD) (W : World) : (Instr.build 33 #[(0, .int .i64 n), (1, .agg #[.int .i64 q.ag, .int .i64 q.aa, .int .i64 q.bg, .int .i64 q.ba, .bool q.two, .int .i64 q.size, .int .i64 q.level, .int .i64 q.birth, .int .u64 q.s0, .int .u64 q.s1, .int .u64 q.s2, .int .u64 q.s3])]).run Tryz.prog W = .ok (.agg #[.int .i64 n, .int .i64 q.ag, .int .i64 q.aa, .int .i64 q.bg, .int .i64 q.ba, .bool q.two, .int .i64 q.size, .int .i64 q.level, .int .i64 q.birth, .int .u64 q.s0, .int .u64 q.s1, .int .u64 q.s2, .int .u64 q.s3]) W := by kernel_rfl
theorem build_nodeZ13 (W : World) : (Instr.build 33 #[]).run Tryz.prog W = .ok (.agg #[.int .i64 0, .int .i64 0, .int .i64 0, .int .i64 0, .int .i64 0, .bool false, .int .i64 0, .int .i64 0, .int .i64 0, .int .u64 0, .int .u64 0, .int .u64 0, .int .u64 0]) W := by kernel_rfl
set_option maxRecDepth 100000 in
set_option maxHeartbeats 8000000 in
theorem refRN_any (s : List UInt8) (w : World) (hl : s.length ≤ 140737488351232) :
    Calls Tryz.prog 56 #[str s] w fun e w' => e = .returned (rnV (rnD s)) ∧ Below w.heap.size w w' := by
  have hbz := build_nodeZ13
  by_cases h1 : s.length < 128
  · have he : Hid (rnV (rnD s) = .tuple #[.agg #[.int .i64 0, .int .i64 0, .int .i64 0, .int .i64 0, .int .i64 0, .bool false, .int .i64 0, .int .i64 0, .int .i64 0, .int .u64 0, .int .u64 0, .int .u64 0, .int .u64 0], .bool false, .int .i64 2]) := by unfold Hid rnD; rw [if_pos h1]; rfl
    have hbw := (Below.refl w.heap.size w).alloc (Nat.le_refl _) (.cells #[.int .i64 0, .int .i64 0, .int .i64 0, .int .i64 0, .int .i64 0, .bool false, .int .i64 0, .int .i64 0, .int .i64 0, .int .u64 0, .int .u64 0, .int .u64 0, .int .u64 0] 33)
    have hd : decide ((s.length : Int) < 128) = true := decide_eq_true (by omega)
    go_enter Tryz.func56, Tryz.ntmps56
    go_wp2_with fail
    refine bodyPost_ret (v := .tuple #[.agg #[.int .i64 0, .int .i64 0, .int .i64 0, .int .i64 0, .int .i64 0, .bool false, .int .i64 0, .int .i64 0, .int .i64 0, .int .u64 0, .int .u64 0, .int .u64 0, .int .u64 0], .bool false, .int .i64 2]) (by simp [results, Tryz.results56, go_sem]) rfl ⟨by rw [he.out], hbw⟩
  · by_cases h2 : 128 < s.length
    · have he : Hid (rnV (rnD s) = .tuple #[.agg #[.int .i64 0, .int .i64 0, .int .i64 0, .int .i64 0, .int .i64 0, .bool false, .int .i64 0, .int .i64 0, .int .i64 0, .int .u64 0, .int .u64 0, .int .u64 0, .int .u64 0], .bool false, .int .i64 3]) := by unfold Hid rnD; rw [if_neg h1, if_pos h2]; rfl
      have hbw := (Below.refl w.heap.size w).alloc (Nat.le_refl _) (.cells #[.int .i64 0, .int .i64 0, .int .i64 0, .int .i64 0, .int .i64 0, .bool false, .int .i64 0, .int .i64 0, .int .i64 0, .int .u64 0, .int .u64 0, .int .u64 0, .int .u64 0] 33)
      have hd : decide ((s.length : Int) < 128) = false := decide_eq_false (by omega)
      have hd2 : decide ((128 : Int) < s.length) = true := decide_eq_true (by omega)
      go_enter Tryz.func56, Tryz.ntmps56
      go_wp2_with fail
      refine bodyPost_ret (v := .tuple #[.agg #[.int .i64 0, .int .i64 0, .int .i64 0, .int .i64 0, .int .i64 0, .bool false, .int .i64 0, .int .i64 0, .int .i64 0, .int .u64 0, .int .u64 0, .int .u64 0, .int .u64 0], .bool false, .int .i64 3]) (by simp [results, Tryz.results56, go_sem]) rfl ⟨by rw [he.out], hbw⟩
    · have h3 : s.length = 128 := by omega
      have hd : decide ((s.length : Int) < 128) = false := decide_eq_false (by omega)
      have hd2 : decide ((128 : Int) < s.length) = false := decide_eq_false (by omega)
      have hD : Hid (rnD s = if allZ s then ((0, ptrZ, false, 0) : Int × PtrD × Bool × Int) else if 4611686018427387904 ≤ subN s 0 8 then (0, ptrZ, false, 3) else if subN s 8 8 ≠ 1 then (0, ptrZ, false, 3)
            else if readE ((s.drop 16).take 64) ≠ 0 then (0, ptrZ, false, readE ((s.drop 16).take 64)) else if allZ (s.drop 80) then (subN s 0 8, readP ((s.drop 16).take 64), true, 0) else (0, ptrZ, false, 3)) := by
        unfold Hid rnD; rw [if_neg h1, if_neg h2]
      obtain ⟨t0, ht0⟩ : ∃ t, (s.drop 0).take 8 = t := ⟨_, rfl⟩
      obtain ⟨t1, ht1⟩ : ∃ t, (s.drop 8).take 8 = t := ⟨_, rfl⟩
      obtain ⟨t2, ht2⟩ : ∃ t, (s.drop 16).take 64 = t := ⟨_, rfl⟩
      obtain ⟨t3, ht3⟩ : ∃ t, s.drop 80 = t := ⟨_, rfl⟩
      have ht3' : (s.drop 80).take (128 - 80) = t3 := by rw [← ht3, List.take_of_length_le (by rw [List.length_drop]; omega)]
      have hl0 : t0.length ≤ 8 := by rw [← ht0]; exact List.length_take_le _ _
      have hl1 : t1.length ≤ 8 := by rw [← ht1]; exact List.length_take_le _ _
      have hl2 : t2.length ≤ 64 := by rw [← ht2]; exact List.length_take_le _ _
      have hl3 : t3.length ≤ 128 := by rw [← ht3, List.length_drop]; omega
      obtain ⟨v0, hv0⟩ : ∃ v, subN s 0 8 = v := ⟨_, rfl⟩
      obtain ⟨v1, hv1⟩ : ∃ v, subN s 8 8 = v := ⟨_, rfl⟩
      have hv0' : leNat t0 = v0 := by rw [← hv0, ← ht0]; rfl
      have hv1' : leNat t1 = v1 := by rw [← hv1, ← ht1]; rfl
      have hb0 : v0 < 18446744073709551616 := by rw [← hv0]; exact subN_lt s 0 8
      have hb1 : v1 < 18446744073709551616 := by rw [← hv1]; exact subN_lt s 8 8
      rw [ht2, ht3, hv0, hv1] at hD
      have hc0 : ∀ W, (Instr.slice 9 (str s) none (some (.int .i64 8)) none).run Tryz.prog W = .ok (str t0) W := fun W => cutL_to (b := 8) (by omega) t0 (by rw [← ht0, List.drop_zero]) W
      have hc1 : ∀ W, (Instr.slice 9 (str s) (some (.int .i64 8)) (some (.int .i64 16)) none).run Tryz.prog W = .ok (str t1) W := fun W => cutL (a := 8) (b := 16) (by omega) (by omega) t1 ht1 W
      have hx2 : (ByteArray.mk s.toArray).extract 16 80 = ⟨t2.toArray⟩ := cutX (a := 16) (b := 80) t2 ht2
      have hx3 : (ByteArray.mk s.toArray).extract 80 s.length = ⟨t3.toArray⟩ := by rw [h3]; exact cutX (a := 80) (b := 128) t3 ht3'
      have HX2 := Lib.hid hx2
      have HX3 := Lib.hid hx3
      have HN0 : Hid (∀ W, Calls Tryz.prog 55 #[str t0] W fun e w' => e = .returned (.int .u64 (v0 : Nat)) ∧ W = w') := Lib.hid fun W => by have := numRef_any t0 W hl0; rwa [hv0'] at this
      have HN1 : Hid (∀ W, Calls Tryz.prog 55 #[str t1] W fun e w' => e = .returned (.int .u64 (v1 : Nat)) ∧ W = w') := Lib.hid fun W => by have := numRef_any t1 W hl1; rwa [hv1'] at this
      have HZS : Hid (∀ W, Calls Tryz.prog 57 #[str s] W fun e w' => e = .returned (.bool (allZ s)) ∧ W = w') := Lib.hid fun W => zeros_any s W (by omega)
      have HZ3 : Hid (∀ W, Calls Tryz.prog 57 #[str t3] W fun e w' => e = .returned (.bool (allZ t3)) ∧ W = w') := Lib.hid fun W => zeros_any t3 W (by omega)
      obtain ⟨q, hq⟩ : ∃ q, readV t2 = q := ⟨_, rfl⟩
      obtain ⟨er, her⟩ : ∃ er, readE t2 = er := ⟨_, rfl⟩
      have HRD : Hid (∀ W, Calls Tryz.prog 92 #[str t2] W fun e w' => e = .returned (.tuple #[.agg #[.int .i64 q.ag, .int .i64 q.aa, .int .i64 q.bg, .int .i64 q.ba, .bool q.two, .int .i64 q.size, .int .i64 q.level, .int .i64 q.birth, .int .u64 q.s0, .int .u64 q.s1, .int .u64 q.s2, .int .u64 q.s3], .int .i64 er]) ∧ Below W.heap.size W w') := Lib.hid fun W => by have := refRead9_any t2 W (by omega); rwa [hq, her] at this
      have HQ : Hid (er = 0 → readP t2 = q) := Lib.hid fun h => by rw [← hq]; unfold readV; rw [her, if_pos h]
      rw [her] at hD
      have HL := Lib.hid h3
      obtain ⟨w1, hw1⟩ : ∃ z, w.alloc (.cells #[.int .i64 0, .int .i64 0, .int .i64 0, .int .i64 0, .int .i64 0, .bool false, .int .i64 0, .int .i64 0, .int .i64 0, .int .u64 0, .int .u64 0, .int .u64 0, .int .u64 0] 33) = z := ⟨_, rfl⟩
      have hbw : Below w.heap.size w w1 := by rw [← hw1]; exact keep_alloc (Below.refl _ _) _
      have HZ : Hid (Blk w1 w.heap.size 33 #[.int .i64 0, .int .i64 0, .int .i64 0, .int .i64 0, .int .i64 0, .bool false, .int .i64 0, .int .i64 0, .int .i64 0, .int .u64 0, .int .u64 0, .int .u64 0, .int .u64 0]) := by rw [← hw1]; exact Lib.hid (Blk.new _ _ _)
      have HW1 := Lib.hid hw1
      obtain ⟨az, haz⟩ : ∃ az, allZ s = az := ⟨_, rfl⟩
      rw [haz] at hD HZS
      clear h1 h2 ht0 ht1 ht2 ht3 ht3' hl0 hl1 hl2 hl3 hv0 hv1 hv0' hv1' hx2 hx3 hq her hw1 haz
      go_enter Tryz.func56, Tryz.ntmps56
      go_wp2_with fail
      rw [HW1.out]
      refine (HZS.out w1).mono ?_
      rintro e w2 ⟨rfl, rfl⟩
      cases az with
      | true =>
        have he : Hid (rnV (rnD s) = .tuple #[.agg #[.int .i64 0, .int .i64 0, .int .i64 0, .int .i64 0, .int .i64 0, .bool false, .int .i64 0, .int .i64 0, .int .i64 0, .int .u64 0, .int .u64 0, .int .u64 0, .int .u64 0], .bool false, .int .i64 0]) := by unfold Hid; rw [hD.out, if_pos rfl]; rfl
        have z0 := HZ.out.at_ (i := 0) (v := .int .i64 0) rfl
        have f0 := HZ.out.fr 0
        have z1 := HZ.out.at_ (i := 1) (v := .int .i64 0) rfl
        have f1 := HZ.out.fr 1
        have z2 := HZ.out.at_ (i := 2) (v := .int .i64 0) rfl
        have f2 := HZ.out.fr 2
        have z3 := HZ.out.at_ (i := 3) (v := .int .i64 0) rfl
        have f3 := HZ.out.fr 3
        have z4 := HZ.out.at_ (i := 4) (v := .int .i64 0) rfl
        have f4 := HZ.out.fr 4
        have z5 := HZ.out.at_ (i := 5) (v := .bool false) rfl
        have f5 := HZ.out.fr 5
        have z6 := HZ.out.at_ (i := 6) (v := .int .i64 0) rfl
        have f6 := HZ.out.fr 6
        have z7 := HZ.out.at_ (i := 7) (v := .int .i64 0) rfl
        have f7 := HZ.out.fr 7
        have z8 := HZ.out.at_ (i := 8) (v := .int .i64 0) rfl
        have f8 := HZ.out.fr 8
        have z9 := HZ.out.at_ (i := 9) (v := .int .u64 0) rfl
        have f9 := HZ.out.fr 9
        have z10 := HZ.out.at_ (i := 10) (v := .int .u64 0) rfl
        have f10 := HZ.out.fr 10
        have z11 := HZ.out.at_ (i := 11) (v := .int .u64 0) rfl
        have f11 := HZ.out.fr 11
        have z12 := HZ.out.at_ (i := 12) (v := .int .u64 0) rfl
        have f12 := HZ.out.fr 12
        have hw3 : w.heap.size < w1.heap.size := HZ.out.lt
        go_wp2_with fail
        refine bodyPost_ret (v := .tuple #[.agg #[.int .i64 0, .int .i64 0, .int .i64 0, .int .i64 0, .int .i64 0, .bool false, .int .i64 0, .int .i64 0, .int .i64 0, .int .u64 0, .int .u64 0, .int .u64 0, .int .u64 0], .bool false, .int .i64 (0)]) (by simp [results, Tryz.results56, go_sem, hw3, z0, z1, z2, z3, z4, z5, z6, z7, z8, z9, z10, z11, z12]) rfl ⟨by rw [he.out], ?_⟩
        repeat (first | (with_reducible exact hbw) | (with_reducible refine keep_alloc ?_ _) | (with_reducible refine below_drewN ?_ _) | (with_reducible refine below_set ?_ _ _ _ (Nat.le_refl _)))
      | false =>
        obtain ⟨C, hCd, hCw, hCB, hCK, hCD⟩ := cls_below w1
        have HC := Lib.hid hCB
        go_wp2_with fail
        refine wp_region_cls C (by kernel_rfl) (by kernel_rfl) hCd ?_
        repeat (first
          | go_big_quiet_skip
          | (go_big_quiet_want
             go_big_quiet_op
             first
               | go_big_quiet_on
               | (apply Exists.intro
                  refine ⟨fun W hW => ?_, ?_⟩
                  · first
                      | exact rfl
                      | exact ⟨rfl, rfl⟩
                      | (have e0 := hc0 W hW; have e1 := hc1 W hW; simp only [e0, e1, Result.andThen_ok]; done)
                      | (have e0 := hc0 W hW; have e1 := hc1 W hW; simp only [e0, e1, Result.andThen_ok]; first | exact ⟨trivial, rfl⟩ | exact rfl | exact ⟨rfl, rfl⟩)
                      | (first | (with_reducible refine (HN0.out W).mono ?_; rintro e w' ⟨rfl, rfl⟩; exact ⟨rfl, hW⟩) | (with_reducible refine (HN1.out W).mono ?_; rintro e w' ⟨rfl, rfl⟩; exact ⟨rfl, hW⟩))
                  go_big_quiet_on)))
        refine wpQuiet_nil ?_
        intro w3 hw3'
        have hb3 := HC.out w3 hw3'
        have hbw := keep_below hb3 hbw
        have HZ := Lib.hid (HZ.out.below hb3 HZ.out.lt)
        have hw3 : w.heap.size < w3.heap.size := HZ.out.lt
        clear hc0 hc1 hCd hCw hCB hCK hCD hb3 hw3'
        by_cases hg0 : 4611686018427387904 ≤ v0
        · have he : Hid (rnV (rnD s) = .tuple #[.agg #[.int .i64 0, .int .i64 0, .int .i64 0, .int .i64 0, .int .i64 0, .bool false, .int .i64 0, .int .i64 0, .int .i64 0, .int .u64 0, .int .u64 0, .int .u64 0, .int .u64 0], .bool false, .int .i64 3]) := by unfold Hid; rw [hD.out, if_neg Bool.false_ne_true, if_pos hg0]; rfl
          have hda : decide ((4611686018427387904 : Int) ≤ (v0 : Int)) = true := decide_eq_true (by omega)
          have z0 := HZ.out.at_ (i := 0) (v := .int .i64 0) rfl
          have f0 := HZ.out.fr 0
          have z1 := HZ.out.at_ (i := 1) (v := .int .i64 0) rfl
          have f1 := HZ.out.fr 1
          have z2 := HZ.out.at_ (i := 2) (v := .int .i64 0) rfl
          have f2 := HZ.out.fr 2
          have z3 := HZ.out.at_ (i := 3) (v := .int .i64 0) rfl
          have f3 := HZ.out.fr 3
          have z4 := HZ.out.at_ (i := 4) (v := .int .i64 0) rfl
          have f4 := HZ.out.fr 4
          have z5 := HZ.out.at_ (i := 5) (v := .bool false) rfl
          have f5 := HZ.out.fr 5
          have z6 := HZ.out.at_ (i := 6) (v := .int .i64 0) rfl
          have f6 := HZ.out.fr 6
          have z7 := HZ.out.at_ (i := 7) (v := .int .i64 0) rfl
          have f7 := HZ.out.fr 7
          have z8 := HZ.out.at_ (i := 8) (v := .int .i64 0) rfl
          have f8 := HZ.out.fr 8
          have z9 := HZ.out.at_ (i := 9) (v := .int .u64 0) rfl
          have f9 := HZ.out.fr 9
          have z10 := HZ.out.at_ (i := 10) (v := .int .u64 0) rfl
          have f10 := HZ.out.fr 10
          have z11 := HZ.out.at_ (i := 11) (v := .int .u64 0) rfl
          have f11 := HZ.out.fr 11
          have z12 := HZ.out.at_ (i := 12) (v := .int .u64 0) rfl
          have f12 := HZ.out.fr 12
          clear hD hg0
          go_wp2_with fail
          refine bodyPost_ret (v := .tuple #[.agg #[.int .i64 0, .int .i64 0, .int .i64 0, .int .i64 0, .int .i64 0, .bool false, .int .i64 0, .int .i64 0, .int .i64 0, .int .u64 0, .int .u64 0, .int .u64 0, .int .u64 0], .bool false, .int .i64 (3)]) (by simp [results, Tryz.results56, go_sem, hw3, z0, z1, z2, z3, z4, z5, z6, z7, z8, z9, z10, z11, z12]) rfl ⟨by rw [he.out], ?_⟩
          repeat (first | (with_reducible exact hbw) | (with_reducible refine keep_alloc ?_ _) | (with_reducible refine below_drewN ?_ _) | (with_reducible refine below_set ?_ _ _ _ (Nat.le_refl _)))
        · have hda : decide ((4611686018427387904 : Int) ≤ (v0 : Int)) = false := decide_eq_false (by omega)
          by_cases h81 : v1 = 1
          · have hne : ((v1 : Int) != 1) = false := by rw [bne_eq_false_iff_eq]; omega
            have HD : Hid (rnD s = if er ≠ 0 then ((0, ptrZ, false, er) : Int × PtrD × Bool × Int) else if allZ t3 then (v0, readP t2, true, 0) else (0, ptrZ, false, 3)) := by
              unfold Hid; rw [hD.out, if_neg Bool.false_ne_true, if_neg hg0, if_neg (by omega)]
            have hx2 := HX2.out
            have hwr : IntKind.i64.wrap (v0 : Int) = (v0 : Int) := by rw [IntKind.wrap_i64] <;> omega
            have HWR := Lib.hid hwr
            have HV0 : Hid (v0 < 4611686018427387904) := Lib.hid (by omega)
            clear hD h81 hg0 hwr
            go_wp2_with fail
            refine (HRD.out w3).mono ?_
            rintro e w4 ⟨rfl, hb4⟩
            have HZ4 := Lib.hid (And.intro (HZ.out.below hb4 HZ.out.lt) (keep_below hb4 hbw))
            obtain ⟨w5, hw5⟩ : ∃ z, w4.alloc (.cells #[.int .i64 q.ag, .int .i64 q.aa, .int .i64 q.bg, .int .i64 q.ba, .bool q.two, .int .i64 q.size, .int .i64 q.level, .int .i64 q.birth, .int .u64 q.s0, .int .u64 q.s1, .int .u64 q.s2, .int .u64 q.s3] 31) = z := ⟨_, rfl⟩
            have hb5 : Below w3.heap.size w3 w5 := by rw [← hw5]; exact keep_alloc hb4 _
            have hQ5 : Blk w5 w4.heap.size 31 #[.int .i64 q.ag, .int .i64 q.aa, .int .i64 q.bg, .int .i64 q.ba, .bool q.two, .int .i64 q.size, .int .i64 q.level, .int .i64 q.birth, .int .u64 q.s0, .int .u64 q.s1, .int .u64 q.s2, .int .u64 q.s3] := by rw [← hw5]; exact Blk.new _ _ _
            have hbw := keep_below hb5 hbw
            have HZ := Lib.hid (HZ.out.below hb5 HZ.out.lt)
            have hw4 : w.heap.size < w4.heap.size := Nat.lt_of_lt_of_le hw3 hb4.size
            have hw3 : w.heap.size < w5.heap.size := HZ.out.lt
            have HQ5 := Lib.hid hQ5
            have HW5 := Lib.hid hw5
            clear hx2 hb4 hw5 hb5 hQ5
            by_cases her0 : er = 0
            · subst her0
              have hx3 := HX3.out
              have hp80 : (80 : Int) ≤ (s.length : Int) := by omega
              clear h3 hd hd2
              go_wp2_with fail
              rw [HW5.out]
              refine (HZ3.out w5).mono ?_
              rintro e w6 ⟨rfl, rfl⟩
              clear hx3
              cases hz3 : allZ t3 with
              | true =>
                have he : Hid (rnV (rnD s) = .tuple #[.agg #[.int .i64 v0, .int .i64 q.ag, .int .i64 q.aa, .int .i64 q.bg, .int .i64 q.ba, .bool q.two, .int .i64 q.size, .int .i64 q.level, .int .i64 q.birth, .int .u64 q.s0, .int .u64 q.s1, .int .u64 q.s2, .int .u64 q.s3], .bool true, .int .i64 0]) := by
                  unfold Hid; rw [HD.out, if_neg (fun h => h rfl), if_pos hz3, HQ.out (by first | exact rfl | trivial)]; rfl
                have hbn := build_nodeP13 (v0 : Int) q
                have hwr := HWR.out
                have q0 := (HQ5.out).at_ (i := 0) (v := .int .i64 q.ag) rfl
                have q1 := (HQ5.out).at_ (i := 1) (v := .int .i64 q.aa) rfl
                have q2 := (HQ5.out).at_ (i := 2) (v := .int .i64 q.bg) rfl
                have q3 := (HQ5.out).at_ (i := 3) (v := .int .i64 q.ba) rfl
                have q4 := (HQ5.out).at_ (i := 4) (v := .bool q.two) rfl
                have q5 := (HQ5.out).at_ (i := 5) (v := .int .i64 q.size) rfl
                have q6 := (HQ5.out).at_ (i := 6) (v := .int .i64 q.level) rfl
                have q7 := (HQ5.out).at_ (i := 7) (v := .int .i64 q.birth) rfl
                have q8 := (HQ5.out).at_ (i := 8) (v := .int .u64 q.s0) rfl
                have q9 := (HQ5.out).at_ (i := 9) (v := .int .u64 q.s1) rfl
                have q10 := (HQ5.out).at_ (i := 10) (v := .int .u64 q.s2) rfl
                have q11 := (HQ5.out).at_ (i := 11) (v := .int .u64 q.s3) rfl
                have z0 := HZ.out.at_ (i := 0) (v := .int .i64 0) rfl
                have f0 := HZ.out.fr 0
                have z1 := HZ.out.at_ (i := 1) (v := .int .i64 0) rfl
                have f1 := HZ.out.fr 1
                have z2 := HZ.out.at_ (i := 2) (v := .int .i64 0) rfl
                have f2 := HZ.out.fr 2
                have z3 := HZ.out.at_ (i := 3) (v := .int .i64 0) rfl
                have f3 := HZ.out.fr 3
                have z4 := HZ.out.at_ (i := 4) (v := .int .i64 0) rfl
                have f4 := HZ.out.fr 4
                have z5 := HZ.out.at_ (i := 5) (v := .bool false) rfl
                have f5 := HZ.out.fr 5
                have z6 := HZ.out.at_ (i := 6) (v := .int .i64 0) rfl
                have f6 := HZ.out.fr 6
                have z7 := HZ.out.at_ (i := 7) (v := .int .i64 0) rfl
                have f7 := HZ.out.fr 7
                have z8 := HZ.out.at_ (i := 8) (v := .int .i64 0) rfl
                have f8 := HZ.out.fr 8
                have z9 := HZ.out.at_ (i := 9) (v := .int .u64 0) rfl
                have f9 := HZ.out.fr 9
                have z10 := HZ.out.at_ (i := 10) (v := .int .u64 0) rfl
                have f10 := HZ.out.fr 10
                have z11 := HZ.out.at_ (i := 11) (v := .int .u64 0) rfl
                have f11 := HZ.out.fr 11
                have z12 := HZ.out.at_ (i := 12) (v := .int .u64 0) rfl
                have f12 := HZ.out.fr 12
                clear hz3
                go_wp2_with fail
                refine bodyPost_ret (v := .tuple #[.agg #[.int .i64 v0, .int .i64 q.ag, .int .i64 q.aa, .int .i64 q.bg, .int .i64 q.ba, .bool q.two, .int .i64 q.size, .int .i64 q.level, .int .i64 q.birth, .int .u64 q.s0, .int .u64 q.s1, .int .u64 q.s2, .int .u64 q.s3], .bool true, .int .i64 0]) (by simp [results, Tryz.results56, go_sem, hw3, z0, z1, z2, z3, z4, z5, z6, z7, z8, z9, z10, z11, z12]) rfl ⟨by rw [he.out], ?_⟩
                repeat (first | (with_reducible exact hbw) | (with_reducible refine keep_alloc ?_ _) | (with_reducible refine below_drewN ?_ _) | (with_reducible refine below_set ?_ _ _ _ (Nat.le_refl _)))
              | false =>
                have he : Hid (rnV (rnD s) = .tuple #[.agg #[.int .i64 0, .int .i64 0, .int .i64 0, .int .i64 0, .int .i64 0, .bool false, .int .i64 0, .int .i64 0, .int .i64 0, .int .u64 0, .int .u64 0, .int .u64 0, .int .u64 0], .bool false, .int .i64 3]) := by
                  unfold Hid; rw [HD.out, if_neg (fun h => h rfl), if_neg (by rw [hz3]; simp)]; rfl
                have z0 := HZ.out.at_ (i := 0) (v := .int .i64 0) rfl
                have f0 := HZ.out.fr 0
                have z1 := HZ.out.at_ (i := 1) (v := .int .i64 0) rfl
                have f1 := HZ.out.fr 1
                have z2 := HZ.out.at_ (i := 2) (v := .int .i64 0) rfl
                have f2 := HZ.out.fr 2
                have z3 := HZ.out.at_ (i := 3) (v := .int .i64 0) rfl
                have f3 := HZ.out.fr 3
                have z4 := HZ.out.at_ (i := 4) (v := .int .i64 0) rfl
                have f4 := HZ.out.fr 4
                have z5 := HZ.out.at_ (i := 5) (v := .bool false) rfl
                have f5 := HZ.out.fr 5
                have z6 := HZ.out.at_ (i := 6) (v := .int .i64 0) rfl
                have f6 := HZ.out.fr 6
                have z7 := HZ.out.at_ (i := 7) (v := .int .i64 0) rfl
                have f7 := HZ.out.fr 7
                have z8 := HZ.out.at_ (i := 8) (v := .int .i64 0) rfl
                have f8 := HZ.out.fr 8
                have z9 := HZ.out.at_ (i := 9) (v := .int .u64 0) rfl
                have f9 := HZ.out.fr 9
                have z10 := HZ.out.at_ (i := 10) (v := .int .u64 0) rfl
                have f10 := HZ.out.fr 10
                have z11 := HZ.out.at_ (i := 11) (v := .int .u64 0) rfl
                have f11 := HZ.out.fr 11
                have z12 := HZ.out.at_ (i := 12) (v := .int .u64 0) rfl
                have f12 := HZ.out.fr 12
                clear hz3
                go_wp2_with fail
                refine bodyPost_ret (v := .tuple #[.agg #[.int .i64 0, .int .i64 0, .int .i64 0, .int .i64 0, .int .i64 0, .bool false, .int .i64 0, .int .i64 0, .int .i64 0, .int .u64 0, .int .u64 0, .int .u64 0, .int .u64 0], .bool false, .int .i64 (3)]) (by simp [results, Tryz.results56, go_sem, hw3, z0, z1, z2, z3, z4, z5, z6, z7, z8, z9, z10, z11, z12]) rfl ⟨by rw [he.out], ?_⟩
                repeat (first | (with_reducible exact hbw) | (with_reducible refine keep_alloc ?_ _) | (with_reducible refine below_drewN ?_ _) | (with_reducible refine below_set ?_ _ _ _ (Nat.le_refl _)))
            · have he : Hid (rnV (rnD s) = .tuple #[.agg #[.int .i64 0, .int .i64 0, .int .i64 0, .int .i64 0, .int .i64 0, .bool false, .int .i64 0, .int .i64 0, .int .i64 0, .int .u64 0, .int .u64 0, .int .u64 0, .int .u64 0], .bool false, .int .i64 er]) := by
                unfold Hid; rw [HD.out, if_pos her0]; rfl
              have hqe : (er != 0) = true := by simpa using her0
              have hbw := HZ4.out.2
              have HZ := Lib.hid HZ4.out.1
              have hw3 := HZ4.out.1.lt
              have z0 := HZ.out.at_ (i := 0) (v := .int .i64 0) rfl
              have f0 := HZ.out.fr 0
              have z1 := HZ.out.at_ (i := 1) (v := .int .i64 0) rfl
              have f1 := HZ.out.fr 1
              have z2 := HZ.out.at_ (i := 2) (v := .int .i64 0) rfl
              have f2 := HZ.out.fr 2
              have z3 := HZ.out.at_ (i := 3) (v := .int .i64 0) rfl
              have f3 := HZ.out.fr 3
              have z4 := HZ.out.at_ (i := 4) (v := .int .i64 0) rfl
              have f4 := HZ.out.fr 4
              have z5 := HZ.out.at_ (i := 5) (v := .bool false) rfl
              have f5 := HZ.out.fr 5
              have z6 := HZ.out.at_ (i := 6) (v := .int .i64 0) rfl
              have f6 := HZ.out.fr 6
              have z7 := HZ.out.at_ (i := 7) (v := .int .i64 0) rfl
              have f7 := HZ.out.fr 7
              have z8 := HZ.out.at_ (i := 8) (v := .int .i64 0) rfl
              have f8 := HZ.out.fr 8
              have z9 := HZ.out.at_ (i := 9) (v := .int .u64 0) rfl
              have f9 := HZ.out.fr 9
              have z10 := HZ.out.at_ (i := 10) (v := .int .u64 0) rfl
              have f10 := HZ.out.fr 10
              have z11 := HZ.out.at_ (i := 11) (v := .int .u64 0) rfl
              have f11 := HZ.out.fr 11
              have z12 := HZ.out.at_ (i := 12) (v := .int .u64 0) rfl
              have f12 := HZ.out.fr 12
              clear her0
              go_wp2_with fail
              refine bodyPost_ret (v := .tuple #[.agg #[.int .i64 0, .int .i64 0, .int .i64 0, .int .i64 0, .int .i64 0, .bool false, .int .i64 0, .int .i64 0, .int .i64 0, .int .u64 0, .int .u64 0, .int .u64 0, .int .u64 0], .bool false, .int .i64 (er)]) (by simp [results, Tryz.results56, go_sem, hw3, z0, z1, z2, z3, z4, z5, z6, z7, z8, z9, z10, z11, z12]) rfl ⟨by rw [he.out], ?_⟩
              repeat (first | (with_reducible exact hbw) | (with_reducible refine keep_alloc ?_ _) | (with_reducible refine below_drewN ?_ _) | (with_reducible refine below_set ?_ _ _ _ (Nat.le_refl _)))
          · have he : Hid (rnV (rnD s) = .tuple #[.agg #[.int .i64 0, .int .i64 0, .int .i64 0, .int .i64 0, .int .i64 0, .bool false, .int .i64 0, .int .i64 0, .int .i64 0, .int .u64 0, .int .u64 0, .int .u64 0, .int .u64 0], .bool false, .int .i64 3]) := by unfold Hid; rw [hD.out, if_neg Bool.false_ne_true, if_neg hg0, if_pos h81]; rfl
            have hne : ((v1 : Int) != 1) = true := by rw [bne_iff_ne]; omega
            have z0 := HZ.out.at_ (i := 0) (v := .int .i64 0) rfl
            have f0 := HZ.out.fr 0
            have z1 := HZ.out.at_ (i := 1) (v := .int .i64 0) rfl
            have f1 := HZ.out.fr 1
            have z2 := HZ.out.at_ (i := 2) (v := .int .i64 0) rfl
            have f2 := HZ.out.fr 2
            have z3 := HZ.out.at_ (i := 3) (v := .int .i64 0) rfl
            have f3 := HZ.out.fr 3
            have z4 := HZ.out.at_ (i := 4) (v := .int .i64 0) rfl
            have f4 := HZ.out.fr 4
            have z5 := HZ.out.at_ (i := 5) (v := .bool false) rfl
            have f5 := HZ.out.fr 5
            have z6 := HZ.out.at_ (i := 6) (v := .int .i64 0) rfl
            have f6 := HZ.out.fr 6
            have z7 := HZ.out.at_ (i := 7) (v := .int .i64 0) rfl
            have f7 := HZ.out.fr 7
            have z8 := HZ.out.at_ (i := 8) (v := .int .i64 0) rfl
            have f8 := HZ.out.fr 8
            have z9 := HZ.out.at_ (i := 9) (v := .int .u64 0) rfl
            have f9 := HZ.out.fr 9
            have z10 := HZ.out.at_ (i := 10) (v := .int .u64 0) rfl
            have f10 := HZ.out.fr 10
            have z11 := HZ.out.at_ (i := 11) (v := .int .u64 0) rfl
            have f11 := HZ.out.fr 11
            have z12 := HZ.out.at_ (i := 12) (v := .int .u64 0) rfl
            have f12 := HZ.out.fr 12
            clear hD hg0 h81
            go_wp2_with fail
            refine bodyPost_ret (v := .tuple #[.agg #[.int .i64 0, .int .i64 0, .int .i64 0, .int .i64 0, .int .i64 0, .bool false, .int .i64 0, .int .i64 0, .int .i64 0, .int .u64 0, .int .u64 0, .int .u64 0, .int .u64 0], .bool false, .int .i64 (3)]) (by simp [results, Tryz.results56, go_sem, hw3, z0, z1, z2, z3, z4, z5, z6, z7, z8, z9, z10, z11, z12]) rfl ⟨by rw [he.out], ?_⟩
            repeat (first | (with_reducible exact hbw) | (with_reducible refine keep_alloc ?_ _) | (with_reducible refine below_drewN ?_ _) | (with_reducible refine below_set ?_ _ _ _ (Nat.le_refl _)))
end Go.Proofs.YtlpbbjjibnbooaaGreatDoor
