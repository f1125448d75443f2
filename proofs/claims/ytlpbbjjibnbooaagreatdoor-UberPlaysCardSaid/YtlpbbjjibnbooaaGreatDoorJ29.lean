/-
  The document's answers: an uberblock read.
-/
import Derived.Test.YtlpbbjjibnbooaaGreatDoorJ28
import Derived.Test.YtlpbbjjibnbooaaGreatDoorJ24
import Derived.Deep.DeepCutAuto
namespace Go.Proofs.YtlpbbjjibnbooaaGreatDoor
set_option linter.unusedVariables false
set_option linter.unusedSimpArgs false
open Go.RowKit

abbrev UbD.nodeC (u : UbD) : Array Value := #[.int .i64 u.n, .int .i64 u.p.ag, .int .i64 u.p.aa, .int .i64 u.p.bg, .int .i64 u.p.ba, .bool u.p.two, .int .i64 u.p.size, .int .i64 u.p.level, .int .i64 u.p.birth, .int .u64 u.p.s0, .int .u64 u.p.s1, .int .u64 u.p.s2, .int .u64 u.p.s3]
theorem sum4_injA {x y : Nat × Nat × Nat × Nat} (hx : x.1 < 256 ^ 8 ∧ x.2.1 < 256 ^ 8 ∧ x.2.2.1 < 256 ^ 8 ∧ x.2.2.2 < 256 ^ 8) (hy : y.1 < 256 ^ 8 ∧ y.2.1 < 256 ^ 8 ∧ y.2.2.1 < 256 ^ 8 ∧ y.2.2.2 < 256 ^ 8) (h : sum4 x = sum4 y) : x = y := by
  rw [sum4_eq, sum4_eq] at h
  obtain ⟨a, h⟩ := List.append_inj h (by rw [layL_len, layL_len])
  obtain ⟨b, h⟩ := List.append_inj h (by rw [layL_len, layL_len])
  obtain ⟨c, d⟩ := List.append_inj h (by rw [layL_len, layL_len])
  have e1 := layL_inj hx.1 hy.1 a
  have e2 := layL_inj hx.2.1 hy.2.1 b
  have e3 := layL_inj hx.2.2.1 hy.2.2.1 c
  have e4 := layL_inj hx.2.2.2 hy.2.2.2 d
  obtain ⟨x0, x1, x2, x3⟩ := x
  obtain ⟨y0, y1, y2, y3⟩ := y
  dsimp only at e1 e2 e3 e4
  rw [e1, e2, e3, e4]
theorem sum4_at {l : List UInt8} {x : Nat × Nat × Nat × Nat} (hl : 48 ≤ l.length) (hx : x.1 < 256 ^ 8 ∧ x.2.1 < 256 ^ 8 ∧ x.2.2.1 < 256 ^ 8 ∧ x.2.2.2 < 256 ^ 8) : ((l.drop 16).take 32 == sum4 x) = (sumAt l 16 == x) := by
  have hcut : ∀ (a : Nat), a + 8 ≤ l.length → layL (subN l a 8) 8 = (l.drop a).take 8 := fun a ha => by
    have h1 := layL_leNat ((l.drop a).take 8)
    have h2 : ((l.drop a).take 8).length = 8 := by rw [List.length_take, List.length_drop]; omega
    rw [h2] at h1
    exact h1
  have e1 : (l.drop 16).take 32 = sum4 (sumAt l 16) := by
    rw [sum4_eq]
    unfold sumAt
    dsimp only
    rw [hcut 16 (by omega), hcut 24 (by omega), hcut 32 (by omega), hcut 40 (by omega)]
    have h1 : (l.drop 16).take 32 = (l.drop 16).take 8 ++ ((l.drop 16).drop 8).take 24 := by rw [← List.take_add]
    have h2 : ((l.drop 16).drop 8).take 24 = (l.drop 24).take 8 ++ ((l.drop 24).drop 8).take 16 := by rw [List.drop_drop, ← List.take_add]
    have h3 : ((l.drop 24).drop 8).take 16 = (l.drop 32).take 8 ++ ((l.drop 32).drop 8).take 8 := by rw [List.drop_drop, ← List.take_add]
    rw [h1, h2, h3, List.drop_drop]
  rw [e1]
  by_cases h : sumAt l 16 = x
  · rw [h]; simp
  · have : sum4 (sumAt l 16) ≠ sum4 x := fun e => h (sum4_injA ⟨subN_lt l 16 8, subN_lt l 24 8, subN_lt l 32 8, subN_lt l 40 8⟩ hx e)
    rw [beq_eq_false_iff_ne.2 h, beq_eq_false_iff_ne.2 this]
set_option maxRecDepth 20000 in
set_option maxHeartbeats 4000000 in
theorem refRead18_any (A : Option Addr) (m c : Nat) (gs : List (Int × Int)) (secs : Int) (s : List UInt8) (w : World) (hg : GeoAt w A m gs) (hl : s.length ≤ 9223372036854775807) :
    Calls Tryz.prog 18 #[.agg #[.slice A m c, .int .i64 secs], str s] w fun e w' => e = .returned (.tuple #[.int .i64 (urD gs secs s).1.t, .agg (urD gs secs s).1.nodeC, .int .i64 (urD gs secs s).2]) ∧ Below w.heap.size w w' := by
  have hbz := build_nodeZ13
  obtain ⟨w2, hw2⟩ : ∃ z, (w.alloc (.cells #[.slice A m c, .int .i64 secs] 24)).alloc (.cells #[.int .i64 0, .int .i64 0, .int .i64 0, .int .i64 0, .int .i64 0, .bool false, .int .i64 0, .int .i64 0, .int .i64 0, .int .u64 0, .int .u64 0, .int .u64 0, .int .u64 0] 33) = z := ⟨_, rfl⟩
  have B1 : Blk w2 w.heap.size 24 #[.slice A m c, .int .i64 secs] := by rw [← hw2]; exact (Blk.new _ _ _).alloc _
  have B2 : Blk w2 (w.heap.size + 1) 33 #[.int .i64 0, .int .i64 0, .int .i64 0, .int .i64 0, .int .i64 0, .bool false, .int .i64 0, .int .i64 0, .int .i64 0, .int .u64 0, .int .u64 0, .int .u64 0, .int .u64 0] := by rw [← hw2]; exact Blk.new2 _ _ _ _
  have hbw : Below w.heap.size w w2 := by rw [← hw2]; exact keep_alloc (keep_alloc (Below.refl _ _) _) _
  have HGX := Lib.hid B1
  have HZ := Lib.hid B2
  have HW2 := Lib.hid hw2
  have HG := Lib.hid hg
  have hw3 : w.heap.size + 1 < w2.heap.size := B2.lt
  clear hg
  by_cases h1 : s.length < 256
  · have HE : Hid (urD gs secs s = (ubZ, 2)) := Lib.hid (by unfold urD; rw [if_pos h1])
    have hd : decide ((s.length : Int) < 256) = true := decide_eq_true (by omega)
    have z0 := HZ.out.at_ (i := 0) (v := .int .i64 0) rfl
    have f0 := HZ.out.fr 0
    have z1 := HZ.out.at_ (i := 1) (v := .int .i64 0) rfl
    have f1 := HZ.out.fr 1
    have z2 := HZ.out.at_ (i := 2) (v := .int .i64 0) rfl
    have f2 := HZ.out.fr 2
    have z3 := HZ.out.at_ (i := 3) (v := .int .i64 0) rfl
    have f3 := HZ.out.fr 3
    have z4 := HZ.out.at_ (i := 4) (v := .int .i64 0) rfl
    have f4 := HZ.out.fr 4
    have z5 := HZ.out.at_ (i := 5) (v := .bool false) rfl
    have f5 := HZ.out.fr 5
    have z6 := HZ.out.at_ (i := 6) (v := .int .i64 0) rfl
    have f6 := HZ.out.fr 6
    have z7 := HZ.out.at_ (i := 7) (v := .int .i64 0) rfl
    have f7 := HZ.out.fr 7
    have z8 := HZ.out.at_ (i := 8) (v := .int .i64 0) rfl
    have f8 := HZ.out.fr 8
    have z9 := HZ.out.at_ (i := 9) (v := .int .u64 0) rfl
    have f9 := HZ.out.fr 9
    have z10 := HZ.out.at_ (i := 10) (v := .int .u64 0) rfl
    have f10 := HZ.out.fr 10
    have z11 := HZ.out.at_ (i := 11) (v := .int .u64 0) rfl
    have f11 := HZ.out.fr 11
    have z12 := HZ.out.at_ (i := 12) (v := .int .u64 0) rfl
    have f12 := HZ.out.fr 12
    clear h1 hl B1 B2 HGX HZ
    go_enter Tryz.func18, Tryz.ntmps18
    go_wp2_with fail
    refine bodyPost_ret (v := .tuple #[.int .i64 0, .agg #[.int .i64 0, .int .i64 0, .int .i64 0, .int .i64 0, .int .i64 0, .bool false, .int .i64 0, .int .i64 0, .int .i64 0, .int .u64 0, .int .u64 0, .int .u64 0, .int .u64 0], .int .i64 (2)]) (by simp [results, Tryz.f18, go_sem, hw3, z0, z1, z2, z3, z4, z5, z6, z7, z8, z9, z10, z11, z12]) rfl ⟨by rw [HE.out]; rfl, ?_⟩
    repeat (first | (with_reducible exact hbw) | (with_reducible refine keep_alloc ?_ _) | (with_reducible refine below_drewN ?_ _) | (with_reducible refine below_set ?_ _ _ _ (Nat.le_succ _)))
  · by_cases h2 : 256 < s.length
    · have HE : Hid (urD gs secs s = (ubZ, 3)) := Lib.hid (by unfold urD; rw [if_neg h1, if_pos h2])
      have hd : decide ((s.length : Int) < 256) = false := decide_eq_false (by omega)
      have hd2 : decide ((256 : Int) < s.length) = true := decide_eq_true (by omega)
      have z0 := HZ.out.at_ (i := 0) (v := .int .i64 0) rfl
      have f0 := HZ.out.fr 0
      have z1 := HZ.out.at_ (i := 1) (v := .int .i64 0) rfl
      have f1 := HZ.out.fr 1
      have z2 := HZ.out.at_ (i := 2) (v := .int .i64 0) rfl
      have f2 := HZ.out.fr 2
      have z3 := HZ.out.at_ (i := 3) (v := .int .i64 0) rfl
      have f3 := HZ.out.fr 3
      have z4 := HZ.out.at_ (i := 4) (v := .int .i64 0) rfl
      have f4 := HZ.out.fr 4
      have z5 := HZ.out.at_ (i := 5) (v := .bool false) rfl
      have f5 := HZ.out.fr 5
      have z6 := HZ.out.at_ (i := 6) (v := .int .i64 0) rfl
      have f6 := HZ.out.fr 6
      have z7 := HZ.out.at_ (i := 7) (v := .int .i64 0) rfl
      have f7 := HZ.out.fr 7
      have z8 := HZ.out.at_ (i := 8) (v := .int .i64 0) rfl
      have f8 := HZ.out.fr 8
      have z9 := HZ.out.at_ (i := 9) (v := .int .u64 0) rfl
      have f9 := HZ.out.fr 9
      have z10 := HZ.out.at_ (i := 10) (v := .int .u64 0) rfl
      have f10 := HZ.out.fr 10
      have z11 := HZ.out.at_ (i := 11) (v := .int .u64 0) rfl
      have f11 := HZ.out.fr 11
      have z12 := HZ.out.at_ (i := 12) (v := .int .u64 0) rfl
      have f12 := HZ.out.fr 12
      clear h1 h2 hl B1 B2 HGX HZ
      go_enter Tryz.func18, Tryz.ntmps18
      go_wp2_with fail
      refine bodyPost_ret (v := .tuple #[.int .i64 0, .agg #[.int .i64 0, .int .i64 0, .int .i64 0, .int .i64 0, .int .i64 0, .bool false, .int .i64 0, .int .i64 0, .int .i64 0, .int .u64 0, .int .u64 0, .int .u64 0, .int .u64 0], .int .i64 (3)]) (by simp [results, Tryz.f18, go_sem, hw3, z0, z1, z2, z3, z4, z5, z6, z7, z8, z9, z10, z11, z12]) rfl ⟨by rw [HE.out]; rfl, ?_⟩
      repeat (first | (with_reducible exact hbw) | (with_reducible refine keep_alloc ?_ _) | (with_reducible refine below_drewN ?_ _) | (with_reducible refine below_set ?_ _ _ _ (Nat.le_succ _)))
    · have h3 : s.length = 256 := by omega
      have hd : decide ((s.length : Int) < 256) = false := decide_eq_false (by omega)
      have hd2 : decide ((256 : Int) < s.length) = false := decide_eq_false (by omega)
      have hcf := cut_from s h3
      have hct := cut_to s h3
      have hll : (s.take 224).length = 224 := by rw [List.length_take]; omega
      have hU : urD gs secs s = if s.drop 224 ≠ sum4 (fsum (s.take 224)) then (ubZ, 4) else if urGood gs secs (s.take 224) then (⟨subN (s.take 224) 8 8, (rnAt (s.take 224) 48).1, (rnAt (s.take 224) 48).2.1⟩, 0) else (ubZ, 3) := by unfold urD; rw [if_neg h1, if_neg h2]
      have hpart : ∀ a k, a + k ≤ 224 → ((s.take 224).drop a).take k = (s.drop a).take k := fun a k hak => by
        rw [List.drop_take, List.take_take]
        congr 1
        omega
      obtain ⟨l, hle⟩ : ∃ l, s.take 224 = l := ⟨_, rfl⟩
      obtain ⟨sd, hsd⟩ : ∃ sd, s.drop 224 = sd := ⟨_, rfl⟩
      rw [hle] at hll hU hpart
      rw [hsd] at hU
      simp only [hle] at hct
      simp only [hsd] at hcf
      obtain ⟨F, hF⟩ : ∃ F, fsum l = F := ⟨_, rfl⟩
      obtain ⟨K, hK⟩ : ∃ K, sum4 F = K := ⟨_, rfl⟩
      have HS1 : Hid (∀ W, Calls Tryz.prog 52 #[str l] W fun e w' => e = .returned (.agg (fcells F)) ∧ Below W.heap.size W w') := Lib.hid fun W => by rw [← hF]; exact refSumU_any l (by omega) W
      have HK1 : Hid (∀ W, Calls Tryz.prog 51 #[.agg (fcells F)] W fun e w' => e = .returned (str K) ∧ Below W.heap.size W w') := Lib.hid fun W => by have := refSumB_any (fsum l) (fsum_lt l) W; rwa [hF, hK] at this
      rw [hF, hK] at hU
      obtain ⟨t1, ht1⟩ : ∃ t, (l.drop 8).take 8 = t := ⟨_, rfl⟩
      obtain ⟨raw, hraw⟩ : ∃ t, (l.drop 48).take 128 = t := ⟨_, rfl⟩
      obtain ⟨w16, hw16⟩ : ∃ t, (l.drop 16).take 32 = t := ⟨_, rfl⟩
      obtain ⟨T, hT⟩ : ∃ t, l.take 8 = t := ⟨_, rfl⟩
      obtain ⟨zz, hzz⟩ : ∃ t, l.drop 176 = t := ⟨_, rfl⟩
      have HX1 : Hid ((ByteArray.mk s.toArray).extract 8 16 = ⟨t1.toArray⟩) := Lib.hid (cutX (a := 8) (b := 16) t1 (by rw [← ht1, hpart 8 8 (by omega)]))
      have HX2 : Hid ((ByteArray.mk s.toArray).extract 48 176 = ⟨raw.toArray⟩) := Lib.hid (cutX (a := 48) (b := 176) raw (by rw [← hraw, hpart 48 128 (by omega)]))
      have HCC1 : Hid (∀ W, (Instr.slice 9 (str s) none (some (.int .i64 8)) none).run Tryz.prog W = .ok (str T) W) := Lib.hid fun W => cutL_to (b := 8) (by omega) T (by have := hpart 0 8 (by omega); rw [List.drop_zero, List.drop_zero] at this; rw [← hT, this]) W
      have HCC2 : Hid (∀ W, (Instr.slice 9 (str s) (some (.int .i64 16)) (some (.int .i64 48)) none).run Tryz.prog W = .ok (str w16) W) := Lib.hid fun W => cutL (a := 16) (b := 48) (by omega) (by omega) w16 (by rw [← hw16, hpart 16 32 (by omega)]) W
      have HCC3 : Hid (∀ W, (Instr.slice 9 (str s) (some (.int .i64 176)) (some (.int .i64 224)) none).run Tryz.prog W = .ok (str zz) W) := Lib.hid fun W => cutL (a := 176) (b := 224) (by omega) (by omega) zz (by rw [← hpart 176 (224 - 176) (by omega), hzz, List.take_of_length_le (by rw [← hzz, List.length_drop]; omega)]) W
      obtain ⟨v1, hv1⟩ : ∃ v, subN l 8 8 = v := ⟨_, rfl⟩
      have hv1' : leNat t1 = v1 := by rw [← hv1, ← ht1]; rfl
      have hb1 : v1 < 18446744073709551616 := by rw [← hv1]; exact subN_lt l 8 8
      obtain ⟨V, hV⟩ : ∃ V : Int, ((v1 : Nat) : Int) = V := ⟨_, rfl⟩
      have hV0 : 0 ≤ V ∧ V < 18446744073709551616 := by omega
      have HNU : Hid (∀ W, Calls Tryz.prog 55 #[str t1] W fun e w' => e = .returned (.int .u64 V) ∧ W = w') := Lib.hid fun W => by have := numRef_any t1 W (by rw [← ht1]; exact List.length_take_le _ _); rwa [hv1', hV] at this
      obtain ⟨⟨n, q, ok, er⟩, hrn⟩ : ∃ x, rnD raw = x := ⟨_, rfl⟩
      have HRN : Hid (∀ W, Calls Tryz.prog 56 #[str raw] W fun e w' => e = .returned (.tuple #[.agg #[.int .i64 n, .int .i64 q.ag, .int .i64 q.aa, .int .i64 q.bg, .int .i64 q.ba, .bool q.two, .int .i64 q.size, .int .i64 q.level, .int .i64 q.birth, .int .u64 q.s0, .int .u64 q.s1, .int .u64 q.s2, .int .u64 q.s3], .bool ok, .int .i64 er]) ∧ Below W.heap.size W w') := Lib.hid fun W => by
        have := refRN_any raw W (by rw [← hraw, List.length_take]; omega)
        rw [hrn] at this
        exact this
      have hra : rnAt l 48 = (n, q, ok, er) := by unfold rnAt; rw [hraw]; exact hrn
      obtain ⟨GB, hGB⟩ : ∃ GB, gbL gs secs = GB := ⟨_, rfl⟩
      have hGl := gbL_len gs secs
      rw [hGB] at hGl
      obtain ⟨F2, hF2⟩ : ∃ F, fsum GB = F := ⟨_, rfl⟩
      obtain ⟨K2, hK2⟩ : ∃ K, sum4 F2 = K := ⟨_, rfl⟩
      have HSG : Hid (∀ W, Calls Tryz.prog 52 #[str GB] W fun e w' => e = .returned (.agg (fcells F2)) ∧ Below W.heap.size W w') := Lib.hid fun W => by rw [← hF2]; exact refSumU_any GB (by omega) W
      have HSB : Hid (∀ W, Calls Tryz.prog 51 #[.agg (fcells F2)] W fun e w' => e = .returned (str K2) ∧ Below W.heap.size W w') := Lib.hid fun W => by have := refSumB_any (fsum GB) (fsum_lt GB) W; rwa [hF2, hK2] at this
      obtain ⟨nr, hnr⟩ : ∃ nr, nRightB gs secs n q = nr := ⟨_, rfl⟩
      obtain ⟨az, haz⟩ : ∃ az, allZ zz = az := ⟨_, rfl⟩
      have HZE : Hid (∀ W, Calls Tryz.prog 57 #[str zz] W fun e w' => e = .returned (.bool az) ∧ W = w') := Lib.hid fun W => by have := zeros_any zz W (by rw [← hzz, List.length_drop]; omega); rwa [haz] at this
      have HUG : Hid (urGood gs secs l = ((T == [112, 111, 108, 100, 101, 114, 48, 49]) && (decide (1 ≤ V) && (decide (V ≤ 4294967295) && ((w16 == K2) && (decide (er = 0) && (ok && (nr && az)))))))) := Lib.hid (by
        unfold urGood
        rw [hT, hra, hzz, haz, hGB, hv1, hF2, ← sum4_at (by omega) (by rw [← hF2]; exact fsum_lt GB), hw16, hK2, show decide (1 ≤ v1) = decide (1 ≤ V) from decide_eq_decide.2 (by omega), show decide (v1 ≤ 4294967295) = decide (V ≤ 4294967295) from decide_eq_decide.2 (by omega)]
        dsimp only
        rw [hnr]
        rfl)
      obtain ⟨gr, hgr⟩ : ∃ gr, gRight gs secs = gr := ⟨_, rfl⟩
      have HGR := Lib.hid (And.intro hgr (And.intro hGB hnr))
      obtain ⟨C, hCd, hCw, hCB, hCK, hCD⟩ := cls_below w2
      have HC := Lib.hid hCB
      have HU := Lib.hid hU
      have HRA := Lib.hid (And.intro hra (And.intro hv1 hV))
      clear h1 h2 hle hsd hF hK hU hCw hCB hCD B1 B2 hw2 hpart ht1 hraw hw16 hT hzz hv1 hv1' hrn hra hGB hF2 hK2 hnr haz hgr hw3 hV hb1
      go_enter Tryz.func18, Tryz.ntmps18
      go_wp2_with fail
      rw [HW2.out]
      by_cases hck : sd = K
      · have hqe : (sd == K) = true := by simp [hck]
        have HU2 : Hid (urD gs secs s = if urGood gs secs l then (⟨V, n, q⟩, 0) else (ubZ, 3)) := Lib.hid (by rw [HU.out, if_neg (fun h => h hck), HRA.out.1, HRA.out.2.1, HRA.out.2.2])
        clear hck
        refine wp_region_cls C (by kernel_rfl) (by kernel_rfl) hCd ?_
        repeat (first
          | go_big_quiet_skip
          | (go_big_quiet_want
             go_big_quiet_op
             first
               | go_big_quiet_on
               | (apply Exists.intro
                  refine ⟨fun W hW => ?_, ?_⟩
                  · first
                      | exact rfl
                      | exact ⟨rfl, rfl⟩
                      | (have e0 := hcf W hW; have e1 := hct W hW; simp only [e0, e1, Result.andThen_ok]; done)
                      | (have e0 := hcf W hW; have e1 := hct W hW; simp only [e0, e1, Result.andThen_ok]; first | exact ⟨trivial, rfl⟩ | exact rfl | exact ⟨rfl, rfl⟩)
                      | (first | (with_reducible refine (HS1.out W).mono ?_; rintro e w' ⟨rfl, hb⟩; exact ⟨rfl, hCK _ _ hW hb⟩) | (with_reducible refine (HK1.out W).mono ?_; rintro e w' ⟨rfl, hb⟩; exact ⟨rfl, hCK _ _ hW hb⟩))
                  go_big_quiet_on)))
        refine wpQuiet_nil ?_
        intro w3 hw3'
        have hb3 := HC.out w3 hw3'
        have hbw := keep_below hb3 hbw
        have HGX := Lib.hid (HGX.out.below hb3 HGX.out.lt)
        have HZ := Lib.hid (HZ.out.below hb3 HZ.out.lt)
        clear hcf hct hqe hCd hCK hw3' hb3 HS1 HK1
        have hx1 := HX1.out
        go_wp2_with fail
        refine (HNU.out w3).mono ?_
        rintro e w4 ⟨rfl, rfl⟩
        clear hx1
        have hx2 := HX2.out
        go_wp2_with fail
        refine (HRN.out w3).mono ?_
        rintro e w5 ⟨rfl, hb5⟩
        clear hx2
        obtain ⟨w6, hw6⟩ : ∃ z, w5.alloc (.cells #[.int .i64 n, .int .i64 q.ag, .int .i64 q.aa, .int .i64 q.bg, .int .i64 q.ba, .bool q.two, .int .i64 q.size, .int .i64 q.level, .int .i64 q.birth, .int .u64 q.s0, .int .u64 q.s1, .int .u64 q.s2, .int .u64 q.s3] 33) = z := ⟨_, rfl⟩
        have hb6 : Below w3.heap.size w3 w6 := by rw [← hw6]; exact keep_alloc hb5 _
        have HNB0 : w.heap.size + 1 < w5.heap.size := Nat.lt_of_lt_of_le HZ.out.lt hb5.size
        have hN6 : Blk w6 w5.heap.size 33 #[.int .i64 n, .int .i64 q.ag, .int .i64 q.aa, .int .i64 q.bg, .int .i64 q.ba, .bool q.two, .int .i64 q.size, .int .i64 q.level, .int .i64 q.birth, .int .u64 q.s0, .int .u64 q.s1, .int .u64 q.s2, .int .u64 q.s3] := by rw [← hw6]; exact Blk.new _ _ _
        obtain ⟨nb, hnb⟩ : ∃ nb, w5.heap.size = nb := ⟨_, rfl⟩
        rw [hnb] at hN6 HNB0
        have HNB := Lib.hid HNB0
        clear HNB0
        have HN6 := Lib.hid hN6
        have hbw := keep_below hb6 hbw
        have HGX := Lib.hid (HGX.out.below hb6 HGX.out.lt)
        have HZ := Lib.hid (HZ.out.below hb6 HZ.out.lt)
        have hgg := HG.out.below hbw (Nat.le_refl _)
        have HW6 := Lib.hid hw6
        have HNBE := Lib.hid hnb
        have HRT : Hid (Calls Tryz.prog 47 #[.agg #[.slice A m c, .int .i64 secs]] w6 fun e w' => e = .returned (.bool gr) ∧ Below w6.heap.size w6 w') := Lib.hid (by
          have := refRight_any A m c gs secs w6 hgg; rwa [HGR.out.1] at this)
        have k0 := HGX.out.at_ (i := 0) (v := .slice A m c) rfl
        have k1 := HGX.out.at_ (i := 1) (v := .int .i64 secs) rfl
        rw [← hw6] at k0 k1
        clear hb5 hw6 hb6 hN6 hnb hgg
        go_wp2_with fail
        rw [HW6.out, HNBE.out]
        refine HRT.out.mono ?_
        rintro e w7 ⟨rfl, hb7⟩
        have hbw := keep_below hb7 hbw
        have HGX := Lib.hid (HGX.out.below hb7 HGX.out.lt)
        have HZ := Lib.hid (HZ.out.below hb7 HZ.out.lt)
        have HN7 := Lib.hid (HN6.out.below hb7 HN6.out.lt)
        have hgg := HG.out.below hbw (Nat.le_refl _)
        have HGG := Lib.hid hgg
        clear k0 k1 hb7
        have k0 := HGX.out.at_ (i := 0) (v := .slice A m c) rfl
        have k1 := HGX.out.at_ (i := 1) (v := .int .i64 secs) rfl
        go_upto_if 39 with (fail)
        go_cut [11] (fun b wx => b = str GB ∧ Below w7.heap.size w7 wx)
        case first =>
          cases gr with
          | false =>
            have hgb : GB = [] := by rw [← HGR.out.2.1]; unfold gbL; rw [HGR.out.1]; rfl
            go_wp2_with fail
            go_meet
            exact ⟨by rw [hgb], Below.refl _ _⟩
          | true =>
            have HGB5 : Hid (Calls Tryz.prog 53 #[.agg #[.slice A m c, .int .i64 secs]] w7 fun e w' => e = .returned (str GB) ∧ Below w7.heap.size w7 w') := Lib.hid (by
              have := refBytes5_any A m c gs secs w7 hgg HGR.out.1; rwa [HGR.out.2.1] at this)
            go_wp2_with fail
            refine HGB5.out.mono ?_
            rintro e w8 ⟨rfl, hb8⟩
            go_wp2_with fail
            go_meet
            exact ⟨rfl, hb8⟩
        case rest =>
          obtain ⟨rfl, hbc⟩ := hcut
          have hbw := keep_below hbc hbw
          have HGX := Lib.hid (HGX.out.below hbc HGX.out.lt)
          have HZ := Lib.hid (HZ.out.below hbc HZ.out.lt)
          have HNC := Lib.hid (HN7.out.below hbc HN7.out.lt)
          have HGC := Lib.hid (HGG.out.below hbc (Nat.le_refl _))
          clear k0 k1 hgg hbc
          obtain ⟨C, hCd, hCw, hCB, hCK, hCD⟩ := cls_below wc
          have k0 : ∀ W, C W → W.cell? ⟨w.heap.size, 0, none⟩ = some (.slice A m c) := fun W h => keepU (HGX.out.at_ rfl) (hCB W h)
          have k1 : ∀ W, C W → W.cell? ⟨w.heap.size, 1, none⟩ = some (.int .i64 secs) := fun W h => keepU (HGX.out.at_ rfl) (hCB W h)
          have n0 : ∀ W, C W → W.cell? ⟨nb, 0, none⟩ = some (.int .i64 n) := fun W h => keepU (HNC.out.at_ (i := 0) rfl) (hCB W h)
          have n1 : ∀ W, C W → W.cell? ⟨nb, 1, none⟩ = some (.int .i64 q.ag) := fun W h => keepU (HNC.out.at_ (i := 1) rfl) (hCB W h)
          have n2 : ∀ W, C W → W.cell? ⟨nb, 2, none⟩ = some (.int .i64 q.aa) := fun W h => keepU (HNC.out.at_ (i := 2) rfl) (hCB W h)
          have n3 : ∀ W, C W → W.cell? ⟨nb, 3, none⟩ = some (.int .i64 q.bg) := fun W h => keepU (HNC.out.at_ (i := 3) rfl) (hCB W h)
          have n4 : ∀ W, C W → W.cell? ⟨nb, 4, none⟩ = some (.int .i64 q.ba) := fun W h => keepU (HNC.out.at_ (i := 4) rfl) (hCB W h)
          have n5 : ∀ W, C W → W.cell? ⟨nb, 5, none⟩ = some (.bool q.two) := fun W h => keepU (HNC.out.at_ (i := 5) rfl) (hCB W h)
          have n6 : ∀ W, C W → W.cell? ⟨nb, 6, none⟩ = some (.int .i64 q.size) := fun W h => keepU (HNC.out.at_ (i := 6) rfl) (hCB W h)
          have n7 : ∀ W, C W → W.cell? ⟨nb, 7, none⟩ = some (.int .i64 q.level) := fun W h => keepU (HNC.out.at_ (i := 7) rfl) (hCB W h)
          have n8 : ∀ W, C W → W.cell? ⟨nb, 8, none⟩ = some (.int .i64 q.birth) := fun W h => keepU (HNC.out.at_ (i := 8) rfl) (hCB W h)
          have n9 : ∀ W, C W → W.cell? ⟨nb, 9, none⟩ = some (.int .u64 q.s0) := fun W h => keepU (HNC.out.at_ (i := 9) rfl) (hCB W h)
          have n10 : ∀ W, C W → W.cell? ⟨nb, 10, none⟩ = some (.int .u64 q.s1) := fun W h => keepU (HNC.out.at_ (i := 10) rfl) (hCB W h)
          have n11 : ∀ W, C W → W.cell? ⟨nb, 11, none⟩ = some (.int .u64 q.s2) := fun W h => keepU (HNC.out.at_ (i := 11) rfl) (hCB W h)
          have n12 : ∀ W, C W → W.cell? ⟨nb, 12, none⟩ = some (.int .u64 q.s3) := fun W h => keepU (HNC.out.at_ (i := 12) rfl) (hCB W h)
          have HNR : Hid (∀ W, C W → Calls Tryz.prog 11 #[.agg #[.slice A m c, .int .i64 secs], .agg #[.int .i64 n, .int .i64 q.ag, .int .i64 q.aa, .int .i64 q.bg, .int .i64 q.ba, .bool q.two, .int .i64 q.size, .int .i64 q.level, .int .i64 q.birth, .int .u64 q.s0, .int .u64 q.s1, .int .u64 q.s2, .int .u64 q.s3]] W fun e w' => e = .returned (.bool nr) ∧ Below W.heap.size W w') := Lib.hid fun W hW => by
            have := refRight13_any A m c gs secs n q W (HGC.out.below (hCB W hW) (Nat.le_refl _)); rwa [HGR.out.2.2] at this
          have HCX := Lib.hid hCB
          have cc1 := HCC1.out
          have cc2 := HCC2.out
          have cc3 := HCC3.out
          clear hCw hCB
          go_wp2_with fail
          go_cut [80] (fun b wx => b = .bool (!urGood gs secs l) ∧ Below wc.heap.size wc wx)
          case first =>
            cases hwq : (T == [112, 111, 108, 100, 101, 114, 48, 49]) with
            | false =>
              have HE : Hid (urGood gs secs l = false) := Lib.hid ((by rw [HUG.out, hwq]; rfl))
              refine wp_region_cls C (by kernel_rfl) (by kernel_rfl) hCd ?_
              repeat (first
                | go_big_quiet_skip
                | (go_big_quiet_want
                   go_big_quiet_op
                   first
                     | go_big_quiet_on
                     | (apply Exists.intro
                        refine ⟨fun W hW => ?_, ?_⟩
                        · first
                            | exact rfl
                            | exact ⟨rfl, rfl⟩
                            | (have e0 := k0 W hW; have e1 := k1 W hW; have e2 := n0 W hW; have e3 := n1 W hW; have e4 := n2 W hW; have e5 := n3 W hW; have e6 := n4 W hW; have e7 := n5 W hW; have e8 := n6 W hW; have e9 := n7 W hW; have e10 := n8 W hW; have e11 := n9 W hW; have e12 := n10 W hW; have e13 := n11 W hW; have e14 := n12 W hW; simp only [e0, e1, e2, e3, e4, e5, e6, e7, e8, e9, e10, e11, e12, e13, e14, Result.andThen_ok]; done)
                            | (have e0 := k0 W hW; have e1 := k1 W hW; have e2 := n0 W hW; have e3 := n1 W hW; have e4 := n2 W hW; have e5 := n3 W hW; have e6 := n4 W hW; have e7 := n5 W hW; have e8 := n6 W hW; have e9 := n7 W hW; have e10 := n8 W hW; have e11 := n9 W hW; have e12 := n10 W hW; have e13 := n11 W hW; have e14 := n12 W hW; simp only [e0, e1, e2, e3, e4, e5, e6, e7, e8, e9, e10, e11, e12, e13, e14, Result.andThen_ok]; first | exact ⟨trivial, rfl⟩ | exact rfl | exact ⟨rfl, rfl⟩)
                            | (first | (with_reducible refine (HSG.out W).mono ?_; rintro e w' ⟨rfl, hb⟩; exact ⟨rfl, hCK _ _ hW hb⟩) | (with_reducible refine (HSB.out W).mono ?_; rintro e w' ⟨rfl, hb⟩; exact ⟨rfl, hCK _ _ hW hb⟩) | (with_reducible refine (HNR.out W hW).mono ?_; rintro e w' ⟨rfl, hb⟩; exact ⟨rfl, hCK _ _ hW hb⟩) | (with_reducible refine (HZE.out W).mono ?_; rintro e w' ⟨rfl, rfl⟩; exact ⟨rfl, hW⟩))
                        go_big_quiet_on)))
              refine wpQuiet_nil ?_
              intro wz hwz
              clear k0 k1 n0 n1 n2 n3 n4 n5 n6 n7 n8 n9 n10 n11 n12 cc1 cc2 cc3 hCd hCK hCD
              have HWZ := Lib.hid (HCX.out wz hwz)
              clear hwz
              go_wp2_with fail
              go_meet
              exact ⟨by rw [HE.out]; rfl, HWZ.out⟩
            | true =>
              by_cases hv1 : 1 ≤ V
              · have hdv1 : decide (V < 1) = false := decide_eq_false (by omega)
                by_cases hv2 : V ≤ 4294967295
                · have hdv2 : decide (4294967295 < V) = false := decide_eq_false (by omega)
                  cases hse : (w16 == K2) with
                  | false =>
                    have HE : Hid (urGood gs secs l = false) := Lib.hid ((by rw [HUG.out, hse]; simp))
                    clear hv1 hv2
                    refine wp_region_cls C (by kernel_rfl) (by kernel_rfl) hCd ?_
                    repeat (first
                      | go_big_quiet_skip
                      | (go_big_quiet_want
                         go_big_quiet_op
                         first
                           | go_big_quiet_on
                           | (apply Exists.intro
                              refine ⟨fun W hW => ?_, ?_⟩
                              · first
                                  | exact rfl
                                  | exact ⟨rfl, rfl⟩
                                  | (have e0 := k0 W hW; have e1 := k1 W hW; have e2 := n0 W hW; have e3 := n1 W hW; have e4 := n2 W hW; have e5 := n3 W hW; have e6 := n4 W hW; have e7 := n5 W hW; have e8 := n6 W hW; have e9 := n7 W hW; have e10 := n8 W hW; have e11 := n9 W hW; have e12 := n10 W hW; have e13 := n11 W hW; have e14 := n12 W hW; simp only [e0, e1, e2, e3, e4, e5, e6, e7, e8, e9, e10, e11, e12, e13, e14, Result.andThen_ok]; done)
                                  | (have e0 := k0 W hW; have e1 := k1 W hW; have e2 := n0 W hW; have e3 := n1 W hW; have e4 := n2 W hW; have e5 := n3 W hW; have e6 := n4 W hW; have e7 := n5 W hW; have e8 := n6 W hW; have e9 := n7 W hW; have e10 := n8 W hW; have e11 := n9 W hW; have e12 := n10 W hW; have e13 := n11 W hW; have e14 := n12 W hW; simp only [e0, e1, e2, e3, e4, e5, e6, e7, e8, e9, e10, e11, e12, e13, e14, Result.andThen_ok]; first | exact ⟨trivial, rfl⟩ | exact rfl | exact ⟨rfl, rfl⟩)
                                  | (first | (with_reducible refine (HSG.out W).mono ?_; rintro e w' ⟨rfl, hb⟩; exact ⟨rfl, hCK _ _ hW hb⟩) | (with_reducible refine (HSB.out W).mono ?_; rintro e w' ⟨rfl, hb⟩; exact ⟨rfl, hCK _ _ hW hb⟩) | (with_reducible refine (HNR.out W hW).mono ?_; rintro e w' ⟨rfl, hb⟩; exact ⟨rfl, hCK _ _ hW hb⟩) | (with_reducible refine (HZE.out W).mono ?_; rintro e w' ⟨rfl, rfl⟩; exact ⟨rfl, hW⟩))
                              go_big_quiet_on)))
                    refine wpQuiet_nil ?_
                    intro wz hwz
                    clear k0 k1 n0 n1 n2 n3 n4 n5 n6 n7 n8 n9 n10 n11 n12 cc1 cc2 cc3 hCd hCK hCD
                    have HWZ := Lib.hid (HCX.out wz hwz)
                    clear hwz
                    go_wp2_with fail
                    go_meet
                    exact ⟨by rw [HE.out]; rfl, HWZ.out⟩
                  | true =>
                    by_cases her : er = 0
                    · subst her
                      cases ok with
                      | false =>
                        have HE : Hid (urGood gs secs l = false) := Lib.hid ((by rw [HUG.out]; simp))
                        clear hv1 hv2
                        refine wp_region_cls C (by kernel_rfl) (by kernel_rfl) hCd ?_
                        repeat (first
                          | go_big_quiet_skip
                          | (go_big_quiet_want
                             go_big_quiet_op
                             first
                               | go_big_quiet_on
                               | (apply Exists.intro
                                  refine ⟨fun W hW => ?_, ?_⟩
                                  · first
                                      | exact rfl
                                      | exact ⟨rfl, rfl⟩
                                      | (have e0 := k0 W hW; have e1 := k1 W hW; have e2 := n0 W hW; have e3 := n1 W hW; have e4 := n2 W hW; have e5 := n3 W hW; have e6 := n4 W hW; have e7 := n5 W hW; have e8 := n6 W hW; have e9 := n7 W hW; have e10 := n8 W hW; have e11 := n9 W hW; have e12 := n10 W hW; have e13 := n11 W hW; have e14 := n12 W hW; simp only [e0, e1, e2, e3, e4, e5, e6, e7, e8, e9, e10, e11, e12, e13, e14, Result.andThen_ok]; done)
                                      | (have e0 := k0 W hW; have e1 := k1 W hW; have e2 := n0 W hW; have e3 := n1 W hW; have e4 := n2 W hW; have e5 := n3 W hW; have e6 := n4 W hW; have e7 := n5 W hW; have e8 := n6 W hW; have e9 := n7 W hW; have e10 := n8 W hW; have e11 := n9 W hW; have e12 := n10 W hW; have e13 := n11 W hW; have e14 := n12 W hW; simp only [e0, e1, e2, e3, e4, e5, e6, e7, e8, e9, e10, e11, e12, e13, e14, Result.andThen_ok]; first | exact ⟨trivial, rfl⟩ | exact rfl | exact ⟨rfl, rfl⟩)
                                      | (first | (with_reducible refine (HSG.out W).mono ?_; rintro e w' ⟨rfl, hb⟩; exact ⟨rfl, hCK _ _ hW hb⟩) | (with_reducible refine (HSB.out W).mono ?_; rintro e w' ⟨rfl, hb⟩; exact ⟨rfl, hCK _ _ hW hb⟩) | (with_reducible refine (HNR.out W hW).mono ?_; rintro e w' ⟨rfl, hb⟩; exact ⟨rfl, hCK _ _ hW hb⟩) | (with_reducible refine (HZE.out W).mono ?_; rintro e w' ⟨rfl, rfl⟩; exact ⟨rfl, hW⟩))
                                  go_big_quiet_on)))
                        refine wpQuiet_nil ?_
                        intro wz hwz
                        clear k0 k1 n0 n1 n2 n3 n4 n5 n6 n7 n8 n9 n10 n11 n12 cc1 cc2 cc3 hCd hCK hCD
                        have HWZ := Lib.hid (HCX.out wz hwz)
                        clear hwz
                        go_wp2_with fail
                        go_meet
                        exact ⟨by rw [HE.out]; rfl, HWZ.out⟩
                      | true =>
                        cases nr with
                        | false =>
                          have HE : Hid (urGood gs secs l = false) := Lib.hid ((by rw [HUG.out]; simp))
                          clear hv1 hv2
                          refine wp_region_cls C (by kernel_rfl) (by kernel_rfl) hCd ?_
                          repeat (first
                            | go_big_quiet_skip
                            | (go_big_quiet_want
                               go_big_quiet_op
                               first
                                 | go_big_quiet_on
                                 | (apply Exists.intro
                                    refine ⟨fun W hW => ?_, ?_⟩
                                    · first
                                        | exact rfl
                                        | exact ⟨rfl, rfl⟩
                                        | (have e0 := k0 W hW; have e1 := k1 W hW; have e2 := n0 W hW; have e3 := n1 W hW; have e4 := n2 W hW; have e5 := n3 W hW; have e6 := n4 W hW; have e7 := n5 W hW; have e8 := n6 W hW; have e9 := n7 W hW; have e10 := n8 W hW; have e11 := n9 W hW; have e12 := n10 W hW; have e13 := n11 W hW; have e14 := n12 W hW; simp only [e0, e1, e2, e3, e4, e5, e6, e7, e8, e9, e10, e11, e12, e13, e14, Result.andThen_ok]; done)
                                        | (have e0 := k0 W hW; have e1 := k1 W hW; have e2 := n0 W hW; have e3 := n1 W hW; have e4 := n2 W hW; have e5 := n3 W hW; have e6 := n4 W hW; have e7 := n5 W hW; have e8 := n6 W hW; have e9 := n7 W hW; have e10 := n8 W hW; have e11 := n9 W hW; have e12 := n10 W hW; have e13 := n11 W hW; have e14 := n12 W hW; simp only [e0, e1, e2, e3, e4, e5, e6, e7, e8, e9, e10, e11, e12, e13, e14, Result.andThen_ok]; first | exact ⟨trivial, rfl⟩ | exact rfl | exact ⟨rfl, rfl⟩)
                                        | (first | (with_reducible refine (HSG.out W).mono ?_; rintro e w' ⟨rfl, hb⟩; exact ⟨rfl, hCK _ _ hW hb⟩) | (with_reducible refine (HSB.out W).mono ?_; rintro e w' ⟨rfl, hb⟩; exact ⟨rfl, hCK _ _ hW hb⟩) | (with_reducible refine (HNR.out W hW).mono ?_; rintro e w' ⟨rfl, hb⟩; exact ⟨rfl, hCK _ _ hW hb⟩) | (with_reducible refine (HZE.out W).mono ?_; rintro e w' ⟨rfl, rfl⟩; exact ⟨rfl, hW⟩))
                                    go_big_quiet_on)))
                          refine wpQuiet_nil ?_
                          intro wz hwz
                          clear k0 k1 n0 n1 n2 n3 n4 n5 n6 n7 n8 n9 n10 n11 n12 cc1 cc2 cc3 hCd hCK hCD
                          have HWZ := Lib.hid (HCX.out wz hwz)
                          clear hwz
                          go_wp2_with fail
                          go_meet
                          exact ⟨by rw [HE.out]; rfl, HWZ.out⟩
                        | true =>
                          cases az with
                          | false =>
                            have HE : Hid (urGood gs secs l = false) := Lib.hid ((by rw [HUG.out]; simp))
                            clear hv1 hv2
                            refine wp_region_cls C (by kernel_rfl) (by kernel_rfl) hCd ?_
                            repeat (first
                              | go_big_quiet_skip
                              | (go_big_quiet_want
                                 go_big_quiet_op
                                 first
                                   | go_big_quiet_on
                                   | (apply Exists.intro
                                      refine ⟨fun W hW => ?_, ?_⟩
                                      · first
                                          | exact rfl
                                          | exact ⟨rfl, rfl⟩
                                          | (have e0 := k0 W hW; have e1 := k1 W hW; have e2 := n0 W hW; have e3 := n1 W hW; have e4 := n2 W hW; have e5 := n3 W hW; have e6 := n4 W hW; have e7 := n5 W hW; have e8 := n6 W hW; have e9 := n7 W hW; have e10 := n8 W hW; have e11 := n9 W hW; have e12 := n10 W hW; have e13 := n11 W hW; have e14 := n12 W hW; simp only [e0, e1, e2, e3, e4, e5, e6, e7, e8, e9, e10, e11, e12, e13, e14, Result.andThen_ok]; done)
                                          | (have e0 := k0 W hW; have e1 := k1 W hW; have e2 := n0 W hW; have e3 := n1 W hW; have e4 := n2 W hW; have e5 := n3 W hW; have e6 := n4 W hW; have e7 := n5 W hW; have e8 := n6 W hW; have e9 := n7 W hW; have e10 := n8 W hW; have e11 := n9 W hW; have e12 := n10 W hW; have e13 := n11 W hW; have e14 := n12 W hW; simp only [e0, e1, e2, e3, e4, e5, e6, e7, e8, e9, e10, e11, e12, e13, e14, Result.andThen_ok]; first | exact ⟨trivial, rfl⟩ | exact rfl | exact ⟨rfl, rfl⟩)
                                          | (first | (with_reducible refine (HSG.out W).mono ?_; rintro e w' ⟨rfl, hb⟩; exact ⟨rfl, hCK _ _ hW hb⟩) | (with_reducible refine (HSB.out W).mono ?_; rintro e w' ⟨rfl, hb⟩; exact ⟨rfl, hCK _ _ hW hb⟩) | (with_reducible refine (HNR.out W hW).mono ?_; rintro e w' ⟨rfl, hb⟩; exact ⟨rfl, hCK _ _ hW hb⟩) | (with_reducible refine (HZE.out W).mono ?_; rintro e w' ⟨rfl, rfl⟩; exact ⟨rfl, hW⟩))
                                      go_big_quiet_on)))
                            refine wpQuiet_nil ?_
                            intro wz hwz
                            clear k0 k1 n0 n1 n2 n3 n4 n5 n6 n7 n8 n9 n10 n11 n12 cc1 cc2 cc3 hCd hCK hCD
                            have HWZ := Lib.hid (HCX.out wz hwz)
                            clear hwz
                            go_wp2_with fail
                            go_meet
                            exact ⟨by rw [HE.out]; rfl, HWZ.out⟩
                          | true =>
                            have hug : urGood gs secs l = true := by rw [HUG.out, hwq, decide_eq_true hv1, decide_eq_true hv2, hse]; rfl
                            have HE := Lib.hid hug
                            clear hv1 hv2 hug
                            refine wp_region_cls C (by kernel_rfl) (by kernel_rfl) hCd ?_
                            repeat (first
                              | go_big_quiet_skip
                              | (go_big_quiet_want
                                 go_big_quiet_op
                                 first
                                   | go_big_quiet_on
                                   | (apply Exists.intro
                                      refine ⟨fun W hW => ?_, ?_⟩
                                      · first
                                          | exact rfl
                                          | exact ⟨rfl, rfl⟩
                                          | (have e0 := k0 W hW; have e1 := k1 W hW; have e2 := n0 W hW; have e3 := n1 W hW; have e4 := n2 W hW; have e5 := n3 W hW; have e6 := n4 W hW; have e7 := n5 W hW; have e8 := n6 W hW; have e9 := n7 W hW; have e10 := n8 W hW; have e11 := n9 W hW; have e12 := n10 W hW; have e13 := n11 W hW; have e14 := n12 W hW; simp only [e0, e1, e2, e3, e4, e5, e6, e7, e8, e9, e10, e11, e12, e13, e14, Result.andThen_ok]; done)
                                          | (have e0 := k0 W hW; have e1 := k1 W hW; have e2 := n0 W hW; have e3 := n1 W hW; have e4 := n2 W hW; have e5 := n3 W hW; have e6 := n4 W hW; have e7 := n5 W hW; have e8 := n6 W hW; have e9 := n7 W hW; have e10 := n8 W hW; have e11 := n9 W hW; have e12 := n10 W hW; have e13 := n11 W hW; have e14 := n12 W hW; simp only [e0, e1, e2, e3, e4, e5, e6, e7, e8, e9, e10, e11, e12, e13, e14, Result.andThen_ok]; first | exact ⟨trivial, rfl⟩ | exact rfl | exact ⟨rfl, rfl⟩)
                                          | (first | (with_reducible refine (HSG.out W).mono ?_; rintro e w' ⟨rfl, hb⟩; exact ⟨rfl, hCK _ _ hW hb⟩) | (with_reducible refine (HSB.out W).mono ?_; rintro e w' ⟨rfl, hb⟩; exact ⟨rfl, hCK _ _ hW hb⟩) | (with_reducible refine (HNR.out W hW).mono ?_; rintro e w' ⟨rfl, hb⟩; exact ⟨rfl, hCK _ _ hW hb⟩) | (with_reducible refine (HZE.out W).mono ?_; rintro e w' ⟨rfl, rfl⟩; exact ⟨rfl, hW⟩))
                                      go_big_quiet_on)))
                            refine wpQuiet_nil ?_
                            intro wz hwz
                            clear k0 k1 n0 n1 n2 n3 n4 n5 n6 n7 n8 n9 n10 n11 n12 cc1 cc2 cc3 hCd hCK hCD
                            have HWZ := Lib.hid (HCX.out wz hwz)
                            clear hwz
                            go_wp2_with fail
                            go_meet
                            exact ⟨by rw [HE.out]; rfl, HWZ.out⟩
                    · have hne : (er != 0) = true := bne_iff_ne.2 her
                      have HE : Hid (urGood gs secs l = false) := Lib.hid ((by rw [HUG.out, decide_eq_false her]; simp))
                      clear hv1 hv2 her
                      refine wp_region_cls C (by kernel_rfl) (by kernel_rfl) hCd ?_
                      repeat (first
                        | go_big_quiet_skip
                        | (go_big_quiet_want
                           go_big_quiet_op
                           first
                             | go_big_quiet_on
                             | (apply Exists.intro
                                refine ⟨fun W hW => ?_, ?_⟩
                                · first
                                    | exact rfl
                                    | exact ⟨rfl, rfl⟩
                                    | (have e0 := k0 W hW; have e1 := k1 W hW; have e2 := n0 W hW; have e3 := n1 W hW; have e4 := n2 W hW; have e5 := n3 W hW; have e6 := n4 W hW; have e7 := n5 W hW; have e8 := n6 W hW; have e9 := n7 W hW; have e10 := n8 W hW; have e11 := n9 W hW; have e12 := n10 W hW; have e13 := n11 W hW; have e14 := n12 W hW; simp only [e0, e1, e2, e3, e4, e5, e6, e7, e8, e9, e10, e11, e12, e13, e14, Result.andThen_ok]; done)
                                    | (have e0 := k0 W hW; have e1 := k1 W hW; have e2 := n0 W hW; have e3 := n1 W hW; have e4 := n2 W hW; have e5 := n3 W hW; have e6 := n4 W hW; have e7 := n5 W hW; have e8 := n6 W hW; have e9 := n7 W hW; have e10 := n8 W hW; have e11 := n9 W hW; have e12 := n10 W hW; have e13 := n11 W hW; have e14 := n12 W hW; simp only [e0, e1, e2, e3, e4, e5, e6, e7, e8, e9, e10, e11, e12, e13, e14, Result.andThen_ok]; first | exact ⟨trivial, rfl⟩ | exact rfl | exact ⟨rfl, rfl⟩)
                                    | (first | (with_reducible refine (HSG.out W).mono ?_; rintro e w' ⟨rfl, hb⟩; exact ⟨rfl, hCK _ _ hW hb⟩) | (with_reducible refine (HSB.out W).mono ?_; rintro e w' ⟨rfl, hb⟩; exact ⟨rfl, hCK _ _ hW hb⟩) | (with_reducible refine (HNR.out W hW).mono ?_; rintro e w' ⟨rfl, hb⟩; exact ⟨rfl, hCK _ _ hW hb⟩) | (with_reducible refine (HZE.out W).mono ?_; rintro e w' ⟨rfl, rfl⟩; exact ⟨rfl, hW⟩))
                                go_big_quiet_on)))
                      refine wpQuiet_nil ?_
                      intro wz hwz
                      clear k0 k1 n0 n1 n2 n3 n4 n5 n6 n7 n8 n9 n10 n11 n12 cc1 cc2 cc3 hCd hCK hCD
                      have HWZ := Lib.hid (HCX.out wz hwz)
                      clear hwz
                      go_wp2_with fail
                      go_meet
                      exact ⟨by rw [HE.out]; rfl, HWZ.out⟩
                · have hdv2 : decide (4294967295 < V) = true := decide_eq_true (by omega)
                  have HE : Hid (urGood gs secs l = false) := Lib.hid ((by rw [HUG.out, decide_eq_false hv2]; simp))
                  clear hv1 hv2
                  refine wp_region_cls C (by kernel_rfl) (by kernel_rfl) hCd ?_
                  repeat (first
                    | go_big_quiet_skip
                    | (go_big_quiet_want
                       go_big_quiet_op
                       first
                         | go_big_quiet_on
                         | (apply Exists.intro
                            refine ⟨fun W hW => ?_, ?_⟩
                            · first
                                | exact rfl
                                | exact ⟨rfl, rfl⟩
                                | (have e0 := k0 W hW; have e1 := k1 W hW; have e2 := n0 W hW; have e3 := n1 W hW; have e4 := n2 W hW; have e5 := n3 W hW; have e6 := n4 W hW; have e7 := n5 W hW; have e8 := n6 W hW; have e9 := n7 W hW; have e10 := n8 W hW; have e11 := n9 W hW; have e12 := n10 W hW; have e13 := n11 W hW; have e14 := n12 W hW; simp only [e0, e1, e2, e3, e4, e5, e6, e7, e8, e9, e10, e11, e12, e13, e14, Result.andThen_ok]; done)
                                | (have e0 := k0 W hW; have e1 := k1 W hW; have e2 := n0 W hW; have e3 := n1 W hW; have e4 := n2 W hW; have e5 := n3 W hW; have e6 := n4 W hW; have e7 := n5 W hW; have e8 := n6 W hW; have e9 := n7 W hW; have e10 := n8 W hW; have e11 := n9 W hW; have e12 := n10 W hW; have e13 := n11 W hW; have e14 := n12 W hW; simp only [e0, e1, e2, e3, e4, e5, e6, e7, e8, e9, e10, e11, e12, e13, e14, Result.andThen_ok]; first | exact ⟨trivial, rfl⟩ | exact rfl | exact ⟨rfl, rfl⟩)
                                | (first | (with_reducible refine (HSG.out W).mono ?_; rintro e w' ⟨rfl, hb⟩; exact ⟨rfl, hCK _ _ hW hb⟩) | (with_reducible refine (HSB.out W).mono ?_; rintro e w' ⟨rfl, hb⟩; exact ⟨rfl, hCK _ _ hW hb⟩) | (with_reducible refine (HNR.out W hW).mono ?_; rintro e w' ⟨rfl, hb⟩; exact ⟨rfl, hCK _ _ hW hb⟩) | (with_reducible refine (HZE.out W).mono ?_; rintro e w' ⟨rfl, rfl⟩; exact ⟨rfl, hW⟩))
                            go_big_quiet_on)))
                  refine wpQuiet_nil ?_
                  intro wz hwz
                  clear k0 k1 n0 n1 n2 n3 n4 n5 n6 n7 n8 n9 n10 n11 n12 cc1 cc2 cc3 hCd hCK hCD
                  have HWZ := Lib.hid (HCX.out wz hwz)
                  clear hwz
                  go_wp2_with fail
                  go_meet
                  exact ⟨by rw [HE.out]; rfl, HWZ.out⟩
              · have hdv1 : decide (V < 1) = true := decide_eq_true (by omega)
                have HE : Hid (urGood gs secs l = false) := Lib.hid ((by rw [HUG.out, decide_eq_false hv1]; simp))
                clear hv1
                refine wp_region_cls C (by kernel_rfl) (by kernel_rfl) hCd ?_
                repeat (first
                  | go_big_quiet_skip
                  | (go_big_quiet_want
                     go_big_quiet_op
                     first
                       | go_big_quiet_on
                       | (apply Exists.intro
                          refine ⟨fun W hW => ?_, ?_⟩
                          · first
                              | exact rfl
                              | exact ⟨rfl, rfl⟩
                              | (have e0 := k0 W hW; have e1 := k1 W hW; have e2 := n0 W hW; have e3 := n1 W hW; have e4 := n2 W hW; have e5 := n3 W hW; have e6 := n4 W hW; have e7 := n5 W hW; have e8 := n6 W hW; have e9 := n7 W hW; have e10 := n8 W hW; have e11 := n9 W hW; have e12 := n10 W hW; have e13 := n11 W hW; have e14 := n12 W hW; simp only [e0, e1, e2, e3, e4, e5, e6, e7, e8, e9, e10, e11, e12, e13, e14, Result.andThen_ok]; done)
                              | (have e0 := k0 W hW; have e1 := k1 W hW; have e2 := n0 W hW; have e3 := n1 W hW; have e4 := n2 W hW; have e5 := n3 W hW; have e6 := n4 W hW; have e7 := n5 W hW; have e8 := n6 W hW; have e9 := n7 W hW; have e10 := n8 W hW; have e11 := n9 W hW; have e12 := n10 W hW; have e13 := n11 W hW; have e14 := n12 W hW; simp only [e0, e1, e2, e3, e4, e5, e6, e7, e8, e9, e10, e11, e12, e13, e14, Result.andThen_ok]; first | exact ⟨trivial, rfl⟩ | exact rfl | exact ⟨rfl, rfl⟩)
                              | (first | (with_reducible refine (HSG.out W).mono ?_; rintro e w' ⟨rfl, hb⟩; exact ⟨rfl, hCK _ _ hW hb⟩) | (with_reducible refine (HSB.out W).mono ?_; rintro e w' ⟨rfl, hb⟩; exact ⟨rfl, hCK _ _ hW hb⟩) | (with_reducible refine (HNR.out W hW).mono ?_; rintro e w' ⟨rfl, hb⟩; exact ⟨rfl, hCK _ _ hW hb⟩) | (with_reducible refine (HZE.out W).mono ?_; rintro e w' ⟨rfl, rfl⟩; exact ⟨rfl, hW⟩))
                          go_big_quiet_on)))
                refine wpQuiet_nil ?_
                intro wz hwz
                clear k0 k1 n0 n1 n2 n3 n4 n5 n6 n7 n8 n9 n10 n11 n12 cc1 cc2 cc3 hCd hCK hCD
                have HWZ := Lib.hid (HCX.out wz hwz)
                clear hwz
                go_wp2_with fail
                go_meet
                exact ⟨by rw [HE.out]; rfl, HWZ.out⟩
          case rest =>
            obtain ⟨rfl, hbx⟩ := hcut
            rename World => wx
            have hbw := keep_below hbx hbw
            have HZ := Lib.hid (HZ.out.below hbx HZ.out.lt)
            have hw3 : w.heap.size + 1 < wx.heap.size := HZ.out.lt
            clear k0 k1 n0 n1 n2 n3 n4 n5 n6 n7 n8 n9 n10 n11 n12 cc1 cc2 cc3 hCd hCK hCD
            cases hug : urGood gs secs l with
            | false =>
              have HE : Hid (urD gs secs s = (ubZ, 3)) := Lib.hid (by rw [HU2.out, hug]; rfl)
              clear hug hbx
              have z0 := HZ.out.at_ (i := 0) (v := .int .i64 0) rfl
              have f0 := HZ.out.fr 0
              have z1 := HZ.out.at_ (i := 1) (v := .int .i64 0) rfl
              have f1 := HZ.out.fr 1
              have z2 := HZ.out.at_ (i := 2) (v := .int .i64 0) rfl
              have f2 := HZ.out.fr 2
              have z3 := HZ.out.at_ (i := 3) (v := .int .i64 0) rfl
              have f3 := HZ.out.fr 3
              have z4 := HZ.out.at_ (i := 4) (v := .int .i64 0) rfl
              have f4 := HZ.out.fr 4
              have z5 := HZ.out.at_ (i := 5) (v := .bool false) rfl
              have f5 := HZ.out.fr 5
              have z6 := HZ.out.at_ (i := 6) (v := .int .i64 0) rfl
              have f6 := HZ.out.fr 6
              have z7 := HZ.out.at_ (i := 7) (v := .int .i64 0) rfl
              have f7 := HZ.out.fr 7
              have z8 := HZ.out.at_ (i := 8) (v := .int .i64 0) rfl
              have f8 := HZ.out.fr 8
              have z9 := HZ.out.at_ (i := 9) (v := .int .u64 0) rfl
              have f9 := HZ.out.fr 9
              have z10 := HZ.out.at_ (i := 10) (v := .int .u64 0) rfl
              have f10 := HZ.out.fr 10
              have z11 := HZ.out.at_ (i := 11) (v := .int .u64 0) rfl
              have f11 := HZ.out.fr 11
              have z12 := HZ.out.at_ (i := 12) (v := .int .u64 0) rfl
              have f12 := HZ.out.fr 12
              go_wp2_with fail
              refine bodyPost_ret (v := .tuple #[.int .i64 0, .agg #[.int .i64 0, .int .i64 0, .int .i64 0, .int .i64 0, .int .i64 0, .bool false, .int .i64 0, .int .i64 0, .int .i64 0, .int .u64 0, .int .u64 0, .int .u64 0, .int .u64 0], .int .i64 (3)]) (by simp [results, Tryz.f18, go_sem, hw3, z0, z1, z2, z3, z4, z5, z6, z7, z8, z9, z10, z11, z12]) rfl ⟨by rw [HE.out]; rfl, ?_⟩
              repeat (first | (with_reducible exact hbw) | (with_reducible refine keep_alloc ?_ _) | (with_reducible refine below_drewN ?_ _) | (with_reducible refine below_set ?_ _ _ _ (Nat.le_succ _)))
            | true =>
              have HE : Hid (urD gs secs s = (⟨V, n, q⟩, 0)) := Lib.hid (by rw [HU2.out, if_pos hug])
              have hVb : V ≤ 4294967295 := by
                have h1 := hug
                rw [HUG.out] at h1
                simp only [Bool.and_eq_true, decide_eq_true_eq] at h1
                exact h1.2.2.1
              have hwv : IntKind.i64.wrap V = V := by rw [IntKind.wrap_i64] <;> omega
              obtain ⟨S0, hS0⟩ : ∃ S0 : World → Prop, S0 = fun W => W.heap[nb]? = wx.heap[nb]? := ⟨_, rfl⟩
              have hNX := HNC.out.below hbx HNC.out.lt
              have m0 : ∀ W, S0 W → W.cell? ⟨nb, 0, none⟩ = some (.int .i64 n) := fun W h => by rw [hS0] at h; exact (cell_same' h).trans (hNX.at_ (i := 0) rfl)
              have m1 : ∀ W, S0 W → W.cell? ⟨nb, 1, none⟩ = some (.int .i64 q.ag) := fun W h => by rw [hS0] at h; exact (cell_same' h).trans (hNX.at_ (i := 1) rfl)
              have m2 : ∀ W, S0 W → W.cell? ⟨nb, 2, none⟩ = some (.int .i64 q.aa) := fun W h => by rw [hS0] at h; exact (cell_same' h).trans (hNX.at_ (i := 2) rfl)
              have m3 : ∀ W, S0 W → W.cell? ⟨nb, 3, none⟩ = some (.int .i64 q.bg) := fun W h => by rw [hS0] at h; exact (cell_same' h).trans (hNX.at_ (i := 3) rfl)
              have m4 : ∀ W, S0 W → W.cell? ⟨nb, 4, none⟩ = some (.int .i64 q.ba) := fun W h => by rw [hS0] at h; exact (cell_same' h).trans (hNX.at_ (i := 4) rfl)
              have m5 : ∀ W, S0 W → W.cell? ⟨nb, 5, none⟩ = some (.bool q.two) := fun W h => by rw [hS0] at h; exact (cell_same' h).trans (hNX.at_ (i := 5) rfl)
              have m6 : ∀ W, S0 W → W.cell? ⟨nb, 6, none⟩ = some (.int .i64 q.size) := fun W h => by rw [hS0] at h; exact (cell_same' h).trans (hNX.at_ (i := 6) rfl)
              have m7 : ∀ W, S0 W → W.cell? ⟨nb, 7, none⟩ = some (.int .i64 q.level) := fun W h => by rw [hS0] at h; exact (cell_same' h).trans (hNX.at_ (i := 7) rfl)
              have m8 : ∀ W, S0 W → W.cell? ⟨nb, 8, none⟩ = some (.int .i64 q.birth) := fun W h => by rw [hS0] at h; exact (cell_same' h).trans (hNX.at_ (i := 8) rfl)
              have m9 : ∀ W, S0 W → W.cell? ⟨nb, 9, none⟩ = some (.int .u64 q.s0) := fun W h => by rw [hS0] at h; exact (cell_same' h).trans (hNX.at_ (i := 9) rfl)
              have m10 : ∀ W, S0 W → W.cell? ⟨nb, 10, none⟩ = some (.int .u64 q.s1) := fun W h => by rw [hS0] at h; exact (cell_same' h).trans (hNX.at_ (i := 10) rfl)
              have m11 : ∀ W, S0 W → W.cell? ⟨nb, 11, none⟩ = some (.int .u64 q.s2) := fun W h => by rw [hS0] at h; exact (cell_same' h).trans (hNX.at_ (i := 11) rfl)
              have m12 : ∀ W, S0 W → W.cell? ⟨nb, 12, none⟩ = some (.int .u64 q.s3) := fun W h => by rw [hS0] at h; exact (cell_same' h).trans (hNX.at_ (i := 12) rfl)
              have hSw : S0 wx.drew := by rw [hS0]; rfl
              obtain ⟨X2, hX2⟩ : ∃ z, (((((((((((((wx.setCell ⟨w.heap.size + 1, 0, none⟩ (.int .i64 n)).setCell ⟨w.heap.size + 1, 1, none⟩ (.int .i64 q.ag)).setCell ⟨w.heap.size + 1, 2, none⟩ (.int .i64 q.aa)).setCell ⟨w.heap.size + 1, 3, none⟩ (.int .i64 q.bg)).setCell ⟨w.heap.size + 1, 4, none⟩ (.int .i64 q.ba)).setCell ⟨w.heap.size + 1, 5, none⟩ (.bool q.two)).setCell ⟨w.heap.size + 1, 6, none⟩ (.int .i64 q.size)).setCell ⟨w.heap.size + 1, 7, none⟩ (.int .i64 q.level)).setCell ⟨w.heap.size + 1, 8, none⟩ (.int .i64 q.birth)).setCell ⟨w.heap.size + 1, 9, none⟩ (.int .u64 q.s0)).setCell ⟨w.heap.size + 1, 10, none⟩ (.int .u64 q.s1)).setCell ⟨w.heap.size + 1, 11, none⟩ (.int .u64 q.s2)).setCell ⟨w.heap.size + 1, 12, none⟩ (.int .u64 q.s3)) = z := ⟨_, rfl⟩
              have hX2' : wx.setCells (w.heap.size + 1) 0 [.int .i64 n, .int .i64 q.ag, .int .i64 q.aa, .int .i64 q.bg, .int .i64 q.ba, .bool q.two, .int .i64 q.size, .int .i64 q.level, .int .i64 q.birth, .int .u64 q.s0, .int .u64 q.s1, .int .u64 q.s2, .int .u64 q.s3] = X2 := hX2
              have hSd : ∀ W, S0 W → S0 W.drew := by rw [hS0]; exact fun W h => h
              have hSr : S0 X2.drew := hSd _ <| by
                rw [hS0, ← hX2']
                exact sets_far' (w := wx) (b := nb) (g := w.heap.size + 1) (by have := HNB.out; omega) [.int .i64 n, .int .i64 q.ag, .int .i64 q.aa, .int .i64 q.bg, .int .i64 q.ba, .bool q.two, .int .i64 q.size, .int .i64 q.level, .int .i64 q.birth, .int .u64 q.s0, .int .u64 q.s1, .int .u64 q.s2, .int .u64 q.s3] 0 wx
              have HR2 : Hid (Blk X2 (w.heap.size + 1) 33 #[.int .i64 n, .int .i64 q.ag, .int .i64 q.aa, .int .i64 q.bg, .int .i64 q.ba, .bool q.two, .int .i64 q.size, .int .i64 q.level, .int .i64 q.birth, .int .u64 q.s0, .int .u64 q.s1, .int .u64 q.s2, .int .u64 q.s3] ∧ Below w.heap.size w X2) := Lib.hid ⟨by rw [← hX2']; exact (HZ.out).putAll #[.int .i64 n, .int .i64 q.ag, .int .i64 q.aa, .int .i64 q.bg, .int .i64 q.ba, .bool q.two, .int .i64 q.size, .int .i64 q.level, .int .i64 q.birth, .int .u64 q.s0, .int .u64 q.s1, .int .u64 q.s2, .int .u64 q.s3] rfl, by rw [← hX2']; exact below_sets _ _ hbw (Nat.le_succ _)⟩
              have HX2 := Lib.hid hX2
              clear hX2 hX2'
              clear hug hbx hS0 hNX
              have z0 := HZ.out.at_ (i := 0) (v := .int .i64 0) rfl
              have f0 := HZ.out.fr 0
              have z1 := HZ.out.at_ (i := 1) (v := .int .i64 0) rfl
              have f1 := HZ.out.fr 1
              have z2 := HZ.out.at_ (i := 2) (v := .int .i64 0) rfl
              have f2 := HZ.out.fr 2
              have z3 := HZ.out.at_ (i := 3) (v := .int .i64 0) rfl
              have f3 := HZ.out.fr 3
              have z4 := HZ.out.at_ (i := 4) (v := .int .i64 0) rfl
              have f4 := HZ.out.fr 4
              have z5 := HZ.out.at_ (i := 5) (v := .bool false) rfl
              have f5 := HZ.out.fr 5
              have z6 := HZ.out.at_ (i := 6) (v := .int .i64 0) rfl
              have f6 := HZ.out.fr 6
              have z7 := HZ.out.at_ (i := 7) (v := .int .i64 0) rfl
              have f7 := HZ.out.fr 7
              have z8 := HZ.out.at_ (i := 8) (v := .int .i64 0) rfl
              have f8 := HZ.out.fr 8
              have z9 := HZ.out.at_ (i := 9) (v := .int .u64 0) rfl
              have f9 := HZ.out.fr 9
              have z10 := HZ.out.at_ (i := 10) (v := .int .u64 0) rfl
              have f10 := HZ.out.fr 10
              have z11 := HZ.out.at_ (i := 11) (v := .int .u64 0) rfl
              have f11 := HZ.out.fr 11
              have z12 := HZ.out.at_ (i := 12) (v := .int .u64 0) rfl
              have f12 := HZ.out.fr 12
              go_wp2_with fail
              refine wp_region_effA S0 [4] (by kernel_rfl) (by kernel_rfl) (by kernel_rfl) hSw ?_
              refine wpLexE_take 4 (by kernel_rfl) (by kernel_rfl) ?_
              simp only [List.take_succ_cons, List.take_zero, List.drop_succ_cons, List.drop_zero]
              repeat (first
                | go_big_quiet_skip
                | (go_big_quiet_want
                   go_big_quiet_op
                   first
                     | go_big_quiet_on
                     | (apply Exists.intro
                        refine ⟨fun W hW => ?_, ?_⟩
                        · first
                            | exact rfl
                            | exact ⟨rfl, rfl⟩
                            | (have e0 := m0 W hW; have e1 := m1 W hW; have e2 := m2 W hW; have e3 := m3 W hW; have e4 := m4 W hW; have e5 := m5 W hW; have e6 := m6 W hW; have e7 := m7 W hW; have e8 := m8 W hW; have e9 := m9 W hW; have e10 := m10 W hW; have e11 := m11 W hW; have e12 := m12 W hW; simp only [e0, e1, e2, e3, e4, e5, e6, e7, e8, e9, e10, e11, e12, Result.andThen_ok]; done)
                            | (have e0 := m0 W hW; have e1 := m1 W hW; have e2 := m2 W hW; have e3 := m3 W hW; have e4 := m4 W hW; have e5 := m5 W hW; have e6 := m6 W hW; have e7 := m7 W hW; have e8 := m8 W hW; have e9 := m9 W hW; have e10 := m10 W hW; have e11 := m11 W hW; have e12 := m12 W hW; simp only [e0, e1, e2, e3, e4, e5, e6, e7, e8, e9, e10, e11, e12, Result.andThen_ok]; first | exact ⟨trivial, rfl⟩ | exact rfl | exact ⟨rfl, rfl⟩)
                            | (skip)
                        go_big_quiet_on)))
              refine wpQuiet_nil ?_
              show wpLexE _ _ _ _ _ _ _ _ _
              refine wpLexE_eff (by kernel_rfl) rfl ?_
              go_wp2_with fail
              rw [HX2.out]
              refine ⟨rfl, hSr, ?_⟩
              refine wpLexE_take 1 (by kernel_rfl) (by kernel_rfl) ?_
              simp only [List.take_succ_cons, List.take_zero, List.drop_succ_cons, List.drop_zero]
              repeat (first
                | go_big_quiet_skip
                | (go_big_quiet_want
                   go_big_quiet_op
                   first
                     | go_big_quiet_on
                     | (apply Exists.intro
                        refine ⟨fun W hW => ?_, ?_⟩
                        · first
                            | exact rfl
                            | exact ⟨rfl, rfl⟩
                            | (have e0 := m0 W hW; simp only [e0, Result.andThen_ok]; done)
                            | (have e0 := m0 W hW; simp only [e0, Result.andThen_ok]; first | exact ⟨trivial, rfl⟩ | exact rfl | exact ⟨rfl, rfl⟩)
                            | (skip)
                        go_big_quiet_on)))
              refine wpQuiet_nil ?_
              show wpLexE _ _ _ _ _ _ _ _ _
              unfold wpLexE
              clear m0 m1 m2 m3 m4 m5 m6 m7 m8 m9 m10 m11 m12 hSw hSr
              go_wp2_with fail
              have r0 := HR2.out.1.at_ (i := 0) (v := .int .i64 n) rfl
              have r1 := HR2.out.1.at_ (i := 1) (v := .int .i64 q.ag) rfl
              have r2 := HR2.out.1.at_ (i := 2) (v := .int .i64 q.aa) rfl
              have r3 := HR2.out.1.at_ (i := 3) (v := .int .i64 q.bg) rfl
              have r4 := HR2.out.1.at_ (i := 4) (v := .int .i64 q.ba) rfl
              have r5 := HR2.out.1.at_ (i := 5) (v := .bool q.two) rfl
              have r6 := HR2.out.1.at_ (i := 6) (v := .int .i64 q.size) rfl
              have r7 := HR2.out.1.at_ (i := 7) (v := .int .i64 q.level) rfl
              have r8 := HR2.out.1.at_ (i := 8) (v := .int .i64 q.birth) rfl
              have r9 := HR2.out.1.at_ (i := 9) (v := .int .u64 q.s0) rfl
              have r10 := HR2.out.1.at_ (i := 10) (v := .int .u64 q.s1) rfl
              have r11 := HR2.out.1.at_ (i := 11) (v := .int .u64 q.s2) rfl
              have r12 := HR2.out.1.at_ (i := 12) (v := .int .u64 q.s3) rfl
              refine bodyPost_ret (v := .tuple #[.int .i64 V, .agg #[.int .i64 n, .int .i64 q.ag, .int .i64 q.aa, .int .i64 q.bg, .int .i64 q.ba, .bool q.two, .int .i64 q.size, .int .i64 q.level, .int .i64 q.birth, .int .u64 q.s0, .int .u64 q.s1, .int .u64 q.s2, .int .u64 q.s3], .int .i64 0]) (by simp [results, Tryz.f18, go_sem, r0, r1, r2, r3, r4, r5, r6, r7, r8, r9, r10, r11, r12]) rfl ⟨by rw [HE.out], ?_⟩
              first | exact HR2.out.2.drew | exact HR2.out.2
      · have hqe : (sd == K) = false := beq_eq_false_iff_ne.2 hck
        have HE : Hid (urD gs secs s = (ubZ, 4)) := Lib.hid (by rw [HU.out, if_pos hck])
        clear hck
        refine wp_region_cls C (by kernel_rfl) (by kernel_rfl) hCd ?_
        repeat (first
          | go_big_quiet_skip
          | (go_big_quiet_want
             go_big_quiet_op
             first
               | go_big_quiet_on
               | (apply Exists.intro
                  refine ⟨fun W hW => ?_, ?_⟩
                  · first
                      | exact rfl
                      | exact ⟨rfl, rfl⟩
                      | (have e0 := hcf W hW; have e1 := hct W hW; simp only [e0, e1, Result.andThen_ok]; done)
                      | (have e0 := hcf W hW; have e1 := hct W hW; simp only [e0, e1, Result.andThen_ok]; first | exact ⟨trivial, rfl⟩ | exact rfl | exact ⟨rfl, rfl⟩)
                      | (first | (with_reducible refine (HS1.out W).mono ?_; rintro e w' ⟨rfl, hb⟩; exact ⟨rfl, hCK _ _ hW hb⟩) | (with_reducible refine (HK1.out W).mono ?_; rintro e w' ⟨rfl, hb⟩; exact ⟨rfl, hCK _ _ hW hb⟩))
                  go_big_quiet_on)))
        refine wpQuiet_nil ?_
        intro w3 hw3'
        have hb3 := HC.out w3 hw3'
        have hbw := keep_below hb3 hbw
        have HZ := Lib.hid (HZ.out.below hb3 HZ.out.lt)
        have hw3 : w.heap.size + 1 < w3.heap.size := HZ.out.lt
        clear hcf hct hqe hCd hCK hw3' hb3
        have z0 := HZ.out.at_ (i := 0) (v := .int .i64 0) rfl
        have f0 := HZ.out.fr 0
        have z1 := HZ.out.at_ (i := 1) (v := .int .i64 0) rfl
        have f1 := HZ.out.fr 1
        have z2 := HZ.out.at_ (i := 2) (v := .int .i64 0) rfl
        have f2 := HZ.out.fr 2
        have z3 := HZ.out.at_ (i := 3) (v := .int .i64 0) rfl
        have f3 := HZ.out.fr 3
        have z4 := HZ.out.at_ (i := 4) (v := .int .i64 0) rfl
        have f4 := HZ.out.fr 4
        have z5 := HZ.out.at_ (i := 5) (v := .bool false) rfl
        have f5 := HZ.out.fr 5
        have z6 := HZ.out.at_ (i := 6) (v := .int .i64 0) rfl
        have f6 := HZ.out.fr 6
        have z7 := HZ.out.at_ (i := 7) (v := .int .i64 0) rfl
        have f7 := HZ.out.fr 7
        have z8 := HZ.out.at_ (i := 8) (v := .int .i64 0) rfl
        have f8 := HZ.out.fr 8
        have z9 := HZ.out.at_ (i := 9) (v := .int .u64 0) rfl
        have f9 := HZ.out.fr 9
        have z10 := HZ.out.at_ (i := 10) (v := .int .u64 0) rfl
        have f10 := HZ.out.fr 10
        have z11 := HZ.out.at_ (i := 11) (v := .int .u64 0) rfl
        have f11 := HZ.out.fr 11
        have z12 := HZ.out.at_ (i := 12) (v := .int .u64 0) rfl
        have f12 := HZ.out.fr 12
        go_wp2_with fail
        refine bodyPost_ret (v := .tuple #[.int .i64 0, .agg #[.int .i64 0, .int .i64 0, .int .i64 0, .int .i64 0, .int .i64 0, .bool false, .int .i64 0, .int .i64 0, .int .i64 0, .int .u64 0, .int .u64 0, .int .u64 0, .int .u64 0], .int .i64 (4)]) (by simp [results, Tryz.f18, go_sem, hw3, z0, z1, z2, z3, z4, z5, z6, z7, z8, z9, z10, z11, z12]) rfl ⟨by rw [HE.out]; rfl, ?_⟩
        repeat (first | (with_reducible exact hbw) | (with_reducible refine keep_alloc ?_ _) | (with_reducible refine below_drewN ?_ _) | (with_reducible refine below_set ?_ _ _ _ (Nat.le_succ _)))
end Go.Proofs.YtlpbbjjibnbooaaGreatDoor
