/-
  The document's answers: can an uberblock be laid; its bytes.
-/
import Derived.Test.YtlpbbjjibnbooaaGreatDoorJ27
import Derived.Test.YtlpbbjjibnbooaaGreatDoorJ23
namespace Go.Proofs.YtlpbbjjibnbooaaGreatDoor
set_option linter.unusedVariables false
set_option linter.unusedSimpArgs false
open Go.RowKit

set_option maxRecDepth 20000 in
set_option maxHeartbeats 1000000 in
theorem refMay18_any (A : Option Addr) (m c : Nat) (gs : List (Int × Int)) (secs t n : Int) (p : PtrD) (w : World) (hg : GeoAt w A m gs) :
    Calls Tryz.prog 16 #[.agg #[.slice A m c, .int .i64 secs], .int .i64 t, .agg #[.int .i64 n, .int .i64 p.ag, .int .i64 p.aa, .int .i64 p.bg, .int .i64 p.ba, .bool p.two, .int .i64 p.size, .int .i64 p.level, .int .i64 p.birth, .int .u64 p.s0, .int .u64 p.s1, .int .u64 p.s2, .int .u64 p.s3]] w fun e w' => e = .returned (.bool (ubOk gs secs t n p)) ∧ Below w.heap.size w w' := by
  obtain ⟨w2, hw2⟩ : ∃ z, (w.alloc (.cells #[.slice A m c, .int .i64 secs] 24)).alloc (.cells #[.int .i64 n, .int .i64 p.ag, .int .i64 p.aa, .int .i64 p.bg, .int .i64 p.ba, .bool p.two, .int .i64 p.size, .int .i64 p.level, .int .i64 p.birth, .int .u64 p.s0, .int .u64 p.s1, .int .u64 p.s2, .int .u64 p.s3] 33) = z := ⟨_, rfl⟩
  have B1 : Blk w2 w.heap.size 24 #[.slice A m c, .int .i64 secs] := by rw [← hw2]; exact (Blk.new _ _ _).alloc _
  have B2 : Blk w2 (w.heap.size + 1) 33 #[.int .i64 n, .int .i64 p.ag, .int .i64 p.aa, .int .i64 p.bg, .int .i64 p.ba, .bool p.two, .int .i64 p.size, .int .i64 p.level, .int .i64 p.birth, .int .u64 p.s0, .int .u64 p.s1, .int .u64 p.s2, .int .u64 p.s3] := by rw [← hw2]; exact Blk.new2 _ _ _ _
  have D2 : Below w.heap.size w w2 := by rw [← hw2]; exact keep_alloc (keep_alloc (Below.refl _ _) _) _
  obtain ⟨gr, hgr⟩ : ∃ gr, gRight gs secs = gr := ⟨_, rfl⟩
  obtain ⟨ly, hly⟩ : ∃ ly, layOk p = ly := ⟨_, rfl⟩
  obtain ⟨x0, hx0⟩ : ∃ x, intL n = x := ⟨_, rfl⟩
  have HRT : Hid (Calls Tryz.prog 47 #[.agg #[.slice A m c, .int .i64 secs]] w2 fun e w' => e = .returned (.bool gr) ∧ Below w2.heap.size w2 w') := Lib.hid (by
    have := refRight_any A m c gs secs w2 (hg.below D2 (Nat.le_refl _)); rwa [hgr] at this)
  have HMY : Hid (∀ W, Calls Tryz.prog 49 #[.agg #[.int .i64 p.ag, .int .i64 p.aa, .int .i64 p.bg, .int .i64 p.ba, .bool p.two, .int .i64 p.size, .int .i64 p.level, .int .i64 p.birth, .int .u64 p.s0, .int .u64 p.s1, .int .u64 p.s2, .int .u64 p.s3]] W fun e w' => e = .returned (.bool ly) ∧ Below W.heap.size W w') := Lib.hid fun W => by have := may9_any p W; rwa [hly] at this
  have HIN : Hid (∀ W, Calls Tryz.prog 48 #[.int .i64 n] W fun e w' => e = .returned (str x0) ∧ Below W.heap.size W w') := Lib.hid fun W => by have := refInt_any n W; rwa [hx0] at this
  have hxe : x0.isEmpty = !decide (0 ≤ n ∧ n ≤ 4611686018427387903) := by
    rw [← hx0]
    unfold intL
    by_cases h : 0 ≤ n ∧ n ≤ 4611686018427387903
    · rw [if_pos h, decide_eq_true h, List.isEmpty_eq_false_iff.2 (layL_ne (by omega))]; rfl
    · rw [if_neg h, decide_eq_false h]; rfl
  have HV : Hid (ubOk gs secs t n p = (gr && (decide (1 ≤ t) && (decide (t ≤ 4294967295) && (!x0.isEmpty && ly))))) := Lib.hid (by unfold ubOk nodeOk; rw [hgr, hly, hxe, Bool.not_not])
  have HB := Lib.hid (And.intro B1 (And.intro B2 D2))
  have HW2 := Lib.hid hw2
  have hxx : (x0 == []) = x0.isEmpty := by cases x0 <;> rfl
  have hxn : (x0 != []) = !x0.isEmpty := by cases x0 <;> rfl
  obtain ⟨xe, hxe2⟩ : ∃ xe, x0.isEmpty = xe := ⟨_, rfl⟩
  rw [hxe2] at HV hxx hxn
  have u0 := (B2).at_ (i := 0) (v := .int .i64 n) rfl
  have u1 := (B2).at_ (i := 1) (v := .int .i64 p.ag) rfl
  have u2 := (B2).at_ (i := 2) (v := .int .i64 p.aa) rfl
  have u3 := (B2).at_ (i := 3) (v := .int .i64 p.bg) rfl
  have u4 := (B2).at_ (i := 4) (v := .int .i64 p.ba) rfl
  have u5 := (B2).at_ (i := 5) (v := .bool p.two) rfl
  have u6 := (B2).at_ (i := 6) (v := .int .i64 p.size) rfl
  have u7 := (B2).at_ (i := 7) (v := .int .i64 p.level) rfl
  have u8 := (B2).at_ (i := 8) (v := .int .i64 p.birth) rfl
  have u9 := (B2).at_ (i := 9) (v := .int .u64 p.s0) rfl
  have u10 := (B2).at_ (i := 10) (v := .int .u64 p.s1) rfl
  have u11 := (B2).at_ (i := 11) (v := .int .u64 p.s2) rfl
  have u12 := (B2).at_ (i := 12) (v := .int .u64 p.s3) rfl
  have g0 := B1.at_ (i := 0) (v := .slice A m c) rfl
  have g1 := B1.at_ (i := 1) (v := .int .i64 secs) rfl
  rw [← hw2] at g0 g1
  clear hg B1 B2 D2 hgr hly hx0 hxe hw2
  go_enter Tryz.func16, Tryz.ntmps16
  go_wp2_with fail
  rw [HW2.out]
  refine HRT.out.mono ?_
  rintro e w3 ⟨rfl, hb3⟩
  have HB3 := Lib.hid (And.intro (HB.out.2.1.below hb3 HB.out.2.1.lt) (keep_below hb3 HB.out.2.2))
  clear g0 g1 u0 u1 u2 u3 u4 u5 u6 u7 u8 u9 u10 u11 u12 hb3
  cases gr with
  | false =>
    go_wp2_with fail
    go_ret
    exact ⟨by rw [HV.out]; rfl, HB3.out.2⟩
  | true =>
    by_cases h1 : 1 ≤ t
    · have hd1 : decide (1 ≤ t) = true := decide_eq_true h1
      by_cases h2 : t ≤ 4294967295
      · have hd2 : decide (t ≤ 4294967295) = true := decide_eq_true h2
        rw [hd1, hd2] at HV
        have u0 := (HB3.out.1).at_ (i := 0) (v := .int .i64 n) rfl
        have u1 := (HB3.out.1).at_ (i := 1) (v := .int .i64 p.ag) rfl
        have u2 := (HB3.out.1).at_ (i := 2) (v := .int .i64 p.aa) rfl
        have u3 := (HB3.out.1).at_ (i := 3) (v := .int .i64 p.bg) rfl
        have u4 := (HB3.out.1).at_ (i := 4) (v := .int .i64 p.ba) rfl
        have u5 := (HB3.out.1).at_ (i := 5) (v := .bool p.two) rfl
        have u6 := (HB3.out.1).at_ (i := 6) (v := .int .i64 p.size) rfl
        have u7 := (HB3.out.1).at_ (i := 7) (v := .int .i64 p.level) rfl
        have u8 := (HB3.out.1).at_ (i := 8) (v := .int .i64 p.birth) rfl
        have u9 := (HB3.out.1).at_ (i := 9) (v := .int .u64 p.s0) rfl
        have u10 := (HB3.out.1).at_ (i := 10) (v := .int .u64 p.s1) rfl
        have u11 := (HB3.out.1).at_ (i := 11) (v := .int .u64 p.s2) rfl
        have u12 := (HB3.out.1).at_ (i := 12) (v := .int .u64 p.s3) rfl
        clear h1 h2
        go_wp2_with fail
        refine (HIN.out w3).mono ?_
        rintro e w4 ⟨rfl, hb4⟩
        have HB4 := Lib.hid (And.intro (HB3.out.1.below hb4 HB3.out.1.lt) (keep_below hb4 HB3.out.2))
        clear u0 u1 u2 u3 u4 u5 u6 u7 u8 u9 u10 u11 u12 hb4
        cases xe with
        | true =>
          go_wp2_with fail
          go_ret
          exact ⟨by rw [HV.out]; rfl, HB4.out.2⟩
        | false =>
          have u0 := (HB4.out.1).at_ (i := 0) (v := .int .i64 n) rfl
          have u1 := (HB4.out.1).at_ (i := 1) (v := .int .i64 p.ag) rfl
          have u2 := (HB4.out.1).at_ (i := 2) (v := .int .i64 p.aa) rfl
          have u3 := (HB4.out.1).at_ (i := 3) (v := .int .i64 p.bg) rfl
          have u4 := (HB4.out.1).at_ (i := 4) (v := .int .i64 p.ba) rfl
          have u5 := (HB4.out.1).at_ (i := 5) (v := .bool p.two) rfl
          have u6 := (HB4.out.1).at_ (i := 6) (v := .int .i64 p.size) rfl
          have u7 := (HB4.out.1).at_ (i := 7) (v := .int .i64 p.level) rfl
          have u8 := (HB4.out.1).at_ (i := 8) (v := .int .i64 p.birth) rfl
          have u9 := (HB4.out.1).at_ (i := 9) (v := .int .u64 p.s0) rfl
          have u10 := (HB4.out.1).at_ (i := 10) (v := .int .u64 p.s1) rfl
          have u11 := (HB4.out.1).at_ (i := 11) (v := .int .u64 p.s2) rfl
          have u12 := (HB4.out.1).at_ (i := 12) (v := .int .u64 p.s3) rfl
          go_wp2_with fail
          refine (HMY.out w4).mono ?_
          rintro e w5 ⟨rfl, hb5⟩
          have HB5 := Lib.hid (keep_below hb5 HB4.out.2)
          clear u0 u1 u2 u3 u4 u5 u6 u7 u8 u9 u10 u11 u12 hb5
          cases ly with
          | true =>
            go_wp2_with fail
            go_ret
            exact ⟨by rw [HV.out]; rfl, HB5.out⟩
          | false =>
            go_wp2_with fail
            go_ret
            exact ⟨by rw [HV.out]; rfl, HB5.out⟩
      · have hd2 : decide (t ≤ 4294967295) = false := decide_eq_false h2
        rw [hd1, hd2] at HV
        clear h1 h2
        go_wp2_with fail
        go_ret
        exact ⟨by rw [HV.out]; rfl, HB3.out.2⟩
    · have hd1 : decide (1 ≤ t) = false := decide_eq_false h1
      rw [hd1] at HV
      clear h1
      go_wp2_with fail
      go_ret
      exact ⟨by rw [HV.out]; rfl, HB3.out.2⟩
set_option maxRecDepth 20000 in
set_option maxHeartbeats 1000000 in
theorem refBytes18_any (A : Option Addr) (m c : Nat) (gs : List (Int × Int)) (secs t n : Int) (p : PtrD) (w : World) (hg : GeoAt w A m gs) (op : p.Ok) (hok : ubOk gs secs t n p = true) :
    Calls Tryz.prog 17 #[.agg #[.slice A m c, .int .i64 secs], .int .i64 t, .agg #[.int .i64 n, .int .i64 p.ag, .int .i64 p.aa, .int .i64 p.bg, .int .i64 p.ba, .bool p.two, .int .i64 p.size, .int .i64 p.level, .int .i64 p.birth, .int .u64 p.s0, .int .u64 p.s1, .int .u64 p.s2, .int .u64 p.s3]] w fun e w' => e = .returned (str (ubL gs secs t n p)) ∧ Below w.heap.size w w' := by
  obtain ⟨w2, hw2⟩ : ∃ z, (w.alloc (.cells #[.slice A m c, .int .i64 secs] 24)).alloc (.cells #[.int .i64 n, .int .i64 p.ag, .int .i64 p.aa, .int .i64 p.bg, .int .i64 p.ba, .bool p.two, .int .i64 p.size, .int .i64 p.level, .int .i64 p.birth, .int .u64 p.s0, .int .u64 p.s1, .int .u64 p.s2, .int .u64 p.s3] 33) = z := ⟨_, rfl⟩
  have B1 : Blk w2 w.heap.size 24 #[.slice A m c, .int .i64 secs] := by rw [← hw2]; exact (Blk.new _ _ _).alloc _
  have B2 : Blk w2 (w.heap.size + 1) 33 #[.int .i64 n, .int .i64 p.ag, .int .i64 p.aa, .int .i64 p.bg, .int .i64 p.ba, .bool p.two, .int .i64 p.size, .int .i64 p.level, .int .i64 p.birth, .int .u64 p.s0, .int .u64 p.s1, .int .u64 p.s2, .int .u64 p.s3] := by rw [← hw2]; exact Blk.new2 _ _ _ _
  have D2 : Below w.heap.size w w2 := by rw [← hw2]; exact keep_alloc (keep_alloc (Below.refl _ _) _) _
  have HB := Lib.hid (And.intro B1 (And.intro B2 D2))
  have HW2 := Lib.hid hw2
  have HG2 := Lib.hid (hg.below D2 (Nat.le_refl _))
  obtain ⟨hgr, ht1, ht2, hnk⟩ := ubOk_parts hok
  have hT : intL t = layL t.toNat 8 := by unfold intL; rw [if_pos (by omega)]
  have hHl := ubH_len (gs := gs) (secs := secs) (t := t) hnk op
  have hNl := nodeL_len hnk op
  have hGl := gbL_len gs secs
  have hTl := layL_len t.toNat 8
  have HUL : Hid (ubL gs secs t n p = ubH gs secs t n p ++ sum4 (fsum (ubH gs secs t n p))) := Lib.hid rfl
  have hHD : padL (magicL ++ layL t.toNat 8 ++ sum4 (fsum (gbL gs secs)) ++ nodeL n p) 224 = ubH gs secs t n p := rfl
  have hRN := fun W => refNBytes_any n p W op hnk
  obtain ⟨T, hTT⟩ : ∃ T, layL t.toNat 8 = T := ⟨_, rfl⟩
  obtain ⟨GB, hGB⟩ : ∃ GB, gbL gs secs = GB := ⟨_, rfl⟩
  obtain ⟨NL, hNL⟩ : ∃ NL, nodeL n p = NL := ⟨_, rfl⟩
  obtain ⟨HH, hHH⟩ : ∃ HH, ubH gs secs t n p = HH := ⟨_, rfl⟩
  rw [hTT, hGB, hNL, hHH] at hHD
  rw [hTT] at hT hTl
  rw [hGB] at hGl
  rw [hNL] at hNl
  simp only [hNL] at hRN
  rw [hHH] at HUL hHl
  have HRN := Lib.hid hRN
  have HIN : Hid (∀ W, Calls Tryz.prog 48 #[.int .i64 t] W fun e w' => e = .returned (str T) ∧ Below W.heap.size W w') := Lib.hid fun W => by have := refInt_any t W; rwa [hT] at this
  have HGY : Hid (∀ W, Below w2.heap.size w2 W → Calls Tryz.prog 53 #[.agg #[.slice A m c, .int .i64 secs]] W fun e w' => e = .returned (str GB) ∧ Below W.heap.size W w') := Lib.hid fun W hW => by
    have := refBytes5_any A m c gs secs W (HG2.out.below hW (Nat.le_refl _)) hgr; rwa [hGB] at this
  obtain ⟨F1, hF1⟩ : ∃ F, fsum GB = F := ⟨_, rfl⟩
  obtain ⟨F2, hF2⟩ : ∃ F, fsum HH = F := ⟨_, rfl⟩
  have HS1 : Hid (∀ W, Calls Tryz.prog 52 #[str GB] W fun e w' => e = .returned (.agg (fcells F1)) ∧ Below W.heap.size W w') := Lib.hid fun W => by rw [← hF1]; exact refSumU_any GB (by omega) W
  have HS2 : Hid (∀ W, Calls Tryz.prog 52 #[str HH] W fun e w' => e = .returned (.agg (fcells F2)) ∧ Below W.heap.size W w') := Lib.hid fun W => by rw [← hF2]; exact refSumU_any HH (by omega) W
  obtain ⟨K1, hK1⟩ : ∃ K, sum4 F1 = K := ⟨_, rfl⟩
  obtain ⟨K2, hK2⟩ : ∃ K, sum4 F2 = K := ⟨_, rfl⟩
  have HK1 : Hid (∀ W, Calls Tryz.prog 51 #[.agg (fcells F1)] W fun e w' => e = .returned (str K1) ∧ Below W.heap.size W w') := Lib.hid fun W => by have := refSumB_any (fsum GB) (fsum_lt GB) W; rwa [hF1, hK1] at this
  have HK2 : Hid (∀ W, Calls Tryz.prog 51 #[.agg (fcells F2)] W fun e w' => e = .returned (str K2) ∧ Below W.heap.size W w') := Lib.hid fun W => by have := refSumB_any (fsum HH) (fsum_lt HH) W; rwa [hF2, hK2] at this
  have hk1 : K1.length = 32 := by rw [← hK1]; exact sum4_len _
  have hk2 : K2.length = 32 := by rw [← hK2]; exact sum4_len _
  rw [hF1, hK1] at hHD
  rw [hF2, hK2] at HUL
  have hml : magicL.length = 8 := rfl
  have harg : Value.string (((({ data := #[112, 111, 108, 100, 101, 114, 48, 49] } : ByteArray) ++ { data := T.toArray }) ++ { data := K1.toArray }) ++ { data := NL.toArray }) = str (magicL ++ T ++ K1 ++ NL) := by
    rw [show ({ data := #[112, 111, 108, 100, 101, 114, 48, 49] } : ByteArray) = ⟨magicL.toArray⟩ from rfl, ba_app, ba_app, ba_app]
  have HPD : Hid (∀ W, Calls Tryz.prog 50 #[.string (((({ data := #[112, 111, 108, 100, 101, 114, 48, 49] } : ByteArray) ++ { data := T.toArray }) ++ { data := K1.toArray }) ++ { data := NL.toArray }), .int .i64 224] W fun e w' => e = .returned (str HH) ∧ Below W.heap.size W w') := Lib.hid fun W => by
    rw [harg]
    have := refPad_any (magicL ++ T ++ K1 ++ NL) 224 W (by rw [List.length_append, List.length_append, List.length_append]; omega)
    rwa [hHD] at this
  have hc4 : ¬ 9223372036854775807 < (ByteArray.mk HH.toArray).size + (ByteArray.mk K2.toArray).size := by simp [ByteArray.size]; omega
  obtain ⟨C, hCd, hCw, hCB, hCK, hCD⟩ := cls_below w2
  have f0 : ∀ W, C W → W.cell? ⟨w.heap.size, 0, none⟩ = some (.slice A m c) := fun W h => keepU (HB.out.1.at_ rfl) (hCB W h)
  have f1 : ∀ W, C W → W.cell? ⟨w.heap.size, 1, none⟩ = some (.int .i64 secs) := fun W h => keepU (HB.out.1.at_ rfl) (hCB W h)
  have fn0 : ∀ W, C W → W.cell? ⟨w.heap.size + 1, 0, none⟩ = some (.int .i64 n) := fun W h => keepU (HB.out.2.1.at_ (i := 0) rfl) (hCB W h)
  have fn1 : ∀ W, C W → W.cell? ⟨w.heap.size + 1, 1, none⟩ = some (.int .i64 p.ag) := fun W h => keepU (HB.out.2.1.at_ (i := 1) rfl) (hCB W h)
  have fn2 : ∀ W, C W → W.cell? ⟨w.heap.size + 1, 2, none⟩ = some (.int .i64 p.aa) := fun W h => keepU (HB.out.2.1.at_ (i := 2) rfl) (hCB W h)
  have fn3 : ∀ W, C W → W.cell? ⟨w.heap.size + 1, 3, none⟩ = some (.int .i64 p.bg) := fun W h => keepU (HB.out.2.1.at_ (i := 3) rfl) (hCB W h)
  have fn4 : ∀ W, C W → W.cell? ⟨w.heap.size + 1, 4, none⟩ = some (.int .i64 p.ba) := fun W h => keepU (HB.out.2.1.at_ (i := 4) rfl) (hCB W h)
  have fn5 : ∀ W, C W → W.cell? ⟨w.heap.size + 1, 5, none⟩ = some (.bool p.two) := fun W h => keepU (HB.out.2.1.at_ (i := 5) rfl) (hCB W h)
  have fn6 : ∀ W, C W → W.cell? ⟨w.heap.size + 1, 6, none⟩ = some (.int .i64 p.size) := fun W h => keepU (HB.out.2.1.at_ (i := 6) rfl) (hCB W h)
  have fn7 : ∀ W, C W → W.cell? ⟨w.heap.size + 1, 7, none⟩ = some (.int .i64 p.level) := fun W h => keepU (HB.out.2.1.at_ (i := 7) rfl) (hCB W h)
  have fn8 : ∀ W, C W → W.cell? ⟨w.heap.size + 1, 8, none⟩ = some (.int .i64 p.birth) := fun W h => keepU (HB.out.2.1.at_ (i := 8) rfl) (hCB W h)
  have fn9 : ∀ W, C W → W.cell? ⟨w.heap.size + 1, 9, none⟩ = some (.int .u64 p.s0) := fun W h => keepU (HB.out.2.1.at_ (i := 9) rfl) (hCB W h)
  have fn10 : ∀ W, C W → W.cell? ⟨w.heap.size + 1, 10, none⟩ = some (.int .u64 p.s1) := fun W h => keepU (HB.out.2.1.at_ (i := 10) rfl) (hCB W h)
  have fn11 : ∀ W, C W → W.cell? ⟨w.heap.size + 1, 11, none⟩ = some (.int .u64 p.s2) := fun W h => keepU (HB.out.2.1.at_ (i := 11) rfl) (hCB W h)
  have fn12 : ∀ W, C W → W.cell? ⟨w.heap.size + 1, 12, none⟩ = some (.int .u64 p.s3) := fun W h => keepU (HB.out.2.1.at_ (i := 12) rfl) (hCB W h)
  have HC := Lib.hid hCB
  clear hok hgr ht1 ht2 hnk hT hHl hGl hHD harg hTT hGB hNL hHH hF1 hF2 hK1 hK2 hk2 hml hCw hCD hRN hw2 B1 B2 D2 hg op
  go_enter Tryz.func17, Tryz.ntmps17
  repeat' (first
    | go_values
    | go_skip
    | go_guarded
    | ((fail_if_success (with_reducible refine drawn_mark ?_))
       first
         | go_step
         | go_upon
         | go_back
         | (simp only [Int.not_lt, Int.not_le] at *; go_simp)
         | (go_values <;> (try go_simp))
         | (go_ite <;> go_prune <;> (try go_simp))
         | (split <;> (first | (rename_i hx; exact (hx _ rfl).elim) | go_prune))))
  rw [HW2.out]
  refine wp_region_cls C (by kernel_rfl) (by kernel_rfl) hCd ?_
  repeat (first
    | go_big_quiet_skip
    | (go_big_quiet_want
       go_big_quiet_op
       first
         | go_big_quiet_on
         | (apply Exists.intro
            refine ⟨fun W hW => ?_, ?_⟩
            · first
                | exact rfl
                | exact ⟨rfl, rfl⟩
                | (have e0 := f0 W hW; have e1 := f1 W hW; have e2 := fn0 W hW; have e3 := fn1 W hW; have e4 := fn2 W hW; have e5 := fn3 W hW; have e6 := fn4 W hW; have e7 := fn5 W hW; have e8 := fn6 W hW; have e9 := fn7 W hW; have e10 := fn8 W hW; have e11 := fn9 W hW; have e12 := fn10 W hW; have e13 := fn11 W hW; have e14 := fn12 W hW; simp only [e0, e1, e2, e3, e4, e5, e6, e7, e8, e9, e10, e11, e12, e13, e14, Result.andThen_ok]; done)
                | (have e0 := f0 W hW; have e1 := f1 W hW; have e2 := fn0 W hW; have e3 := fn1 W hW; have e4 := fn2 W hW; have e5 := fn3 W hW; have e6 := fn4 W hW; have e7 := fn5 W hW; have e8 := fn6 W hW; have e9 := fn7 W hW; have e10 := fn8 W hW; have e11 := fn9 W hW; have e12 := fn10 W hW; have e13 := fn11 W hW; have e14 := fn12 W hW; simp only [e0, e1, e2, e3, e4, e5, e6, e7, e8, e9, e10, e11, e12, e13, e14, Result.andThen_ok]; first | exact ⟨trivial, rfl⟩ | exact rfl | exact ⟨rfl, rfl⟩)
                | (first | (with_reducible refine (HIN.out W).mono ?_; rintro e w' ⟨rfl, hb⟩; exact ⟨rfl, hCK _ _ hW hb⟩) | (with_reducible refine (HGY.out W (hCB W hW)).mono ?_; rintro e w' ⟨rfl, hb⟩; exact ⟨rfl, hCK _ _ hW hb⟩) | (with_reducible refine (HS1.out W).mono ?_; rintro e w' ⟨rfl, hb⟩; exact ⟨rfl, hCK _ _ hW hb⟩) | (with_reducible refine (HK1.out W).mono ?_; rintro e w' ⟨rfl, hb⟩; exact ⟨rfl, hCK _ _ hW hb⟩) | (with_reducible refine (HRN.out W).mono ?_; rintro e w' ⟨rfl, hb⟩; exact ⟨rfl, hCK _ _ hW hb⟩) | (with_reducible refine (HPD.out W).mono ?_; rintro e w' ⟨rfl, hb⟩; exact ⟨rfl, hCK _ _ hW hb⟩))
            go_big_quiet_on)))
  refine wpQuiet_nil ?_
  intro w5 hw5
  have HB5 := Lib.hid (keep_below (HC.out w5 hw5) HB.out.2.2)
  clear f0 f1 fn0 fn1 fn2 fn3 fn4 fn5 fn6 fn7 fn8 fn9 fn10 fn11 fn12 hCd hCB hCK hw5 hNl hTl hk1
  go_wp2_with fail
  refine (HS2.out _).mono ?_
  rintro e w6 ⟨rfl, hb6⟩
  have HB6 := Lib.hid (keep_below hb6 HB5.out)
  clear hb6
  go_wp2_with fail
  refine (HK2.out _).mono ?_
  rintro e w7 ⟨rfl, hb7⟩
  have HB7 := Lib.hid (keep_below hb7 HB6.out)
  clear hb7
  go_wp2_with fail
  go_ret
  exact ⟨by rw [HUL.out, ba_app]; rfl, HB7.out⟩
end Go.Proofs.YtlpbbjjibnbooaaGreatDoor
