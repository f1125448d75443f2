/-
  The statement UberPlays, walked.
-/
import Derived.Test.YtlpbbjjibnbooaaGreatDoorJ30
import Derived.Test.YtlpbbjjibnbooaaGreatDoorJ22
import Derived.Deep.DeepCutAuto
namespace Go.Proofs.YtlpbbjjibnbooaaGreatDoor
set_option linter.unusedVariables false
set_option linter.unusedSimpArgs false
open Go.RowKit

theorem upD_ok {gs : List (Int × Int)} {secs : Int} {aw : List Bool} {t n : Int} {p : PtrD} {ds : List DevD} {N sn m : Nat} (h : DsOk N sn ds) (hl : ds.length = m) : DsOk (N + 4 * m) sn (uwD gs secs aw t n p ds) := by
  unfold uwD
  subst hl
  split
  · exact ubAll_ok h _
  · exact fun d hd =>
      have ⟨a, b, c, e⟩ := h d hd
      ⟨a, b, c, fun k => Nat.le_trans (e k) (by omega)⟩
set_option maxRecDepth 20000 in
set_option maxHeartbeats 8000000 in
theorem uberPlays_any (A : Option Addr) (m c : Nat) (gs : List (Int × Int)) (secs t n : Int) (p : PtrD) (op : p.Ok) (s : List UInt8) (hsl : s.length ≤ 9223372036854775807) {av lv : Value} {al ll : List Bool} (d slot : Int) {w : World} (hg : GeoAt w A m gs) (ha : SlAt w av al.length (boolC al)) (hlo : SlAt w lv ll.length (boolC ll)) :
    Calls Tryz.prog 5 #[.agg #[.slice A m c, .int .i64 secs], .agg #[.int .i64 t, .int .i64 n, .int .i64 p.ag, .int .i64 p.aa, .int .i64 p.bg, .int .i64 p.ba, .bool p.two, .int .i64 p.size, .int .i64 p.level, .int .i64 p.birth, .int .u64 p.s0, .int .u64 p.s1, .int .u64 p.s2, .int .u64 p.s3], str s, av, lv, .int .i64 d, .int .i64 slot] w fun e w' => e = .returned (.bool true) ∧ Below w.heap.size w w' := by
  have hbz := build_ubZ
  obtain ⟨Aa, ca, rfl⟩ := ha.form
  obtain ⟨Al, cl, rfl⟩ := hlo.form
  obtain ⟨w2, hw2⟩ : ∃ z, (w.alloc (.cells #[.slice A m c, .int .i64 secs] 24)).alloc (.cells #[.int .i64 t, .int .i64 n, .int .i64 p.ag, .int .i64 p.aa, .int .i64 p.bg, .int .i64 p.ba, .bool p.two, .int .i64 p.size, .int .i64 p.level, .int .i64 p.birth, .int .u64 p.s0, .int .u64 p.s1, .int .u64 p.s2, .int .u64 p.s3] 35) = z := ⟨_, rfl⟩
  have B1 : Blk w2 w.heap.size 24 #[.slice A m c, .int .i64 secs] := by rw [← hw2]; exact (Blk.new _ _ _).alloc _
  have B2 : Blk w2 (w.heap.size + 1) 35 #[.int .i64 t, .int .i64 n, .int .i64 p.ag, .int .i64 p.aa, .int .i64 p.bg, .int .i64 p.ba, .bool p.two, .int .i64 p.size, .int .i64 p.level, .int .i64 p.birth, .int .u64 p.s0, .int .u64 p.s1, .int .u64 p.s2, .int .u64 p.s3] := by rw [← hw2]; exact Blk.new2 _ _ _ _
  have D2 : Below w.heap.size w w2 := by rw [← hw2]; exact keep_alloc (keep_alloc (Below.refl _ _) _) _
  have HB := Lib.hid (And.intro B1 (And.intro B2 D2))
  have HW2 := Lib.hid hw2
  have HG := Lib.hid (hg.below D2 (Nat.le_refl _))
  have HARG := Lib.hid (And.intro (ha.below D2) (hlo.below D2))
  clear B1 B2 D2 hw2 hg ha hlo
  go_enter Tryz.func5, Tryz.ntmps5
  go_wp2_with fail
  rw [HW2.out]
  refine (awake18_any w2).mono ?_
  rintro e w3 ⟨rfl, hb3⟩
  have HB3 := Lib.hid (And.intro (HB.out.1.below hb3 HB.out.1.lt) (And.intro (HB.out.2.1.below hb3 HB.out.2.1.lt) (keep_below hb3 HB.out.2.2)))
  have HG3 := Lib.hid (HG.out.below hb3 (Nat.le_refl _))
  have HARG3 := Lib.hid (And.intro (HARG.out.1.below hb3) (HARG.out.2.below hb3))
  clear hb3
  by_cases hs3 : 3000 < s.length
  · have hd1 : decide ((3000 : Int) < (s.length : Int)) = true := decide_eq_true (by omega)
    clear hs3 hsl
    go_wp2_with fail
    refine (awake18_any w3).mono ?_
    rintro e w4 ⟨rfl, hb4⟩
    have HB4 := Lib.hid (keep_below hb4 HB3.out.2.2)
    clear hb4
    go_wp2_with fail
    go_ret
    exact ⟨rfl, HB4.out⟩
  have hd1 : decide ((3000 : Int) < (s.length : Int)) = false := decide_eq_false (by omega)
  have g0 := HB3.out.1.at_ (i := 0) (v := .slice A m c) rfl
  have g1 := HB3.out.1.at_ (i := 1) (v := .int .i64 secs) rfl
  by_cases hm : 100 < m
  · have hd : decide ((100 : Int) < (m : Int)) = true := decide_eq_true (by omega)
    clear hm hs3 hsl
    go_wp2_with fail
    refine (awake18_any w3).mono ?_
    rintro e w4 ⟨rfl, hb4⟩
    have HB4 := Lib.hid (keep_below hb4 HB3.out.2.2)
    clear hb4 g0 g1
    go_wp2_with fail
    go_ret
    exact ⟨rfl, HB4.out⟩
  have hd : decide ((100 : Int) < (m : Int)) = false := decide_eq_false (by omega)
  have hub := ubytes_any A m c gs secs t n p w3 HG3.out op
  obtain ⟨bS, hbS⟩ : ∃ bS, ubS gs secs t n p = bS := ⟨_, rfl⟩
  obtain ⟨bE, hbE⟩ : ∃ bE, ubE gs secs t n p = bE := ⟨_, rfl⟩
  rw [hbS, hbE] at hub
  obtain ⟨ok, hok⟩ : ∃ ok, ubOk gs secs t n p = ok := ⟨_, rfl⟩
  have HUB := Lib.hid hub
  have HBS := Lib.hid (And.intro hbS (And.intro hbE hok))
  have HSL : Hid (s.length ≤ 3000) := Lib.hid (by omega)
  have HOP := Lib.hid op
  have u0 := (HB3.out.2.1).at_ (i := 0) (v := .int .i64 t) rfl
  have u1 := (HB3.out.2.1).at_ (i := 1) (v := .int .i64 n) rfl
  have u2 := (HB3.out.2.1).at_ (i := 2) (v := .int .i64 p.ag) rfl
  have u3 := (HB3.out.2.1).at_ (i := 3) (v := .int .i64 p.aa) rfl
  have u4 := (HB3.out.2.1).at_ (i := 4) (v := .int .i64 p.bg) rfl
  have u5 := (HB3.out.2.1).at_ (i := 5) (v := .int .i64 p.ba) rfl
  have u6 := (HB3.out.2.1).at_ (i := 6) (v := .bool p.two) rfl
  have u7 := (HB3.out.2.1).at_ (i := 7) (v := .int .i64 p.size) rfl
  have u8 := (HB3.out.2.1).at_ (i := 8) (v := .int .i64 p.level) rfl
  have u9 := (HB3.out.2.1).at_ (i := 9) (v := .int .i64 p.birth) rfl
  have ua := (HB3.out.2.1).at_ (i := 10) (v := .int .u64 p.s0) rfl
  have ub := (HB3.out.2.1).at_ (i := 11) (v := .int .u64 p.s1) rfl
  have uc := (HB3.out.2.1).at_ (i := 12) (v := .int .u64 p.s2) rfl
  have ud := (HB3.out.2.1).at_ (i := 13) (v := .int .u64 p.s3) rfl
  clear hub hbS hbE hok hm hs3 hsl
  go_wp2_with fail
  refine HUB.out.mono ?_
  rintro e w4 ⟨rfl, hb4⟩
  have HB4 := Lib.hid (And.intro (HB3.out.1.below hb4 HB3.out.1.lt) (And.intro (HB3.out.2.1.below hb4 HB3.out.2.1.lt) (keep_below hb4 HB3.out.2.2)))
  have HG4 := Lib.hid (And.intro (HG3.out.below hb4 (Nat.le_refl _)) (And.intro (HARG3.out.1.below hb4) (HARG3.out.2.below hb4)))
  clear hb4 g0 g1 u0 u1 u2 u3 u4 u5 u6 u7 u8 u9 ua ub uc ud
  have hmy := refMay18_any A m c gs secs t n p w4 HG4.out.1
  rw [HBS.out.2.2] at hmy
  have HMY := Lib.hid hmy
  have g0 := HB4.out.1.at_ (i := 0) (v := .slice A m c) rfl
  have g1 := HB4.out.1.at_ (i := 1) (v := .int .i64 secs) rfl
  have u0 := (HB4.out.2.1).at_ (i := 0) (v := .int .i64 t) rfl
  have u1 := (HB4.out.2.1).at_ (i := 1) (v := .int .i64 n) rfl
  have u2 := (HB4.out.2.1).at_ (i := 2) (v := .int .i64 p.ag) rfl
  have u3 := (HB4.out.2.1).at_ (i := 3) (v := .int .i64 p.aa) rfl
  have u4 := (HB4.out.2.1).at_ (i := 4) (v := .int .i64 p.bg) rfl
  have u5 := (HB4.out.2.1).at_ (i := 5) (v := .int .i64 p.ba) rfl
  have u6 := (HB4.out.2.1).at_ (i := 6) (v := .bool p.two) rfl
  have u7 := (HB4.out.2.1).at_ (i := 7) (v := .int .i64 p.size) rfl
  have u8 := (HB4.out.2.1).at_ (i := 8) (v := .int .i64 p.level) rfl
  have u9 := (HB4.out.2.1).at_ (i := 9) (v := .int .i64 p.birth) rfl
  have ua := (HB4.out.2.1).at_ (i := 10) (v := .int .u64 p.s0) rfl
  have ub := (HB4.out.2.1).at_ (i := 11) (v := .int .u64 p.s1) rfl
  have uc := (HB4.out.2.1).at_ (i := 12) (v := .int .u64 p.s2) rfl
  have ud := (HB4.out.2.1).at_ (i := 13) (v := .int .u64 p.s3) rfl
  clear hmy
  go_wp2_with fail
  refine HMY.out.mono ?_
  rintro e w5 ⟨rfl, hb5⟩
  have HB5 := Lib.hid (And.intro (HB4.out.1.below hb5 HB4.out.1.lt) (And.intro (HB4.out.2.1.below hb5 HB4.out.2.1.lt) (keep_below hb5 HB4.out.2.2)))
  have HG5 := Lib.hid (And.intro (HG4.out.1.below hb5 (Nat.le_refl _)) (And.intro (HG4.out.2.1.below hb5) (HG4.out.2.2.below hb5)))
  clear hb5 g0 g1 u0 u1 u2 u3 u4 u5 u6 u7 u8 u9 ua ub uc ud
  go_upto_region 5 with (fail)
  go_cut [88] (fun b wx => b = .bool false ∧ Below w5.heap.size w5 wx)
  case first =>
    cases ok with
    | false =>
      obtain rfl : bS = [] := by rw [← HBS.out.1]; unfold ubS; rw [HBS.out.2.2]; rfl
      obtain rfl : bE = 1 := by rw [← HBS.out.2.1]; unfold ubE; rw [HBS.out.2.2]; rfl
      go_wp2_with fail
      go_meet
      exact ⟨rfl, Below.refl _ _⟩
    | true =>
      obtain rfl : bE = 0 := by rw [← HBS.out.2.1]; unfold ubE; rw [HBS.out.2.2]; rfl
      have hrb := refBytes18_any A m c gs secs t n p w5 HG5.out.1 HOP.out HBS.out.2.2
      rw [show ubL gs secs t n p = bS by rw [← HBS.out.1]; unfold ubS; rw [HBS.out.2.2]; rfl] at hrb
      have HRB := Lib.hid hrb
      have hse : (bS == bS) = true := by simp
      have hsn : (bS != bS) = false := by simp
      have g0 := HB5.out.1.at_ (i := 0) (v := .slice A m c) rfl
      have g1 := HB5.out.1.at_ (i := 1) (v := .int .i64 secs) rfl
      have u0 := (HB5.out.2.1).at_ (i := 0) (v := .int .i64 t) rfl
      have u1 := (HB5.out.2.1).at_ (i := 1) (v := .int .i64 n) rfl
      have u2 := (HB5.out.2.1).at_ (i := 2) (v := .int .i64 p.ag) rfl
      have u3 := (HB5.out.2.1).at_ (i := 3) (v := .int .i64 p.aa) rfl
      have u4 := (HB5.out.2.1).at_ (i := 4) (v := .int .i64 p.bg) rfl
      have u5 := (HB5.out.2.1).at_ (i := 5) (v := .int .i64 p.ba) rfl
      have u6 := (HB5.out.2.1).at_ (i := 6) (v := .bool p.two) rfl
      have u7 := (HB5.out.2.1).at_ (i := 7) (v := .int .i64 p.size) rfl
      have u8 := (HB5.out.2.1).at_ (i := 8) (v := .int .i64 p.level) rfl
      have u9 := (HB5.out.2.1).at_ (i := 9) (v := .int .i64 p.birth) rfl
      have ua := (HB5.out.2.1).at_ (i := 10) (v := .int .u64 p.s0) rfl
      have ub := (HB5.out.2.1).at_ (i := 11) (v := .int .u64 p.s1) rfl
      have uc := (HB5.out.2.1).at_ (i := 12) (v := .int .u64 p.s2) rfl
      have ud := (HB5.out.2.1).at_ (i := 13) (v := .int .u64 p.s3) rfl
      clear hrb
      go_wp2_with fail
      refine HRB.out.mono ?_
      rintro e w6 ⟨rfl, hb6⟩
      clear g0 g1 u0 u1 u2 u3 u4 u5 u6 u7 u8 u9 ua ub uc ud
      go_wp2_with fail
      go_meet
      exact ⟨rfl, hb6⟩
  case rest =>
    obtain ⟨rfl, hbc⟩ := hcut
    have HBC := Lib.hid (And.intro (HB5.out.1.below hbc HB5.out.1.lt) (And.intro (HB5.out.2.1.below hbc HB5.out.2.1.lt) (keep_below hbc HB5.out.2.2)))
    have HGC := Lib.hid (And.intro (HG5.out.1.below hbc (Nat.le_refl _)) (And.intro (HG5.out.2.1.below hbc) (HG5.out.2.2.below hbc)))
    obtain ⟨⟨⟨rt, rn, rp⟩, re⟩, hR⟩ : ∃ q, urD gs secs s = q := ⟨_, rfl⟩
    have hur := uread_any A m c gs secs s wc HGC.out.1 (by have := HSL.out; omega)
    rw [hR] at hur
    dsimp only [UbD.cells] at hur
    have HUR := Lib.hid hur
    have HR := Lib.hid hR
    have g0 := HBC.out.1.at_ (i := 0) (v := .slice A m c) rfl
    have g1 := HBC.out.1.at_ (i := 1) (v := .int .i64 secs) rfl
    clear hbc hR hur
    go_wp2_with fail
    refine HUR.out.mono ?_
    rintro e w7 ⟨rfl, hb7⟩
    obtain ⟨w8, hw8⟩ : ∃ z, w7.alloc (.cells #[.int .i64 rt, .int .i64 rn, .int .i64 rp.ag, .int .i64 rp.aa, .int .i64 rp.bg, .int .i64 rp.ba, .bool rp.two, .int .i64 rp.size, .int .i64 rp.level, .int .i64 rp.birth, .int .u64 rp.s0, .int .u64 rp.s1, .int .u64 rp.s2, .int .u64 rp.s3] 35) = z := ⟨_, rfl⟩
    have hb8 : Below wc.heap.size wc w8 := by rw [← hw8]; exact keep_alloc hb7 _
    have hR8 : Blk w8 w7.heap.size 35 #[.int .i64 rt, .int .i64 rn, .int .i64 rp.ag, .int .i64 rp.aa, .int .i64 rp.bg, .int .i64 rp.ba, .bool rp.two, .int .i64 rp.size, .int .i64 rp.level, .int .i64 rp.birth, .int .u64 rp.s0, .int .u64 rp.s1, .int .u64 rp.s2, .int .u64 rp.s3] := by rw [← hw8]; exact Blk.new _ _ _
    have HB8 := Lib.hid (And.intro (HBC.out.1.below hb8 HBC.out.1.lt) (And.intro (HBC.out.2.1.below hb8 HBC.out.2.1.lt) (keep_below hb8 HBC.out.2.2)))
    have HG8 := Lib.hid (And.intro (HGC.out.1.below hb8 (Nat.le_refl _)) (And.intro (HGC.out.2.1.below hb8) (HGC.out.2.2.below hb8)))
    have hrr := refRead18_any A m c gs secs s w8 HG8.out.1 (by have := HSL.out; omega)
    rw [HR.out] at hrr
    dsimp only [UbD.nodeC] at hrr
    have HRR := Lib.hid hrr
    have HR8 := Lib.hid hR8
    clear g0 g1
    have g0 := HB8.out.1.at_ (i := 0) (v := .slice A m c) rfl
    have g1 := HB8.out.1.at_ (i := 1) (v := .int .i64 secs) rfl
    rw [← hw8] at g0 g1
    have HW8 := Lib.hid hw8
    clear hb7 hb8 hR8 hrr hw8
    go_wp2_with fail
    rw [HW8.out]
    refine HRR.out.mono ?_
    rintro e w9 ⟨rfl, hb9⟩
    obtain ⟨w10, hw10⟩ : ∃ z, w9.alloc (.cells #[.int .i64 rn, .int .i64 rp.ag, .int .i64 rp.aa, .int .i64 rp.bg, .int .i64 rp.ba, .bool rp.two, .int .i64 rp.size, .int .i64 rp.level, .int .i64 rp.birth, .int .u64 rp.s0, .int .u64 rp.s1, .int .u64 rp.s2, .int .u64 rp.s3] 33) = z := ⟨_, rfl⟩
    have hb10 : Below w8.heap.size w8 w10 := by rw [← hw10]; exact keep_alloc hb9 _
    have hN10 : Blk w10 w9.heap.size 33 #[.int .i64 rn, .int .i64 rp.ag, .int .i64 rp.aa, .int .i64 rp.bg, .int .i64 rp.ba, .bool rp.two, .int .i64 rp.size, .int .i64 rp.level, .int .i64 rp.birth, .int .u64 rp.s0, .int .u64 rp.s1, .int .u64 rp.s2, .int .u64 rp.s3] := by rw [← hw10]; exact Blk.new _ _ _
    have hR10 := HR8.out.below hb10 HR8.out.lt
    have HB10 := Lib.hid (And.intro (HB8.out.1.below hb10 HB8.out.1.lt) (And.intro (HB8.out.2.1.below hb10 HB8.out.2.1.lt) (keep_below hb10 HB8.out.2.2)))
    have HG10 := Lib.hid (And.intro (HG8.out.1.below hb10 (Nat.le_refl _)) (And.intro (HG8.out.2.1.below hb10) (HG8.out.2.2.below hb10)))
    have hnq : ∀ W, (binOp .neq 33 (.agg #[.int .i64 rn, .int .i64 rp.ag, .int .i64 rp.aa, .int .i64 rp.bg, .int .i64 rp.ba, .bool rp.two, .int .i64 rp.size, .int .i64 rp.level, .int .i64 rp.birth, .int .u64 rp.s0, .int .u64 rp.s1, .int .u64 rp.s2, .int .u64 rp.s3]) (.agg #[.int .i64 rn, .int .i64 rp.ag, .int .i64 rp.aa, .int .i64 rp.bg, .int .i64 rp.ba, .bool rp.two, .int .i64 rp.size, .int .i64 rp.level, .int .i64 rp.birth, .int .u64 rp.s0, .int .u64 rp.s1, .int .u64 rp.s2, .int .u64 rp.s3])).run Tryz.prog W = .ok (.bool false) W := fun W => (neq_node18 rn rn rp rp W).trans (by simp [ptrEq])
    have hre : (re != re) = false := by simp
    have hrt : (rt != rt) = false := by simp
    clear g0 g1
    have g0 := HB10.out.1.at_ (i := 0) (v := .slice A m c) rfl
    have g1 := HB10.out.1.at_ (i := 1) (v := .int .i64 secs) rfl
    have v0 := (hR10).at_ (i := 0) (v := .int .i64 rt) rfl
    have v1 := (hR10).at_ (i := 1) (v := .int .i64 rn) rfl
    have v2 := (hR10).at_ (i := 2) (v := .int .i64 rp.ag) rfl
    have v3 := (hR10).at_ (i := 3) (v := .int .i64 rp.aa) rfl
    have v4 := (hR10).at_ (i := 4) (v := .int .i64 rp.bg) rfl
    have v5 := (hR10).at_ (i := 5) (v := .int .i64 rp.ba) rfl
    have v6 := (hR10).at_ (i := 6) (v := .bool rp.two) rfl
    have v7 := (hR10).at_ (i := 7) (v := .int .i64 rp.size) rfl
    have v8 := (hR10).at_ (i := 8) (v := .int .i64 rp.level) rfl
    have v9 := (hR10).at_ (i := 9) (v := .int .i64 rp.birth) rfl
    have v10 := (hR10).at_ (i := 10) (v := .int .u64 rp.s0) rfl
    have v11 := (hR10).at_ (i := 11) (v := .int .u64 rp.s1) rfl
    have v12 := (hR10).at_ (i := 12) (v := .int .u64 rp.s2) rfl
    have v13 := (hR10).at_ (i := 13) (v := .int .u64 rp.s3) rfl
    have q0 := (hN10).at_ (i := 0) (v := .int .i64 rn) rfl
    have q1 := (hN10).at_ (i := 1) (v := .int .i64 rp.ag) rfl
    have q2 := (hN10).at_ (i := 2) (v := .int .i64 rp.aa) rfl
    have q3 := (hN10).at_ (i := 3) (v := .int .i64 rp.bg) rfl
    have q4 := (hN10).at_ (i := 4) (v := .int .i64 rp.ba) rfl
    have q5 := (hN10).at_ (i := 5) (v := .bool rp.two) rfl
    have q6 := (hN10).at_ (i := 6) (v := .int .i64 rp.size) rfl
    have q7 := (hN10).at_ (i := 7) (v := .int .i64 rp.level) rfl
    have q8 := (hN10).at_ (i := 8) (v := .int .i64 rp.birth) rfl
    have q9 := (hN10).at_ (i := 9) (v := .int .u64 rp.s0) rfl
    have q10 := (hN10).at_ (i := 10) (v := .int .u64 rp.s1) rfl
    have q11 := (hN10).at_ (i := 11) (v := .int .u64 rp.s2) rfl
    have q12 := (hN10).at_ (i := 12) (v := .int .u64 rp.s3) rfl
    rw [← hw10] at g0 g1 v0 v1 v2 v3 v4 v5 v6 v7 v8 v9 v10 v11 v12 v13 q0 q1 q2 q3 q4 q5 q6 q7 q8 q9 q10 q11 q12
    have HW10 := Lib.hid hw10
    clear hb9 hb10 hN10 hR10 hw10
    cases hr : (gRight gs secs && decide (secs ≤ 200)) with
    | false =>
      have HD := Lib.hid (devices_bad (c := c) HG10.out.1 hr (.slice Aa al.length ca) (.slice Al ll.length cl))
      clear hr
      go_wp2_with fail
      rw [HW10.out]
      refine HD.out.mono ?_
      rintro e w11 ⟨rfl, hb11⟩
      obtain ⟨w12, hw12⟩ : ∃ z, w11.alloc (.cells vZ 50) = z := ⟨_, rfl⟩
      have hX12 : Blk w12 w11.heap.size 50 vZ := by rw [← hw12]; exact Blk.new _ _ _
      have hb12 : Below w10.heap.size w10 w12 := by rw [← hw12]; exact keep_alloc hb11 _
      have HB12 := Lib.hid (keep_below hb12 HB10.out.2.2)
      have x0 := hX12.at_ (i := 0) (v := .slice none 0 0) rfl
      have x1 := hX12.at_ (i := 1) (v := .int .i64 0) rfl
      have x2 := hX12.at_ (i := 2) (v := .slice none 0 0) rfl
      have x3 := hX12.at_ (i := 3) (v := .slice none 0 0) rfl
      rw [← hw12] at x0 x1 x2 x3
      have HW12 := Lib.hid hw12
      clear g0 g1 v0 v1 v2 v3 v4 v5 v6 v7 v8 v9 v10 v11 v12 v13 q0 q1 q2 q3 q4 q5 q6 q7 q8 q9 q10 q11 q12 hb11 hX12 hb12 hw12 hnq hre hrt
      go_wp2_with fail
      rw [HW12.out]
      refine (ubestZ w12).mono ?_
      rintro e w13 ⟨rfl, hb13⟩
      have HB13 := Lib.hid (keep_below hb13 HB12.out)
      clear x0 x1 x2 x3 hb13
      go_wp2_with fail
      go_ret
      exact ⟨rfl, keep_alloc HB13.out _⟩
    | true =>
      simp only [Bool.and_eq_true, decide_eq_true_eq] at hr
      obtain ⟨hr1, hr2⟩ := hr
      have hgp := gRight_parts hr1
      obtain ⟨sn, rfl⟩ := Int.eq_ofNat_of_zero_le (show 0 ≤ secs by omega)
      obtain ⟨nd, hn⟩ : ∃ nd : Nat, gSum gs = nd := ⟨(gSum gs).toNat, by have := gSum_pos hr1; omega⟩
      have hn32 : nd ≤ 32 := by have := sum_take_bd hr1 gs.length; rw [List.take_length] at this; omega
      have hn0 : 0 < nd := by have := gSum_pos hr1; omega
      have HD := Lib.hid (devices_any2 (c := c) HG10.out.1 hr1 (by omega) hn (al := al) (ll := ll) HG10.out.2.1 HG10.out.2.2)
      have HRG : Hid (24 ≤ sn ∧ sn ≤ 200) := Lib.hid ⟨by have := hgp.2.2.1; omega, by omega⟩
      clear hr1 hr2 hgp hn
      go_wp2_with fail
      rw [HW10.out]
      refine HD.out.mono ?_
      rintro e w11 ⟨y, S, U, hv, rfl, hys, hysec, hyn, hV, hU, hsv, _, hb11⟩
      obtain ⟨Av, cv, rfl⟩ := hsv.form
      obtain ⟨ob, oo, rfl, hUo, hoc⟩ := hsv.cells hn0
      have few : y.bd.length ≤ 1000 := by omega
      obtain ⟨w12, hw12⟩ : ∃ z, w11.alloc (.cells y.cells 50) = z := ⟨_, rfl⟩
      have hX12 : Blk w12 w11.heap.size 50 y.cells := by rw [← hw12]; exact Blk.new _ _ _
      have hb12 : Below w11.heap.size w11 w12 := by rw [← hw12]; exact keep_alloc (Below.refl _ _) _
      obtain ⟨U0, hU0⟩ : ∃ U0, U0 = more U w11 w12 := ⟨_, rfl⟩
      have hV12 : VdIn w12 S U0 y (awT al nd nd) (lsT ll (DevD.blank sn 0) nd nd) := by rw [hU0]; exact hV.more hb12
      have hu0 : U0 w11.heap.size ∧ U0 ob ∧ ∀ b, b < w10.heap.size → U0 b := by rw [hU0]; exact ⟨.inr ⟨Nat.le_refl _, hX12.lt⟩, .inl hUo, fun b hb => .inl (hU b hb)⟩
      have hb1012 : Below w10.heap.size w10 w12 := keep_below hb12 hb11
      have hoc12 : ∀ k, k < nd → w12.cell? ⟨ob, oo + k, none⟩ = some (.bool (hereD (awT al nd nd) (lsT ll (DevD.blank sn 0) nd nd) k)) := fun k hk => by
        have h1 : (boolC (hrT al ll nd))[k]? = some (.bool (hereD (awT al nd nd) (lsT ll (DevD.blank sn 0) nd nd) k)) := boolC_at (by unfold hrT; rw [List.getElem?_map, List.getElem?_range hk, ubls_here hk]; rfl)
        exact (cell_same' (hb12.block ob (hV.us ob hUo))).trans (hoc k _ h1)
      obtain ⟨aw, haw⟩ : ∃ aw, awT al nd nd = aw := ⟨_, rfl⟩
      obtain ⟨ds0, hds0⟩ : ∃ ds0, lsT ll (DevD.blank sn 0) nd nd = ds0 := ⟨_, rfl⟩
      have hl0 : ds0.length = nd := by rw [← hds0]; exact lsT_len
      have hok0 : DsOk 0 sn ds0 := by rw [← hds0]; exact ubls_ok (by have := HRG.out; omega) (by have := HRG.out; omega)
      rw [haw, hds0] at hV12 hoc12
      have hwr := uwrite_any hV12 few (N := 0) (by rw [hysec]; exact hok0) (by omega) (by rw [hysec]; exact HRG.out.1) t n p HOP.out
      rw [hys, hysec] at hwr
      obtain ⟨N0, hN0⟩ : ∃ N0, uwN gs (sn : Int) aw t n p ds0 = N0 := ⟨_, rfl⟩
      obtain ⟨E0, hE0⟩ : ∃ E0, uwE gs (sn : Int) aw t n p ds0 = E0 := ⟨_, rfl⟩
      rw [hN0, hE0] at hwr
      have HWR := Lib.hid hwr
      have HNE := Lib.hid (And.intro hN0 hE0)
      have HDS := Lib.hid (And.intro haw (And.intro hds0 (And.intro hl0 hok0)))
      have HY := Lib.hid (And.intro hyn (And.intro hys (And.intro hysec few)))
      have HU := Lib.hid (And.intro hu0 hV12.us)
      have HX12 := Lib.hid hX12
      have HOC := Lib.hid hoc12
      have HB12 := Lib.hid (And.intro (HB10.out.1.below hb1012 HB10.out.1.lt) (And.intro (HB10.out.2.1.below hb1012 HB10.out.2.1.lt) (And.intro (keep_below hb1012 HB10.out.2.2) hb1012)))
      have HGE12 := Lib.hid (HG10.out.1.below hb1012 (Nat.le_refl _))
      have HLT10 := Lib.hid (And.intro HB10.out.1.lt HB10.out.2.1.lt)
      have hu12 := HB12.out.2.1
      have x0 := (hX12).at_ (i := 0) (v := .slice (some ⟨y.gb, 0, none⟩) y.m y.cc) rfl
      have x1 := (hX12).at_ (i := 1) (v := .int .i64 y.secs) rfl
      have x2 := (hX12).at_ (i := 2) (v := .slice (some ⟨y.lb, 0, none⟩) y.bd.length y.lc) rfl
      have x3 := (hX12).at_ (i := 3) (v := .slice (some ⟨y.ab, 0, none⟩) y.bd.length y.bd.length) rfl
      have u0 := (hu12).at_ (i := 0) (v := .int .i64 t) rfl
      have u1 := (hu12).at_ (i := 1) (v := .int .i64 n) rfl
      have u2 := (hu12).at_ (i := 2) (v := .int .i64 p.ag) rfl
      have u3 := (hu12).at_ (i := 3) (v := .int .i64 p.aa) rfl
      have u4 := (hu12).at_ (i := 4) (v := .int .i64 p.bg) rfl
      have u5 := (hu12).at_ (i := 5) (v := .int .i64 p.ba) rfl
      have u6 := (hu12).at_ (i := 6) (v := .bool p.two) rfl
      have u7 := (hu12).at_ (i := 7) (v := .int .i64 p.size) rfl
      have u8 := (hu12).at_ (i := 8) (v := .int .i64 p.level) rfl
      have u9 := (hu12).at_ (i := 9) (v := .int .i64 p.birth) rfl
      have ua := (hu12).at_ (i := 10) (v := .int .u64 p.s0) rfl
      have ub := (hu12).at_ (i := 11) (v := .int .u64 p.s1) rfl
      have uc := (hu12).at_ (i := 12) (v := .int .u64 p.s2) rfl
      have ud := (hu12).at_ (i := 13) (v := .int .u64 p.s3) rfl
      rw [← hw12] at x0 x1 x2 x3 u0 u1 u2 u3 u4 u5 u6 u7 u8 u9 ua ub uc ud
      have HW12 := Lib.hid hw12
      clear g0 g1 v0 v1 v2 v3 v4 v5 v6 v7 v8 v9 v10 v11 v12 v13 q0 q1 q2 q3 q4 q5 q6 q7 q8 q9 q10 q11 q12 hys hysec hyn hV hU hsv hUo hoc few hw12 hX12 hb12 hU0 hV12 hu0 hb1012 hoc12 haw hds0 hl0 hok0 hwr hN0 hE0 hb11 hu12 HD hnq hre hrt
      go_wp2_with fail
      rw [HW12.out]
      refine HWR.out.mono ?_
      rintro e w13 ⟨rfl, ⟨S13, hV13⟩, hst13⟩
      have hb13 : Below w10.heap.size w10 w13 := HB12.out.2.2.2.trans (hst13.below HB12.out.2.2.2.size (fun i hi => HU.out.1.2.2 i hi))
      have HF13 := Lib.hid (keep_below hb13 HB10.out.2.2)
      cases ok with
      | false =>
        obtain ⟨e1, e2⟩ := uw_out (aw := aw) (ds := ds0) HBS.out.2.2
        obtain rfl : N0 = 0 := by rw [← HNE.out.1, e1]
        obtain rfl : E0 = 1 := by rw [← HNE.out.2, e2]
        clear x0 x1 x2 x3 u0 u1 u2 u3 u4 u5 u6 u7 u8 u9 ua ub uc ud e1 e2 hV13 hst13 hb13
        go_wp2_with fail
        go_ret
        exact ⟨rfl, HF13.out⟩
      | true =>
        obtain ⟨e1, e2⟩ := uw_in (aw := aw) HDS.out.2.2.1 HBS.out.2.2
        obtain ⟨G, hG⟩ : ∃ G, goneN aw ds0 nd = G := ⟨_, rfl⟩
        rw [hG] at e1 e2
        obtain rfl : N0 = G := by rw [← HNE.out.1, e1]
        have HE0 : Hid (E0 = if N0 = nd then 6 else 0) := Lib.hid (by rw [← HNE.out.2, e2])
        have HGN := Lib.hid hG
        have hob13 : w13.heap[ob]? = w12.heap[ob]? := hst13.heap HU.out.1.2.1 (HU.out.2 ob HU.out.1.2.1)
        have HOC13 : Hid (∀ k, k < nd → w13.cell? ⟨ob, oo + k, none⟩ = some (.bool (hereD aw ds0 k))) := Lib.hid fun k hk => (cell_same' hob13).trans (HOC.out k hk)
        have hx13 : Blk w13 w11.heap.size 50 y.cells := (hst13.heap HU.out.1.1 HX12.out.lt).trans HX12.out
        have HV13 := Lib.hid hV13
        have HX13 := Lib.hid hx13
        have HGB13 := Lib.hid (And.intro (HB10.out.1.below hb13 HB10.out.1.lt) (And.intro (HB10.out.2.1.below hb13 HB10.out.2.1.lt) (HG10.out.1.below hb13 (Nat.le_refl _))))
        clear x0 x1 x2 x3 u0 u1 u2 u3 u4 u5 u6 u7 u8 u9 ua ub uc ud e1 e2 hV13 hst13 hb13 hG hob13 hx13
        go_wp2_with fail
        go_loopw [30, 31] (fun gv tv wr => ∃ k : Nat, k ≤ nd ∧ tv = .int .i64 k ∧ gv = .int .i64 ((goneN aw ds0 k : Nat) : Int) ∧ Below w13.heap.size w13 wr) (fun _ tv _ => nd - (RowKit.intOf tv).toNat)
        case atStart => exact ⟨0, Nat.zero_le _, rfl, rfl, Below.refl _ _⟩
        case round =>
          as_aux_lemma =>
          obtain ⟨k, hk, rfl, rfl, hb⟩ := hrel
          by_cases hlt : k < nd
          · have hdc : decide (k < nd) = true := decide_eq_true hlt
            have hcl := keepU (HOC13.out k hlt) hb
            have hst := goneN_step (aw := aw) (ds := ds0) k
            have hgl := goneN_le (aw := aw) (ds := ds0) k
            have HLT := Lib.hid hlt
            have HBB := Lib.hid hb
            obtain ⟨gk, hgk⟩ : ∃ gk, goneN aw ds0 k = gk := ⟨_, rfl⟩
            rw [hgk] at hst hgl ⊢
            cases hh : hereD aw ds0 k with
            | true =>
              rw [hh] at hcl hst
              have HST : Hid (goneN aw ds0 (k + 1) = gk) := Lib.hid (by rw [hst]; rfl)
              clear hst hh hgk hb
              go_wp2_with fail
              go_roundw
              case rel => exact ⟨k + 1, HLT.out, by go_num, by rw [HST.out], HBB.out⟩
              case measure => have := HLT.out; simp [RowKit.intOf]; omega
            | false =>
              rw [hh] at hcl hst
              have HST : Hid (goneN aw ds0 (k + 1) = gk + 1) := Lib.hid (by rw [hst]; rfl)
              have hg32 : gk ≤ 32 := by omega
              clear hst hh hgk hb
              go_wp2_with fail
              go_roundw
              case rel => exact ⟨k + 1, HLT.out, by go_num, by rw [HST.out]; go_num, HBB.out⟩
              case measure => have := HLT.out; simp [RowKit.intOf]; omega
          · obtain rfl : nd = k := by omega
            have hdc : decide (nd < nd) = false := decide_eq_false (by omega)
            rw [HGN.out]
            have HBB := Lib.hid hb
            clear hb hk hlt
            have hwl : Below wr.heap.size wr wr := Below.refl _ _
            have f2 : ((N0 : Int) != (N0 : Int)) = false := by simp
            go_upto_region 24 with (fail)
            go_cut [180] (fun b wx => b = .bool false ∧ Below wr.heap.size wr wx)
            case first =>
              by_cases hGn : N0 = nd
              · obtain rfl : E0 = 6 := by rw [HE0.out, if_pos hGn]
                have f1 : ((N0 : Int) == (nd : Int)) = true := by rw [beq_iff_eq]; omega
                clear hGn
                go_wp2_with fail
                go_meet
                exact ⟨rfl, Below.refl _ _⟩
              · obtain rfl : E0 = 0 := by rw [HE0.out, if_neg hGn]
                have f1 : ((N0 : Int) == (nd : Int)) = false := by rw [beq_eq_false_iff_ne]; omega
                clear hGn
                go_wp2_with fail
                go_meet
                exact ⟨rfl, Below.refl _ _⟩
            case rest =>
              obtain ⟨rfl, hbc2⟩ := hcut
              rename World => wq
              have hbq : Below w13.heap.size w13 wq := keep_below hbc2 HBB.out
              have HQ := Lib.hid (And.intro (HV13.out.below hbq) (And.intro (HX13.out.below hbq HX13.out.lt) (And.intro (HGB13.out.1.below hbq HGB13.out.1.lt) (And.intro (HGB13.out.2.1.below hbq HGB13.out.2.1.lt) (And.intro (keep_below hbq HF13.out) (HGB13.out.2.2.below hbq (Nat.le_refl _)))))))
              have hok1 := upD_ok (gs := gs) (secs := (sn : Int)) (aw := aw) (t := t) (n := n) (p := p) HDS.out.2.2.2 HDS.out.2.2.1
              have HOC13 : Hid (∀ k, k < nd → wq.cell? ⟨ob, oo + k, none⟩ = some (.bool (hereD aw ds0 k))) := Lib.hid fun k hk => keepU (HOC13.out k hk) hbq
              have x0 := (HQ.out.2.1).at_ (i := 0) (v := .slice (some ⟨y.gb, 0, none⟩) y.m y.cc) rfl
              have x1 := (HQ.out.2.1).at_ (i := 1) (v := .int .i64 y.secs) rfl
              have x2 := (HQ.out.2.1).at_ (i := 2) (v := .slice (some ⟨y.lb, 0, none⟩) y.bd.length y.lc) rfl
              have x3 := (HQ.out.2.1).at_ (i := 3) (v := .slice (some ⟨y.ab, 0, none⟩) y.bd.length y.bd.length) rfl
              clear hbc2 hbq f2 hwl
              as_aux_lemma =>
              by_cases hin : 0 ≤ d ∧ d < nd ∧ 0 ≤ slot ∧ slot < 4
              · obtain ⟨dn, rfl⟩ := Int.eq_ofNat_of_zero_le hin.1
                obtain ⟨jn, rfl⟩ := Int.eq_ofNat_of_zero_le hin.2.2.1
                have hdn : dn < nd := by omega
                have hjn : jn < 4 := by omega
                have hon := uon_any HQ.out.1 HY.out.2.2.2 (by rw [HY.out.2.2.1]; exact hok1) dn jn (by rw [HY.out.1]; exact hdn) hjn
                rw [HY.out.2.1, HY.out.2.2.1] at hon
                obtain ⟨hh, hhh⟩ : ∃ hh, hereD aw ds0 dn = hh := ⟨_, rfl⟩
                have hcl := HOC13.out dn hdn
                rw [hhh] at hcl
                have HCL := Lib.hid hcl
                have hd0 : decide ((dn : Int) < 0) = false := decide_eq_false (by omega)
                have hd1 : decide (nd ≤ dn) = false := decide_eq_false (by omega)
                have hd1b : decide ((nd : Int) ≤ (dn : Int)) = false := decide_eq_false (by omega)
                have hs0 : decide ((jn : Int) < 0) = false := decide_eq_false (by omega)
                have hs1 : decide (3 < jn) = false := decide_eq_false (by omega)
                have hs1b : decide ((3 : Int) < (jn : Int)) = false := decide_eq_false (by omega)
                clear hin hok1 hcl
                cases hh with
                | false =>
                  rw [plays_out hhh] at hon
                  have HON : Hid (Calls Tryz.prog 19 #[y.val, .int .i64 (dn : Int), .int .i64 (jn : Int)] wq fun e w' => e = .returned (.tuple #[.agg #[.int .i64 0, .int .i64 0, .int .i64 0, .int .i64 0, .int .i64 0, .int .i64 0, .bool false, .int .i64 0, .int .i64 0, .int .i64 0, .int .u64 0, .int .u64 0, .int .u64 0, .int .u64 0], .int .i64 6]) ∧ Below wq.heap.size wq w') := Lib.hid hon
                  clear hon hhh
                  go_wp2_with fail
                  refine HON.out.mono ?_
                  rintro e w20 ⟨rfl, hb20⟩
                  obtain ⟨w21, hw21⟩ : ∃ z, w20.alloc (.cells #[.int .i64 0, .int .i64 0, .int .i64 0, .int .i64 0, .int .i64 0, .int .i64 0, .bool false, .int .i64 0, .int .i64 0, .int .i64 0, .int .u64 0, .int .u64 0, .int .u64 0, .int .u64 0] 35) = z := ⟨_, rfl⟩
                  have hb21 : Below wq.heap.size wq w21 := by rw [← hw21]; exact keep_alloc hb20 _
                  have hcl := keepU HCL.out hb21
                  have HF := Lib.hid (keep_below hb21 HQ.out.2.2.2.2.1)
                  rw [← hw21] at hcl
                  have HW21 := Lib.hid hw21
                  clear x0 x1 x2 x3 hb20 hb21 hw21
                  go_wp2_with fail
                  rw [HW21.out]
                  go_ret
                  exact ⟨rfl, HF.out⟩
                | true =>
                  have hpo := plays_on (al := al) (ll := ll) (nd := nd) HRG.out.1 (by have := HRG.out.2; omega) HBS.out.2.2 HOP.out hdn hjn (by rw [HDS.out.1, HDS.out.2.1]; exact hhh)
                  rw [HDS.out.1, HDS.out.2.1] at hpo
                  rw [hpo] at hon
                  have htp := ubOk_parts HBS.out.2.2
                  obtain ⟨r4, hr4⟩ : ∃ r4, t.toNat % 4 = r4 := ⟨_, rfl⟩
                  rw [hr4] at hon
                  have hr4l : r4 < 4 := by omega
                  have hm3 : t % 4 = (r4 : Int) := by omega
                  have hm4 : t.tmod 4 = (r4 : Int) := by rw [Int.tmod_eq_emod_of_nonneg (by omega)]; exact hm3
                  obtain ⟨rr, hrr⟩ : ∃ rr, nRightB gs (sn : Int) n p = rr := ⟨_, rfl⟩
                  rw [hrr] at hon
                  have HRR2 := Lib.hid hrr
                  clear hpo hhh hrr hr4
                  by_cases hj : jn = r4
                  · have hje : ((jn : Int) == (r4 : Int)) = true := by rw [beq_iff_eq]; omega
                    rw [if_pos hj] at hon
                    clear hj htp
                    cases rr with
                    | true =>
                      rw [if_pos rfl] at hon
                      have HON : Hid (Calls Tryz.prog 19 #[y.val, .int .i64 (dn : Int), .int .i64 (jn : Int)] wq fun e w' => e = .returned (.tuple #[.agg #[.int .i64 t, .int .i64 n, .int .i64 p.ag, .int .i64 p.aa, .int .i64 p.bg, .int .i64 p.ba, .bool p.two, .int .i64 p.size, .int .i64 p.level, .int .i64 p.birth, .int .u64 p.s0, .int .u64 p.s1, .int .u64 p.s2, .int .u64 p.s3], .int .i64 0]) ∧ Below wq.heap.size wq w') := Lib.hid hon
                      have heq : ∀ W, (binOp .eql 35 (.agg #[.int .i64 t, .int .i64 n, .int .i64 p.ag, .int .i64 p.aa, .int .i64 p.bg, .int .i64 p.ba, .bool p.two, .int .i64 p.size, .int .i64 p.level, .int .i64 p.birth, .int .u64 p.s0, .int .u64 p.s1, .int .u64 p.s2, .int .u64 p.s3]) (.agg #[.int .i64 t, .int .i64 n, .int .i64 p.ag, .int .i64 p.aa, .int .i64 p.bg, .int .i64 p.ba, .bool p.two, .int .i64 p.size, .int .i64 p.level, .int .i64 p.birth, .int .u64 p.s0, .int .u64 p.s1, .int .u64 p.s2, .int .u64 p.s3])).run Tryz.prog W = .ok (.bool true) W := fun W => (eql_uber18 t t n n p p W).trans (by simp [ptrEq])
                      clear hon
                      go_wp2_with fail
                      refine HON.out.mono ?_
                      rintro e w20 ⟨rfl, hb20⟩
                      obtain ⟨w21, hw21⟩ : ∃ z, w20.alloc (.cells #[.int .i64 t, .int .i64 n, .int .i64 p.ag, .int .i64 p.aa, .int .i64 p.bg, .int .i64 p.ba, .bool p.two, .int .i64 p.size, .int .i64 p.level, .int .i64 p.birth, .int .u64 p.s0, .int .u64 p.s1, .int .u64 p.s2, .int .u64 p.s3] 35) = z := ⟨_, rfl⟩
                      have hb21 : Below wq.heap.size wq w21 := by rw [← hw21]; exact keep_alloc hb20 _
                      have hN21 : Blk w21 w20.heap.size 35 #[.int .i64 t, .int .i64 n, .int .i64 p.ag, .int .i64 p.aa, .int .i64 p.bg, .int .i64 p.ba, .bool p.two, .int .i64 p.size, .int .i64 p.level, .int .i64 p.birth, .int .u64 p.s0, .int .u64 p.s1, .int .u64 p.s2, .int .u64 p.s3] := by rw [← hw21]; exact Blk.new _ _ _
                      have hcl := keepU HCL.out hb21
                      have hg21 := HQ.out.2.2.1.below hb21 HQ.out.2.2.1.lt
                      have hu21 := HQ.out.2.2.2.1.below hb21 HQ.out.2.2.2.1.lt
                      have HGU := Lib.hid (And.intro hg21 (And.intro hu21 hN21))
                      have hrt := refRight13_any A m c gs (sn : Int) n p w21 (HQ.out.2.2.2.2.2.below hb21 (Nat.le_refl _))
                      rw [HRR2.out] at hrt
                      have HRT := Lib.hid hrt
                      have HF := Lib.hid (keep_below hb21 HQ.out.2.2.2.2.1)
                      have g0 := hg21.at_ (i := 0) (v := .slice A m c) rfl
                      have g1 := hg21.at_ (i := 1) (v := .int .i64 sn) rfl
                      have u0 := (hu21).at_ (i := 0) (v := .int .i64 t) rfl
                      have u1 := (hu21).at_ (i := 1) (v := .int .i64 n) rfl
                      have u2 := (hu21).at_ (i := 2) (v := .int .i64 p.ag) rfl
                      have u3 := (hu21).at_ (i := 3) (v := .int .i64 p.aa) rfl
                      have u4 := (hu21).at_ (i := 4) (v := .int .i64 p.bg) rfl
                      have u5 := (hu21).at_ (i := 5) (v := .int .i64 p.ba) rfl
                      have u6 := (hu21).at_ (i := 6) (v := .bool p.two) rfl
                      have u7 := (hu21).at_ (i := 7) (v := .int .i64 p.size) rfl
                      have u8 := (hu21).at_ (i := 8) (v := .int .i64 p.level) rfl
                      have u9 := (hu21).at_ (i := 9) (v := .int .i64 p.birth) rfl
                      have ua := (hu21).at_ (i := 10) (v := .int .u64 p.s0) rfl
                      have ub := (hu21).at_ (i := 11) (v := .int .u64 p.s1) rfl
                      have uc := (hu21).at_ (i := 12) (v := .int .u64 p.s2) rfl
                      have ud := (hu21).at_ (i := 13) (v := .int .u64 p.s3) rfl
                      rw [← hw21] at hcl g0 g1 u0 u1 u2 u3 u4 u5 u6 u7 u8 u9 ua ub uc ud
                      have HW21 := Lib.hid hw21
                      clear x0 x1 x2 x3 hb20 hb21 hw21 hN21 hg21 hu21 hrt
                      go_wp2_with fail
                      rw [HW21.out]
                      refine HRT.out.mono ?_
                      rintro e w22 ⟨rfl, hb22⟩
                      have hu22 := HGU.out.2.1.below hb22 HGU.out.2.1.lt
                      have hN22 := HGU.out.2.2.below hb22 HGU.out.2.2.lt
                      have HF22 := Lib.hid (keep_below hb22 HF.out)
                      clear hcl g0 g1 u0 u1 u2 u3 u4 u5 u6 u7 u8 u9 ua ub uc ud
                      have u0 := (hu22).at_ (i := 0) (v := .int .i64 t) rfl
                      have u1 := (hu22).at_ (i := 1) (v := .int .i64 n) rfl
                      have u2 := (hu22).at_ (i := 2) (v := .int .i64 p.ag) rfl
                      have u3 := (hu22).at_ (i := 3) (v := .int .i64 p.aa) rfl
                      have u4 := (hu22).at_ (i := 4) (v := .int .i64 p.bg) rfl
                      have u5 := (hu22).at_ (i := 5) (v := .int .i64 p.ba) rfl
                      have u6 := (hu22).at_ (i := 6) (v := .bool p.two) rfl
                      have u7 := (hu22).at_ (i := 7) (v := .int .i64 p.size) rfl
                      have u8 := (hu22).at_ (i := 8) (v := .int .i64 p.level) rfl
                      have u9 := (hu22).at_ (i := 9) (v := .int .i64 p.birth) rfl
                      have ua := (hu22).at_ (i := 10) (v := .int .u64 p.s0) rfl
                      have ub := (hu22).at_ (i := 11) (v := .int .u64 p.s1) rfl
                      have uc := (hu22).at_ (i := 12) (v := .int .u64 p.s2) rfl
                      have ud := (hu22).at_ (i := 13) (v := .int .u64 p.s3) rfl
                      have v0 := (hN22).at_ (i := 0) (v := .int .i64 t) rfl
                      have v1 := (hN22).at_ (i := 1) (v := .int .i64 n) rfl
                      have v2 := (hN22).at_ (i := 2) (v := .int .i64 p.ag) rfl
                      have v3 := (hN22).at_ (i := 3) (v := .int .i64 p.aa) rfl
                      have v4 := (hN22).at_ (i := 4) (v := .int .i64 p.bg) rfl
                      have v5 := (hN22).at_ (i := 5) (v := .int .i64 p.ba) rfl
                      have v6 := (hN22).at_ (i := 6) (v := .bool p.two) rfl
                      have v7 := (hN22).at_ (i := 7) (v := .int .i64 p.size) rfl
                      have v8 := (hN22).at_ (i := 8) (v := .int .i64 p.level) rfl
                      have v9 := (hN22).at_ (i := 9) (v := .int .i64 p.birth) rfl
                      have v10 := (hN22).at_ (i := 10) (v := .int .u64 p.s0) rfl
                      have v11 := (hN22).at_ (i := 11) (v := .int .u64 p.s1) rfl
                      have v12 := (hN22).at_ (i := 12) (v := .int .u64 p.s2) rfl
                      have v13 := (hN22).at_ (i := 13) (v := .int .u64 p.s3) rfl
                      clear hb22 hu22 hN22
                      go_wp2_with fail
                      go_ret
                      exact ⟨rfl, HF22.out⟩
                    | false =>
                      rw [if_neg Bool.false_ne_true] at hon
                      have HON : Hid (Calls Tryz.prog 19 #[y.val, .int .i64 (dn : Int), .int .i64 (jn : Int)] wq fun e w' => e = .returned (.tuple #[.agg #[.int .i64 0, .int .i64 0, .int .i64 0, .int .i64 0, .int .i64 0, .int .i64 0, .bool false, .int .i64 0, .int .i64 0, .int .i64 0, .int .u64 0, .int .u64 0, .int .u64 0, .int .u64 0], .int .i64 3]) ∧ Below wq.heap.size wq w') := Lib.hid hon
                      clear hon
                      go_wp2_with fail
                      refine HON.out.mono ?_
                      rintro e w20 ⟨rfl, hb20⟩
                      obtain ⟨w21, hw21⟩ : ∃ z, w20.alloc (.cells #[.int .i64 0, .int .i64 0, .int .i64 0, .int .i64 0, .int .i64 0, .int .i64 0, .bool false, .int .i64 0, .int .i64 0, .int .i64 0, .int .u64 0, .int .u64 0, .int .u64 0, .int .u64 0] 35) = z := ⟨_, rfl⟩
                      have hb21 : Below wq.heap.size wq w21 := by rw [← hw21]; exact keep_alloc hb20 _
                      have hcl := keepU HCL.out hb21
                      have hg21 := HQ.out.2.2.1.below hb21 HQ.out.2.2.1.lt
                      have hu21 := HQ.out.2.2.2.1.below hb21 HQ.out.2.2.2.1.lt
                      have hrt := refRight13_any A m c gs (sn : Int) n p w21 (HQ.out.2.2.2.2.2.below hb21 (Nat.le_refl _))
                      rw [HRR2.out] at hrt
                      have HRT := Lib.hid hrt
                      have HF := Lib.hid (keep_below hb21 HQ.out.2.2.2.2.1)
                      have g0 := hg21.at_ (i := 0) (v := .slice A m c) rfl
                      have g1 := hg21.at_ (i := 1) (v := .int .i64 sn) rfl
                      have u0 := (hu21).at_ (i := 0) (v := .int .i64 t) rfl
                      have u1 := (hu21).at_ (i := 1) (v := .int .i64 n) rfl
                      have u2 := (hu21).at_ (i := 2) (v := .int .i64 p.ag) rfl
                      have u3 := (hu21).at_ (i := 3) (v := .int .i64 p.aa) rfl
                      have u4 := (hu21).at_ (i := 4) (v := .int .i64 p.bg) rfl
                      have u5 := (hu21).at_ (i := 5) (v := .int .i64 p.ba) rfl
                      have u6 := (hu21).at_ (i := 6) (v := .bool p.two) rfl
                      have u7 := (hu21).at_ (i := 7) (v := .int .i64 p.size) rfl
                      have u8 := (hu21).at_ (i := 8) (v := .int .i64 p.level) rfl
                      have u9 := (hu21).at_ (i := 9) (v := .int .i64 p.birth) rfl
                      have ua := (hu21).at_ (i := 10) (v := .int .u64 p.s0) rfl
                      have ub := (hu21).at_ (i := 11) (v := .int .u64 p.s1) rfl
                      have uc := (hu21).at_ (i := 12) (v := .int .u64 p.s2) rfl
                      have ud := (hu21).at_ (i := 13) (v := .int .u64 p.s3) rfl
                      rw [← hw21] at hcl g0 g1 u0 u1 u2 u3 u4 u5 u6 u7 u8 u9 ua ub uc ud
                      have HW21 := Lib.hid hw21
                      clear x0 x1 x2 x3 hb20 hb21 hw21 hg21 hu21 hrt
                      go_wp2_with fail
                      rw [HW21.out]
                      refine HRT.out.mono ?_
                      rintro e w22 ⟨rfl, hb22⟩
                      have HF22 := Lib.hid (keep_below hb22 HF.out)
                      clear hcl g0 g1 u0 u1 u2 u3 u4 u5 u6 u7 u8 u9 ua ub uc ud hb22
                      go_wp2_with fail
                      go_ret
                      exact ⟨rfl, HF22.out⟩
                  · have hje : ((jn : Int) == (r4 : Int)) = false := by rw [beq_eq_false_iff_ne]; omega
                    rw [if_neg hj] at hon
                    have HON : Hid (Calls Tryz.prog 19 #[y.val, .int .i64 (dn : Int), .int .i64 (jn : Int)] wq fun e w' => e = .returned (.tuple #[.agg #[.int .i64 0, .int .i64 0, .int .i64 0, .int .i64 0, .int .i64 0, .int .i64 0, .bool false, .int .i64 0, .int .i64 0, .int .i64 0, .int .u64 0, .int .u64 0, .int .u64 0, .int .u64 0], .int .i64 3]) ∧ Below wq.heap.size wq w') := Lib.hid hon
                    clear hon hj htp
                    go_wp2_with fail
                    refine HON.out.mono ?_
                    rintro e w20 ⟨rfl, hb20⟩
                    obtain ⟨w21, hw21⟩ : ∃ z, w20.alloc (.cells #[.int .i64 0, .int .i64 0, .int .i64 0, .int .i64 0, .int .i64 0, .int .i64 0, .bool false, .int .i64 0, .int .i64 0, .int .i64 0, .int .u64 0, .int .u64 0, .int .u64 0, .int .u64 0] 35) = z := ⟨_, rfl⟩
                    have hb21 : Below wq.heap.size wq w21 := by rw [← hw21]; exact keep_alloc hb20 _
                    have hcl := keepU HCL.out hb21
                    have hu21 := HQ.out.2.2.2.1.below hb21 HQ.out.2.2.2.1.lt
                    have HF := Lib.hid (keep_below hb21 HQ.out.2.2.2.2.1)
                    have u0 := (hu21).at_ (i := 0) (v := .int .i64 t) rfl
                    have u1 := (hu21).at_ (i := 1) (v := .int .i64 n) rfl
                    have u2 := (hu21).at_ (i := 2) (v := .int .i64 p.ag) rfl
                    have u3 := (hu21).at_ (i := 3) (v := .int .i64 p.aa) rfl
                    have u4 := (hu21).at_ (i := 4) (v := .int .i64 p.bg) rfl
                    have u5 := (hu21).at_ (i := 5) (v := .int .i64 p.ba) rfl
                    have u6 := (hu21).at_ (i := 6) (v := .bool p.two) rfl
                    have u7 := (hu21).at_ (i := 7) (v := .int .i64 p.size) rfl
                    have u8 := (hu21).at_ (i := 8) (v := .int .i64 p.level) rfl
                    have u9 := (hu21).at_ (i := 9) (v := .int .i64 p.birth) rfl
                    have ua := (hu21).at_ (i := 10) (v := .int .u64 p.s0) rfl
                    have ub := (hu21).at_ (i := 11) (v := .int .u64 p.s1) rfl
                    have uc := (hu21).at_ (i := 12) (v := .int .u64 p.s2) rfl
                    have ud := (hu21).at_ (i := 13) (v := .int .u64 p.s3) rfl
                    rw [← hw21] at hcl u0 u1 u2 u3 u4 u5 u6 u7 u8 u9 ua ub uc ud
                    have HW21 := Lib.hid hw21
                    clear x0 x1 x2 x3 hb20 hb21 hw21 hu21
                    go_wp2_with fail
                    rw [HW21.out]
                    go_ret
                    exact ⟨rfl, HF.out⟩
              · have hon := uon_bad HQ.out.1 HY.out.2.2.2 d slot (by rw [HY.out.1]; exact hin)
                have HONB := Lib.hid hon
                clear hon hok1
                by_cases h1 : d < 0
                · have hd0 : decide (d < 0) = true := decide_eq_true h1
                  clear hin h1
                  have hez : ∀ W, (binOp .eql 35 (.agg #[.int .i64 0, .int .i64 0, .int .i64 0, .int .i64 0, .int .i64 0, .int .i64 0, .bool false, .int .i64 0, .int .i64 0, .int .i64 0, .int .u64 0, .int .u64 0, .int .u64 0, .int .u64 0]) (.agg #[.int .i64 0, .int .i64 0, .int .i64 0, .int .i64 0, .int .i64 0, .int .i64 0, .bool false, .int .i64 0, .int .i64 0, .int .i64 0, .int .u64 0, .int .u64 0, .int .u64 0, .int .u64 0])).run Tryz.prog W = .ok (.bool true) W := fun W => (eql_uber18 0 0 0 0 ptrZ ptrZ W).trans (by rw [show ((0 : Int) == 0 && ((0 : Int) == 0 && ptrEq ptrZ ptrZ)) = true by decide +kernel])
                  go_wp2_with fail
                  refine HONB.out.mono ?_
                  rintro e w20 ⟨rfl, hb20⟩
                  obtain ⟨w21, hw21⟩ : ∃ z, w20.alloc (.cells #[.int .i64 0, .int .i64 0, .int .i64 0, .int .i64 0, .int .i64 0, .int .i64 0, .bool false, .int .i64 0, .int .i64 0, .int .i64 0, .int .u64 0, .int .u64 0, .int .u64 0, .int .u64 0] 35) = z := ⟨_, rfl⟩
                  have hN21 : Blk w21 w20.heap.size 35 #[.int .i64 0, .int .i64 0, .int .i64 0, .int .i64 0, .int .i64 0, .int .i64 0, .bool false, .int .i64 0, .int .i64 0, .int .i64 0, .int .u64 0, .int .u64 0, .int .u64 0, .int .u64 0] := by rw [← hw21]; exact Blk.new _ _ _
                  have hb21 : Below wq.heap.size wq w21 := by rw [← hw21]; exact keep_alloc hb20 _
                  have z0 := (hN21).at_ (i := 0) (v := .int .i64 0) rfl
                  have z1 := (hN21).at_ (i := 1) (v := .int .i64 0) rfl
                  have z2 := (hN21).at_ (i := 2) (v := .int .i64 0) rfl
                  have z3 := (hN21).at_ (i := 3) (v := .int .i64 0) rfl
                  have z4 := (hN21).at_ (i := 4) (v := .int .i64 0) rfl
                  have z5 := (hN21).at_ (i := 5) (v := .int .i64 0) rfl
                  have z6 := (hN21).at_ (i := 6) (v := .bool false) rfl
                  have z7 := (hN21).at_ (i := 7) (v := .int .i64 0) rfl
                  have z8 := (hN21).at_ (i := 8) (v := .int .i64 0) rfl
                  have z9 := (hN21).at_ (i := 9) (v := .int .i64 0) rfl
                  have z10 := (hN21).at_ (i := 10) (v := .int .u64 0) rfl
                  have z11 := (hN21).at_ (i := 11) (v := .int .u64 0) rfl
                  have z12 := (hN21).at_ (i := 12) (v := .int .u64 0) rfl
                  have z13 := (hN21).at_ (i := 13) (v := .int .u64 0) rfl
                  have fr0 := (hN21).fr 0
                  have fr1 := (hN21).fr 1
                  have fr2 := (hN21).fr 2
                  have fr3 := (hN21).fr 3
                  have fr4 := (hN21).fr 4
                  have fr5 := (hN21).fr 5
                  have fr6 := (hN21).fr 6
                  have fr7 := (hN21).fr 7
                  have fr8 := (hN21).fr 8
                  have fr9 := (hN21).fr 9
                  have fr10 := (hN21).fr 10
                  have fr11 := (hN21).fr 11
                  have fr12 := (hN21).fr 12
                  have fr13 := (hN21).fr 13
                  have HF := Lib.hid (keep_below hb21 HQ.out.2.2.2.2.1)
                  rw [← hw21] at z0 z1 z2 z3 z4 z5 z6 z7 z8 z9 z10 z11 z12 z13
                  have HW21 := Lib.hid hw21
                  clear x0 x1 x2 x3 hb20 hN21 hb21 hw21
                  go_wp2_with fail
                  rw [HW21.out]
                  go_ret
                  exact ⟨rfl, HF.out⟩
                · have hd0 : decide (d < 0) = false := decide_eq_false h1
                  by_cases h2 : (nd : Int) ≤ d
                  · have hd1 : decide ((nd : Int) ≤ d) = true := decide_eq_true h2
                    clear hin h1 h2
                    have hez : ∀ W, (binOp .eql 35 (.agg #[.int .i64 0, .int .i64 0, .int .i64 0, .int .i64 0, .int .i64 0, .int .i64 0, .bool false, .int .i64 0, .int .i64 0, .int .i64 0, .int .u64 0, .int .u64 0, .int .u64 0, .int .u64 0]) (.agg #[.int .i64 0, .int .i64 0, .int .i64 0, .int .i64 0, .int .i64 0, .int .i64 0, .bool false, .int .i64 0, .int .i64 0, .int .i64 0, .int .u64 0, .int .u64 0, .int .u64 0, .int .u64 0])).run Tryz.prog W = .ok (.bool true) W := fun W => (eql_uber18 0 0 0 0 ptrZ ptrZ W).trans (by rw [show ((0 : Int) == 0 && ((0 : Int) == 0 && ptrEq ptrZ ptrZ)) = true by decide +kernel])
                    go_wp2_with fail
                    refine HONB.out.mono ?_
                    rintro e w20 ⟨rfl, hb20⟩
                    obtain ⟨w21, hw21⟩ : ∃ z, w20.alloc (.cells #[.int .i64 0, .int .i64 0, .int .i64 0, .int .i64 0, .int .i64 0, .int .i64 0, .bool false, .int .i64 0, .int .i64 0, .int .i64 0, .int .u64 0, .int .u64 0, .int .u64 0, .int .u64 0] 35) = z := ⟨_, rfl⟩
                    have hN21 : Blk w21 w20.heap.size 35 #[.int .i64 0, .int .i64 0, .int .i64 0, .int .i64 0, .int .i64 0, .int .i64 0, .bool false, .int .i64 0, .int .i64 0, .int .i64 0, .int .u64 0, .int .u64 0, .int .u64 0, .int .u64 0] := by rw [← hw21]; exact Blk.new _ _ _
                    have hb21 : Below wq.heap.size wq w21 := by rw [← hw21]; exact keep_alloc hb20 _
                    have z0 := (hN21).at_ (i := 0) (v := .int .i64 0) rfl
                    have z1 := (hN21).at_ (i := 1) (v := .int .i64 0) rfl
                    have z2 := (hN21).at_ (i := 2) (v := .int .i64 0) rfl
                    have z3 := (hN21).at_ (i := 3) (v := .int .i64 0) rfl
                    have z4 := (hN21).at_ (i := 4) (v := .int .i64 0) rfl
                    have z5 := (hN21).at_ (i := 5) (v := .int .i64 0) rfl
                    have z6 := (hN21).at_ (i := 6) (v := .bool false) rfl
                    have z7 := (hN21).at_ (i := 7) (v := .int .i64 0) rfl
                    have z8 := (hN21).at_ (i := 8) (v := .int .i64 0) rfl
                    have z9 := (hN21).at_ (i := 9) (v := .int .i64 0) rfl
                    have z10 := (hN21).at_ (i := 10) (v := .int .u64 0) rfl
                    have z11 := (hN21).at_ (i := 11) (v := .int .u64 0) rfl
                    have z12 := (hN21).at_ (i := 12) (v := .int .u64 0) rfl
                    have z13 := (hN21).at_ (i := 13) (v := .int .u64 0) rfl
                    have fr0 := (hN21).fr 0
                    have fr1 := (hN21).fr 1
                    have fr2 := (hN21).fr 2
                    have fr3 := (hN21).fr 3
                    have fr4 := (hN21).fr 4
                    have fr5 := (hN21).fr 5
                    have fr6 := (hN21).fr 6
                    have fr7 := (hN21).fr 7
                    have fr8 := (hN21).fr 8
                    have fr9 := (hN21).fr 9
                    have fr10 := (hN21).fr 10
                    have fr11 := (hN21).fr 11
                    have fr12 := (hN21).fr 12
                    have fr13 := (hN21).fr 13
                    have HF := Lib.hid (keep_below hb21 HQ.out.2.2.2.2.1)
                    rw [← hw21] at z0 z1 z2 z3 z4 z5 z6 z7 z8 z9 z10 z11 z12 z13
                    have HW21 := Lib.hid hw21
                    clear x0 x1 x2 x3 hb20 hN21 hb21 hw21
                    go_wp2_with fail
                    rw [HW21.out]
                    go_ret
                    exact ⟨rfl, HF.out⟩
                  · have hd1 : decide ((nd : Int) ≤ d) = false := decide_eq_false h2
                    by_cases h3 : slot < 0
                    · have hs0 : decide (slot < 0) = true := decide_eq_true h3
                      clear hin h1 h2 h3
                      have hez : ∀ W, (binOp .eql 35 (.agg #[.int .i64 0, .int .i64 0, .int .i64 0, .int .i64 0, .int .i64 0, .int .i64 0, .bool false, .int .i64 0, .int .i64 0, .int .i64 0, .int .u64 0, .int .u64 0, .int .u64 0, .int .u64 0]) (.agg #[.int .i64 0, .int .i64 0, .int .i64 0, .int .i64 0, .int .i64 0, .int .i64 0, .bool false, .int .i64 0, .int .i64 0, .int .i64 0, .int .u64 0, .int .u64 0, .int .u64 0, .int .u64 0])).run Tryz.prog W = .ok (.bool true) W := fun W => (eql_uber18 0 0 0 0 ptrZ ptrZ W).trans (by rw [show ((0 : Int) == 0 && ((0 : Int) == 0 && ptrEq ptrZ ptrZ)) = true by decide +kernel])
                      go_wp2_with fail
                      refine HONB.out.mono ?_
                      rintro e w20 ⟨rfl, hb20⟩
                      obtain ⟨w21, hw21⟩ : ∃ z, w20.alloc (.cells #[.int .i64 0, .int .i64 0, .int .i64 0, .int .i64 0, .int .i64 0, .int .i64 0, .bool false, .int .i64 0, .int .i64 0, .int .i64 0, .int .u64 0, .int .u64 0, .int .u64 0, .int .u64 0] 35) = z := ⟨_, rfl⟩
                      have hN21 : Blk w21 w20.heap.size 35 #[.int .i64 0, .int .i64 0, .int .i64 0, .int .i64 0, .int .i64 0, .int .i64 0, .bool false, .int .i64 0, .int .i64 0, .int .i64 0, .int .u64 0, .int .u64 0, .int .u64 0, .int .u64 0] := by rw [← hw21]; exact Blk.new _ _ _
                      have hb21 : Below wq.heap.size wq w21 := by rw [← hw21]; exact keep_alloc hb20 _
                      have z0 := (hN21).at_ (i := 0) (v := .int .i64 0) rfl
                      have z1 := (hN21).at_ (i := 1) (v := .int .i64 0) rfl
                      have z2 := (hN21).at_ (i := 2) (v := .int .i64 0) rfl
                      have z3 := (hN21).at_ (i := 3) (v := .int .i64 0) rfl
                      have z4 := (hN21).at_ (i := 4) (v := .int .i64 0) rfl
                      have z5 := (hN21).at_ (i := 5) (v := .int .i64 0) rfl
                      have z6 := (hN21).at_ (i := 6) (v := .bool false) rfl
                      have z7 := (hN21).at_ (i := 7) (v := .int .i64 0) rfl
                      have z8 := (hN21).at_ (i := 8) (v := .int .i64 0) rfl
                      have z9 := (hN21).at_ (i := 9) (v := .int .i64 0) rfl
                      have z10 := (hN21).at_ (i := 10) (v := .int .u64 0) rfl
                      have z11 := (hN21).at_ (i := 11) (v := .int .u64 0) rfl
                      have z12 := (hN21).at_ (i := 12) (v := .int .u64 0) rfl
                      have z13 := (hN21).at_ (i := 13) (v := .int .u64 0) rfl
                      have fr0 := (hN21).fr 0
                      have fr1 := (hN21).fr 1
                      have fr2 := (hN21).fr 2
                      have fr3 := (hN21).fr 3
                      have fr4 := (hN21).fr 4
                      have fr5 := (hN21).fr 5
                      have fr6 := (hN21).fr 6
                      have fr7 := (hN21).fr 7
                      have fr8 := (hN21).fr 8
                      have fr9 := (hN21).fr 9
                      have fr10 := (hN21).fr 10
                      have fr11 := (hN21).fr 11
                      have fr12 := (hN21).fr 12
                      have fr13 := (hN21).fr 13
                      have HF := Lib.hid (keep_below hb21 HQ.out.2.2.2.2.1)
                      rw [← hw21] at z0 z1 z2 z3 z4 z5 z6 z7 z8 z9 z10 z11 z12 z13
                      have HW21 := Lib.hid hw21
                      clear x0 x1 x2 x3 hb20 hN21 hb21 hw21
                      go_wp2_with fail
                      rw [HW21.out]
                      go_ret
                      exact ⟨rfl, HF.out⟩
                    · have hs0 : decide (slot < 0) = false := decide_eq_false h3
                      have hs1 : decide ((3 : Int) < slot) = true := decide_eq_true (by omega)
                      clear hin h1 h2 h3
                      have hez : ∀ W, (binOp .eql 35 (.agg #[.int .i64 0, .int .i64 0, .int .i64 0, .int .i64 0, .int .i64 0, .int .i64 0, .bool false, .int .i64 0, .int .i64 0, .int .i64 0, .int .u64 0, .int .u64 0, .int .u64 0, .int .u64 0]) (.agg #[.int .i64 0, .int .i64 0, .int .i64 0, .int .i64 0, .int .i64 0, .int .i64 0, .bool false, .int .i64 0, .int .i64 0, .int .i64 0, .int .u64 0, .int .u64 0, .int .u64 0, .int .u64 0])).run Tryz.prog W = .ok (.bool true) W := fun W => (eql_uber18 0 0 0 0 ptrZ ptrZ W).trans (by rw [show ((0 : Int) == 0 && ((0 : Int) == 0 && ptrEq ptrZ ptrZ)) = true by decide +kernel])
                      go_wp2_with fail
                      refine HONB.out.mono ?_
                      rintro e w20 ⟨rfl, hb20⟩
                      obtain ⟨w21, hw21⟩ : ∃ z, w20.alloc (.cells #[.int .i64 0, .int .i64 0, .int .i64 0, .int .i64 0, .int .i64 0, .int .i64 0, .bool false, .int .i64 0, .int .i64 0, .int .i64 0, .int .u64 0, .int .u64 0, .int .u64 0, .int .u64 0] 35) = z := ⟨_, rfl⟩
                      have hN21 : Blk w21 w20.heap.size 35 #[.int .i64 0, .int .i64 0, .int .i64 0, .int .i64 0, .int .i64 0, .int .i64 0, .bool false, .int .i64 0, .int .i64 0, .int .i64 0, .int .u64 0, .int .u64 0, .int .u64 0, .int .u64 0] := by rw [← hw21]; exact Blk.new _ _ _
                      have hb21 : Below wq.heap.size wq w21 := by rw [← hw21]; exact keep_alloc hb20 _
                      have z0 := (hN21).at_ (i := 0) (v := .int .i64 0) rfl
                      have z1 := (hN21).at_ (i := 1) (v := .int .i64 0) rfl
                      have z2 := (hN21).at_ (i := 2) (v := .int .i64 0) rfl
                      have z3 := (hN21).at_ (i := 3) (v := .int .i64 0) rfl
                      have z4 := (hN21).at_ (i := 4) (v := .int .i64 0) rfl
                      have z5 := (hN21).at_ (i := 5) (v := .int .i64 0) rfl
                      have z6 := (hN21).at_ (i := 6) (v := .bool false) rfl
                      have z7 := (hN21).at_ (i := 7) (v := .int .i64 0) rfl
                      have z8 := (hN21).at_ (i := 8) (v := .int .i64 0) rfl
                      have z9 := (hN21).at_ (i := 9) (v := .int .i64 0) rfl
                      have z10 := (hN21).at_ (i := 10) (v := .int .u64 0) rfl
                      have z11 := (hN21).at_ (i := 11) (v := .int .u64 0) rfl
                      have z12 := (hN21).at_ (i := 12) (v := .int .u64 0) rfl
                      have z13 := (hN21).at_ (i := 13) (v := .int .u64 0) rfl
                      have fr0 := (hN21).fr 0
                      have fr1 := (hN21).fr 1
                      have fr2 := (hN21).fr 2
                      have fr3 := (hN21).fr 3
                      have fr4 := (hN21).fr 4
                      have fr5 := (hN21).fr 5
                      have fr6 := (hN21).fr 6
                      have fr7 := (hN21).fr 7
                      have fr8 := (hN21).fr 8
                      have fr9 := (hN21).fr 9
                      have fr10 := (hN21).fr 10
                      have fr11 := (hN21).fr 11
                      have fr12 := (hN21).fr 12
                      have fr13 := (hN21).fr 13
                      have HF := Lib.hid (keep_below hb21 HQ.out.2.2.2.2.1)
                      rw [← hw21] at z0 z1 z2 z3 z4 z5 z6 z7 z8 z9 z10 z11 z12 z13
                      have HW21 := Lib.hid hw21
                      clear x0 x1 x2 x3 hb20 hN21 hb21 hw21
                      go_wp2_with fail
                      rw [HW21.out]
                      go_ret
                      exact ⟨rfl, HF.out⟩
end Go.Proofs.YtlpbbjjibnbooaaGreatDoor
