/-
  The statement VdevAway, walked.
-/
import Derived.Test.YtppccdbfnhgdbaaJ19
import Derived.Test.YtppccdbfnhgdbaaJ20
namespace Go.Proofs.Ytppccdbfnhgdbaa
set_option linter.unusedVariables false
set_option linter.unusedSimpArgs false
open Go.RowKit

theorem slAt_nil (w : World) : SlAt w (.slice none 0 0) ([] : List Bool).length (boolC []) := ⟨none, 0, rfl, Nat.le_refl _, fun h => absurd h (Nat.lt_irrefl 0)⟩
set_option maxRecDepth 100000 in
set_option maxHeartbeats 4000000 in
theorem vdevAway_any (A : Option Addr) (m c : Nat) (gs : List (Int × Int)) (secs pg pa : Int) (s t : List UInt8) (dev : Nat) (hdev : dev ≤ 255) (hsl : s.length ≤ 9223372036854775807) (htl : t.length ≤ 9223372036854775807) {w : World} (hg : GeoAt w A m gs) :
    Calls Try.prog 3 #[.agg #[.slice A m c, .int .i64 secs], .agg #[.int .i64 pg, .int .i64 pa], str s, str t, .int .u8 dev] w fun e w' => e = .returned (.bool true) ∧ Below w.heap.size w w' := by
  obtain ⟨w2, hw2⟩ : ∃ z, (w.alloc (.cells #[.slice A m c, .int .i64 secs] 24)).alloc (.cells #[.int .i64 pg, .int .i64 pa] 26) = z := ⟨_, rfl⟩
  have B1 : Blk w2 w.heap.size 24 #[.slice A m c, .int .i64 secs] := by rw [← hw2]; exact (Blk.new _ _ _).alloc _
  have B2 : Blk w2 (w.heap.size + 1) 26 #[.int .i64 pg, .int .i64 pa] := by rw [← hw2]; exact Blk.new2 _ _ _ _
  have D2 : Below w.heap.size w w2 := by rw [← hw2]; exact keep_alloc (keep_alloc (Below.refl _ _) _) _
  have hs2 : w2.heap.size = w.heap.size + 2 := by rw [← hw2]; simp
  have HB1 := Lib.hid B1
  have HB2 := Lib.hid B2
  have HD2 := Lib.hid D2
  have HW2 := Lib.hid hw2
  have HS2 := Lib.hid hs2
  have HG := Lib.hid hg
  clear hg B1 B2 D2 hw2 hs2
  go_enter Try.func3, Try.ntmps3
  by_cases h1 : 1000 < s.length
  · have hd1 : decide ((1000 : Int) < s.length) = true := decide_eq_true (by omega)
    clear h1
    go_wp2_with fail
    rw [HW2.out]
    refine (awake08_any w2).mono ?_
    rintro e w3 ⟨rfl, hb3⟩
    have HB3 := Lib.hid hb3
    clear hb3
    go_wp2_with fail
    refine (awake08_any w3).mono ?_
    rintro e w4 ⟨rfl, hb4⟩
    have HB4 := Lib.hid (keep_below (keep_below hb4 HB3.out) HD2.out)
    clear hb4
    go_wp2_with fail
    go_ret
    exact ⟨rfl, HB4.out⟩
  have hd1 : decide ((1000 : Int) < s.length) = false := decide_eq_false (by omega)
  by_cases h2 : 1000 < t.length
  · have hd2 : decide ((1000 : Int) < t.length) = true := decide_eq_true (by omega)
    clear h1 h2
    go_wp2_with fail
    rw [HW2.out]
    refine (awake08_any w2).mono ?_
    rintro e w3 ⟨rfl, hb3⟩
    have HB3 := Lib.hid hb3
    clear hb3
    go_wp2_with fail
    refine (awake08_any w3).mono ?_
    rintro e w4 ⟨rfl, hb4⟩
    have HB4 := Lib.hid (keep_below (keep_below hb4 HB3.out) HD2.out)
    clear hb4
    go_wp2_with fail
    go_ret
    exact ⟨rfl, HB4.out⟩
  have hd2 : decide ((1000 : Int) < t.length) = false := decide_eq_false (by omega)
  by_cases h3 : s.length = t.length
  · have hd3 : ((s.length : Int) != t.length) = false := by rw [bne_eq_false_iff_eq]; omega
    have HL := Lib.hid h3
    have HL1 : Hid (s.length ≤ 1000) := Lib.hid (by omega)
    clear h1 h2 h3 hsl htl
    go_wp2_with fail
    rw [HW2.out]
    refine (awake08_any w2).mono ?_
    rintro e w3 ⟨rfl, hb3⟩
    have HB3 := Lib.hid hb3
    clear hb3
    have g0 := (HB1.out.below HB3.out HB1.out.lt).at_ (i := 0) (v := .slice A m c) rfl
    have g1 := (HB1.out.below HB3.out HB1.out.lt).at_ (i := 1) (v := .int .i64 secs) rfl
    cases hr : (gRight gs secs && decide (secs ≤ 200)) with
    | false =>
      have HDV := Lib.hid (devices_bad (c := c) ((HG.out.below HD2.out (Nat.le_refl _)).below HB3.out (Nat.le_refl _)) hr (.slice none 0 0) (.slice none 0 0))
      clear hr
      go_wp2_with fail
      refine HDV.out.mono ?_
      rintro e w4 ⟨rfl, hb4⟩
      have HB4 := Lib.hid (keep_below (keep_below hb4 HB3.out) HD2.out)
      clear hb4 g0 g1
      go_wp2_with fail
      go_ret
      exact ⟨rfl, keep_alloc HB4.out _⟩
    | true =>
      simp only [Bool.and_eq_true, decide_eq_true_eq] at hr
      obtain ⟨hrr, hs200⟩ := hr
      have hbd := gRight_parts hrr
      obtain ⟨sc, rfl⟩ := Int.eq_ofNat_of_zero_le (show 0 ≤ secs by omega)
      obtain ⟨n, hn⟩ := Int.eq_ofNat_of_zero_le (Int.le_of_lt (gSum_pos hrr))
      have HDV := Lib.hid (devices_any (c := c) ((HG.out.below HD2.out (Nat.le_refl _)).below HB3.out (Nat.le_refl _)) hrr (by omega) hn (slAt_nil w3) (slAt_nil w3))
      have HP : Hid (gRight gs sc = true ∧ gSum gs = n ∧ 24 ≤ sc ∧ sc ≤ 200 ∧ n ≤ 32 ∧ 0 < n) := Lib.hid ⟨hrr, hn, by omega, by omega, by have := (gSum_bd (gs := gs) (fun x hx => by have := gOne_true (hbd.2.2.2.2 x hx); omega)).2; omega, by have := gSum_pos hrr; omega⟩
      clear hrr hs200 hbd hn
      go_wp2_with fail
      refine HDV.out.mono ?_
      rintro e w4 ⟨y, S, U0, hv, rfl, hys, hysec, hyn, hV, hub, hhv, hya, hb4⟩
      subst hysec
      subst hyn
      rw [awT_nil, lsT_nil] at hV
      clear g0 g1 HDV
      have HYA := Lib.hid hya
      subst hys
      obtain ⟨w5, hw5⟩ : ∃ z, w4.alloc (.cells y.cells 31) = z := ⟨_, rfl⟩
      have hX5 : Blk w5 w4.heap.size 31 y.cells := by rw [← hw5]; exact Blk.new _ _ _
      have hb45 : Below w4.heap.size w4 w5 := by rw [← hw5]; exact keep_alloc (Below.refl _ _) _
      have hs5 : w5.heap.size = w4.heap.size + 1 := by rw [← hw5]; simp
      obtain ⟨U, hU⟩ : ∃ U, U = more U0 w4 w5 := ⟨_, rfl⟩
      have hV5 := hV.more hb45
      rw [← hU] at hV5
      have HV5 := Lib.hid hV5
      have HUL : Hid (∀ b, b < w.heap.size + 2 → U b) := Lib.hid (fun b hb => by rw [hU]; exact .inl (hub b (by have := HS2.out; have := HB3.out.size; omega)))
      have HUX : Hid (U w4.heap.size) := Lib.hid (by rw [hU]; exact .inr ⟨Nat.le_refl _, by omega⟩)
      have HUB : Hid (∀ b, b < w3.heap.size → U b) := Lib.hid (fun b hb => by rw [hU]; exact .inl (hub b hb))
      have HK5 : Hid (KX w w5 A m c y.secs pg pa y w4.heap.size) := Lib.hid (by
        have b13 := HB1.out.below HB3.out HB1.out.lt
        have b23 := HB2.out.below HB3.out HB2.out.lt
        have b14 := b13.below hb4 b13.lt
        have b24 := b23.below hb4 b23.lt
        exact ⟨b14.below hb45 b14.lt, b24.below hb45 b24.lt, hX5, keep_below hb45 (keep_below hb4 (keep_below HB3.out HD2.out))⟩)
      have HXL : Hid (w.heap.size + 2 ≤ y.ab ∧ y.ab < w4.heap.size) := Lib.hid ⟨by have := HYA.out; have := HS2.out; have := HB3.out.size; omega, hV.us _ hV.ua⟩
      have HHV := Lib.hid (And.intro hhv (And.intro hb45 hU))
      have HW5 := Lib.hid hw5
      clear hw5 hX5 hb45 hs5 hU hV5 hV hub hhv hb4 hya
      have k5 := HK5.out
      rw [← HW5.out] at k5
      have x0 := (k5).x.at_ (i := 0) (v := .slice (some ⟨y.gb, 0, none⟩) y.m y.cc) rfl
      have x1 := (k5).x.at_ (i := 1) (v := .int .i64 y.secs) rfl
      have x2 := (k5).x.at_ (i := 2) (v := .slice (some ⟨y.lb, 0, none⟩) y.bd.length y.lc) rfl
      have x3 := (k5).x.at_ (i := 3) (v := .slice (some ⟨y.ab, 0, none⟩) y.bd.length y.bd.length) rfl
      have p0 := (k5).p.at_ (i := 0) (v := .int .i64 pg) rfl
      have p1 := (k5).p.at_ (i := 1) (v := .int .i64 pa) rfl
      have hok : DsOk 0 y.secs (List.replicate y.bd.length (DevD.blank y.secs 0)) := blanks_ok (by have := HP.out; omega) (by have := HP.out; omega)
      have HWR := Lib.hid (vwrite_any HV5.out hok (by decide) (by have := HP.out; omega) pg pa s (by have := HL1.out; omega))
      obtain ⟨E1, hE1⟩ : ∃ E1, wE y.gs y.secs pg pa s (hereD (List.replicate y.bd.length false) (List.replicate y.bd.length (DevD.blank y.secs 0))) y.bd.length = E1 := ⟨_, rfl⟩
      obtain ⟨N1, hN1⟩ : ∃ N1, wN y.gs y.secs pg pa s (hereD (List.replicate y.bd.length false) (List.replicate y.bd.length (DevD.blank y.secs 0))) y.bd.length = N1 := ⟨_, rfl⟩
      rw [hE1, hN1] at HWR
      have HE1 := Lib.hid hE1
      clear hE1 hN1 k5 hok
      go_wp2_with fail
      rw [HW5.out]
      refine HWR.out.mono ?_
      rintro e w6 ⟨rfl, ⟨S6, hV6⟩, hst6⟩
      clear x0 x1 x2 x3 p0 p1 HWR
      by_cases hz : E1 = 0
      · subst hz
        have hz1 := wE_zero HE1.out
        obtain ⟨L, hL⟩ : ∃ L, L = ofList y.gs y.secs pg pa (secN s) := ⟨_, rfl⟩
        obtain ⟨ds1, hd1⟩ : ∃ ds1, ds1 = wrTo (List.replicate y.bd.length false) L (encL y.gs y.secs pg pa s) (List.replicate y.bd.length (DevD.blank y.secs 0)) L.length := ⟨_, rfl⟩
        have hwd : wD y.gs y.secs pg pa s (List.replicate y.bd.length false) (List.replicate y.bd.length (DevD.blank y.secs 0)) = ds1 := by unfold wD; rw [if_pos hz1, hd1, hL]
        rw [hwd] at hV6
        obtain ⟨q, hq⟩ : ∃ q, dev % y.bd.length = q := ⟨_, rfl⟩
        have hqn : q < y.bd.length := by rw [← hq]; exact Nat.mod_lt _ HP.out.2.2.2.2.2
        have hrem := rem_eq y.bd.length hq
        have hn0 : ((y.bd.length : Int) == 0) = false := by rw [beq_eq_false_iff_ne]; have := HP.out; omega
        have HK6 := Lib.hid (HK5.out.stays hst6 HUL.out HUX.out)
        have x0 := (HK6.out).x.at_ (i := 0) (v := .slice (some ⟨y.gb, 0, none⟩) y.m y.cc) rfl
        have x1 := (HK6.out).x.at_ (i := 1) (v := .int .i64 y.secs) rfl
        have x2 := (HK6.out).x.at_ (i := 2) (v := .slice (some ⟨y.lb, 0, none⟩) y.bd.length y.lc) rfl
        have x3 := (HK6.out).x.at_ (i := 3) (v := .slice (some ⟨y.ab, 0, none⟩) y.bd.length y.bd.length) rfl
        have p0 := (HK6.out).p.at_ (i := 0) (v := .int .i64 pg) rfl
        have p1 := (HK6.out).p.at_ (i := 1) (v := .int .i64 pa) rfl
        have c8 : w6.cell? ⟨y.ab, q, none⟩ = some (.bool false) := hV6.box.at_ (by simp [hqn])
        have z8 : w6.frozen? ⟨y.ab, q, none⟩ = false := hV6.box.fr q
        have HV6 := Lib.hid hV6
        have HQ := Lib.hid hqn
        have HD1 := Lib.hid (And.intro hL (And.intro hd1 hz1))
        clear hV6 hst6 hz1 hL hd1 hwd hq
        have k7 := HK6.out.far (b := y.ab) HXL.out.1 (by have := HXL.out.2; omega) q (.bool true)
        have x0 := (k7).x.at_ (i := 0) (v := .slice (some ⟨y.gb, 0, none⟩) y.m y.cc) rfl
        have x1 := (k7).x.at_ (i := 1) (v := .int .i64 y.secs) rfl
        have x2 := (k7).x.at_ (i := 2) (v := .slice (some ⟨y.lb, 0, none⟩) y.bd.length y.lc) rfl
        have x3 := (k7).x.at_ (i := 3) (v := .slice (some ⟨y.ab, 0, none⟩) y.bd.length y.bd.length) rfl
        have p0 := (k7).p.at_ (i := 0) (v := .int .i64 pg) rfl
        have p1 := (k7).p.at_ (i := 1) (v := .int .i64 pa) rfl
        have hV7 := HV6.out.away q true
        have hok1 : DsOk 64 y.secs ds1 := by
          have h64 : L.length ≤ 64 := by rw [HD1.out.1]; exact ofList_le _ _ _ _ _
          rw [HD1.out.2.1]
          exact (wrTo_ok (blanks_ok (by have := HP.out; omega) (by have := HP.out; omega)) _).mono (by omega)
        have HWR := Lib.hid (vwrite_any hV7 hok1 (by decide) (by have := HP.out; omega) pg pa t (by have := HL1.out; have := HL.out; omega))
        obtain ⟨E2, hE2⟩ : ∃ E2, wE y.gs y.secs pg pa t (hereD ((List.replicate y.bd.length false).set q true) ds1) y.bd.length = E2 := ⟨_, rfl⟩
        obtain ⟨N2, hN2⟩ : ∃ N2, wN y.gs y.secs pg pa t (hereD ((List.replicate y.bd.length false).set q true) ds1) y.bd.length = N2 := ⟨_, rfl⟩
        rw [hE2, hN2] at HWR
        have HK7 := Lib.hid k7
        clear hE2 hN2 k7 hok1 hV7
        go_wp2_with fail
        refine HWR.out.mono ?_
        rintro e w8 ⟨rfl, ⟨S8, hV8⟩, hst8⟩
        clear x0 x1 x2 x3 p0 p1 HWR
        clear x0 x1 x2 x3 p0 p1
        obtain ⟨ds2, hd2⟩ : ∃ ds2, ds2 = wrTo ((List.replicate y.bd.length false).set q true) L (encL y.gs y.secs pg pa t) ds1 L.length := ⟨_, rfl⟩
        have hz2 : encE y.gs y.secs pg pa t = 0 := by rw [← encE_len HL.out]; exact HD1.out.2.2
        have hwd : wD y.gs y.secs pg pa t ((List.replicate y.bd.length false).set q true) ds1 = ds2 := by unfold wD; rw [if_pos hz2, hd2, HD1.out.1, secN_len HL.out]
        rw [hwd] at hV8
        have HK8 := Lib.hid (HK7.out.stays hst8 HUL.out HUX.out)
        have x0 := (HK8.out).x.at_ (i := 0) (v := .slice (some ⟨y.gb, 0, none⟩) y.m y.cc) rfl
        have x1 := (HK8.out).x.at_ (i := 1) (v := .int .i64 y.secs) rfl
        have x2 := (HK8.out).x.at_ (i := 2) (v := .slice (some ⟨y.lb, 0, none⟩) y.bd.length y.lc) rfl
        have x3 := (HK8.out).x.at_ (i := 3) (v := .slice (some ⟨y.ab, 0, none⟩) y.bd.length y.bd.length) rfl
        have p0 := (HK8.out).p.at_ (i := 0) (v := .int .i64 pg) rfl
        have p1 := (HK8.out).p.at_ (i := 1) (v := .int .i64 pa) rfl
        have hqn := HQ.out
        have d8 : w8.cell? ⟨y.ab, q, none⟩ = some (.bool true) := hV8.box.at_ (by simp [hqn])
        have y8 : w8.frozen? ⟨y.ab, q, none⟩ = false := hV8.box.fr q
        have k9 := HK8.out.far (b := y.ab) HXL.out.1 (by have := HXL.out.2; omega) q (.bool false)
        have x0 := (k9).x.at_ (i := 0) (v := .slice (some ⟨y.gb, 0, none⟩) y.m y.cc) rfl
        have x1 := (k9).x.at_ (i := 1) (v := .int .i64 y.secs) rfl
        have x2 := (k9).x.at_ (i := 2) (v := .slice (some ⟨y.lb, 0, none⟩) y.bd.length y.lc) rfl
        have x3 := (k9).x.at_ (i := 3) (v := .slice (some ⟨y.ab, 0, none⟩) y.bd.length y.bd.length) rfl
        have p0 := (k9).p.at_ (i := 0) (v := .int .i64 pg) rfl
        have p1 := (k9).p.at_ (i := 1) (v := .int .i64 pa) rfl
        have hV9 := hV8.away q false
        rw [set_back] at hV9
        have hrw := vraw_any hV9 (by have := HP.out; omega) pg pa (secN s)
        rw [ofErr_good (encE_zero HD1.out.2.2).2.1] at hrw
        have HRW := Lib.hid hrw
        have HV8 := Lib.hid (And.intro hz2 hd2)
        have HK9 := Lib.hid k9
        have hsq : Int.tdiv (s.length : Int) 64 = (secN s : Int) := rfl
        have hs15 : secN s ≤ 15 := by have := HL1.out; unfold secN; omega
        clear hV8 hst8 hwd hV9 hz2 hd2 k9 hrw
        go_wp2_with fail
        refine HRW.out.mono ?_
        rintro e w10 ⟨rv, rfl, hrv, hb10, _⟩
        clear x0 x1 x2 x3 p0 p1 HRW
        clear x0 x1 x2 x3 p0 p1
        have HRV := Lib.hid hrv
        have HK10 := Lib.hid (HK9.out.below hb10)
        have HEN := Lib.hid (encode_any A m c y.gs y.secs pg pa s (HG.out.below HK10.out.bel (Nat.le_refl _)) (by have := HL1.out; omega))
        have HOZ := Lib.hid (encE_zero HD1.out.2.2)
        have g0 := HK10.out.g.at_ (i := 0) (v := .slice A m c) rfl
        have g1 := HK10.out.g.at_ (i := 1) (v := .int .i64 y.secs) rfl
        have p0 := HK10.out.p.at_ (i := 0) (v := .int .i64 pg) rfl
        have p1 := HK10.out.p.at_ (i := 1) (v := .int .i64 pa) rfl
        clear hrv hb10
        go_wp2_with fail
        refine HEN.out.mono ?_
        rintro e w11 ⟨av, rfl, hav, hb11, _⟩
        clear g0 g1 p0 p1 HEN
        rw [HOZ.out.2.2, encL_len, ← HD1.out.1] at hav
        have HAV := Lib.hid hav
        have HRV11 := Lib.hid (HRV.out.below hb11)
        have HK11 := Lib.hid (HK10.out.below hb11)
        have HEN := Lib.hid (encode_any A m c y.gs y.secs pg pa t (HG.out.below HK11.out.bel (Nat.le_refl _)) (by have := HL1.out; have := HL.out; omega))
        have HOZ2 := Lib.hid (encE_zero HV8.out.1)
        have g0 := HK11.out.g.at_ (i := 0) (v := .slice A m c) rfl
        have g1 := HK11.out.g.at_ (i := 1) (v := .int .i64 y.secs) rfl
        have p0 := HK11.out.p.at_ (i := 0) (v := .int .i64 pg) rfl
        have p1 := HK11.out.p.at_ (i := 1) (v := .int .i64 pa) rfl
        clear hav hb11
        go_wp2_with fail
        refine HEN.out.mono ?_
        rintro e w12 ⟨bv, rfl, hbv, hb12, _⟩
        clear g0 g1 p0 p1 HEN
        rw [HOZ2.out.2.2, encL_len, ← secN_len HL.out, ← HD1.out.1] at hbv
        have HBV := Lib.hid hbv
        have HRV12 := Lib.hid (HRV11.out.below hb12)
        have HAV12 := Lib.hid (HAV.out.below hb12)
        have HK12 := Lib.hid (HK11.out.below hb12)
        have HOF := Lib.hid (refOf_any A m c y.gs y.secs pg pa (secN s) w12 (HG.out.below HK12.out.bel (Nat.le_refl _)) HOZ.out.2.1)
        have g0 := HK12.out.g.at_ (i := 0) (v := .slice A m c) rfl
        have g1 := HK12.out.g.at_ (i := 1) (v := .int .i64 y.secs) rfl
        have p0 := HK12.out.p.at_ (i := 0) (v := .int .i64 pg) rfl
        have p1 := HK12.out.p.at_ (i := 1) (v := .int .i64 pa) rfl
        clear hbv hb12
        go_wp2_with fail
        refine HOF.out.mono ?_
        rintro e w13 ⟨cv, rfl, hcv, hb13⟩
        clear g0 g1 p0 p1 HOF
        have hLc : colsOf y.gs y.secs pg pa (secN s) = L := by rw [HD1.out.1]; unfold ofList; rw [if_pos HOZ.out.2.1]
        rw [hLc] at hcv
        have hr1 := HRV12.out.below hb13
        have hrl : rawL y.gs y.secs pg pa (secN s) (List.replicate y.bd.length false) ds2 = L.map (rdC (List.replicate y.bd.length false) ds2) := by unfold rawL; rw [← HD1.out.1]
        rw [hrl, List.length_map] at hr1
        have ha1 := HAV12.out.below hb13
        have hb1 := HBV.out.below hb13
        have HB13 := Lib.hid (HK12.out.below hb13).bel
        obtain ⟨rA, rc, rfl⟩ := hr1.form
        obtain ⟨aA, ac, rfl⟩ := ha1.form
        obtain ⟨bA, bc, rfl⟩ := hb1.form
        obtain ⟨cA, cc, rfl⟩ := (slAt_own hcv).form
        have HC := Lib.hid (slAt_own hcv)
        have HR := Lib.hid hr1
        have HA := Lib.hid ha1
        have HBB := Lib.hid hb1
        have hL64 : L.length ≤ 64 := by rw [HD1.out.1]; exact ofList_le _ _ _ _ _
        have HVAL : Hid (∀ (k : Nat) (x : Col), L[k]? = some x → ∃ i : Nat, x.1 = i ∧ ∃ ra rb, (encL y.gs y.secs pg pa s)[k]? = some ra ∧ (encL y.gs y.secs pg pa t)[k]? = some rb ∧ rdC (List.replicate y.bd.length false) ds2 x = if i = q then ra else rb) := Lib.hid (fun k x hx => by
          have h1 := away_read HP.out.1 HP.out.2.1 HD1.out.2.2 HL.out (by have := HP.out; omega) (by have := HP.out; omega) HQ.out HD1.out.1 HD1.out.2.1 HV8.out.2 hx
          have hk := (List.getElem?_eq_some_iff.1 hx).1
          obtain ⟨c1, _⟩ := (cols_of HP.out.1 HP.out.2.1 HD1.out.2.2).inn k x (by rw [← HD1.out.1]; exact hx)
          have hka : k < (encL y.gs y.secs pg pa s).length := by rw [encL_len, ← HD1.out.1]; exact hk
          have hkb : k < (encL y.gs y.secs pg pa t).length := by rw [encL_len, ← secN_len HL.out, ← HD1.out.1]; exact hk
          refine ⟨x.1.toNat, by omega, _, _, List.getElem?_eq_getElem hka, List.getElem?_eq_getElem hkb, ?_⟩
          rw [h1, List.getD_eq_getElem?_getD, List.getD_eq_getElem?_getD, List.getElem?_eq_getElem hka, List.getElem?_eq_getElem hkb]
          by_cases e : x.1 = q
          · rw [if_pos e, if_pos (by omega)]; rfl
          · rw [if_neg e, if_neg (by omega)]; rfl)
        clear hcv hr1 ha1 hb1 hb13 hLc hrl
        go_wp2_with fail
        go_loopw [24] (fun t wr => ∃ k : Nat, k ≤ L.length ∧ t = .int .i64 k ∧ Below w13.heap.size w13 wr) (fun t _ => L.length - (RowKit.intOf t).toNat)
        case atStart => exact ⟨0, Nat.zero_le _, rfl, Below.refl _ _⟩
        case round =>
          obtain ⟨k, hk, rfl, hb⟩ := hrel
          by_cases hlt : k < L.length
          · obtain ⟨x, hx⟩ : ∃ x, L[k]? = some x := ⟨_, List.getElem?_eq_getElem hlt⟩
            obtain ⟨i, hxi, ra, rb, hra, hrb, hrd⟩ := HVAL.out k x hx
            obtain ⟨b1, o1, rfl, hl1, hc1⟩ := HR.out.cells (by omega)
            obtain ⟨b2, o2, rfl, hl2, hc2⟩ := HA.out.cells (by omega)
            obtain ⟨b3, o3, rfl, hl3, hc3⟩ := HBB.out.cells (by omega)
            obtain ⟨b4, o4, rfl, hl4, hc4⟩ := HC.out.cells (by omega)
            have e1 := hc1 k (str (if i = q then ra else rb)) (strC_at (by rw [List.getElem?_map, hx]; simp [hrd]))
            have e2 := hc2 k (str ra) (strC_at hra)
            have e3 := hc3 k (str rb) (strC_at hrb)
            have e4 := hc4 _ _ (colsCells_at hx).1
            rw [hxi] at e4
            have hdc : decide (k < L.length) = true := decide_eq_true hlt
            have HB := Lib.hid hb
            have HLT := Lib.hid hlt
            obtain ⟨C, hCd, hCw, hCB, hCK, hCD⟩ := cls_below wr
            have ff : ∀ (W : World) (b o : Nat) (u : Value), C W → w13.cell? ⟨b, o, none⟩ = some u → b < w13.heap.size → W.cell? ⟨b, o, none⟩ = some u := fun W b o u hW hc hl => keep_cell (hCB W hW) (keep_cell HB.out hc hl) (Nat.lt_of_lt_of_le hl HB.out.size)
            by_cases hiq : i = q
            · rw [if_pos hiq] at e1
              subst hiq
              have f1 : ∀ W, C W → W.cell? ⟨b1, o1 + k, none⟩ = some (str ra) := fun W h => ff W _ _ _ h e1 hl1
              have f2 : ∀ W, C W → W.cell? ⟨b2, o2 + k, none⟩ = some (str ra) := fun W h => ff W _ _ _ h e2 hl2
              have f3 : ∀ W, C W → W.cell? ⟨b3, o3 + k, none⟩ = some (str rb) := fun W h => ff W _ _ _ h e3 hl3
              have f4 : ∀ W, C W → W.cell? ⟨b4, o4 + k * 4, none⟩ = some (.int .i64 i) := fun W h => ff W _ _ _ h e4 hl4
              clear hc1 hc2 hc3 hc4 e1 e2 e3 e4 hx hxi hra hrb hrd hb ff hCw hCK hCD
              go_wp2_with fail
              refine wp_region_cls C (by kernel_rfl) (by kernel_rfl) hCd ?_
              repeat (first
                | go_big_quiet_skip
                | (go_big_quiet_want
                   go_big_quiet_op
                   first
                     | go_big_quiet_on
                     | (apply Exists.intro
                        refine ⟨fun W hW => ?_, ?_⟩
                        · first
                            | exact rfl
                            | exact ⟨rfl, rfl⟩
                            | (have e0 := f1 W hW; have e1 := f2 W hW; have e2 := f3 W hW; have e3 := f4 W hW; simp only [e0, e1, e2, e3, Result.andThen_ok]; done)
                            | (have e0 := f1 W hW; have e1 := f2 W hW; have e2 := f3 W hW; have e3 := f4 W hW; simp only [e0, e1, e2, e3, Result.andThen_ok]; first | exact ⟨trivial, rfl⟩ | exact rfl | exact ⟨rfl, rfl⟩)
                            | (skip)
                        go_big_quiet_on)))
              refine wpQuiet_nil ?_
              intro wz hwz
              have HBZ := Lib.hid (HB.out.trans ((hCB wz hwz).mono HB.out.size))
              clear f1 f2 f3 f4 hCd hCB hwz
              go_wp2_with fail
              go_roundw
              case rel => exact ⟨k + 1, HLT.out, by go_num, HBZ.out⟩
              case measure => have := HLT.out; simp [RowKit.intOf]; omega
            · rw [if_neg hiq] at e1
              have hq1 : ((i : Int) == q) = false := by rw [beq_eq_false_iff_ne]; omega
              have hq2 : ((i : Int) != q) = true := by rw [bne_iff_ne]; omega
              have f1 : ∀ W, C W → W.cell? ⟨b1, o1 + k, none⟩ = some (str rb) := fun W h => ff W _ _ _ h e1 hl1
              have f2 : ∀ W, C W → W.cell? ⟨b2, o2 + k, none⟩ = some (str ra) := fun W h => ff W _ _ _ h e2 hl2
              have f3 : ∀ W, C W → W.cell? ⟨b3, o3 + k, none⟩ = some (str rb) := fun W h => ff W _ _ _ h e3 hl3
              have f4 : ∀ W, C W → W.cell? ⟨b4, o4 + k * 4, none⟩ = some (.int .i64 i) := fun W h => ff W _ _ _ h e4 hl4
              clear hc1 hc2 hc3 hc4 e1 e2 e3 e4 hx hxi hra hrb hrd hb ff hCw hCK hCD hiq
              go_wp2_with fail
              refine wp_region_cls C (by kernel_rfl) (by kernel_rfl) hCd ?_
              repeat (first
                | go_big_quiet_skip
                | (go_big_quiet_want
                   go_big_quiet_op
                   first
                     | go_big_quiet_on
                     | (apply Exists.intro
                        refine ⟨fun W hW => ?_, ?_⟩
                        · first
                            | exact rfl
                            | exact ⟨rfl, rfl⟩
                            | (have e0 := f1 W hW; have e1 := f2 W hW; have e2 := f3 W hW; have e3 := f4 W hW; simp only [e0, e1, e2, e3, Result.andThen_ok]; done)
                            | (have e0 := f1 W hW; have e1 := f2 W hW; have e2 := f3 W hW; have e3 := f4 W hW; simp only [e0, e1, e2, e3, Result.andThen_ok]; first | exact ⟨trivial, rfl⟩ | exact rfl | exact ⟨rfl, rfl⟩)
                            | (skip)
                        go_big_quiet_on)))
              refine wpQuiet_nil ?_
              intro wz hwz
              have HBZ := Lib.hid (HB.out.trans ((hCB wz hwz).mono HB.out.size))
              clear f1 f2 f3 f4 hCd hCB hwz
              go_wp2_with fail
              go_roundw
              case rel => exact ⟨k + 1, HLT.out, by go_num, HBZ.out⟩
              case measure => have := HLT.out; simp [RowKit.intOf]; omega
          · obtain rfl : k = L.length := by omega
            have hdc : decide ((L.length : Int) < L.length) = false := decide_eq_false (by omega)
            have HBF := Lib.hid (keep_below hb HB13.out)
            clear hb
            go_wp2_with fail
            go_ret
            exact ⟨rfl, HBF.out⟩
      · have hz2 : (E1 != 0) = true := bne_iff_ne.2 hz
        have HBF : Hid (Below w.heap.size w w6) := Lib.hid (HK5.out.bel.trans (hst6.below HK5.out.bel.size (fun i hi => HUL.out i (by omega))))
        clear hV6 hst6 hz
        go_wp2_with fail
        go_ret
        exact ⟨rfl, HBF.out⟩
  · have hd3 : ((s.length : Int) != t.length) = true := by rw [bne_iff_ne]; omega
    clear h1 h2 h3
    go_wp2_with fail
    rw [HW2.out]
    refine (awake08_any w2).mono ?_
    rintro e w3 ⟨rfl, hb3⟩
    have HB3 := Lib.hid hb3
    clear hb3
    go_wp2_with fail
    refine (awake08_any w3).mono ?_
    rintro e w4 ⟨rfl, hb4⟩
    have HB4 := Lib.hid (keep_below (keep_below hb4 HB3.out) HD2.out)
    clear hb4
    go_wp2_with fail
    go_ret
    exact ⟨rfl, HB4.out⟩
end Go.Proofs.Ytppccdbfnhgdbaa
