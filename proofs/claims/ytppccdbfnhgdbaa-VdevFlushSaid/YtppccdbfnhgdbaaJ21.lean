/-
  The statement VdevFlush, walked.
-/
import Derived.Test.YtppccdbfnhgdbaaJ20
namespace Go.Proofs.Ytppccdbfnhgdbaa
set_option linter.unusedVariables false
set_option linter.unusedSimpArgs false
open Go.RowKit

theorem slAt_nil' (w : World) : SlAt w (.slice none 0 0) ([] : List Bool).length (boolC []) := ⟨none, 0, rfl, Nat.le_refl _, fun h => absurd h (Nat.lt_irrefl 0)⟩
set_option maxRecDepth 100000 in
set_option maxHeartbeats 4000000 in
theorem vdevFlush_any (A : Option Addr) (m c : Nat) (gs : List (Int × Int)) (secs pg pa : Int) (s t : List UInt8) (hsl : s.length ≤ 9223372036854775807) (htl : t.length ≤ 9223372036854775807) {w : World} (hg : GeoAt w A m gs) :
    Calls Try.prog 5 #[.agg #[.slice A m c, .int .i64 secs], .agg #[.int .i64 pg, .int .i64 pa], str s, str t] w fun e w' => e = .returned (.bool true) ∧ Below w.heap.size w w' := by
  obtain ⟨w2, hw2⟩ : ∃ z, (w.alloc (.cells #[.slice A m c, .int .i64 secs] 24)).alloc (.cells #[.int .i64 pg, .int .i64 pa] 26) = z := ⟨_, rfl⟩
  have B1 : Blk w2 w.heap.size 24 #[.slice A m c, .int .i64 secs] := by rw [← hw2]; exact (Blk.new _ _ _).alloc _
  have B2 : Blk w2 (w.heap.size + 1) 26 #[.int .i64 pg, .int .i64 pa] := by rw [← hw2]; exact Blk.new2 _ _ _ _
  have D2 : Below w.heap.size w w2 := by rw [← hw2]; exact keep_alloc (keep_alloc (Below.refl _ _) _) _
  have hs2 : w2.heap.size = w.heap.size + 2 := by rw [← hw2]; simp
  have HB1 := Lib.hid B1
  have HB2 := Lib.hid B2
  have HD2 := Lib.hid D2
  have HW2 := Lib.hid hw2
  have HS2 := Lib.hid hs2
  have HG := Lib.hid hg
  clear hg B1 B2 D2 hw2 hs2
  go_enter Try.func5, Try.ntmps5
  by_cases h1 : 1000 < s.length
  · have hd1 : decide ((1000 : Int) < s.length) = true := decide_eq_true (by omega)
    clear h1
    go_wp2_with fail
    rw [HW2.out]
    refine (awake08_any w2).mono ?_
    rintro e w3 ⟨rfl, hb3⟩
    have HB3 := Lib.hid hb3
    clear hb3
    go_wp2_with fail
    refine (awake08_any w3).mono ?_
    rintro e w4 ⟨rfl, hb4⟩
    have HB4 := Lib.hid (keep_below (keep_below hb4 HB3.out) HD2.out)
    clear hb4
    go_wp2_with fail
    go_ret
    exact ⟨rfl, HB4.out⟩
  have hd1 : decide ((1000 : Int) < s.length) = false := decide_eq_false (by omega)
  by_cases h2 : 1000 < t.length
  · have hd2 : decide ((1000 : Int) < t.length) = true := decide_eq_true (by omega)
    clear h1 h2
    go_wp2_with fail
    rw [HW2.out]
    refine (awake08_any w2).mono ?_
    rintro e w3 ⟨rfl, hb3⟩
    have HB3 := Lib.hid hb3
    clear hb3
    go_wp2_with fail
    refine (awake08_any w3).mono ?_
    rintro e w4 ⟨rfl, hb4⟩
    have HB4 := Lib.hid (keep_below (keep_below hb4 HB3.out) HD2.out)
    clear hb4
    go_wp2_with fail
    go_ret
    exact ⟨rfl, HB4.out⟩
  have hd2 : decide ((1000 : Int) < t.length) = false := decide_eq_false (by omega)
  by_cases h3 : s.length = t.length
  · have hd3 : ((s.length : Int) != t.length) = false := by rw [bne_eq_false_iff_eq]; omega
    have HL := Lib.hid h3
    have HL1 : Hid (s.length ≤ 1000) := Lib.hid (by omega)
    clear h1 h2 h3 hsl htl
    go_wp2_with fail
    rw [HW2.out]
    refine (awake08_any w2).mono ?_
    rintro e w3 ⟨rfl, hb3⟩
    have HB3 := Lib.hid hb3
    clear hb3
    have g0 := (HB1.out.below HB3.out HB1.out.lt).at_ (i := 0) (v := .slice A m c) rfl
    have g1 := (HB1.out.below HB3.out HB1.out.lt).at_ (i := 1) (v := .int .i64 secs) rfl
    cases hr : (gRight gs secs && decide (secs ≤ 200)) with
    | false =>
      have HDV := Lib.hid (devices_bad (c := c) ((HG.out.below HD2.out (Nat.le_refl _)).below HB3.out (Nat.le_refl _)) hr (.slice none 0 0) (.slice none 0 0))
      clear hr
      go_wp2_with fail
      refine HDV.out.mono ?_
      rintro e w4 ⟨rfl, hb4⟩
      have HB4 := Lib.hid (keep_below (keep_below hb4 HB3.out) HD2.out)
      clear hb4 g0 g1
      go_wp2_with fail
      go_ret
      exact ⟨rfl, keep_alloc HB4.out _⟩
    | true =>
      simp only [Bool.and_eq_true, decide_eq_true_eq] at hr
      obtain ⟨hrr, hs200⟩ := hr
      have hbd := gRight_parts hrr
      obtain ⟨sc, rfl⟩ := Int.eq_ofNat_of_zero_le (show 0 ≤ secs by omega)
      obtain ⟨n, hn⟩ := Int.eq_ofNat_of_zero_le (Int.le_of_lt (gSum_pos hrr))
      have HDV := Lib.hid (devices_any (c := c) ((HG.out.below HD2.out (Nat.le_refl _)).below HB3.out (Nat.le_refl _)) hrr (by omega) hn (slAt_nil' w3) (slAt_nil' w3))
      have HP : Hid (gRight gs sc = true ∧ gSum gs = n ∧ 24 ≤ sc ∧ sc ≤ 200 ∧ n ≤ 32 ∧ 0 < n) := Lib.hid ⟨hrr, hn, by omega, by omega, by have := (gSum_bd (gs := gs) (fun x hx => by have := gOne_true (hbd.2.2.2.2 x hx); omega)).2; omega, by have := gSum_pos hrr; omega⟩
      clear hrr hs200 hbd hn
      go_wp2_with fail
      refine HDV.out.mono ?_
      rintro e w4 ⟨y, S, U0, hv, rfl, hys, hysec, hyn, hV, hub, hhv, hya, hb4⟩
      subst hysec
      subst hyn
      rw [awT_nil, lsT_nil] at hV
      clear g0 g1 HDV
      have HYA := Lib.hid hya
      subst hys
      obtain ⟨w5, hw5⟩ : ∃ z, w4.alloc (.cells y.cells 31) = z := ⟨_, rfl⟩
      have hX5 : Blk w5 w4.heap.size 31 y.cells := by rw [← hw5]; exact Blk.new _ _ _
      have hb45 : Below w4.heap.size w4 w5 := by rw [← hw5]; exact keep_alloc (Below.refl _ _) _
      have hs5 : w5.heap.size = w4.heap.size + 1 := by rw [← hw5]; simp
      obtain ⟨U, hU⟩ : ∃ U, U = more U0 w4 w5 := ⟨_, rfl⟩
      have hV5 := hV.more hb45
      rw [← hU] at hV5
      have HV5 := Lib.hid hV5
      have HUL : Hid (∀ b, b < w.heap.size + 2 → U b) := Lib.hid (fun b hb => by rw [hU]; exact .inl (hub b (by have := HS2.out; have := HB3.out.size; omega)))
      have HUX : Hid (U w4.heap.size) := Lib.hid (by rw [hU]; exact .inr ⟨Nat.le_refl _, by omega⟩)
      have HUB : Hid (∀ b, b < w3.heap.size → U b) := Lib.hid (fun b hb => by rw [hU]; exact .inl (hub b hb))
      have HK5 : Hid (KX w w5 A m c y.secs pg pa y w4.heap.size) := Lib.hid (by
        have b13 := HB1.out.below HB3.out HB1.out.lt
        have b23 := HB2.out.below HB3.out HB2.out.lt
        have b14 := b13.below hb4 b13.lt
        have b24 := b23.below hb4 b23.lt
        exact ⟨b14.below hb45 b14.lt, b24.below hb45 b24.lt, hX5, keep_below hb45 (keep_below hb4 (keep_below HB3.out HD2.out))⟩)
      have HXL : Hid (w.heap.size + 2 ≤ y.ab ∧ y.ab < w4.heap.size) := Lib.hid ⟨by have := HYA.out; have := HS2.out; have := HB3.out.size; omega, hV.us _ hV.ua⟩
      have HHV := Lib.hid (And.intro hhv (And.intro hb45 hU))
      have HW5 := Lib.hid hw5
      clear hw5 hX5 hb45 hs5 hU hV5 hV hub hhv hb4 hya
      have k5 := HK5.out
      rw [← HW5.out] at k5
      have x0 := (k5).x.at_ (i := 0) (v := .slice (some ⟨y.gb, 0, none⟩) y.m y.cc) rfl
      have x1 := (k5).x.at_ (i := 1) (v := .int .i64 y.secs) rfl
      have x2 := (k5).x.at_ (i := 2) (v := .slice (some ⟨y.lb, 0, none⟩) y.bd.length y.lc) rfl
      have x3 := (k5).x.at_ (i := 3) (v := .slice (some ⟨y.ab, 0, none⟩) y.bd.length y.bd.length) rfl
      have p0 := (k5).p.at_ (i := 0) (v := .int .i64 pg) rfl
      have p1 := (k5).p.at_ (i := 1) (v := .int .i64 pa) rfl
      have hok : DsOk 0 y.secs (List.replicate y.bd.length (DevD.blank y.secs 0)) := blanks_ok (by have := HP.out; omega) (by have := HP.out; omega)
      have HWR := Lib.hid (vwrite_any HV5.out hok (by decide) (by have := HP.out; omega) pg pa s (by have := HL1.out; omega))
      obtain ⟨E1, hE1⟩ : ∃ E1, wE y.gs y.secs pg pa s (hereD (List.replicate y.bd.length false) (List.replicate y.bd.length (DevD.blank y.secs 0))) y.bd.length = E1 := ⟨_, rfl⟩
      obtain ⟨N1, hN1⟩ : ∃ N1, wN y.gs y.secs pg pa s (hereD (List.replicate y.bd.length false) (List.replicate y.bd.length (DevD.blank y.secs 0))) y.bd.length = N1 := ⟨_, rfl⟩
      rw [hE1, hN1] at HWR
      have HE1 := Lib.hid hE1
      clear hE1 hN1 k5 hok
      go_wp2_with fail
      rw [HW5.out]
      refine HWR.out.mono ?_
      rintro e w6 ⟨rfl, ⟨S6, hV6⟩, hst6⟩
      clear x0 x1 x2 x3 p0 p1 HWR
      by_cases hz : E1 = 0
      · subst hz
        have hz1 := wE_zero HE1.out
        obtain ⟨L, hL⟩ : ∃ L, L = ofList y.gs y.secs pg pa (secN s) := ⟨_, rfl⟩
        obtain ⟨ds1, hd1⟩ : ∃ ds1, ds1 = wrTo (List.replicate y.bd.length false) L (encL y.gs y.secs pg pa s) (List.replicate y.bd.length (DevD.blank y.secs 0)) L.length := ⟨_, rfl⟩
        have hwd : wD y.gs y.secs pg pa s (List.replicate y.bd.length false) (List.replicate y.bd.length (DevD.blank y.secs 0)) = ds1 := by unfold wD; rw [if_pos hz1, hd1, hL]
        rw [hwd] at hV6
        have hok1 : DsOk 64 y.secs ds1 := by
          have h64 : L.length ≤ 64 := by rw [hL]; exact ofList_le _ _ _ _ _
          rw [hd1]
          exact (wrTo_ok (blanks_ok (by have := HP.out; omega) (by have := HP.out; omega)) _).mono (by omega)
        have hfl := vflush_any hV6 hok1 (by have := HP.out; omega)
        have hgone : goneN (List.replicate y.bd.length false) ds1 y.bd.length = 0 := by
          unfold goneN
          rw [List.length_eq_zero_iff, List.filter_eq_nil_iff]
          intro i hi
          rw [hd1, wrTo_hereD, here_blank (List.mem_range.1 hi)]
          simp
        have hfe : flEr 0 y.bd.length = 0 := if_neg (by have := HP.out; omega)
        rw [hgone, hfe] at hfl
        have HFL := Lib.hid hfl
        have HK6 := Lib.hid (HK5.out.stays hst6 HUL.out HUX.out)
        have HD1 := Lib.hid (And.intro hL (And.intro hd1 (And.intro hz1 hok1)))
        have x0 := (HK6.out).x.at_ (i := 0) (v := .slice (some ⟨y.gb, 0, none⟩) y.m y.cc) rfl
        have x1 := (HK6.out).x.at_ (i := 1) (v := .int .i64 y.secs) rfl
        have x2 := (HK6.out).x.at_ (i := 2) (v := .slice (some ⟨y.lb, 0, none⟩) y.bd.length y.lc) rfl
        have x3 := (HK6.out).x.at_ (i := 3) (v := .slice (some ⟨y.ab, 0, none⟩) y.bd.length y.bd.length) rfl
        have p0 := (HK6.out).p.at_ (i := 0) (v := .int .i64 pg) rfl
        have p1 := (HK6.out).p.at_ (i := 1) (v := .int .i64 pa) rfl
        clear hV6 hst6 hz1 hL hd1 hwd hok1 hfl hgone hfe
        go_wp2_with fail
        refine HFL.out.mono ?_
        rintro e w7 ⟨rfl, ⟨S7, hV7⟩, hst7⟩
        clear x0 x1 x2 x3 p0 p1 HFL
        obtain ⟨ds2, hd2⟩ : ∃ ds2, ds2 = flD (List.replicate y.bd.length false) ds1 := ⟨_, rfl⟩
        rw [← hd2] at hV7
        have hok2 : DsOk 64 y.secs ds2 := by rw [hd2]; exact flD_ok HD1.out.2.2.2 _
        have HWR := Lib.hid (vwrite_any hV7 hok2 (by decide) (by have := HP.out; omega) pg pa t (by have := HL1.out; have := HL.out; omega))
        obtain ⟨E2, hE2⟩ : ∃ E2, wE y.gs y.secs pg pa t (hereD (List.replicate y.bd.length false) ds2) y.bd.length = E2 := ⟨_, rfl⟩
        obtain ⟨N2, hN2⟩ : ∃ N2, wN y.gs y.secs pg pa t (hereD (List.replicate y.bd.length false) ds2) y.bd.length = N2 := ⟨_, rfl⟩
        rw [hE2, hN2] at HWR
        have HK7 := Lib.hid (HK6.out.stays hst7 HUL.out HUX.out)
        have HD2' := Lib.hid (And.intro hd2 hok2)
        have x0 := (HK7.out).x.at_ (i := 0) (v := .slice (some ⟨y.gb, 0, none⟩) y.m y.cc) rfl
        have x1 := (HK7.out).x.at_ (i := 1) (v := .int .i64 y.secs) rfl
        have x2 := (HK7.out).x.at_ (i := 2) (v := .slice (some ⟨y.lb, 0, none⟩) y.bd.length y.lc) rfl
        have x3 := (HK7.out).x.at_ (i := 3) (v := .slice (some ⟨y.ab, 0, none⟩) y.bd.length y.bd.length) rfl
        have p0 := (HK7.out).p.at_ (i := 0) (v := .int .i64 pg) rfl
        have p1 := (HK7.out).p.at_ (i := 1) (v := .int .i64 pa) rfl
        clear hV7 hst7 hok2 hE2 hN2 hd2
        go_wp2_with fail
        refine HWR.out.mono ?_
        rintro e w8 ⟨rfl, ⟨S8, hV8⟩, hst8⟩
        clear x0 x1 x2 x3 p0 p1 HWR
        obtain ⟨ds3, hd3⟩ : ∃ ds3, ds3 = wrTo (List.replicate y.bd.length false) L (encL y.gs y.secs pg pa t) ds2 L.length := ⟨_, rfl⟩
        have hz2 : encE y.gs y.secs pg pa t = 0 := by rw [← encE_len HL.out]; exact HD1.out.2.2.1
        have hwd : wD y.gs y.secs pg pa t (List.replicate y.bd.length false) ds2 = ds3 := by unfold wD; rw [if_pos hz2, hd3, HD1.out.1, secN_len HL.out]
        rw [hwd] at hV8
        have hok3 : DsOk 128 y.secs ds3 := by
          have h64 : L.length ≤ 64 := by rw [HD1.out.1]; exact ofList_le _ _ _ _ _
          rw [hd3]
          exact (wrTo_ok HD2'.out.2 _).mono (by omega)
        have HV8 := Lib.hid hV8
        have HK8 := Lib.hid (HK7.out.stays hst8 HUL.out HUX.out)
        have HD3 := Lib.hid (And.intro hd3 (And.intro hok3 hz2))
        clear hV8 hst8 hok3 hd3 hwd hz2
        have hn32 : y.bd.length ≤ 32 := by have := HP.out; omega
        go_wp2_with fail
        go_loopw [16] (fun t wr => ∃ (k : Nat) (S' : Nat → Nat → Prop), k ≤ y.bd.length ∧ t = .int .i64 k ∧ VdIn wr S' U y (List.replicate y.bd.length false) (turnTo (fun d => d.crash []) ds3 k) ∧ Stays U w8 wr) (fun t _ => y.bd.length - (RowKit.intOf t).toNat)
        case atStart => exact ⟨0, S8, Nat.zero_le _, rfl, by rw [turnTo_zero]; exact HV8.out, stays_refl _⟩
        case round =>
          obtain ⟨k, S', hk, rfl, hV, hst⟩ := hrel
          have kr := HK8.out.stays hst HUL.out HUX.out
          have x0 := (kr).x.at_ (i := 0) (v := .slice (some ⟨y.gb, 0, none⟩) y.m y.cc) rfl
          have x1 := (kr).x.at_ (i := 1) (v := .int .i64 y.secs) rfl
          have x2 := (kr).x.at_ (i := 2) (v := .slice (some ⟨y.lb, 0, none⟩) y.bd.length y.lc) rfl
          have x3 := (kr).x.at_ (i := 3) (v := .slice (some ⟨y.ab, 0, none⟩) y.bd.length y.bd.length) rfl
          have p0 := (kr).p.at_ (i := 0) (v := .int .i64 pg) rfl
          have p1 := (kr).p.at_ (i := 1) (v := .int .i64 pa) rfl
          by_cases hlt : k < y.bd.length
          · have hdc : decide (k < y.bd.length) = true := decide_eq_true hlt
            obtain ⟨d, hd⟩ : ∃ d, ds3[k]? = some d := ⟨_, List.getElem?_eq_getElem (by have := HV8.out.n2; omega)⟩
            have hdk : (turnTo (fun d => d.crash []) ds3 k)[k]? = some d := by rw [turnTo_at, hd]; simp
            obtain ⟨_, b, _, hb, _, hdev, hrow, _⟩ := hV.parts hdk
            obtain ⟨o1, o2, o3, o4⟩ := HD3.out.2.1 d (List.mem_of_getElem? hd)
            have HCR := Lib.hid (crash_any hdev o1 (fun j => Nat.le_trans (o4 j) (by decide)) (keepAt_nil wr (S' k)))
            have HT : Hid (turnTo (fun d => d.crash []) ds3 (k + 1) = (turnTo (fun d => d.crash []) ds3 k).set k (d.crash [])) := Lib.hid (turnTo_step hd)
            have HLN : Hid ((d.crash []).med.length = y.secs) := Lib.hid (by rw [crash_med]; exact o2)
            have HV := Lib.hid hV
            have HST := Lib.hid hst
            have HBB := Lib.hid hb
            have HLT := Lib.hid hlt
            clear kr hd hdk hb hdev o1 o2 o3 o4 hV hst
            go_wp2_with fail
            refine HCR.out.mono ?_
            rintro e w9 ⟨rfl, hd9, ho9⟩
            have HV9 := Lib.hid (HV.out.step HBB.out ho9 (hd9.more ho9.size (fun b hb => HV.out.lt k b hb)) HLN.out)
            have HS9 := Lib.hid (HST.out.trans (Only.mono ho9 (fun g hg hS hU => HV.out.fx k g hS hU) : Stays U wr w9))
            clear hd9 ho9 hrow x0 x1 x2 x3 p0 p1
            go_wp2_with fail
            go_roundw
            case rel => exact ⟨k + 1, _, HLT.out, by go_num, by rw [HT.out]; exact HV9.out, HS9.out⟩
            case measure => have := HLT.out; simp [RowKit.intOf]; omega
          · obtain rfl : k = y.bd.length := by omega
            have hdc : decide ((y.bd.length : Int) < y.bd.length) = false := decide_eq_false (by omega)
            obtain ⟨ds4, hd4⟩ : ∃ ds4, ds4 = turnTo (fun d => d.crash []) ds3 y.bd.length := ⟨_, rfl⟩
            rw [← hd4] at hV
            have hfr := flush_read HP.out.1 HP.out.2.1 HD1.out.2.2.1 (by have := HP.out; omega) (by have := HP.out; omega) HD1.out.1 HD1.out.2.1 HD2'.out.1 HD3.out.1 hd4
            have hrw := vraw_any hV (by have := HP.out; omega) pg pa (secN s)
            have hrl : rawL y.gs y.secs pg pa (secN s) (List.replicate y.bd.length false) ds4 = encL y.gs y.secs pg pa s := by unfold rawL; rw [← HD1.out.1]; exact hfr
            rw [ofErr_good (encE_zero HD1.out.2.2.1).2.1, hrl] at hrw
            have HRW := Lib.hid hrw
            have HKR := Lib.hid kr
            have hsq : Int.tdiv (s.length : Int) 64 = (secN s : Int) := rfl
            have hs15 : secN s ≤ 15 := by have := HL1.out; unfold secN; omega
            clear kr hV hst hlt hd4 hfr hrw hrl
            go_wp2_with fail
            refine HRW.out.mono ?_
            rintro e w9 ⟨rv, rfl, hrv, hb9, _⟩
            obtain ⟨rA, rc, rfl⟩ := hrv.form
            clear x0 x1 x2 x3 p0 p1 HRW
            have HK9 := Lib.hid (HKR.out.below hb9)
            have hbad := bad_any A m c y.gs y.secs pg pa s (HG.out.below HK9.out.bel (Nat.le_refl _)) hrv (by have := HL1.out; omega)
            rw [bad_enc] at hbad
            have HBAD := Lib.hid hbad
            have HRV := Lib.hid hrv
            have g0 := HK9.out.g.at_ (i := 0) (v := .slice A m c) rfl
            have g1 := HK9.out.g.at_ (i := 1) (v := .int .i64 y.secs) rfl
            have p0 := HK9.out.p.at_ (i := 0) (v := .int .i64 pg) rfl
            have p1 := HK9.out.p.at_ (i := 1) (v := .int .i64 pa) rfl
            clear hbad hrv hb9
            go_wp2_with fail
            refine HBAD.out.mono ?_
            rintro e w10 ⟨bv, rfl, hbv, hb10⟩
            obtain ⟨bA, bc, rfl⟩ := (slAt_own hbv).form
            clear g0 g1 p0 p1 HBAD hbv
            have HK10 := Lib.hid (HK9.out.below hb10)
            have hfit := fits_any A m c y.gs y.secs pg pa (secN s) (HG.out.below HK10.out.bel (Nat.le_refl _)) (HRV.out.below hb10)
            rw [fits_enc HD1.out.2.2.1] at hfit
            have HFIT := Lib.hid hfit
            have g0 := HK10.out.g.at_ (i := 0) (v := .slice A m c) rfl
            have g1 := HK10.out.g.at_ (i := 1) (v := .int .i64 y.secs) rfl
            have p0 := HK10.out.p.at_ (i := 0) (v := .int .i64 pg) rfl
            have p1 := HK10.out.p.at_ (i := 1) (v := .int .i64 pa) rfl
            clear hfit hb10
            go_wp2_with fail
            refine HFIT.out.mono ?_
            rintro e w11 ⟨rfl, hb11⟩
            have HBF := Lib.hid (HK10.out.below hb11).bel
            clear g0 g1 p0 p1 hb11
            go_wp2_with fail
            go_ret
            exact ⟨rfl, HBF.out⟩
      · have hz2 : (E1 != 0) = true := bne_iff_ne.2 hz
        have HBF : Hid (Below w.heap.size w w6) := Lib.hid (HK5.out.bel.trans (hst6.below HK5.out.bel.size (fun i hi => HUL.out i (by omega))))
        clear hV6 hst6 hz
        go_wp2_with fail
        go_ret
        exact ⟨rfl, HBF.out⟩
  · have hd3 : ((s.length : Int) != t.length) = true := by rw [bne_iff_ne]; omega
    clear h1 h2 h3
    go_wp2_with fail
    rw [HW2.out]
    refine (awake08_any w2).mono ?_
    rintro e w3 ⟨rfl, hb3⟩
    have HB3 := Lib.hid hb3
    clear hb3
    go_wp2_with fail
    refine (awake08_any w3).mono ?_
    rintro e w4 ⟨rfl, hb4⟩
    have HB4 := Lib.hid (keep_below (keep_below hb4 HB3.out) HD2.out)
    clear hb4
    go_wp2_with fail
    go_ret
    exact ⟨rfl, HB4.out⟩
end Go.Proofs.Ytppccdbfnhgdbaa
