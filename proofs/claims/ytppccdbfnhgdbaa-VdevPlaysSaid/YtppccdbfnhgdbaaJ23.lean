/-
  The statement VdevPlays, walked.
-/
import Derived.Test.YtppccdbfnhgdbaaJ21
import Derived.Test.YtppccdbfnhgdbaaJ22
namespace Go.Proofs.Ytppccdbfnhgdbaa
set_option linter.unusedVariables false
set_option linter.unusedSimpArgs false
open Go.RowKit

set_option maxRecDepth 100000 in
set_option maxHeartbeats 4000000 in
theorem vdevPlays_any (A : Option Addr) (m c : Nat) (gs : List (Int × Int)) (secs pg pa : Int) (s : List UInt8) (hsl : s.length ≤ 9223372036854775807) {av lv : Value} {al ll : List Bool} (d : Int) (hdb : -9223372036854775808 ≤ d ∧ d ≤ 9223372036854775807) {w : World} (hg : GeoAt w A m gs) (ha : SlAt w av al.length (boolC al)) (hlo : SlAt w lv ll.length (boolC ll)) :
    Calls Try.prog 4 #[.agg #[.slice A m c, .int .i64 secs], .agg #[.int .i64 pg, .int .i64 pa], str s, av, lv, .int .i64 d] w fun e w' => e = .returned (.bool true) ∧ Below w.heap.size w w' := by
  obtain ⟨Aa, ca, rfl⟩ := ha.form
  obtain ⟨Al, cl, rfl⟩ := hlo.form
  have HAL := Lib.hid (And.intro ha hlo)
  clear ha hlo
  obtain ⟨w2, hw2⟩ : ∃ z, (w.alloc (.cells #[.slice A m c, .int .i64 secs] 24)).alloc (.cells #[.int .i64 pg, .int .i64 pa] 26) = z := ⟨_, rfl⟩
  have B1 : Blk w2 w.heap.size 24 #[.slice A m c, .int .i64 secs] := by rw [← hw2]; exact (Blk.new _ _ _).alloc _
  have B2 : Blk w2 (w.heap.size + 1) 26 #[.int .i64 pg, .int .i64 pa] := by rw [← hw2]; exact Blk.new2 _ _ _ _
  have D2 : Below w.heap.size w w2 := by rw [← hw2]; exact keep_alloc (keep_alloc (Below.refl _ _) _) _
  have hs2 : w2.heap.size = w.heap.size + 2 := by rw [← hw2]; simp
  have HB1 := Lib.hid B1
  have HB2 := Lib.hid B2
  have HD2 := Lib.hid D2
  have HW2 := Lib.hid hw2
  have HS2 := Lib.hid hs2
  have HG := Lib.hid hg
  clear hg B1 B2 D2 hw2 hs2
  go_enter Try.func4, Try.ntmps4
  by_cases h1 : 1000 < s.length
  · have hd1 : decide ((1000 : Int) < s.length) = true := decide_eq_true (by omega)
    clear h1
    go_wp2_with fail
    rw [HW2.out]
    refine (awake08_any w2).mono ?_
    rintro e w3 ⟨rfl, hb3⟩
    have HB3 := Lib.hid hb3
    clear hb3
    go_wp2_with fail
    refine (awake08_any w3).mono ?_
    rintro e w4 ⟨rfl, hb4⟩
    have HB4 := Lib.hid (keep_below (keep_below hb4 HB3.out) HD2.out)
    clear hb4
    go_wp2_with fail
    go_ret
    exact ⟨rfl, HB4.out⟩
  have hd1 : decide ((1000 : Int) < s.length) = false := decide_eq_false (by omega)
  have HL1 : Hid (s.length ≤ 1000) := Lib.hid (by omega)
  clear h1 hsl
  go_wp2_with fail
  rw [HW2.out]
  refine (awake08_any w2).mono ?_
  rintro e w3 ⟨rfl, hb3⟩
  have HB3 := Lib.hid hb3
  clear hb3
  have g0 := (HB1.out.below HB3.out HB1.out.lt).at_ (i := 0) (v := .slice A m c) rfl
  have g1 := (HB1.out.below HB3.out HB1.out.lt).at_ (i := 1) (v := .int .i64 secs) rfl
  have HG3 := Lib.hid ((HG.out.below HD2.out (Nat.le_refl _)).below HB3.out (Nat.le_refl _))
  have HA3 := Lib.hid (And.intro ((HAL.out.1.below HD2.out).below HB3.out) ((HAL.out.2.below HD2.out).below HB3.out))
  cases hr : (gRight gs secs && decide (secs ≤ 200)) with
  | false =>
    have HDV := Lib.hid (devices_bad (c := c) HG3.out hr (.slice Aa al.length ca) (.slice Al ll.length cl))
    have hm := HG3.out.1
    have hRR : gRight gs secs = true → 200 < secs ∧ gs.length ≤ 4 := fun h => by
      have h2 := gRight_parts h
      rw [h, Bool.true_and] at hr
      have := of_decide_eq_false hr
      omega
    have HRR := Lib.hid (And.intro hRR hm)
    clear hr hm hRR
    go_wp2_with fail
    refine HDV.out.mono ?_
    rintro e w4 ⟨rfl, hb4⟩
    obtain ⟨w5, hw5⟩ : ∃ z, w4.alloc (.cells vZ 31) = z := ⟨_, rfl⟩
    have hX5 : Blk w5 w4.heap.size 31 vZ := by rw [← hw5]; exact Blk.new _ _ _
    have hb5 : Below w3.heap.size w3 w5 := by rw [← hw5]; exact keep_alloc hb4 _
    have HB5 := Lib.hid (And.intro hb5 hX5)
    have HB5w := Lib.hid (keep_below (keep_below hb5 HB3.out) HD2.out)
    have g0 := keepc g0 hb5
    have g1 := keepc g1 hb5
    have z0 := hX5.at_ (i := 0) (v := .slice none 0 0) rfl
    have z1 := hX5.at_ (i := 1) (v := .int .i64 0) rfl
    have z2 := hX5.at_ (i := 2) (v := .slice none 0 0) rfl
    have z3 := hX5.at_ (i := 3) (v := .slice none 0 0) rfl
    rw [← hw5] at g0 g1 z0 z1 z2 z3
    have HW5 := Lib.hid hw5
    clear hw5 hX5 hb5 hb4
    by_cases hm1 : 100 < m
    · have hd2 : decide ((100 : Int) < m) = true := decide_eq_true (by omega)
      clear hm1
      go_wp2_with fail
      rw [HW5.out]
      go_ret
      exact ⟨rfl, HB5w.out⟩
    have hd2 : decide ((100 : Int) < m) = false := decide_eq_false (by omega)
    by_cases hs2 : 200 < secs
    · have hd3 : decide ((200 : Int) < secs) = true := decide_eq_true hs2
      clear hm1 hs2
      go_wp2_with fail
      rw [HW5.out]
      go_ret
      exact ⟨rfl, HB5w.out⟩
    have hd3 : decide ((200 : Int) < secs) = false := decide_eq_false hs2
    have hnr : gRight gs secs = false := by
      cases h : gRight gs secs with
      | false => rfl
      | true => exact absurd (HRR.out.1 h).1 hs2
    have hRT := refRight_any A m c gs secs w5 (HG3.out.below HB5.out.1 (Nat.le_refl _))
    rw [hnr] at hRT
    have HRT := Lib.hid hRT
    clear hm1 hs2 hnr hRT
    go_wp2_with fail
    rw [HW5.out]
    refine HRT.out.mono ?_
    rintro e w6 ⟨rfl, hb6⟩
    rw [HW5.out] at g0 g1 z0 z1 z2 z3
    have z0 := keepc z0 hb6
    have z1 := keepc z1 hb6
    have z2 := keepc z2 hb6
    have z3 := keepc z3 hb6
    have HB6 := Lib.hid (keep_below hb6 HB5w.out)
    clear hb6 g0 g1
    go_wp2_with fail
    refine (vrightZ w6).mono ?_
    rintro e w7 ⟨rfl, hb7⟩
    have z0 := keepc z0 hb7
    have z1 := keepc z1 hb7
    have z2 := keepc z2 hb7
    have z3 := keepc z3 hb7
    have HB7 := Lib.hid (keep_below hb7 HB6.out)
    clear hb7
    go_wp2_with fail
    refine (vhereZ d w7).mono ?_
    rintro e w8 ⟨rfl, hb8⟩
    have HB8 := Lib.hid (keep_below hb8 HB7.out)
    clear hb8
    go_wp2_with fail
    go_ret
    exact ⟨rfl, HB8.out⟩
  | true =>
    simp only [Bool.and_eq_true, decide_eq_true_eq] at hr
    obtain ⟨hrr, hs200⟩ := hr
    have hbd := gRight_parts hrr
    obtain ⟨sc, rfl⟩ := Int.eq_ofNat_of_zero_le (show 0 ≤ secs by omega)
    obtain ⟨n, hn⟩ := Int.eq_ofNat_of_zero_le (Int.le_of_lt (gSum_pos hrr))
    have HDV := Lib.hid (devices_any (c := c) HG3.out hrr (by omega) hn HA3.out.1 HA3.out.2)
    have HP : Hid (gRight gs sc = true ∧ gSum gs = n ∧ 24 ≤ sc ∧ sc ≤ 200 ∧ n ≤ 32 ∧ 0 < n) := Lib.hid ⟨hrr, hn, by omega, by omega, by have := (gSum_bd (gs := gs) (fun x hx => by have := gOne_true (hbd.2.2.2.2 x hx); omega)).2; omega, by have := gSum_pos hrr; omega⟩
    clear hrr hs200 hbd hn
    go_wp2_with fail
    refine HDV.out.mono ?_
    rintro e w4 ⟨y, S, U0, hv, rfl, hys, hysec, hyn, hV, hub, hhv, hya, hb4⟩
    subst hysec
    subst hyn
    obtain ⟨Ah, ch, rfl⟩ := hhv.form
    clear g0 g1 HDV
    have HU0S := Lib.hid hV.us
    have HYA := Lib.hid hya
    subst hys
    obtain ⟨w5, hw5⟩ : ∃ z, w4.alloc (.cells y.cells 31) = z := ⟨_, rfl⟩
    have hX5 : Blk w5 w4.heap.size 31 y.cells := by rw [← hw5]; exact Blk.new _ _ _
    have hb45 : Below w4.heap.size w4 w5 := by rw [← hw5]; exact keep_alloc (Below.refl _ _) _
    have hs5 : w5.heap.size = w4.heap.size + 1 := by rw [← hw5]; simp
    obtain ⟨U, hU⟩ : ∃ U, U = more U0 w4 w5 := ⟨_, rfl⟩
    have hV5 := hV.more hb45
    rw [← hU] at hV5
    have HV5 := Lib.hid hV5
    have HUL : Hid (∀ b, b < w.heap.size + 2 → U b) := Lib.hid (fun b hb => by rw [hU]; exact .inl (hub b (by have := HS2.out; have := HB3.out.size; omega)))
    have HUX : Hid (U w4.heap.size) := Lib.hid (by rw [hU]; exact .inr ⟨Nat.le_refl _, by omega⟩)
    have HUB : Hid (∀ b, b < w3.heap.size → U b) := Lib.hid (fun b hb => by rw [hU]; exact .inl (hub b hb))
    have HK5 : Hid (KX w w5 A m c y.secs pg pa y w4.heap.size) := Lib.hid (by
      have b13 := HB1.out.below HB3.out HB1.out.lt
      have b23 := HB2.out.below HB3.out HB2.out.lt
      have b14 := b13.below hb4 b13.lt
      have b24 := b23.below hb4 b23.lt
      exact ⟨b14.below hb45 b14.lt, b24.below hb45 b24.lt, hX5, keep_below hb45 (keep_below hb4 (keep_below HB3.out HD2.out))⟩)
    have HXL : Hid (w.heap.size + 2 ≤ y.ab ∧ y.ab < w4.heap.size) := Lib.hid ⟨by have := HYA.out; have := HS2.out; have := HB3.out.size; omega, hV.us _ hV.ua⟩
    have HHV := Lib.hid (And.intro hhv (And.intro hb45 hU))
    have HW5 := Lib.hid hw5
    clear hw5 hX5 hb45 hs5 hU hV5 hV hub hhv hb4 hya
    have k5 := HK5.out
    rw [← HW5.out] at k5
    have x0 := (k5).x.at_ (i := 0) (v := .slice (some ⟨y.gb, 0, none⟩) y.m y.cc) rfl
    have x1 := (k5).x.at_ (i := 1) (v := .int .i64 y.secs) rfl
    have x2 := (k5).x.at_ (i := 2) (v := .slice (some ⟨y.lb, 0, none⟩) y.bd.length y.lc) rfl
    have x3 := (k5).x.at_ (i := 3) (v := .slice (some ⟨y.ab, 0, none⟩) y.bd.length y.bd.length) rfl
    have p0 := (k5).p.at_ (i := 0) (v := .int .i64 pg) rfl
    have p1 := (k5).p.at_ (i := 1) (v := .int .i64 pa) rfl
    have hok : DsOk 0 y.secs (lsT ll (DevD.blank y.secs 0) y.bd.length y.bd.length) := lsT_ok (by have := HP.out; omega) (by have := HP.out; omega)
    have HWR := Lib.hid (vwrite_any HV5.out hok (by decide) (by have := HP.out; omega) pg pa s (by have := HL1.out; omega))
    obtain ⟨aw, haw⟩ : ∃ aw, awT al y.bd.length y.bd.length = aw := ⟨_, rfl⟩
    obtain ⟨ds0, hds0⟩ : ∃ ds0, lsT ll (DevD.blank y.secs 0) y.bd.length y.bd.length = ds0 := ⟨_, rfl⟩
    obtain ⟨hr, hhr⟩ : ∃ hr, hrT al ll y.bd.length = hr := ⟨_, rfl⟩
    have hH0 : ∀ i, i < y.bd.length → hereD aw ds0 i = bAt hr i := fun i hi => by rw [← haw, ← hds0, ← hhr, lsT_here hi, hrT_bAt hi]
    have hrl : hr.length = y.bd.length := by rw [← hhr, hrT_len]
    rw [haw, hds0] at HWR HV5
    rw [hds0] at hok
    rw [hhr] at HHV
    have HH5 : Hid (SlU w5 U (.slice Ah y.bd.length ch) y.bd.length (boolC hr)) := Lib.hid (by
      obtain ⟨a1, a2, a3⟩ := HHV.out
      rw [a3]
      exact (a1.stays (stays_below a2) HU0S.out).mono (fun b h => .inl h))
    obtain ⟨E1, hE1⟩ : ∃ E1, wE y.gs y.secs pg pa s (hereD aw ds0) y.bd.length = E1 := ⟨_, rfl⟩
    obtain ⟨N1, hN1⟩ : ∃ N1, wN y.gs y.secs pg pa s (hereD aw ds0) y.bd.length = N1 := ⟨_, rfl⟩
    rw [hE1, hN1] at HWR
    obtain ⟨ds1, hds1⟩ : ∃ ds1, wD y.gs y.secs pg pa s aw ds0 = ds1 := ⟨_, rfl⟩
    rw [hds1] at HWR
    have hH1 : ∀ i, i < y.bd.length → hereD aw ds1 i = bAt hr i := fun i hi => by
      rw [← hds1]
      unfold wD
      split
      · rw [wrTo_hereD]; exact hH0 i hi
      · exact hH0 i hi
    have hok1 : DsOk 64 y.secs ds1 := by
      rw [← hds1]
      unfold wD
      split
      · have h64 : (ofList y.gs y.secs pg pa (secN s)).length ≤ 64 := ofList_le _ _ _ _ _
        exact (wrTo_ok hok _).mono (by omega)
      · exact hok.mono (by omega)
    have HE1 := Lib.hid (And.intro hE1 (And.intro hN1 hH0))
    have HOK1 := Lib.hid (And.intro hok1 (And.intro hH1 hrl))
    clear hE1 hN1 k5 hok hds1 hH0 hH1 hok1 hrl haw hds0 hhr
    go_wp2_with fail
    rw [HW5.out]
    refine HWR.out.mono ?_
    rintro e w6 ⟨rfl, ⟨S6, hV6⟩, hst6⟩
    clear x0 x1 x2 x3 p0 p1 HWR
    have HK6 := Lib.hid (HK5.out.stays hst6 HUL.out HUX.out)
    have HH6 := Lib.hid (HH5.out.stays hst6 HV5.out.us)
    have hfl := vflush_any hV6 HOK1.out.1 (by have := HP.out; omega)
    rw [goneN_same HOK1.out.2.1] at hfl
    obtain ⟨o, ho⟩ : ∃ o, outN hr y.bd.length = o := ⟨_, rfl⟩
    rw [ho] at hfl
    obtain ⟨F1, hF1⟩ : ∃ F1, flEr o y.bd.length = F1 := ⟨_, rfl⟩
    rw [hF1] at hfl
    have HFL := Lib.hid hfl
    have HO := Lib.hid (And.intro ho hF1)
    clear hF1
    have HUS6 := Lib.hid hV6.us
    have x0 := (HK6.out).x.at_ (i := 0) (v := .slice (some ⟨y.gb, 0, none⟩) y.m y.cc) rfl
    have x1 := (HK6.out).x.at_ (i := 1) (v := .int .i64 y.secs) rfl
    have x2 := (HK6.out).x.at_ (i := 2) (v := .slice (some ⟨y.lb, 0, none⟩) y.bd.length y.lc) rfl
    have x3 := (HK6.out).x.at_ (i := 3) (v := .slice (some ⟨y.ab, 0, none⟩) y.bd.length y.bd.length) rfl
    have p0 := (HK6.out).p.at_ (i := 0) (v := .int .i64 pg) rfl
    have p1 := (HK6.out).p.at_ (i := 1) (v := .int .i64 pa) rfl
    clear hV6 hst6 hfl ho
    go_wp2_with fail
    refine HFL.out.mono ?_
    rintro e w7 ⟨rfl, ⟨S7, hV7⟩, hst7⟩
    clear x0 x1 x2 x3 p0 p1 HFL
    have HK7 := Lib.hid (HK6.out.stays hst7 HUL.out HUX.out)
    have HH7 := Lib.hid ((HH6.out.stays hst7 HUS6.out).to hV7.us)
    obtain ⟨ds2, hds2⟩ : ∃ ds2, flD aw ds1 = ds2 := ⟨_, rfl⟩
    rw [hds2] at hV7
    have hH2 : ∀ i, i < y.bd.length → hereD aw ds2 i = bAt hr i := fun i hi => by
      rw [← hds2]
      unfold flD
      rw [flTo_here]
      exact HOK1.out.2.1 i hi
    have HRI := Lib.hid (vright_any hV7 (by have := HP.out; omega))
    have HHE := Lib.hid (fun (W : World) (hb : Below w7.heap.size w7 W) => vHere_any (hV7.below hb) (by have := HP.out; omega) d)
    have HH2 := Lib.hid hH2
    have x0 := (HK7.out).x.at_ (i := 0) (v := .slice (some ⟨y.gb, 0, none⟩) y.m y.cc) rfl
    have x1 := (HK7.out).x.at_ (i := 1) (v := .int .i64 y.secs) rfl
    have x2 := (HK7.out).x.at_ (i := 2) (v := .slice (some ⟨y.lb, 0, none⟩) y.bd.length y.lc) rfl
    have x3 := (HK7.out).x.at_ (i := 3) (v := .slice (some ⟨y.ab, 0, none⟩) y.bd.length y.bd.length) rfl
    have p0 := (HK7.out).p.at_ (i := 0) (v := .int .i64 pg) rfl
    have p1 := (HK7.out).p.at_ (i := 1) (v := .int .i64 pa) rfl
    clear hV7 hst7 hds2 hH2
    go_wp2_with fail
    refine HRI.out.mono ?_
    rintro e w8 ⟨rfl, hb8⟩
    have HB8 := Lib.hid hb8
    have x0 := keepc x0 hb8
    have x1 := keepc x1 hb8
    have x2 := keepc x2 hb8
    have x3 := keepc x3 hb8
    have p0 := keepc p0 hb8
    have p1 := keepc p1 hb8
    have HHE8 := Lib.hid (HHE.out w8 hb8)
    have HH8 := Lib.hid (HH7.out.below hb8)
    have HK8 := Lib.hid (HK7.out.below hb8)
    clear hb8
    obtain ⟨hb, hhb⟩ : ∃ hb, (decide (0 ≤ d) && (decide (d < y.bd.length) && hereD aw ds2 d.toNat)) = hb := ⟨_, rfl⟩
    rw [hhb] at HHE8
    have HHB := Lib.hid hhb
    clear hhb
    go_wp2_with fail
    refine HHE8.out.mono ?_
    rintro e w9 ⟨rfl, hb9⟩
    have HK9 := Lib.hid (HK8.out.below hb9)
    have HH9 := Lib.hid (HH8.out.below hb9)
    clear x0 x1 x2 x3 p0 p1 hb9
    by_cases hd0 : 0 ≤ d
    · have hd2 : decide (0 ≤ d) = true := decide_eq_true hd0
      by_cases hdn : d < y.bd.length
      · obtain ⟨i, rfl⟩ := Int.eq_ofNat_of_zero_le hd0
        have hin : i < y.bd.length := by omega
        have hd3 : decide (i < y.bd.length) = true := decide_eq_true hin
        have hbb : hb = bAt hr i := by
          have := HHB.out
          rw [hd2, decide_eq_true hdn, Bool.true_and, Bool.true_and, Int.toNat_natCast, HH2.out i hin] at this
          exact this.symm
        obtain ⟨bh, oh, rfl, hbh, hch⟩ := HH9.out.cells (by omega)
        have q1 : w9.cell? ⟨bh, oh + i, none⟩ = some (.bool hb) := by rw [hbb]; exact hch _ _ (boolC_at (bAt_in (by rw [HOK1.out.2.2]; exact hin)))
        clear hbb hch hbh hd0 hdn hdb
        cases hb with
        | false =>
          go_wp2_with fail
          go_loopw [20, 21] (fun gv t wr => ∃ k : Nat, k ≤ y.bd.length ∧ gv = .int .i64 (outN hr k : Nat) ∧ t = .int .i64 k ∧ Below w9.heap.size w9 wr) (fun _ t _ => y.bd.length - (RowKit.intOf t).toNat)
          case atStart => exact ⟨0, Nat.zero_le _, rfl, rfl, Below.refl _ _⟩
          case round =>
            obtain ⟨k, hk, rfl, rfl, hbk⟩ := hrel
            have HBk := Lib.hid hbk
            obtain ⟨nn, hnn⟩ : ∃ nn, outN hr k = nn := ⟨_, rfl⟩
            have hn1 := outN_le hr k
            have hn32 : y.bd.length ≤ 32 := by have := HP.out; omega
            rw [hnn] at hn1
            rw [hnn]
            by_cases hlt : k < y.bd.length
            · obtain ⟨b, hbv⟩ : ∃ b, bAt hr k = b := ⟨_, rfl⟩
              obtain ⟨bh', oh', e1', hbh', hch'⟩ := HH9.out.cells (by omega)
              first | (cases e1') | (subst e1')
              have q2 := keepc (hch' _ _ (boolC_at (bAt_in (show k < hr.length by rw [HOK1.out.2.2]; exact hlt)))) hbk
              have hst := outN_step (hr := hr) (k := k)
              rw [hbv] at q2 hst
              rw [hnn] at hst
              have hd4 : decide (k < y.bd.length) = true := decide_eq_true hlt
              have HKL := Lib.hid hlt
              clear hnn hbk hch' hbh' hbv
              cases b with
              | true =>
                have HST : Hid (outN hr (k + 1) = nn) := Lib.hid hst
                clear hst
                go_wp2_with fail
                go_roundw
                case rel => exact ⟨k + 1, HKL.out, by rw [HST.out], by go_num, HBk.out⟩
                case measure => have := HKL.out; simp [RowKit.intOf]; omega
              | false =>
                have HST : Hid (outN hr (k + 1) = nn + 1) := Lib.hid hst
                clear hst
                go_wp2_with fail
                go_roundw
                case rel => exact ⟨k + 1, HKL.out, by rw [HST.out]; go_num, by go_num, HBk.out⟩
                case measure => have := HKL.out; simp [RowKit.intOf]; omega
            · obtain rfl : k = y.bd.length := by omega
              have hd4 : decide (y.bd.length < y.bd.length) = false := decide_eq_false (by omega)
              obtain rfl : nn = o := by rw [← hnn, HO.out.1]
              have HKR := Lib.hid (HK9.out.below hbk)
              have HHR := Lib.hid (HH9.out.below hbk)
              have g0 := HKR.out.g.at_ (i := 0) (v := .slice A m c) rfl
              have g1 := HKR.out.g.at_ (i := 1) (v := .int .i64 y.secs) rfl
              have p0 := HKR.out.p.at_ (i := 0) (v := .int .i64 pg) rfl
              have p1 := HKR.out.p.at_ (i := 1) (v := .int .i64 pa) rfl
              have HGR := Lib.hid (HG.out.below HKR.out.bel (Nat.le_refl _))
              have HTX := Lib.hid (refText_any s (by have := HL1.out; omega) wr)
              obtain ⟨sb, hsb⟩ : ∃ sb, secOk s = sb := ⟨_, rfl⟩
              rw [hsb] at HTX
              have HSB := Lib.hid hsb
              have hF : (F1 = 6 ∧ (((nn : Nat) : Int) == (y.bd.length : Int)) = true) ∨ (F1 = 0 ∧ (((nn : Nat) : Int) == (y.bd.length : Int)) = false) := by
                have := HO.out.2
                unfold flEr at this
                by_cases e : nn = y.bd.length
                · rw [if_pos e] at this
                  exact .inl ⟨this.symm, by rw [e]; exact beq_self_eq_true _⟩
                · rw [if_neg e] at this
                  exact .inr ⟨this.symm, by rw [beq_eq_false_iff_ne]; omega⟩
              clear hnn hbk hsb
              rcases hF with ⟨rfl, hon⟩ | ⟨rfl, hon⟩
              · cases sb with
                | false =>
                  obtain ⟨rfl, rfl⟩ : E1 = 1 ∧ N1 = 0 := by
                    obtain ⟨h1, h2, _⟩ := HE1.out
                    have hne : ¬ encE y.gs y.secs pg pa s = 0 := by unfold encE; rw [HSB.out, if_neg Bool.false_ne_true]; decide
                    rw [← h1, ← h2]
                    unfold wE wN
                    rw [if_neg hne, if_neg hne]
                    exact ⟨rfl, rfl⟩
                  go_wp2_with fail
                  refine HTX.out.mono ?_
                  rintro e wt ⟨rfl, hbt⟩
                  have HBT := Lib.hid (keep_below hbt HKR.out.bel)
                  clear hbt g0 g1 p0 p1
                  go_wp2_with fail
                  go_ret
                  exact ⟨rfl, HBT.out⟩
                | true =>
                  have hq : Int.tdiv (s.length : Int) 64 = (secN s : Int) := rfl
                  have hs15 : secN s ≤ 15 := by have := HL1.out; unfold secN; omega
                  have HMY := Lib.hid (fun (W : World) (hb : Below wr.heap.size wr W) => refMay_any A m c y.gs y.secs pg pa (secN s) W (HGR.out.below hb (Nat.le_refl _)))
                  obtain ⟨cb, hcb⟩ : ∃ cb, cMay y.gs y.secs pg pa (secN s) = cb := ⟨_, rfl⟩
                  rw [hcb] at HMY
                  cases cb with
                  | false =>
                    obtain ⟨rfl, rfl⟩ : E1 = 1 ∧ N1 = 0 := by
                      obtain ⟨h1, h2, _⟩ := HE1.out
                      have hne : ¬ encE y.gs y.secs pg pa s = 0 := by unfold encE ofErr; rw [HSB.out, hcb]; decide
                      rw [← h1, ← h2]
                      unfold wE wN
                      rw [if_neg hne, if_neg hne]
                      exact ⟨rfl, rfl⟩
                    clear hcb
                    go_wp2_with fail
                    refine HTX.out.mono ?_
                    rintro e wt ⟨rfl, hbt⟩
                    have HBT := Lib.hid hbt
                    have g0 := keepc g0 hbt
                    have g1 := keepc g1 hbt
                    have p0 := keepc p0 hbt
                    have p1 := keepc p1 hbt
                    clear hbt
                    go_wp2_with fail
                    refine (HMY.out wt HBT.out).mono ?_
                    rintro e wu ⟨rfl, hbu⟩
                    have HBU := Lib.hid (keep_below (keep_below hbu HBT.out) HKR.out.bel)
                    clear hbu g0 g1 p0 p1
                    go_wp2_with fail
                    go_ret
                    exact ⟨rfl, HBU.out⟩
                  | true =>
                    obtain ⟨hhas, _, _, _⟩ := cMay_true hcb
                    obtain ⟨gk, gx, hpk, hgk, _, _, _, hgx, hga, ho1⟩ := gHas_true hhas
                    have hgw := HGR.out
                    have hm := hgw.1
                    have HFA := Lib.hid (fun (W : World) (hb : Below wr.heap.size wr W) => refFailed_n A m c y.gs y.secs pg pa (secN s) HOK1.out.2.2 (HGR.out.below hb (Nat.le_refl _)) hcb (HHR.out.below hb) (by have := HP.out; omega))
                    obtain ⟨fN, hfN⟩ : ∃ fN, failN (colsOf y.gs y.secs pg pa (secN s)) (bAt hr) y.bd.length = fN := ⟨_, rfl⟩
                    rw [hfN] at HFA
                    have hfN2 := failN_le (colsOf y.gs y.secs pg pa (secN s)) (bAt hr) y.bd.length
                    rw [hfN] at hfN2
                    have hEN : E1 = (if lostB gx fN then 6 else 0) ∧ N1 = fN := by
                      obtain ⟨h1, h2, h3⟩ := HE1.out
                      have he : encE y.gs y.secs pg pa s = 0 := by unfold encE ofErr; rw [HSB.out, hcb]; rfl
                      have hs : failN (ofList y.gs y.secs pg pa (secN s)) (hereD aw ds0) y.bd.length = fN := by
                        unfold ofList
                        rw [if_pos hcb, ← hfN]
                        exact failN_same h3
                      rw [← h1, ← h2]
                      unfold wE wN
                      rw [if_pos he, if_pos he, hs, hpk, hga]
                      exact ⟨rfl, rfl⟩
                    have hm2 := hgw.1
                    obtain ⟨bg, og, rfl, hgc⟩ := hgw.2.2 (by omega)
                    have hcg := hgc.2 gk gx hgx
                    have hkm : gk < m := by omega
                    subst hpk
                    have HLO := Lib.hid (fun (W : World) => refLost_any gx fN ho1 W)
                    obtain ⟨lb, hlb⟩ : ∃ lb, lostB gx fN = lb := ⟨_, rfl⟩
                    rw [hlb] at HLO
                    rw [hlb] at hEN
                    have HCG := Lib.hid hcg
                    obtain ⟨hE, hN⟩ : (E1 = if lb then 6 else 0) ∧ N1 = fN := hEN
                    subst hN
                    clear hhas hgk hgx hga ho1 hgw hm hm2 hgc hcg hcb hfN hlb
                    cases lb with
                    | true =>
                      obtain rfl : E1 = 6 := hE
                      go_wp2_with fail
                      refine HTX.out.mono ?_
                      rintro e wt ⟨rfl, hbt⟩
                      have HBT := Lib.hid hbt
                      have g0 := keepc g0 hbt
                      have g1 := keepc g1 hbt
                      have p0 := keepc p0 hbt
                      have p1 := keepc p1 hbt
                      clear hbt
                      go_wp2_with fail
                      refine (HMY.out wt HBT.out).mono ?_
                      rintro e wu ⟨rfl, hbu⟩
                      have HBU := Lib.hid (keep_below hbu HBT.out)
                      have g0 := keepc g0 hbu
                      have g1 := keepc g1 hbu
                      have p0 := keepc p0 hbu
                      have p1 := keepc p1 hbu
                      clear hbu
                      go_wp2_with fail
                      refine (HFA.out wu HBU.out).mono ?_
                      rintro e wv ⟨rfl, hbv⟩
                      have HBV := Lib.hid (keep_below (keep_below hbv HBU.out) HKR.out.bel)
                      have g0 := keepc g0 hbv
                      have g1 := keepc g1 hbv
                      have p0 := keepc p0 hbv
                      have p1 := keepc p1 hbv
                      have c0 := keepc (keepc HCG.out.1 HBU.out) hbv
                      have c1 := keepc (keepc HCG.out.2 HBU.out) hbv
                      clear hbv hq hs15
                      go_wp2_with fail
                      refine (HLO.out wv).mono ?_
                      rintro e wx ⟨rfl, hbx⟩
                      have HBX := Lib.hid (keep_below hbx HBV.out)
                      clear hbx g0 g1 p0 p1 c0 c1
                      go_wp2_with fail
                      go_ret
                      exact ⟨rfl, HBX.out⟩
                    | false =>
                      obtain rfl : E1 = 0 := hE
                      go_wp2_with fail
                      refine HTX.out.mono ?_
                      rintro e wt ⟨rfl, hbt⟩
                      have HBT := Lib.hid hbt
                      have g0 := keepc g0 hbt
                      have g1 := keepc g1 hbt
                      have p0 := keepc p0 hbt
                      have p1 := keepc p1 hbt
                      clear hbt
                      go_wp2_with fail
                      refine (HMY.out wt HBT.out).mono ?_
                      rintro e wu ⟨rfl, hbu⟩
                      have HBU := Lib.hid (keep_below hbu HBT.out)
                      have g0 := keepc g0 hbu
                      have g1 := keepc g1 hbu
                      have p0 := keepc p0 hbu
                      have p1 := keepc p1 hbu
                      clear hbu
                      go_wp2_with fail
                      refine (HFA.out wu HBU.out).mono ?_
                      rintro e wv ⟨rfl, hbv⟩
                      have HBV := Lib.hid (keep_below (keep_below hbv HBU.out) HKR.out.bel)
                      have g0 := keepc g0 hbv
                      have g1 := keepc g1 hbv
                      have p0 := keepc p0 hbv
                      have p1 := keepc p1 hbv
                      have c0 := keepc (keepc HCG.out.1 HBU.out) hbv
                      have c1 := keepc (keepc HCG.out.2 HBU.out) hbv
                      clear hbv hq hs15
                      go_wp2_with fail
                      refine (HLO.out wv).mono ?_
                      rintro e wx ⟨rfl, hbx⟩
                      have HBX := Lib.hid (keep_below hbx HBV.out)
                      clear hbx g0 g1 p0 p1 c0 c1
                      go_wp2_with fail
                      go_ret
                      exact ⟨rfl, HBX.out⟩
              · cases sb with
                | false =>
                  obtain ⟨rfl, rfl⟩ : E1 = 1 ∧ N1 = 0 := by
                    obtain ⟨h1, h2, _⟩ := HE1.out
                    have hne : ¬ encE y.gs y.secs pg pa s = 0 := by unfold encE; rw [HSB.out, if_neg Bool.false_ne_true]; decide
                    rw [← h1, ← h2]
                    unfold wE wN
                    rw [if_neg hne, if_neg hne]
                    exact ⟨rfl, rfl⟩
                  go_wp2_with fail
                  refine HTX.out.mono ?_
                  rintro e wt ⟨rfl, hbt⟩
                  have HBT := Lib.hid (keep_below hbt HKR.out.bel)
                  clear hbt g0 g1 p0 p1
                  go_wp2_with fail
                  go_ret
                  exact ⟨rfl, HBT.out⟩
                | true =>
                  have hq : Int.tdiv (s.length : Int) 64 = (secN s : Int) := rfl
                  have hs15 : secN s ≤ 15 := by have := HL1.out; unfold secN; omega
                  have HMY := Lib.hid (fun (W : World) (hb : Below wr.heap.size wr W) => refMay_any A m c y.gs y.secs pg pa (secN s) W (HGR.out.below hb (Nat.le_refl _)))
                  obtain ⟨cb, hcb⟩ : ∃ cb, cMay y.gs y.secs pg pa (secN s) = cb := ⟨_, rfl⟩
                  rw [hcb] at HMY
                  cases cb with
                  | false =>
                    obtain ⟨rfl, rfl⟩ : E1 = 1 ∧ N1 = 0 := by
                      obtain ⟨h1, h2, _⟩ := HE1.out
                      have hne : ¬ encE y.gs y.secs pg pa s = 0 := by unfold encE ofErr; rw [HSB.out, hcb]; decide
                      rw [← h1, ← h2]
                      unfold wE wN
                      rw [if_neg hne, if_neg hne]
                      exact ⟨rfl, rfl⟩
                    clear hcb
                    go_wp2_with fail
                    refine HTX.out.mono ?_
                    rintro e wt ⟨rfl, hbt⟩
                    have HBT := Lib.hid hbt
                    have g0 := keepc g0 hbt
                    have g1 := keepc g1 hbt
                    have p0 := keepc p0 hbt
                    have p1 := keepc p1 hbt
                    clear hbt
                    go_wp2_with fail
                    refine (HMY.out wt HBT.out).mono ?_
                    rintro e wu ⟨rfl, hbu⟩
                    have HBU := Lib.hid (keep_below (keep_below hbu HBT.out) HKR.out.bel)
                    clear hbu g0 g1 p0 p1
                    go_wp2_with fail
                    go_ret
                    exact ⟨rfl, HBU.out⟩
                  | true =>
                    obtain ⟨hhas, _, _, _⟩ := cMay_true hcb
                    obtain ⟨gk, gx, hpk, hgk, _, _, _, hgx, hga, ho1⟩ := gHas_true hhas
                    have hgw := HGR.out
                    have hm := hgw.1
                    have HFA := Lib.hid (fun (W : World) (hb : Below wr.heap.size wr W) => refFailed_n A m c y.gs y.secs pg pa (secN s) HOK1.out.2.2 (HGR.out.below hb (Nat.le_refl _)) hcb (HHR.out.below hb) (by have := HP.out; omega))
                    obtain ⟨fN, hfN⟩ : ∃ fN, failN (colsOf y.gs y.secs pg pa (secN s)) (bAt hr) y.bd.length = fN := ⟨_, rfl⟩
                    rw [hfN] at HFA
                    have hfN2 := failN_le (colsOf y.gs y.secs pg pa (secN s)) (bAt hr) y.bd.length
                    rw [hfN] at hfN2
                    have hEN : E1 = (if lostB gx fN then 6 else 0) ∧ N1 = fN := by
                      obtain ⟨h1, h2, h3⟩ := HE1.out
                      have he : encE y.gs y.secs pg pa s = 0 := by unfold encE ofErr; rw [HSB.out, hcb]; rfl
                      have hs : failN (ofList y.gs y.secs pg pa (secN s)) (hereD aw ds0) y.bd.length = fN := by
                        unfold ofList
                        rw [if_pos hcb, ← hfN]
                        exact failN_same h3
                      rw [← h1, ← h2]
                      unfold wE wN
                      rw [if_pos he, if_pos he, hs, hpk, hga]
                      exact ⟨rfl, rfl⟩
                    have hm2 := hgw.1
                    obtain ⟨bg, og, rfl, hgc⟩ := hgw.2.2 (by omega)
                    have hcg := hgc.2 gk gx hgx
                    have hkm : gk < m := by omega
                    subst hpk
                    have HLO := Lib.hid (fun (W : World) => refLost_any gx fN ho1 W)
                    obtain ⟨lb, hlb⟩ : ∃ lb, lostB gx fN = lb := ⟨_, rfl⟩
                    rw [hlb] at HLO
                    rw [hlb] at hEN
                    have HCG := Lib.hid hcg
                    obtain ⟨hE, hN⟩ : (E1 = if lb then 6 else 0) ∧ N1 = fN := hEN
                    subst hN
                    clear hhas hgk hgx hga ho1 hgw hm hm2 hgc hcg hcb hfN hlb
                    cases lb with
                    | true =>
                      obtain rfl : E1 = 6 := hE
                      go_wp2_with fail
                      refine HTX.out.mono ?_
                      rintro e wt ⟨rfl, hbt⟩
                      have HBT := Lib.hid hbt
                      have g0 := keepc g0 hbt
                      have g1 := keepc g1 hbt
                      have p0 := keepc p0 hbt
                      have p1 := keepc p1 hbt
                      clear hbt
                      go_wp2_with fail
                      refine (HMY.out wt HBT.out).mono ?_
                      rintro e wu ⟨rfl, hbu⟩
                      have HBU := Lib.hid (keep_below hbu HBT.out)
                      have g0 := keepc g0 hbu
                      have g1 := keepc g1 hbu
                      have p0 := keepc p0 hbu
                      have p1 := keepc p1 hbu
                      clear hbu
                      go_wp2_with fail
                      refine (HFA.out wu HBU.out).mono ?_
                      rintro e wv ⟨rfl, hbv⟩
                      have HBV := Lib.hid (keep_below (keep_below hbv HBU.out) HKR.out.bel)
                      have g0 := keepc g0 hbv
                      have g1 := keepc g1 hbv
                      have p0 := keepc p0 hbv
                      have p1 := keepc p1 hbv
                      have c0 := keepc (keepc HCG.out.1 HBU.out) hbv
                      have c1 := keepc (keepc HCG.out.2 HBU.out) hbv
                      clear hbv hq hs15
                      go_wp2_with fail
                      refine (HLO.out wv).mono ?_
                      rintro e wx ⟨rfl, hbx⟩
                      have HBX := Lib.hid (keep_below hbx HBV.out)
                      clear hbx g0 g1 p0 p1 c0 c1
                      go_wp2_with fail
                      go_ret
                      exact ⟨rfl, HBX.out⟩
                    | false =>
                      obtain rfl : E1 = 0 := hE
                      go_wp2_with fail
                      refine HTX.out.mono ?_
                      rintro e wt ⟨rfl, hbt⟩
                      have HBT := Lib.hid hbt
                      have g0 := keepc g0 hbt
                      have g1 := keepc g1 hbt
                      have p0 := keepc p0 hbt
                      have p1 := keepc p1 hbt
                      clear hbt
                      go_wp2_with fail
                      refine (HMY.out wt HBT.out).mono ?_
                      rintro e wu ⟨rfl, hbu⟩
                      have HBU := Lib.hid (keep_below hbu HBT.out)
                      have g0 := keepc g0 hbu
                      have g1 := keepc g1 hbu
                      have p0 := keepc p0 hbu
                      have p1 := keepc p1 hbu
                      clear hbu
                      go_wp2_with fail
                      refine (HFA.out wu HBU.out).mono ?_
                      rintro e wv ⟨rfl, hbv⟩
                      have HBV := Lib.hid (keep_below (keep_below hbv HBU.out) HKR.out.bel)
                      have g0 := keepc g0 hbv
                      have g1 := keepc g1 hbv
                      have p0 := keepc p0 hbv
                      have p1 := keepc p1 hbv
                      have c0 := keepc (keepc HCG.out.1 HBU.out) hbv
                      have c1 := keepc (keepc HCG.out.2 HBU.out) hbv
                      clear hbv hq hs15
                      go_wp2_with fail
                      refine (HLO.out wv).mono ?_
                      rintro e wx ⟨rfl, hbx⟩
                      have HBX := Lib.hid (keep_below hbx HBV.out)
                      clear hbx g0 g1 p0 p1 c0 c1
                      go_wp2_with fail
                      go_ret
                      exact ⟨rfl, HBX.out⟩
        | true =>
          go_wp2_with fail
          go_loopw [20, 21] (fun gv t wr => ∃ k : Nat, k ≤ y.bd.length ∧ gv = .int .i64 (outN hr k : Nat) ∧ t = .int .i64 k ∧ Below w9.heap.size w9 wr) (fun _ t _ => y.bd.length - (RowKit.intOf t).toNat)
          case atStart => exact ⟨0, Nat.zero_le _, rfl, rfl, Below.refl _ _⟩
          case round =>
            obtain ⟨k, hk, rfl, rfl, hbk⟩ := hrel
            have HBk := Lib.hid hbk
            obtain ⟨nn, hnn⟩ : ∃ nn, outN hr k = nn := ⟨_, rfl⟩
            have hn1 := outN_le hr k
            have hn32 : y.bd.length ≤ 32 := by have := HP.out; omega
            rw [hnn] at hn1
            rw [hnn]
            by_cases hlt : k < y.bd.length
            · obtain ⟨b, hbv⟩ : ∃ b, bAt hr k = b := ⟨_, rfl⟩
              obtain ⟨bh', oh', e1', hbh', hch'⟩ := HH9.out.cells (by omega)
              first | (cases e1') | (subst e1')
              have q2 := keepc (hch' _ _ (boolC_at (bAt_in (show k < hr.length by rw [HOK1.out.2.2]; exact hlt)))) hbk
              have hst := outN_step (hr := hr) (k := k)
              rw [hbv] at q2 hst
              rw [hnn] at hst
              have hd4 : decide (k < y.bd.length) = true := decide_eq_true hlt
              have HKL := Lib.hid hlt
              clear hnn hbk hch' hbh' hbv
              cases b with
              | true =>
                have HST : Hid (outN hr (k + 1) = nn) := Lib.hid hst
                clear hst
                go_wp2_with fail
                go_roundw
                case rel => exact ⟨k + 1, HKL.out, by rw [HST.out], by go_num, HBk.out⟩
                case measure => have := HKL.out; simp [RowKit.intOf]; omega
              | false =>
                have HST : Hid (outN hr (k + 1) = nn + 1) := Lib.hid hst
                clear hst
                go_wp2_with fail
                go_roundw
                case rel => exact ⟨k + 1, HKL.out, by rw [HST.out]; go_num, by go_num, HBk.out⟩
                case measure => have := HKL.out; simp [RowKit.intOf]; omega
            · obtain rfl : k = y.bd.length := by omega
              have hd4 : decide (y.bd.length < y.bd.length) = false := decide_eq_false (by omega)
              obtain rfl : nn = o := by rw [← hnn, HO.out.1]
              have HKR := Lib.hid (HK9.out.below hbk)
              have HHR := Lib.hid (HH9.out.below hbk)
              have g0 := HKR.out.g.at_ (i := 0) (v := .slice A m c) rfl
              have g1 := HKR.out.g.at_ (i := 1) (v := .int .i64 y.secs) rfl
              have p0 := HKR.out.p.at_ (i := 0) (v := .int .i64 pg) rfl
              have p1 := HKR.out.p.at_ (i := 1) (v := .int .i64 pa) rfl
              have HGR := Lib.hid (HG.out.below HKR.out.bel (Nat.le_refl _))
              have HTX := Lib.hid (refText_any s (by have := HL1.out; omega) wr)
              obtain ⟨sb, hsb⟩ : ∃ sb, secOk s = sb := ⟨_, rfl⟩
              rw [hsb] at HTX
              have HSB := Lib.hid hsb
              have hF : (F1 = 6 ∧ (((nn : Nat) : Int) == (y.bd.length : Int)) = true) ∨ (F1 = 0 ∧ (((nn : Nat) : Int) == (y.bd.length : Int)) = false) := by
                have := HO.out.2
                unfold flEr at this
                by_cases e : nn = y.bd.length
                · rw [if_pos e] at this
                  exact .inl ⟨this.symm, by rw [e]; exact beq_self_eq_true _⟩
                · rw [if_neg e] at this
                  exact .inr ⟨this.symm, by rw [beq_eq_false_iff_ne]; omega⟩
              clear hnn hbk hsb
              rcases hF with ⟨rfl, hon⟩ | ⟨rfl, hon⟩
              · cases sb with
                | false =>
                  obtain ⟨rfl, rfl⟩ : E1 = 1 ∧ N1 = 0 := by
                    obtain ⟨h1, h2, _⟩ := HE1.out
                    have hne : ¬ encE y.gs y.secs pg pa s = 0 := by unfold encE; rw [HSB.out, if_neg Bool.false_ne_true]; decide
                    rw [← h1, ← h2]
                    unfold wE wN
                    rw [if_neg hne, if_neg hne]
                    exact ⟨rfl, rfl⟩
                  go_wp2_with fail
                  refine HTX.out.mono ?_
                  rintro e wt ⟨rfl, hbt⟩
                  have HBT := Lib.hid (keep_below hbt HKR.out.bel)
                  clear hbt g0 g1 p0 p1
                  go_wp2_with fail
                  go_ret
                  exact ⟨rfl, HBT.out⟩
                | true =>
                  have hq : Int.tdiv (s.length : Int) 64 = (secN s : Int) := rfl
                  have hs15 : secN s ≤ 15 := by have := HL1.out; unfold secN; omega
                  have HMY := Lib.hid (fun (W : World) (hb : Below wr.heap.size wr W) => refMay_any A m c y.gs y.secs pg pa (secN s) W (HGR.out.below hb (Nat.le_refl _)))
                  obtain ⟨cb, hcb⟩ : ∃ cb, cMay y.gs y.secs pg pa (secN s) = cb := ⟨_, rfl⟩
                  rw [hcb] at HMY
                  cases cb with
                  | false =>
                    obtain ⟨rfl, rfl⟩ : E1 = 1 ∧ N1 = 0 := by
                      obtain ⟨h1, h2, _⟩ := HE1.out
                      have hne : ¬ encE y.gs y.secs pg pa s = 0 := by unfold encE ofErr; rw [HSB.out, hcb]; decide
                      rw [← h1, ← h2]
                      unfold wE wN
                      rw [if_neg hne, if_neg hne]
                      exact ⟨rfl, rfl⟩
                    clear hcb
                    go_wp2_with fail
                    refine HTX.out.mono ?_
                    rintro e wt ⟨rfl, hbt⟩
                    have HBT := Lib.hid hbt
                    have g0 := keepc g0 hbt
                    have g1 := keepc g1 hbt
                    have p0 := keepc p0 hbt
                    have p1 := keepc p1 hbt
                    clear hbt
                    go_wp2_with fail
                    refine (HMY.out wt HBT.out).mono ?_
                    rintro e wu ⟨rfl, hbu⟩
                    have HBU := Lib.hid (keep_below (keep_below hbu HBT.out) HKR.out.bel)
                    clear hbu g0 g1 p0 p1
                    go_wp2_with fail
                    go_ret
                    exact ⟨rfl, HBU.out⟩
                  | true =>
                    obtain ⟨hhas, _, _, _⟩ := cMay_true hcb
                    obtain ⟨gk, gx, hpk, hgk, _, _, _, hgx, hga, ho1⟩ := gHas_true hhas
                    have hgw := HGR.out
                    have hm := hgw.1
                    have HFA := Lib.hid (fun (W : World) (hb : Below wr.heap.size wr W) => refFailed_n A m c y.gs y.secs pg pa (secN s) HOK1.out.2.2 (HGR.out.below hb (Nat.le_refl _)) hcb (HHR.out.below hb) (by have := HP.out; omega))
                    obtain ⟨fN, hfN⟩ : ∃ fN, failN (colsOf y.gs y.secs pg pa (secN s)) (bAt hr) y.bd.length = fN := ⟨_, rfl⟩
                    rw [hfN] at HFA
                    have hfN2 := failN_le (colsOf y.gs y.secs pg pa (secN s)) (bAt hr) y.bd.length
                    rw [hfN] at hfN2
                    have hEN : E1 = (if lostB gx fN then 6 else 0) ∧ N1 = fN := by
                      obtain ⟨h1, h2, h3⟩ := HE1.out
                      have he : encE y.gs y.secs pg pa s = 0 := by unfold encE ofErr; rw [HSB.out, hcb]; rfl
                      have hs : failN (ofList y.gs y.secs pg pa (secN s)) (hereD aw ds0) y.bd.length = fN := by
                        unfold ofList
                        rw [if_pos hcb, ← hfN]
                        exact failN_same h3
                      rw [← h1, ← h2]
                      unfold wE wN
                      rw [if_pos he, if_pos he, hs, hpk, hga]
                      exact ⟨rfl, rfl⟩
                    have hm2 := hgw.1
                    obtain ⟨bg, og, rfl, hgc⟩ := hgw.2.2 (by omega)
                    have hcg := hgc.2 gk gx hgx
                    have hkm : gk < m := by omega
                    subst hpk
                    have HLO := Lib.hid (fun (W : World) => refLost_any gx fN ho1 W)
                    obtain ⟨lb, hlb⟩ : ∃ lb, lostB gx fN = lb := ⟨_, rfl⟩
                    rw [hlb] at HLO
                    rw [hlb] at hEN
                    have HCG := Lib.hid hcg
                    obtain ⟨hE, hN⟩ : (E1 = if lb then 6 else 0) ∧ N1 = fN := hEN
                    subst hN
                    clear hhas hgk hgx hga ho1 hgw hm hm2 hgc hcg hcb hfN hlb
                    cases lb with
                    | true =>
                      obtain rfl : E1 = 6 := hE
                      go_wp2_with fail
                      refine HTX.out.mono ?_
                      rintro e wt ⟨rfl, hbt⟩
                      have HBT := Lib.hid hbt
                      have g0 := keepc g0 hbt
                      have g1 := keepc g1 hbt
                      have p0 := keepc p0 hbt
                      have p1 := keepc p1 hbt
                      clear hbt
                      go_wp2_with fail
                      refine (HMY.out wt HBT.out).mono ?_
                      rintro e wu ⟨rfl, hbu⟩
                      have HBU := Lib.hid (keep_below hbu HBT.out)
                      have g0 := keepc g0 hbu
                      have g1 := keepc g1 hbu
                      have p0 := keepc p0 hbu
                      have p1 := keepc p1 hbu
                      clear hbu
                      go_wp2_with fail
                      refine (HFA.out wu HBU.out).mono ?_
                      rintro e wv ⟨rfl, hbv⟩
                      have HBV := Lib.hid (keep_below (keep_below hbv HBU.out) HKR.out.bel)
                      have g0 := keepc g0 hbv
                      have g1 := keepc g1 hbv
                      have p0 := keepc p0 hbv
                      have p1 := keepc p1 hbv
                      have c0 := keepc (keepc HCG.out.1 HBU.out) hbv
                      have c1 := keepc (keepc HCG.out.2 HBU.out) hbv
                      clear hbv hq hs15
                      go_wp2_with fail
                      refine (HLO.out wv).mono ?_
                      rintro e wx ⟨rfl, hbx⟩
                      have HBX := Lib.hid (keep_below hbx HBV.out)
                      clear hbx g0 g1 p0 p1 c0 c1
                      go_wp2_with fail
                      go_ret
                      exact ⟨rfl, HBX.out⟩
                    | false =>
                      obtain rfl : E1 = 0 := hE
                      go_wp2_with fail
                      refine HTX.out.mono ?_
                      rintro e wt ⟨rfl, hbt⟩
                      have HBT := Lib.hid hbt
                      have g0 := keepc g0 hbt
                      have g1 := keepc g1 hbt
                      have p0 := keepc p0 hbt
                      have p1 := keepc p1 hbt
                      clear hbt
                      go_wp2_with fail
                      refine (HMY.out wt HBT.out).mono ?_
                      rintro e wu ⟨rfl, hbu⟩
                      have HBU := Lib.hid (keep_below hbu HBT.out)
                      have g0 := keepc g0 hbu
                      have g1 := keepc g1 hbu
                      have p0 := keepc p0 hbu
                      have p1 := keepc p1 hbu
                      clear hbu
                      go_wp2_with fail
                      refine (HFA.out wu HBU.out).mono ?_
                      rintro e wv ⟨rfl, hbv⟩
                      have HBV := Lib.hid (keep_below (keep_below hbv HBU.out) HKR.out.bel)
                      have g0 := keepc g0 hbv
                      have g1 := keepc g1 hbv
                      have p0 := keepc p0 hbv
                      have p1 := keepc p1 hbv
                      have c0 := keepc (keepc HCG.out.1 HBU.out) hbv
                      have c1 := keepc (keepc HCG.out.2 HBU.out) hbv
                      clear hbv hq hs15
                      go_wp2_with fail
                      refine (HLO.out wv).mono ?_
                      rintro e wx ⟨rfl, hbx⟩
                      have HBX := Lib.hid (keep_below hbx HBV.out)
                      clear hbx g0 g1 p0 p1 c0 c1
                      go_wp2_with fail
                      go_ret
                      exact ⟨rfl, HBX.out⟩
              · cases sb with
                | false =>
                  obtain ⟨rfl, rfl⟩ : E1 = 1 ∧ N1 = 0 := by
                    obtain ⟨h1, h2, _⟩ := HE1.out
                    have hne : ¬ encE y.gs y.secs pg pa s = 0 := by unfold encE; rw [HSB.out, if_neg Bool.false_ne_true]; decide
                    rw [← h1, ← h2]
                    unfold wE wN
                    rw [if_neg hne, if_neg hne]
                    exact ⟨rfl, rfl⟩
                  go_wp2_with fail
                  refine HTX.out.mono ?_
                  rintro e wt ⟨rfl, hbt⟩
                  have HBT := Lib.hid (keep_below hbt HKR.out.bel)
                  clear hbt g0 g1 p0 p1
                  go_wp2_with fail
                  go_ret
                  exact ⟨rfl, HBT.out⟩
                | true =>
                  have hq : Int.tdiv (s.length : Int) 64 = (secN s : Int) := rfl
                  have hs15 : secN s ≤ 15 := by have := HL1.out; unfold secN; omega
                  have HMY := Lib.hid (fun (W : World) (hb : Below wr.heap.size wr W) => refMay_any A m c y.gs y.secs pg pa (secN s) W (HGR.out.below hb (Nat.le_refl _)))
                  obtain ⟨cb, hcb⟩ : ∃ cb, cMay y.gs y.secs pg pa (secN s) = cb := ⟨_, rfl⟩
                  rw [hcb] at HMY
                  cases cb with
                  | false =>
                    obtain ⟨rfl, rfl⟩ : E1 = 1 ∧ N1 = 0 := by
                      obtain ⟨h1, h2, _⟩ := HE1.out
                      have hne : ¬ encE y.gs y.secs pg pa s = 0 := by unfold encE ofErr; rw [HSB.out, hcb]; decide
                      rw [← h1, ← h2]
                      unfold wE wN
                      rw [if_neg hne, if_neg hne]
                      exact ⟨rfl, rfl⟩
                    clear hcb
                    go_wp2_with fail
                    refine HTX.out.mono ?_
                    rintro e wt ⟨rfl, hbt⟩
                    have HBT := Lib.hid hbt
                    have g0 := keepc g0 hbt
                    have g1 := keepc g1 hbt
                    have p0 := keepc p0 hbt
                    have p1 := keepc p1 hbt
                    clear hbt
                    go_wp2_with fail
                    refine (HMY.out wt HBT.out).mono ?_
                    rintro e wu ⟨rfl, hbu⟩
                    have HBU := Lib.hid (keep_below (keep_below hbu HBT.out) HKR.out.bel)
                    clear hbu g0 g1 p0 p1
                    go_wp2_with fail
                    go_ret
                    exact ⟨rfl, HBU.out⟩
                  | true =>
                    obtain ⟨hhas, _, _, _⟩ := cMay_true hcb
                    obtain ⟨gk, gx, hpk, hgk, _, _, _, hgx, hga, ho1⟩ := gHas_true hhas
                    have hgw := HGR.out
                    have hm := hgw.1
                    have HFA := Lib.hid (fun (W : World) (hb : Below wr.heap.size wr W) => refFailed_n A m c y.gs y.secs pg pa (secN s) HOK1.out.2.2 (HGR.out.below hb (Nat.le_refl _)) hcb (HHR.out.below hb) (by have := HP.out; omega))
                    obtain ⟨fN, hfN⟩ : ∃ fN, failN (colsOf y.gs y.secs pg pa (secN s)) (bAt hr) y.bd.length = fN := ⟨_, rfl⟩
                    rw [hfN] at HFA
                    have hfN2 := failN_le (colsOf y.gs y.secs pg pa (secN s)) (bAt hr) y.bd.length
                    rw [hfN] at hfN2
                    have hEN : E1 = (if lostB gx fN then 6 else 0) ∧ N1 = fN := by
                      obtain ⟨h1, h2, h3⟩ := HE1.out
                      have he : encE y.gs y.secs pg pa s = 0 := by unfold encE ofErr; rw [HSB.out, hcb]; rfl
                      have hs : failN (ofList y.gs y.secs pg pa (secN s)) (hereD aw ds0) y.bd.length = fN := by
                        unfold ofList
                        rw [if_pos hcb, ← hfN]
                        exact failN_same h3
                      rw [← h1, ← h2]
                      unfold wE wN
                      rw [if_pos he, if_pos he, hs, hpk, hga]
                      exact ⟨rfl, rfl⟩
                    have hm2 := hgw.1
                    obtain ⟨bg, og, rfl, hgc⟩ := hgw.2.2 (by omega)
                    have hcg := hgc.2 gk gx hgx
                    have hkm : gk < m := by omega
                    subst hpk
                    have HLO := Lib.hid (fun (W : World) => refLost_any gx fN ho1 W)
                    obtain ⟨lb, hlb⟩ : ∃ lb, lostB gx fN = lb := ⟨_, rfl⟩
                    rw [hlb] at HLO
                    rw [hlb] at hEN
                    have HCG := Lib.hid hcg
                    obtain ⟨hE, hN⟩ : (E1 = if lb then 6 else 0) ∧ N1 = fN := hEN
                    subst hN
                    clear hhas hgk hgx hga ho1 hgw hm hm2 hgc hcg hcb hfN hlb
                    cases lb with
                    | true =>
                      obtain rfl : E1 = 6 := hE
                      go_wp2_with fail
                      refine HTX.out.mono ?_
                      rintro e wt ⟨rfl, hbt⟩
                      have HBT := Lib.hid hbt
                      have g0 := keepc g0 hbt
                      have g1 := keepc g1 hbt
                      have p0 := keepc p0 hbt
                      have p1 := keepc p1 hbt
                      clear hbt
                      go_wp2_with fail
                      refine (HMY.out wt HBT.out).mono ?_
                      rintro e wu ⟨rfl, hbu⟩
                      have HBU := Lib.hid (keep_below hbu HBT.out)
                      have g0 := keepc g0 hbu
                      have g1 := keepc g1 hbu
                      have p0 := keepc p0 hbu
                      have p1 := keepc p1 hbu
                      clear hbu
                      go_wp2_with fail
                      refine (HFA.out wu HBU.out).mono ?_
                      rintro e wv ⟨rfl, hbv⟩
                      have HBV := Lib.hid (keep_below (keep_below hbv HBU.out) HKR.out.bel)
                      have g0 := keepc g0 hbv
                      have g1 := keepc g1 hbv
                      have p0 := keepc p0 hbv
                      have p1 := keepc p1 hbv
                      have c0 := keepc (keepc HCG.out.1 HBU.out) hbv
                      have c1 := keepc (keepc HCG.out.2 HBU.out) hbv
                      clear hbv hq hs15
                      go_wp2_with fail
                      refine (HLO.out wv).mono ?_
                      rintro e wx ⟨rfl, hbx⟩
                      have HBX := Lib.hid (keep_below hbx HBV.out)
                      clear hbx g0 g1 p0 p1 c0 c1
                      go_wp2_with fail
                      go_ret
                      exact ⟨rfl, HBX.out⟩
                    | false =>
                      obtain rfl : E1 = 0 := hE
                      go_wp2_with fail
                      refine HTX.out.mono ?_
                      rintro e wt ⟨rfl, hbt⟩
                      have HBT := Lib.hid hbt
                      have g0 := keepc g0 hbt
                      have g1 := keepc g1 hbt
                      have p0 := keepc p0 hbt
                      have p1 := keepc p1 hbt
                      clear hbt
                      go_wp2_with fail
                      refine (HMY.out wt HBT.out).mono ?_
                      rintro e wu ⟨rfl, hbu⟩
                      have HBU := Lib.hid (keep_below hbu HBT.out)
                      have g0 := keepc g0 hbu
                      have g1 := keepc g1 hbu
                      have p0 := keepc p0 hbu
                      have p1 := keepc p1 hbu
                      clear hbu
                      go_wp2_with fail
                      refine (HFA.out wu HBU.out).mono ?_
                      rintro e wv ⟨rfl, hbv⟩
                      have HBV := Lib.hid (keep_below (keep_below hbv HBU.out) HKR.out.bel)
                      have g0 := keepc g0 hbv
                      have g1 := keepc g1 hbv
                      have p0 := keepc p0 hbv
                      have p1 := keepc p1 hbv
                      have c0 := keepc (keepc HCG.out.1 HBU.out) hbv
                      have c1 := keepc (keepc HCG.out.2 HBU.out) hbv
                      clear hbv hq hs15
                      go_wp2_with fail
                      refine (HLO.out wv).mono ?_
                      rintro e wx ⟨rfl, hbx⟩
                      have HBX := Lib.hid (keep_below hbx HBV.out)
                      clear hbx g0 g1 p0 p1 c0 c1
                      go_wp2_with fail
                      go_ret
                      exact ⟨rfl, HBX.out⟩
      · have hd3 : decide (d < (y.bd.length : Int)) = false := decide_eq_false hdn
        obtain rfl : hb = false := by rw [← HHB.out, hd3]; simp
        clear hdn hd0
        go_wp2_with fail
        go_loopw [20, 21] (fun gv t wr => ∃ k : Nat, k ≤ y.bd.length ∧ gv = .int .i64 (outN hr k : Nat) ∧ t = .int .i64 k ∧ Below w9.heap.size w9 wr) (fun _ t _ => y.bd.length - (RowKit.intOf t).toNat)
        case atStart => exact ⟨0, Nat.zero_le _, rfl, rfl, Below.refl _ _⟩
        case round =>
          obtain ⟨k, hk, rfl, rfl, hbk⟩ := hrel
          have HBk := Lib.hid hbk
          obtain ⟨nn, hnn⟩ : ∃ nn, outN hr k = nn := ⟨_, rfl⟩
          have hn1 := outN_le hr k
          have hn32 : y.bd.length ≤ 32 := by have := HP.out; omega
          rw [hnn] at hn1
          rw [hnn]
          by_cases hlt : k < y.bd.length
          · obtain ⟨b, hbv⟩ : ∃ b, bAt hr k = b := ⟨_, rfl⟩
            obtain ⟨bh', oh', e1', hbh', hch'⟩ := HH9.out.cells (by omega)
            first | (cases e1') | (subst e1')
            have q2 := keepc (hch' _ _ (boolC_at (bAt_in (show k < hr.length by rw [HOK1.out.2.2]; exact hlt)))) hbk
            have hst := outN_step (hr := hr) (k := k)
            rw [hbv] at q2 hst
            rw [hnn] at hst
            have hd4 : decide (k < y.bd.length) = true := decide_eq_true hlt
            have HKL := Lib.hid hlt
            clear hnn hbk hch' hbh' hbv
            cases b with
            | true =>
              have HST : Hid (outN hr (k + 1) = nn) := Lib.hid hst
              clear hst
              go_wp2_with fail
              go_roundw
              case rel => exact ⟨k + 1, HKL.out, by rw [HST.out], by go_num, HBk.out⟩
              case measure => have := HKL.out; simp [RowKit.intOf]; omega
            | false =>
              have HST : Hid (outN hr (k + 1) = nn + 1) := Lib.hid hst
              clear hst
              go_wp2_with fail
              go_roundw
              case rel => exact ⟨k + 1, HKL.out, by rw [HST.out]; go_num, by go_num, HBk.out⟩
              case measure => have := HKL.out; simp [RowKit.intOf]; omega
          · obtain rfl : k = y.bd.length := by omega
            have hd4 : decide (y.bd.length < y.bd.length) = false := decide_eq_false (by omega)
            obtain rfl : nn = o := by rw [← hnn, HO.out.1]
            have HKR := Lib.hid (HK9.out.below hbk)
            have HHR := Lib.hid (HH9.out.below hbk)
            have g0 := HKR.out.g.at_ (i := 0) (v := .slice A m c) rfl
            have g1 := HKR.out.g.at_ (i := 1) (v := .int .i64 y.secs) rfl
            have p0 := HKR.out.p.at_ (i := 0) (v := .int .i64 pg) rfl
            have p1 := HKR.out.p.at_ (i := 1) (v := .int .i64 pa) rfl
            have HGR := Lib.hid (HG.out.below HKR.out.bel (Nat.le_refl _))
            have HTX := Lib.hid (refText_any s (by have := HL1.out; omega) wr)
            obtain ⟨sb, hsb⟩ : ∃ sb, secOk s = sb := ⟨_, rfl⟩
            rw [hsb] at HTX
            have HSB := Lib.hid hsb
            have hF : (F1 = 6 ∧ (((nn : Nat) : Int) == (y.bd.length : Int)) = true) ∨ (F1 = 0 ∧ (((nn : Nat) : Int) == (y.bd.length : Int)) = false) := by
              have := HO.out.2
              unfold flEr at this
              by_cases e : nn = y.bd.length
              · rw [if_pos e] at this
                exact .inl ⟨this.symm, by rw [e]; exact beq_self_eq_true _⟩
              · rw [if_neg e] at this
                exact .inr ⟨this.symm, by rw [beq_eq_false_iff_ne]; omega⟩
            clear hnn hbk hsb
            rcases hF with ⟨rfl, hon⟩ | ⟨rfl, hon⟩
            · cases sb with
              | false =>
                obtain ⟨rfl, rfl⟩ : E1 = 1 ∧ N1 = 0 := by
                  obtain ⟨h1, h2, _⟩ := HE1.out
                  have hne : ¬ encE y.gs y.secs pg pa s = 0 := by unfold encE; rw [HSB.out, if_neg Bool.false_ne_true]; decide
                  rw [← h1, ← h2]
                  unfold wE wN
                  rw [if_neg hne, if_neg hne]
                  exact ⟨rfl, rfl⟩
                go_wp2_with fail
                refine HTX.out.mono ?_
                rintro e wt ⟨rfl, hbt⟩
                have HBT := Lib.hid (keep_below hbt HKR.out.bel)
                clear hbt g0 g1 p0 p1
                go_wp2_with fail
                go_ret
                exact ⟨rfl, HBT.out⟩
              | true =>
                have hq : Int.tdiv (s.length : Int) 64 = (secN s : Int) := rfl
                have hs15 : secN s ≤ 15 := by have := HL1.out; unfold secN; omega
                have HMY := Lib.hid (fun (W : World) (hb : Below wr.heap.size wr W) => refMay_any A m c y.gs y.secs pg pa (secN s) W (HGR.out.below hb (Nat.le_refl _)))
                obtain ⟨cb, hcb⟩ : ∃ cb, cMay y.gs y.secs pg pa (secN s) = cb := ⟨_, rfl⟩
                rw [hcb] at HMY
                cases cb with
                | false =>
                  obtain ⟨rfl, rfl⟩ : E1 = 1 ∧ N1 = 0 := by
                    obtain ⟨h1, h2, _⟩ := HE1.out
                    have hne : ¬ encE y.gs y.secs pg pa s = 0 := by unfold encE ofErr; rw [HSB.out, hcb]; decide
                    rw [← h1, ← h2]
                    unfold wE wN
                    rw [if_neg hne, if_neg hne]
                    exact ⟨rfl, rfl⟩
                  clear hcb
                  go_wp2_with fail
                  refine HTX.out.mono ?_
                  rintro e wt ⟨rfl, hbt⟩
                  have HBT := Lib.hid hbt
                  have g0 := keepc g0 hbt
                  have g1 := keepc g1 hbt
                  have p0 := keepc p0 hbt
                  have p1 := keepc p1 hbt
                  clear hbt
                  go_wp2_with fail
                  refine (HMY.out wt HBT.out).mono ?_
                  rintro e wu ⟨rfl, hbu⟩
                  have HBU := Lib.hid (keep_below (keep_below hbu HBT.out) HKR.out.bel)
                  clear hbu g0 g1 p0 p1
                  go_wp2_with fail
                  go_ret
                  exact ⟨rfl, HBU.out⟩
                | true =>
                  obtain ⟨hhas, _, _, _⟩ := cMay_true hcb
                  obtain ⟨gk, gx, hpk, hgk, _, _, _, hgx, hga, ho1⟩ := gHas_true hhas
                  have hgw := HGR.out
                  have hm := hgw.1
                  have HFA := Lib.hid (fun (W : World) (hb : Below wr.heap.size wr W) => refFailed_n A m c y.gs y.secs pg pa (secN s) HOK1.out.2.2 (HGR.out.below hb (Nat.le_refl _)) hcb (HHR.out.below hb) (by have := HP.out; omega))
                  obtain ⟨fN, hfN⟩ : ∃ fN, failN (colsOf y.gs y.secs pg pa (secN s)) (bAt hr) y.bd.length = fN := ⟨_, rfl⟩
                  rw [hfN] at HFA
                  have hfN2 := failN_le (colsOf y.gs y.secs pg pa (secN s)) (bAt hr) y.bd.length
                  rw [hfN] at hfN2
                  have hEN : E1 = (if lostB gx fN then 6 else 0) ∧ N1 = fN := by
                    obtain ⟨h1, h2, h3⟩ := HE1.out
                    have he : encE y.gs y.secs pg pa s = 0 := by unfold encE ofErr; rw [HSB.out, hcb]; rfl
                    have hs : failN (ofList y.gs y.secs pg pa (secN s)) (hereD aw ds0) y.bd.length = fN := by
                      unfold ofList
                      rw [if_pos hcb, ← hfN]
                      exact failN_same h3
                    rw [← h1, ← h2]
                    unfold wE wN
                    rw [if_pos he, if_pos he, hs, hpk, hga]
                    exact ⟨rfl, rfl⟩
                  have hm2 := hgw.1
                  obtain ⟨bg, og, rfl, hgc⟩ := hgw.2.2 (by omega)
                  have hcg := hgc.2 gk gx hgx
                  have hkm : gk < m := by omega
                  subst hpk
                  have HLO := Lib.hid (fun (W : World) => refLost_any gx fN ho1 W)
                  obtain ⟨lb, hlb⟩ : ∃ lb, lostB gx fN = lb := ⟨_, rfl⟩
                  rw [hlb] at HLO
                  rw [hlb] at hEN
                  have HCG := Lib.hid hcg
                  obtain ⟨hE, hN⟩ : (E1 = if lb then 6 else 0) ∧ N1 = fN := hEN
                  subst hN
                  clear hhas hgk hgx hga ho1 hgw hm hm2 hgc hcg hcb hfN hlb
                  cases lb with
                  | true =>
                    obtain rfl : E1 = 6 := hE
                    go_wp2_with fail
                    refine HTX.out.mono ?_
                    rintro e wt ⟨rfl, hbt⟩
                    have HBT := Lib.hid hbt
                    have g0 := keepc g0 hbt
                    have g1 := keepc g1 hbt
                    have p0 := keepc p0 hbt
                    have p1 := keepc p1 hbt
                    clear hbt
                    go_wp2_with fail
                    refine (HMY.out wt HBT.out).mono ?_
                    rintro e wu ⟨rfl, hbu⟩
                    have HBU := Lib.hid (keep_below hbu HBT.out)
                    have g0 := keepc g0 hbu
                    have g1 := keepc g1 hbu
                    have p0 := keepc p0 hbu
                    have p1 := keepc p1 hbu
                    clear hbu
                    go_wp2_with fail
                    refine (HFA.out wu HBU.out).mono ?_
                    rintro e wv ⟨rfl, hbv⟩
                    have HBV := Lib.hid (keep_below (keep_below hbv HBU.out) HKR.out.bel)
                    have g0 := keepc g0 hbv
                    have g1 := keepc g1 hbv
                    have p0 := keepc p0 hbv
                    have p1 := keepc p1 hbv
                    have c0 := keepc (keepc HCG.out.1 HBU.out) hbv
                    have c1 := keepc (keepc HCG.out.2 HBU.out) hbv
                    clear hbv hq hs15
                    go_wp2_with fail
                    refine (HLO.out wv).mono ?_
                    rintro e wx ⟨rfl, hbx⟩
                    have HBX := Lib.hid (keep_below hbx HBV.out)
                    clear hbx g0 g1 p0 p1 c0 c1
                    go_wp2_with fail
                    go_ret
                    exact ⟨rfl, HBX.out⟩
                  | false =>
                    obtain rfl : E1 = 0 := hE
                    go_wp2_with fail
                    refine HTX.out.mono ?_
                    rintro e wt ⟨rfl, hbt⟩
                    have HBT := Lib.hid hbt
                    have g0 := keepc g0 hbt
                    have g1 := keepc g1 hbt
                    have p0 := keepc p0 hbt
                    have p1 := keepc p1 hbt
                    clear hbt
                    go_wp2_with fail
                    refine (HMY.out wt HBT.out).mono ?_
                    rintro e wu ⟨rfl, hbu⟩
                    have HBU := Lib.hid (keep_below hbu HBT.out)
                    have g0 := keepc g0 hbu
                    have g1 := keepc g1 hbu
                    have p0 := keepc p0 hbu
                    have p1 := keepc p1 hbu
                    clear hbu
                    go_wp2_with fail
                    refine (HFA.out wu HBU.out).mono ?_
                    rintro e wv ⟨rfl, hbv⟩
                    have HBV := Lib.hid (keep_below (keep_below hbv HBU.out) HKR.out.bel)
                    have g0 := keepc g0 hbv
                    have g1 := keepc g1 hbv
                    have p0 := keepc p0 hbv
                    have p1 := keepc p1 hbv
                    have c0 := keepc (keepc HCG.out.1 HBU.out) hbv
                    have c1 := keepc (keepc HCG.out.2 HBU.out) hbv
                    clear hbv hq hs15
                    go_wp2_with fail
                    refine (HLO.out wv).mono ?_
                    rintro e wx ⟨rfl, hbx⟩
                    have HBX := Lib.hid (keep_below hbx HBV.out)
                    clear hbx g0 g1 p0 p1 c0 c1
                    go_wp2_with fail
                    go_ret
                    exact ⟨rfl, HBX.out⟩
            · cases sb with
              | false =>
                obtain ⟨rfl, rfl⟩ : E1 = 1 ∧ N1 = 0 := by
                  obtain ⟨h1, h2, _⟩ := HE1.out
                  have hne : ¬ encE y.gs y.secs pg pa s = 0 := by unfold encE; rw [HSB.out, if_neg Bool.false_ne_true]; decide
                  rw [← h1, ← h2]
                  unfold wE wN
                  rw [if_neg hne, if_neg hne]
                  exact ⟨rfl, rfl⟩
                go_wp2_with fail
                refine HTX.out.mono ?_
                rintro e wt ⟨rfl, hbt⟩
                have HBT := Lib.hid (keep_below hbt HKR.out.bel)
                clear hbt g0 g1 p0 p1
                go_wp2_with fail
                go_ret
                exact ⟨rfl, HBT.out⟩
              | true =>
                have hq : Int.tdiv (s.length : Int) 64 = (secN s : Int) := rfl
                have hs15 : secN s ≤ 15 := by have := HL1.out; unfold secN; omega
                have HMY := Lib.hid (fun (W : World) (hb : Below wr.heap.size wr W) => refMay_any A m c y.gs y.secs pg pa (secN s) W (HGR.out.below hb (Nat.le_refl _)))
                obtain ⟨cb, hcb⟩ : ∃ cb, cMay y.gs y.secs pg pa (secN s) = cb := ⟨_, rfl⟩
                rw [hcb] at HMY
                cases cb with
                | false =>
                  obtain ⟨rfl, rfl⟩ : E1 = 1 ∧ N1 = 0 := by
                    obtain ⟨h1, h2, _⟩ := HE1.out
                    have hne : ¬ encE y.gs y.secs pg pa s = 0 := by unfold encE ofErr; rw [HSB.out, hcb]; decide
                    rw [← h1, ← h2]
                    unfold wE wN
                    rw [if_neg hne, if_neg hne]
                    exact ⟨rfl, rfl⟩
                  clear hcb
                  go_wp2_with fail
                  refine HTX.out.mono ?_
                  rintro e wt ⟨rfl, hbt⟩
                  have HBT := Lib.hid hbt
                  have g0 := keepc g0 hbt
                  have g1 := keepc g1 hbt
                  have p0 := keepc p0 hbt
                  have p1 := keepc p1 hbt
                  clear hbt
                  go_wp2_with fail
                  refine (HMY.out wt HBT.out).mono ?_
                  rintro e wu ⟨rfl, hbu⟩
                  have HBU := Lib.hid (keep_below (keep_below hbu HBT.out) HKR.out.bel)
                  clear hbu g0 g1 p0 p1
                  go_wp2_with fail
                  go_ret
                  exact ⟨rfl, HBU.out⟩
                | true =>
                  obtain ⟨hhas, _, _, _⟩ := cMay_true hcb
                  obtain ⟨gk, gx, hpk, hgk, _, _, _, hgx, hga, ho1⟩ := gHas_true hhas
                  have hgw := HGR.out
                  have hm := hgw.1
                  have HFA := Lib.hid (fun (W : World) (hb : Below wr.heap.size wr W) => refFailed_n A m c y.gs y.secs pg pa (secN s) HOK1.out.2.2 (HGR.out.below hb (Nat.le_refl _)) hcb (HHR.out.below hb) (by have := HP.out; omega))
                  obtain ⟨fN, hfN⟩ : ∃ fN, failN (colsOf y.gs y.secs pg pa (secN s)) (bAt hr) y.bd.length = fN := ⟨_, rfl⟩
                  rw [hfN] at HFA
                  have hfN2 := failN_le (colsOf y.gs y.secs pg pa (secN s)) (bAt hr) y.bd.length
                  rw [hfN] at hfN2
                  have hEN : E1 = (if lostB gx fN then 6 else 0) ∧ N1 = fN := by
                    obtain ⟨h1, h2, h3⟩ := HE1.out
                    have he : encE y.gs y.secs pg pa s = 0 := by unfold encE ofErr; rw [HSB.out, hcb]; rfl
                    have hs : failN (ofList y.gs y.secs pg pa (secN s)) (hereD aw ds0) y.bd.length = fN := by
                      unfold ofList
                      rw [if_pos hcb, ← hfN]
                      exact failN_same h3
                    rw [← h1, ← h2]
                    unfold wE wN
                    rw [if_pos he, if_pos he, hs, hpk, hga]
                    exact ⟨rfl, rfl⟩
                  have hm2 := hgw.1
                  obtain ⟨bg, og, rfl, hgc⟩ := hgw.2.2 (by omega)
                  have hcg := hgc.2 gk gx hgx
                  have hkm : gk < m := by omega
                  subst hpk
                  have HLO := Lib.hid (fun (W : World) => refLost_any gx fN ho1 W)
                  obtain ⟨lb, hlb⟩ : ∃ lb, lostB gx fN = lb := ⟨_, rfl⟩
                  rw [hlb] at HLO
                  rw [hlb] at hEN
                  have HCG := Lib.hid hcg
                  obtain ⟨hE, hN⟩ : (E1 = if lb then 6 else 0) ∧ N1 = fN := hEN
                  subst hN
                  clear hhas hgk hgx hga ho1 hgw hm hm2 hgc hcg hcb hfN hlb
                  cases lb with
                  | true =>
                    obtain rfl : E1 = 6 := hE
                    go_wp2_with fail
                    refine HTX.out.mono ?_
                    rintro e wt ⟨rfl, hbt⟩
                    have HBT := Lib.hid hbt
                    have g0 := keepc g0 hbt
                    have g1 := keepc g1 hbt
                    have p0 := keepc p0 hbt
                    have p1 := keepc p1 hbt
                    clear hbt
                    go_wp2_with fail
                    refine (HMY.out wt HBT.out).mono ?_
                    rintro e wu ⟨rfl, hbu⟩
                    have HBU := Lib.hid (keep_below hbu HBT.out)
                    have g0 := keepc g0 hbu
                    have g1 := keepc g1 hbu
                    have p0 := keepc p0 hbu
                    have p1 := keepc p1 hbu
                    clear hbu
                    go_wp2_with fail
                    refine (HFA.out wu HBU.out).mono ?_
                    rintro e wv ⟨rfl, hbv⟩
                    have HBV := Lib.hid (keep_below (keep_below hbv HBU.out) HKR.out.bel)
                    have g0 := keepc g0 hbv
                    have g1 := keepc g1 hbv
                    have p0 := keepc p0 hbv
                    have p1 := keepc p1 hbv
                    have c0 := keepc (keepc HCG.out.1 HBU.out) hbv
                    have c1 := keepc (keepc HCG.out.2 HBU.out) hbv
                    clear hbv hq hs15
                    go_wp2_with fail
                    refine (HLO.out wv).mono ?_
                    rintro e wx ⟨rfl, hbx⟩
                    have HBX := Lib.hid (keep_below hbx HBV.out)
                    clear hbx g0 g1 p0 p1 c0 c1
                    go_wp2_with fail
                    go_ret
                    exact ⟨rfl, HBX.out⟩
                  | false =>
                    obtain rfl : E1 = 0 := hE
                    go_wp2_with fail
                    refine HTX.out.mono ?_
                    rintro e wt ⟨rfl, hbt⟩
                    have HBT := Lib.hid hbt
                    have g0 := keepc g0 hbt
                    have g1 := keepc g1 hbt
                    have p0 := keepc p0 hbt
                    have p1 := keepc p1 hbt
                    clear hbt
                    go_wp2_with fail
                    refine (HMY.out wt HBT.out).mono ?_
                    rintro e wu ⟨rfl, hbu⟩
                    have HBU := Lib.hid (keep_below hbu HBT.out)
                    have g0 := keepc g0 hbu
                    have g1 := keepc g1 hbu
                    have p0 := keepc p0 hbu
                    have p1 := keepc p1 hbu
                    clear hbu
                    go_wp2_with fail
                    refine (HFA.out wu HBU.out).mono ?_
                    rintro e wv ⟨rfl, hbv⟩
                    have HBV := Lib.hid (keep_below (keep_below hbv HBU.out) HKR.out.bel)
                    have g0 := keepc g0 hbv
                    have g1 := keepc g1 hbv
                    have p0 := keepc p0 hbv
                    have p1 := keepc p1 hbv
                    have c0 := keepc (keepc HCG.out.1 HBU.out) hbv
                    have c1 := keepc (keepc HCG.out.2 HBU.out) hbv
                    clear hbv hq hs15
                    go_wp2_with fail
                    refine (HLO.out wv).mono ?_
                    rintro e wx ⟨rfl, hbx⟩
                    have HBX := Lib.hid (keep_below hbx HBV.out)
                    clear hbx g0 g1 p0 p1 c0 c1
                    go_wp2_with fail
                    go_ret
                    exact ⟨rfl, HBX.out⟩
    · have hd2 : decide (0 ≤ d) = false := decide_eq_false hd0
      obtain rfl : hb = false := by rw [← HHB.out, hd2]; rfl
      clear hd0
      go_wp2_with fail
      go_loopw [20, 21] (fun gv t wr => ∃ k : Nat, k ≤ y.bd.length ∧ gv = .int .i64 (outN hr k : Nat) ∧ t = .int .i64 k ∧ Below w9.heap.size w9 wr) (fun _ t _ => y.bd.length - (RowKit.intOf t).toNat)
      case atStart => exact ⟨0, Nat.zero_le _, rfl, rfl, Below.refl _ _⟩
      case round =>
        obtain ⟨k, hk, rfl, rfl, hbk⟩ := hrel
        have HBk := Lib.hid hbk
        obtain ⟨nn, hnn⟩ : ∃ nn, outN hr k = nn := ⟨_, rfl⟩
        have hn1 := outN_le hr k
        have hn32 : y.bd.length ≤ 32 := by have := HP.out; omega
        rw [hnn] at hn1
        rw [hnn]
        by_cases hlt : k < y.bd.length
        · obtain ⟨b, hbv⟩ : ∃ b, bAt hr k = b := ⟨_, rfl⟩
          obtain ⟨bh', oh', e1', hbh', hch'⟩ := HH9.out.cells (by omega)
          first | (cases e1') | (subst e1')
          have q2 := keepc (hch' _ _ (boolC_at (bAt_in (show k < hr.length by rw [HOK1.out.2.2]; exact hlt)))) hbk
          have hst := outN_step (hr := hr) (k := k)
          rw [hbv] at q2 hst
          rw [hnn] at hst
          have hd4 : decide (k < y.bd.length) = true := decide_eq_true hlt
          have HKL := Lib.hid hlt
          clear hnn hbk hch' hbh' hbv
          cases b with
          | true =>
            have HST : Hid (outN hr (k + 1) = nn) := Lib.hid hst
            clear hst
            go_wp2_with fail
            go_roundw
            case rel => exact ⟨k + 1, HKL.out, by rw [HST.out], by go_num, HBk.out⟩
            case measure => have := HKL.out; simp [RowKit.intOf]; omega
          | false =>
            have HST : Hid (outN hr (k + 1) = nn + 1) := Lib.hid hst
            clear hst
            go_wp2_with fail
            go_roundw
            case rel => exact ⟨k + 1, HKL.out, by rw [HST.out]; go_num, by go_num, HBk.out⟩
            case measure => have := HKL.out; simp [RowKit.intOf]; omega
        · obtain rfl : k = y.bd.length := by omega
          have hd4 : decide (y.bd.length < y.bd.length) = false := decide_eq_false (by omega)
          obtain rfl : nn = o := by rw [← hnn, HO.out.1]
          have HKR := Lib.hid (HK9.out.below hbk)
          have HHR := Lib.hid (HH9.out.below hbk)
          have g0 := HKR.out.g.at_ (i := 0) (v := .slice A m c) rfl
          have g1 := HKR.out.g.at_ (i := 1) (v := .int .i64 y.secs) rfl
          have p0 := HKR.out.p.at_ (i := 0) (v := .int .i64 pg) rfl
          have p1 := HKR.out.p.at_ (i := 1) (v := .int .i64 pa) rfl
          have HGR := Lib.hid (HG.out.below HKR.out.bel (Nat.le_refl _))
          have HTX := Lib.hid (refText_any s (by have := HL1.out; omega) wr)
          obtain ⟨sb, hsb⟩ : ∃ sb, secOk s = sb := ⟨_, rfl⟩
          rw [hsb] at HTX
          have HSB := Lib.hid hsb
          have hF : (F1 = 6 ∧ (((nn : Nat) : Int) == (y.bd.length : Int)) = true) ∨ (F1 = 0 ∧ (((nn : Nat) : Int) == (y.bd.length : Int)) = false) := by
            have := HO.out.2
            unfold flEr at this
            by_cases e : nn = y.bd.length
            · rw [if_pos e] at this
              exact .inl ⟨this.symm, by rw [e]; exact beq_self_eq_true _⟩
            · rw [if_neg e] at this
              exact .inr ⟨this.symm, by rw [beq_eq_false_iff_ne]; omega⟩
          clear hnn hbk hsb
          rcases hF with ⟨rfl, hon⟩ | ⟨rfl, hon⟩
          · cases sb with
            | false =>
              obtain ⟨rfl, rfl⟩ : E1 = 1 ∧ N1 = 0 := by
                obtain ⟨h1, h2, _⟩ := HE1.out
                have hne : ¬ encE y.gs y.secs pg pa s = 0 := by unfold encE; rw [HSB.out, if_neg Bool.false_ne_true]; decide
                rw [← h1, ← h2]
                unfold wE wN
                rw [if_neg hne, if_neg hne]
                exact ⟨rfl, rfl⟩
              go_wp2_with fail
              refine HTX.out.mono ?_
              rintro e wt ⟨rfl, hbt⟩
              have HBT := Lib.hid (keep_below hbt HKR.out.bel)
              clear hbt g0 g1 p0 p1
              go_wp2_with fail
              go_ret
              exact ⟨rfl, HBT.out⟩
            | true =>
              have hq : Int.tdiv (s.length : Int) 64 = (secN s : Int) := rfl
              have hs15 : secN s ≤ 15 := by have := HL1.out; unfold secN; omega
              have HMY := Lib.hid (fun (W : World) (hb : Below wr.heap.size wr W) => refMay_any A m c y.gs y.secs pg pa (secN s) W (HGR.out.below hb (Nat.le_refl _)))
              obtain ⟨cb, hcb⟩ : ∃ cb, cMay y.gs y.secs pg pa (secN s) = cb := ⟨_, rfl⟩
              rw [hcb] at HMY
              cases cb with
              | false =>
                obtain ⟨rfl, rfl⟩ : E1 = 1 ∧ N1 = 0 := by
                  obtain ⟨h1, h2, _⟩ := HE1.out
                  have hne : ¬ encE y.gs y.secs pg pa s = 0 := by unfold encE ofErr; rw [HSB.out, hcb]; decide
                  rw [← h1, ← h2]
                  unfold wE wN
                  rw [if_neg hne, if_neg hne]
                  exact ⟨rfl, rfl⟩
                clear hcb
                go_wp2_with fail
                refine HTX.out.mono ?_
                rintro e wt ⟨rfl, hbt⟩
                have HBT := Lib.hid hbt
                have g0 := keepc g0 hbt
                have g1 := keepc g1 hbt
                have p0 := keepc p0 hbt
                have p1 := keepc p1 hbt
                clear hbt
                go_wp2_with fail
                refine (HMY.out wt HBT.out).mono ?_
                rintro e wu ⟨rfl, hbu⟩
                have HBU := Lib.hid (keep_below (keep_below hbu HBT.out) HKR.out.bel)
                clear hbu g0 g1 p0 p1
                go_wp2_with fail
                go_ret
                exact ⟨rfl, HBU.out⟩
              | true =>
                obtain ⟨hhas, _, _, _⟩ := cMay_true hcb
                obtain ⟨gk, gx, hpk, hgk, _, _, _, hgx, hga, ho1⟩ := gHas_true hhas
                have hgw := HGR.out
                have hm := hgw.1
                have HFA := Lib.hid (fun (W : World) (hb : Below wr.heap.size wr W) => refFailed_n A m c y.gs y.secs pg pa (secN s) HOK1.out.2.2 (HGR.out.below hb (Nat.le_refl _)) hcb (HHR.out.below hb) (by have := HP.out; omega))
                obtain ⟨fN, hfN⟩ : ∃ fN, failN (colsOf y.gs y.secs pg pa (secN s)) (bAt hr) y.bd.length = fN := ⟨_, rfl⟩
                rw [hfN] at HFA
                have hfN2 := failN_le (colsOf y.gs y.secs pg pa (secN s)) (bAt hr) y.bd.length
                rw [hfN] at hfN2
                have hEN : E1 = (if lostB gx fN then 6 else 0) ∧ N1 = fN := by
                  obtain ⟨h1, h2, h3⟩ := HE1.out
                  have he : encE y.gs y.secs pg pa s = 0 := by unfold encE ofErr; rw [HSB.out, hcb]; rfl
                  have hs : failN (ofList y.gs y.secs pg pa (secN s)) (hereD aw ds0) y.bd.length = fN := by
                    unfold ofList
                    rw [if_pos hcb, ← hfN]
                    exact failN_same h3
                  rw [← h1, ← h2]
                  unfold wE wN
                  rw [if_pos he, if_pos he, hs, hpk, hga]
                  exact ⟨rfl, rfl⟩
                have hm2 := hgw.1
                obtain ⟨bg, og, rfl, hgc⟩ := hgw.2.2 (by omega)
                have hcg := hgc.2 gk gx hgx
                have hkm : gk < m := by omega
                subst hpk
                have HLO := Lib.hid (fun (W : World) => refLost_any gx fN ho1 W)
                obtain ⟨lb, hlb⟩ : ∃ lb, lostB gx fN = lb := ⟨_, rfl⟩
                rw [hlb] at HLO
                rw [hlb] at hEN
                have HCG := Lib.hid hcg
                obtain ⟨hE, hN⟩ : (E1 = if lb then 6 else 0) ∧ N1 = fN := hEN
                subst hN
                clear hhas hgk hgx hga ho1 hgw hm hm2 hgc hcg hcb hfN hlb
                cases lb with
                | true =>
                  obtain rfl : E1 = 6 := hE
                  go_wp2_with fail
                  refine HTX.out.mono ?_
                  rintro e wt ⟨rfl, hbt⟩
                  have HBT := Lib.hid hbt
                  have g0 := keepc g0 hbt
                  have g1 := keepc g1 hbt
                  have p0 := keepc p0 hbt
                  have p1 := keepc p1 hbt
                  clear hbt
                  go_wp2_with fail
                  refine (HMY.out wt HBT.out).mono ?_
                  rintro e wu ⟨rfl, hbu⟩
                  have HBU := Lib.hid (keep_below hbu HBT.out)
                  have g0 := keepc g0 hbu
                  have g1 := keepc g1 hbu
                  have p0 := keepc p0 hbu
                  have p1 := keepc p1 hbu
                  clear hbu
                  go_wp2_with fail
                  refine (HFA.out wu HBU.out).mono ?_
                  rintro e wv ⟨rfl, hbv⟩
                  have HBV := Lib.hid (keep_below (keep_below hbv HBU.out) HKR.out.bel)
                  have g0 := keepc g0 hbv
                  have g1 := keepc g1 hbv
                  have p0 := keepc p0 hbv
                  have p1 := keepc p1 hbv
                  have c0 := keepc (keepc HCG.out.1 HBU.out) hbv
                  have c1 := keepc (keepc HCG.out.2 HBU.out) hbv
                  clear hbv hq hs15
                  go_wp2_with fail
                  refine (HLO.out wv).mono ?_
                  rintro e wx ⟨rfl, hbx⟩
                  have HBX := Lib.hid (keep_below hbx HBV.out)
                  clear hbx g0 g1 p0 p1 c0 c1
                  go_wp2_with fail
                  go_ret
                  exact ⟨rfl, HBX.out⟩
                | false =>
                  obtain rfl : E1 = 0 := hE
                  go_wp2_with fail
                  refine HTX.out.mono ?_
                  rintro e wt ⟨rfl, hbt⟩
                  have HBT := Lib.hid hbt
                  have g0 := keepc g0 hbt
                  have g1 := keepc g1 hbt
                  have p0 := keepc p0 hbt
                  have p1 := keepc p1 hbt
                  clear hbt
                  go_wp2_with fail
                  refine (HMY.out wt HBT.out).mono ?_
                  rintro e wu ⟨rfl, hbu⟩
                  have HBU := Lib.hid (keep_below hbu HBT.out)
                  have g0 := keepc g0 hbu
                  have g1 := keepc g1 hbu
                  have p0 := keepc p0 hbu
                  have p1 := keepc p1 hbu
                  clear hbu
                  go_wp2_with fail
                  refine (HFA.out wu HBU.out).mono ?_
                  rintro e wv ⟨rfl, hbv⟩
                  have HBV := Lib.hid (keep_below (keep_below hbv HBU.out) HKR.out.bel)
                  have g0 := keepc g0 hbv
                  have g1 := keepc g1 hbv
                  have p0 := keepc p0 hbv
                  have p1 := keepc p1 hbv
                  have c0 := keepc (keepc HCG.out.1 HBU.out) hbv
                  have c1 := keepc (keepc HCG.out.2 HBU.out) hbv
                  clear hbv hq hs15
                  go_wp2_with fail
                  refine (HLO.out wv).mono ?_
                  rintro e wx ⟨rfl, hbx⟩
                  have HBX := Lib.hid (keep_below hbx HBV.out)
                  clear hbx g0 g1 p0 p1 c0 c1
                  go_wp2_with fail
                  go_ret
                  exact ⟨rfl, HBX.out⟩
          · cases sb with
            | false =>
              obtain ⟨rfl, rfl⟩ : E1 = 1 ∧ N1 = 0 := by
                obtain ⟨h1, h2, _⟩ := HE1.out
                have hne : ¬ encE y.gs y.secs pg pa s = 0 := by unfold encE; rw [HSB.out, if_neg Bool.false_ne_true]; decide
                rw [← h1, ← h2]
                unfold wE wN
                rw [if_neg hne, if_neg hne]
                exact ⟨rfl, rfl⟩
              go_wp2_with fail
              refine HTX.out.mono ?_
              rintro e wt ⟨rfl, hbt⟩
              have HBT := Lib.hid (keep_below hbt HKR.out.bel)
              clear hbt g0 g1 p0 p1
              go_wp2_with fail
              go_ret
              exact ⟨rfl, HBT.out⟩
            | true =>
              have hq : Int.tdiv (s.length : Int) 64 = (secN s : Int) := rfl
              have hs15 : secN s ≤ 15 := by have := HL1.out; unfold secN; omega
              have HMY := Lib.hid (fun (W : World) (hb : Below wr.heap.size wr W) => refMay_any A m c y.gs y.secs pg pa (secN s) W (HGR.out.below hb (Nat.le_refl _)))
              obtain ⟨cb, hcb⟩ : ∃ cb, cMay y.gs y.secs pg pa (secN s) = cb := ⟨_, rfl⟩
              rw [hcb] at HMY
              cases cb with
              | false =>
                obtain ⟨rfl, rfl⟩ : E1 = 1 ∧ N1 = 0 := by
                  obtain ⟨h1, h2, _⟩ := HE1.out
                  have hne : ¬ encE y.gs y.secs pg pa s = 0 := by unfold encE ofErr; rw [HSB.out, hcb]; decide
                  rw [← h1, ← h2]
                  unfold wE wN
                  rw [if_neg hne, if_neg hne]
                  exact ⟨rfl, rfl⟩
                clear hcb
                go_wp2_with fail
                refine HTX.out.mono ?_
                rintro e wt ⟨rfl, hbt⟩
                have HBT := Lib.hid hbt
                have g0 := keepc g0 hbt
                have g1 := keepc g1 hbt
                have p0 := keepc p0 hbt
                have p1 := keepc p1 hbt
                clear hbt
                go_wp2_with fail
                refine (HMY.out wt HBT.out).mono ?_
                rintro e wu ⟨rfl, hbu⟩
                have HBU := Lib.hid (keep_below (keep_below hbu HBT.out) HKR.out.bel)
                clear hbu g0 g1 p0 p1
                go_wp2_with fail
                go_ret
                exact ⟨rfl, HBU.out⟩
              | true =>
                obtain ⟨hhas, _, _, _⟩ := cMay_true hcb
                obtain ⟨gk, gx, hpk, hgk, _, _, _, hgx, hga, ho1⟩ := gHas_true hhas
                have hgw := HGR.out
                have hm := hgw.1
                have HFA := Lib.hid (fun (W : World) (hb : Below wr.heap.size wr W) => refFailed_n A m c y.gs y.secs pg pa (secN s) HOK1.out.2.2 (HGR.out.below hb (Nat.le_refl _)) hcb (HHR.out.below hb) (by have := HP.out; omega))
                obtain ⟨fN, hfN⟩ : ∃ fN, failN (colsOf y.gs y.secs pg pa (secN s)) (bAt hr) y.bd.length = fN := ⟨_, rfl⟩
                rw [hfN] at HFA
                have hfN2 := failN_le (colsOf y.gs y.secs pg pa (secN s)) (bAt hr) y.bd.length
                rw [hfN] at hfN2
                have hEN : E1 = (if lostB gx fN then 6 else 0) ∧ N1 = fN := by
                  obtain ⟨h1, h2, h3⟩ := HE1.out
                  have he : encE y.gs y.secs pg pa s = 0 := by unfold encE ofErr; rw [HSB.out, hcb]; rfl
                  have hs : failN (ofList y.gs y.secs pg pa (secN s)) (hereD aw ds0) y.bd.length = fN := by
                    unfold ofList
                    rw [if_pos hcb, ← hfN]
                    exact failN_same h3
                  rw [← h1, ← h2]
                  unfold wE wN
                  rw [if_pos he, if_pos he, hs, hpk, hga]
                  exact ⟨rfl, rfl⟩
                have hm2 := hgw.1
                obtain ⟨bg, og, rfl, hgc⟩ := hgw.2.2 (by omega)
                have hcg := hgc.2 gk gx hgx
                have hkm : gk < m := by omega
                subst hpk
                have HLO := Lib.hid (fun (W : World) => refLost_any gx fN ho1 W)
                obtain ⟨lb, hlb⟩ : ∃ lb, lostB gx fN = lb := ⟨_, rfl⟩
                rw [hlb] at HLO
                rw [hlb] at hEN
                have HCG := Lib.hid hcg
                obtain ⟨hE, hN⟩ : (E1 = if lb then 6 else 0) ∧ N1 = fN := hEN
                subst hN
                clear hhas hgk hgx hga ho1 hgw hm hm2 hgc hcg hcb hfN hlb
                cases lb with
                | true =>
                  obtain rfl : E1 = 6 := hE
                  go_wp2_with fail
                  refine HTX.out.mono ?_
                  rintro e wt ⟨rfl, hbt⟩
                  have HBT := Lib.hid hbt
                  have g0 := keepc g0 hbt
                  have g1 := keepc g1 hbt
                  have p0 := keepc p0 hbt
                  have p1 := keepc p1 hbt
                  clear hbt
                  go_wp2_with fail
                  refine (HMY.out wt HBT.out).mono ?_
                  rintro e wu ⟨rfl, hbu⟩
                  have HBU := Lib.hid (keep_below hbu HBT.out)
                  have g0 := keepc g0 hbu
                  have g1 := keepc g1 hbu
                  have p0 := keepc p0 hbu
                  have p1 := keepc p1 hbu
                  clear hbu
                  go_wp2_with fail
                  refine (HFA.out wu HBU.out).mono ?_
                  rintro e wv ⟨rfl, hbv⟩
                  have HBV := Lib.hid (keep_below (keep_below hbv HBU.out) HKR.out.bel)
                  have g0 := keepc g0 hbv
                  have g1 := keepc g1 hbv
                  have p0 := keepc p0 hbv
                  have p1 := keepc p1 hbv
                  have c0 := keepc (keepc HCG.out.1 HBU.out) hbv
                  have c1 := keepc (keepc HCG.out.2 HBU.out) hbv
                  clear hbv hq hs15
                  go_wp2_with fail
                  refine (HLO.out wv).mono ?_
                  rintro e wx ⟨rfl, hbx⟩
                  have HBX := Lib.hid (keep_below hbx HBV.out)
                  clear hbx g0 g1 p0 p1 c0 c1
                  go_wp2_with fail
                  go_ret
                  exact ⟨rfl, HBX.out⟩
                | false =>
                  obtain rfl : E1 = 0 := hE
                  go_wp2_with fail
                  refine HTX.out.mono ?_
                  rintro e wt ⟨rfl, hbt⟩
                  have HBT := Lib.hid hbt
                  have g0 := keepc g0 hbt
                  have g1 := keepc g1 hbt
                  have p0 := keepc p0 hbt
                  have p1 := keepc p1 hbt
                  clear hbt
                  go_wp2_with fail
                  refine (HMY.out wt HBT.out).mono ?_
                  rintro e wu ⟨rfl, hbu⟩
                  have HBU := Lib.hid (keep_below hbu HBT.out)
                  have g0 := keepc g0 hbu
                  have g1 := keepc g1 hbu
                  have p0 := keepc p0 hbu
                  have p1 := keepc p1 hbu
                  clear hbu
                  go_wp2_with fail
                  refine (HFA.out wu HBU.out).mono ?_
                  rintro e wv ⟨rfl, hbv⟩
                  have HBV := Lib.hid (keep_below (keep_below hbv HBU.out) HKR.out.bel)
                  have g0 := keepc g0 hbv
                  have g1 := keepc g1 hbv
                  have p0 := keepc p0 hbv
                  have p1 := keepc p1 hbv
                  have c0 := keepc (keepc HCG.out.1 HBU.out) hbv
                  have c1 := keepc (keepc HCG.out.2 HBU.out) hbv
                  clear hbv hq hs15
                  go_wp2_with fail
                  refine (HLO.out wv).mono ?_
                  rintro e wx ⟨rfl, hbx⟩
                  have HBX := Lib.hid (keep_below hbx HBV.out)
                  clear hbx g0 g1 p0 p1 c0 c1
                  go_wp2_with fail
                  go_ret
                  exact ⟨rfl, HBX.out⟩
end Go.Proofs.Ytppccdbfnhgdbaa
