/-
  The statement VdevBack, walked.
-/
import Derived.Test.YtppccdbfnhgdbaaGreatJ19
import Derived.Test.YtppccdbfnhgdbaaGreatJ22
import Derived.RangeFuncWrites
import Derived.RangeFuncLeaves
namespace Go.Proofs.YtppccdbfnhgdbaaGreat
set_option linter.unusedVariables false
set_option linter.unusedSimpArgs false
open Go.RowKit
attribute [local go_sem] Oper.semAt_some

theorem kc_putObj {V : Nat → Prop} {B : Nat} (W : World) (l : Nat) (o o' : Obj) (_ : B ≤ l) (h : W.heap[l]? = some o) (hc : o.isCells = false) (_ : o.isWalk = false) : KC V W (W.putObj l o') :=
  ⟨(grownBy_putObj' W l o').size, fun b k v _ hv => cell_kept hv (grownBy_putObj' W l o') (fun r e => by cases e; exact ⟨o, h, hc⟩)⟩
theorem kc_set {V : Nat → Prop} (W : World) {b : Nat} (i : Nat) (u : Value) (hb : V b) : KC V W (W.setCell ⟨b, i, none⟩ u) :=
  ⟨by simp [World.setCell], fun b' o v hn h => (World.cell?_of_block (Below.heap_setCell W ⟨b, i, none⟩ u b' (fun e => hn (by rw [e]; exact hb)))).trans h⟩
theorem blk_kept {W W' : World} {g B : Nat} {t : TypeId} {cs : Array Value} {row : Option Nat} (h : Blk W g t cs) (hg : W.grownBy W' row) (hr : ∀ r, row = some r → B ≤ r ∧ ∃ o : Obj, W.heap[r]? = some o ∧ o.isCells = false) : Blk W' g t cs :=
  (hg.block g h.lt (fun e => by
    obtain ⟨_, o, h1, h2⟩ := hr g e.symm
    rw [h] at h1
    cases h1
    cases h2)).trans h
theorem blk_new3 (w : World) (o1 o2 : Obj) (t : TypeId) (cs : Array Value) : Blk (((w.alloc o1).alloc o2).alloc (.cells cs t)) (w.heap.size + 1 + 1) t cs := by
  have := Blk.new2 (w.alloc o1) o2 t cs
  rwa [World.size_alloc] at this
theorem cols_pos {gs : List (Int × Int)} {secs pg pa size : Int} (h : cMay gs secs pg pa size = true) : 0 < (colsOf gs secs pg pa size).length := by
  by_cases hk : (grAt gs pg).1 = 0
  · have hM := mirL_of h hk
    rw [hM.len]
    exact Nat.mul_pos hM.wpos hM.pos
  · have hP := parL_of h hk
    have h1 := hP.cnt
    have := (cMay_true h).2.1
    have h2 := List.length_filter_le (fun c : Col => !c.2.2.1) (colsOf gs secs pg pa size)
    omega
set_option maxRecDepth 100000 in
set_option maxHeartbeats 4000000 in
theorem vdevBack_any (A : Option Addr) (m c : Nat) (gs : List (Int × Int)) (secs pg pa : Int) (s : List UInt8) (hsl : s.length ≤ 9223372036854775807) {av lv : Value} {al ll : List Bool} {w : World} (hg : GeoAt w A m gs) (ha : SlAt w av al.length (boolC al)) (hlo : SlAt w lv ll.length (boolC ll)) :
    Calls Tryz.prog 3 #[.agg #[.slice A m c, .int .i64 secs], .agg #[.int .i64 pg, .int .i64 pa], str s, av, lv] w fun e w' => e = .returned (.bool true) ∧ Below w.heap.size w w' := by
  obtain ⟨Aa, ca, rfl⟩ := ha.form
  obtain ⟨Al, cl, rfl⟩ := hlo.form
  have HAL := Lib.hid (And.intro ha hlo)
  clear ha hlo
  obtain ⟨w2, hw2⟩ : ∃ z, ((w.alloc (.cells #[.slice A m c, .int .i64 secs] 24)).alloc (.cells #[.int .i64 pg, .int .i64 pa] 26)).alloc (.cells #[str s] 9) = z := ⟨_, rfl⟩
  have B1 : Blk w2 w.heap.size 24 #[.slice A m c, .int .i64 secs] := by rw [← hw2]; exact ((Blk.new _ _ _).alloc _).alloc _
  have B2 : Blk w2 (w.heap.size + 1) 26 #[.int .i64 pg, .int .i64 pa] := by rw [← hw2]; exact (Blk.new2 _ _ _ _).alloc _
  have B3 : Blk w2 (w.heap.size + 1 + 1) 9 #[str s] := by rw [← hw2]; exact blk_new3 _ _ _ _ _
  have D2 : Below w.heap.size w w2 := by rw [← hw2]; exact keep_alloc (keep_alloc (keep_alloc (Below.refl _ _) _) _) _
  have hs2 : w2.heap.size = w.heap.size + 3 := by rw [← hw2]; simp
  have HB1 := Lib.hid B1
  have HB2 := Lib.hid B2
  have HBS := Lib.hid B3
  have HD2 := Lib.hid D2
  have HW2 := Lib.hid hw2
  have HS2 := Lib.hid hs2
  have HG := Lib.hid hg
  clear hg B1 B2 B3 D2 hw2 hs2
  refine (callsIn_wide (n := 9)).1 ?_
  refine callsIn_of_wp_marks Tryz.func3 rfl trivial (wpIn_wide.2 ?_) rfl
  simp only [Tryz.ntmps3, List.size_toArray, List.length_cons, List.length_nil, Nat.reduceAdd, Nat.reduceSub, Array.replicate_succ, Array.replicate_zero, List.push_toArray, List.append_toArray, List.nil_append, List.cons_append]
  go_wp2_with fail
  rw [HW2.out]
  refine (awake08_any w2).mono ?_
  rintro e w3 ⟨rfl, hb3⟩
  have HB3 := Lib.hid hb3
  have s0 := (HBS.out.below hb3 HBS.out.lt).at_ (i := 0) (v := str s) rfl
  have g0 := (HB1.out.below hb3 HB1.out.lt).at_ (i := 0) (v := .slice A m c) rfl
  have g1 := (HB1.out.below hb3 HB1.out.lt).at_ (i := 1) (v := .int .i64 secs) rfl
  clear hb3
  by_cases h1 : 1000 < s.length
  · have hd1 : decide ((1000 : Int) < s.length) = true := decide_eq_true (by omega)
    clear h1
    go_wp2_with fail
    refine (awake08_any w3).mono ?_
    rintro e w4 ⟨rfl, hb4⟩
    have HB4 := Lib.hid (keep_below (keep_below hb4 HB3.out) HD2.out)
    clear hb4 s0 g0 g1
    go_wp2_with fail
    exact ⟨_, results_tmp rfl _ _ _, rfl, HB4.out⟩
  have hd1 : decide ((1000 : Int) < s.length) = false := decide_eq_false (by omega)
  have HL1 : Hid (s.length ≤ 1000) := Lib.hid (by omega)
  clear h1 hsl
  have HG3 := Lib.hid ((HG.out.below HD2.out (Nat.le_refl _)).below HB3.out (Nat.le_refl _))
  have HA3 := Lib.hid (And.intro ((HAL.out.1.below HD2.out).below HB3.out) ((HAL.out.2.below HD2.out).below HB3.out))
  cases hr : (gRight gs secs && decide (secs ≤ 200)) with
  | false =>
    have HDV := Lib.hid (devices_bad (c := c) HG3.out hr (.slice Aa al.length ca) (.slice Al ll.length cl))
    clear hr
    go_wp2_with fail
    refine HDV.out.mono ?_
    rintro e w4 ⟨rfl, hb4⟩
    have HB4 := Lib.hid (keep_below (keep_below hb4 HB3.out) HD2.out)
    clear hb4 s0 g0 g1
    go_wp2_with fail
    exact ⟨_, results_tmp rfl _ _ _, rfl, keep_alloc HB4.out _⟩
  | true =>
    simp only [Bool.and_eq_true, decide_eq_true_eq] at hr
    obtain ⟨hrr, hs200⟩ := hr
    have hbd := gRight_parts hrr
    obtain ⟨sc, rfl⟩ := Int.eq_ofNat_of_zero_le (show 0 ≤ secs by omega)
    obtain ⟨n, hn⟩ := Int.eq_ofNat_of_zero_le (Int.le_of_lt (gSum_pos hrr))
    have HDV := Lib.hid (devices_any (c := c) HG3.out hrr (by omega) hn HA3.out.1 HA3.out.2)
    have HP : Hid (gRight gs sc = true ∧ gSum gs = n ∧ 24 ≤ sc ∧ sc ≤ 200 ∧ n ≤ 32 ∧ 0 < n) := Lib.hid ⟨hrr, hn, by omega, by omega, by have := (gSum_bd (gs := gs) (fun x hx => by have := gOne_true (hbd.2.2.2.2 x hx); omega)).2; omega, by have := gSum_pos hrr; omega⟩
    clear hrr hs200 hbd hn
    go_wp2_with fail
    refine HDV.out.mono ?_
    rintro e w4 ⟨y, S, U0, hv, rfl, hys, hysec, hyn, hV, hub, hhv, hya, hb4⟩
    subst hysec
    subst hyn
    obtain ⟨Ah, ch, rfl⟩ := hhv.form
    clear g0 g1 s0 HDV
    have HU0S := Lib.hid hV.us
    subst hys
    obtain ⟨w5, hw5⟩ : ∃ z, w4.alloc (.cells y.cells 31) = z := ⟨_, rfl⟩
    have hX5 : Blk w5 w4.heap.size 31 y.cells := by rw [← hw5]; exact Blk.new _ _ _
    have hb45 : Below w4.heap.size w4 w5 := by rw [← hw5]; exact keep_alloc (Below.refl _ _) _
    have hs5 : w5.heap.size = w4.heap.size + 1 := by rw [← hw5]; simp
    obtain ⟨U, hU⟩ : ∃ U, U = more U0 w4 w5 := ⟨_, rfl⟩
    have hV5 := hV.more hb45
    rw [← hU] at hV5
    have HV5 := Lib.hid hV5
    have HUL : Hid (∀ b, b < w.heap.size + 3 → U b) := Lib.hid (fun b hb => by rw [hU]; exact .inl (hub b (by have := HS2.out; have := HB3.out.size; omega)))
    have HUX : Hid (U w4.heap.size) := Lib.hid (by rw [hU]; exact .inr ⟨Nat.le_refl _, by omega⟩)
    have HK5 : Hid (KX w w5 A m c y.secs pg pa y w4.heap.size ∧ Blk w5 (w.heap.size + 1 + 1) 9 #[str s]) := Lib.hid (by
      have b13 := HB1.out.below HB3.out HB1.out.lt
      have b23 := HB2.out.below HB3.out HB2.out.lt
      have b33 := HBS.out.below HB3.out HBS.out.lt
      have b14 := b13.below hb4 b13.lt
      have b24 := b23.below hb4 b23.lt
      have b34 := b33.below hb4 b33.lt
      exact ⟨⟨b14.below hb45 b14.lt, b24.below hb45 b24.lt, hX5, keep_below hb45 (keep_below hb4 (keep_below HB3.out HD2.out))⟩, b34.below hb45 b34.lt⟩)
    have HHV := Lib.hid (And.intro hhv (And.intro hb45 hU))
    have HW5 := Lib.hid hw5
    clear hw5 hX5 hb45 hs5 hU hV5 hV hub hhv hb4 hya
    have k5 := HK5.out
    rw [← HW5.out] at k5
    have x0 := (k5.1).x.at_ (i := 0) (v := .slice (some ⟨y.gb, 0, none⟩) y.m y.cc) rfl
    have x1 := (k5.1).x.at_ (i := 1) (v := .int .i64 y.secs) rfl
    have x2 := (k5.1).x.at_ (i := 2) (v := .slice (some ⟨y.lb, 0, none⟩) y.bd.length y.lc) rfl
    have x3 := (k5.1).x.at_ (i := 3) (v := .slice (some ⟨y.ab, 0, none⟩) y.bd.length y.bd.length) rfl
    have p0 := (k5.1).p.at_ (i := 0) (v := .int .i64 pg) rfl
    have p1 := (k5.1).p.at_ (i := 1) (v := .int .i64 pa) rfl
    have s0 := k5.2.at_ (i := 0) (v := str s) rfl
    have hok : DsOk 0 y.secs (lsT ll (DevD.blank y.secs 0) y.bd.length y.bd.length) := lsT_ok (by have := HP.out; omega) (by have := HP.out; omega)
    have HWR := Lib.hid (vwrite_any HV5.out hok (by decide) (by have := HP.out; omega) pg pa s (by have := HL1.out; omega))
    obtain ⟨aw, haw⟩ : ∃ aw, awT al y.bd.length y.bd.length = aw := ⟨_, rfl⟩
    obtain ⟨ds0, hds0⟩ : ∃ ds0, lsT ll (DevD.blank y.secs 0) y.bd.length y.bd.length = ds0 := ⟨_, rfl⟩
    obtain ⟨hr, hhr⟩ : ∃ hr, hrT al ll y.bd.length = hr := ⟨_, rfl⟩
    have hH0 : ∀ i, i < y.bd.length → hereD aw ds0 i = bAt hr i := fun i hi => by rw [← haw, ← hds0, ← hhr, lsT_here hi, hrT_bAt hi]
    have hrl : hr.length = y.bd.length := by rw [← hhr, hrT_len]
    rw [haw, hds0] at HWR HV5
    rw [hds0] at hok
    rw [hhr] at HHV
    have HH5 : Hid (SlU w5 U (.slice Ah y.bd.length ch) y.bd.length (boolC hr)) := Lib.hid (by
      obtain ⟨a1, a2, a3⟩ := HHV.out
      rw [a3]
      exact (a1.stays (stays_below a2) HU0S.out).mono (fun b h => .inl h))
    obtain ⟨E1, hE1⟩ : ∃ E1, wE y.gs y.secs pg pa s (hereD aw ds0) y.bd.length = E1 := ⟨_, rfl⟩
    obtain ⟨N1, hN1⟩ : ∃ N1, wN y.gs y.secs pg pa s (hereD aw ds0) y.bd.length = N1 := ⟨_, rfl⟩
    rw [hE1, hN1] at HWR
    have HE1 := Lib.hid (And.intro hE1 (And.intro hN1 (And.intro hH0 (And.intro hrl hok))))
    clear hE1 hN1 k5 hok hH0 hrl haw hds0 hhr
    go_wp2_with fail
    rw [HW5.out]
    refine HWR.out.mono ?_
    rintro e w6 ⟨rfl, ⟨S6, hV6⟩, hst6⟩
    clear x0 x1 x2 x3 p0 p1 s0 HWR
    have HK6 := Lib.hid (And.intro (HK5.out.1.stays hst6 (fun b hb => HUL.out b (by omega)) HUX.out) (show Blk w6 (w.heap.size + 1 + 1) 9 #[str s] from (hst6.heap (HUL.out _ (by omega)) HK5.out.2.lt).trans HK5.out.2))
    have HH6 := Lib.hid ((HH5.out.stays hst6 HV5.out.us).to hV6.us)
    have HV6 := Lib.hid hV6
    have HEN := Lib.hid (encode_any A m c y.gs y.secs pg pa s (HG.out.below HK6.out.1.bel (Nat.le_refl _)) (by have := HL1.out; omega))
    obtain ⟨E, hE⟩ : ∃ E, encE y.gs y.secs pg pa s = E := ⟨_, rfl⟩
    rw [hE] at HEN
    have HE := Lib.hid hE
    have g0 := HK6.out.1.g.at_ (i := 0) (v := .slice A m c) rfl
    have g1 := HK6.out.1.g.at_ (i := 1) (v := .int .i64 y.secs) rfl
    have p0 := HK6.out.1.p.at_ (i := 0) (v := .int .i64 pg) rfl
    have p1 := HK6.out.1.p.at_ (i := 1) (v := .int .i64 pa) rfl
    have s0 := HK6.out.2.at_ (i := 0) (v := str s) rfl
    clear hV6 hst6 hE
    go_wp2_with fail
    refine HEN.out.mono ?_
    rintro e w7 ⟨v7, rfl, hsl7, hb7, hnew7⟩
    have HK7 := Lib.hid (And.intro (HK6.out.1.below hb7) (HK6.out.2.below hb7 HK6.out.2.lt))
    have HB67 := Lib.hid hb7
    clear g0 g1 p0 p1 s0
    by_cases hz : E = 0
    · subst hz
      obtain ⟨e1, e2, e3⟩ := encE_zero HE.out
      have hlenT := (enc_encL (s := s) e2).len
      have hO64 := ofList_le y.gs y.secs pg pa (secN s)
      have hpos := cols_pos e2
      have hwd : wD y.gs y.secs pg pa s aw ds0 = wrTo aw (ofList y.gs y.secs pg pa (secN s)) (encL y.gs y.secs pg pa s) ds0 (ofList y.gs y.secs pg pa (secN s)).length := by unfold wD; rw [if_pos HE.out]
      have hVR := vraw_any (HV6.out.below hb7) (by have := HP.out; omega) pg pa (secN s)
      rw [hwd, raw_back HP.out.1 HP.out.2.1 HE.out HE1.out.2.2.2.2 HV5.out.n2, ofErr_good e2, ofList_may e2] at hVR
      have hRO := fun (W : World) (hb : Below w7.heap.size w7 W) => refOf_any A m c y.gs y.secs pg pa (secN s) W ((HG.out.below HK7.out.1.bel (Nat.le_refl _)).below hb (Nat.le_refl _)) e2
      have hBF := back_found (s := s) (hs := hereD aw ds0) e2 e1 (n := y.bd.length) (by unfold gDevs; rw [if_pos HP.out.1]; exact HP.out.2.1)
      have hin : ∀ i, i < (colsOf y.gs y.secs pg pa (secN s)).length → 0 ≤ ((colsOf y.gs y.secs pg pa (secN s)).getD i (0, 0, false, 0)).1 ∧ ((colsOf y.gs y.secs pg pa (secN s)).getD i (0, 0, false, 0)).1 < y.bd.length := fun i hi => by
        obtain ⟨t, hl, _⟩ := cols_lie e2 (colD_in hi)
        have h1 := lies_in e2 hl
        have h2 : gDevs y.gs y.secs = y.bd.length := by unfold gDevs; rw [if_pos HP.out.1]; exact HP.out.2.1
        omega
      have hE1 : E1 = if lostB (grAt y.gs pg) (failN (colsOf y.gs y.secs pg pa (secN s)) (hereD aw ds0) y.bd.length) then 6 else 0 := by
        rw [← HE1.out.1]
        unfold wE
        rw [if_pos HE.out, ofList_may e2]
      rw [ofList_may e2] at hO64
      rw [e3] at hsl7
      obtain ⟨T, hT⟩ : ∃ T, encL y.gs y.secs pg pa s = T := ⟨_, rfl⟩
      obtain ⟨L, hL⟩ : ∃ L, colsOf y.gs y.secs pg pa (secN s) = L := ⟨_, rfl⟩
      rw [hT] at hsl7 hlenT hVR hBF
      rw [hL] at hlenT hO64 hpos hVR hRO hBF hin hE1
      obtain ⟨R, hR⟩ : ∃ R, backG L T (hereD aw ds0) = R := ⟨_, rfl⟩
      have hRl : R.length = L.length := by rw [← hR, backG_len]
      have hRg : ∀ i, i < L.length → R.getD i [] = if hereD aw ds0 (L.getD i (0, 0, false, 0)).1.toNat then T.getD i [] else [] := fun i hi => by rw [← hR]; exact backG_get hi
      rw [hR] at hVR hBF
      rw [hRl] at hVR
      rw [hlenT] at hsl7
      obtain ⟨lb, hlb⟩ : ∃ lb, lostB (grAt y.gs pg) (failN L (hereD aw ds0) y.bd.length) = lb := ⟨_, rfl⟩
      rw [hlb] at hBF hE1
      obtain ⟨A7, c7, rfl⟩ := hsl7.form
      have HS7 := Lib.hid hsl7
      have HVR := Lib.hid hVR
      have HRO := Lib.hid hRO
      have HBF := Lib.hid (And.intro hBF hE1)
      have HLN := Lib.hid (And.intro hlenT (And.intro hO64 (And.intro hRl (And.intro hRg hin))))
      have x0 := (HK7.out.1).x.at_ (i := 0) (v := .slice (some ⟨y.gb, 0, none⟩) y.m y.cc) rfl
      have x1 := (HK7.out.1).x.at_ (i := 1) (v := .int .i64 y.secs) rfl
      have x2 := (HK7.out.1).x.at_ (i := 2) (v := .slice (some ⟨y.lb, 0, none⟩) y.bd.length y.lc) rfl
      have x3 := (HK7.out.1).x.at_ (i := 3) (v := .slice (some ⟨y.ab, 0, none⟩) y.bd.length y.bd.length) rfl
      have p0 := (HK7.out.1).p.at_ (i := 0) (v := .int .i64 pg) rfl
      have p1 := (HK7.out.1).p.at_ (i := 1) (v := .int .i64 pa) rfl
      have s0 := HK7.out.2.at_ (i := 0) (v := str s) rfl
      have hq : Int.tdiv (s.length : Int) 64 = (secN s : Int) := rfl
      have hs15 : secN s ≤ 15 := by have := HL1.out; unfold secN; omega
      clear hsl7 hlenT hVR hRO hBF hE1 hO64 hRl hRg hin hwd hT hL hR hlb e1 e2 e3 hb7 hnew7
      go_wp2_with fail
      refine HVR.out.mono ?_
      rintro e w8 ⟨v8, rfl, hsl8, hb8, hnew8⟩
      have HK8 := Lib.hid (And.intro (HK7.out.1.below hb8) (HK7.out.2.below hb8 HK7.out.2.lt))
      obtain ⟨A8, c8, rfl⟩ := hsl8.form
      have HS8 := Lib.hid (And.intro (HS7.out.below hb8) hsl8)
      have HRO8 := Lib.hid (HRO.out w8 hb8)
      have HB78 := Lib.hid hb8
      have g0 := HK8.out.1.g.at_ (i := 0) (v := .slice A m c) rfl
      have g1 := HK8.out.1.g.at_ (i := 1) (v := .int .i64 y.secs) rfl
      have q0 := HK8.out.1.p.at_ (i := 0) (v := .int .i64 pg) rfl
      have q1 := HK8.out.1.p.at_ (i := 1) (v := .int .i64 pa) rfl
      have t0 := HK8.out.2.at_ (i := 0) (v := str s) rfl
      clear hsl8 hb8 hnew8 x0 x1 x2 x3 p0 p1 s0
      go_wp2_with fail
      refine HRO8.out.mono ?_
      rintro e w9 ⟨cv, rfl, hown9, hb9⟩
      have HK9 := Lib.hid (And.intro (HK8.out.1.below hb9) (HK8.out.2.below hb9 HK8.out.2.lt))
      obtain ⟨A9, c9, rfl⟩ := (slAt_own hown9).form
      have HS9 := Lib.hid (And.intro (HS8.out.1.below hb9) (And.intro (HS8.out.2.below hb9) (slAt_own hown9)))
      have HH9 := Lib.hid (((HH6.out.below (show Below w6.heap.size w6 w7 from HB67.out)).below HB78.out).below hb9)
      clear hown9 hb9 g0 g1 q0 q1 t0 hq hs15
      go_wp2_with fail
      go_loopw [21] (fun t wr => ∃ k : Nat, k ≤ L.length ∧ t = .int .i64 k ∧ Below w9.heap.size w9 wr) (fun t _ => L.length - (RowKit.intOf t).toNat)
      case atStart => exact ⟨0, Nat.zero_le _, rfl, Below.refl _ _⟩
      case round =>
        obtain ⟨k, hk, rfl, hb⟩ := hrel
        have HB := Lib.hid hb
        by_cases hlt : k < L.length
        · have hx := colD_in hlt
          have hRk := HLN.out.2.2.2.1 k hlt
          have hdv := HLN.out.2.2.2.2 k hlt
          obtain ⟨x, hxd⟩ : ∃ x, L.getD k (0, 0, false, 0) = x := ⟨_, rfl⟩
          rw [hxd] at hx hRk hdv
          obtain ⟨dn, hdn⟩ := Int.eq_ofNat_of_zero_le hdv.1
          have hdl : dn < y.bd.length := by omega
          rw [hdn, Int.toNat_natCast, HE1.out.2.2.1 dn hdl] at hRk
          obtain ⟨b, hbv⟩ : ∃ b, bAt hr dn = b := ⟨_, rfl⟩
          rw [hbv] at hRk
          obtain ⟨tk, htk⟩ : ∃ tk, T.getD k [] = tk := ⟨_, rfl⟩
          rw [htk] at hRk
          have hTk : T[k]? = some tk := by rw [← htk, List.getD_eq_getElem?_getD, List.getElem?_eq_getElem (by rw [HLN.out.1]; exact hlt)]; rfl
          have hRk2 : R[k]? = some (R.getD k []) := by rw [List.getD_eq_getElem?_getD, List.getElem?_eq_getElem (by rw [HLN.out.2.2.1]; exact hlt)]; rfl
          rw [hRk] at hRk2
          obtain ⟨ba, oa, rfl, hba, hca⟩ := HS9.out.1.cells (by omega)
          obtain ⟨br, or_, rfl, hbr, hcr⟩ := HS9.out.2.1.cells (by omega)
          obtain ⟨bc, oc, rfl, hbc, hcc⟩ := HS9.out.2.2.cells (by omega)
          obtain ⟨bh, oh, rfl, hbh, hch⟩ := HH9.out.cells (by omega)
          have r0 := keepc (hcc _ _ (colsCells_at hx).1) hb
          have r1 := keepc (hch _ _ (boolC_at (bAt_in (show dn < hr.length by rw [HE1.out.2.2.2.1]; exact hdl)))) hb
          have r2 := keepc (hca _ _ (strC_at hTk)) hb
          have r3 := keepc (hcr _ _ (strC_at hRk2)) hb
          rw [hdn] at r0
          rw [hbv] at r1
          obtain ⟨C, hCd, hCw, hCB, hCK, hCD⟩ := cls_below wr
          have f0 : ∀ W, C W → W.cell? ⟨bc, oc + k * 4, none⟩ = some (.int .i64 dn) := fun W h => keepc r0 (hCB W h)
          have f1 : ∀ W, C W → W.cell? ⟨bh, oh + dn, none⟩ = some (.bool b) := fun W h => keepc r1 (hCB W h)
          have f2 : ∀ W, C W → W.cell? ⟨ba, oa + k, none⟩ = some (str tk) := fun W h => keepc r2 (hCB W h)
          have f3 : ∀ W, C W → W.cell? ⟨br, or_ + k, none⟩ = some (str (if b then tk else [])) := fun W h => keepc r3 (hCB W h)
          have hd1 : decide (k < L.length) = true := decide_eq_true hlt
          have hl64 := HLN.out.2.1
          have HKL := Lib.hid hlt
          clear r0 r1 r2 r3 hca hcr hcc hch hba hbr hbc hbh hx hxd hRk hdv hdn hbv htk hTk hRk2 hb hCw hCK hCD
          cases b with
          | true =>
            simp only [if_true] at f3
            go_wp2_with fail
            refine wp_region_cls C (by kernel_rfl) (by kernel_rfl) hCd ?_
            repeat (first
              | go_big_quiet_skip
              | (go_big_quiet_want
                 go_big_quiet_op
                 first
                   | go_big_quiet_on
                   | (apply Exists.intro
                      refine ⟨fun W hW => ?_, ?_⟩
                      · first
                          | exact rfl
                          | exact ⟨rfl, rfl⟩
                          | (have e0 := f0 W hW; have e1 := f1 W hW; have e2 := f2 W hW; have e3 := f3 W hW; simp only [e0, e1, e2, e3, Result.andThen_ok]; done)
                          | (have e0 := f0 W hW; have e1 := f1 W hW; have e2 := f2 W hW; have e3 := f3 W hW; simp only [e0, e1, e2, e3, Result.andThen_ok]; first | exact ⟨trivial, rfl⟩ | exact rfl | exact ⟨rfl, rfl⟩)
                          | (skip)
                      go_big_quiet_on)))
            refine wpQuiet_nil ?_
            intro wz hwz
            have HBZ := Lib.hid (keep_below (hCB wz hwz) HB.out)
            clear f0 f1 f2 f3 hCd hCB hwz
            go_wp2_with fail
            go_roundw
            case rel => exact ⟨k + 1, HKL.out, by go_num, HBZ.out⟩
            case measure => have := HKL.out; simp [RowKit.intOf]; omega
          | false =>
            simp only [Bool.false_eq_true, if_false] at f3
            go_wp2_with fail
            refine wp_region_cls C (by kernel_rfl) (by kernel_rfl) hCd ?_
            repeat (first
              | go_big_quiet_skip
              | (go_big_quiet_want
                 go_big_quiet_op
                 first
                   | go_big_quiet_on
                   | (apply Exists.intro
                      refine ⟨fun W hW => ?_, ?_⟩
                      · first
                          | exact rfl
                          | exact ⟨rfl, rfl⟩
                          | (have e0 := f0 W hW; have e1 := f1 W hW; have e2 := f2 W hW; have e3 := f3 W hW; simp only [e0, e1, e2, e3, Result.andThen_ok]; done)
                          | (have e0 := f0 W hW; have e1 := f1 W hW; have e2 := f2 W hW; have e3 := f3 W hW; simp only [e0, e1, e2, e3, Result.andThen_ok]; first | exact ⟨trivial, rfl⟩ | exact rfl | exact ⟨rfl, rfl⟩)
                          | (skip)
                      go_big_quiet_on)))
            refine wpQuiet_nil ?_
            intro wz hwz
            have HBZ := Lib.hid (keep_below (hCB wz hwz) HB.out)
            clear f0 f1 f2 f3 hCd hCB hwz
            go_wp2_with fail
            go_roundw
            case rel => exact ⟨k + 1, HKL.out, by go_num, HBZ.out⟩
            case measure => have := HKL.out; simp [RowKit.intOf]; omega
        · obtain rfl : k = L.length := by omega
          have hd1 : decide (L.length < L.length) = false := decide_eq_false (by omega)
          rename World => wb
          have HKB := Lib.hid (And.intro (HK9.out.1.below hb) (HK9.out.2.below hb HK9.out.2.lt))
          have HRB := Lib.hid (HS9.out.2.1.below hb)
          obtain ⟨wx, hwx⟩ : ∃ z, wb.alloc (.cells #[.bool false] 4) = z := ⟨_, rfl⟩
          have hbx : Below wb.heap.size wb wx := by rw [← hwx]; exact keep_alloc (Below.refl _ _) _
          have hNx : Blk wx wb.heap.size 4 #[.bool false] := by rw [← hwx]; exact Blk.new _ _ _
          have HKX := Lib.hid (And.intro (HKB.out.1.below hbx) (And.intro (HKB.out.2.below hbx HKB.out.2.lt) hNx))
          have HTA := Lib.hid (tries_any (w := wx) A m c y.secs pg pa (secN s) (.slice A8 L.length c8) ⟨_, _, _, rfl⟩)
          have HBX := Lib.hid hbx
          have g0 := HKX.out.1.g.at_ (i := 0) (v := .slice A m c) rfl
          have g1 := HKX.out.1.g.at_ (i := 1) (v := .int .i64 y.secs) rfl
          have q0 := HKX.out.1.p.at_ (i := 0) (v := .int .i64 pg) rfl
          have q1 := HKX.out.1.p.at_ (i := 1) (v := .int .i64 pa) rfl
          have t0 := HKX.out.2.1.at_ (i := 0) (v := str s) rfl
          have hq : Int.tdiv (s.length : Int) 64 = (secN s : Int) := rfl
          have hs15 : secN s ≤ 15 := by have := HL1.out; unfold secN; omega
          rw [← hwx] at g0 g1 q0 q1 t0
          have HWX := Lib.hid hwx
          clear hwx hbx hNx hb
          go_wp2_with fail
          rw [HWX.out]
          refine HTA.out.mono ?_
          rintro e wc ⟨rfl, hbt, hbc⟩
          clear g0 g1 q0 q1 t0 hq hs15 hd1
          have hKC := HKX.out.1.below hbc
          have hSC := HKX.out.2.1.below hbc HKX.out.2.1.lt
          have hNC := HKX.out.2.2.below hbc HKX.out.2.2.lt
          have hgC := HG.out.below hKC.bel (Nat.le_refl _)
          have hRC := (HRB.out.below HBX.out).below hbc
          have hsx : SlV wc (fun b => b = wb.heap.size) (.slice A8 L.length c8) R.length (strC R) := by
            obtain ⟨A', c', h1, h2, h3⟩ := hRC
            cases h1
            rw [HLN.out.2.2.1]
            refine ⟨_, _, rfl, h2, fun hp => ?_⟩
            obtain ⟨b, o, e1, e2, e3⟩ := h3 hp
            subst e1
            obtain ⟨b', o', e4, e5, _⟩ := HRB.out.cells hp
            cases e4
            exact ⟨b, o, rfl, e2, Nat.ne_of_lt e5, e3⟩
          have hV : ∀ b, b = wb.heap.size → b < wc.heap.size := fun b h => by rw [h]; exact hNC.lt
          have HLT : Hid (w.heap.size + 1 + 1 < wb.heap.size ∧ w.heap.size ≤ wc.heap.size) := Lib.hid ⟨HKB.out.2.lt, hKC.bel.size⟩
          go_wp2_with fail
          refine (wpIn_wide (n := 9)).1 ?_
          refine wpIn_rangeFunc_ownG rfl (by decide) (gf := 22) (lb := _) rfl trivial (enters_of Tryz.func22 (by kernel_rfl) rfl)
            (tries_seq (9 - 1) (V := fun b => b = wb.heap.size) hbt hgC hsx hV) KC.trans (kc_putObj) (Below.refl _ _) (fun _ => rfl)
            (fun pre W => Blk W wb.heap.size 4 #[.bool (pre.any fun x => x.2 == s)] ∧ Blk W (w.heap.size + 1 + 1) 9 #[str s] ∧ Below w.heap.size w W)
            (fun c pre W => False) ?hI ?hIx ?h0 ?a1 ?assign ?body ?done ?stop
          case hI => exact fun s A B row hs hg hr => ⟨blk_kept hs.1 hg hr, blk_kept hs.2.1 hg hr, ownFrom_below (β := List TryX) (Nat.le_refl _) HLT.out.2 s A B row hs.2.2 hg hr⟩
          case hIx => exact fun c s A B row hs hg hr => hs
          case h0 => exact ⟨hNC, hSC, hKC.bel⟩
          case assign =>
            intro l x W K hK
            simp only [tryE, List.zip_toArray, List.zip_cons_cons, List.zip_nil_left, List.zip_nil_right, List.foldl_toArray, List.foldl_cons, List.foldl_nil, List.size_toArray, List.length_cons, List.length_nil, List.setIfInBounds_toArray, List.set_cons_succ, List.set_cons_zero]
            gi_wp2
            exact hK
          case body =>
            rintro l pre ⟨dd, t⟩ W ⟨k0, k1, hb⟩ hlt
            obtain ⟨fb, hfb⟩ : ∃ fb, (pre.any fun x => x.2 == s) = fb := ⟨_, rfl⟩
            rw [hfb] at k0
            have c0 : W.cell? ⟨wb.heap.size, 0, none⟩ = some (.bool fb) := k0.at_ rfl
            have f0 := k0.fr 0
            have c1 : W.cell? ⟨w.heap.size + 1 + 1, 0, none⟩ = some (str s) := k1.at_ rfl
            have HK := Lib.hid (And.intro k0 (And.intro k1 hb))
            have HNN : Hid (((pre ++ [((dd, t) : TryX)]).any fun x => x.2 == s) = (fb || (t == s))) := Lib.hid (by rw [List.any_append, hfb]; simp)
            clear k0 k1 hb hlt hfb
            cases fb with
            | true =>
              gi_wp2_with fail
              refine ⟨(KeepsOthers.setCell _ _ _).from _, kc_set _ _ _ rfl, ?_, HK.out.2.1.far (by have := HLT.out; show _ ≠ wb.heap.size; omega) _, below_set HK.out.2.2 _ _ _ (by have := HLT.out; omega)⟩
              rw [HNN.out]
              exact HK.out.1.put 0 (.bool true)
            | false =>
              by_cases hx2 : t = s
              · subst hx2
                gi_wp2_with fail
                refine ⟨(KeepsOthers.setCell _ _ _).from _, kc_set _ _ _ rfl, ?_, HK.out.2.1.far (by have := HLT.out; show _ ≠ wb.heap.size; omega) _, below_set HK.out.2.2 _ _ _ (by have := HLT.out; omega)⟩
                rw [HNN.out, beq_self_eq_true]
                exact HK.out.1.put 0 (.bool true)
              · have hx3 : (t == s) = false := beq_eq_false_iff_ne.2 hx2
                clear hx2
                gi_wp2_with fail
                refine ⟨(KeepsOthers.setCell _ _ _).from _, kc_set _ _ _ rfl, ?_, HK.out.2.1.far (by have := HLT.out; show _ ≠ wb.heap.size; omega) _, below_set HK.out.2.2 _ _ _ (by have := HLT.out; omega)⟩
                rw [HNN.out, hx3]
                exact HK.out.1.put 0 (.bool false)
          case done =>
            rintro D xs W hD hS ⟨k0, k1, hb⟩ hK
            have hfl : (xs.any fun x => x.2 == s) = !lb := by
              rw [hS, Bool.eq_iff_iff, List.any_eq_true]
              have h1 := HBF.out.1
              constructor
              · rintro ⟨x, hx, he⟩
                have := h1.1 ⟨x, hx, eq_of_beq he⟩
                rw [this]; rfl
              · intro h
                obtain ⟨x, hx, he⟩ := h1.2 (by simpa using h)
                exact ⟨x, hx, beq_iff_eq.2 he⟩
            rw [hfl] at k0
            have c0 : W.cell? ⟨wb.heap.size, 0, none⟩ = some (.bool (!lb)) := k0.at_ rfl
            have hBB := belowK_b (w := w) (Nat.le_refl _) W D _ (.deferred none) (by have := HLT.out; omega) hK rfl rfl
            have HKD := Lib.hid hK
            have HBB := Lib.hid (And.intro hb hBB)
            have hE := HBF.out.2
            clear hK hb hBB hD hS hfl k0 k1
            cases lb with
            | true =>
              obtain rfl : E1 = 6 := hE
              go_wp2_with fail
              refine ⟨by simp, .inl ⟨_, _, rfl, run_takeDeferred HKD.out, ?_⟩⟩
              exact ⟨_, results_tmp rfl _ _ _, rfl, HBB.out.1.trans HBB.out.2⟩
            | false =>
              obtain rfl : E1 = 0 := hE
              go_wp2_with fail
              refine ⟨by simp, .inl ⟨_, _, rfl, run_takeDeferred HKD.out, ?_⟩⟩
              exact ⟨_, results_tmp rfl _ _ _, rfl, HBB.out.1.trans HBB.out.2⟩
          case stop =>
            rintro D c pre W hD hS h hK
            exact h.elim
    · have hne : (E != 0) = true := bne_iff_ne.2 hz
      obtain rfl : E = 1 := by rw [← HE.out]; exact encE_one (by rw [HE.out]; exact hz)
      obtain ⟨rfl, rfl⟩ : E1 = 1 ∧ N1 = 0 := by
        obtain ⟨h1, h2, _⟩ := HE1.out
        rw [← h1, ← h2]
        unfold wE wN
        rw [HE.out]
        exact ⟨rfl, rfl⟩
      clear hz hsl7 hb7 hnew7
      go_wp2_with fail
      exact ⟨_, results_tmp rfl _ _ _, rfl, HK7.out.1.bel⟩
end Go.Proofs.YtppccdbfnhgdbaaGreat
