/-
  The statement HealPlays, walked.
-/
import Derived.Test.YtbhkbcpljakmjaaGreatJ36
import Derived.Deep.DeepCutAuto
namespace Go.Proofs.YtbhkbcpljakmjaaGreat
set_option linter.unusedVariables false
set_option linter.unusedSimpArgs false
open Go.RowKit
set_option maxRecDepth 20000 in
set_option maxHeartbeats 8000000 in
theorem healPlays_any (A : Option Addr) (m c : Nat) (gs : List (Int × Int)) (secs : Int) (p : PtrD) (s : List UInt8) (hsl : s.length ≤ 9223372036854775807) {av lv hv : Value} {al ll : List Bool} {hl : List HitD} (scrub : Bool) {w : World} (hg : GeoAt w A m gs) (ha : SlAt w av al.length (boolC al)) (hlo : SlAt w lv ll.length (boolC ll)) (hh : HitsAt w hv hl) :
 Calls Tryz.prog 5 #[.agg #[.slice A m c, .int .i64 secs], .agg #[.int .i64 p.ag, .int .i64 p.aa, .int .i64 p.bg, .int .i64 p.ba, .bool p.two, .int .i64 p.size, .int .i64 p.level, .int .i64 p.birth, .int .u64 p.s0, .int .u64 p.s1, .int .u64 p.s2, .int .u64 p.s3], str s, av, lv, hv, .bool scrub] w fun e w' => e = .returned (.bool true) ∧ Below w.heap.size w w' := by
 obtain ⟨Aa, ca, rfl⟩ := ha.form
 obtain ⟨Al, cl, rfl⟩ := hlo.form
 obtain ⟨Ah, ch, rfl⟩ := hh.form
 obtain ⟨w2, hw2⟩ : ∃ z, (w.alloc (.cells #[.slice A m c, .int .i64 secs] 24)).alloc (.cells #[.int .i64 p.ag, .int .i64 p.aa, .int .i64 p.bg, .int .i64 p.ba, .bool p.two, .int .i64 p.size, .int .i64 p.level, .int .i64 p.birth, .int .u64 p.s0, .int .u64 p.s1, .int .u64 p.s2, .int .u64 p.s3] 31) = z := ⟨_, rfl⟩
 have B1 : Blk w2 w.heap.size 24 #[.slice A m c, .int .i64 secs] := by rw [← hw2]; exact (Blk.new _ _ _).alloc _
 have B2 : Blk w2 (w.heap.size + 1) 31 #[.int .i64 p.ag, .int .i64 p.aa, .int .i64 p.bg, .int .i64 p.ba, .bool p.two, .int .i64 p.size, .int .i64 p.level, .int .i64 p.birth, .int .u64 p.s0, .int .u64 p.s1, .int .u64 p.s2, .int .u64 p.s3] := by rw [← hw2]; exact Blk.new2 _ _ _ _
 have D2 : Below w.heap.size w w2 := by rw [← hw2]; exact keep_alloc (keep_alloc (Below.refl _ _) _) _
 have HB2 := Lib.hid (And.intro B1 B2)
 have HD2 := Lib.hid D2
 have HW2 := Lib.hid hw2
 have HARG := Lib.hid (And.intro (ha.below D2) (And.intro (hlo.below D2) (hh.below D2)))
 have HG := Lib.hid (hg.below D2 (Nat.le_refl _))
 clear ha hlo hh hg B1 B2 D2 hw2
 go_enter Tryz.func5, Tryz.ntmps5
 go_wp2_with fail
 rw [HW2.out]
 refine (awake10_any w2).mono ?_
 rintro e w3 ⟨rfl, hb3⟩
 have HB3 := Lib.hid hb3
 by_cases h30 : 30 < hl.length
 · have hd1 : decide ((30 : Int) < hl.length) = true := decide_eq_true (by omega)
   clear h30 hb3
   go_wp2_with fail
   refine (awake10_any w3).mono ?_
   rintro e w4 ⟨rfl, hb4⟩
   have HB4 := Lib.hid (keep_below (keep_below hb4 HB3.out) HD2.out)
   clear hb4
   go_wp2_with fail
   go_ret
   exact ⟨rfl, HB4.out⟩
 have hd1 : decide ((30 : Int) < hl.length) = false := decide_eq_false (by omega)
 have hl30 : hl.length ≤ 30 := by omega
 have hg3 := HB2.out.1.below hb3 HB2.out.1.lt
 have hp3 := HB2.out.2.below hb3 HB2.out.2.lt
 have g0 := hg3.at_ (i := 0) (v := .slice A m c) rfl
 have g1 := hg3.at_ (i := 1) (v := .int .i64 secs) rfl
 have p0 := (hp3).at_ (i := 0) (v := .int .i64 (p).ag) rfl
 have p1 := (hp3).at_ (i := 1) (v := .int .i64 (p).aa) rfl
 have p2 := (hp3).at_ (i := 2) (v := .int .i64 (p).bg) rfl
 have p3 := (hp3).at_ (i := 3) (v := .int .i64 (p).ba) rfl
 have p4 := (hp3).at_ (i := 4) (v := .bool (p).two) rfl
 have p5 := (hp3).at_ (i := 5) (v := .int .i64 (p).size) rfl
 have p6 := (hp3).at_ (i := 6) (v := .int .i64 (p).level) rfl
 have p7 := (hp3).at_ (i := 7) (v := .int .i64 (p).birth) rfl
 have p8 := (hp3).at_ (i := 8) (v := .int .u64 (p).s0) rfl
 have p9 := (hp3).at_ (i := 9) (v := .int .u64 (p).s1) rfl
 have p10 := (hp3).at_ (i := 10) (v := .int .u64 (p).s2) rfl
 have p11 := (hp3).at_ (i := 11) (v := .int .u64 (p).s3) rfl
 have HLA := Lib.hid (laid10_any (c := c) (secs := secs) (HG.out.below hb3 (Nat.le_refl _)) p s hsl (HARG.out.1.below hb3) (HARG.out.2.1.below hb3))
 have HAR3 := Lib.hid (HARG.out.2.2.below hb3)
 have HG3 := Lib.hid (And.intro (HG.out.below hb3 (Nat.le_refl _)) hg3)
 have HD3 := Lib.hid (keep_below hb3 HD2.out)
 clear h30 hb3 hg3 hp3
 go_wp2_with fail
 refine HLA.out.mono ?_
 intro e w4 hpost
 clear g0 g1 p0 p1 p2 p3 p4 p5 p6 p7 p8 p9 p10 p11 hd1
 unfold LdPost at hpost
 split at hpost
 case isFalse =>
  obtain ⟨xv, pq, rfl, hxv, hb4⟩ := hpost
  have HB4 := Lib.hid (keep_below hb4 HD3.out)
  clear hb4
  rcases hxv with rfl | ⟨y, S, U, aw, ds, rfl, hV, hok, hn, _⟩
  · as_aux_lemma =>
   obtain ⟨w5, hw5⟩ : ∃ z, (w4.alloc (.cells (vZ) 37)).alloc (.cells #[.int .i64 pq.ag, .int .i64 pq.aa, .int .i64 pq.bg, .int .i64 pq.ba, .bool pq.two, .int .i64 pq.size, .int .i64 pq.level, .int .i64 pq.birth, .int .u64 pq.s0, .int .u64 pq.s1, .int .u64 pq.s2, .int .u64 pq.s3] 31) = z := ⟨_, rfl⟩
   have hX5 : Blk w5 w4.heap.size 37 (vZ) := by rw [← hw5]; exact (Blk.new _ _ _).alloc _
   have hb5 : Below w4.heap.size w4 w5 := by rw [← hw5]; exact keep_alloc (keep_alloc (Below.refl _ _) _) _
   have HD5 := Lib.hid hb5
   have HX5 := Lib.hid hX5
   have HW5 := Lib.hid hw5
   have x0 := hX5.at_ (i := 0) (v := .slice none 0 0) rfl
   have x1 := hX5.at_ (i := 1) (v := .int .i64 0) rfl
   have x2 := hX5.at_ (i := 2) (v := .slice none 0 0) rfl
   have x3 := hX5.at_ (i := 3) (v := .slice none 0 0) rfl
   rw [← hw5] at x0 x1 x2 x3
   have HLZ := Lib.hid (lookZ_any w5)
   have hbp := build_ptrN
   clear hX5 hb5 hw5
   go_wp2_with fail
   rw [HW5.out]
   refine HLZ.out.mono ?_
   rintro e w6 ⟨rfl, hb6⟩
   obtain ⟨w7, hw7⟩ : ∃ z, w6.alloc (.cells #[str [], .int .i64 0, .int .i64 0, .int .i64 0] 45) = z := ⟨_, rfl⟩
   have hb67 : Below w5.heap.size w5 w7 := by rw [← hw7]; exact keep_alloc hb6 _
   have HD7 := Lib.hid (keep_below hb67 HD5.out)
   have hX7 := HX5.out.below hb67 HX5.out.lt
   clear x0 x1 x2 x3
   have x0 := hX7.at_ (i := 0) (v := .slice none 0 0) rfl
   have x1 := hX7.at_ (i := 1) (v := .int .i64 0) rfl
   have x2 := hX7.at_ (i := 2) (v := .slice none 0 0) rfl
   have x3 := hX7.at_ (i := 3) (v := .slice none 0 0) rfl
   rw [← hw7] at x0 x1 x2 x3
   have HWH := Lib.hid (wholeZ_any w7)
   have HW7 := Lib.hid hw7
   have HBF := Lib.hid (keep_below HD7.out HB4.out)
   clear hb6 hb67 hX7 hw7
   go_wp2_with fail
   rw [HW7.out]
   refine HWH.out.mono ?_
   rintro e w8 ⟨rfl, hb8⟩
   have HB8 := Lib.hid (keep_below hb8 HBF.out)
   clear hb8 x0 x1 x2 x3
   go_wp2_with fail
   go_ret
   exact ⟨rfl, HB8.out⟩
  · have HVN := Lib.hid (And.intro hV (And.intro hn hok))
    clear hV hn hok
    as_aux_lemma =>
     obtain ⟨w5, hw5⟩ : ∃ z, (w4.alloc (.cells (y.cells) 37)).alloc (.cells #[.int .i64 pq.ag, .int .i64 pq.aa, .int .i64 pq.bg, .int .i64 pq.ba, .bool pq.two, .int .i64 pq.size, .int .i64 pq.level, .int .i64 pq.birth, .int .u64 pq.s0, .int .u64 pq.s1, .int .u64 pq.s2, .int .u64 pq.s3] 31) = z := ⟨_, rfl⟩
     have hX5 : Blk w5 w4.heap.size 37 (y.cells) := by rw [← hw5]; exact (Blk.new _ _ _).alloc _
     have hb5 : Below w4.heap.size w4 w5 := by rw [← hw5]; exact keep_alloc (keep_alloc (Below.refl _ _) _) _
     have HD5 := Lib.hid hb5
     have HX5 := Lib.hid hX5
     have HW5 := Lib.hid hw5
     have x0 := hX5.at_ (i := 0) (v := .slice (some ⟨y.gb, 0, none⟩) y.m y.cc) rfl
     have x1 := hX5.at_ (i := 1) (v := .int .i64 y.secs) rfl
     have x2 := hX5.at_ (i := 2) (v := .slice (some ⟨y.lb, 0, none⟩) y.bd.length y.lc) rfl
     have x3 := hX5.at_ (i := 3) (v := .slice (some ⟨y.ab, 0, none⟩) y.bd.length y.bd.length) rfl
     rw [← hw5] at x0 x1 x2 x3
     have HLZ := Lib.hid (lookY_any (HVN.out.1.below HD5.out) HVN.out.2.1 HVN.out.2.2)
     have hbp := build_ptrN
     clear hX5 hb5 hw5
     go_wp2_with fail
     rw [HW5.out]
     refine HLZ.out.mono ?_
     rintro e w6 ⟨rfl, hb6⟩
     obtain ⟨w7, hw7⟩ : ∃ z, w6.alloc (.cells #[str [], .int .i64 0, .int .i64 0, .int .i64 0] 45) = z := ⟨_, rfl⟩
     have hb67 : Below w5.heap.size w5 w7 := by rw [← hw7]; exact keep_alloc hb6 _
     have HD7 := Lib.hid (keep_below hb67 HD5.out)
     have hX7 := HX5.out.below hb67 HX5.out.lt
     clear x0 x1 x2 x3
     have x0 := hX7.at_ (i := 0) (v := .slice (some ⟨y.gb, 0, none⟩) y.m y.cc) rfl
     have x1 := hX7.at_ (i := 1) (v := .int .i64 y.secs) rfl
     have x2 := hX7.at_ (i := 2) (v := .slice (some ⟨y.lb, 0, none⟩) y.bd.length y.lc) rfl
     have x3 := hX7.at_ (i := 3) (v := .slice (some ⟨y.ab, 0, none⟩) y.bd.length y.bd.length) rfl
     rw [← hw7] at x0 x1 x2 x3
     have HWH := Lib.hid (wholeY_any (HVN.out.1.below HD7.out) HVN.out.2.1 HVN.out.2.2)
     have HW7 := Lib.hid hw7
     have HBF := Lib.hid (keep_below HD7.out HB4.out)
     clear hb6 hb67 hX7 hw7
     go_wp2_with fail
     rw [HW7.out]
     refine HWH.out.mono ?_
     rintro e w8 ⟨rfl, hb8⟩
     have HB8 := Lib.hid (keep_below hb8 HBF.out)
     clear hb8 x0 x1 x2 x3
     go_wp2_with fail
     go_ret
     exact ⟨rfl, HB8.out⟩
 case isTrue hyes =>
  obtain ⟨y, S, U, hv, rfl, hys, hysec, hV, hn32, hn0, hs200, hs24, hub, hhv, hyl, hb4⟩ := hpost
  subst hysec
  subst hys
  obtain ⟨Av, cv, rfl⟩ := hhv.form
  obtain ⟨aw, haw⟩ : ∃ aw, awT al y.bd.length y.bd.length = aw := ⟨_, rfl⟩
  obtain ⟨ds1, hds1⟩ : ∃ ds1, loT ll (wrAll y.gs y.secs (awT al y.bd.length 0) s (plsL (withSum p s)) (List.replicate y.bd.length (DevD.blank y.secs 0))) y.bd.length = ds1 := ⟨_, rfl⟩
  have hok : DsOk 128 y.secs ds1 := by
   rw [← hds1]
   exact loT_ok ((wrAll_ok _ _ (blanks_ok (by omega) (by omega))).mono (by have := plsL_len (withSum p s); omega)) _
  rw [haw, hds1] at hV
  obtain ⟨qd, hqd⟩ : ∃ qd, withSum p s = qd := ⟨_, rfl⟩
  have hqs : qd.sum = fsum s ∧ qd.size = (secN s : Int) := by rw [← hqd]; exact ⟨rfl, rfl⟩
  rw [hqd] at hyes
  rw [hqd]
  have hhere : ∀ d, d < y.bd.length → hereD aw ds1 d = bAt (hrT al ll y.bd.length) d := fun d hd => by rw [← haw, ← hds1]; exact here_laid hd
  have HHR := Lib.hid hhere
  have HHV4 := Lib.hid hhv
  have HV := Lib.hid hV
  have HY := Lib.hid (And.intro hyes (And.intro hok hqs))
  have HU := Lib.hid hub
  have HB4 := Lib.hid hb4
  clear hhere haw hds1 hok hqd hqs hV hyes hub hb4 hhv hyl hsl
  obtain ⟨w5, hw5⟩ : ∃ z, (w4.alloc (.cells y.cells 37)).alloc (.cells #[.int .i64 qd.ag, .int .i64 qd.aa, .int .i64 qd.bg, .int .i64 qd.ba, .bool qd.two, .int .i64 qd.size, .int .i64 qd.level, .int .i64 qd.birth, .int .u64 qd.s0, .int .u64 qd.s1, .int .u64 qd.s2, .int .u64 qd.s3] 31) = z := ⟨_, rfl⟩
  have hX5 : Blk w5 w4.heap.size 37 y.cells := by rw [← hw5]; exact (Blk.new _ _ _).alloc _
  have hP5 : Blk w5 (w4.heap.size + 1) 31 #[.int .i64 qd.ag, .int .i64 qd.aa, .int .i64 qd.bg, .int .i64 qd.ba, .bool qd.two, .int .i64 qd.size, .int .i64 qd.level, .int .i64 qd.birth, .int .u64 qd.s0, .int .u64 qd.s1, .int .u64 qd.s2, .int .u64 qd.s3] := by rw [← hw5]; exact Blk.new2 _ _ _ _
  have hb5 : Below w4.heap.size w4 w5 := by rw [← hw5]; exact keep_alloc (keep_alloc (Below.refl _ _) _) _
  obtain ⟨U1, hU1⟩ : ∃ U1, U1 = more U w4 w5 := ⟨_, rfl⟩
  have hV5 : VdIn w5 S U1 y aw ds1 := by rw [hU1]; exact HV.out.more hb5
  have hu1 : U1 w4.heap.size ∧ U1 (w4.heap.size + 1) ∧ ∀ b, b < w3.heap.size → U1 b := by rw [hU1]; exact ⟨.inr ⟨Nat.le_refl _, hX5.lt⟩, .inr ⟨Nat.le_succ _, hP5.lt⟩, fun b hb => .inl (HU.out b hb)⟩
  have hh5 := (HAR3.out.below HB4.out).below hb5
  have HV5 := Lib.hid hV5
  have HU1 := Lib.hid hu1
  have HH5 := Lib.hid hh5
  have HXP := Lib.hid (And.intro hX5 hP5)
  have HB5 := Lib.hid (keep_below hb5 (keep_below HB4.out HD3.out))
  have HB45 := Lib.hid (hb5.mono HB4.out.size)
  have HS5 : Hid (w3.heap.size ≤ w5.heap.size) := Lib.hid (Nat.le_trans HB4.out.size hb5.size)
  have HHV := Lib.hid ((HHV4.out.same (fun b hb => hb5.block b (HV.out.us b hb))).mono (V := U1) (fun b hb => by rw [hU1]; exact .inl hb))
  have HW5 := Lib.hid hw5
  clear hU1 hV5 hu1 hh5 hX5 hP5 hb5 hw5
  go_wp2_with fail
  rw [HW5.out]
  go_loopw [21, 22] (fun t _ wr => ∃ k : Nat, k ≤ hl.length ∧ t = .int .i64 k ∧ VdIn wr S U1 y aw (hitAll ds1 (hl.take k)) ∧ Stays U1 w5 wr) (fun t _ _ => hl.length - (RowKit.intOf t).toNat)
  case atStart => exact ⟨0, Nat.zero_le _, rfl, HV5.out, stays_refl _⟩
  case round =>
   obtain ⟨k, hk, rfl, hVr, hst⟩ := hrel
   have hxr : Blk wr w4.heap.size 37 y.cells := (hst.heap HU1.out.1 HXP.out.1.lt).trans HXP.out.1
   have HVR := Lib.hid hVr
   have HST := Lib.hid hst
   have HXR := Lib.hid hxr
   by_cases hlt : k < hl.length
   · obtain ⟨x, hx⟩ : ∃ x, hl[k]? = some x := ⟨_, List.getElem?_eq_getElem hlt⟩
     have hts := take_snoc hx
     obtain ⟨dk, hdk⟩ : ∃ dk, hitAll ds1 (hl.take k) = dk := ⟨_, rfl⟩
     have hnx : hitAll ds1 (hl.take (k + 1)) = hitOne dk x := by rw [hts, hitAll_snoc, hdk]
     have hokk : DsOk 128 y.secs dk := by rw [← hdk]; exact hitAll_ok _ _ HY.out.2.1
     rw [hdk] at HVR
     obtain ⟨A', c', e0, e1, e2⟩ := HH5.out
     obtain ⟨bh, oh, e3, e4, e5⟩ := e2 (by omega)
     cases e0
     subst e3
     obtain ⟨t0, t1, t2, t3, hxok⟩ := e5 k x hx
     have hbh : bh < w3.heap.size := by
      obtain ⟨A'', c'', e6, e7, e8⟩ := HAR3.out
      obtain ⟨bh', oh', e9, e10, _⟩ := e8 (by omega)
      cases e6
      cases e9
      exact e10
     have hUh := HU1.out.2.2 bh hbh
     have heq : wr.heap[bh]? = w5.heap[bh]? := hst.heap hUh (HV5.out.us bh hUh)
     have s0 : wr.cell? ⟨bh, oh + k * 4, none⟩ = some (.int .i64 x.dev) := (cell_same' heq).trans t0
     have s1 : wr.cell? ⟨bh, oh + k * 4 + 1, none⟩ = some (.int .i64 x.at_) := (cell_same' heq).trans t1
     have s2 : wr.cell? ⟨bh, oh + k * 4 + 2, none⟩ = some (.int .i64 x.place) := (cell_same' heq).trans t2
     have s3 : wr.cell? ⟨bh, oh + k * 4 + 3, none⟩ = some (.int .u8 x.by_.toNat) := (cell_same' heq).trans t3
     have x2 := hxr.at_ (i := 2) (v := .slice (some ⟨y.lb, 0, none⟩) y.bd.length y.lc) rfl
     have hdc : decide (k < hl.length) = true := decide_eq_true hlt
     have HLT := Lib.hid hlt
     have hdl : dk.length = y.bd.length := HVR.out.n2
     clear t0 t1 t2 t3 e1 e2 e4 e5 hts hdk hx hst hVr hxr
     by_cases hin : 0 ≤ x.dev ∧ x.dev < y.bd.length
     · obtain ⟨dn, hdn⟩ := Int.eq_ofNat_of_zero_le hin.1
       have hdnl : dn < y.bd.length := by omega
       obtain ⟨b, hb⟩ : ∃ b, y.bd[dn]? = some b := ⟨_, List.getElem?_eq_getElem hdnl⟩
       have hone : hitOne dk x = spoilAt dk dn x.at_ x.place x.by_ := by unfold hitOne; rw [if_pos ⟨hin.1, by omega⟩, hdn, Int.toNat_natCast]
       have hsp := vspoil_any (HVR.out.same (w' := wr.drew) (Nat.le_refl _) (fun _ _ => rfl) (fun _ _ _ => rfl)) hokk (by decide) hb x.at_ x.place hxok.2.2 x.by_
       rw [← hone, ← hnx] at hsp
       have hrow := HVR.out.row dn b hb
       rw [hdn] at s0
       have hd2 : decide (dn < y.bd.length) = true := decide_eq_true hdnl
       have HSP := Lib.hid hsp
       obtain ⟨S0, hS0⟩ : ∃ S0 : World → Prop, S0 = fun W => ∀ g, (g = w4.heap.size ∨ g = y.lb ∨ g = bh) → W.heap[g]? = wr.heap[g]? := ⟨_, rfl⟩
       have f0 : ∀ W, S0 W → W.cell? ⟨w4.heap.size, 2, none⟩ = some (.slice (some ⟨y.lb, 0, none⟩) y.bd.length y.lc) := fun W h => by rw [hS0] at h; exact (cell_same' (h _ (.inl rfl))).trans x2
       have f1 : ∀ W, S0 W → W.cell? ⟨y.lb, dn, none⟩ = some (.pointer (some ⟨b, 0, none⟩)) := fun W h => by rw [hS0] at h; exact (cell_same' (h _ (.inr (.inl rfl)))).trans hrow
       have f2 : ∀ W, S0 W → W.cell? ⟨bh, oh + k * 4 + 1, none⟩ = some (.int .i64 x.at_) := fun W h => by rw [hS0] at h; exact (cell_same' (h _ (.inr (.inr rfl)))).trans s1
       have f3 : ∀ W, S0 W → W.cell? ⟨bh, oh + k * 4 + 2, none⟩ = some (.int .i64 x.place) := fun W h => by rw [hS0] at h; exact (cell_same' (h _ (.inr (.inr rfl)))).trans s2
       have f4 : ∀ W, S0 W → W.cell? ⟨bh, oh + k * 4 + 3, none⟩ = some (.int .u8 x.by_.toNat) := fun W h => by rw [hS0] at h; exact (cell_same' (h _ (.inr (.inr rfl)))).trans s3
       have hSw : S0 wr.drew := by rw [hS0]; exact fun _ _ => rfl
       have hSe : ∀ W, Stays U1 wr W → S0 W := fun W hW => by
        rw [hS0]
        intro g hg
        have hg' : U1 g := by
         rcases hg with rfl | rfl | rfl
         · exact HU1.out.1
         · exact HVR.out.ul
         · exact hUh
        exact hW.heap hg' (HVR.out.us g hg')
       have HSE := Lib.hid hSe
       clear hone hsp hS0 hSe hin hdn hnx hokk hxok hbh hUh heq hb s1 s2 s3 hrow
       go_wp2_with fail
       refine wp_region_effA S0 [20] (by as_aux_lemma => kernel_rfl) (by as_aux_lemma => kernel_rfl) (by as_aux_lemma => kernel_rfl) hSw ?_
       refine wpLexE_take 20 (by as_aux_lemma => kernel_rfl) (by as_aux_lemma => kernel_rfl) ?_
       simp only [List.take_succ_cons, List.take_zero, List.drop_succ_cons, List.drop_zero]
       repeat (first | go_big_quiet_skip | (go_big_quiet_want; go_big_quiet_op; first | go_big_quiet_on | (apply Exists.intro; refine ⟨fun W hW => ?_, ?_⟩; (focus ((first | exact rfl | exact ⟨rfl, rfl⟩ | (simp only [f0 W hW, f1 W hW, f2 W hW, f3 W hW, f4 W hW, Result.andThen_ok]; first | done | exact ⟨trivial, rfl⟩ | exact rfl | exact ⟨rfl, rfl⟩) | (skip)); done)); go_big_quiet_on)))
       refine wpQuiet_nil ?_
       show wpLexE _ _ _ _ _ _ _ _ _
       refine wpLexE_eff (by as_aux_lemma => kernel_rfl) rfl ?_
       clear f0 f1 f2 f3 f4
       go_wp2_with fail
       refine HSP.out.mono ?_
       rintro e w6 ⟨⟨r, rfl⟩, hV6, hst6⟩
       have hst6' : Stays U1 wr w6 := ⟨hst6.os, hst6.tape, hst6.output, hst6.size, hst6.block⟩
       have hS6 := HSE.out w6 hst6'
       have HF := Lib.hid (And.intro hV6 (HST.out.trans hst6'))
       clear hV6 hst6 hst6' hSw HSP
       go_wp2_with fail
       refine ⟨rfl, hS6, ?_⟩
       unfold wpLexE
       clear hS6
       go_wp2_with fail
       go_roundw
       case rel => exact ⟨k + 1, HLT.out, by go_num, HF.out.1, HF.out.2⟩
       case measure => have := HLT.out; simp [RowKit.intOf]; omega
     · have hone : hitOne dk x = dk := by unfold hitOne; rw [if_neg (fun h => hin ⟨h.1, by omega⟩)]
       have HF : Hid (VdIn wr S U1 y aw (hitAll ds1 (hl.take (k + 1))) ∧ Stays U1 w5 wr) := Lib.hid ⟨by rw [hnx, hone]; exact HVR.out, HST.out⟩
       clear hone hnx hokk hxok hbh hUh heq s1 s2 s3
       by_cases h0 : 0 ≤ x.dev
       · have hd2 : decide (x.dev < (y.bd.length : Int)) = false := decide_eq_false (fun h => hin ⟨h0, h⟩)
         have hd3 : decide (0 ≤ x.dev) = true := decide_eq_true h0
         clear hin h0
         go_wp2_with fail
         go_roundw
         case rel => exact ⟨k + 1, HLT.out, by go_num, HF.out.1, HF.out.2⟩
         case measure => have := HLT.out; simp [RowKit.intOf]; omega
       · have hd3 : decide (0 ≤ x.dev) = false := decide_eq_false h0
         clear hin h0
         go_wp2_with fail
         go_roundw
         case rel => exact ⟨k + 1, HLT.out, by go_num, HF.out.1, HF.out.2⟩
         case measure => have := HLT.out; simp [RowKit.intOf]; omega
   · obtain rfl : k = hl.length := by omega
     have hdc : decide ((hl.length : Int) < hl.length) = false := decide_eq_false (by omega)
     rename World => wb
     obtain ⟨D, hD⟩ : ∃ D, hitAll ds1 hl = D := ⟨_, rfl⟩
     rw [List.take_length, hD] at hVr
     have hokD : DsOk 128 y.secs D := by rw [← hD]; exact hitAll_ok _ _ HY.out.2.1
     have hhr : ∀ d, d < y.bd.length → hereD aw D d = bAt (hrT al ll y.bd.length) d := fun d hd => by rw [← hD, hitAll_hereD]; exact HHR.out d hd
     have hpr : Blk wb (w4.heap.size + 1) 31 #[.int .i64 qd.ag, .int .i64 qd.aa, .int .i64 qd.bg, .int .i64 qd.ba, .bool qd.two, .int .i64 qd.size, .int .i64 qd.level, .int .i64 qd.birth, .int .u64 qd.s0, .int .u64 qd.s1, .int .u64 qd.s2, .int .u64 qd.s3] := (hst.heap HU1.out.2.1 HXP.out.2.lt).trans HXP.out.2
     have hD3b : Below w3.heap.size w3 wb := HB4.out.trans (HB45.out.trans (hst.below HS5.out (fun i hi => HU1.out.2.2 i hi)))
     have hgb : GeoAt wb A m y.gs := HG3.out.1.below hD3b (Nat.le_refl _)
     have hgx : Blk wb w.heap.size 24 #[.slice A m c, .int .i64 y.secs] := HG3.out.2.below hD3b HG3.out.2.lt
     have hhv : SlU wb U1 (.slice Av y.bd.length cv) y.bd.length (boolC (hrT al ll y.bd.length)) := HHV.out.same (fun b hb => hst.heap hb (HV5.out.us b hb))
     have HVB := Lib.hid (And.intro hVr (And.intro hokD hhr))
     have HXB := Lib.hid (And.intro hxr (And.intro hpr (And.intro hgb (And.intro hgx hhv))))
     have HB3B := Lib.hid hD3b
     obtain ⟨L, hL⟩ : ∃ L, plsL qd = L := ⟨_, rfl⟩
     have hrq := HY.out.1.2.2.2.2
     have hmL : ∀ pl ∈ L, cMay y.gs y.secs pl.1 pl.2 qd.size = true := by rw [← hL]; exact pls_may hrq
     have hl2 : L.length ≤ 2 := by rw [← hL]; exact plsL_len qd
     have HPL := Lib.hid (places2_any qd wb)
     rw [hL] at HPL
     have HL := Lib.hid (And.intro hL (And.intro hmL hrq))
     have p0 := (hpr).at_ (i := 0) (v := .int .i64 (qd).ag) rfl
     have p1 := (hpr).at_ (i := 1) (v := .int .i64 (qd).aa) rfl
     have p2 := (hpr).at_ (i := 2) (v := .int .i64 (qd).bg) rfl
     have p3 := (hpr).at_ (i := 3) (v := .int .i64 (qd).ba) rfl
     have p4 := (hpr).at_ (i := 4) (v := .bool (qd).two) rfl
     have p5 := (hpr).at_ (i := 5) (v := .int .i64 (qd).size) rfl
     have p6 := (hpr).at_ (i := 6) (v := .int .i64 (qd).level) rfl
     have p7 := (hpr).at_ (i := 7) (v := .int .i64 (qd).birth) rfl
     have p8 := (hpr).at_ (i := 8) (v := .int .u64 (qd).s0) rfl
     have p9 := (hpr).at_ (i := 9) (v := .int .u64 (qd).s1) rfl
     have p10 := (hpr).at_ (i := 10) (v := .int .u64 (qd).s2) rfl
     have p11 := (hpr).at_ (i := 11) (v := .int .u64 (qd).s3) rfl
     clear hD hokD hhr hVr hxr hpr hD3b hgb hgx hhv hst hL hmL hrq HVR HXR hk
     go_wp2_with fail
     refine HPL.out.mono ?_
     rintro e wp ⟨⟨pv, rfl, hsl, hnew⟩, hbp⟩
     obtain ⟨Ap, cp, rfl⟩ := hsl.form
     have HP := Lib.hid (And.intro hsl (And.intro hnew hbp))
     clear p0 p1 p2 p3 p4 p5 p6 p7 p8 p9 p10 p11 hsl hnew hbp
     obtain ⟨R, hR⟩ : ∃ R, rawP y.gs y.secs qd.size aw D = R := ⟨_, rfl⟩
     have HR := Lib.hid hR
     obtain ⟨i0, hi, hz0, hz1, hz2⟩ := info_parts Tryz.infoStrs
     clear hR
     go_wp2_with fail
     go_loopw [23, 25, 26, 27, 126] (fun rv t _ _ _ wr => ∃ (k : Nat) (vs : List Value) (rx : Value), k ≤ L.length ∧ rx = rv ∧ t = .int .i64 k ∧ wr.ownsRow wp.heap.size 60 1 rx k vs ∧ RowsN wr wp.heap.size rx.ownBlock vs ((L.take k).map R) ∧ Below wp.heap.size wp wr) (fun _ t _ _ _ _ => L.length - (RowKit.intOf t).toNat)
     case atStart => exact ⟨0, [], _, Nat.zero_le _, rfl, rfl, World.ownsRow_nil _ _ _ _, RowsN.nil _ _ _, Below.refl _ _⟩
     case round =>
      obtain ⟨k, vs, rv, hk, rfl, rfl, hown, hrn, hb⟩ := hrel
      have HB := Lib.hid hb
      have hown := Lib.hid hown
      have HRN := Lib.hid hrn
      by_cases hlt : k < L.length
      · obtain ⟨pl, hpl⟩ : ∃ pl, L[k]? = some pl := ⟨_, List.getElem?_eq_getElem hlt⟩
        have hmp := HL.out.2.1 pl (List.mem_of_getElem? hpl)
        obtain ⟨hc0, hc1⟩ := grC_get hpl
        obtain ⟨bp, op, rfl, hbp, hcp⟩ := HP.out.1.cells (by omega)
        have hwr := keep_below hb HP.out.2.2
        have l0 := keepc (hcp _ _ hc0) hb
        have l1 : wr.cell? ⟨bp, op + k * 2 + 1, none⟩ = some (.int .i64 pl.2) := keepc (hcp _ _ hc1) hb
        have x0 := keepc (HXB.out.1.at_ (i := 0) (v := .slice (some ⟨y.gb, 0, none⟩) y.m y.cc) rfl) hwr
        have x1 := keepc (HXB.out.1.at_ (i := 1) (v := .int .i64 y.secs) rfl) hwr
        have x2 := keepc (HXB.out.1.at_ (i := 2) (v := .slice (some ⟨y.lb, 0, none⟩) y.bd.length y.lc) rfl) hwr
        have x3 := keepc (HXB.out.1.at_ (i := 3) (v := .slice (some ⟨y.ab, 0, none⟩) y.bd.length y.bd.length) rfl) hwr
        have p5 := keepc (HXB.out.2.1.at_ (i := 5) (v := .int .i64 qd.size) rfl) hwr
        have hts := take_snoc hpl
        have hRpl : rawL y.gs y.secs pl.1 pl.2 qd.size aw D = R pl := by rw [← HR.out]
        have HRAW := Lib.hid (fun (W : World) (hW : Below wr.heap.size wr W) => vraw_any (HVB.out.1.below (keep_below hW hwr)) (by omega) pl.1 pl.2 qd.size)
        rw [hRpl] at HRAW
        have HTS := Lib.hid hts
        have hRl : 0 < (R pl).length := by rw [← hRpl, raw_len hmp]; exact cols_pos10 hmp
        have hd1 : decide (k < L.length) = true := decide_eq_true hlt
        have HWR := Lib.hid hwr
        obtain ⟨C, hCd, hCw, hCB, hCK, hCD⟩ := cls_below wr
        have f0 : ∀ W, C W → W.cell? ⟨w4.heap.size, 0, none⟩ = some (.slice (some ⟨y.gb, 0, none⟩) y.m y.cc) := fun W h => keepc x0 (hCB W h)
        have f1 : ∀ W, C W → W.cell? ⟨w4.heap.size, 1, none⟩ = some (.int .i64 y.secs) := fun W h => keepc x1 (hCB W h)
        have f2 : ∀ W, C W → W.cell? ⟨w4.heap.size, 2, none⟩ = some (.slice (some ⟨y.lb, 0, none⟩) y.bd.length y.lc) := fun W h => keepc x2 (hCB W h)
        have f3 : ∀ W, C W → W.cell? ⟨w4.heap.size, 3, none⟩ = some (.slice (some ⟨y.ab, 0, none⟩) y.bd.length y.bd.length) := fun W h => keepc x3 (hCB W h)
        have f4 : ∀ W, C W → W.cell? ⟨bp, op + k * 2, none⟩ = some (.int .i64 pl.1) := fun W h => keepc l0 (hCB W h)
        have f5 : ∀ W, C W → W.cell? ⟨bp, op + k * 2 + 1, none⟩ = some (.int .i64 pl.2) := fun W h => keepc l1 (hCB W h)
        have f6 : ∀ W, C W → W.cell? ⟨w4.heap.size + 1, 5, none⟩ = some (.int .i64 qd.size) := fun W h => keepc p5 (hCB W h)
        have HC := Lib.hid (And.intro hCB (And.intro hCK hCd))
        clear hpl hmp hc0 hc1 hbp hcp hwr l0 l1 x0 x1 x2 x3 p5 hts hRpl hb hrn hCw hCB hCK hCD
        go_wp2_with fail
        refine wp_region_effA C [7] (by as_aux_lemma => kernel_rfl) (by as_aux_lemma => kernel_rfl) (by as_aux_lemma => kernel_rfl) hCd ?_
        refine wpLexE_take 7 (by as_aux_lemma => kernel_rfl) (by as_aux_lemma => kernel_rfl) ?_
        simp only [List.take_succ_cons, List.take_zero, List.drop_succ_cons, List.drop_zero]
        repeat (first | go_big_quiet_skip | (go_big_quiet_want; go_big_quiet_op; first | go_big_quiet_on | (apply Exists.intro; refine ⟨fun W hW => ?_, ?_⟩; (focus ((first | exact rfl | exact ⟨rfl, rfl⟩ | (simp only [f0 W hW, f1 W hW, f2 W hW, f3 W hW, f4 W hW, f5 W hW, f6 W hW, Result.andThen_ok]; first | done | exact ⟨trivial, rfl⟩ | exact rfl | exact ⟨rfl, rfl⟩) | (skip)); done)); go_big_quiet_on)))
        refine wpQuiet_nil ?_
        show wpLexE _ _ _ _ _ _ _ _ _
        refine wpLexE_eff (by as_aux_lemma => kernel_rfl) rfl ?_
        clear f1 f2 f3 f4 f5 f6
        go_wp2_with fail
        refine (HRAW.out _ (HC.out.1 _ hCd)).mono ?_
        rintro e w6 ⟨v, rfl, hsv, hb6, hnv⟩
        have hC6 := HC.out.2.1 _ _ hCd hb6
        have hww := HC.out.1 _ hC6
        obtain ⟨Ax, cx, rfl, hcx, hhx⟩ := hsv
        obtain ⟨bx, ox, rfl, hbx, hxx⟩ := hhx hRl
        have hnx : wr.heap.size ≤ bx := hnv bx ox _ _ rfl
        have HX := Lib.hid (And.intro hcx (And.intro hbx (And.intro hxx hnx)))
        have HOZ := Lib.hid (ownsRow_same hown.out (fun b hb => hww.block b (hown.out.lt b hb).2))
        have HRZ := Lib.hid (HRN.out.below hww)
        have hne : rv.ownBlock ≠ some bx := fun e => by have := (hown.out.lt bx e).2; omega
        have HNE := Lib.hid hne
        have HWW := Lib.hid (keep_below hww HB.out)
        obtain ⟨nx, hnxe⟩ : ∃ nx, (R pl).length = nx := ⟨_, rfl⟩
        have HNX := Lib.hid hnxe
        rw [hnxe]
        clear hb6 hnv hww hcx hhx hbx hxx hnx hne hRl hnxe
        go_wp2_with fail
        refine ⟨rfl, hC6, ?_⟩
        refine wpLexE_take 5 (by as_aux_lemma => kernel_rfl) (by as_aux_lemma => kernel_rfl) ?_
        simp only [List.take_succ_cons, List.take_zero, List.drop_succ_cons, List.drop_zero]
        repeat (first | go_big_quiet_skip | (go_big_quiet_want; go_big_quiet_op; first | go_big_quiet_on | (apply Exists.intro; refine ⟨fun W hW => ?_, ?_⟩; (focus ((first | exact rfl | exact ⟨rfl, rfl⟩ | (simp only [f0 W hW, Result.andThen_ok]; first | done | exact ⟨trivial, rfl⟩ | exact rfl | exact ⟨rfl, rfl⟩) | (skip)); done)); go_big_quiet_on)))
        refine wpQuiet_nil ?_
        unfold wpLexE
        clear f0 hC6 hCd
        go_wp2_with (at_builtin; refine wpList_append_own_at _ rfl _ _ 57 rfl wp.heap.size 60 i0 _ 1 24 Tryz.underlying57 hi hz0 hz1 hz2 rfl (by decide) _ _ _ rfl (HOZ.out.alloc _) ⟨w6.heap.size, 0, none⟩ 1 1 [.slice (some ⟨bx, ox, none⟩) nx cx] rfl rfl ?c1 ?c2 (by unfold maxLen; omega) (by omega) ?c5 ?_)
        case c1 => exact one_new' _ _ _
        case c2 => intro u hu; simp at hu; subst hu; rfl
        case c5 => have := HWW.out.size; simp; omega
        intro v' w7 hown' hgrow _ hob
        have hb7 : Below wp.heap.size wp w7 := (HWW.out.alloc HWW.out.size _).grown hgrow (by have := HWW.out.size; simp; omega) (fun k hk => (HOZ.out.lt k hk).1)
        have hrn7 : RowsN w7 wp.heap.size v'.ownBlock (vs ++ [.slice (some ⟨bx, ox, none⟩) nx cx]) ((L.take (k + 1)).map R) := by
         rw [HTS.out, List.map_append, ← HNX.out]
         refine RowsN.grown (own := rv.ownBlock) ?_ hgrow (by rw [World.size_alloc]; exact hob)
         obtain ⟨g1, g2, g3, g4⟩ := HX.out
         have hal := keep_alloc (Below.refl w6.heap.size w6) (.cells #[.slice (some ⟨bx, ox, none⟩) nx cx] 60)
         exact (HRZ.out.below hal).snoc g1 (by have := HB.out.size; omega) (Nat.lt_of_lt_of_le g2 hal.size) HNE.out (fun j u hu => (World.cell?_of_block (hal.block bx g2)).trans (g3 j u hu))
        have HF := Lib.hid (And.intro hown' (And.intro hrn7 hb7))
        clear hown' hgrow hob hb7 hrn7
        go_wp2_with fail
        go_roundw
        case rel => exact ⟨k + 1, _, _, hlt, rfl, by go_num, HF.out.1, HF.out.2.1, HF.out.2.2⟩
        case measure => simp [RowKit.intOf]; omega
      · obtain rfl : k = L.length := by omega
        have hdc : decide (L.length < L.length) = false := decide_eq_false (by omega)
        rename World => wt
        rw [List.take_length] at hrn
        have hwt : Below wb.heap.size wb wt := keep_below hb HP.out.2.2
        have hoL : wt.ownsRow wp.heap.size 60 1 rv (L.map R).length vs := by rw [List.length_map]; exact hown.out
        have hRA : RowsAt wt rv (L.map R) := rowsAt_own hoL hrn
        have HOL := Lib.hid (And.intro hoL hrn)
        obtain ⟨Ar, cr, hrv⟩ : ∃ Ar cr, rv = .slice Ar L.length cr := by
         obtain ⟨A, c, h⟩ := hRA.form
         exact ⟨A, c, by rw [h, List.length_map]⟩
        subst hrv
        obtain ⟨hV, hokD, _⟩ := HVB.out
        obtain ⟨⟨dt, cpl, cdv, cfx⟩, er, hlv⟩ : ∃ c er, lookV y.gs y.secs qd (rawP y.gs y.secs qd.size aw D) = (c, er) := ⟨_, _, rfl⟩
        obtain rfl : cfx = 0 := (look_shape hlv).1
        have hlvR : lookV y.gs y.secs qd R = (⟨dt, cpl, cdv, 0⟩, er) := by rw [← HR.out]; exact hlv
        have hfR : ∀ pl ∈ plsL qd, fitsB y.gs y.secs pl.1 pl.2 qd.size (R pl) = true := fun pl hpl => by
         rw [HL.out.1] at hpl
         rw [← HR.out]
         exact raw_fits (HL.out.2.1 pl hpl) hokD
        have hrl := refLook_any A m c y.gs y.secs qd (rv := .slice Ar L.length cr) R (HXB.out.2.2.1.below hwt (Nat.le_refl _)) HL.out.2.2 hfR (by rw [HL.out.1]; exact hRA) hlvR
        have hlk := fun (W : World) (hW : Below wb.heap.size wb W) => look_any (hV.below hW) (by omega) hokD qd
        have hwh := fun (W : World) (hW : Below wb.heap.size wb W) => whole10_any (hV.below hW) (by omega) hokD qd
        have hrd := fun (U' : Nat → Prop) (W : World) (hW : VdIn W S U' y aw D) => read10_any hW (by omega) hokD (by decide) qd
        obtain ⟨⟨dt2, dpl, ddv, dfx⟩, hlv2, hdt⟩ := look_again hV.right hV.nd hV.n2 hokD hlv
        dsimp only at hdt
        subst hdt
        obtain ⟨D2, hD2⟩ : ∃ D2, readD false y.gs y.secs aw qd D = D2 := ⟨_, rfl⟩
        have hokD2 : DsOk 256 y.secs D2 := by rw [← hD2]; exact readD_ok hokD
        obtain ⟨n1, hn1⟩ : ∃ n1, readN false y.gs y.secs aw qd D = n1 := ⟨_, rfl⟩
        obtain ⟨n2, hn2⟩ : ∃ n2, readN true y.gs y.secs aw qd D2 = n2 := ⟨_, rfl⟩
        obtain ⟨wv, hwv⟩ : ∃ wv, wholeV y.gs y.secs aw qd D = wv := ⟨_, rfl⟩
        have hgood := plays_good hV.right hV.nd hV.n2 hokD hlv HL.out.1 hD2 hn1 hn2 hwv
        have herr := plays_bad hlv hwv
        rw [hD2] at hlv2 hrd
        have hsc := fun (S' : Nat → Nat → Prop) (U' : Nat → Prop) (W : World) (hW : VdIn W S' U' y aw D2) => scrub10_any hW (by omega) hokD2 (by decide) qd
        rw [hlv] at hlk
        simp only [hlv] at hrd
        simp only [hlv2] at hsc
        rw [hn1] at hrd
        rw [hn2] at hsc
        simp only [hwv] at hwh
        dsimp only [CameD.cells] at hlk hrd hsc
        have HRL := Lib.hid hrl
        have HLK := Lib.hid hlk
        have HWH := Lib.hid hwh
        have HRD := Lib.hid hrd
        have HSC := Lib.hid hsc
        have HGD := Lib.hid (And.intro hgood herr)
        have HWT := Lib.hid hwt
        have HPT := Lib.hid hb
        have hx := HXB.out.1.below hwt HXB.out.1.lt
        have hp := HXB.out.2.1.below hwt HXB.out.2.1.lt
        have hgx := HXB.out.2.2.2.1.below hwt HXB.out.2.2.2.1.lt
        have x0 := (hx).at_ (i := 0) (v := .slice (some ⟨y.gb, 0, none⟩) y.m y.cc) rfl
        have x1 := (hx).at_ (i := 1) (v := .int .i64 y.secs) rfl
        have x2 := (hx).at_ (i := 2) (v := .slice (some ⟨y.lb, 0, none⟩) y.bd.length y.lc) rfl
        have x3 := (hx).at_ (i := 3) (v := .slice (some ⟨y.ab, 0, none⟩) y.bd.length y.bd.length) rfl
        have p0 := (hp).at_ (i := 0) (v := .int .i64 (qd).ag) rfl
        have p1 := (hp).at_ (i := 1) (v := .int .i64 (qd).aa) rfl
        have p2 := (hp).at_ (i := 2) (v := .int .i64 (qd).bg) rfl
        have p3 := (hp).at_ (i := 3) (v := .int .i64 (qd).ba) rfl
        have p4 := (hp).at_ (i := 4) (v := .bool (qd).two) rfl
        have p5 := (hp).at_ (i := 5) (v := .int .i64 (qd).size) rfl
        have p6 := (hp).at_ (i := 6) (v := .int .i64 (qd).level) rfl
        have p7 := (hp).at_ (i := 7) (v := .int .i64 (qd).birth) rfl
        have p8 := (hp).at_ (i := 8) (v := .int .u64 (qd).s0) rfl
        have p9 := (hp).at_ (i := 9) (v := .int .u64 (qd).s1) rfl
        have p10 := (hp).at_ (i := 10) (v := .int .u64 (qd).s2) rfl
        have p11 := (hp).at_ (i := 11) (v := .int .u64 (qd).s3) rfl
        have g0 := hgx.at_ (i := 0) (v := .slice A m c) rfl
        have g1 := hgx.at_ (i := 1) (v := .int .i64 y.secs) rfl
        clear hk hb hrn hwt hoL hRA hV hokD hlv hlvR hfR hrl hlk hwh hrd hlv2 herr hgood hD2 hokD2 hsc hn1 hn2 hwv hx hp hgx hown HRN
        go_wp2_with fail
        refine HRL.out.mono ?_
        rintro e w6 ⟨rfl, hb6⟩
        have HC6 := Lib.hid hb6
        have hb6b := keep_below hb6 HWT.out
        have hx := HXB.out.1.below hb6b HXB.out.1.lt
        have hp := HXB.out.2.1.below hb6b HXB.out.2.1.lt
        have HB6 := Lib.hid hb6b
        clear x0 x1 x2 x3 p0 p1 p2 p3 p4 p5 p6 p7 p8 p9 p10 p11 g0 g1 hb6 hb6b
        have x0 := (hx).at_ (i := 0) (v := .slice (some ⟨y.gb, 0, none⟩) y.m y.cc) rfl
        have x1 := (hx).at_ (i := 1) (v := .int .i64 y.secs) rfl
        have x2 := (hx).at_ (i := 2) (v := .slice (some ⟨y.lb, 0, none⟩) y.bd.length y.lc) rfl
        have x3 := (hx).at_ (i := 3) (v := .slice (some ⟨y.ab, 0, none⟩) y.bd.length y.bd.length) rfl
        have p0 := (hp).at_ (i := 0) (v := .int .i64 (qd).ag) rfl
        have p1 := (hp).at_ (i := 1) (v := .int .i64 (qd).aa) rfl
        have p2 := (hp).at_ (i := 2) (v := .int .i64 (qd).bg) rfl
        have p3 := (hp).at_ (i := 3) (v := .int .i64 (qd).ba) rfl
        have p4 := (hp).at_ (i := 4) (v := .bool (qd).two) rfl
        have p5 := (hp).at_ (i := 5) (v := .int .i64 (qd).size) rfl
        have p6 := (hp).at_ (i := 6) (v := .int .i64 (qd).level) rfl
        have p7 := (hp).at_ (i := 7) (v := .int .i64 (qd).birth) rfl
        have p8 := (hp).at_ (i := 8) (v := .int .u64 (qd).s0) rfl
        have p9 := (hp).at_ (i := 9) (v := .int .u64 (qd).s1) rfl
        have p10 := (hp).at_ (i := 10) (v := .int .u64 (qd).s2) rfl
        have p11 := (hp).at_ (i := 11) (v := .int .u64 (qd).s3) rfl
        clear hx hp
        go_wp2_with fail
        refine (HWH.out _ HB6.out).mono ?_
        rintro e w6a ⟨rfl, hb6⟩
        have HC6A := Lib.hid (keep_below hb6 HC6.out)
        have hb6b := keep_below hb6 HB6.out
        have hx := HXB.out.1.below hb6b HXB.out.1.lt
        have hp := HXB.out.2.1.below hb6b HXB.out.2.1.lt
        have HB6A := Lib.hid hb6b
        clear x0 x1 x2 x3 p0 p1 p2 p3 p4 p5 p6 p7 p8 p9 p10 p11 hb6 hb6b
        have x0 := (hx).at_ (i := 0) (v := .slice (some ⟨y.gb, 0, none⟩) y.m y.cc) rfl
        have x1 := (hx).at_ (i := 1) (v := .int .i64 y.secs) rfl
        have x2 := (hx).at_ (i := 2) (v := .slice (some ⟨y.lb, 0, none⟩) y.bd.length y.lc) rfl
        have x3 := (hx).at_ (i := 3) (v := .slice (some ⟨y.ab, 0, none⟩) y.bd.length y.bd.length) rfl
        have p0 := (hp).at_ (i := 0) (v := .int .i64 (qd).ag) rfl
        have p1 := (hp).at_ (i := 1) (v := .int .i64 (qd).aa) rfl
        have p2 := (hp).at_ (i := 2) (v := .int .i64 (qd).bg) rfl
        have p3 := (hp).at_ (i := 3) (v := .int .i64 (qd).ba) rfl
        have p4 := (hp).at_ (i := 4) (v := .bool (qd).two) rfl
        have p5 := (hp).at_ (i := 5) (v := .int .i64 (qd).size) rfl
        have p6 := (hp).at_ (i := 6) (v := .int .i64 (qd).level) rfl
        have p7 := (hp).at_ (i := 7) (v := .int .i64 (qd).birth) rfl
        have p8 := (hp).at_ (i := 8) (v := .int .u64 (qd).s0) rfl
        have p9 := (hp).at_ (i := 9) (v := .int .u64 (qd).s1) rfl
        have p10 := (hp).at_ (i := 10) (v := .int .u64 (qd).s2) rfl
        have p11 := (hp).at_ (i := 11) (v := .int .u64 (qd).s3) rfl
        clear hx hp
        go_wp2_with fail
        refine (HLK.out _ HB6A.out).mono ?_
        rintro e w6b ⟨rfl, hb6⟩
        have HC6B := Lib.hid (keep_below hb6 HC6A.out)
        have HB6B := Lib.hid (keep_below hb6 HB6A.out)
        obtain ⟨w7, hw7⟩ : ∃ z, w6b.alloc (.cells #[str dt2, .int .i64 cpl, .int .i64 cdv, .int .i64 0] 45) = z := ⟨_, rfl⟩
        have hb7 : Below wb.heap.size wb w7 := by rw [← hw7]; exact keep_alloc HB6B.out _
        have hbt7 : Below wt.heap.size wt w7 := by rw [← hw7]; exact keep_alloc HC6B.out _
        have ha7 : Blk w7 w6b.heap.size 45 #[str dt2, .int .i64 cpl, .int .i64 cdv, .int .i64 0] := by rw [← hw7]; exact Blk.new _ _ _
        obtain ⟨U2, hU2⟩ : ∃ U2, U2 = more U1 wb w7 := ⟨_, rfl⟩
        have hV7 : VdIn w7 S U2 y aw D := by rw [hU2]; exact HVB.out.1.more hb7
        have hu2 : (∀ b, wb.heap.size ≤ b → b < w7.heap.size → U2 b) ∧ ∀ b, U1 b → U2 b := by rw [hU2]; exact ⟨fun b h1 h2 => .inr ⟨h1, h2⟩, fun b hb => .inl hb⟩
        have hx := HXB.out.1.below hb7 HXB.out.1.lt
        have hp := HXB.out.2.1.below hb7 HXB.out.2.1.lt
        have HR7 := Lib.hid (HRD.out U2 w7 hV7)
        clear x0 x1 x2 x3 p0 p1 p2 p3 p4 p5 p6 p7 p8 p9 p10 p11 hb6
        have x0 := (hx).at_ (i := 0) (v := .slice (some ⟨y.gb, 0, none⟩) y.m y.cc) rfl
        have x1 := (hx).at_ (i := 1) (v := .int .i64 y.secs) rfl
        have x2 := (hx).at_ (i := 2) (v := .slice (some ⟨y.lb, 0, none⟩) y.bd.length y.lc) rfl
        have x3 := (hx).at_ (i := 3) (v := .slice (some ⟨y.ab, 0, none⟩) y.bd.length y.bd.length) rfl
        have p0 := (hp).at_ (i := 0) (v := .int .i64 (qd).ag) rfl
        have p1 := (hp).at_ (i := 1) (v := .int .i64 (qd).aa) rfl
        have p2 := (hp).at_ (i := 2) (v := .int .i64 (qd).bg) rfl
        have p3 := (hp).at_ (i := 3) (v := .int .i64 (qd).ba) rfl
        have p4 := (hp).at_ (i := 4) (v := .bool (qd).two) rfl
        have p5 := (hp).at_ (i := 5) (v := .int .i64 (qd).size) rfl
        have p6 := (hp).at_ (i := 6) (v := .int .i64 (qd).level) rfl
        have p7 := (hp).at_ (i := 7) (v := .int .i64 (qd).birth) rfl
        have p8 := (hp).at_ (i := 8) (v := .int .u64 (qd).s0) rfl
        have p9 := (hp).at_ (i := 9) (v := .int .u64 (qd).s1) rfl
        have p10 := (hp).at_ (i := 10) (v := .int .u64 (qd).s2) rfl
        have p11 := (hp).at_ (i := 11) (v := .int .u64 (qd).s3) rfl
        have a0 := ha7.at_ (i := 0) (v := str dt2) rfl
        have a1 := ha7.at_ (i := 1) (v := .int .i64 cpl) rfl
        have a2 := ha7.at_ (i := 2) (v := .int .i64 cdv) rfl
        have a3 := ha7.at_ (i := 3) (v := .int .i64 0) rfl
        rw [← hw7] at x0 x1 x2 x3 p0 p1 p2 p3 p4 p5 p6 p7 p8 p9 p10 p11 a0 a1 a2 a3
        have HW7 := Lib.hid hw7
        have HT7 := Lib.hid hbt7
        have H7 := Lib.hid (And.intro hb7 (And.intro hu2 (And.intro hx (And.intro hp hV7.us))))
        have hee : (er != er) = false := by simp
        have hdd : (dt2 != dt2) = false := by simp
        have hcc : (cdv != cdv) = false := by simp
        clear hw7 hb7 hbt7 ha7 hU2 hV7 hu2 hx hp HRD
        go_wp2_with fail
        rw [HW7.out]
        refine HR7.out.mono ?_
        rintro e w8 ⟨rfl, ⟨S8, hV8⟩, hst8⟩
        obtain ⟨w9, hw9⟩ : ∃ z, w8.alloc (.cells #[str dt2, .int .i64 cpl, .int .i64 cdv, .int .i64 n1] 45) = z := ⟨_, rfl⟩
        have hb9 : Below w8.heap.size w8 w9 := by rw [← hw9]; exact keep_alloc (Below.refl _ _) _
        have hc9 : Blk w9 w8.heap.size 45 #[str dt2, .int .i64 cpl, .int .i64 cdv, .int .i64 n1] := by rw [← hw9]; exact Blk.new _ _ _
        have hk9 : ∀ b, U2 b → w9.heap[b]? = w7.heap[b]? := fun b hb => by
         have h1 := hst8.heap hb (H7.out.2.2.2.2 b hb)
         exact (hb9.block b (Nat.lt_of_lt_of_le (H7.out.2.2.2.2 b hb) hst8.size)).trans h1
        have h39 : Below w3.heap.size w3 w9 := by
         have h37 := HB3B.out.trans (H7.out.1.mono HB3B.out.size)
         have h38 := h37.trans (hst8.below h37.size (fun i hi => H7.out.2.1.2 i (HU1.out.2.2 i hi)))
         exact h38.trans (hb9.mono h38.size)
        have hs9 : w7.heap.size ≤ w9.heap.size := Nat.le_trans hst8.size hb9.size
        have hx9 : Blk w9 w4.heap.size 37 y.cells := (hk9 _ (H7.out.2.1.2 _ HU1.out.1)).trans H7.out.2.2.1
        have hp9 : Blk w9 (w4.heap.size + 1) 31 #[.int .i64 qd.ag, .int .i64 qd.aa, .int .i64 qd.bg, .int .i64 qd.ba, .bool qd.two, .int .i64 qd.size, .int .i64 qd.level, .int .i64 qd.birth, .int .u64 qd.s0, .int .u64 qd.s1, .int .u64 qd.s2, .int .u64 qd.s3] := (hk9 _ (H7.out.2.1.2 _ HU1.out.2.1)).trans H7.out.2.2.2.1
        have hs38 : w3.heap.size ≤ w8.heap.size := Nat.le_trans HB3B.out.size (Nat.le_trans H7.out.1.size hst8.size)
        obtain ⟨U3, hU3⟩ : ∃ U3, U3 = more U2 w8 w9 := ⟨_, rfl⟩
        have hV9 : VdIn w9 S8 U3 y aw D2 := by rw [hU3]; exact hV8.more hb9
        have hu3 : U3 w8.heap.size ∧ ∀ b, U2 b → U3 b := by rw [hU3]; exact ⟨.inr ⟨Nat.le_refl _, hc9.lt⟩, fun b hb => .inl hb⟩
        have HS := Lib.hid (HSC.out S8 U3 w9 hV9)
        clear x0 x1 x2 x3 p0 p1 p2 p3 p4 p5 p6 p7 p8 p9 p10 p11 a0 a1 a2 a3
        have x0 := (hx9).at_ (i := 0) (v := .slice (some ⟨y.gb, 0, none⟩) y.m y.cc) rfl
        have x1 := (hx9).at_ (i := 1) (v := .int .i64 y.secs) rfl
        have x2 := (hx9).at_ (i := 2) (v := .slice (some ⟨y.lb, 0, none⟩) y.bd.length y.lc) rfl
        have x3 := (hx9).at_ (i := 3) (v := .slice (some ⟨y.ab, 0, none⟩) y.bd.length y.bd.length) rfl
        have p0 := (hp9).at_ (i := 0) (v := .int .i64 (qd).ag) rfl
        have p1 := (hp9).at_ (i := 1) (v := .int .i64 (qd).aa) rfl
        have p2 := (hp9).at_ (i := 2) (v := .int .i64 (qd).bg) rfl
        have p3 := (hp9).at_ (i := 3) (v := .int .i64 (qd).ba) rfl
        have p4 := (hp9).at_ (i := 4) (v := .bool (qd).two) rfl
        have p5 := (hp9).at_ (i := 5) (v := .int .i64 (qd).size) rfl
        have p6 := (hp9).at_ (i := 6) (v := .int .i64 (qd).level) rfl
        have p7 := (hp9).at_ (i := 7) (v := .int .i64 (qd).birth) rfl
        have p8 := (hp9).at_ (i := 8) (v := .int .u64 (qd).s0) rfl
        have p9 := (hp9).at_ (i := 9) (v := .int .u64 (qd).s1) rfl
        have p10 := (hp9).at_ (i := 10) (v := .int .u64 (qd).s2) rfl
        have p11 := (hp9).at_ (i := 11) (v := .int .u64 (qd).s3) rfl
        rw [← hw9] at x0 x1 x2 x3 p0 p1 p2 p3 p4 p5 p6 p7 p8 p9 p10 p11
        have HW9 := Lib.hid hw9
        have H9 := Lib.hid (And.intro hc9 (And.intro hk9 (And.intro hs9 (And.intro h39 (And.intro hu3 (And.intro hs38 (And.intro hst8.size hV9.us)))))))
        clear hw9 hb9 hc9 hk9 h39 hs9 hV8 hst8 HSC HR7 hU3 hV9 hu3 hx9 hp9 hs38 hee
        go_upto_if 191 with (fail)
        go_cut [36] (fun t wx => t = .int .i64 er ∧ ∃ (nF zp : Nat) (zd : Int), Blk wx w8.heap.size 45 #[str dt2, .int .i64 zp, .int .i64 zd, .int .i64 nF] ∧ (∀ b, U2 b → wx.heap[b]? = w7.heap[b]?) ∧ w7.heap.size ≤ wx.heap.size ∧ Below w3.heap.size w3 wx ∧ (er = 0 → nF = cntTo scrub cpl (unl y.gs y.secs aw qd dt2 D) L L.length))
        case first =>
         cases scrub with
         | false =>
          go_wp2_with fail
          rw [HW9.out]
          go_meet
          exact ⟨rfl, n1, cpl, cdv, H9.out.1, H9.out.2.1, H9.out.2.2.1, H9.out.2.2.2.1, fun he => (HGD.out.1 he).1⟩
         | true =>
          go_wp2_with fail
          rw [HW9.out]
          refine HS.out.mono ?_
          rintro e w10 ⟨rfl, _, hst10⟩
          have hc10 : Blk w10 w8.heap.size 45 #[str dt2, .int .i64 cpl, .int .i64 cdv, .int .i64 n1] := (hst10.heap H9.out.2.2.2.2.1.1 H9.out.1.lt).trans H9.out.1
          obtain ⟨wz, hwz⟩ : ∃ z, (((w10.setCell ⟨w8.heap.size, 0, none⟩ (str dt2)).setCell ⟨w8.heap.size, 1, none⟩ (.int .i64 dpl)).setCell ⟨w8.heap.size, 2, none⟩ (.int .i64 ddv)).setCell ⟨w8.heap.size, 3, none⟩ (.int .i64 n2) = z := ⟨_, rfl⟩
          have hcz : Blk wz w8.heap.size 45 #[str dt2, .int .i64 dpl, .int .i64 ddv, .int .i64 n2] := by rw [← hwz]; exact (((hc10.put 0 _).put 1 _).put 2 _).put 3 _
          have hkz : ∀ b, U2 b → wz.heap[b]? = w7.heap[b]? := fun b hb => by
           have h1 := H7.out.2.2.2.2 b hb
           have h2 := H9.out.2.2.2.2.2.2.1
           have hne : b ≠ w8.heap.size := by omega
           have h4 : w10.heap[b]? = w9.heap[b]? := hst10.heap (H9.out.2.2.2.2.1.2 b hb) (H9.out.2.2.2.2.2.2.2 _ (H9.out.2.2.2.2.1.2 b hb))
           rw [← hwz]
           exact (Below.heap_setCell _ _ _ _ hne).trans ((Below.heap_setCell _ _ _ _ hne).trans ((Below.heap_setCell _ _ _ _ hne).trans ((Below.heap_setCell _ _ _ _ hne).trans (h4.trans (H9.out.2.1 b hb)))))
          have h310 : Below w3.heap.size w3 w10 := H9.out.2.2.2.1.trans (hst10.below H9.out.2.2.2.1.size (fun i hi => H9.out.2.2.2.2.1.2 i (H7.out.2.1.2 i (HU1.out.2.2 i hi))))
          have h3z : Below w3.heap.size w3 wz := by rw [← hwz]; exact below_set (below_set (below_set (below_set h310 _ _ _ H9.out.2.2.2.2.2.1) _ _ _ H9.out.2.2.2.2.2.1) _ _ _ H9.out.2.2.2.2.2.1) _ _ _ H9.out.2.2.2.2.2.1
          have hsz : w7.heap.size ≤ wz.heap.size := by
           have : wz.heap.size = w10.heap.size := by rw [← hwz]; simp [World.setCell]
           rw [this]
           exact Nat.le_trans H9.out.2.2.1 hst10.size
          have y0 := hc10.at_ (i := 0) (v := str dt2) rfl
          have y1 := hc10.at_ (i := 1) (v := .int .i64 cpl) rfl
          have y2 := hc10.at_ (i := 2) (v := .int .i64 cdv) rfl
          have y3 := hc10.at_ (i := 3) (v := .int .i64 n1) rfl
          have fr0 := hc10.fr 0
          have fr1 := hc10.fr 1
          have fr2 := hc10.fr 2
          have fr3 := hc10.fr 3
          have HWZ := Lib.hid hwz
          have HF := Lib.hid (And.intro hcz (And.intro hkz (And.intro hsz h3z)))
          clear x0 x1 x2 x3 p0 p1 p2 p3 p4 p5 p6 p7 p8 p9 p10 p11 hwz hcz hkz h310 h3z hsz hc10 hst10 HS
          go_wp2_with fail
          rw [HWZ.out]
          go_meet
          exact ⟨rfl, n2, dpl, ddv, HF.out.1, HF.out.2.1, HF.out.2.2.1, HF.out.2.2.2, fun he => (HGD.out.1 he).2.1⟩
        case rest =>
         obtain ⟨rfl, nF, zp, zd, hcz, hkz, hsz, h3z, hnF⟩ := hcut
         have hee : (er != er) = false := by simp
         have z0 := hcz.at_ (i := 0) (v := str dt2) rfl
         have z3 := hcz.at_ (i := 3) (v := .int .i64 nF) rfl
         have HZC := Lib.hid hcz
         have HKZ := Lib.hid (And.intro hkz (And.intro hsz h3z))
         have HNF := Lib.hid hnF
         clear x0 x1 x2 x3 p0 p1 p2 p3 p4 p5 p6 p7 p8 p9 p10 p11 hcz hkz hsz h3z hnF HS
         rename World => wq
         as_aux_lemma =>
          have husz : ∀ b, U2 b → b < (wq).heap.size := fun b hb => Nat.lt_of_lt_of_le (H7.out.2.2.2.2 b hb) HKZ.out.2.1
          have hpls : SlAt (wq) (.slice Ap L.length cp) L.length (grC L) := ((slU_new (HP.out.1.below (keep_below HT7.out HPT.out)) HP.out.2.1 H7.out.2.1.1).same HKZ.out.1).to husz
          have hrows : RowsAt (wq) (.slice Ar (L.map R).length cr) (L.map R) := by
           have := ((rowsU_new HOL.out.1 HOL.out.2 HT7.out (fun b h1 h2 => H7.out.2.1.1 b (Nat.le_trans HP.out.2.2.size h1) h2)).same HKZ.out.1).to husz
           rwa [List.length_map]
          have hher : SlAt (wq) (.slice Av y.bd.length cv) y.bd.length (boolC (hrT al ll y.bd.length)) := (((HXB.out.2.2.2.2.same (fun b hb => H7.out.1.block b (HVB.out.1.us b hb))).mono H7.out.2.1.2).same HKZ.out.1).to husz
          have hqb : Blk (wq) (w4.heap.size + 1) 31 #[.int .i64 qd.ag, .int .i64 qd.aa, .int .i64 qd.bg, .int .i64 qd.ba, .bool qd.two, .int .i64 qd.size, .int .i64 qd.level, .int .i64 qd.birth, .int .u64 qd.s0, .int .u64 qd.s1, .int .u64 qd.s2, .int .u64 qd.s3] := (HKZ.out.1 _ (H7.out.2.1.2 _ HU1.out.2.1)).trans H7.out.2.2.2.1
          have hgz : GeoAt (wq) A m y.gs := HG3.out.1.below HKZ.out.2.2 (Nat.le_refl _)
          have hgxz : Blk (wq) w.heap.size 24 #[.slice A m c, .int .i64 y.secs] := HG3.out.2.below HKZ.out.2.2 HG3.out.2.lt
          have HZ := Lib.hid (And.intro hpls (And.intro hrows (And.intro hher (And.intro hqb (And.intro hgz (And.intro hgxz (keep_below HKZ.out.2.2 HD3.out)))))))
          clear husz hpls hrows hher hqb hgz hgxz
          by_cases her : er = 0
          · obtain ⟨k1, k2, k3, k4, k5⟩ := HGD.out.1 her
            subst her
            have HGE := Lib.hid (And.intro (HNF.out rfl) (And.intro k3 (And.intro k4 k5)))
            clear k1 k2 k3 k4 k5 HGD
            go_wp2_with fail
            go_loopw [37, 38, 39, 40, 41] (fun nv av t _ _ wr => ∃ i : Nat, i ≤ L.length ∧ nv = .int .i64 (cntTo (scrub) cpl (unl y.gs y.secs aw qd dt2 D) L i : Nat) ∧ av = .bool (allTo (fine y.gs y.secs aw qd dt2 D) L i) ∧ t = .int .i64 i ∧ Below (wq).heap.size (wq) wr) (fun _ _ t _ _ _ => L.length - (RowKit.intOf t).toNat)
            case atStart => exact ⟨0, Nat.zero_le _, rfl, rfl, rfl, Below.refl _ _⟩
            case round =>
             obtain ⟨i, hi', hnv, hav, rfl, hb⟩ := hrel
             have HB := Lib.hid hb
             by_cases hlt : i < L.length
             · obtain ⟨pl, hpl⟩ : ∃ pl, L[i]? = some pl := ⟨_, List.getElem?_eq_getElem hlt⟩
               have hmp := HL.out.2.1 pl (List.mem_of_getElem? hpl)
               obtain ⟨hun, hin, hEl, hGl, h64, hfi, hm2⟩ := unl_here (pl := pl) HVB.out.1.right HVB.out.1.nd hmp HGE.out.2.2.1 HGE.out.2.2.2 HVB.out.2.2 HR.out
               have hcn := cntTo_step (scrub := (scrub)) (place := cpl) (u := unl y.gs y.secs aw qd dt2 D) hpl
               have hal := allTo_step (g := fine y.gs y.secs aw qd dt2 D) hpl
               have hcle : cntTo (scrub) cpl (unl y.gs y.secs aw qd dt2 D) L i ≤ 64 * i := cntTo_le (fun pl hpl => by
                have hm := HL.out.2.1 pl hpl
                obtain ⟨g1, _, _, _, g5, _⟩ := unl_here (pl := pl) HVB.out.1.right HVB.out.1.nd hm HGE.out.2.2.1 HGE.out.2.2.2 HVB.out.2.2 HR.out
                rw [g1]
                exact Nat.le_trans (unlikeN_le _ _ _ _ _) g5) i (by omega)
               rw [hun] at hcn
               rw [hfi] at hal
               have hKl := unlikeN_le (fun d => bAt (hrT al ll y.bd.length) d) (colsOf y.gs y.secs pl.1 pl.2 qd.size) (encL y.gs y.secs pl.1 pl.2 dt2) (R pl) (colsOf y.gs y.secs pl.1 pl.2 qd.size).length
               have hrow : (L.map R)[i]? = some (R pl) := by rw [List.getElem?_map, hpl]; rfl
               obtain ⟨rb, ro, A', c', rfl, hrc, hrs⟩ := HZ.out.2.1.row hrow
               obtain ⟨bp, op, rfl, hbp, hcp⟩ := HZ.out.1.cells (by omega)
               have l0 := hcp _ _ (grC_get hpl).1
               have l1 : (wq).cell? ⟨bp, op + i * 2 + 1, none⟩ = some (.int .i64 pl.2) := hcp _ _ (grC_get hpl).2
               have g0 := HZ.out.2.2.2.2.2.1.at_ (i := 0) (v := .slice A m c) rfl
               have g1 := HZ.out.2.2.2.2.2.1.at_ (i := 1) (v := .int .i64 y.secs) rfl
               have p5 := HZ.out.2.2.2.1.at_ (i := 5) (v := .int .i64 qd.size) rfl
               have HOF := Lib.hid (fun (W : World) (hW : Below (wq).heap.size (wq) W) => refOf_any A m c y.gs y.secs pl.1 pl.2 qd.size W (HZ.out.2.2.2.2.1.below hW (Nat.le_refl _)) hmp)
               have HEN := Lib.hid (fun (W : World) (hW : Below (wq).heap.size (wq) W) => refEncode_any A m c y.gs y.secs pl.1 pl.2 dt2 (HZ.out.2.2.2.2.1.below hW (Nat.le_refl _)) hm2 HGE.out.2.2.2)
               obtain ⟨Lc, hLc⟩ : ∃ Lc, colsOf y.gs y.secs pl.1 pl.2 qd.size = Lc := ⟨_, rfl⟩
               obtain ⟨E, hE⟩ : ∃ E, encL y.gs y.secs pl.1 pl.2 dt2 = E := ⟨_, rfl⟩
               obtain ⟨G, hG⟩ : ∃ G, R pl = G := ⟨_, rfl⟩
               rw [hLc] at hEl hGl h64 hin
               rw [hE] at hEl
               rw [hG] at hGl hrc hrs
               rw [hLc, hE, hG] at hcn hKl
               rw [hE, hG] at hal
               simp only [hLc] at HOF
               simp only [hE] at HEN
               obtain ⟨N0, hN0⟩ : ∃ N0, cntTo (scrub) cpl (unl y.gs y.secs aw qd dt2 D) L i = N0 := ⟨_, rfl⟩
               obtain ⟨a0, ha0⟩ : ∃ a0, allTo (fine y.gs y.secs aw qd dt2 D) L i = a0 := ⟨_, rfl⟩
               rw [hN0] at hnv hcn hcle
               rw [ha0] at hav hal
               subst hnv hav
               have HUN : Hid (∀ (W : World) (v1 v2 : Value), Below (wq).heap.size (wq) W → SlAt W v1 Lc.length (colsCells Lc) → SlAt W v2 E.length (strC E) → Calls Tryz.prog 22 #[v1, v2, .slice A' G.length c', .slice Av y.bd.length cv] W fun e w' =>
                e = .returned (.int .i64 (unlikeN (fun d => bAt (hrT al ll y.bd.length) d) Lc E G Lc.length : Nat)) ∧ Below W.heap.size W w') := Lib.hid fun W v1 v2 hW h1 h2 => by
                have hhl : (hrT al ll y.bd.length).length = y.bd.length := hrT_len
                exact refUnlike_any h1 h2 (hrs.below hW) (hr := hrT al ll y.bd.length) (by rw [hhl]; exact HZ.out.2.2.1.below hW) hEl hGl h64 (fun c hc => by rw [hhl]; exact hin c hc) (by rw [hhl]; omega)
               obtain ⟨K, hK⟩ : ∃ K, unlikeN (fun d => bAt (hrT al ll y.bd.length) d) Lc E G Lc.length = K := ⟨_, rfl⟩
               rw [hK] at hcn hKl
               simp only [hK] at HUN
               have HXX := Lib.hid (And.intro hrc (And.intro hrs (And.intro (show E.length = G.length by omega) (And.intro (show G.length ≤ 64 by omega) trivial))))
               have HFC := Lib.hid (And.intro g0 (And.intro g1 (And.intro l0 l1)))
               have HAL := Lib.hid hal
               have hd1 : decide (i < L.length) = true := decide_eq_true hlt
               have HCB := Lib.hid hcn
               have hK64 : K ≤ 64 := by omega
               have hN64 : N0 ≤ 128 := by omega
               obtain ⟨C, hCd, hCw, hCB, hCK, hCD⟩ := cls_below wr
               have f0 : ∀ W, C W → W.cell? ⟨w.heap.size, 0, none⟩ = some (.slice A m c) := fun W h => keepc g0 (keep_below (hCB W h) hb)
               have f1 : ∀ W, C W → W.cell? ⟨w.heap.size, 1, none⟩ = some (.int .i64 y.secs) := fun W h => keepc g1 (keep_below (hCB W h) hb)
               have f2 : ∀ W, C W → W.cell? ⟨bp, op + i * 2, none⟩ = some (.int .i64 pl.1) := fun W h => keepc l0 (keep_below (hCB W h) hb)
               have f3 : ∀ W, C W → W.cell? ⟨bp, op + i * 2 + 1, none⟩ = some (.int .i64 pl.2) := fun W h => keepc l1 (keep_below (hCB W h) hb)
               have f4 : ∀ W, C W → W.cell? ⟨w4.heap.size + 1, 5, none⟩ = some (.int .i64 qd.size) := fun W h => keepc p5 (keep_below (hCB W h) hb)
               have f5 : ∀ W, C W → W.cell? ⟨rb, ro + i, none⟩ = some (.slice A' G.length c') := fun W h => keepc hrc (keep_below (hCB W h) hb)
               have HC := Lib.hid (And.intro hCB (And.intro hCK hCd))
               clear hpl hmp hun hin hEl hGl h64 hfi hm2 hcn hal hcle hKl hrow hrc hrs hbp hcp l0 l1 g0 g1 p5 hLc hE hG hN0 ha0 hK hb hCw hCB hCK hCD
               go_wp2_with fail
               refine wp_region_effA C [7, 14, 20] (by as_aux_lemma => kernel_rfl) (by as_aux_lemma => kernel_rfl) (by as_aux_lemma => kernel_rfl) hCd ?_
               refine wpLexE_take 7 (by as_aux_lemma => kernel_rfl) (by as_aux_lemma => kernel_rfl) ?_
               simp only [List.take_succ_cons, List.take_zero, List.drop_succ_cons, List.drop_zero]
               repeat (first | go_big_quiet_skip | (go_big_quiet_want; go_big_quiet_op; first | go_big_quiet_on | (apply Exists.intro; refine ⟨fun W hW => ?_, ?_⟩; (focus ((first | exact rfl | exact ⟨rfl, rfl⟩ | (simp only [f0 W hW, f1 W hW, f2 W hW, f3 W hW, f4 W hW, Result.andThen_ok]; first | done | exact ⟨trivial, rfl⟩ | exact rfl | exact ⟨rfl, rfl⟩) | (skip)); done)); go_big_quiet_on)))
               refine wpQuiet_nil ?_
               show wpLexE _ _ _ _ _ _ _ _ _
               refine wpLexE_eff (by as_aux_lemma => kernel_rfl) rfl ?_
               go_wp2_with fail
               refine (HOF.out _ (keep_below (HC.out.1 _ hCd) HB.out)).mono ?_
               rintro e w11 ⟨v1, rfl, ho1, hb11⟩
               have hC11 := HC.out.2.1 _ _ hCd hb11
               have HS1 := Lib.hid (slAt_own ho1)
               obtain ⟨A1, c1, rfl⟩ := HS1.out.form
               clear ho1 hb11
               go_wp2_with fail
               refine ⟨rfl, hC11, ?_⟩
               refine wpLexE_take 6 (by as_aux_lemma => kernel_rfl) (by as_aux_lemma => kernel_rfl) ?_
               simp only [List.take_succ_cons, List.take_zero, List.drop_succ_cons, List.drop_zero]
               repeat (first | go_big_quiet_skip | (go_big_quiet_want; go_big_quiet_op; first | go_big_quiet_on | (apply Exists.intro; refine ⟨fun W hW => ?_, ?_⟩; (focus ((first | exact rfl | exact ⟨rfl, rfl⟩ | (simp only [f0 W hW, f1 W hW, f2 W hW, f3 W hW, Result.andThen_ok]; first | done | exact ⟨trivial, rfl⟩ | exact rfl | exact ⟨rfl, rfl⟩) | (skip)); done)); go_big_quiet_on)))
               refine wpQuiet_nil ?_
               show wpLexE _ _ _ _ _ _ _ _ _
               refine wpLexE_eff (by as_aux_lemma => kernel_rfl) rfl ?_
               go_wp2_with fail
               refine (HEN.out _ (keep_below (HC.out.1 _ hC11) HB.out)).mono ?_
               rintro e w12 ⟨v2, rfl, hs2, hb12⟩
               have hC12 := HC.out.2.1 _ _ hC11 hb12
               have HS2 := Lib.hid (And.intro (HS1.out.below hb12) hs2)
               obtain ⟨A2, c2, rfl⟩ := hs2.form
               clear hs2 hb12
               go_wp2_with fail
               refine ⟨rfl, hC12, ?_⟩
               refine wpLexE_take 5 (by as_aux_lemma => kernel_rfl) (by as_aux_lemma => kernel_rfl) ?_
               simp only [List.take_succ_cons, List.take_zero, List.drop_succ_cons, List.drop_zero]
               repeat (first | go_big_quiet_skip | (go_big_quiet_want; go_big_quiet_op; first | go_big_quiet_on | (apply Exists.intro; refine ⟨fun W hW => ?_, ?_⟩; (focus ((first | exact rfl | exact ⟨rfl, rfl⟩ | (simp only [f5 W hW, Result.andThen_ok]; first | done | exact ⟨trivial, rfl⟩ | exact rfl | exact ⟨rfl, rfl⟩) | (skip)); done)); go_big_quiet_on)))
               refine wpQuiet_nil ?_
               show wpLexE _ _ _ _ _ _ _ _ _
               refine wpLexE_eff (by as_aux_lemma => kernel_rfl) rfl ?_
               go_wp2_with fail
               refine (HUN.out _ _ _ (keep_below (HC.out.1 _ hC12) HB.out) HS2.out.1 HS2.out.2).mono ?_
               rintro e w13 ⟨rfl, hb13⟩
               have hC13 := HC.out.2.1 _ _ hC12 hb13
               have HB13 := Lib.hid (keep_below (HC.out.1 _ hC13) HB.out)
               clear hb13
               go_wp2_with fail
               refine ⟨rfl, hC13, ?_⟩
               refine wpLexE_take 1 (by as_aux_lemma => kernel_rfl) (by as_aux_lemma => kernel_rfl) ?_
               simp only [List.take_succ_cons, List.take_zero, List.drop_succ_cons, List.drop_zero]
               repeat (first | go_big_quiet_skip | (go_big_quiet_want; go_big_quiet_op; first | go_big_quiet_on | (apply Exists.intro; refine ⟨fun W hW => ?_, ?_⟩; (focus ((first | exact rfl | exact ⟨rfl, rfl⟩ | (simp only [f0 W hW, Result.andThen_ok]; first | done | exact ⟨trivial, rfl⟩ | exact rfl | exact ⟨rfl, rfl⟩) | (skip)); done)); go_big_quiet_on)))
               refine wpQuiet_nil ?_
               unfold wpLexE
               clear f0 f1 f2 f3 f4 f5 hCd hC11 hC12 hC13
               go_upto_region 38 with (fail)
               go_cut [37, 38, 39, 40, 251] (fun n a t k b wx => n = .int .i64 N0 ∧ a = .bool a0 ∧ t = .int .i64 i ∧ k = .int .i64 K ∧ b = .bool (cntB scrub cpl i) ∧ wx = w13)
               case first =>
                by_cases hic : i ≤ cpl
                · have hdA : decide (i ≤ cpl) = true := decide_eq_true hic
                  have hdB : decide (cpl < i) = false := decide_eq_false (by omega)
                  have hcb : cntB scrub cpl i = !scrub := by unfold cntB; rw [hdA, hdB]; simp
                  have HCB := Lib.hid hcb
                  clear hic hcb
                  cases scrub with
                  | false =>
                   go_wp2_with fail
                   go_meet
                   exact ⟨rfl, rfl, rfl, rfl, by rw [HCB.out]; rfl, rfl⟩
                  | true =>
                   go_wp2_with fail
                   go_meet
                   exact ⟨rfl, rfl, rfl, rfl, by rw [HCB.out]; rfl, rfl⟩
                · have hdA : decide (i ≤ cpl) = false := decide_eq_false hic
                  have hdB : decide (cpl < i) = true := decide_eq_true (by omega)
                  have hcb : cntB scrub cpl i = scrub := by unfold cntB; rw [hdA, hdB]; simp
                  have HCB := Lib.hid hcb
                  clear hic hcb
                  cases scrub with
                  | false =>
                   go_wp2_with fail
                   go_meet
                   exact ⟨rfl, rfl, rfl, rfl, by rw [HCB.out], rfl⟩
                  | true =>
                   go_wp2_with fail
                   go_meet
                   exact ⟨rfl, rfl, rfl, rfl, by rw [HCB.out], rfl⟩
               case rest =>
                obtain ⟨rfl, rfl, rfl, rfl, rfl, rfl⟩ := hcut
                obtain ⟨N1, hN1⟩ : ∃ N1, cntTo scrub cpl (unl y.gs y.secs aw qd dt2 D) L (i + 1) = N1 := ⟨_, rfl⟩
                have hcn := HCB.out
                rw [hN1] at hcn
                obtain ⟨cb, hcb⟩ : ∃ cb, cntB scrub cpl i = cb := ⟨_, rfl⟩
                rw [hcb] at hcn
                have HCN := Lib.hid hN1
                have HC1 := Lib.hid hcn
                rw [hcb]
                clear hN1 hcn hcb
                go_upto_if 251 with (fail)
                go_cut [37, 38, 39] (fun n a t wx => n = .int .i64 N1 ∧ a = .bool a0 ∧ t = .int .i64 i ∧ wx = wc)
                case first =>
                 have hcn := HC1.out
                 cases cb with
                 | false =>
                  have HN : Hid (N1 = N0) := Lib.hid hcn
                  clear hcn
                  go_wp2_with fail
                  go_meet
                  exact ⟨by rw [HN.out], rfl, rfl, rfl⟩
                 | true =>
                  have HN : Hid (N1 = N0 + K) := Lib.hid hcn
                  clear hcn
                  go_wp2_with fail
                  go_meet
                  exact ⟨by rw [HN.out]; go_num, rfl, rfl, rfl⟩
                case rest =>
                 obtain ⟨rfl, rfl, rfl, rfl⟩ := hcut
                 go_wp2_with fail
                 go_loopw [38, 41] (fun av t wr => ∃ j : Nat, j ≤ G.length ∧ av = .bool (a0 && eqTo G E j) ∧ t = .int .i64 j ∧ Below (wq).heap.size (wq) wr) (fun _ t _ => G.length - (RowKit.intOf t).toNat)
                 case atStart => exact ⟨0, Nat.zero_le _, by simp [eqTo], rfl, HB13.out⟩
                 case round =>
                  obtain ⟨j, hj, rfl, rfl, hbj⟩ := hrel
                  have r0 := keepc HXX.out.1 hbj
                  have hG64 := HXX.out.2.2.2.1
                  have hst := eqTo_step G E j
                  by_cases hjt : j < G.length
                  · obtain ⟨gt, hgt⟩ : ∃ gt, G[j]? = some gt := ⟨_, List.getElem?_eq_getElem hjt⟩
                    have hjE : j < E.length := by have := HXX.out.2.2.1; omega
                    obtain ⟨et, het⟩ : ∃ et, E[j]? = some et := ⟨_, List.getElem?_eq_getElem hjE⟩
                    obtain ⟨gb, gof, rfl, hgb, hgc⟩ := HXX.out.2.1.cells (by omega)
                    have r1 := keepc (hgc _ _ (strC_at hgt)) hbj
                    have hgd : G.getD j [] = gt := by rw [List.getD_eq_getElem?_getD, hgt]; rfl
                    have hed : E.getD j [] = et := by rw [List.getD_eq_getElem?_getD, het]; rfl
                    rw [hgd, hed] at hst
                    have r2 := keepc HFC.out.1 hbj
                    have r3 := keepc HFC.out.2.1 hbj
                    have r4 := keepc HFC.out.2.2.1 hbj
                    have r5 := keepc HFC.out.2.2.2 hbj
                    have hd3 : decide (j < G.length) = true := decide_eq_true hjt
                    have HET := Lib.hid (strC_at het)
                    obtain ⟨C, hCd, hCw, hCB, hCK, hCD⟩ := cls_below wr
                    have f0 : ∀ W, C W → W.cell? ⟨rb, ro + i, none⟩ = some (.slice (some ⟨gb, gof, none⟩) G.length c') := fun W h => keepc r0 (hCB W h)
                    have f1 : ∀ W, C W → W.cell? ⟨gb, gof + j, none⟩ = some (str gt) := fun W h => keepc r1 (hCB W h)
                    have f2 : ∀ W, C W → W.cell? ⟨w.heap.size, 0, none⟩ = some (.slice A m c) := fun W h => keepc r2 (hCB W h)
                    have f3 : ∀ W, C W → W.cell? ⟨w.heap.size, 1, none⟩ = some (.int .i64 y.secs) := fun W h => keepc r3 (hCB W h)
                    have f4 : ∀ W, C W → W.cell? ⟨bp, op + i * 2, none⟩ = some (.int .i64 pl.1) := fun W h => keepc r4 (hCB W h)
                    have f5 : ∀ W, C W → W.cell? ⟨bp, op + i * 2 + 1, none⟩ = some (.int .i64 pl.2) := fun W h => keepc r5 (hCB W h)
                    have HC := Lib.hid (And.intro hCB (And.intro hCK hCd))
                    have HBJ := Lib.hid hbj
                    cases hab : (a0 && eqTo G E j) with
                    | false =>
                     have HST : Hid ((a0 && eqTo G E (j + 1)) = false) := Lib.hid (by rw [hst, ← Bool.and_assoc, hab]; rfl)
                     clear hst hgt het hgb hgc hgd hed r1 r2 r3 r4 r5 hbj hab hCw hCB hCK hCD
                     go_wp2_with fail
                     refine wp_region_cls C (by as_aux_lemma => kernel_rfl) (by as_aux_lemma => kernel_rfl) hCd ?_
                     repeat (first | go_big_quiet_skip | (go_big_quiet_want; go_big_quiet_op; first | go_big_quiet_on | (apply Exists.intro; refine ⟨fun W hW => ?_, ?_⟩; (focus ((first | exact rfl | exact ⟨rfl, rfl⟩ | (simp only [f0 W hW, Result.andThen_ok]; first | done | exact ⟨trivial, rfl⟩ | exact rfl | exact ⟨rfl, rfl⟩) | (skip)); done)); go_big_quiet_on)))
                     refine wpQuiet_nil ?_
                     intro wz hwz
                     have HBZ := Lib.hid (keep_below (HC.out.1 wz hwz) HBJ.out)
                     clear f0 f1 f2 f3 f4 f5 hCd hwz
                     go_wp2_with fail
                     go_roundw
                     case rel => exact ⟨j + 1, by omega, by rw [HST.out], by go_num, HBZ.out⟩
                     case measure => simp [RowKit.intOf]; omega
                    | true =>
                     have HST : Hid ((a0 && eqTo G E (j + 1)) = (gt == et)) := Lib.hid (by rw [hst, ← Bool.and_assoc, hab]; rfl)
                     clear hst hgt het hgb hgc hgd hed r1 r2 r3 r4 r5 hbj hab hCw hCB hCK hCD
                     go_wp2_with fail
                     refine Pl.wp_region_plan C [15, 17, 18] (Pl.Plan.seg 0 15 (.op 15 (Pl.Plan.seg 16 1 (.op 17 (.op 18 (Pl.Plan.seg 19 3 .done)))))) (by as_aux_lemma => kernel_rfl) (by as_aux_lemma => kernel_rfl) hCd ?_
                     refine Pl.wpPlan_take (k := 0) 15 (by as_aux_lemma => kernel_rfl) (by as_aux_lemma => kernel_rfl) ?_
                     simp only [List.take_succ_cons, List.take_zero, List.drop_succ_cons, List.drop_zero]
                     repeat (first | go_big_quiet_skip | (go_big_quiet_want; go_big_quiet_op; first | go_big_quiet_on | (apply Exists.intro; refine ⟨fun W hW => ?_, ?_⟩; (focus ((first | exact rfl | exact ⟨rfl, rfl⟩ | (simp only [f0 W hW, f1 W hW, f2 W hW, f3 W hW, f4 W hW, f5 W hW, Result.andThen_ok]; first | done | exact ⟨trivial, rfl⟩ | exact rfl | exact ⟨rfl, rfl⟩) | (skip)); done)); go_big_quiet_on)))
                     refine wpQuiet_nil ?_
                     refine Pl.efOp_any rfl rfl ?_
                     go_wp2_with fail
                     refine (HEN.out _ (keep_below (HC.out.1 _ hCd) HBJ.out)).mono ?_
                     rintro e w14 ⟨v2, rfl, hs2, hb14⟩
                     have hC14 := HC.out.2.1 _ _ hCd hb14
                     obtain ⟨A2, c2, rfl⟩ := hs2.form
                     obtain ⟨eb, eo, rfl, heb, hec⟩ := hs2.cells (by omega)
                     have r7 := hec _ _ HET.out
                     have HB14 := Lib.hid (keep_below (HC.out.1 _ hC14) HBJ.out)
                     clear hs2 hb14 heb hec f1 f2 f3 f4 f5
                     go_wp2_with fail
                     refine ⟨rfl, hC14, ?_⟩
                     refine Pl.wpPlan_take (k := 16) 1 (by as_aux_lemma => kernel_rfl) (by as_aux_lemma => kernel_rfl) ?_
                     simp only [List.take_succ_cons, List.take_zero, List.drop_succ_cons, List.drop_zero]
                     repeat (first | go_big_quiet_skip | (go_big_quiet_want; go_big_quiet_op; first | go_big_quiet_on | (apply Exists.intro; refine ⟨fun W hW => ?_, ?_⟩; (focus ((first | exact rfl | exact ⟨rfl, rfl⟩ | (simp only [f0 W hW, Result.andThen_ok]; first | done | exact ⟨trivial, rfl⟩ | exact rfl | exact ⟨rfl, rfl⟩) | (skip)); done)); go_big_quiet_on)))
                     refine wpQuiet_nil ?_
                     refine Pl.efOp_any rfl rfl ?_
                     go_wp2_with fail
                     refine ⟨rfl, hC14, ?_⟩
                     refine Pl.efOp_any rfl rfl ?_
                     go_wp2_with fail
                     refine ⟨rfl, hC14, ?_⟩
                     refine Pl.wpPlan_take (k := 19) 3 (by as_aux_lemma => kernel_rfl) (by as_aux_lemma => kernel_rfl) ?_
                     simp only [List.take_succ_cons, List.take_zero, List.drop_succ_cons, List.drop_zero]
                     repeat (first | go_big_quiet_skip | (go_big_quiet_want; go_big_quiet_op; first | go_big_quiet_on | (apply Exists.intro; refine ⟨fun W hW => ?_, ?_⟩; (focus ((first | exact rfl | exact ⟨rfl, rfl⟩ | (simp only [f0 W hW, Result.andThen_ok]; first | done | exact ⟨trivial, rfl⟩ | exact rfl | exact ⟨rfl, rfl⟩) | (skip)); done)); go_big_quiet_on)))
                     refine wpQuiet_nil ?_
                     simp only [Pl.wpPlan]
                     clear f0 hCd hC14 r7
                     go_wp2_with fail
                     go_roundw
                     case rel => exact ⟨j + 1, by omega, by rw [HST.out], by go_num, HB14.out⟩
                     case measure => simp [RowKit.intOf]; omega
                  · obtain rfl : j = G.length := by omega
                    have hd3 : decide (G.length < G.length) = false := decide_eq_false (by omega)
                    have HBJ := Lib.hid hbj
                    clear hst hbj
                    go_wp2_with fail
                    go_roundw
                    case rel => exact ⟨i + 1, by omega, by rw [HCN.out], by rw [HAL.out], by go_num, HBJ.out⟩
                    case measure => simp [RowKit.intOf]; omega
             · obtain rfl : i = L.length := by omega
               have hd1 : decide (L.length < L.length) = false := decide_eq_false (by omega)
               rw [← HGE.out.1] at hnv
               rw [← HGE.out.2.1] at hav
               subst hnv hav
               have z0 := keepc (HZC.out.at_ (i := 0) (v := str dt2) rfl) hb
               have z3 := keepc (HZC.out.at_ (i := 3) (v := .int .i64 (nF)) rfl) hb
               have hdq : (dt2 == dt2) = true := by simp
               have HBF := Lib.hid (keep_below hb HZ.out.2.2.2.2.2.2)
               clear hb hlt hi'
               go_wp2_with fail
               go_ret
               exact ⟨by simp, HBF.out⟩
          · obtain ⟨h1, h2⟩ := HGD.out.2 her
            subst h1 h2
            have hne : (er != 0) = true := bne_iff_ne.2 her
            have hne2 : (er == 0) = false := beq_eq_false_iff_ne.2 her
            clear her
            go_wp2_with fail
            go_ret
            exact ⟨rfl, HZ.out.2.2.2.2.2.2⟩
end Go.Proofs.YtbhkbcpljakmjaaGreat
