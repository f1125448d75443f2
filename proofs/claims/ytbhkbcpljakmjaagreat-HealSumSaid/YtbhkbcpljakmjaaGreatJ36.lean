/-
  The statement HealSum, walked.
-/
import Derived.Test.YtbhkbcpljakmjaaGreatJ34
import Derived.Test.YtbhkbcpljakmjaaGreatJ35
namespace Go.Proofs.YtbhkbcpljakmjaaGreat
set_option linter.unusedVariables false
set_option linter.unusedSimpArgs false
open Go.RowKit

set_option maxRecDepth 20000 in
set_option maxHeartbeats 8000000 in
theorem healSum_any (A : Option Addr) (m c : Nat) (gs : List (Int × Int)) (secs : Int) (p : PtrD) (s : List UInt8) (hsl : s.length ≤ 9223372036854775807) {av lv hv : Value} {al ll : List Bool} {hl : List HitD} {w : World} (hg : GeoAt w A m gs) (ha : SlAt w av al.length (boolC al)) (hlo : SlAt w lv ll.length (boolC ll)) (hh : HitsAt w hv hl) :
    Calls Tryz.prog 3 #[.agg #[.slice A m c, .int .i64 secs], .agg #[.int .i64 p.ag, .int .i64 p.aa, .int .i64 p.bg, .int .i64 p.ba, .bool p.two, .int .i64 p.size, .int .i64 p.level, .int .i64 p.birth, .int .u64 p.s0, .int .u64 p.s1, .int .u64 p.s2, .int .u64 p.s3], str s, av, lv, hv] w fun e w' => e = .returned (.bool true) ∧ Below w.heap.size w w' := by
  obtain ⟨Aa, ca, rfl⟩ := ha.form
  obtain ⟨Al, cl, rfl⟩ := hlo.form
  obtain ⟨Ah, ch, rfl⟩ := hh.form
  obtain ⟨w2, hw2⟩ : ∃ z, (w.alloc (.cells #[.slice A m c, .int .i64 secs] 24)).alloc (.cells #[.int .i64 p.ag, .int .i64 p.aa, .int .i64 p.bg, .int .i64 p.ba, .bool p.two, .int .i64 p.size, .int .i64 p.level, .int .i64 p.birth, .int .u64 p.s0, .int .u64 p.s1, .int .u64 p.s2, .int .u64 p.s3] 31) = z := ⟨_, rfl⟩
  have B1 : Blk w2 w.heap.size 24 #[.slice A m c, .int .i64 secs] := by rw [← hw2]; exact (Blk.new _ _ _).alloc _
  have B2 : Blk w2 (w.heap.size + 1) 31 #[.int .i64 p.ag, .int .i64 p.aa, .int .i64 p.bg, .int .i64 p.ba, .bool p.two, .int .i64 p.size, .int .i64 p.level, .int .i64 p.birth, .int .u64 p.s0, .int .u64 p.s1, .int .u64 p.s2, .int .u64 p.s3] := by rw [← hw2]; exact Blk.new2 _ _ _ _
  have D2 : Below w.heap.size w w2 := by rw [← hw2]; exact keep_alloc (keep_alloc (Below.refl _ _) _) _
  have HB2 := Lib.hid (And.intro B1 B2)
  have HD2 := Lib.hid D2
  have HW2 := Lib.hid hw2
  have HARG := Lib.hid (And.intro (ha.below D2) (And.intro (hlo.below D2) (hh.below D2)))
  have HG := Lib.hid (hg.below D2 (Nat.le_refl _))
  clear ha hlo hh hg B1 B2 D2 hw2
  go_enter Tryz.func3, Tryz.ntmps3
  go_wp2_with fail
  rw [HW2.out]
  refine (awake10_any w2).mono ?_
  rintro e w3 ⟨rfl, hb3⟩
  have HB3 := Lib.hid hb3
  by_cases h30 : 30 < hl.length
  · have hd1 : decide ((30 : Int) < hl.length) = true := decide_eq_true (by omega)
    clear h30 hb3
    go_wp2_with fail
    refine (awake10_any w3).mono ?_
    rintro e w4 ⟨rfl, hb4⟩
    have HB4 := Lib.hid (keep_below (keep_below hb4 HB3.out) HD2.out)
    clear hb4
    go_wp2_with fail
    go_ret
    exact ⟨rfl, HB4.out⟩
  have hd1 : decide ((30 : Int) < hl.length) = false := decide_eq_false (by omega)
  have hl30 : hl.length ≤ 30 := by omega
  have hg3 := HB2.out.1.below hb3 HB2.out.1.lt
  have hp3 := HB2.out.2.below hb3 HB2.out.2.lt
  have g0 := hg3.at_ (i := 0) (v := .slice A m c) rfl
  have g1 := hg3.at_ (i := 1) (v := .int .i64 secs) rfl
  have p0 := (hp3).at_ (i := 0) (v := .int .i64 (p).ag) rfl
  have p1 := (hp3).at_ (i := 1) (v := .int .i64 (p).aa) rfl
  have p2 := (hp3).at_ (i := 2) (v := .int .i64 (p).bg) rfl
  have p3 := (hp3).at_ (i := 3) (v := .int .i64 (p).ba) rfl
  have p4 := (hp3).at_ (i := 4) (v := .bool (p).two) rfl
  have p5 := (hp3).at_ (i := 5) (v := .int .i64 (p).size) rfl
  have p6 := (hp3).at_ (i := 6) (v := .int .i64 (p).level) rfl
  have p7 := (hp3).at_ (i := 7) (v := .int .i64 (p).birth) rfl
  have p8 := (hp3).at_ (i := 8) (v := .int .u64 (p).s0) rfl
  have p9 := (hp3).at_ (i := 9) (v := .int .u64 (p).s1) rfl
  have p10 := (hp3).at_ (i := 10) (v := .int .u64 (p).s2) rfl
  have p11 := (hp3).at_ (i := 11) (v := .int .u64 (p).s3) rfl
  have HLA := Lib.hid (laid10_any (c := c) (secs := secs) (HG.out.below hb3 (Nat.le_refl _)) p s hsl (HARG.out.1.below hb3) (HARG.out.2.1.below hb3))
  have HAR3 := Lib.hid (HARG.out.2.2.below hb3)
  have HD3 := Lib.hid (keep_below hb3 HD2.out)
  clear h30 hb3 hg3 hp3
  go_wp2_with fail
  refine HLA.out.mono ?_
  intro e w4 hpost
  clear g0 g1 p0 p1 p2 p3 p4 p5 p6 p7 p8 p9 p10 p11 hd1
  unfold LdPost at hpost
  split at hpost
  case isFalse =>
    obtain ⟨xv, pq, rfl, hxv, hb4⟩ := hpost
    have HB4 := Lib.hid (keep_below hb4 HD3.out)
    clear hb4
    rcases hxv with rfl | ⟨y, _, _, _, _, rfl, _⟩
    · go_wp2_with fail
      go_ret
      exact ⟨rfl, keep_alloc (keep_alloc HB4.out _) _⟩
    · go_wp2_with fail
      go_ret
      exact ⟨rfl, keep_alloc (keep_alloc HB4.out _) _⟩
  case isTrue hyes =>
    obtain ⟨y, S, U, hv, rfl, hys, hysec, hV, hn32, hn0, hs200, hs24, hub, hhv, hyl, hb4⟩ := hpost
    subst hysec
    subst hys
    obtain ⟨Av, cv, rfl⟩ := hhv.form
    obtain ⟨aw, haw⟩ : ∃ aw, awT al y.bd.length y.bd.length = aw := ⟨_, rfl⟩
    obtain ⟨ds1, hds1⟩ : ∃ ds1, loT ll (wrAll y.gs y.secs (awT al y.bd.length 0) s (plsL (withSum p s)) (List.replicate y.bd.length (DevD.blank y.secs 0))) y.bd.length = ds1 := ⟨_, rfl⟩
    have hok : DsOk 128 y.secs ds1 := by
      rw [← hds1]
      exact loT_ok ((wrAll_ok _ _ (blanks_ok (by omega) (by omega))).mono (by have := plsL_len (withSum p s); omega)) _
    rw [haw, hds1] at hV
    obtain ⟨qd, hqd⟩ : ∃ qd, withSum p s = qd := ⟨_, rfl⟩
    have hqs : qd.sum = fsum s ∧ qd.size = (secN s : Int) := by rw [← hqd]; exact ⟨rfl, rfl⟩
    rw [hqd] at hyes
    rw [hqd]
    have HV := Lib.hid hV
    have HY := Lib.hid (And.intro hyes (And.intro hok hqs))
    have HU := Lib.hid hub
    have HB4 := Lib.hid hb4
    clear haw hds1 hok hqd hqs hV hyes hub hb4 hhv hyl hsl
    obtain ⟨w5, hw5⟩ : ∃ z, (w4.alloc (.cells y.cells 37)).alloc (.cells #[.int .i64 qd.ag, .int .i64 qd.aa, .int .i64 qd.bg, .int .i64 qd.ba, .bool qd.two, .int .i64 qd.size, .int .i64 qd.level, .int .i64 qd.birth, .int .u64 qd.s0, .int .u64 qd.s1, .int .u64 qd.s2, .int .u64 qd.s3] 31) = z := ⟨_, rfl⟩
    have hX5 : Blk w5 w4.heap.size 37 y.cells := by rw [← hw5]; exact (Blk.new _ _ _).alloc _
    have hP5 : Blk w5 (w4.heap.size + 1) 31 #[.int .i64 qd.ag, .int .i64 qd.aa, .int .i64 qd.bg, .int .i64 qd.ba, .bool qd.two, .int .i64 qd.size, .int .i64 qd.level, .int .i64 qd.birth, .int .u64 qd.s0, .int .u64 qd.s1, .int .u64 qd.s2, .int .u64 qd.s3] := by rw [← hw5]; exact Blk.new2 _ _ _ _
    have hb5 : Below w4.heap.size w4 w5 := by rw [← hw5]; exact keep_alloc (keep_alloc (Below.refl _ _) _) _
    obtain ⟨U1, hU1⟩ : ∃ U1, U1 = more U w4 w5 := ⟨_, rfl⟩
    have hV5 : VdIn w5 S U1 y aw ds1 := by rw [hU1]; exact HV.out.more hb5
    have hu1 : U1 w4.heap.size ∧ U1 (w4.heap.size + 1) ∧ ∀ b, b < w3.heap.size → U1 b := by rw [hU1]; exact ⟨.inr ⟨Nat.le_refl _, hX5.lt⟩, .inr ⟨Nat.le_succ _, hP5.lt⟩, fun b hb => .inl (HU.out b hb)⟩
    have hh5 := (HAR3.out.below HB4.out).below hb5
    have HV5 := Lib.hid hV5
    have HU1 := Lib.hid hu1
    have HH5 := Lib.hid hh5
    have HXP := Lib.hid (And.intro hX5 hP5)
    have HB5 := Lib.hid (keep_below hb5 (keep_below HB4.out HD3.out))
    have HW5 := Lib.hid hw5
    clear hU1 hV5 hu1 hh5 hX5 hP5 hb5 hw5
    go_wp2_with fail
    rw [HW5.out]
    go_loopw [17, 18] (fun t _ wr => ∃ k : Nat, k ≤ hl.length ∧ t = .int .i64 k ∧ VdIn wr S U1 y aw (hitAll ds1 (hl.take k)) ∧ Stays U1 w5 wr) (fun t _ _ => hl.length - (RowKit.intOf t).toNat)
    case atStart => exact ⟨0, Nat.zero_le _, rfl, HV5.out, stays_refl _⟩
    case round =>
      obtain ⟨k, hk, rfl, hVr, hst⟩ := hrel
      have hxr : Blk wr w4.heap.size 37 y.cells := (hst.heap HU1.out.1 HXP.out.1.lt).trans HXP.out.1
      have HVR := Lib.hid hVr
      have HST := Lib.hid hst
      have HXR := Lib.hid hxr
      by_cases hlt : k < hl.length
      · obtain ⟨x, hx⟩ : ∃ x, hl[k]? = some x := ⟨_, List.getElem?_eq_getElem hlt⟩
        have hts := take_snoc hx
        obtain ⟨dk, hdk⟩ : ∃ dk, hitAll ds1 (hl.take k) = dk := ⟨_, rfl⟩
        have hnx : hitAll ds1 (hl.take (k + 1)) = hitOne dk x := by rw [hts, hitAll_snoc, hdk]
        have hokk : DsOk 128 y.secs dk := by rw [← hdk]; exact hitAll_ok _ _ HY.out.2.1
        rw [hdk] at HVR
        obtain ⟨A', c', e0, e1, e2⟩ := HH5.out
        obtain ⟨bh, oh, e3, e4, e5⟩ := e2 (by omega)
        cases e0
        subst e3
        obtain ⟨t0, t1, t2, t3, hxok⟩ := e5 k x hx
        have hbh : bh < w3.heap.size := by
          obtain ⟨A'', c'', e6, e7, e8⟩ := HAR3.out
          obtain ⟨bh', oh', e9, e10, _⟩ := e8 (by omega)
          cases e6
          cases e9
          exact e10
        have hUh := HU1.out.2.2 bh hbh
        have heq : wr.heap[bh]? = w5.heap[bh]? := hst.heap hUh (HV5.out.us bh hUh)
        have s0 : wr.cell? ⟨bh, oh + k * 4, none⟩ = some (.int .i64 x.dev) := (cell_same' heq).trans t0
        have s1 : wr.cell? ⟨bh, oh + k * 4 + 1, none⟩ = some (.int .i64 x.at_) := (cell_same' heq).trans t1
        have s2 : wr.cell? ⟨bh, oh + k * 4 + 2, none⟩ = some (.int .i64 x.place) := (cell_same' heq).trans t2
        have s3 : wr.cell? ⟨bh, oh + k * 4 + 3, none⟩ = some (.int .u8 x.by_.toNat) := (cell_same' heq).trans t3
        have x2 := hxr.at_ (i := 2) (v := .slice (some ⟨y.lb, 0, none⟩) y.bd.length y.lc) rfl
        have hdc : decide (k < hl.length) = true := decide_eq_true hlt
        have HLT := Lib.hid hlt
        have hdl : dk.length = y.bd.length := HVR.out.n2
        clear t0 t1 t2 t3 e1 e2 e4 e5 hts hdk hx hst hVr hxr
        by_cases hin : 0 ≤ x.dev ∧ x.dev < y.bd.length
        · obtain ⟨dn, hdn⟩ := Int.eq_ofNat_of_zero_le hin.1
          have hdnl : dn < y.bd.length := by omega
          obtain ⟨b, hb⟩ : ∃ b, y.bd[dn]? = some b := ⟨_, List.getElem?_eq_getElem hdnl⟩
          have hone : hitOne dk x = spoilAt dk dn x.at_ x.place x.by_ := by unfold hitOne; rw [if_pos ⟨hin.1, by omega⟩, hdn, Int.toNat_natCast]
          have hsp := vspoil_any (HVR.out.same (w' := wr.drew) (Nat.le_refl _) (fun _ _ => rfl) (fun _ _ _ => rfl)) hokk (by decide) hb x.at_ x.place hxok.2.2 x.by_
          rw [← hone, ← hnx] at hsp
          have hrow := HVR.out.row dn b hb
          rw [hdn] at s0
          have hd2 : decide (dn < y.bd.length) = true := decide_eq_true hdnl
          have HSP := Lib.hid hsp
          obtain ⟨S0, hS0⟩ : ∃ S0 : World → Prop, S0 = fun W => ∀ g, (g = w4.heap.size ∨ g = y.lb ∨ g = bh) → W.heap[g]? = wr.heap[g]? := ⟨_, rfl⟩
          have f0 : ∀ W, S0 W → W.cell? ⟨w4.heap.size, 2, none⟩ = some (.slice (some ⟨y.lb, 0, none⟩) y.bd.length y.lc) := fun W h => by rw [hS0] at h; exact (cell_same' (h _ (.inl rfl))).trans x2
          have f1 : ∀ W, S0 W → W.cell? ⟨y.lb, dn, none⟩ = some (.pointer (some ⟨b, 0, none⟩)) := fun W h => by rw [hS0] at h; exact (cell_same' (h _ (.inr (.inl rfl)))).trans hrow
          have f2 : ∀ W, S0 W → W.cell? ⟨bh, oh + k * 4 + 1, none⟩ = some (.int .i64 x.at_) := fun W h => by rw [hS0] at h; exact (cell_same' (h _ (.inr (.inr rfl)))).trans s1
          have f3 : ∀ W, S0 W → W.cell? ⟨bh, oh + k * 4 + 2, none⟩ = some (.int .i64 x.place) := fun W h => by rw [hS0] at h; exact (cell_same' (h _ (.inr (.inr rfl)))).trans s2
          have f4 : ∀ W, S0 W → W.cell? ⟨bh, oh + k * 4 + 3, none⟩ = some (.int .u8 x.by_.toNat) := fun W h => by rw [hS0] at h; exact (cell_same' (h _ (.inr (.inr rfl)))).trans s3
          have hSw : S0 wr.drew := by rw [hS0]; exact fun _ _ => rfl
          have hSe : ∀ W, Stays U1 wr W → S0 W := fun W hW => by
            rw [hS0]
            intro g hg
            have hg' : U1 g := by
              rcases hg with rfl | rfl | rfl
              · exact HU1.out.1
              · exact HVR.out.ul
              · exact hUh
            exact hW.heap hg' (HVR.out.us g hg')
          have HSE := Lib.hid hSe
          clear hone hsp hS0 hSe hin hdn hnx hokk hxok hbh hUh heq hb s1 s2 s3 hrow
          go_wp2_with fail
          refine wp_region_effA S0 [20] (by kernel_rfl) (by kernel_rfl) (by kernel_rfl) hSw ?_
          refine wpLexE_take 20 (by kernel_rfl) (by kernel_rfl) ?_
          simp only [List.take_succ_cons, List.take_zero, List.drop_succ_cons, List.drop_zero]
          repeat (first
            | go_big_quiet_skip
            | (go_big_quiet_want
               go_big_quiet_op
               first
                 | go_big_quiet_on
                 | (apply Exists.intro
                    refine ⟨fun W hW => ?_, ?_⟩
                    · first
                        | exact rfl
                        | exact ⟨rfl, rfl⟩
                        | (have e0 := f0 W hW; have e1 := f1 W hW; have e2 := f2 W hW; have e3 := f3 W hW; have e4 := f4 W hW; simp only [e0, e1, e2, e3, e4, Result.andThen_ok]; done)
                        | (have e0 := f0 W hW; have e1 := f1 W hW; have e2 := f2 W hW; have e3 := f3 W hW; have e4 := f4 W hW; simp only [e0, e1, e2, e3, e4, Result.andThen_ok]; first | exact ⟨trivial, rfl⟩ | exact rfl | exact ⟨rfl, rfl⟩)
                        | (skip)
                    go_big_quiet_on)))
          refine wpQuiet_nil ?_
          show wpLexE _ _ _ _ _ _ _ _ _
          refine wpLexE_eff (by kernel_rfl) rfl ?_
          clear f0 f1 f2 f3 f4
          go_wp2_with fail
          refine HSP.out.mono ?_
          rintro e w6 ⟨⟨r, rfl⟩, hV6, hst6⟩
          have hst6' : Stays U1 wr w6 := ⟨hst6.os, hst6.tape, hst6.output, hst6.size, hst6.block⟩
          have hS6 := HSE.out w6 hst6'
          have HF := Lib.hid (And.intro hV6 (HST.out.trans hst6'))
          clear hV6 hst6 hst6' hSw HSP
          go_wp2_with fail
          refine ⟨rfl, hS6, ?_⟩
          unfold wpLexE
          clear hS6
          go_wp2_with fail
          go_roundw
          case rel => exact ⟨k + 1, HLT.out, by go_num, HF.out.1, HF.out.2⟩
          case measure => have := HLT.out; simp [RowKit.intOf]; omega
        · have hone : hitOne dk x = dk := by unfold hitOne; rw [if_neg (fun h => hin ⟨h.1, by omega⟩)]
          have HF : Hid (VdIn wr S U1 y aw (hitAll ds1 (hl.take (k + 1))) ∧ Stays U1 w5 wr) := Lib.hid ⟨by rw [hnx, hone]; exact HVR.out, HST.out⟩
          clear hone hnx hokk hxok hbh hUh heq s1 s2 s3
          by_cases h0 : 0 ≤ x.dev
          · have hd2 : decide (x.dev < (y.bd.length : Int)) = false := decide_eq_false (fun h => hin ⟨h0, h⟩)
            have hd3 : decide (0 ≤ x.dev) = true := decide_eq_true h0
            clear hin h0
            go_wp2_with fail
            go_roundw
            case rel => exact ⟨k + 1, HLT.out, by go_num, HF.out.1, HF.out.2⟩
            case measure => have := HLT.out; simp [RowKit.intOf]; omega
          · have hd3 : decide (0 ≤ x.dev) = false := decide_eq_false h0
            clear hin h0
            go_wp2_with fail
            go_roundw
            case rel => exact ⟨k + 1, HLT.out, by go_num, HF.out.1, HF.out.2⟩
            case measure => have := HLT.out; simp [RowKit.intOf]; omega
      · obtain rfl : k = hl.length := by omega
        have hdc : decide ((hl.length : Int) < hl.length) = false := decide_eq_false (by omega)
        rename World => wb
        obtain ⟨D, hD⟩ : ∃ D, hitAll ds1 hl = D := ⟨_, rfl⟩
        rw [List.take_length, hD] at hVr
        have hokD : DsOk 128 y.secs D := by rw [← hD]; exact hitAll_ok _ _ HY.out.2.1
        have hpr : Blk wb (w4.heap.size + 1) 31 #[.int .i64 qd.ag, .int .i64 qd.aa, .int .i64 qd.bg, .int .i64 qd.ba, .bool qd.two, .int .i64 qd.size, .int .i64 qd.level, .int .i64 qd.birth, .int .u64 qd.s0, .int .u64 qd.s1, .int .u64 qd.s2, .int .u64 qd.s3] := (hst.heap HU1.out.2.1 HXP.out.2.lt).trans HXP.out.2
        have hlk := look_any hVr (by omega) hokD qd
        obtain ⟨⟨ct, cpl, cdv, cfx⟩, er, hlv⟩ : ∃ c er, lookV y.gs y.secs qd (rawP y.gs y.secs qd.size aw D) = (c, er) := ⟨_, _, rfl⟩
        obtain ⟨⟨dt, dpl, ddv, dfx⟩, hlv2, hdt⟩ := look_again hVr.right hVr.nd hVr.n2 hokD hlv
        dsimp only at hdt
        subst hdt
        have hfnd : er = 0 → fsum dt = qd.sum ∧ dt.length = s.length := fun he => by
          subst he
          have h1 := look_found HY.out.1.2.2.2.2 hokD hlv
          refine ⟨h1.1, h1.2.trans ?_⟩
          have := HY.out.1.2.1
          rw [HY.out.2.2.2]
          unfold secN
          omega
        have herr : er ≠ 0 → dt = [] := fun he => congrArg CameD.text (look_err hlv he)
        have hrd := fun (U' : Nat → Prop) (W : World) (hW : VdIn W S U' y aw D) => read10_any hW (by omega) hokD (by decide) qd
        obtain ⟨D2, hD2⟩ : ∃ D2, readD false y.gs y.secs aw qd D = D2 := ⟨_, rfl⟩
        have hokD2 : DsOk 256 y.secs D2 := by rw [← hD2]; exact readD_ok hokD
        rw [hD2] at hlv2 hrd
        have hsc := fun (S' : Nat → Nat → Prop) (U' : Nat → Prop) (W : World) (hW : VdIn W S' U' y aw D2) => scrub10_any hW (by omega) hokD2 (by decide) qd
        rw [hlv] at hlk
        simp only [hlv] at hrd
        simp only [hlv2] at hsc
        obtain ⟨n1, hn1⟩ : ∃ n1, readN false y.gs y.secs aw qd D = n1 := ⟨_, rfl⟩
        obtain ⟨n2, hn2⟩ : ∃ n2, readN true y.gs y.secs aw qd D2 = n2 := ⟨_, rfl⟩
        rw [hn1] at hrd
        rw [hn2] at hsc
        dsimp only [CameD.cells] at hlk hrd hsc
        have HLK := Lib.hid hlk
        have HRD := Lib.hid hrd
        have HSC := Lib.hid hsc
        have HFN := Lib.hid (And.intro hfnd herr)
        have HVB := Lib.hid hVr
        have HXB := Lib.hid (And.intro hxr hpr)
        have x0 := (hxr).at_ (i := 0) (v := .slice (some ⟨y.gb, 0, none⟩) y.m y.cc) rfl
        have x1 := (hxr).at_ (i := 1) (v := .int .i64 y.secs) rfl
        have x2 := (hxr).at_ (i := 2) (v := .slice (some ⟨y.lb, 0, none⟩) y.bd.length y.lc) rfl
        have x3 := (hxr).at_ (i := 3) (v := .slice (some ⟨y.ab, 0, none⟩) y.bd.length y.bd.length) rfl
        have p0 := (hpr).at_ (i := 0) (v := .int .i64 (qd).ag) rfl
        have p1 := (hpr).at_ (i := 1) (v := .int .i64 (qd).aa) rfl
        have p2 := (hpr).at_ (i := 2) (v := .int .i64 (qd).bg) rfl
        have p3 := (hpr).at_ (i := 3) (v := .int .i64 (qd).ba) rfl
        have p4 := (hpr).at_ (i := 4) (v := .bool (qd).two) rfl
        have p5 := (hpr).at_ (i := 5) (v := .int .i64 (qd).size) rfl
        have p6 := (hpr).at_ (i := 6) (v := .int .i64 (qd).level) rfl
        have p7 := (hpr).at_ (i := 7) (v := .int .i64 (qd).birth) rfl
        have p8 := (hpr).at_ (i := 8) (v := .int .u64 (qd).s0) rfl
        have p9 := (hpr).at_ (i := 9) (v := .int .u64 (qd).s1) rfl
        have p10 := (hpr).at_ (i := 10) (v := .int .u64 (qd).s2) rfl
        have p11 := (hpr).at_ (i := 11) (v := .int .u64 (qd).s3) rfl
        clear hlv hlv2 hlk hrd hsc hfnd herr hn1 hn2 hD hD2 hokD hokD2 hVr hxr hpr hst HVR HXR
        go_wp2_with fail
        refine HLK.out.mono ?_
        rintro e w6 ⟨rfl, hb6⟩
        obtain ⟨w7, hw7⟩ : ∃ z, w6.alloc (.cells #[str dt, .int .i64 cpl, .int .i64 cdv, .int .i64 cfx] 45) = z := ⟨_, rfl⟩
        have hb67 : Below w6.heap.size w6 w7 := by rw [← hw7]; exact keep_alloc (Below.refl _ _) _
        have hb7 : Below wb.heap.size wb w7 := keep_below hb67 hb6
        have ha7 : Blk w7 w6.heap.size 45 #[str dt, .int .i64 cpl, .int .i64 cdv, .int .i64 cfx] := by rw [← hw7]; exact Blk.new _ _ _
        obtain ⟨U2, hU2⟩ : ∃ U2, U2 = more U1 wb w7 := ⟨_, rfl⟩
        have hV7 : VdIn w7 S U2 y aw D := by rw [hU2]; exact HVB.out.more hb7
        have hu2 : U2 w6.heap.size ∧ ∀ b, U1 b → U2 b := by rw [hU2]; exact ⟨.inr ⟨hb6.size, ha7.lt⟩, fun b hb => .inl hb⟩
        have hx7 := HXB.out.1.below hb7 HXB.out.1.lt
        have hp7 := HXB.out.2.below hb7 HXB.out.2.lt
        have HR := Lib.hid (HRD.out U2 w7 hV7)
        clear x0 x1 x2 x3 p0 p1 p2 p3 p4 p5 p6 p7 p8 p9 p10 p11
        have x0 := (hx7).at_ (i := 0) (v := .slice (some ⟨y.gb, 0, none⟩) y.m y.cc) rfl
        have x1 := (hx7).at_ (i := 1) (v := .int .i64 y.secs) rfl
        have x2 := (hx7).at_ (i := 2) (v := .slice (some ⟨y.lb, 0, none⟩) y.bd.length y.lc) rfl
        have x3 := (hx7).at_ (i := 3) (v := .slice (some ⟨y.ab, 0, none⟩) y.bd.length y.bd.length) rfl
        have p0 := (hp7).at_ (i := 0) (v := .int .i64 (qd).ag) rfl
        have p1 := (hp7).at_ (i := 1) (v := .int .i64 (qd).aa) rfl
        have p2 := (hp7).at_ (i := 2) (v := .int .i64 (qd).bg) rfl
        have p3 := (hp7).at_ (i := 3) (v := .int .i64 (qd).ba) rfl
        have p4 := (hp7).at_ (i := 4) (v := .bool (qd).two) rfl
        have p5 := (hp7).at_ (i := 5) (v := .int .i64 (qd).size) rfl
        have p6 := (hp7).at_ (i := 6) (v := .int .i64 (qd).level) rfl
        have p7 := (hp7).at_ (i := 7) (v := .int .i64 (qd).birth) rfl
        have p8 := (hp7).at_ (i := 8) (v := .int .u64 (qd).s0) rfl
        have p9 := (hp7).at_ (i := 9) (v := .int .u64 (qd).s1) rfl
        have p10 := (hp7).at_ (i := 10) (v := .int .u64 (qd).s2) rfl
        have p11 := (hp7).at_ (i := 11) (v := .int .u64 (qd).s3) rfl
        rw [← hw7] at x0 x1 x2 x3 p0 p1 p2 p3 p4 p5 p6 p7 p8 p9 p10 p11
        have HW7 := Lib.hid hw7
        have H7 := Lib.hid (And.intro hb7 (And.intro ha7 (And.intro hu2 (And.intro hx7 (And.intro hp7 hV7.us)))))
        clear hw7 hb67 hb7 ha7 hU2 hV7 hu2 hx7 hp7 hb6 HRD
        go_wp2_with fail
        rw [HW7.out]
        refine HR.out.mono ?_
        rintro e w8 ⟨rfl, ⟨S8, hV8⟩, hst8⟩
        obtain ⟨w9, hw9⟩ : ∃ z, w8.alloc (.cells #[str dt, .int .i64 cpl, .int .i64 cdv, .int .i64 n1] 45) = z := ⟨_, rfl⟩
        have hb9 : Below w8.heap.size w8 w9 := by rw [← hw9]; exact keep_alloc (Below.refl _ _) _
        have hc9 : Blk w9 w8.heap.size 45 #[str dt, .int .i64 cpl, .int .i64 cdv, .int .i64 n1] := by rw [← hw9]; exact Blk.new _ _ _
        obtain ⟨U3, hU3⟩ : ∃ U3, U3 = more U2 w8 w9 := ⟨_, rfl⟩
        have hV9 : VdIn w9 S8 U3 y aw D2 := by rw [hU3]; exact hV8.more hb9
        have hu3 : U3 w8.heap.size ∧ ∀ b, U2 b → U3 b := by rw [hU3]; exact ⟨.inr ⟨Nat.le_refl _, hc9.lt⟩, fun b hb => .inl hb⟩
        have hk : ∀ {g : Nat} {t : TypeId} {cs : Array Value}, U2 g → Blk w7 g t cs → Blk w9 g t cs := fun {g t cs} hg h => by
          have h8 : Blk w8 g t cs := (hst8.heap hg h.lt).trans h
          exact h8.below hb9 h8.lt
        have ha9 := hk H7.out.2.2.1.1 H7.out.2.1
        have hx9 := hk (H7.out.2.2.1.2 _ HU1.out.1) H7.out.2.2.2.1
        have hp9 := hk (H7.out.2.2.1.2 _ HU1.out.2.1) H7.out.2.2.2.2.1
        have HS := Lib.hid (HSC.out S8 U3 w9 hV9)
        clear x0 x1 x2 x3 p0 p1 p2 p3 p4 p5 p6 p7 p8 p9 p10 p11
        have x0 := (hx9).at_ (i := 0) (v := .slice (some ⟨y.gb, 0, none⟩) y.m y.cc) rfl
        have x1 := (hx9).at_ (i := 1) (v := .int .i64 y.secs) rfl
        have x2 := (hx9).at_ (i := 2) (v := .slice (some ⟨y.lb, 0, none⟩) y.bd.length y.lc) rfl
        have x3 := (hx9).at_ (i := 3) (v := .slice (some ⟨y.ab, 0, none⟩) y.bd.length y.bd.length) rfl
        have p0 := (hp9).at_ (i := 0) (v := .int .i64 (qd).ag) rfl
        have p1 := (hp9).at_ (i := 1) (v := .int .i64 (qd).aa) rfl
        have p2 := (hp9).at_ (i := 2) (v := .int .i64 (qd).bg) rfl
        have p3 := (hp9).at_ (i := 3) (v := .int .i64 (qd).ba) rfl
        have p4 := (hp9).at_ (i := 4) (v := .bool (qd).two) rfl
        have p5 := (hp9).at_ (i := 5) (v := .int .i64 (qd).size) rfl
        have p6 := (hp9).at_ (i := 6) (v := .int .i64 (qd).level) rfl
        have p7 := (hp9).at_ (i := 7) (v := .int .i64 (qd).birth) rfl
        have p8 := (hp9).at_ (i := 8) (v := .int .u64 (qd).s0) rfl
        have p9 := (hp9).at_ (i := 9) (v := .int .u64 (qd).s1) rfl
        have p10 := (hp9).at_ (i := 10) (v := .int .u64 (qd).s2) rfl
        have p11 := (hp9).at_ (i := 11) (v := .int .u64 (qd).s3) rfl
        rw [← hw9] at x0 x1 x2 x3 p0 p1 p2 p3 p4 p5 p6 p7 p8 p9 p10 p11
        have HW9 := Lib.hid hw9
        have H9 := Lib.hid (And.intro ha9 (And.intro hc9 (And.intro hu3 (And.intro hp9 (And.intro hst8 hb9)))))
        clear hw9 hb9 hc9 hU3 hV9 hu3 hk ha9 hx9 hp9 hV8 hst8 HSC HR
        go_wp2_with fail
        rw [HW9.out]
        refine HS.out.mono ?_
        rintro e w10 ⟨rfl, _, hst10⟩
        obtain ⟨w11, hw11⟩ : ∃ z, w10.alloc (.cells #[str dt, .int .i64 dpl, .int .i64 ddv, .int .i64 n2] 45) = z := ⟨_, rfl⟩
        have hb11 : Below w10.heap.size w10 w11 := by rw [← hw11]; exact keep_alloc (Below.refl _ _) _
        have hk : ∀ {g : Nat} {t : TypeId} {cs : Array Value}, U3 g → Blk w9 g t cs → Blk w11 g t cs := fun {g t cs} hg h => by
          have h8 : Blk w10 g t cs := (hst10.heap hg h.lt).trans h
          exact h8.below hb11 h8.lt
        have ha11 := hk (H9.out.2.2.1.2 _ H7.out.2.2.1.1) H9.out.1
        have hc11 := hk H9.out.2.2.1.1 H9.out.2.1
        have hp11 := hk (H9.out.2.2.1.2 _ (H7.out.2.2.1.2 _ HU1.out.2.1)) H9.out.2.2.2.1
        have hd11 : Blk w11 w10.heap.size 45 #[str dt, .int .i64 dpl, .int .i64 ddv, .int .i64 n2] := by rw [← hw11]; exact Blk.new _ _ _
        have hbf : Below w.heap.size w w11 := by
          have b5 := HB5.out
          have hu : ∀ i, i < w.heap.size → U1 i := fun i hi => HU1.out.2.2 i (by have := HD3.out.size; omega)
          have b6 : Below w.heap.size w wb := b5.trans (HST.out.below b5.size hu)
          have b7 : Below w.heap.size w w7 := b6.trans (H7.out.1.mono b6.size)
          have b8 : Below w.heap.size w w8 := b7.trans (H9.out.2.2.2.2.1.below b7.size (fun i hi => H7.out.2.2.1.2 i (hu i hi)))
          have b9 : Below w.heap.size w w9 := b8.trans (H9.out.2.2.2.2.2.mono b8.size)
          have b10 : Below w.heap.size w w10 := b9.trans (hst10.below b9.size (fun i hi => H9.out.2.2.1.2 i (H7.out.2.2.1.2 i (hu i hi))))
          exact b10.trans (hb11.mono b10.size)
        clear x0 x1 x2 x3 p0 p1 p2 p3 p4 p5 p6 p7 p8 p9 p10 p11
        have a0 := ha11.at_ (i := 0) (v := str dt) rfl
        have c0 := hc11.at_ (i := 0) (v := str dt) rfl
        have d0 := hd11.at_ (i := 0) (v := str dt) rfl
        have p8 := hp11.at_ (i := 8) (v := .int .u64 qd.s0) rfl
        have p9 := hp11.at_ (i := 9) (v := .int .u64 qd.s1) rfl
        have p10 := hp11.at_ (i := 10) (v := .int .u64 qd.s2) rfl
        have p11 := hp11.at_ (i := 11) (v := .int .u64 qd.s3) rfl
        rw [← hw11] at a0 c0 d0 p8 p9 p10 p11
        have HF := Lib.hid (And.intro hbf hp11)
        have HW11 := Lib.hid hw11
        have hdd : (dt != dt) = false := by simp
        clear hw11 hb11 hk ha11 hc11 hp11 hd11 hbf hst10 HS
        by_cases her : er = 0
        · obtain ⟨hs1, hs2⟩ := HFN.out.1 her
          subst her
          have HSM := Lib.hid (fsum_any dt (by have := HY.out.1.1; omega) w11)
          have HEQ : ∀ X, (binOp .eql 29 (.agg (fcells (fsum dt))) (.agg #[.int .u64 qd.s0, .int .u64 qd.s1, .int .u64 qd.s2, .int .u64 qd.s3])).run Tryz.prog X = .ok (.bool true) X := fun X => by
            have := eql_sum (fsum dt) qd.sum X
            rw [hs1, beq_self_eq_true] at this
            rw [hs1]
            exact this
          obtain ⟨F, hF⟩ : ∃ F, fsum dt = F := ⟨_, rfl⟩
          rw [hF] at HSM
          simp only [hF] at HEQ
          have hln : ((dt.length : Int) == (s.length : Int)) = true := by rw [hs2]; simp
          have HSM' := Lib.hid (fun W => fsum_any dt (by have := HY.out.1.1; omega) W)
          simp only [hF] at HSM'
          clear hs1 hs2 hF HSM
          go_wp2_with fail
          rw [HW11.out]
          rw [HW11.out] at a0 p8 p9 p10 p11
          obtain ⟨C, hCd, hCw, hCB, hCK, hCD⟩ := cls_below w11
          have f0 : ∀ W, C W → W.cell? ⟨w6.heap.size, 0, none⟩ = some (str dt) := fun W h => keepc a0 (hCB W h)
          have f8 : ∀ W, C W → W.cell? ⟨w4.heap.size + 1, 8, none⟩ = some (.int .u64 qd.s0) := fun W h => keepc p8 (hCB W h)
          have f9 : ∀ W, C W → W.cell? ⟨w4.heap.size + 1, 9, none⟩ = some (.int .u64 qd.s1) := fun W h => keepc p9 (hCB W h)
          have f10 : ∀ W, C W → W.cell? ⟨w4.heap.size + 1, 10, none⟩ = some (.int .u64 qd.s2) := fun W h => keepc p10 (hCB W h)
          have f11 : ∀ W, C W → W.cell? ⟨w4.heap.size + 1, 11, none⟩ = some (.int .u64 qd.s3) := fun W h => keepc p11 (hCB W h)
          have HC := Lib.hid (And.intro hCB (And.intro hCK hCd))
          clear a0 c0 d0 p8 p9 p10 p11 hCw hCB hCK hCD hdd
          refine Pl.wp_region_plan C [13] (Pl.Plan.seg 0 13 (.op 13 (Pl.Plan.seg 14 14 .done))) (by kernel_rfl) (by kernel_rfl) hCd ?_
          refine Pl.wpPlan_take (k := 0) 13 (by kernel_rfl) (by kernel_rfl) ?_
          simp only [List.take_succ_cons, List.take_zero, List.drop_succ_cons, List.drop_zero]
          repeat (first
            | go_big_quiet_skip
            | (go_big_quiet_want
               go_big_quiet_op
               first
                 | go_big_quiet_on
                 | (apply Exists.intro
                    refine ⟨fun W hW => ?_, ?_⟩
                    · first
                        | exact rfl
                        | exact ⟨rfl, rfl⟩
                        | (have e0 := f0 W hW; simp only [e0, Result.andThen_ok]; done)
                        | (have e0 := f0 W hW; simp only [e0, Result.andThen_ok]; first | exact ⟨trivial, rfl⟩ | exact rfl | exact ⟨rfl, rfl⟩)
                        | (skip)
                    go_big_quiet_on)))
          refine wpQuiet_nil ?_
          refine Pl.efOp_any rfl rfl ?_
          go_wp2_with fail
          refine (HSM'.out _).mono ?_
          rintro e w12 ⟨rfl, hb12⟩
          have hC12 : C w12 := HC.out.2.1 _ _ HC.out.2.2 hb12
          have HB12 := Lib.hid (HF.out.1.trans ((HC.out.1 _ hC12).mono HF.out.1.size))
          clear hb12
          go_wp2_with fail
          refine ⟨rfl, hC12, ?_⟩
          refine Pl.wpPlan_take (k := 14) 14 (by kernel_rfl) (by kernel_rfl) ?_
          simp only [List.take_succ_cons, List.take_zero, List.drop_succ_cons, List.drop_zero]
          repeat (first
            | go_big_quiet_skip
            | (go_big_quiet_want
               go_big_quiet_op
               first
                 | go_big_quiet_on
                 | (apply Exists.intro
                    refine ⟨fun W hW => ?_, ?_⟩
                    · first
                        | exact rfl
                        | exact ⟨rfl, rfl⟩
                        | (have e0 := f0 W hW; have e1 := f8 W hW; have e2 := f9 W hW; have e3 := f10 W hW; have e4 := f11 W hW; simp only [e0, e1, e2, e3, e4, Result.andThen_ok]; done)
                        | (have e0 := f0 W hW; have e1 := f8 W hW; have e2 := f9 W hW; have e3 := f10 W hW; have e4 := f11 W hW; simp only [e0, e1, e2, e3, e4, Result.andThen_ok]; first | exact ⟨trivial, rfl⟩ | exact rfl | exact ⟨rfl, rfl⟩)
                        | (skip)
                    go_big_quiet_on)))
          refine wpQuiet_nil ?_
          simp only [Pl.wpPlan]
          clear f0 f8 f9 f10 f11 hCd hC12
          go_wp2_with fail
          go_ret
          exact ⟨rfl, HB12.out⟩
        · have hdt := HFN.out.2 her
          subst hdt
          have hne : (er != 0) = true := bne_iff_ne.2 her
          have hne2 : (er == 0) = false := beq_eq_false_iff_ne.2 her
          have hne3 : (er != er) = false := by simp
          clear her
          go_wp2_with fail
          rw [HW11.out]
          rw [HW11.out] at a0
          obtain ⟨C, hCd, hCw, hCB, hCK, hCD⟩ := cls_below w11
          have f0 : ∀ W, C W → W.cell? ⟨w6.heap.size, 0, none⟩ = some (str []) := fun W h => keepc a0 (hCB W h)
          have HC := Lib.hid hCB
          clear a0 c0 d0 p8 p9 p10 p11 hCw hCB hCK hCD hdd
          refine wp_region_cls C (by kernel_rfl) (by kernel_rfl) hCd ?_
          repeat (first
            | go_big_quiet_skip
            | (go_big_quiet_want
               go_big_quiet_op
               first
                 | go_big_quiet_on
                 | (apply Exists.intro
                    refine ⟨fun W hW => ?_, ?_⟩
                    · first
                        | exact rfl
                        | exact ⟨rfl, rfl⟩
                        | (have e0 := f0 W hW; simp only [e0, Result.andThen_ok]; done)
                        | (have e0 := f0 W hW; simp only [e0, Result.andThen_ok]; first | exact ⟨trivial, rfl⟩ | exact rfl | exact ⟨rfl, rfl⟩)
                        | (skip)
                    go_big_quiet_on)))
          refine wpQuiet_nil ?_
          intro wz hwz
          have HBZ := Lib.hid (HF.out.1.trans ((HC.out wz hwz).mono HF.out.1.size))
          clear f0 hCd hwz
          go_wp2_with fail
          go_ret
          exact ⟨rfl, HBZ.out⟩
end Go.Proofs.YtbhkbcpljakmjaaGreat
