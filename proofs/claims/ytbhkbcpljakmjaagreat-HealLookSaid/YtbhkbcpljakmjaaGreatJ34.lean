/-
  The statement HealLook, walked.
-/
import Derived.Test.YtbhkbcpljakmjaaGreatJ30
import Derived.Test.YtbhkbcpljakmjaaGreatJ31
import Derived.Test.YtbhkbcpljakmjaaGreatJ32
import Derived.Test.YtbhkbcpljakmjaaGreatJ33
namespace Go.Proofs.YtbhkbcpljakmjaaGreat
set_option linter.unusedVariables false
set_option linter.unusedSimpArgs false
open Go.RowKit

theorem ptF {W : World} {g : Nat} {q : PtrD} (h : Blk W g 31 #[.int .i64 q.ag, .int .i64 q.aa, .int .i64 q.bg, .int .i64 q.ba, .bool q.two, .int .i64 q.size, .int .i64 q.level, .int .i64 q.birth, .int .u64 q.s0, .int .u64 q.s1, .int .u64 q.s2, .int .u64 q.s3]) : W.cell? ⟨g, 0, none⟩ = some (.int .i64 q.ag) ∧ W.cell? ⟨g, 1, none⟩ = some (.int .i64 q.aa) ∧ W.cell? ⟨g, 2, none⟩ = some (.int .i64 q.bg) ∧ W.cell? ⟨g, 3, none⟩ = some (.int .i64 q.ba) ∧ W.cell? ⟨g, 4, none⟩ = some (.bool q.two) ∧ W.cell? ⟨g, 5, none⟩ = some (.int .i64 q.size) ∧ W.cell? ⟨g, 6, none⟩ = some (.int .i64 q.level) ∧ W.cell? ⟨g, 7, none⟩ = some (.int .i64 q.birth) ∧ W.cell? ⟨g, 8, none⟩ = some (.int .u64 q.s0) ∧ W.cell? ⟨g, 9, none⟩ = some (.int .u64 q.s1) ∧ W.cell? ⟨g, 10, none⟩ = some (.int .u64 q.s2) ∧ W.cell? ⟨g, 11, none⟩ = some (.int .u64 q.s3) :=
  ⟨h.at_ (i := 0) rfl, h.at_ (i := 1) rfl, h.at_ (i := 2) rfl, h.at_ (i := 3) rfl, h.at_ (i := 4) rfl, h.at_ (i := 5) rfl, h.at_ (i := 6) rfl, h.at_ (i := 7) rfl, h.at_ (i := 8) rfl, h.at_ (i := 9) rfl, h.at_ (i := 10) rfl, h.at_ (i := 11) rfl⟩
theorem vxF {W : World} {g : Nat} {y : VX} (h : Blk W g 37 y.cells) : W.cell? ⟨g, 0, none⟩ = some (.slice (some ⟨y.gb, 0, none⟩) y.m y.cc) ∧ W.cell? ⟨g, 1, none⟩ = some (.int .i64 y.secs) ∧ W.cell? ⟨g, 2, none⟩ = some (.slice (some ⟨y.lb, 0, none⟩) y.bd.length y.lc) ∧ W.cell? ⟨g, 3, none⟩ = some (.slice (some ⟨y.ab, 0, none⟩) y.bd.length y.bd.length) :=
  ⟨h.at_ (i := 0) rfl, h.at_ (i := 1) rfl, h.at_ (i := 2) rfl, h.at_ (i := 3) rfl⟩
set_option maxRecDepth 20000 in
set_option maxHeartbeats 8000000 in
theorem healLook_any (A : Option Addr) (m c : Nat) (gs : List (Int × Int)) (secs : Int) (p : PtrD) (s : List UInt8) (hsl : s.length ≤ 9223372036854775807) {hv : Value} {hl : List HitD} {w : World} (hg : GeoAt w A m gs) (hh : HitsAt w hv hl) :
    Calls Tryz.prog 7 #[.agg #[.slice A m c, .int .i64 secs], .agg #[.int .i64 p.ag, .int .i64 p.aa, .int .i64 p.bg, .int .i64 p.ba, .bool p.two, .int .i64 p.size, .int .i64 p.level, .int .i64 p.birth, .int .u64 p.s0, .int .u64 p.s1, .int .u64 p.s2, .int .u64 p.s3], str s, hv] w fun e w' => e = .returned (.bool true) ∧ Below w.heap.size w w' := by
  obtain ⟨Ah, ch, rfl⟩ := hh.form
  obtain ⟨w2, hw2⟩ : ∃ z, (w.alloc (.cells #[.slice A m c, .int .i64 secs] 24)).alloc (.cells #[.int .i64 p.ag, .int .i64 p.aa, .int .i64 p.bg, .int .i64 p.ba, .bool p.two, .int .i64 p.size, .int .i64 p.level, .int .i64 p.birth, .int .u64 p.s0, .int .u64 p.s1, .int .u64 p.s2, .int .u64 p.s3] 31) = z := ⟨_, rfl⟩
  have B1 : Blk w2 w.heap.size 24 #[.slice A m c, .int .i64 secs] := by rw [← hw2]; exact (Blk.new _ _ _).alloc _
  have B2 : Blk w2 (w.heap.size + 1) 31 #[.int .i64 p.ag, .int .i64 p.aa, .int .i64 p.bg, .int .i64 p.ba, .bool p.two, .int .i64 p.size, .int .i64 p.level, .int .i64 p.birth, .int .u64 p.s0, .int .u64 p.s1, .int .u64 p.s2, .int .u64 p.s3] := by rw [← hw2]; exact Blk.new2 _ _ _ _
  have D2 : Below w.heap.size w w2 := by rw [← hw2]; exact keep_alloc (keep_alloc (Below.refl _ _) _) _
  have HB2 := Lib.hid (And.intro B1 B2)
  have HD2 := Lib.hid D2
  have HW2 := Lib.hid hw2
  have HARG := Lib.hid (hh.below D2)
  have HG := Lib.hid (hg.below D2 (Nat.le_refl _))
  clear hh hg B1 B2 D2 hw2
  go_enter Tryz.func7, Tryz.ntmps7
  go_wp2_with fail
  rw [HW2.out]
  refine (awake10_any w2).mono ?_
  rintro e w3 ⟨rfl, hb3⟩
  have HB3 := Lib.hid hb3
  by_cases h30 : 30 < hl.length
  · have hd1 : decide ((30 : Int) < hl.length) = true := decide_eq_true (by omega)
    clear h30 hb3
    go_wp2_with fail
    refine (awake10_any w3).mono ?_
    rintro e w4 ⟨rfl, hb4⟩
    have HB4 := Lib.hid (keep_below (keep_below hb4 HB3.out) HD2.out)
    clear hb4
    go_wp2_with fail
    go_ret
    exact ⟨rfl, HB4.out⟩
  have hd1 : decide ((30 : Int) < hl.length) = false := decide_eq_false (by omega)
  have hl30 : hl.length ≤ 30 := by omega
  have hg3 := HB2.out.1.below hb3 HB2.out.1.lt
  have hp3 := HB2.out.2.below hb3 HB2.out.2.lt
  have g0 := hg3.at_ (i := 0) (v := .slice A m c) rfl
  have g1 := hg3.at_ (i := 1) (v := .int .i64 secs) rfl
  obtain ⟨p0, p1, p2, p3, p4, p5, p6, p7, p8, p9, p10, p11⟩ := ptF (hp3)
  have hnil : SlAt w3 (.slice none 0 0) ([] : List Bool).length (boolC []) := ⟨none, 0, rfl, Nat.le_refl _, fun h => absurd h (by decide)⟩
  have HLA := Lib.hid (laid10_any (c := c) (secs := secs) (HG.out.below hb3 (Nat.le_refl _)) p s hsl hnil hnil)
  have HAR3 := Lib.hid (HARG.out.below hb3)
  have HD3 := Lib.hid (keep_below hb3 HD2.out)
  clear h30 hb3 hg3 hp3 hnil
  go_wp2_with fail
  refine HLA.out.mono ?_
  intro e w4 hpost
  clear g0 g1 p0 p1 p2 p3 p4 p5 p6 p7 p8 p9 p10 p11 hd1
  unfold LdPost at hpost
  split at hpost
  case isFalse =>
    obtain ⟨xv, pq, rfl, hxv, hb4⟩ := hpost
    have HB4 := Lib.hid (keep_below hb4 HD3.out)
    clear hb4
    rcases hxv with rfl | ⟨y, _, _, _, _, rfl, _⟩
    · go_wp2_with fail
      go_ret
      exact ⟨rfl, keep_alloc (keep_alloc HB4.out _) _⟩
    · go_wp2_with fail
      go_ret
      exact ⟨rfl, keep_alloc (keep_alloc HB4.out _) _⟩
  case isTrue hyes =>
    obtain ⟨y, S, U, hv, rfl, hys, hysec, hV, hn32, hn0, hs200, hs24, hub, hhv, hyl, hb4⟩ := hpost
    subst hysec
    subst hys
    obtain ⟨Av, cv, rfl⟩ := hhv.form
    obtain ⟨qd, hqd⟩ : ∃ qd, withSum p s = qd := ⟨_, rfl⟩
    have hqs : fsum s = qd.sum ∧ (secN s : Int) = qd.size := by rw [← hqd]; exact ⟨rfl, rfl⟩
    rw [hqd] at hyes hV
    rw [hqd]
    have hmA : cMay y.gs y.secs qd.ag qd.aa qd.size = true := by
      have := hyes.2.2.2.2
      simp only [rightB, Bool.and_eq_true] at this
      exact this.1.2
    have hsok : secOk s = true := by
      have h1 := cMay_bd hmA
      have h2 : (secN s : Int) = qd.size := hqs.2
      have h3 := hyes.2.1
      unfold secN at h2
      unfold secOk
      rw [decide_eq_true (show s ≠ [] by intro e; subst e; simp at h2; omega), decide_eq_true h3, decide_eq_true (show s.length ≤ 256 by omega)]
      rfl
    obtain ⟨ds1, hds1⟩ : ∃ ds1, loT [] (wrAll y.gs y.secs (awT [] y.bd.length 0) s (plsL qd) (List.replicate y.bd.length (DevD.blank y.secs 0))) y.bd.length = ds1 := ⟨_, rfl⟩
    obtain ⟨_, hhere, hok⟩ := laid_full hyes.2.2.2.2 hyes.2.2.1 hV.nd (by omega) (by omega) hqs.2 hsok hds1
    rw [hds1] at hV
    obtain ⟨aw, haw⟩ : ∃ aw, awT [] y.bd.length y.bd.length = aw := ⟨_, rfl⟩
    rw [haw] at hV hhere
    have HV := Lib.hid hV
    have HY := Lib.hid hyes
    have HF := Lib.hid (And.intro hhere hok)
    have HU := Lib.hid hub
    have HB4 := Lib.hid hb4
    clear haw hds1 hqd hqs hsok hhere hok hyes hub hb4 hhv hyl hsl hmA
    obtain ⟨w5, hw5⟩ : ∃ z, (w4.alloc (.cells y.cells 37)).alloc (.cells #[.int .i64 qd.ag, .int .i64 qd.aa, .int .i64 qd.bg, .int .i64 qd.ba, .bool qd.two, .int .i64 qd.size, .int .i64 qd.level, .int .i64 qd.birth, .int .u64 qd.s0, .int .u64 qd.s1, .int .u64 qd.s2, .int .u64 qd.s3] 31) = z := ⟨_, rfl⟩
    have hX5 : Blk w5 w4.heap.size 37 y.cells := by rw [← hw5]; exact (Blk.new _ _ _).alloc _
    have hP5 : Blk w5 (w4.heap.size + 1) 31 #[.int .i64 qd.ag, .int .i64 qd.aa, .int .i64 qd.bg, .int .i64 qd.ba, .bool qd.two, .int .i64 qd.size, .int .i64 qd.level, .int .i64 qd.birth, .int .u64 qd.s0, .int .u64 qd.s1, .int .u64 qd.s2, .int .u64 qd.s3] := by rw [← hw5]; exact Blk.new2 _ _ _ _
    have hb5 : Below w4.heap.size w4 w5 := by rw [← hw5]; exact keep_alloc (keep_alloc (Below.refl _ _) _) _
    obtain ⟨U1, hU1⟩ : ∃ U1, U1 = more U w4 w5 := ⟨_, rfl⟩
    have hV5 : VdIn w5 S U1 y aw ds1 := by rw [hU1]; exact HV.out.more hb5
    have hu1 : U1 w4.heap.size ∧ U1 (w4.heap.size + 1) ∧ ∀ b, b < w3.heap.size → U1 b := by rw [hU1]; exact ⟨.inr ⟨Nat.le_refl _, hX5.lt⟩, .inr ⟨Nat.le_succ _, hP5.lt⟩, fun b hb => .inl (HU.out b hb)⟩
    have hh5 := (HAR3.out.below HB4.out).below hb5
    have HV5 := Lib.hid hV5
    have HU1 := Lib.hid hu1
    have HH5 := Lib.hid hh5
    have HXP := Lib.hid (And.intro hX5 hP5)
    have HB5 := Lib.hid (keep_below hb5 (keep_below HB4.out HD3.out))
    have HW5 := Lib.hid hw5
    clear hU1 hV5 hu1 hh5 hX5 hP5 hb5 hw5
    go_wp2_with fail
    rw [HW5.out]
    go_loopw [13] (fun t wr => ∃ (k : Nat) (S' : Nat → Nat → Prop), k ≤ y.bd.length ∧ t = .int .i64 k ∧ VdIn wr S' U1 y aw (flTo aw ds1 k) ∧ Stays U1 w5 wr) (fun t _ => y.bd.length - (RowKit.intOf t).toNat)
    case atStart => exact ⟨0, S, Nat.zero_le _, rfl, by rw [flTo_zero]; exact HV5.out, stays_refl _⟩
    case round =>
      obtain ⟨k, S1, hk, rfl, hVr, hst⟩ := hrel
      have hxr : Blk wr w4.heap.size 37 y.cells := (hst.heap HU1.out.1 HXP.out.1.lt).trans HXP.out.1
      have x2 := hxr.at_ (i := 2) (v := .slice (some ⟨y.lb, 0, none⟩) y.bd.length y.lc) rfl
      by_cases hlt : k < y.bd.length
      · obtain ⟨b, hb⟩ : ∃ b, y.bd[k]? = some b := ⟨_, List.getElem?_eq_getElem hlt⟩
        obtain ⟨d, hd⟩ : ∃ d, ds1[k]? = some d := ⟨_, List.getElem?_eq_getElem (by rw [HV5.out.n2]; exact hlt)⟩
        have hdk : (flTo aw ds1 k)[k]? = some d := by rw [flTo_at, hd]; simp
        have hfl := vfl1_any hVr (flTo_ok HF.out.2 k) hb hdk
        rw [← flTo_yes (HF.out.1 k hlt) hd] at hfl
        have hrow := hVr.row k b hb
        have hdc : decide (k < y.bd.length) = true := decide_eq_true hlt
        have HLT := Lib.hid hlt
        have HST := Lib.hid hst
        have HFL := Lib.hid hfl
        clear hb hd hdk hfl hst hVr hxr
        go_wp2_with fail
        refine HFL.out.mono ?_
        rintro e w6 ⟨rfl, ⟨S2, hV6⟩, hst6⟩
        have HR := Lib.hid (And.intro hV6 (HST.out.trans hst6))
        clear hV6 hst6 HFL hrow x2
        go_wp2_with fail
        go_roundw
        case rel => exact ⟨k + 1, S2, HLT.out, by go_num, HR.out.1, HR.out.2⟩
        case measure => have := HLT.out; simp [RowKit.intOf]; omega
      · obtain rfl : k = y.bd.length := by omega
        have hdc : decide ((y.bd.length : Int) < y.bd.length) = false := decide_eq_false (by omega)
        rename World => wa
        obtain ⟨D0, hD0⟩ : ∃ D0, flTo aw ds1 y.bd.length = D0 := ⟨_, rfl⟩
        rw [hD0] at hVr
        have hok0 : DsOk 128 y.secs D0 := by rw [← hD0]; exact flTo_ok HF.out.2 _
        have hcl0 : Clean D0 := by rw [← hD0]; exact clean_flushed HF.out.2 HF.out.1 HV5.out.n2
        have hal0 : AllHere aw D0 y.bd.length := fun i hi => by rw [← hD0, flTo_here]; exact HF.out.1 i hi
        have HVA := Lib.hid hVr
        have HSTA := Lib.hid hst
        have HOK0 := Lib.hid hok0
        have HCL0 := Lib.hid (And.intro hcl0 hal0)
        clear hVr hst hok0 hcl0 hal0 hD0 hxr
        go_wp2_with fail
        clear x2 hdc
        go_loopw [14, 15] (fun t _ wr => ∃ k : Nat, k ≤ hl.length ∧ t = .int .i64 k ∧ VdIn wr S1 U1 y aw (hitAll D0 (hl.take k)) ∧ Stays U1 w5 wr) (fun t _ _ => hl.length - (RowKit.intOf t).toNat)
        case atStart => exact ⟨0, Nat.zero_le _, rfl, HVA.out, HSTA.out⟩
        case round =>
          obtain ⟨k, hk, rfl, hVr, hst⟩ := hrel
          have hxr : Blk wr w4.heap.size 37 y.cells := (hst.heap HU1.out.1 HXP.out.1.lt).trans HXP.out.1
          have HVR := Lib.hid hVr
          have HST := Lib.hid hst
          have HXR := Lib.hid hxr
          by_cases hlt : k < hl.length
          · obtain ⟨x, hx⟩ : ∃ x, hl[k]? = some x := ⟨_, List.getElem?_eq_getElem hlt⟩
            have hts := take_snoc hx
            obtain ⟨dk, hdk⟩ : ∃ dk, hitAll D0 (hl.take k) = dk := ⟨_, rfl⟩
            have hnx : hitAll D0 (hl.take (k + 1)) = hitOne dk x := by rw [hts, hitAll_snoc, hdk]
            have hokk : DsOk 128 y.secs dk := by rw [← hdk]; exact hitAll_ok _ _ HOK0.out
            rw [hdk] at HVR
            obtain ⟨A', c', e0, e1, e2⟩ := HH5.out
            obtain ⟨bh, oh, e3, e4, e5⟩ := e2 (by omega)
            cases e0
            subst e3
            obtain ⟨t0, t1, t2, t3, hxok⟩ := e5 k x hx
            have hbh : bh < w3.heap.size := by
              obtain ⟨A'', c'', e6, e7, e8⟩ := HAR3.out
              obtain ⟨bh', oh', e9, e10, _⟩ := e8 (by omega)
              cases e6
              cases e9
              exact e10
            have hUh := HU1.out.2.2 bh hbh
            have heq : wr.heap[bh]? = w5.heap[bh]? := hst.heap hUh (HV5.out.us bh hUh)
            have s0 : wr.cell? ⟨bh, oh + k * 4, none⟩ = some (.int .i64 x.dev) := (cell_same' heq).trans t0
            have s1 : wr.cell? ⟨bh, oh + k * 4 + 1, none⟩ = some (.int .i64 x.at_) := (cell_same' heq).trans t1
            have s2 : wr.cell? ⟨bh, oh + k * 4 + 2, none⟩ = some (.int .i64 x.place) := (cell_same' heq).trans t2
            have s3 : wr.cell? ⟨bh, oh + k * 4 + 3, none⟩ = some (.int .u8 x.by_.toNat) := (cell_same' heq).trans t3
            have x2 := hxr.at_ (i := 2) (v := .slice (some ⟨y.lb, 0, none⟩) y.bd.length y.lc) rfl
            have hdc : decide (k < hl.length) = true := decide_eq_true hlt
            have HLT := Lib.hid hlt
            have hdl : dk.length = y.bd.length := HVR.out.n2
            clear t0 t1 t2 t3 e1 e2 e4 e5 hts hdk hx hst hVr hxr
            by_cases hin : 0 ≤ x.dev ∧ x.dev < y.bd.length
            · obtain ⟨dn, hdn⟩ := Int.eq_ofNat_of_zero_le hin.1
              have hdnl : dn < y.bd.length := by omega
              obtain ⟨b, hb⟩ : ∃ b, y.bd[dn]? = some b := ⟨_, List.getElem?_eq_getElem hdnl⟩
              have hone : hitOne dk x = spoilAt dk dn x.at_ x.place x.by_ := by unfold hitOne; rw [if_pos ⟨hin.1, by omega⟩, hdn, Int.toNat_natCast]
              have hsp := vspoil_any (HVR.out.same (w' := wr.drew) (Nat.le_refl _) (fun _ _ => rfl) (fun _ _ _ => rfl)) hokk (by decide) hb x.at_ x.place hxok.2.2 x.by_
              rw [← hone, ← hnx] at hsp
              have hrow := HVR.out.row dn b hb
              rw [hdn] at s0
              have hd2 : decide (dn < y.bd.length) = true := decide_eq_true hdnl
              have HSP := Lib.hid hsp
              obtain ⟨S0, hS0⟩ : ∃ S0 : World → Prop, S0 = fun W => ∀ g, (g = w4.heap.size ∨ g = y.lb ∨ g = bh) → W.heap[g]? = wr.heap[g]? := ⟨_, rfl⟩
              have f0 : ∀ W, S0 W → W.cell? ⟨w4.heap.size, 2, none⟩ = some (.slice (some ⟨y.lb, 0, none⟩) y.bd.length y.lc) := fun W h => by rw [hS0] at h; exact (cell_same' (h _ (.inl rfl))).trans x2
              have f1 : ∀ W, S0 W → W.cell? ⟨y.lb, dn, none⟩ = some (.pointer (some ⟨b, 0, none⟩)) := fun W h => by rw [hS0] at h; exact (cell_same' (h _ (.inr (.inl rfl)))).trans hrow
              have f2 : ∀ W, S0 W → W.cell? ⟨bh, oh + k * 4 + 1, none⟩ = some (.int .i64 x.at_) := fun W h => by rw [hS0] at h; exact (cell_same' (h _ (.inr (.inr rfl)))).trans s1
              have f3 : ∀ W, S0 W → W.cell? ⟨bh, oh + k * 4 + 2, none⟩ = some (.int .i64 x.place) := fun W h => by rw [hS0] at h; exact (cell_same' (h _ (.inr (.inr rfl)))).trans s2
              have f4 : ∀ W, S0 W → W.cell? ⟨bh, oh + k * 4 + 3, none⟩ = some (.int .u8 x.by_.toNat) := fun W h => by rw [hS0] at h; exact (cell_same' (h _ (.inr (.inr rfl)))).trans s3
              have hSw : S0 wr.drew := by rw [hS0]; exact fun _ _ => rfl
              have hSe : ∀ W, Stays U1 wr W → S0 W := fun W hW => by
                rw [hS0]
                intro g hg
                have hg' : U1 g := by
                  rcases hg with rfl | rfl | rfl
                  · exact HU1.out.1
                  · exact HVR.out.ul
                  · exact hUh
                exact hW.heap hg' (HVR.out.us g hg')
              have HSE := Lib.hid hSe
              clear hone hsp hS0 hSe hin hdn hnx hokk hxok hbh hUh heq hb s1 s2 s3 hrow
              go_wp2_with fail
              refine wp_region_effA S0 [20] (by kernel_rfl) (by kernel_rfl) (by kernel_rfl) hSw ?_
              refine wpLexE_take 20 (by kernel_rfl) (by kernel_rfl) ?_
              simp only [List.take_succ_cons, List.take_zero, List.drop_succ_cons, List.drop_zero]
              repeat (first
                | go_big_quiet_skip
                | (go_big_quiet_want
                   go_big_quiet_op
                   first
                     | go_big_quiet_on
                     | (apply Exists.intro
                        refine ⟨fun W hW => ?_, ?_⟩
                        · first
                            | exact rfl
                            | exact ⟨rfl, rfl⟩
                            | (have e0 := f0 W hW; have e1 := f1 W hW; have e2 := f2 W hW; have e3 := f3 W hW; have e4 := f4 W hW; simp only [e0, e1, e2, e3, e4, Result.andThen_ok]; done)
                            | (have e0 := f0 W hW; have e1 := f1 W hW; have e2 := f2 W hW; have e3 := f3 W hW; have e4 := f4 W hW; simp only [e0, e1, e2, e3, e4, Result.andThen_ok]; first | exact ⟨trivial, rfl⟩ | exact rfl | exact ⟨rfl, rfl⟩)
                            | (skip)
                        go_big_quiet_on)))
              refine wpQuiet_nil ?_
              show wpLexE _ _ _ _ _ _ _ _ _
              refine wpLexE_eff (by kernel_rfl) rfl ?_
              clear f0 f1 f2 f3 f4
              go_wp2_with fail
              refine HSP.out.mono ?_
              rintro e w6 ⟨⟨r, rfl⟩, hV6, hst6⟩
              have hst6' : Stays U1 wr w6 := ⟨hst6.os, hst6.tape, hst6.output, hst6.size, hst6.block⟩
              have hS6 := HSE.out w6 hst6'
              have HF := Lib.hid (And.intro hV6 (HST.out.trans hst6'))
              clear hV6 hst6 hst6' hSw HSP
              go_wp2_with fail
              refine ⟨rfl, hS6, ?_⟩
              unfold wpLexE
              clear hS6
              go_wp2_with fail
              go_roundw
              case rel => exact ⟨k + 1, HLT.out, by go_num, HF.out.1, HF.out.2⟩
              case measure => have := HLT.out; simp [RowKit.intOf]; omega
            · have hone : hitOne dk x = dk := by unfold hitOne; rw [if_neg (fun h => hin ⟨h.1, by omega⟩)]
              have HF : Hid (VdIn wr S1 U1 y aw (hitAll D0 (hl.take (k + 1))) ∧ Stays U1 w5 wr) := Lib.hid ⟨by rw [hnx, hone]; exact HVR.out, HST.out⟩
              clear hone hnx hokk hxok hbh hUh heq s1 s2 s3
              by_cases h0 : 0 ≤ x.dev
              · have hd2 : decide (x.dev < (y.bd.length : Int)) = false := decide_eq_false (fun h => hin ⟨h0, h⟩)
                have hd3 : decide (0 ≤ x.dev) = true := decide_eq_true h0
                clear hin h0
                go_wp2_with fail
                go_roundw
                case rel => exact ⟨k + 1, HLT.out, by go_num, HF.out.1, HF.out.2⟩
                case measure => have := HLT.out; simp [RowKit.intOf]; omega
              · have hd3 : decide (0 ≤ x.dev) = false := decide_eq_false h0
                clear hin h0
                go_wp2_with fail
                go_roundw
                case rel => exact ⟨k + 1, HLT.out, by go_num, HF.out.1, HF.out.2⟩
                case measure => have := HLT.out; simp [RowKit.intOf]; omega
          · obtain rfl : k = hl.length := by omega
            have hdc : decide ((hl.length : Int) < hl.length) = false := decide_eq_false (by omega)
            rename World => wb
            obtain ⟨D, hD⟩ : ∃ D, hitAll D0 hl = D := ⟨_, rfl⟩
            rw [List.take_length, hD] at hVr
            have hokD : DsOk 128 y.secs D := by rw [← hD]; exact hitAll_ok _ _ HOK0.out
            have hclD : Clean D := by rw [← hD]; exact clean_hits _ _ HCL0.out.1
            have halD : AllHere aw D y.bd.length := fun i hi => by rw [← hD, hitAll_hereD]; exact HCL0.out.2 i hi
            have hpr : Blk wb (w4.heap.size + 1) 31 #[.int .i64 qd.ag, .int .i64 qd.aa, .int .i64 qd.bg, .int .i64 qd.ba, .bool qd.two, .int .i64 qd.size, .int .i64 qd.level, .int .i64 qd.birth, .int .u64 qd.s0, .int .u64 qd.s1, .int .u64 qd.s2, .int .u64 qd.s3] := (hst.heap HU1.out.2.1 HXP.out.2.lt).trans HXP.out.2
            have hlk := look_any hVr (by omega) hokD qd
            obtain ⟨⟨ct, cpl, cdv, cfx⟩, er, hlv⟩ : ∃ c er, lookV y.gs y.secs qd (rawP y.gs y.secs qd.size aw D) = (c, er) := ⟨_, _, rfl⟩
            obtain ⟨⟨dt, dpl, ddv, dfx⟩, hlv2, hdt⟩ := look_again hVr.right hVr.nd hVr.n2 hokD hlv
            dsimp only at hdt
            subst hdt
            have htw : er = 0 → cpl = 0 → readN false y.gs y.secs aw qd (readD false y.gs y.secs aw qd D) = 0 := fun he hc => by
              subst he
              exact twice_law hVr.right hVr.nd hVr.n2 hokD halD hlv hc
            rw [hlv] at hlk
            dsimp only [CameD.cells] at hlk
            have hbb : Below w.heap.size w wb := HB5.out.trans (hst.below HB5.out.size (fun i hi => HU1.out.2.2 i (by have := HD3.out.size; omega)))
            have HLK := Lib.hid hlk
            have HLV := Lib.hid (And.intro hlv (And.intro hlv2 htw))
            have HVB := Lib.hid hVr
            have HOK := Lib.hid (And.intro hokD hclD)
            have HXB := Lib.hid (And.intro hxr hpr)
            have HBB := Lib.hid hbb
            obtain ⟨x0, x1, x2, x3⟩ := vxF (hxr)
            obtain ⟨p0, p1, p2, p3, p4, p5, p6, p7, p8, p9, p10, p11⟩ := ptF (hpr)
            clear hlk hlv hlv2 htw hVr hokD hclD halD hxr hpr hst hD hbb HVR HXR HSTA HST
            go_wp2_with fail
            refine HLK.out.mono ?_
            rintro e w6 ⟨rfl, hb6⟩
            have hx6 := HXB.out.1.below hb6 HXB.out.1.lt
            have hp6 := HXB.out.2.below hb6 HXB.out.2.lt
            have hwh := whole10_any (HVB.out.below hb6) (by omega) HOK.out.1 qd
            obtain ⟨wv, hwv⟩ : ∃ wv, wholeV y.gs y.secs aw qd D = wv := ⟨_, rfl⟩
            rw [hwv] at hwh
            have HWH := Lib.hid hwh
            have H6 := Lib.hid (And.intro hb6 (And.intro hx6 hp6))
            clear x0 x1 x2 x3 p0 p1 p2 p3 p4 p5 p6 p7 p8 p9 p10 p11 hdc HLK
            obtain ⟨x0, x1, x2, x3⟩ := vxF (hx6)
            obtain ⟨p0, p1, p2, p3, p4, p5, p6, p7, p8, p9, p10, p11⟩ := ptF (hp6)
            clear hb6 hx6 hp6 hwh hwv
            go_wp2_with fail
            refine HWH.out.mono ?_
            rintro e w7 ⟨rfl, hb7⟩
            clear x0 x1 x2 x3 p0 p1 p2 p3 p4 p5 p6 p7 p8 p9 p10 p11 HWH
            have HV7 := Lib.hid ((HVB.out.below H6.out.1).below hb7)
            have HX7 := Lib.hid (And.intro (H6.out.2.1.below hb7 H6.out.2.1.lt) (H6.out.2.2.below hb7 H6.out.2.2.lt))
            have HB7 := Lib.hid ((HBB.out.trans (H6.out.1.mono HBB.out.size)).trans (hb7.mono ((HBB.out.trans (H6.out.1.mono HBB.out.size)).size)))
            clear hb7
            go_wp2_with fail
            go_loopw [16] (fun t wr => ∃ k : Nat, k ≤ y.bd.length ∧ t = .int .i64 k ∧ Below w7.heap.size w7 wr) (fun t _ => y.bd.length - (RowKit.intOf t).toNat)
            case atStart => exact ⟨0, Nat.zero_le _, rfl, Below.refl _ _⟩
            case round =>
              obtain ⟨k, hk, rfl, hbr⟩ := hrel
              have hxr := HX7.out.1.below hbr HX7.out.1.lt
              have x2 := hxr.at_ (i := 2) (v := .slice (some ⟨y.lb, 0, none⟩) y.bd.length y.lc) rfl
              have hVr := HV7.out.below hbr
              by_cases hlt : k < y.bd.length
              · obtain ⟨b, hb⟩ : ∃ b, y.bd[k]? = some b := ⟨_, List.getElem?_eq_getElem hlt⟩
                obtain ⟨d, hd⟩ : ∃ d, D[k]? = some d := ⟨_, List.getElem?_eq_getElem (by rw [hVr.n2]; exact hlt)⟩
                have hca := cached_any (hVr.dev k b d hb hd) (HOK.out.1 d (List.mem_of_getElem? hd)).1.few
                rw [clean_keys (HOK.out.2 d (List.mem_of_getElem? hd))] at hca
                have hrow := hVr.row k b hb
                have hdc : decide (k < y.bd.length) = true := decide_eq_true hlt
                have HLT := Lib.hid hlt
                have HBR := Lib.hid hbr
                have HCA := Lib.hid hca
                clear hb hd hca hbr hVr hxr
                go_wp2_with fail
                refine HCA.out.mono ?_
                rintro e w8 ⟨v8, rfl, hown, hb8⟩
                obtain ⟨ao, cp, rfl⟩ := own_slice hown
                have HB8 := Lib.hid (keep_below hb8 HBR.out)
                clear hown hb8 HCA hrow x2
                simp only [List.length_nil]
                go_wp2_with fail
                go_roundw
                case rel => exact ⟨k + 1, HLT.out, by go_num, HB8.out⟩
                case measure => have := HLT.out; simp [RowKit.intOf]; omega
              · obtain rfl : k = y.bd.length := by omega
                have hdc : decide ((y.bd.length : Int) < y.bd.length) = false := decide_eq_false (by omega)
                rename World => wc
                have hpr := HX7.out.2.below hbr HX7.out.2.lt
                have hbc : Below w.heap.size w wc := HB7.out.trans (hbr.mono HB7.out.size)
                obtain ⟨D2, hD2⟩ : ∃ D2, readD false y.gs y.secs aw qd D = D2 := ⟨_, rfl⟩
                have hokD2 : DsOk 256 y.secs D2 := by rw [← hD2]; exact readD_ok HOK.out.1
                have hrd := read10_any hVr (by omega) HOK.out.1 (by decide) qd
                have hsc := fun (S' : Nat → Nat → Prop) (U' : Nat → Prop) (W : World) (hW : VdIn W S' U' y aw D2) => read10_any hW (by omega) hokD2 (by decide) qd
                have hlv2 := HLV.out.2.1
                have htw := HLV.out.2.2
                rw [hD2] at hlv2 htw hrd
                simp only [HLV.out.1] at hrd
                simp only [hlv2] at hsc
                obtain ⟨n1, hn1⟩ : ∃ n1, readN false y.gs y.secs aw qd D = n1 := ⟨_, rfl⟩
                obtain ⟨n2, hn2⟩ : ∃ n2, readN false y.gs y.secs aw qd D2 = n2 := ⟨_, rfl⟩
                rw [hn1] at hrd
                rw [hn2] at hsc htw
                dsimp only [CameD.cells] at hrd hsc
                have HRD := Lib.hid hrd
                have HSC := Lib.hid hsc
                have HTW := Lib.hid htw
                have HXC := Lib.hid (And.intro hxr hpr)
                have HBC := Lib.hid hbc
                obtain ⟨x0, x1, x2, x3⟩ := vxF (hxr)
                obtain ⟨p0, p1, p2, p3, p4, p5, p6, p7, p8, p9, p10, p11⟩ := ptF (hpr)
                clear hrd hsc htw hlv2 hn1 hn2 hD2 hokD2 hxr hpr hbc hbr hVr HLV
                go_wp2_with fail
                refine HRD.out.mono ?_
                rintro e w8 ⟨rfl, ⟨S8, hV8⟩, hst8⟩
                obtain ⟨w9, hw9⟩ : ∃ z, w8.alloc (.cells #[str dt, .int .i64 cpl, .int .i64 cdv, .int .i64 n1] 45) = z := ⟨_, rfl⟩
                have hb9 : Below w8.heap.size w8 w9 := by rw [← hw9]; exact keep_alloc (Below.refl _ _) _
                have ha9 : Blk w9 w8.heap.size 45 #[str dt, .int .i64 cpl, .int .i64 cdv, .int .i64 n1] := by rw [← hw9]; exact Blk.new _ _ _
                obtain ⟨U3, hU3⟩ : ∃ U3, U3 = more U1 w8 w9 := ⟨_, rfl⟩
                have hV9 : VdIn w9 S8 U3 y aw D2 := by rw [hU3]; exact hV8.more hb9
                have hu3 : U3 w8.heap.size ∧ ∀ b, U1 b → U3 b := by rw [hU3]; exact ⟨.inr ⟨Nat.le_refl _, ha9.lt⟩, fun b hb => .inl hb⟩
                have hx9 := (show Blk w8 _ _ _ from (hst8.heap HU1.out.1 HXC.out.1.lt).trans HXC.out.1).below hb9 (show Blk w8 _ _ _ from (hst8.heap HU1.out.1 HXC.out.1.lt).trans HXC.out.1).lt
                have hp9 := (show Blk w8 _ _ _ from (hst8.heap HU1.out.2.1 HXC.out.2.lt).trans HXC.out.2).below hb9 (show Blk w8 _ _ _ from (hst8.heap HU1.out.2.1 HXC.out.2.lt).trans HXC.out.2).lt
                have hu : ∀ i, i < w.heap.size → U1 i := fun i hi => HU1.out.2.2 i (by have := HD3.out.size; omega)
                have hbf9 : Below w.heap.size w w9 := by
                  have b8 : Below w.heap.size w w8 := HBC.out.trans (hst8.below HBC.out.size hu)
                  exact b8.trans (hb9.mono b8.size)
                have HS := Lib.hid (HSC.out S8 U3 w9 hV9)
                clear x0 x1 x2 x3 p0 p1 p2 p3 p4 p5 p6 p7 p8 p9 p10 p11 hdc
                obtain ⟨x0, x1, x2, x3⟩ := vxF (hx9)
                obtain ⟨p0, p1, p2, p3, p4, p5, p6, p7, p8, p9, p10, p11⟩ := ptF (hp9)
                rw [← hw9] at x0 x1 x2 x3 p0 p1 p2 p3 p4 p5 p6 p7 p8 p9 p10 p11
                have HW9 := Lib.hid hw9
                have H9 := Lib.hid (And.intro ha9 (And.intro hu3 (And.intro hbf9 hu)))
                clear hw9 hb9 ha9 hU3 hV9 hu3 hx9 hp9 hu hbf9 hV8 hst8 HSC HRD
                go_wp2_with fail
                rw [HW9.out]
                refine HS.out.mono ?_
                rintro e w10 ⟨rfl, _, hst10⟩
                obtain ⟨w11, hw11⟩ : ∃ z, w10.alloc (.cells #[str dt, .int .i64 dpl, .int .i64 ddv, .int .i64 n2] 45) = z := ⟨_, rfl⟩
                have hb11 : Below w10.heap.size w10 w11 := by rw [← hw11]; exact keep_alloc (Below.refl _ _) _
                have ha10 : Blk w10 w8.heap.size 45 #[str dt, .int .i64 cpl, .int .i64 cdv, .int .i64 n1] := (hst10.heap H9.out.2.1.1 H9.out.1.lt).trans H9.out.1
                have ha11 := ha10.below hb11 ha10.lt
                have hbf : Below w.heap.size w w11 := by
                  have b9 := H9.out.2.2.1
                  have b10 : Below w.heap.size w w10 := b9.trans (hst10.below b9.size (fun i hi => H9.out.2.1.2 i (H9.out.2.2.2 i hi)))
                  exact b10.trans (hb11.mono b10.size)
                clear x0 x1 x2 x3 p0 p1 p2 p3 p4 p5 p6 p7 p8 p9 p10 p11
                have a0 := ha11.at_ (i := 0) (v := str dt) rfl
                have a1 := ha11.at_ (i := 1) (v := .int .i64 cpl) rfl
                rw [← hw11] at a0 a1
                have HBF := Lib.hid hbf
                have HW11 := Lib.hid hw11
                have hdd : (dt == dt) = true := beq_self_eq_true _
                clear hw11 hb11 ha10 ha11 hbf hst10 HS
                have hn2 : (∃ b, ((n2 : Int) == 0) = b ∧ (n2 == 0) = b ∧ decide (n2 = 0) = b) := ⟨_, rfl, by rw [Bool.eq_iff_iff, beq_iff_eq, beq_iff_eq]; omega, by rw [Bool.eq_iff_iff, beq_iff_eq, decide_eq_true_iff]; omega⟩
                have hcp : (∃ b, decide ((0 : Int) < cpl) = b ∧ decide (0 < cpl) = b) := ⟨_, rfl, by rw [Bool.eq_iff_iff, decide_eq_true_iff, decide_eq_true_iff]; omega⟩
                obtain ⟨nb, nb1, nb2, nb3⟩ := hn2
                obtain ⟨pb, pb1, pb2⟩ := hcp
                have hor : er = 0 → nb = true ∨ pb = true := fun he => by
                  by_cases hc : cpl = 0
                  · exact .inl (by rw [← nb2, HTW.out he hc]; rfl)
                  · exact .inr (by rw [← pb2]; exact decide_eq_true (by omega))
                by_cases her : er = 0
                · have h3 := hor her
                  subst her
                  clear hor
                  cases nb with
                  | true =>
                    clear h3
                    cases pb with
                    | true =>
                      go_wp2_with fail
                      rw [HW11.out]
                      go_ret
                      exact ⟨rfl, HBF.out⟩
                    | false =>
                      go_wp2_with fail
                      rw [HW11.out]
                      go_ret
                      exact ⟨rfl, HBF.out⟩
                  | false =>
                    have hpb : pb = true := by simpa using h3
                    subst hpb
                    clear h3
                    go_wp2_with fail
                    rw [HW11.out]
                    go_ret
                    exact ⟨rfl, HBF.out⟩
                · have hne2 : (er == 0) = false := beq_eq_false_iff_ne.2 her
                  have hne3 : (er == er) = true := beq_self_eq_true _
                  have hne4 : (er != 0) = true := bne_iff_ne.2 her
                  clear her hor
                  cases nb with
                  | true =>
                    go_wp2_with fail
                    rw [HW11.out]
                    go_ret
                    exact ⟨rfl, HBF.out⟩
                  | false =>
                    go_wp2_with fail
                    rw [HW11.out]
                    go_ret
                    exact ⟨rfl, HBF.out⟩
end Go.Proofs.YtbhkbcpljakmjaaGreat
