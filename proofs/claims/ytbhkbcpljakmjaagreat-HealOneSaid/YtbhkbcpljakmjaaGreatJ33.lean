/-
  The statement HealOne, walked.
-/
import Derived.Test.YtbhkbcpljakmjaaGreatJ30
import Derived.Test.YtbhkbcpljakmjaaGreatJ31
import Derived.Test.YtbhkbcpljakmjaaGreatJ17
import Derived.Test.YtbhkbcpljakmjaaGreatJ25
import Derived.Test.YtbhkbcpljakmjaaGreatJ32
namespace Go.Proofs.YtbhkbcpljakmjaaGreat
set_option linter.unusedVariables false
set_option linter.unusedSimpArgs false
open Go.RowKit

theorem ptF {W : World} {g : Nat} {q : PtrD} (h : Blk W g 31 #[.int .i64 q.ag, .int .i64 q.aa, .int .i64 q.bg, .int .i64 q.ba, .bool q.two, .int .i64 q.size, .int .i64 q.level, .int .i64 q.birth, .int .u64 q.s0, .int .u64 q.s1, .int .u64 q.s2, .int .u64 q.s3]) : W.cell? ⟨g, 0, none⟩ = some (.int .i64 q.ag) ∧ W.cell? ⟨g, 1, none⟩ = some (.int .i64 q.aa) ∧ W.cell? ⟨g, 2, none⟩ = some (.int .i64 q.bg) ∧ W.cell? ⟨g, 3, none⟩ = some (.int .i64 q.ba) ∧ W.cell? ⟨g, 4, none⟩ = some (.bool q.two) ∧ W.cell? ⟨g, 5, none⟩ = some (.int .i64 q.size) ∧ W.cell? ⟨g, 6, none⟩ = some (.int .i64 q.level) ∧ W.cell? ⟨g, 7, none⟩ = some (.int .i64 q.birth) ∧ W.cell? ⟨g, 8, none⟩ = some (.int .u64 q.s0) ∧ W.cell? ⟨g, 9, none⟩ = some (.int .u64 q.s1) ∧ W.cell? ⟨g, 10, none⟩ = some (.int .u64 q.s2) ∧ W.cell? ⟨g, 11, none⟩ = some (.int .u64 q.s3) :=
  ⟨h.at_ (i := 0) rfl, h.at_ (i := 1) rfl, h.at_ (i := 2) rfl, h.at_ (i := 3) rfl, h.at_ (i := 4) rfl, h.at_ (i := 5) rfl, h.at_ (i := 6) rfl, h.at_ (i := 7) rfl, h.at_ (i := 8) rfl, h.at_ (i := 9) rfl, h.at_ (i := 10) rfl, h.at_ (i := 11) rfl⟩
theorem vxF {W : World} {g : Nat} {y : VX} (h : Blk W g 37 y.cells) : W.cell? ⟨g, 0, none⟩ = some (.slice (some ⟨y.gb, 0, none⟩) y.m y.cc) ∧ W.cell? ⟨g, 1, none⟩ = some (.int .i64 y.secs) ∧ W.cell? ⟨g, 2, none⟩ = some (.slice (some ⟨y.lb, 0, none⟩) y.bd.length y.lc) ∧ W.cell? ⟨g, 3, none⟩ = some (.slice (some ⟨y.ab, 0, none⟩) y.bd.length y.bd.length) :=
  ⟨h.at_ (i := 0) rfl, h.at_ (i := 1) rfl, h.at_ (i := 2) rfl, h.at_ (i := 3) rfl⟩
set_option maxRecDepth 20000 in
set_option maxHeartbeats 8000000 in
theorem healOne_any (A : Option Addr) (m c : Nat) (gs : List (Int × Int)) (secs : Int) (p : PtrD) (s : List UInt8) (hsl : s.length ≤ 9223372036854775807) (dv : Nat) (hdv : dv < 256) {hv : Value} {hl : List HitD} (how : UInt8) {w : World} (hg : GeoAt w A m gs) (hh : HitsAt w hv hl) :
    Calls Tryz.prog 4 #[.agg #[.slice A m c, .int .i64 secs], .agg #[.int .i64 p.ag, .int .i64 p.aa, .int .i64 p.bg, .int .i64 p.ba, .bool p.two, .int .i64 p.size, .int .i64 p.level, .int .i64 p.birth, .int .u64 p.s0, .int .u64 p.s1, .int .u64 p.s2, .int .u64 p.s3], str s, .int .u8 dv, hv, .int .u8 how.toNat] w fun e w' => e = .returned (.bool true) ∧ Below w.heap.size w w' := by
  obtain ⟨Ah, ch, rfl⟩ := hh.form
  obtain ⟨w2, hw2⟩ : ∃ z, (w.alloc (.cells #[.slice A m c, .int .i64 secs] 24)).alloc (.cells #[.int .i64 p.ag, .int .i64 p.aa, .int .i64 p.bg, .int .i64 p.ba, .bool p.two, .int .i64 p.size, .int .i64 p.level, .int .i64 p.birth, .int .u64 p.s0, .int .u64 p.s1, .int .u64 p.s2, .int .u64 p.s3] 31) = z := ⟨_, rfl⟩
  have B1 : Blk w2 w.heap.size 24 #[.slice A m c, .int .i64 secs] := by rw [← hw2]; exact (Blk.new _ _ _).alloc _
  have B2 : Blk w2 (w.heap.size + 1) 31 #[.int .i64 p.ag, .int .i64 p.aa, .int .i64 p.bg, .int .i64 p.ba, .bool p.two, .int .i64 p.size, .int .i64 p.level, .int .i64 p.birth, .int .u64 p.s0, .int .u64 p.s1, .int .u64 p.s2, .int .u64 p.s3] := by rw [← hw2]; exact Blk.new2 _ _ _ _
  have D2 : Below w.heap.size w w2 := by rw [← hw2]; exact keep_alloc (keep_alloc (Below.refl _ _) _) _
  have HB2 := Lib.hid (And.intro B1 B2)
  have HD2 := Lib.hid D2
  have HW2 := Lib.hid hw2
  have HARG := Lib.hid (hh.below D2)
  have HG := Lib.hid (hg.below D2 (Nat.le_refl _))
  clear hh hg B1 B2 D2 hw2
  go_enter Tryz.func4, Tryz.ntmps4
  go_wp2_with fail
  rw [HW2.out]
  refine (awake10_any w2).mono ?_
  rintro e w3 ⟨rfl, hb3⟩
  have HB3 := Lib.hid hb3
  by_cases h30 : 30 < hl.length
  · have hd1 : decide ((30 : Int) < hl.length) = true := decide_eq_true (by omega)
    clear h30 hb3
    go_wp2_with fail
    refine (awake10_any w3).mono ?_
    rintro e w4 ⟨rfl, hb4⟩
    have HB4 := Lib.hid (keep_below (keep_below hb4 HB3.out) HD2.out)
    clear hb4
    go_wp2_with fail
    go_ret
    exact ⟨rfl, HB4.out⟩
  have hd1 : decide ((30 : Int) < hl.length) = false := decide_eq_false (by omega)
  have hl30 : hl.length ≤ 30 := by omega
  have hg3 := HB2.out.1.below hb3 HB2.out.1.lt
  have hp3 := HB2.out.2.below hb3 HB2.out.2.lt
  have g0 := hg3.at_ (i := 0) (v := .slice A m c) rfl
  have g1 := hg3.at_ (i := 1) (v := .int .i64 secs) rfl
  obtain ⟨p0, p1, p2, p3, p4, p5, p6, p7, p8, p9, p10, p11⟩ := ptF (hp3)
  have hnil : SlAt w3 (.slice none 0 0) ([] : List Bool).length (boolC []) := ⟨none, 0, rfl, Nat.le_refl _, fun h => absurd h (by decide)⟩
  have HLA := Lib.hid (laid10_any (c := c) (secs := secs) (HG.out.below hb3 (Nat.le_refl _)) p s hsl hnil hnil)
  have HAR3 := Lib.hid (HARG.out.below hb3)
  have HD3 := Lib.hid (keep_below hb3 HD2.out)
  have HG3 := Lib.hid (HG.out.below hb3 (Nat.le_refl _))
  have HBG := Lib.hid hg3
  clear h30 hb3 hg3 hp3 hnil
  go_wp2_with fail
  refine HLA.out.mono ?_
  intro e w4 hpost
  clear g0 g1 p0 p1 p2 p3 p4 p5 p6 p7 p8 p9 p10 p11 hd1
  unfold LdPost at hpost
  split at hpost
  case isFalse =>
    obtain ⟨xv, pq, rfl, hxv, hb4⟩ := hpost
    have HB4 := Lib.hid (keep_below hb4 HD3.out)
    clear hb4
    rcases hxv with rfl | ⟨y, _, _, _, _, rfl, _⟩
    · go_wp2_with fail
      go_ret
      exact ⟨rfl, keep_alloc (keep_alloc HB4.out _) _⟩
    · go_wp2_with fail
      go_ret
      exact ⟨rfl, keep_alloc (keep_alloc HB4.out _) _⟩
  case isTrue hyes =>
    obtain ⟨y, S, U, hv, rfl, hys, hysec, hV, hn32, hn0, hs200, hs24, hub, hhv, hyl, hb4⟩ := hpost
    subst hysec
    subst hys
    obtain ⟨Av, cv, rfl⟩ := hhv.form
    obtain ⟨qd, hqd⟩ : ∃ qd, withSum p s = qd := ⟨_, rfl⟩
    have hqs : fsum s = qd.sum ∧ (secN s : Int) = qd.size := by rw [← hqd]; exact ⟨rfl, rfl⟩
    rw [hqd] at hyes hV
    rw [hqd]
    have hmA : cMay y.gs y.secs qd.ag qd.aa qd.size = true := by
      have := hyes.2.2.2.2
      simp only [rightB, Bool.and_eq_true] at this
      exact this.1.2
    have hsok : secOk s = true := by
      have h1 := cMay_bd hmA
      have h2 : (secN s : Int) = qd.size := hqs.2
      have h3 := hyes.2.1
      unfold secN at h2
      unfold secOk
      rw [decide_eq_true (show s ≠ [] by intro e; subst e; simp at h2; omega), decide_eq_true h3, decide_eq_true (show s.length ≤ 256 by omega)]
      rfl
    obtain ⟨ds1, hds1⟩ : ∃ ds1, loT [] (wrAll y.gs y.secs (awT [] y.bd.length 0) s (plsL qd) (List.replicate y.bd.length (DevD.blank y.secs 0))) y.bd.length = ds1 := ⟨_, rfl⟩
    obtain ⟨hfull, hhere, hok⟩ := laid_full hyes.2.2.2.2 hyes.2.2.1 hV.nd (by omega) (by omega) hqs.2 hsok hds1
    rw [hds1] at hV
    obtain ⟨aw, haw⟩ : ∃ aw, awT [] y.bd.length y.bd.length = aw := ⟨_, rfl⟩
    rw [haw] at hV hfull hhere
    have HV := Lib.hid hV
    have HY := Lib.hid hyes
    have HF := Lib.hid (And.intro hfull (And.intro hhere hok))
    have HS := Lib.hid (And.intro hqs hsok)
    have HYL := Lib.hid hyl
    have HMP := Lib.hid hmA
    have HU := Lib.hid hub
    have HB4 := Lib.hid hb4
    clear haw hds1 hqd hqs hsok hfull hhere hok hyes hub hb4 hhv hyl hsl hmA
    obtain ⟨w5, hw5⟩ : ∃ z, (w4.alloc (.cells y.cells 37)).alloc (.cells #[.int .i64 qd.ag, .int .i64 qd.aa, .int .i64 qd.bg, .int .i64 qd.ba, .bool qd.two, .int .i64 qd.size, .int .i64 qd.level, .int .i64 qd.birth, .int .u64 qd.s0, .int .u64 qd.s1, .int .u64 qd.s2, .int .u64 qd.s3] 31) = z := ⟨_, rfl⟩
    have hX5 : Blk w5 w4.heap.size 37 y.cells := by rw [← hw5]; exact (Blk.new _ _ _).alloc _
    have hP5 : Blk w5 (w4.heap.size + 1) 31 #[.int .i64 qd.ag, .int .i64 qd.aa, .int .i64 qd.bg, .int .i64 qd.ba, .bool qd.two, .int .i64 qd.size, .int .i64 qd.level, .int .i64 qd.birth, .int .u64 qd.s0, .int .u64 qd.s1, .int .u64 qd.s2, .int .u64 qd.s3] := by rw [← hw5]; exact Blk.new2 _ _ _ _
    have hb5 : Below w4.heap.size w4 w5 := by rw [← hw5]; exact keep_alloc (keep_alloc (Below.refl _ _) _) _
    obtain ⟨U1, hU1⟩ : ∃ U1, U1 = more U w4 w5 := ⟨_, rfl⟩
    have hV5 : VdIn w5 S U1 y aw ds1 := by rw [hU1]; exact HV.out.more hb5
    have hu1 : U1 w4.heap.size ∧ U1 (w4.heap.size + 1) ∧ ∀ b, b < w3.heap.size → U1 b := by rw [hU1]; exact ⟨.inr ⟨Nat.le_refl _, hX5.lt⟩, .inr ⟨Nat.le_succ _, hP5.lt⟩, fun b hb => .inl (HU.out b hb)⟩
    have hh5 := (HAR3.out.below HB4.out).below hb5
    have HV5 := Lib.hid hV5
    have HU1 := Lib.hid hu1
    have HH5 := Lib.hid hh5
    have HXP := Lib.hid (And.intro hX5 hP5)
    have HB5 := Lib.hid (keep_below hb5 (keep_below HB4.out HD3.out))
    have HW5 := Lib.hid hw5
    clear hU1 hV5 hu1 hh5 hX5 hP5 hb5 hw5
    have hbg5 : Blk w5 w.heap.size 24 #[.slice A m c, .int .i64 y.secs] := by
      have h4 := HBG.out.below HB4.out (by have := HBG.out.lt; omega)
      rw [← HW5.out]
      exact (h4.alloc _).alloc _
    have hge5 : GeoAt w5 A m y.gs := by
      have h4 := HG3.out.below HB4.out (Nat.le_refl _)
      have hb45 : Below w4.heap.size w4 w5 := by rw [← HW5.out]; exact keep_alloc (keep_alloc (Below.refl _ _) _) _
      exact h4.below hb45 (Nat.le_refl _)
    have HBG5 := Lib.hid hbg5
    have HGE5 := Lib.hid hge5
    have hgl : y.gs.length = m := hge5.1
    clear hbg5 hge5
    by_cases hn2 : y.bd.length < 2
    · have hd2 : decide ((y.bd.length : Int) < 2) = true := decide_eq_true (by omega)
      clear hn2
      go_wp2_with fail
      rw [HW5.out]
      go_ret
      exact ⟨rfl, HB5.out⟩
    have hd2 : decide ((y.bd.length : Int) < 2) = false := decide_eq_false (by omega)
    obtain ⟨dn, hdn⟩ : ∃ dn, dv % y.bd.length = dn := ⟨_, rfl⟩
    have hdl : dn < y.bd.length := by rw [← hdn]; exact Nat.mod_lt _ (by omega)
    have hm1 : (dv : Int) % (y.bd.length : Int) = (dn : Int) := by rw [← hdn]; rfl
    have hm2 : (dv : Int).tmod (y.bd.length : Int) = (dn : Int) := by rw [← hdn]; exact (Int.ofNat_tmod _ _).symm
    clear hdn
    go_wp2_with fail
    rw [HW5.out]
    go_loopw [18, 19] (fun t i wr => ∃ k : Nat, k ≤ m ∧ t = .int .i64 (grpTo y.gs y.secs dn k) ∧ i = .int .i64 k ∧ Below w5.heap.size w5 wr) (fun _ i _ => m - (RowKit.intOf i).toNat)
    case atStart => exact ⟨0, Nat.zero_le _, rfl, rfl, Below.refl _ _⟩
    case round =>
      obtain ⟨k, hk, rfl, rfl, hbr⟩ := hrel
      have hgr := HBG5.out.below hbr HBG5.out.lt
      have hger := HGE5.out.below hbr (Nat.le_refl _)
      have g0 := hgr.at_ (i := 0) (v := .slice A m c) rfl
      have g1 := hgr.at_ (i := 1) (v := .int .i64 y.secs) rfl
      by_cases hlt : k < m
      · have hdc : decide (k < m) = true := decide_eq_true hlt
        have hRF := refFirst_any A m c y.gs y.secs k wr hger (by unfold gHas; rw [HY.out.2.2.1, decide_eq_true (show (0 : Int) ≤ k by omega), decide_eq_true (show (k : Int) < y.gs.length by omega)]; rfl)
        obtain ⟨F, hF⟩ : ∃ F, gFirst y.gs y.secs k = F := ⟨_, rfl⟩
        rw [hF] at hRF
        have HRF := Lib.hid hRF
        have HLT := Lib.hid hlt
        have HBR := Lib.hid hbr
        have hk64 : m ≤ 1000 := by
          have := HY.out.2.2.1
          simp only [gRight, Bool.and_eq_true, decide_eq_true_eq] at this
          omega
        clear hRF hgr hger hbr
        by_cases hle : F ≤ dn
        · have hd9 : decide (F ≤ (dn : Int)) = true := decide_eq_true hle
          have HGT : Hid (grpTo y.gs y.secs dn (k + 1) = k) := Lib.hid (by unfold grpTo; rw [hF, if_pos hle])
          clear hF hle
          go_wp2_with fail
          refine HRF.out.mono ?_
          rintro e w6 ⟨rfl, hb6⟩
          have HB6 := Lib.hid (keep_below hb6 HBR.out)
          clear hb6 g0 g1 HRF
          go_wp2_with fail
          go_roundw
          case rel => exact ⟨k + 1, HLT.out, by rw [HGT.out], by go_num, HB6.out⟩
          case measure => have := HLT.out; simp [RowKit.intOf]; omega
        · have hd9 : decide (F ≤ (dn : Int)) = false := decide_eq_false hle
          have HGT : Hid (grpTo y.gs y.secs dn (k + 1) = grpTo y.gs y.secs dn k) := Lib.hid (by show (if _ then _ else _) = _; rw [hF, if_neg hle])
          clear hF hle
          go_wp2_with fail
          refine HRF.out.mono ?_
          rintro e w6 ⟨rfl, hb6⟩
          have HB6 := Lib.hid (keep_below hb6 HBR.out)
          clear hb6 g0 g1 HRF
          go_wp2_with fail
          go_roundw
          case rel => exact ⟨k + 1, HLT.out, by rw [HGT.out], by go_num, HB6.out⟩
          case measure => have := HLT.out; simp [RowKit.intOf]; omega
      · obtain rfl : k = m := by omega
        have hdc : decide ((k : Int) < k) = false := decide_eq_false (by omega)
        rename World => wb
        obtain ⟨gi, hgi⟩ : ∃ gi, grpTo y.gs y.secs dn k = gi := ⟨_, rfl⟩
        have hpos : 0 < y.gs.length := by
          cases hgs : y.gs with
          | nil => have := HV.out.nd; rw [hgs] at this; simp [gSum] at this; omega
          | cons a r => simp
        have hgil : gi < k := by rw [← hgi, ← hgl]; exact grp_lt hpos _ (Nat.le_refl _)
        obtain ⟨x, hx⟩ : ∃ x, y.gs[gi]? = some x := ⟨_, List.getElem?_eq_getElem (by omega)⟩
        rw [hgi]
        obtain ⟨bA, oA, eA, hgA⟩ := hger.2.2 (by omega)
        subst eA
        obtain ⟨q0, q1⟩ := hgA.2 gi x hx
        have hwl : y.gs.getD (grpTo y.gs y.secs dn y.gs.length) (0, 0) = x := by rw [hgl, hgi, List.getD_eq_getElem?_getD, hx]; rfl
        have hgc : decide (gi < k) = true := decide_eq_true hgil
        have HVb := Lib.hid (HV5.out.below hbr)
        have HXPb := Lib.hid (And.intro (HXP.out.1.below hbr HXP.out.1.lt) (HXP.out.2.below hbr HXP.out.2.lt))
        have HBb := Lib.hid (HB5.out.trans (hbr.mono HB5.out.size))
        have HHb := Lib.hid (HH5.out.below hbr)
        obtain ⟨xk, xw⟩ := x
        dsimp only at q0 q1
        by_cases hw2 : xw < 2
        · have hdw : decide (xw < 2) = true := decide_eq_true hw2
          clear hw2 hgi hx hwl hger hgA hgr hbr
          go_wp2_with fail
          go_ret
          exact ⟨rfl, HBb.out⟩
        have hdw : decide (xw < 2) = false := decide_eq_false hw2
        have HWD : Hid (2 ≤ (y.gs.getD (grpTo y.gs y.secs dn y.gs.length) (0, 0)).2) := Lib.hid (by rw [hwl]; exact Int.not_lt.1 hw2)
        obtain ⟨b, hb⟩ : ∃ b, y.bd[dn]? = some b := ⟨_, List.getElem?_eq_getElem hdl⟩
        obtain ⟨d, hd⟩ : ∃ d, ds1[dn]? = some d := ⟨_, List.getElem?_eq_getElem (by rw [HV.out.n2]; exact hdl)⟩
        have hdd1 : dn < ds1.length := by rw [HV.out.n2]; exact hdl
        have hodd := HF.out.2.2 d (List.mem_of_getElem? hd)
        have hrow := HVb.out.row dn b hb
        have hxb := HXPb.out.1
        have z2 := hxb.at_ (i := 2) (v := .slice (some ⟨y.lb, 0, none⟩) y.bd.length y.lc) rfl
        have z3 := hxb.at_ (i := 3) (v := .slice (some ⟨y.ab, 0, none⟩) y.bd.length y.bd.length) rfl
        have hdnc : decide (dn < y.bd.length) = true := decide_eq_true hdl
        have HD := Lib.hid (And.intro hb (And.intro hd (And.intro hodd hdd1)))
        obtain ⟨hN, hhN⟩ : ∃ hN, how.toNat = hN := ⟨_, rfl⟩
        have hhl : hN < 256 := by rw [← hhN]; exact how.toNat_lt
        have HHN := Lib.hid hhN
        rw [hhN]
        clear hw2 hgi hx hwl hger hgA hgr hbr hb hd hodd hdd1 hxb hhN hpos
        obtain ⟨r, hr⟩ : ∃ r, hN % 4 = r := ⟨_, rfl⟩
        have hr4 : r < 4 := by omega
        have hr1 : (hN : Int) % 4 = (r : Int) := by omega
        have hr2 : (hN : Int).tmod 4 = (r : Int) := by rw [← hr]; exact (Int.ofNat_tmod _ _).symm
        have HHL := Lib.hid hhl
        clear hr
        rcases (show r = 0 ∨ r = 1 ∨ r = 2 ∨ r = 3 by omega) with rfl | rfl | rfl | rfl
        · have hfl := vlose_any HVb.out HD.out.1 HD.out.2.1
          have HFL := Lib.hid hfl
          clear hfl
          go_wp2_with fail
          refine HFL.out.mono ?_
          rintro e w6 ⟨rfl, ⟨S6, hV6⟩, hst6⟩
          have hX6 : Blk w6 w4.heap.size 37 y.cells := (hst6.heap HU1.out.1 HXPb.out.1.lt).trans HXPb.out.1
          have hP6 : Blk w6 (w4.heap.size + 1) 31 #[.int .i64 qd.ag, .int .i64 qd.aa, .int .i64 qd.bg, .int .i64 qd.ba, .bool qd.two, .int .i64 qd.size, .int .i64 qd.level, .int .i64 qd.birth, .int .u64 qd.s0, .int .u64 qd.s1, .int .u64 qd.s2, .int .u64 qd.s3] := (hst6.heap HU1.out.2.1 HXPb.out.2.lt).trans HXPb.out.2
          have hbf6 : Below w.heap.size w w6 := HBb.out.trans (hst6.below HBb.out.size (fun i hi => HU1.out.2.2 i (by have := HD3.out.size; omega)))
          have hgone : hereD aw (ds1.set dn d.lose) dn = false := lose_hereD d HD.out.2.2.2
          have hbut : But aw aw ds1 (ds1.set dn d.lose) dn := but_of fun j hj => ⟨by rw [List.getElem?_set, if_neg (fun e => hj e.symm)], rfl⟩
          have hokD : DsOk 128 y.secs (ds1.set dn d.lose) := set_ok HF.out.2.2 ⟨lose_ok HD.out.2.2.1.1, HD.out.2.2.1.2.1, HD.out.2.2.1.2.2.1, fun k => Nat.zero_le _⟩
          obtain ⟨D, hDD⟩ : ∃ D, ds1.set dn d.lose = D := ⟨_, rfl⟩
          rw [hDD] at hV6 hgone hbut hokD
          clear hDD hst6 HFL g0 g1 q0 q1 hrow z2 z3
          have hlk0 := one_look HY.out.2.2.2.2 HS.out.1.2 HS.out.2 HS.out.1.1 hokD HF.out.1 hbut (wide_law HY.out.2.2.2.2 HWD.out)
          obtain ⟨⟨ct, cpl, cdv, cfx⟩, hlk0⟩ := hlk0
          have hlk := look_any hV6 (by omega) hokD qd
          rw [hlk0] at hlk
          dsimp only [CameD.cells] at hlk
          have hfs : fsum ct = fsum s ∧ ct.length ≤ 256 := by
            have h1 := look_found HY.out.2.2.2.2 hokD hlk0
            have h2 := cMay_bd HMP.out
            exact ⟨h1.1.trans HS.out.1.1.symm, by have := h1.2; dsimp only at this; omega⟩
          have hnx : ct = s → readN true y.gs y.secs aw qd D = 0 := fun he => one_nofix HY.out.2.2.2.2 HS.out.1.2 HS.out.2 HF.out.1 hbut hgone hlk0 he
          have HLK := Lib.hid hlk
          have HL0 := Lib.hid hlk0
          have HFS := Lib.hid hfs
          have HV6 := Lib.hid hV6
          have HOK := Lib.hid hokD
          have H6 := Lib.hid (And.intro hX6 (And.intro hP6 hbf6))
          obtain ⟨x0, x1, x2, x3⟩ := vxF (hX6)
          obtain ⟨p0, p1, p2, p3, p4, p5, p6, p7, p8, p9, p10, p11⟩ := ptF (hP6)
          clear hlk hlk0 hfs hV6 hokD hX6 hP6 hbf6 hbut
          go_wp2_with fail
          refine HLK.out.mono ?_
          rintro e w8 ⟨rfl, hb8⟩
          obtain ⟨w9, hw9⟩ : ∃ z, w8.alloc (.cells #[str ct, .int .i64 cpl, .int .i64 cdv, .int .i64 cfx] 45) = z := ⟨_, rfl⟩
          have hb89 : Below w8.heap.size w8 w9 := by rw [← hw9]; exact keep_alloc (Below.refl _ _) _
          have hb9 : Below w6.heap.size w6 w9 := keep_below hb89 hb8
          have hbf9 : Below w.heap.size w w9 := H6.out.2.2.trans (hb9.mono H6.out.2.2.size)
          have HB9 := Lib.hid (And.intro hb9 hbf9)
          have HW9 := Lib.hid hw9
          clear x0 x1 x2 x3 p0 p1 p2 p3 p4 p5 p6 p7 p8 p9 p10 p11
          by_cases hts : ct = s
          case neg =>
            have hne : (ct == s) = false := beq_eq_false_iff_ne.2 hts
            obtain ⟨F, hF⟩ : ∃ F, fsum s = F := ⟨_, rfl⟩
            have hF2 : fsum ct = F := HFS.out.1.trans hF
            have hs1 := fun W => fsum_any ct (by have := HFS.out.2; omega) W
            have hs2 := fun W => fsum_any s (by have := HY.out.1; omega) W
            simp only [hF2] at hs1
            simp only [hF] at hs2
            have HS1 := Lib.hid hs1
            have HS2 := Lib.hid hs2
            have HEQ : ∀ X, (binOp .eql 29 (.agg (fcells F)) (.agg (fcells F))).run Tryz.prog X = .ok (.bool true) X := fun X => by
              have := eql_sum F F X
              rw [beq_self_eq_true] at this
              exact this
            clear hts hF hF2 hs1 hs2 hw9 hb8 hb89 hb9 hbf9
            go_wp2_with fail
            rw [HW9.out]
            refine (HS1.out w9).mono ?_
            rintro e w10 ⟨rfl, hb10⟩
            have HB10 := Lib.hid (HB9.out.2.trans (hb10.mono HB9.out.2.size))
            clear hb10
            go_wp2_with fail
            refine (HS2.out w10).mono ?_
            rintro e w11 ⟨rfl, hb11⟩
            have HB11 := Lib.hid (HB10.out.trans (hb11.mono HB10.out.size))
            clear hb11
            go_wp2_with fail
            go_ret
            exact ⟨rfl, HB11.out⟩
          have hx9 := H6.out.1.below hb9 H6.out.1.lt
          have hp9 := H6.out.2.1.below hb9 H6.out.2.1.lt
          obtain ⟨x0, x1, x2, x3⟩ := vxF (hx9)
          obtain ⟨p0, p1, p2, p3, p4, p5, p6, p7, p8, p9, p10, p11⟩ := ptF (hp9)
          rw [← hw9] at x0 x1 x2 x3 p0 p1 p2 p3 p4 p5 p6 p7 p8 p9 p10 p11
          obtain ⟨U2, hU2⟩ : ∃ U2, U2 = more U1 w6 w9 := ⟨_, rfl⟩
          have hV9 := HV6.out.more hb9
          rw [← hU2] at hV9
          have hu2 : ∀ b, U1 b → U2 b := by rw [hU2]; exact fun b hb => .inl hb
          have hsc := scrub10_any hV9 (by omega) HOK.out (by decide) qd
          rw [HL0.out] at hsc
          obtain ⟨n1, hn1⟩ : ∃ n1, readN true y.gs y.secs aw qd D = n1 := ⟨_, rfl⟩
          obtain ⟨D2, hD2⟩ : ∃ D2, readD true y.gs y.secs aw qd D = D2 := ⟨_, rfl⟩
          rw [hn1, hD2] at hsc
          dsimp only [CameD.cells] at hsc
          have HN := hnx hts
          rw [hn1] at HN
          subst HN
          clear hn1 hD2
          have HSC := Lib.hid hsc
          have H9 := Lib.hid (And.intro hx9 (And.intro hp9 (And.intro hu2 hV9.us)))
          subst hts
          clear hw9 hb8 hb89 hb9 hbf9 hx9 hp9 hU2 hV9 hu2 hsc hnx
          go_wp2_with fail
          rw [HW9.out]
          refine HSC.out.mono ?_
          rintro e w10 ⟨rfl, ⟨S10, hV10⟩, hst10⟩
          clear x0 x1 x2 x3 p0 p1 p2 p3 p4 p5 p6 p7 p8 p9 p10 p11
          have hbf10 : Below w.heap.size w w10 := HB9.out.2.trans (hst10.below HB9.out.2.size (fun i hi => H9.out.2.2.1 i (HU1.out.2.2 i (by have := HD3.out.size; omega))))
          have hdd : (ct == ct) = true := beq_self_eq_true _
          have HBF := Lib.hid hbf10
          clear hbf10 hst10 hV10 HSC
          go_wp2_with fail
          go_ret
          exact ⟨rfl, keep_alloc HBF.out _⟩
        · obtain ⟨av, hav⟩ : ∃ av, aw[dn]? = some av := ⟨_, List.getElem?_eq_getElem (by rw [HV.out.n1]; exact hdl)⟩
          have q5 := HVb.out.box.at_ (i := dn) (v := .bool av) (by simp [hav])
          have q6 := HVb.out.box.fr dn
          have hyab : y.ab < w4.heap.size := HV.out.us _ HV.out.ua
          obtain ⟨w6, hw6⟩ : ∃ z, wb.setCell ⟨y.ab, dn, none⟩ (.bool true) = z := ⟨_, rfl⟩
          have hV6 := HVb.out.away dn true
          have hX6 : Blk (wb.setCell ⟨y.ab, dn, none⟩ (.bool true)) w4.heap.size 37 y.cells := HXPb.out.1.far (by show w4.heap.size ≠ y.ab; omega) _
          have hP6 : Blk (wb.setCell ⟨y.ab, dn, none⟩ (.bool true)) (w4.heap.size + 1) 31 #[.int .i64 qd.ag, .int .i64 qd.aa, .int .i64 qd.bg, .int .i64 qd.ba, .bool qd.two, .int .i64 qd.size, .int .i64 qd.level, .int .i64 qd.birth, .int .u64 qd.s0, .int .u64 qd.s1, .int .u64 qd.s2, .int .u64 qd.s3] := HXPb.out.2.far (by show w4.heap.size + 1 ≠ y.ab; omega) _
          have hbf6 : Below w.heap.size w (wb.setCell ⟨y.ab, dn, none⟩ (.bool true)) := below_set HBb.out _ _ _ (by have := HYL.out.1; have := HD3.out.size; omega)
          rw [hw6] at hV6 hX6 hP6 hbf6
          have hgone : hereD (aw.set dn true) ds1 dn = false := hereD_set (by rw [HV.out.n1]; exact hdl)
          have hbut : But aw (aw.set dn true) ds1 ds1 dn := but_of fun j hj => ⟨rfl, by rw [List.getD_eq_getElem?_getD, List.getElem?_set, if_neg (fun e => hj e.symm), ← List.getD_eq_getElem?_getD]⟩
          have hokD : DsOk 128 y.secs ds1 := HF.out.2.2
          obtain ⟨aw2, haw2⟩ : ∃ aw2, aw.set dn true = aw2 := ⟨_, rfl⟩
          rw [haw2] at hV6 hgone hbut
          have HW6 := Lib.hid hw6
          clear haw2 hav hyab
          have hlk0 := one_look HY.out.2.2.2.2 HS.out.1.2 HS.out.2 HS.out.1.1 hokD HF.out.1 hbut (wide_law HY.out.2.2.2.2 HWD.out)
          obtain ⟨⟨ct, cpl, cdv, cfx⟩, hlk0⟩ := hlk0
          have hlk := look_any hV6 (by omega) hokD qd
          rw [hlk0] at hlk
          dsimp only [CameD.cells] at hlk
          have hfs : fsum ct = fsum s ∧ ct.length ≤ 256 := by
            have h1 := look_found HY.out.2.2.2.2 hokD hlk0
            have h2 := cMay_bd HMP.out
            exact ⟨h1.1.trans HS.out.1.1.symm, by have := h1.2; dsimp only at this; omega⟩
          have hnx : ct = s → readN true y.gs y.secs aw2 qd ds1 = 0 := fun he => one_nofix HY.out.2.2.2.2 HS.out.1.2 HS.out.2 HF.out.1 hbut hgone hlk0 he
          have HLK := Lib.hid hlk
          have HL0 := Lib.hid hlk0
          have HFS := Lib.hid hfs
          have HV6 := Lib.hid hV6
          have HOK := Lib.hid hokD
          have H6 := Lib.hid (And.intro hX6 (And.intro hP6 hbf6))
          obtain ⟨x0, x1, x2, x3⟩ := vxF (hX6)
          obtain ⟨p0, p1, p2, p3, p4, p5, p6, p7, p8, p9, p10, p11⟩ := ptF (hP6)
          rw [← hw6] at x0 x1 x2 x3 p0 p1 p2 p3 p4 p5 p6 p7 p8 p9 p10 p11
          clear hlk hlk0 hfs hV6 hokD hX6 hP6 hbf6 hbut hw6
          go_wp2_with fail
          rw [HW6.out]
          clear g0 g1 q0 q1 q5 q6 hrow z2 z3
          refine HLK.out.mono ?_
          rintro e w8 ⟨rfl, hb8⟩
          obtain ⟨w9, hw9⟩ : ∃ z, w8.alloc (.cells #[str ct, .int .i64 cpl, .int .i64 cdv, .int .i64 cfx] 45) = z := ⟨_, rfl⟩
          have hb89 : Below w8.heap.size w8 w9 := by rw [← hw9]; exact keep_alloc (Below.refl _ _) _
          have hb9 : Below w6.heap.size w6 w9 := keep_below hb89 hb8
          have hbf9 : Below w.heap.size w w9 := H6.out.2.2.trans (hb9.mono H6.out.2.2.size)
          have HB9 := Lib.hid (And.intro hb9 hbf9)
          have HW9 := Lib.hid hw9
          clear x0 x1 x2 x3 p0 p1 p2 p3 p4 p5 p6 p7 p8 p9 p10 p11
          by_cases hts : ct = s
          case neg =>
            have hne : (ct == s) = false := beq_eq_false_iff_ne.2 hts
            obtain ⟨F, hF⟩ : ∃ F, fsum s = F := ⟨_, rfl⟩
            have hF2 : fsum ct = F := HFS.out.1.trans hF
            have hs1 := fun W => fsum_any ct (by have := HFS.out.2; omega) W
            have hs2 := fun W => fsum_any s (by have := HY.out.1; omega) W
            simp only [hF2] at hs1
            simp only [hF] at hs2
            have HS1 := Lib.hid hs1
            have HS2 := Lib.hid hs2
            have HEQ : ∀ X, (binOp .eql 29 (.agg (fcells F)) (.agg (fcells F))).run Tryz.prog X = .ok (.bool true) X := fun X => by
              have := eql_sum F F X
              rw [beq_self_eq_true] at this
              exact this
            clear hts hF hF2 hs1 hs2 hw9 hb8 hb89 hb9 hbf9
            go_wp2_with fail
            rw [HW9.out]
            refine (HS1.out w9).mono ?_
            rintro e w10 ⟨rfl, hb10⟩
            have HB10 := Lib.hid (HB9.out.2.trans (hb10.mono HB9.out.2.size))
            clear hb10
            go_wp2_with fail
            refine (HS2.out w10).mono ?_
            rintro e w11 ⟨rfl, hb11⟩
            have HB11 := Lib.hid (HB10.out.trans (hb11.mono HB10.out.size))
            clear hb11
            go_wp2_with fail
            go_ret
            exact ⟨rfl, HB11.out⟩
          have hx9 := H6.out.1.below hb9 H6.out.1.lt
          have hp9 := H6.out.2.1.below hb9 H6.out.2.1.lt
          obtain ⟨x0, x1, x2, x3⟩ := vxF (hx9)
          obtain ⟨p0, p1, p2, p3, p4, p5, p6, p7, p8, p9, p10, p11⟩ := ptF (hp9)
          rw [← hw9] at x0 x1 x2 x3 p0 p1 p2 p3 p4 p5 p6 p7 p8 p9 p10 p11
          obtain ⟨U2, hU2⟩ : ∃ U2, U2 = more U1 w6 w9 := ⟨_, rfl⟩
          have hV9 := HV6.out.more hb9
          rw [← hU2] at hV9
          have hu2 : ∀ b, U1 b → U2 b := by rw [hU2]; exact fun b hb => .inl hb
          have hsc := scrub10_any hV9 (by omega) HOK.out (by decide) qd
          rw [HL0.out] at hsc
          obtain ⟨n1, hn1⟩ : ∃ n1, readN true y.gs y.secs aw2 qd ds1 = n1 := ⟨_, rfl⟩
          obtain ⟨D2, hD2⟩ : ∃ D2, readD true y.gs y.secs aw2 qd ds1 = D2 := ⟨_, rfl⟩
          rw [hn1, hD2] at hsc
          dsimp only [CameD.cells] at hsc
          have HN := hnx hts
          rw [hn1] at HN
          subst HN
          clear hn1 hD2
          have HSC := Lib.hid hsc
          have H9 := Lib.hid (And.intro hx9 (And.intro hp9 (And.intro hu2 hV9.us)))
          subst hts
          clear hw9 hb8 hb89 hb9 hbf9 hx9 hp9 hU2 hV9 hu2 hsc hnx
          go_wp2_with fail
          rw [HW9.out]
          refine HSC.out.mono ?_
          rintro e w10 ⟨rfl, ⟨S10, hV10⟩, hst10⟩
          clear x0 x1 x2 x3 p0 p1 p2 p3 p4 p5 p6 p7 p8 p9 p10 p11
          have hbf10 : Below w.heap.size w w10 := HB9.out.2.trans (hst10.below HB9.out.2.size (fun i hi => H9.out.2.2.1 i (HU1.out.2.2 i (by have := HD3.out.size; omega))))
          have hdd : (ct == ct) = true := beq_self_eq_true _
          have HBF := Lib.hid hbf10
          clear hbf10 hst10 hV10 HSC
          go_wp2_with fail
          go_ret
          exact ⟨rfl, keep_alloc HBF.out _⟩
        · have hfl := vfresh_any HVb.out HF.out.2.2 HD.out.1 HD.out.2.1 how
          rw [HHN.out] at hfl
          have HFL := Lib.hid hfl
          clear hfl
          go_wp2_with fail
          refine HFL.out.mono ?_
          rintro e w6 ⟨rfl, ⟨S6, hV6⟩, hst6⟩
          have hX6 : Blk w6 w4.heap.size 37 y.cells := (hst6.heap HU1.out.1 HXPb.out.1.lt).trans HXPb.out.1
          have hP6 : Blk w6 (w4.heap.size + 1) 31 #[.int .i64 qd.ag, .int .i64 qd.aa, .int .i64 qd.bg, .int .i64 qd.ba, .bool qd.two, .int .i64 qd.size, .int .i64 qd.level, .int .i64 qd.birth, .int .u64 qd.s0, .int .u64 qd.s1, .int .u64 qd.s2, .int .u64 qd.s3] := (hst6.heap HU1.out.2.1 HXPb.out.2.lt).trans HXPb.out.2
          have hbf6 : Below w.heap.size w w6 := HBb.out.trans (hst6.below HBb.out.size (fun i hi => HU1.out.2.2 i (by have := HD3.out.size; omega)))
          have hallD : AllHere aw (ds1.set dn (DevD.blank y.secs how)) y.bd.length := set_hereD HD.out.2.2.2 rfl HF.out.2.1 hdl
          have hbut : But aw aw ds1 (ds1.set dn (DevD.blank y.secs how)) dn := but_of fun j hj => ⟨by rw [List.getElem?_set, if_neg (fun e => hj e.symm)], rfl⟩
          have hokD : DsOk 128 y.secs (ds1.set dn (DevD.blank y.secs how)) := set_ok HF.out.2.2 ⟨blank_ok (by omega) (by omega), by show (List.replicate y.secs _).length = y.secs; rw [List.length_replicate], rfl, fun k => Nat.zero_le _⟩
          obtain ⟨D, hDD⟩ : ∃ D, ds1.set dn (DevD.blank y.secs how) = D := ⟨_, rfl⟩
          rw [hDD] at hV6 hallD hbut hokD
          clear hDD hst6 HFL g0 g1 q0 q1 hrow z2 z3
          have hlk0 := one_look HY.out.2.2.2.2 HS.out.1.2 HS.out.2 HS.out.1.1 hokD HF.out.1 hbut (wide_law HY.out.2.2.2.2 HWD.out)
          obtain ⟨⟨ct, cpl, cdv, cfx⟩, hlk0⟩ := hlk0
          have hlk := look_any hV6 (by omega) hokD qd
          rw [hlk0] at hlk
          dsimp only [CameD.cells] at hlk
          have hfs : fsum ct = fsum s ∧ ct.length ≤ 256 := by
            have h1 := look_found HY.out.2.2.2.2 hokD hlk0
            have h2 := cMay_bd HMP.out
            exact ⟨h1.1.trans HS.out.1.1.symm, by have := h1.2; dsimp only at this; omega⟩
          have hnx : ct = s → Full y.gs y.secs aw qd s (readD true y.gs y.secs aw qd D) := fun he => one_mended HY.out.2.2.2.2 HY.out.2.2.1 hV6.nd hV6.n2 hokD hallD HS.out.1.2 HS.out.2 hlk0 he
          have HLK := Lib.hid hlk
          have HL0 := Lib.hid hlk0
          have HFS := Lib.hid hfs
          have HV6 := Lib.hid hV6
          have HOK := Lib.hid hokD
          have H6 := Lib.hid (And.intro hX6 (And.intro hP6 hbf6))
          obtain ⟨x0, x1, x2, x3⟩ := vxF (hX6)
          obtain ⟨p0, p1, p2, p3, p4, p5, p6, p7, p8, p9, p10, p11⟩ := ptF (hP6)
          clear hlk hlk0 hfs hV6 hokD hX6 hP6 hbf6 hbut
          go_wp2_with fail
          refine HLK.out.mono ?_
          rintro e w8 ⟨rfl, hb8⟩
          obtain ⟨w9, hw9⟩ : ∃ z, w8.alloc (.cells #[str ct, .int .i64 cpl, .int .i64 cdv, .int .i64 cfx] 45) = z := ⟨_, rfl⟩
          have hb89 : Below w8.heap.size w8 w9 := by rw [← hw9]; exact keep_alloc (Below.refl _ _) _
          have hb9 : Below w6.heap.size w6 w9 := keep_below hb89 hb8
          have hbf9 : Below w.heap.size w w9 := H6.out.2.2.trans (hb9.mono H6.out.2.2.size)
          have HB9 := Lib.hid (And.intro hb9 hbf9)
          have HW9 := Lib.hid hw9
          clear x0 x1 x2 x3 p0 p1 p2 p3 p4 p5 p6 p7 p8 p9 p10 p11
          by_cases hts : ct = s
          case neg =>
            have hne : (ct == s) = false := beq_eq_false_iff_ne.2 hts
            obtain ⟨F, hF⟩ : ∃ F, fsum s = F := ⟨_, rfl⟩
            have hF2 : fsum ct = F := HFS.out.1.trans hF
            have hs1 := fun W => fsum_any ct (by have := HFS.out.2; omega) W
            have hs2 := fun W => fsum_any s (by have := HY.out.1; omega) W
            simp only [hF2] at hs1
            simp only [hF] at hs2
            have HS1 := Lib.hid hs1
            have HS2 := Lib.hid hs2
            have HEQ : ∀ X, (binOp .eql 29 (.agg (fcells F)) (.agg (fcells F))).run Tryz.prog X = .ok (.bool true) X := fun X => by
              have := eql_sum F F X
              rw [beq_self_eq_true] at this
              exact this
            clear hts hF hF2 hs1 hs2 hw9 hb8 hb89 hb9 hbf9
            go_wp2_with fail
            rw [HW9.out]
            refine (HS1.out w9).mono ?_
            rintro e w10 ⟨rfl, hb10⟩
            have HB10 := Lib.hid (HB9.out.2.trans (hb10.mono HB9.out.2.size))
            clear hb10
            go_wp2_with fail
            refine (HS2.out w10).mono ?_
            rintro e w11 ⟨rfl, hb11⟩
            have HB11 := Lib.hid (HB10.out.trans (hb11.mono HB10.out.size))
            clear hb11
            go_wp2_with fail
            go_ret
            exact ⟨rfl, HB11.out⟩
          have hx9 := H6.out.1.below hb9 H6.out.1.lt
          have hp9 := H6.out.2.1.below hb9 H6.out.2.1.lt
          obtain ⟨x0, x1, x2, x3⟩ := vxF (hx9)
          obtain ⟨p0, p1, p2, p3, p4, p5, p6, p7, p8, p9, p10, p11⟩ := ptF (hp9)
          rw [← hw9] at x0 x1 x2 x3 p0 p1 p2 p3 p4 p5 p6 p7 p8 p9 p10 p11
          obtain ⟨U2, hU2⟩ : ∃ U2, U2 = more U1 w6 w9 := ⟨_, rfl⟩
          have hV9 := HV6.out.more hb9
          rw [← hU2] at hV9
          have hu2 : ∀ b, U1 b → U2 b := by rw [hU2]; exact fun b hb => .inl hb
          have hsc := scrub10_any hV9 (by omega) HOK.out (by decide) qd
          rw [HL0.out] at hsc
          obtain ⟨n1, hn1⟩ : ∃ n1, readN true y.gs y.secs aw qd D = n1 := ⟨_, rfl⟩
          obtain ⟨D2, hD2⟩ : ∃ D2, readD true y.gs y.secs aw qd D = D2 := ⟨_, rfl⟩
          rw [hn1, hD2] at hsc
          dsimp only [CameD.cells] at hsc
          have HN := hnx hts
          rw [hD2] at HN
          have hokD2 : DsOk 256 y.secs D2 := by rw [← hD2]; exact readD_ok HOK.out
          have hfw := full_whole HY.out.2.2.2.2 HY.out.2.2.1 HV.out.nd HS.out.1.2 HS.out.2 HS.out.1.1 HN
          obtain ⟨⟨dt, dpl, ddv, dfx⟩, hlk2, hct2, hcp2⟩ := full_look HY.out.2.2.2.2 HY.out.2.2.1 HV.out.nd HS.out.1.2 HS.out.2 HS.out.1.1 HN
          have HFW := Lib.hid (And.intro hfw (And.intro hlk2 hokD2))
          clear HN hn1 hD2 hokD2 hfw hlk2 hct2 hcp2
          have HSC := Lib.hid hsc
          have H9 := Lib.hid (And.intro hx9 (And.intro hp9 (And.intro hu2 hV9.us)))
          subst hts
          clear hw9 hb8 hb89 hb9 hbf9 hx9 hp9 hU2 hV9 hu2 hsc hnx
          go_wp2_with fail
          rw [HW9.out]
          refine HSC.out.mono ?_
          rintro e w10 ⟨rfl, ⟨S10, hV10⟩, hst10⟩
          clear x0 x1 x2 x3 p0 p1 p2 p3 p4 p5 p6 p7 p8 p9 p10 p11
          have hbf10 : Below w.heap.size w w10 := HB9.out.2.trans (hst10.below HB9.out.2.size (fun i hi => H9.out.2.2.1 i (HU1.out.2.2 i (by have := HD3.out.size; omega))))
          have hdd : (ct == ct) = true := beq_self_eq_true _
          obtain ⟨w11, hw11⟩ : ∃ z, w10.alloc (.cells #[str ct, .int .i64 cpl, .int .i64 cdv, .int .i64 n1] 45) = z := ⟨_, rfl⟩
          have hb11 : Below w10.heap.size w10 w11 := by rw [← hw11]; exact keep_alloc (Below.refl _ _) _
          obtain ⟨U3, hU3⟩ : ∃ U3, U3 = more U2 w10 w11 := ⟨_, rfl⟩
          have hV11 := hV10.more hb11
          rw [← hU3] at hV11
          have hu3 : ∀ b, U2 b → U3 b := by rw [hU3]; exact fun b hb => .inl hb
          have hk : ∀ {g : Nat} {t : TypeId} {cs : Array Value}, U2 g → Blk w9 g t cs → Blk w11 g t cs := fun {g t cs} hg h => by
            have h8 : Blk w10 g t cs := (hst10.heap hg h.lt).trans h
            exact h8.below hb11 h8.lt
          have hx11 := hk (H9.out.2.2.1 _ HU1.out.1) H9.out.1
          have hp11 := hk (H9.out.2.2.1 _ HU1.out.2.1) H9.out.2.1
          have hbf : Below w.heap.size w w11 := hbf10.trans (hb11.mono hbf10.size)
          have hsc2 := scrub10_any hV11 (by omega) HFW.out.2.2 (by decide) qd
          have hz0 := (HFW.out.1.2 true).1
          obtain ⟨n2, hn2⟩ : ∃ n2, readN true y.gs y.secs aw qd D2 = n2 := ⟨_, rfl⟩
          rw [HFW.out.2.1, hn2, (HFW.out.1.2 true).2] at hsc2
          rw [hn2] at hz0
          have hnz : ((n2 : Int) == 0) = true := by rw [hz0]; rfl
          clear hz0 hn2
          dsimp only [CameD.cells] at hsc2
          obtain ⟨x0, x1, x2, x3⟩ := vxF (hx11)
          obtain ⟨p0, p1, p2, p3, p4, p5, p6, p7, p8, p9, p10, p11⟩ := ptF (hp11)
          rw [← hw11] at x0 x1 x2 x3 p0 p1 p2 p3 p4 p5 p6 p7 p8 p9 p10 p11
          have HSC2 := Lib.hid hsc2
          have HW11 := Lib.hid hw11
          have H11 := Lib.hid (And.intro hx11 (And.intro hp11 (And.intro hu3 hbf)))
          clear hw11 hb11 hU3 hV11 hu3 hk hx11 hp11 hbf hbf10 hst10 hV10 hsc2 HSC
          go_wp2_with fail
          rw [HW11.out]
          refine HSC2.out.mono ?_
          rintro e w12 ⟨rfl, ⟨S12, hV12⟩, hst12⟩
          clear x0 x1 x2 x3 p0 p1 p2 p3 p4 p5 p6 p7 p8 p9 p10 p11
          obtain ⟨w13, hw13⟩ : ∃ z, w12.alloc (.cells #[str dt, .int .i64 dpl, .int .i64 ddv, .int .i64 n2] 45) = z := ⟨_, rfl⟩
          have hb13 : Below w12.heap.size w12 w13 := by rw [← hw13]; exact keep_alloc (Below.refl _ _) _
          have hwh := whole10_any (hV12.more hb13) (by omega) HFW.out.2.2 qd
          rw [HFW.out.1.1] at hwh
          have hk : ∀ {g : Nat} {t : TypeId} {cs : Array Value}, U3 g → Blk w11 g t cs → Blk w13 g t cs := fun {g t cs} hg h => by
            have h8 : Blk w12 g t cs := (hst12.heap hg h.lt).trans h
            exact h8.below hb13 h8.lt
          have hx13 := hk (H11.out.2.2.1 _ (H9.out.2.2.1 _ HU1.out.1)) H11.out.1
          have hp13 := hk (H11.out.2.2.1 _ (H9.out.2.2.1 _ HU1.out.2.1)) H11.out.2.1
          have hbf13 : Below w.heap.size w w13 := by
            have b12 : Below w.heap.size w w12 := H11.out.2.2.2.trans (hst12.below H11.out.2.2.2.size (fun i hi => H11.out.2.2.1 i (H9.out.2.2.1 i (HU1.out.2.2 i (by have := HD3.out.size; omega)))))
            exact b12.trans (hb13.mono b12.size)
          obtain ⟨x0, x1, x2, x3⟩ := vxF (hx13)
          obtain ⟨p0, p1, p2, p3, p4, p5, p6, p7, p8, p9, p10, p11⟩ := ptF (hp13)
          rw [← hw13] at x0 x1 x2 x3 p0 p1 p2 p3 p4 p5 p6 p7 p8 p9 p10 p11
          have HWH := Lib.hid hwh
          have HW13 := Lib.hid hw13
          have HBF := Lib.hid hbf13
          clear hw13 hb13 hwh hk hx13 hp13 hbf13 hst12 hV12 HSC2
          go_wp2_with fail
          rw [HW13.out]
          refine HWH.out.mono ?_
          rintro e w14 ⟨rfl, hb14⟩
          have HB14 := Lib.hid (HBF.out.trans (hb14.mono HBF.out.size))
          clear hb14
          go_wp2_with fail
          go_ret
          exact ⟨rfl, HB14.out⟩
        · go_wp2_with fail
          go_loopw [20] (fun t wr => ∃ k : Nat, k ≤ hl.length ∧ t = .int .i64 k ∧ VdIn wr S U1 y aw (ds1.set dn (hitDev d (hl.take k))) ∧ Stays U1 wb wr) (fun t _ => hl.length - (RowKit.intOf t).toNat)
          case atStart => exact ⟨0, Nat.zero_le _, rfl, by rw [List.take_zero, hitDev_nil HD.out.2.1]; exact HVb.out, stays_refl _⟩
          case round =>
            clear g0 g1 q0 q1 hrow z2 z3
            obtain ⟨k, hk, rfl, hVr, hst⟩ := hrel
            have hxr : Blk wr w4.heap.size 37 y.cells := (hst.heap HU1.out.1 HXPb.out.1.lt).trans HXPb.out.1
            by_cases hlt : k < hl.length
            · obtain ⟨x, hx⟩ : ∃ x, hl[k]? = some x := ⟨_, List.getElem?_eq_getElem hlt⟩
              have hokk := hitSet_ok HF.out.2.2 HD.out.2.1 hl k
              obtain ⟨A', c', e0, e1, e2⟩ := HHb.out
              obtain ⟨bh, oh, e3, e4, e5⟩ := e2 (by omega)
              cases e0
              subst e3
              obtain ⟨t0, t1, t2, t3, hxok⟩ := e5 k x hx
              have hbh : bh < w3.heap.size := by
                obtain ⟨A'', c'', e6, e7, e8⟩ := HAR3.out
                obtain ⟨bh', oh', e9, e10, _⟩ := e8 (by omega)
                cases e6
                cases e9
                exact e10
              have hUh := HU1.out.2.2 bh hbh
              have heq : wr.heap[bh]? = wb.heap[bh]? := hst.heap hUh (HVb.out.us bh hUh)
              have s1 : wr.cell? ⟨bh, oh + k * 4 + 1, none⟩ = some (.int .i64 x.at_) := (cell_same' heq).trans t1
              have s2 : wr.cell? ⟨bh, oh + k * 4 + 2, none⟩ = some (.int .i64 x.place) := (cell_same' heq).trans t2
              have s3 : wr.cell? ⟨bh, oh + k * 4 + 3, none⟩ = some (.int .u8 x.by_.toNat) := (cell_same' heq).trans t3
              have x2 := hxr.at_ (i := 2) (v := .slice (some ⟨y.lb, 0, none⟩) y.bd.length y.lc) rfl
              have hdc : decide (k < hl.length) = true := decide_eq_true hlt
              have hsp := vspoil_any (hVr.same (w' := wr.drew) (Nat.le_refl _) (fun _ _ => rfl) (fun _ _ _ => rfl)) hokk (by decide) HD.out.1 x.at_ x.place hxok.2.2 x.by_
              rw [hit_set HD.out.2.1, ← take_snoc hx] at hsp
              have hrow := hVr.row dn b HD.out.1
              have HLT := Lib.hid hlt
              have HST := Lib.hid hst
              have HVR := Lib.hid hVr
              have HSP := Lib.hid hsp
              obtain ⟨S0, hS0⟩ : ∃ S0 : World → Prop, S0 = fun W => ∀ g, (g = w4.heap.size ∨ g = y.lb ∨ g = bh) → W.heap[g]? = wr.heap[g]? := ⟨_, rfl⟩
              have f0 : ∀ W, S0 W → W.cell? ⟨w4.heap.size, 2, none⟩ = some (.slice (some ⟨y.lb, 0, none⟩) y.bd.length y.lc) := fun W h => by rw [hS0] at h; exact (cell_same' (h _ (.inl rfl))).trans x2
              have f1 : ∀ W, S0 W → W.cell? ⟨y.lb, dn, none⟩ = some (.pointer (some ⟨b, 0, none⟩)) := fun W h => by rw [hS0] at h; exact (cell_same' (h _ (.inr (.inl rfl)))).trans hrow
              have f2 : ∀ W, S0 W → W.cell? ⟨bh, oh + k * 4 + 1, none⟩ = some (.int .i64 x.at_) := fun W h => by rw [hS0] at h; exact (cell_same' (h _ (.inr (.inr rfl)))).trans s1
              have f3 : ∀ W, S0 W → W.cell? ⟨bh, oh + k * 4 + 2, none⟩ = some (.int .i64 x.place) := fun W h => by rw [hS0] at h; exact (cell_same' (h _ (.inr (.inr rfl)))).trans s2
              have f4 : ∀ W, S0 W → W.cell? ⟨bh, oh + k * 4 + 3, none⟩ = some (.int .u8 x.by_.toNat) := fun W h => by rw [hS0] at h; exact (cell_same' (h _ (.inr (.inr rfl)))).trans s3
              have hSw : S0 wr.drew := by rw [hS0]; exact fun _ _ => rfl
              have hSe : ∀ W, Stays U1 wr W → S0 W := fun W hW => by
                rw [hS0]
                intro g hg
                have hg' : U1 g := by
                  rcases hg with rfl | rfl | rfl
                  · exact HU1.out.1
                  · exact HVR.out.ul
                  · exact hUh
                exact hW.heap hg' (HVR.out.us g hg')
              have HSE := Lib.hid hSe
              clear hsp hS0 hSe hokk hxok hbh hUh heq s1 s2 s3 t0 t1 t2 t3 e1 e2 e4 e5 hrow x2 hst hVr hxr hx
              go_wp2_with fail
              refine wp_region_effA S0 [20] (by kernel_rfl) (by kernel_rfl) (by kernel_rfl) hSw ?_
              refine wpLexE_take 20 (by kernel_rfl) (by kernel_rfl) ?_
              simp only [List.take_succ_cons, List.take_zero, List.drop_succ_cons, List.drop_zero]
              repeat (first
                | go_big_quiet_skip
                | (go_big_quiet_want
                   go_big_quiet_op
                   first
                     | go_big_quiet_on
                     | (apply Exists.intro
                        refine ⟨fun W hW => ?_, ?_⟩
                        · first
                            | exact rfl
                            | exact ⟨rfl, rfl⟩
                            | (have e0 := f0 W hW; have e1 := f1 W hW; have e2 := f2 W hW; have e3 := f3 W hW; have e4 := f4 W hW; simp only [e0, e1, e2, e3, e4, Result.andThen_ok]; done)
                            | (have e0 := f0 W hW; have e1 := f1 W hW; have e2 := f2 W hW; have e3 := f3 W hW; have e4 := f4 W hW; simp only [e0, e1, e2, e3, e4, Result.andThen_ok]; first | exact ⟨trivial, rfl⟩ | exact rfl | exact ⟨rfl, rfl⟩)
                            | (skip)
                        go_big_quiet_on)))
              refine wpQuiet_nil ?_
              show wpLexE _ _ _ _ _ _ _ _ _
              refine wpLexE_eff (by kernel_rfl) rfl ?_
              clear f0 f1 f2 f3 f4
              go_wp2_with fail
              refine HSP.out.mono ?_
              rintro e w8 ⟨⟨r, rfl⟩, hV8, hst8⟩
              have hst8' : Stays U1 wr w8 := ⟨hst8.os, hst8.tape, hst8.output, hst8.size, hst8.block⟩
              have hS8 := HSE.out w8 hst8'
              have HR := Lib.hid (And.intro hV8 (HST.out.trans hst8'))
              clear hV8 hst8 hst8' hSw HSP
              go_wp2_with fail
              refine ⟨rfl, hS8, ?_⟩
              unfold wpLexE
              clear hS8
              go_wp2_with fail
              go_roundw
              case rel => exact ⟨k + 1, HLT.out, by go_num, HR.out.1, HR.out.2⟩
              case measure => have := HLT.out; simp [RowKit.intOf]; omega
            · obtain rfl : k = hl.length := by omega
              have hdc : decide ((hl.length : Int) < hl.length) = false := decide_eq_false (by omega)
              rename World => w6
              rw [List.take_length] at hVr
              have hV6 := hVr
              have hX6 := hxr
              have hP6 : Blk w6 (w4.heap.size + 1) 31 #[.int .i64 qd.ag, .int .i64 qd.aa, .int .i64 qd.bg, .int .i64 qd.ba, .bool qd.two, .int .i64 qd.size, .int .i64 qd.level, .int .i64 qd.birth, .int .u64 qd.s0, .int .u64 qd.s1, .int .u64 qd.s2, .int .u64 qd.s3] := (hst.heap HU1.out.2.1 HXPb.out.2.lt).trans HXPb.out.2
              have hbf6 : Below w.heap.size w w6 := HBb.out.trans (hst.below HBb.out.size (fun i hi => HU1.out.2.2 i (by have := HD3.out.size; omega)))
              have hdlo : d.lost = false := by
                have h0 := HF.out.2.1 dn hdl
                unfold hereD at h0
                rw [HD.out.2.1] at h0
                simp only [Bool.and_eq_true, Bool.not_eq_true'] at h0
                exact h0.2
              have hallD : AllHere aw (ds1.set dn (hitDev d hl)) y.bd.length := set_hereD HD.out.2.2.2 (by rw [hitDev_lost]; exact hdlo) HF.out.2.1 hdl
              have hbut : But aw aw ds1 (ds1.set dn (hitDev d hl)) dn := but_of fun j hj => ⟨by rw [List.getElem?_set, if_neg (fun e => hj e.symm)], rfl⟩
              have hokD : DsOk 128 y.secs (ds1.set dn (hitDev d hl)) := by have := hitSet_ok HF.out.2.2 HD.out.2.1 hl hl.length; rwa [List.take_length] at this
              obtain ⟨D, hDD⟩ : ∃ D, ds1.set dn (hitDev d hl) = D := ⟨_, rfl⟩
              rw [hDD] at hV6 hallD hbut hokD
              clear hDD hst hVr hxr hdlo
              have hlk0 := one_look HY.out.2.2.2.2 HS.out.1.2 HS.out.2 HS.out.1.1 hokD HF.out.1 hbut (wide_law HY.out.2.2.2.2 HWD.out)
              obtain ⟨⟨ct, cpl, cdv, cfx⟩, hlk0⟩ := hlk0
              have hlk := look_any hV6 (by omega) hokD qd
              rw [hlk0] at hlk
              dsimp only [CameD.cells] at hlk
              have hfs : fsum ct = fsum s ∧ ct.length ≤ 256 := by
                have h1 := look_found HY.out.2.2.2.2 hokD hlk0
                have h2 := cMay_bd HMP.out
                exact ⟨h1.1.trans HS.out.1.1.symm, by have := h1.2; dsimp only at this; omega⟩
              have hnx : ct = s → Full y.gs y.secs aw qd s (readD true y.gs y.secs aw qd D) := fun he => one_mended HY.out.2.2.2.2 HY.out.2.2.1 hV6.nd hV6.n2 hokD hallD HS.out.1.2 HS.out.2 hlk0 he
              have HLK := Lib.hid hlk
              have HL0 := Lib.hid hlk0
              have HFS := Lib.hid hfs
              have HV6 := Lib.hid hV6
              have HOK := Lib.hid hokD
              have H6 := Lib.hid (And.intro hX6 (And.intro hP6 hbf6))
              obtain ⟨x0, x1, x2, x3⟩ := vxF (hX6)
              obtain ⟨p0, p1, p2, p3, p4, p5, p6, p7, p8, p9, p10, p11⟩ := ptF (hP6)
              clear hlk hlk0 hfs hV6 hokD hX6 hP6 hbf6 hbut
              go_wp2_with fail
              refine HLK.out.mono ?_
              rintro e w8 ⟨rfl, hb8⟩
              obtain ⟨w9, hw9⟩ : ∃ z, w8.alloc (.cells #[str ct, .int .i64 cpl, .int .i64 cdv, .int .i64 cfx] 45) = z := ⟨_, rfl⟩
              have hb89 : Below w8.heap.size w8 w9 := by rw [← hw9]; exact keep_alloc (Below.refl _ _) _
              have hb9 : Below w6.heap.size w6 w9 := keep_below hb89 hb8
              have hbf9 : Below w.heap.size w w9 := H6.out.2.2.trans (hb9.mono H6.out.2.2.size)
              have HB9 := Lib.hid (And.intro hb9 hbf9)
              have HW9 := Lib.hid hw9
              clear x0 x1 x2 x3 p0 p1 p2 p3 p4 p5 p6 p7 p8 p9 p10 p11
              by_cases hts : ct = s
              case neg =>
                have hne : (ct == s) = false := beq_eq_false_iff_ne.2 hts
                obtain ⟨F, hF⟩ : ∃ F, fsum s = F := ⟨_, rfl⟩
                have hF2 : fsum ct = F := HFS.out.1.trans hF
                have hs1 := fun W => fsum_any ct (by have := HFS.out.2; omega) W
                have hs2 := fun W => fsum_any s (by have := HY.out.1; omega) W
                simp only [hF2] at hs1
                simp only [hF] at hs2
                have HS1 := Lib.hid hs1
                have HS2 := Lib.hid hs2
                have HEQ : ∀ X, (binOp .eql 29 (.agg (fcells F)) (.agg (fcells F))).run Tryz.prog X = .ok (.bool true) X := fun X => by
                  have := eql_sum F F X
                  rw [beq_self_eq_true] at this
                  exact this
                clear hts hF hF2 hs1 hs2 hw9 hb8 hb89 hb9 hbf9
                go_wp2_with fail
                rw [HW9.out]
                refine (HS1.out w9).mono ?_
                rintro e w10 ⟨rfl, hb10⟩
                have HB10 := Lib.hid (HB9.out.2.trans (hb10.mono HB9.out.2.size))
                clear hb10
                go_wp2_with fail
                refine (HS2.out w10).mono ?_
                rintro e w11 ⟨rfl, hb11⟩
                have HB11 := Lib.hid (HB10.out.trans (hb11.mono HB10.out.size))
                clear hb11
                go_wp2_with fail
                go_ret
                exact ⟨rfl, HB11.out⟩
              have hx9 := H6.out.1.below hb9 H6.out.1.lt
              have hp9 := H6.out.2.1.below hb9 H6.out.2.1.lt
              obtain ⟨x0, x1, x2, x3⟩ := vxF (hx9)
              obtain ⟨p0, p1, p2, p3, p4, p5, p6, p7, p8, p9, p10, p11⟩ := ptF (hp9)
              rw [← hw9] at x0 x1 x2 x3 p0 p1 p2 p3 p4 p5 p6 p7 p8 p9 p10 p11
              obtain ⟨U2, hU2⟩ : ∃ U2, U2 = more U1 w6 w9 := ⟨_, rfl⟩
              have hV9 := HV6.out.more hb9
              rw [← hU2] at hV9
              have hu2 : ∀ b, U1 b → U2 b := by rw [hU2]; exact fun b hb => .inl hb
              have hsc := scrub10_any hV9 (by omega) HOK.out (by decide) qd
              rw [HL0.out] at hsc
              obtain ⟨n1, hn1⟩ : ∃ n1, readN true y.gs y.secs aw qd D = n1 := ⟨_, rfl⟩
              obtain ⟨D2, hD2⟩ : ∃ D2, readD true y.gs y.secs aw qd D = D2 := ⟨_, rfl⟩
              rw [hn1, hD2] at hsc
              dsimp only [CameD.cells] at hsc
              have HN := hnx hts
              rw [hD2] at HN
              have hokD2 : DsOk 256 y.secs D2 := by rw [← hD2]; exact readD_ok HOK.out
              have hfw := full_whole HY.out.2.2.2.2 HY.out.2.2.1 HV.out.nd HS.out.1.2 HS.out.2 HS.out.1.1 HN
              obtain ⟨⟨dt, dpl, ddv, dfx⟩, hlk2, hct2, hcp2⟩ := full_look HY.out.2.2.2.2 HY.out.2.2.1 HV.out.nd HS.out.1.2 HS.out.2 HS.out.1.1 HN
              have HFW := Lib.hid (And.intro hfw (And.intro hlk2 hokD2))
              clear HN hn1 hD2 hokD2 hfw hlk2 hct2 hcp2
              have HSC := Lib.hid hsc
              have H9 := Lib.hid (And.intro hx9 (And.intro hp9 (And.intro hu2 hV9.us)))
              subst hts
              clear hw9 hb8 hb89 hb9 hbf9 hx9 hp9 hU2 hV9 hu2 hsc hnx
              go_wp2_with fail
              rw [HW9.out]
              refine HSC.out.mono ?_
              rintro e w10 ⟨rfl, ⟨S10, hV10⟩, hst10⟩
              clear x0 x1 x2 x3 p0 p1 p2 p3 p4 p5 p6 p7 p8 p9 p10 p11
              have hbf10 : Below w.heap.size w w10 := HB9.out.2.trans (hst10.below HB9.out.2.size (fun i hi => H9.out.2.2.1 i (HU1.out.2.2 i (by have := HD3.out.size; omega))))
              have hdd : (ct == ct) = true := beq_self_eq_true _
              obtain ⟨w11, hw11⟩ : ∃ z, w10.alloc (.cells #[str ct, .int .i64 cpl, .int .i64 cdv, .int .i64 n1] 45) = z := ⟨_, rfl⟩
              have hb11 : Below w10.heap.size w10 w11 := by rw [← hw11]; exact keep_alloc (Below.refl _ _) _
              obtain ⟨U3, hU3⟩ : ∃ U3, U3 = more U2 w10 w11 := ⟨_, rfl⟩
              have hV11 := hV10.more hb11
              rw [← hU3] at hV11
              have hu3 : ∀ b, U2 b → U3 b := by rw [hU3]; exact fun b hb => .inl hb
              have hk : ∀ {g : Nat} {t : TypeId} {cs : Array Value}, U2 g → Blk w9 g t cs → Blk w11 g t cs := fun {g t cs} hg h => by
                have h8 : Blk w10 g t cs := (hst10.heap hg h.lt).trans h
                exact h8.below hb11 h8.lt
              have hx11 := hk (H9.out.2.2.1 _ HU1.out.1) H9.out.1
              have hp11 := hk (H9.out.2.2.1 _ HU1.out.2.1) H9.out.2.1
              have hbf : Below w.heap.size w w11 := hbf10.trans (hb11.mono hbf10.size)
              have hsc2 := scrub10_any hV11 (by omega) HFW.out.2.2 (by decide) qd
              have hz0 := (HFW.out.1.2 true).1
              obtain ⟨n2, hn2⟩ : ∃ n2, readN true y.gs y.secs aw qd D2 = n2 := ⟨_, rfl⟩
              rw [HFW.out.2.1, hn2, (HFW.out.1.2 true).2] at hsc2
              rw [hn2] at hz0
              have hnz : ((n2 : Int) == 0) = true := by rw [hz0]; rfl
              clear hz0 hn2
              dsimp only [CameD.cells] at hsc2
              obtain ⟨x0, x1, x2, x3⟩ := vxF (hx11)
              obtain ⟨p0, p1, p2, p3, p4, p5, p6, p7, p8, p9, p10, p11⟩ := ptF (hp11)
              rw [← hw11] at x0 x1 x2 x3 p0 p1 p2 p3 p4 p5 p6 p7 p8 p9 p10 p11
              have HSC2 := Lib.hid hsc2
              have HW11 := Lib.hid hw11
              have H11 := Lib.hid (And.intro hx11 (And.intro hp11 (And.intro hu3 hbf)))
              clear hw11 hb11 hU3 hV11 hu3 hk hx11 hp11 hbf hbf10 hst10 hV10 hsc2 HSC
              go_wp2_with fail
              rw [HW11.out]
              refine HSC2.out.mono ?_
              rintro e w12 ⟨rfl, ⟨S12, hV12⟩, hst12⟩
              clear x0 x1 x2 x3 p0 p1 p2 p3 p4 p5 p6 p7 p8 p9 p10 p11
              obtain ⟨w13, hw13⟩ : ∃ z, w12.alloc (.cells #[str dt, .int .i64 dpl, .int .i64 ddv, .int .i64 n2] 45) = z := ⟨_, rfl⟩
              have hb13 : Below w12.heap.size w12 w13 := by rw [← hw13]; exact keep_alloc (Below.refl _ _) _
              have hwh := whole10_any (hV12.more hb13) (by omega) HFW.out.2.2 qd
              rw [HFW.out.1.1] at hwh
              have hk : ∀ {g : Nat} {t : TypeId} {cs : Array Value}, U3 g → Blk w11 g t cs → Blk w13 g t cs := fun {g t cs} hg h => by
                have h8 : Blk w12 g t cs := (hst12.heap hg h.lt).trans h
                exact h8.below hb13 h8.lt
              have hx13 := hk (H11.out.2.2.1 _ (H9.out.2.2.1 _ HU1.out.1)) H11.out.1
              have hp13 := hk (H11.out.2.2.1 _ (H9.out.2.2.1 _ HU1.out.2.1)) H11.out.2.1
              have hbf13 : Below w.heap.size w w13 := by
                have b12 : Below w.heap.size w w12 := H11.out.2.2.2.trans (hst12.below H11.out.2.2.2.size (fun i hi => H11.out.2.2.1 i (H9.out.2.2.1 i (HU1.out.2.2 i (by have := HD3.out.size; omega)))))
                exact b12.trans (hb13.mono b12.size)
              obtain ⟨x0, x1, x2, x3⟩ := vxF (hx13)
              obtain ⟨p0, p1, p2, p3, p4, p5, p6, p7, p8, p9, p10, p11⟩ := ptF (hp13)
              rw [← hw13] at x0 x1 x2 x3 p0 p1 p2 p3 p4 p5 p6 p7 p8 p9 p10 p11
              have HWH := Lib.hid hwh
              have HW13 := Lib.hid hw13
              have HBF := Lib.hid hbf13
              clear hw13 hb13 hwh hk hx13 hp13 hbf13 hst12 hV12 HSC2
              go_wp2_with fail
              rw [HW13.out]
              refine HWH.out.mono ?_
              rintro e w14 ⟨rfl, hb14⟩
              have HB14 := Lib.hid (HBF.out.trans (hb14.mono HBF.out.size))
              clear hb14
              go_wp2_with fail
              go_ret
              exact ⟨rfl, HB14.out⟩
end Go.Proofs.YtbhkbcpljakmjaaGreat
