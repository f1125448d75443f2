/-
  The statement HealTwo, walked.
-/
import Derived.Test.YtbhkbcpljakmjaaGreatJ33
import Derived.Test.YtbhkbcpljakmjaaGreatJ35
import Derived.Test.YtbhkbcpljakmjaaGreatJ36
namespace Go.Proofs.YtbhkbcpljakmjaaGreat
set_option linter.unusedVariables false
set_option linter.unusedSimpArgs false
open Go.RowKit

theorem ptF {W : World} {g : Nat} {q : PtrD} (h : Blk W g 31 #[.int .i64 q.ag, .int .i64 q.aa, .int .i64 q.bg, .int .i64 q.ba, .bool q.two, .int .i64 q.size, .int .i64 q.level, .int .i64 q.birth, .int .u64 q.s0, .int .u64 q.s1, .int .u64 q.s2, .int .u64 q.s3]) : W.cell? ⟨g, 0, none⟩ = some (.int .i64 q.ag) ∧ W.cell? ⟨g, 1, none⟩ = some (.int .i64 q.aa) ∧ W.cell? ⟨g, 2, none⟩ = some (.int .i64 q.bg) ∧ W.cell? ⟨g, 3, none⟩ = some (.int .i64 q.ba) ∧ W.cell? ⟨g, 4, none⟩ = some (.bool q.two) ∧ W.cell? ⟨g, 5, none⟩ = some (.int .i64 q.size) ∧ W.cell? ⟨g, 6, none⟩ = some (.int .i64 q.level) ∧ W.cell? ⟨g, 7, none⟩ = some (.int .i64 q.birth) ∧ W.cell? ⟨g, 8, none⟩ = some (.int .u64 q.s0) ∧ W.cell? ⟨g, 9, none⟩ = some (.int .u64 q.s1) ∧ W.cell? ⟨g, 10, none⟩ = some (.int .u64 q.s2) ∧ W.cell? ⟨g, 11, none⟩ = some (.int .u64 q.s3) :=
  ⟨h.at_ (i := 0) rfl, h.at_ (i := 1) rfl, h.at_ (i := 2) rfl, h.at_ (i := 3) rfl, h.at_ (i := 4) rfl, h.at_ (i := 5) rfl, h.at_ (i := 6) rfl, h.at_ (i := 7) rfl, h.at_ (i := 8) rfl, h.at_ (i := 9) rfl, h.at_ (i := 10) rfl, h.at_ (i := 11) rfl⟩
theorem vxF {W : World} {g : Nat} {y : VX} (h : Blk W g 37 y.cells) : W.cell? ⟨g, 0, none⟩ = some (.slice (some ⟨y.gb, 0, none⟩) y.m y.cc) ∧ W.cell? ⟨g, 1, none⟩ = some (.int .i64 y.secs) ∧ W.cell? ⟨g, 2, none⟩ = some (.slice (some ⟨y.lb, 0, none⟩) y.bd.length y.lc) ∧ W.cell? ⟨g, 3, none⟩ = some (.slice (some ⟨y.ab, 0, none⟩) y.bd.length y.bd.length) :=
  ⟨h.at_ (i := 0) rfl, h.at_ (i := 1) rfl, h.at_ (i := 2) rfl, h.at_ (i := 3) rfl⟩
theorem cols_pos {gs : List (Int × Int)} {secs pg pa size : Int} (h : cMay gs secs pg pa size = true) : 0 < (colsOf gs secs pg pa size).length := by
  by_cases hk : (grAt gs pg).1 = 0
  · have hM := mirL_of h hk
    rw [hM.len]
    exact Nat.mul_pos hM.wpos hM.pos
  · have hP := parL_of h hk
    have h1 := hP.cnt
    have := (cMay_true h).2.1
    have h2 := List.length_filter_le (fun c : Col => !c.2.2.1) (colsOf gs secs pg pa size)
    omega
set_option maxRecDepth 20000 in
set_option maxHeartbeats 8000000 in
theorem healTwo_any (A : Option Addr) (m c : Nat) (gs : List (Int × Int)) (secs : Int) (p : PtrD) (s : List UInt8) (hsl : s.length ≤ 9223372036854775807) (first : Bool) (by_ : UInt8) {w : World} (hg : GeoAt w A m gs) :
    Calls Tryz.prog 6 #[.agg #[.slice A m c, .int .i64 secs], .agg #[.int .i64 p.ag, .int .i64 p.aa, .int .i64 p.bg, .int .i64 p.ba, .bool p.two, .int .i64 p.size, .int .i64 p.level, .int .i64 p.birth, .int .u64 p.s0, .int .u64 p.s1, .int .u64 p.s2, .int .u64 p.s3], str s, .bool first, .int .u8 by_.toNat] w fun e w' => e = .returned (.bool true) ∧ Below w.heap.size w w' := by
  obtain ⟨w2, hw2⟩ : ∃ z, (w.alloc (.cells #[.slice A m c, .int .i64 secs] 24)).alloc (.cells #[.int .i64 p.ag, .int .i64 p.aa, .int .i64 p.bg, .int .i64 p.ba, .bool p.two, .int .i64 p.size, .int .i64 p.level, .int .i64 p.birth, .int .u64 p.s0, .int .u64 p.s1, .int .u64 p.s2, .int .u64 p.s3] 31) = z := ⟨_, rfl⟩
  have B1 : Blk w2 w.heap.size 24 #[.slice A m c, .int .i64 secs] := by rw [← hw2]; exact (Blk.new _ _ _).alloc _
  have B2 : Blk w2 (w.heap.size + 1) 31 #[.int .i64 p.ag, .int .i64 p.aa, .int .i64 p.bg, .int .i64 p.ba, .bool p.two, .int .i64 p.size, .int .i64 p.level, .int .i64 p.birth, .int .u64 p.s0, .int .u64 p.s1, .int .u64 p.s2, .int .u64 p.s3] := by rw [← hw2]; exact Blk.new2 _ _ _ _
  have D2 : Below w.heap.size w w2 := by rw [← hw2]; exact keep_alloc (keep_alloc (Below.refl _ _) _) _
  have HB2 := Lib.hid (And.intro B1 B2)
  have HD2 := Lib.hid D2
  have HW2 := Lib.hid hw2
  have HG := Lib.hid (hg.below D2 (Nat.le_refl _))
  clear hg B1 B2 D2 hw2
  go_enter Tryz.func6, Tryz.ntmps6
  go_wp2_with fail
  rw [HW2.out]
  refine (awake10_any w2).mono ?_
  rintro e w3 ⟨rfl, hb3⟩
  have HB3 := Lib.hid hb3
  by_cases hb0 : by_ = 0
  · subst hb0
    have hd1 : (((0 : UInt8).toNat : Int) == 0) = true := rfl
    clear hb3
    go_wp2_with fail
    refine (awake10_any w3).mono ?_
    rintro e w4 ⟨rfl, hb4⟩
    have HB4 := Lib.hid (keep_below (keep_below hb4 HB3.out) HD2.out)
    clear hb4
    go_wp2_with fail
    go_ret
    exact ⟨rfl, HB4.out⟩
  have hd1 : ((by_.toNat : Int) == 0) = false := beq_eq_false_iff_ne.2 (fun h => hb0 (UInt8.toNat_inj.1 (by have : by_.toNat = 0 := by omega
                                                                                                            rw [this]; rfl)))
  have hg3 := HB2.out.1.below hb3 HB2.out.1.lt
  have hp3 := HB2.out.2.below hb3 HB2.out.2.lt
  have g0 := hg3.at_ (i := 0) (v := .slice A m c) rfl
  have g1 := hg3.at_ (i := 1) (v := .int .i64 secs) rfl
  obtain ⟨p0, p1, p2, p3, p4, p5, p6, p7, p8, p9, p10, p11⟩ := ptF (hp3)
  have hnil : SlAt w3 (.slice none 0 0) ([] : List Bool).length (boolC []) := ⟨none, 0, rfl, Nat.le_refl _, fun h => absurd h (by decide)⟩
  have HLA := Lib.hid (laid10_any (c := c) (secs := secs) (HG.out.below hb3 (Nat.le_refl _)) p s hsl hnil hnil)
  have HD3 := Lib.hid (keep_below hb3 HD2.out)
  have HG3 := Lib.hid (HG.out.below hb3 (Nat.le_refl _))
  clear hb3 hg3 hp3 hnil
  go_wp2_with fail
  refine HLA.out.mono ?_
  intro e w4 hpost
  clear g0 p0 p1 p2 p3 p4 p5 p6 p7 p8 p9 p10 p11 hd1 g1
  have HBG := Lib.hid (HB2.out.1.below HB3.out HB2.out.1.lt)
  unfold LdPost at hpost
  split at hpost
  case isFalse =>
    obtain ⟨xv, pq, rfl, hxv, hb4⟩ := hpost
    have HB4 := Lib.hid (keep_below hb4 HD3.out)
    clear hb4
    rcases hxv with rfl | ⟨y, _, _, _, _, rfl, _⟩
    · go_wp2_with fail
      go_ret
      exact ⟨rfl, keep_alloc (keep_alloc HB4.out _) _⟩
    · go_wp2_with fail
      go_ret
      exact ⟨rfl, keep_alloc (keep_alloc HB4.out _) _⟩
  case isTrue hyes =>
    obtain ⟨y, S, U, hv, rfl, hys, hysec, hV, hn32, hn0, hs200, hs24, hub, hhv, hyl, hb4⟩ := hpost
    subst hysec
    subst hys
    obtain ⟨Av, cv, rfl⟩ := hhv.form
    obtain ⟨qd, hqd⟩ : ∃ qd, withSum p s = qd := ⟨_, rfl⟩
    have hqs : fsum s = qd.sum ∧ (secN s : Int) = qd.size := by rw [← hqd]; exact ⟨rfl, rfl⟩
    rw [hqd] at hyes hV
    rw [hqd]
    have hmA : cMay y.gs y.secs qd.ag qd.aa qd.size = true := by
      have := hyes.2.2.2.2
      simp only [rightB, Bool.and_eq_true] at this
      exact this.1.2
    have hsok : secOk s = true := by
      have h1 := cMay_bd hmA
      have h2 : (secN s : Int) = qd.size := hqs.2
      have h3 := hyes.2.1
      unfold secN at h2
      unfold secOk
      rw [decide_eq_true (show s ≠ [] by intro e; subst e; simp at h2; omega), decide_eq_true h3, decide_eq_true (show s.length ≤ 256 by omega)]
      rfl
    obtain ⟨ds1, hds1⟩ : ∃ ds1, loT [] (wrAll y.gs y.secs (awT [] y.bd.length 0) s (plsL qd) (List.replicate y.bd.length (DevD.blank y.secs 0))) y.bd.length = ds1 := ⟨_, rfl⟩
    obtain ⟨hfull, hhere, hok⟩ := laid_full hyes.2.2.2.2 hyes.2.2.1 hV.nd (by omega) (by omega) hqs.2 hsok hds1
    rw [hds1] at hV
    obtain ⟨aw, haw⟩ : ∃ aw, awT [] y.bd.length y.bd.length = aw := ⟨_, rfl⟩
    rw [haw] at hV hfull hhere
    have HV := Lib.hid hV
    have HY := Lib.hid hyes
    have HS := Lib.hid (And.intro hqs hsok)
    have HF := Lib.hid (And.intro hfull (And.intro hhere hok))
    have HU := Lib.hid hub
    have HB4 := Lib.hid hb4
    clear haw hds1 hqd hqs hsok hfull hhere hok hyes hub hb4 hhv hyl hsl
    obtain ⟨w5, hw5⟩ : ∃ z, (w4.alloc (.cells y.cells 37)).alloc (.cells #[.int .i64 qd.ag, .int .i64 qd.aa, .int .i64 qd.bg, .int .i64 qd.ba, .bool qd.two, .int .i64 qd.size, .int .i64 qd.level, .int .i64 qd.birth, .int .u64 qd.s0, .int .u64 qd.s1, .int .u64 qd.s2, .int .u64 qd.s3] 31) = z := ⟨_, rfl⟩
    have hX5 : Blk w5 w4.heap.size 37 y.cells := by rw [← hw5]; exact (Blk.new _ _ _).alloc _
    have hP5 : Blk w5 (w4.heap.size + 1) 31 #[.int .i64 qd.ag, .int .i64 qd.aa, .int .i64 qd.bg, .int .i64 qd.ba, .bool qd.two, .int .i64 qd.size, .int .i64 qd.level, .int .i64 qd.birth, .int .u64 qd.s0, .int .u64 qd.s1, .int .u64 qd.s2, .int .u64 qd.s3] := by rw [← hw5]; exact Blk.new2 _ _ _ _
    have hb5 : Below w4.heap.size w4 w5 := by rw [← hw5]; exact keep_alloc (keep_alloc (Below.refl _ _) _) _
    have HXP := Lib.hid (And.intro hX5 hP5)
    have HB5 := Lib.hid hb5
    have HW5 := Lib.hid hw5
    obtain ⟨p0, p1, p2, p3, p4, p5, p6, p7, p8, p9, p10, p11⟩ := ptF (hP5)
    rw [← hw5] at p0 p1 p2 p3 p4 p5 p6 p7 p8 p9 p10 p11
    by_cases htw : qd.two = true
    case neg =>
      rw [Bool.not_eq_true] at htw
      rw [htw] at p4
      clear hX5 hP5 hb5 hw5
      go_wp2_with fail
      have hw5' := HW5.out
      rw [htw] at hw5'
      rw [hw5']
      go_ret
      exact ⟨rfl, keep_below HB5.out (keep_below HB4.out HD3.out)⟩
    have hg5 : Blk w5 w.heap.size 24 #[.slice A m c, .int .i64 y.secs] := (HBG.out.below HB4.out HBG.out.lt).below hb5 (by have := HBG.out.lt; have := HB4.out.size; omega)
    have HG5 := Lib.hid ((HG3.out.below HB4.out (Nat.le_refl _)).below hb5 (Nat.le_refl _))
    rw [htw] at p4
    have hpls : (qd.ag, qd.aa) ∈ plsL qd ∧ (qd.bg, qd.ba) ∈ plsL qd := by rw [plsL_right HY.out.2.2.2.2, if_pos htw]; exact ⟨List.mem_cons_self, List.mem_cons_of_mem _ List.mem_cons_self⟩
    have hpl2 : (plsL qd).length = 2 := by rw [plsL_right HY.out.2.2.2.2, if_pos htw]; rfl
    have HPL := Lib.hid (And.intro hpls hpl2)
    have HTW := Lib.hid htw
    clear hpls hpl2 hX5 hP5
    cases first with
    | true =>
      have hplr : cMay y.gs y.secs qd.ag qd.aa qd.size = true := pls_may HY.out.2.2.2.2 _ HPL.out.1.1
      obtain ⟨w6, hw6⟩ : ∃ z, w5.alloc (.cells #[.int .i64 qd.ag, .int .i64 qd.aa] 26) = z := ⟨_, rfl⟩
      have hb6 : Below w5.heap.size w5 w6 := by rw [← hw6]; exact keep_alloc (Below.refl _ _) _
      have hg6 := hg5.below hb6 hg5.lt
      have hX6 := HXP.out.1.below hb6 HXP.out.1.lt
      have hP6 := HXP.out.2.below hb6 HXP.out.2.lt
      have g0 := hg6.at_ (i := 0) (v := .slice A m c) rfl
      have g1 := hg6.at_ (i := 1) (v := .int .i64 y.secs) rfl
      rw [← hw6, ← hw5, htw] at g0 g1
      have HRO := Lib.hid (refOf_any A m c y.gs y.secs qd.ag qd.aa qd.size w6 (HG5.out.below hb6 (Nat.le_refl _)) hplr)
      have HXP6 := Lib.hid (And.intro hX6 hP6)
      have HB6 := Lib.hid (keep_below hb6 HB5.out)
      have HW6 := Lib.hid hw6
      have HMP := Lib.hid hplr
      clear hplr hw6 hb6 hg6 hX6 hP6 hw5 hb5 hg5
      go_wp2_with fail
      have hw5' := HW5.out
      rw [htw] at hw5'
      rw [hw5', HW6.out]
      clear hw5' htw
      refine HRO.out.mono ?_
      rintro e w7 ⟨v7, rfl, hown, hb7⟩
      obtain ⟨L, hL⟩ : ∃ L, colsOf y.gs y.secs qd.ag qd.aa qd.size = L := ⟨_, rfl⟩
      have hpos : 0 < L.length := by rw [← hL]; exact cols_pos HMP.out
      have hle : L.length ≤ 64 := by rw [← hL, ← ofList_may HMP.out]; exact ofList_le _ _ _ _ _
      have hin : ∀ i, i < L.length → 0 ≤ (L.getD i (0, 0, false, 0)).1 ∧ (L.getD i (0, 0, false, 0)).1 < y.bd.length := fun i hi => by
        obtain ⟨t, hl, _⟩ := cols_lie HMP.out (by rw [hL]; exact colD_in hi)
        have h1 := lies_in HMP.out hl
        have h2 : gDevs y.gs y.secs = y.bd.length := by unfold gDevs; rw [if_pos HY.out.2.2.1]; exact HV.out.nd
        omega
      obtain ⟨D, hD⟩ : ∃ D, spoilTo L by_ ds1 L.length = D := ⟨_, rfl⟩
      obtain ⟨⟨ct, cpl, cdv, cfx⟩, hlk0, hfx0⟩ := two_law (D := D) HY.out.2.2.2.2 HY.out.2.2.1 HV.out.nd HV.out.n2 HF.out.2.2 HF.out.2.1 HS.out.1.2 HS.out.2 HS.out.1.1 HF.out.1 hb0 HPL.out.1.1 HPL.out.2 (by rw [hL]; exact hD.symm)
      have HTL := Lib.hid (And.intro hlk0 hfx0)
      rw [hL] at hown HTL
      rcases hown.2 with ⟨rfl, h0⟩ | ⟨gL, cap, cur, rfl, hgl, hh, _⟩
      · omega
      have hcs := csAt_of_own hown (lt_of_block hh)
      have hb47 := keep_below hb7 HB6.out
      obtain ⟨U1, hU1⟩ : ∃ U1, U1 = more U w4 w7 := ⟨_, rfl⟩
      have hV7 : VdIn w7 S U1 y aw ds1 := by rw [hU1]; exact HV.out.more hb47
      have hX7 := HXP6.out.1.below hb7 HXP6.out.1.lt
      have hP7 := HXP6.out.2.below hb7 HXP6.out.2.lt
      have h46 := HB6.out.size
      have hu1 : U1 w4.heap.size ∧ U1 (w4.heap.size + 1) ∧ U1 gL ∧ ∀ b, b < w3.heap.size → U1 b := by rw [hU1]; exact ⟨.inr ⟨Nat.le_refl _, hX7.lt⟩, .inr ⟨Nat.le_succ _, hP7.lt⟩, .inr ⟨by omega, hcs.1⟩, fun b hb => .inl (HU.out b hb)⟩
      have HV7 := Lib.hid hV7
      have HU1 := Lib.hid hu1
      have HXP7 := Lib.hid (And.intro hX7 hP7)
      have HCS := Lib.hid hcs
      have HB7 := Lib.hid (keep_below hb47 (keep_below HB4.out HD3.out))
      have HLL := Lib.hid (And.intro hpos (And.intro hle hin))
      clear hU1 hV7 hu1 hX7 hP7 h46 hb47 hcs hh hgl hown hb7 hL hlk0 hfx0 hpos hle hin p0 p1 p2 p3 p4 p5 p6 p7 p8 p9 p10 p11 g0 g1
      go_wp2_with fail
      go_loopw [17] (fun t wr => ∃ k : Nat, k ≤ L.length ∧ t = .int .i64 k ∧ VdIn wr S U1 y aw (spoilTo L by_ ds1 k) ∧ Stays U1 w7 wr) (fun t _ => L.length - (RowKit.intOf t).toNat)
      case atStart => exact ⟨0, Nat.zero_le _, rfl, HV7.out, stays_refl _⟩
      case round =>
        obtain ⟨k, hk, rfl, hVr, hst⟩ := hrel
        by_cases hlt : k < L.length
        · have hxr : Blk wr w4.heap.size 37 y.cells := (hst.heap HU1.out.1 HXP7.out.1.lt).trans HXP7.out.1
          obtain ⟨⟨cdev, cat_, cpb, cln⟩, hx⟩ : ∃ x, L[k]? = some x := ⟨_, List.getElem?_eq_getElem hlt⟩
          have hgd : L.getD k (0, 0, false, 0) = (cdev, cat_, cpb, cln) := by rw [List.getD_eq_getElem?_getD, hx]; rfl
          obtain ⟨dk, hdk⟩ : ∃ dk, spoilTo L by_ ds1 k = dk := ⟨_, rfl⟩
          have hokk : DsOk 128 y.secs dk := by rw [← hdk]; exact spoilTo_ok _ _ HF.out.2.2 _
          have heq : wr.heap[gL]? = w7.heap[gL]? := hst.heap HU1.out.2.2.1 HCS.out.1
          obtain ⟨t0, t1, _, _⟩ := HCS.out.2 k _ hx
          have s0 : wr.cell? ⟨gL, k * 4, none⟩ = some (.int .i64 cdev) := by rw [← Nat.zero_add (k * 4)]; exact (cell_same' heq).trans t0
          have s1 : wr.cell? ⟨gL, k * 4 + 1, none⟩ = some (.int .i64 cat_) := by rw [← Nat.zero_add (k * 4)]; exact (cell_same' heq).trans t1
          have x2 := hxr.at_ (i := 2) (v := .slice (some ⟨y.lb, 0, none⟩) y.bd.length y.lc) rfl
          have hink := HLL.out.2.2 k hlt
          rw [hgd] at hink
          obtain ⟨dn, hdn⟩ := Int.eq_ofNat_of_zero_le hink.1
          dsimp only at hdn hink
          have hnx : spoilTo L by_ ds1 (k + 1) = spoilAt dk dn cat_ k by_ := by rw [spoilTo_snoc, hdk, hgd, hdn]; rfl
          subst hdn
          have hdnl : dn < y.bd.length := by omega
          obtain ⟨b, hb⟩ : ∃ b, y.bd[dn]? = some b := ⟨_, List.getElem?_eq_getElem hdnl⟩
          rw [hdk] at hVr
          have hsp := vspoil_any (hVr.same (w' := wr.drew) (Nat.le_refl _) (fun _ _ => rfl) (fun _ _ _ => rfl)) hokk (by decide) hb cat_ k (by have := HLL.out.2.1; omega) by_
          rw [← hnx] at hsp
          have hrow := hVr.row dn b hb
          have hdc : decide (k < L.length) = true := decide_eq_true hlt
          have hd2 : decide (dn < y.bd.length) = true := decide_eq_true hdnl
          have HLT := Lib.hid hlt
          have hk64 : k < 64 := by have := HLL.out.2.1; omega
          have HST := Lib.hid hst
          have HVR := Lib.hid hVr
          have HSP := Lib.hid hsp
          obtain ⟨S0, hS0⟩ : ∃ S0 : World → Prop, S0 = fun W => ∀ g, (g = w4.heap.size ∨ g = y.lb ∨ g = gL) → W.heap[g]? = wr.heap[g]? := ⟨_, rfl⟩
          have f0 : ∀ W, S0 W → W.cell? ⟨w4.heap.size, 2, none⟩ = some (.slice (some ⟨y.lb, 0, none⟩) y.bd.length y.lc) := fun W h => by rw [hS0] at h; exact (cell_same' (h _ (.inl rfl))).trans x2
          have f1 : ∀ W, S0 W → W.cell? ⟨y.lb, dn, none⟩ = some (.pointer (some ⟨b, 0, none⟩)) := fun W h => by rw [hS0] at h; exact (cell_same' (h _ (.inr (.inl rfl)))).trans hrow
          have f2 : ∀ W, S0 W → W.cell? ⟨gL, k * 4, none⟩ = some (.int .i64 dn) := fun W h => by rw [hS0] at h; exact (cell_same' (h _ (.inr (.inr rfl)))).trans s0
          have f3 : ∀ W, S0 W → W.cell? ⟨gL, k * 4 + 1, none⟩ = some (.int .i64 cat_) := fun W h => by rw [hS0] at h; exact (cell_same' (h _ (.inr (.inr rfl)))).trans s1
          have hSw : S0 wr.drew := by rw [hS0]; exact fun _ _ => rfl
          have hSe : ∀ W, Stays U1 wr W → S0 W := fun W hW => by
            rw [hS0]
            intro g hg
            have hg' : U1 g := by
              rcases hg with rfl | rfl | rfl
              · exact HU1.out.1
              · exact HVR.out.ul
              · exact HU1.out.2.2.1
            exact hW.heap hg' (HVR.out.us g hg')
          have HSE := Lib.hid hSe
          clear hsp hS0 hSe hink hnx hdk hokk heq hb hx hgd s0 s1 t0 t1 hrow x2 hst hVr hxr
          go_wp2_with fail
          refine wp_region_effA S0 [16] (by kernel_rfl) (by kernel_rfl) (by kernel_rfl) hSw ?_
          refine wpLexE_take 16 (by kernel_rfl) (by kernel_rfl) ?_
          simp only [List.take_succ_cons, List.take_zero, List.drop_succ_cons, List.drop_zero]
          repeat (first
            | go_big_quiet_skip
            | (go_big_quiet_want
               go_big_quiet_op
               first
                 | go_big_quiet_on
                 | (apply Exists.intro
                    refine ⟨fun W hW => ?_, ?_⟩
                    · first
                        | exact rfl
                        | exact ⟨rfl, rfl⟩
                        | (have e0 := f0 W hW; have e1 := f1 W hW; have e2 := f2 W hW; have e3 := f3 W hW; simp only [e0, e1, e2, e3, Result.andThen_ok]; done)
                        | (have e0 := f0 W hW; have e1 := f1 W hW; have e2 := f2 W hW; have e3 := f3 W hW; simp only [e0, e1, e2, e3, Result.andThen_ok]; first | exact ⟨trivial, rfl⟩ | exact rfl | exact ⟨rfl, rfl⟩)
                        | (skip)
                    go_big_quiet_on)))
          refine wpQuiet_nil ?_
          show wpLexE _ _ _ _ _ _ _ _ _
          refine wpLexE_eff (by kernel_rfl) rfl ?_
          clear f0 f1 f2 f3
          go_wp2_with fail
          refine HSP.out.mono ?_
          rintro e w8 ⟨⟨r, rfl⟩, hV8, hst8⟩
          have hst8' : Stays U1 wr w8 := ⟨hst8.os, hst8.tape, hst8.output, hst8.size, hst8.block⟩
          have hS8 := HSE.out w8 hst8'
          have HR := Lib.hid (And.intro hV8 (HST.out.trans hst8'))
          clear hV8 hst8 hst8' hSw HSP
          go_wp2_with fail
          refine ⟨rfl, hS8, ?_⟩
          unfold wpLexE
          clear hS8
          go_wp2_with fail
          go_roundw
          case rel => exact ⟨k + 1, HLT.out, by go_num, HR.out.1, HR.out.2⟩
          case measure => have := HLT.out; simp [RowKit.intOf]; omega
        · obtain rfl : k = L.length := by omega
          have hdc : decide ((L.length : Int) < L.length) = false := decide_eq_false (by omega)
          rename World => wb
          rw [hD] at hVr
          have hokD : DsOk 128 y.secs D := by rw [← hD]; exact spoilTo_ok _ _ HF.out.2.2 _
          have hxr : Blk wb w4.heap.size 37 y.cells := (hst.heap HU1.out.1 HXP7.out.1.lt).trans HXP7.out.1
          have hpr : Blk wb (w4.heap.size + 1) 31 #[.int .i64 qd.ag, .int .i64 qd.aa, .int .i64 qd.bg, .int .i64 qd.ba, .bool qd.two, .int .i64 qd.size, .int .i64 qd.level, .int .i64 qd.birth, .int .u64 qd.s0, .int .u64 qd.s1, .int .u64 qd.s2, .int .u64 qd.s3] := (hst.heap HU1.out.2.1 HXP7.out.2.lt).trans HXP7.out.2
          have hlk := look_any hVr (by omega) hokD qd
          rw [HTL.out.1] at hlk
          dsimp only [CameD.cells] at hlk
          have hfs : fsum ct = fsum s ∧ ct.length ≤ 256 := by
            have h1 := look_found HY.out.2.2.2.2 hokD HTL.out.1
            have h2 := cMay_bd HMP.out
            exact ⟨h1.1.trans HS.out.1.1.symm, by have := h1.2; dsimp only at this; omega⟩
          have HLK := Lib.hid hlk
          have HFS := Lib.hid hfs
          have HVB := Lib.hid hVr
          have HOK := Lib.hid hokD
          have HXB := Lib.hid (And.intro hxr hpr)
          have HSTB := Lib.hid hst
          obtain ⟨x0, x1, x2, x3⟩ := vxF (hxr)
          obtain ⟨p0, p1, p2, p3, p4, p5, p6, p7, p8, p9, p10, p11⟩ := ptF (hpr)
          clear hlk hfs hVr hokD hxr hpr hst hD
          go_wp2_with fail
          refine HLK.out.mono ?_
          rintro e w8 ⟨rfl, hb8⟩
          obtain ⟨w9, hw9⟩ : ∃ z, w8.alloc (.cells #[str ct, .int .i64 cpl, .int .i64 cdv, .int .i64 cfx] 45) = z := ⟨_, rfl⟩
          have hb89 : Below w8.heap.size w8 w9 := by rw [← hw9]; exact keep_alloc (Below.refl _ _) _
          have hb9 : Below wb.heap.size wb w9 := keep_below hb89 hb8
          have hbf9 : Below w.heap.size w w9 := by
            have b7 := HB7.out
            have hu : ∀ i, i < w.heap.size → U1 i := fun i hi => HU1.out.2.2.2 i (by have := HD3.out.size; omega)
            have b6 : Below w.heap.size w wb := b7.trans (HSTB.out.below b7.size hu)
            exact b6.trans (hb9.mono b6.size)
          have HB9 := Lib.hid (And.intro hb9 hbf9)
          have HW9 := Lib.hid hw9
          clear x0 x1 x2 x3 p0 p1 p2 p3 p4 p5 p6 p7 p8 p9 p10 p11
          by_cases hts : ct = s
          · have hx9 := HXB.out.1.below hb9 HXB.out.1.lt
            have hp9 := HXB.out.2.below hb9 HXB.out.2.lt
            obtain ⟨x0, x1, x2, x3⟩ := vxF (hx9)
            obtain ⟨p0, p1, p2, p3, p4, p5, p6, p7, p8, p9, p10, p11⟩ := ptF (hp9)
            rw [← hw9] at x0 x1 x2 x3 p0 p1 p2 p3 p4 p5 p6 p7 p8 p9 p10 p11
            obtain ⟨hn, hfullD⟩ := HTL.out.2 hts
            obtain ⟨D2, hD2⟩ : ∃ D2, readD true y.gs y.secs aw qd D = D2 := ⟨_, rfl⟩
            rw [hD2] at hfullD
            have hokD2 : DsOk 256 y.secs D2 := by rw [← hD2]; exact readD_ok HOK.out
            obtain ⟨U2, hU2⟩ : ∃ U2, U2 = more U1 wb w9 := ⟨_, rfl⟩
            have hV9 : VdIn w9 S U2 y aw D := by rw [hU2]; exact HVB.out.more hb9
            have hu2 : ∀ b, U1 b → U2 b := by rw [hU2]; exact fun b hb => .inl hb
            have hsc := scrub10_any hV9 (by omega) HOK.out (by decide) qd
            rw [HTL.out.1, hn, hD2] at hsc
            dsimp only [CameD.cells] at hsc
            rw [hts] at hsc
            have HSC := Lib.hid hsc
            have H9 := Lib.hid (And.intro hx9 (And.intro hp9 (And.intro hu2 (And.intro hfullD hokD2))))
            have hss : (s != s) = false := by simp
            rw [hts] at hw9 x0 x1 x2 x3 p0 p1 p2 p3 p4 p5 p6 p7 p8 p9 p10 p11
            subst hts
            have hs2 : (ct == ct) = true := beq_self_eq_true _
            have hl2 : ((L.length : Int) == L.length) = true := beq_self_eq_true _
            clear hw9 hb8 hb89 hb9 hbf9 hx9 hp9 hn hfullD hD2 hokD2 hU2 hV9 hu2 hsc
            go_wp2_with fail
            rw [HW9.out]
            refine HSC.out.mono ?_
            rintro e w10 ⟨rfl, ⟨S10, hV10⟩, hst10⟩
            obtain ⟨w11, hw11⟩ : ∃ z, w10.alloc (.cells #[str ct, .int .i64 cpl, .int .i64 cdv, .int .i64 L.length] 45) = z := ⟨_, rfl⟩
            have hb11 : Below w10.heap.size w10 w11 := by rw [← hw11]; exact keep_alloc (Below.refl _ _) _
            have hc11 : Blk w11 w10.heap.size 45 #[str ct, .int .i64 cpl, .int .i64 cdv, .int .i64 L.length] := by rw [← hw11]; exact Blk.new _ _ _
            have hV11 := hV10.more hb11
            have hk : ∀ {g : Nat} {t : TypeId} {cs : Array Value}, U2 g → Blk w9 g t cs → Blk w11 g t cs := fun {g t cs} hg h => by
              have h8 : Blk w10 g t cs := (hst10.heap hg h.lt).trans h
              exact h8.below hb11 h8.lt
            have hx11 := hk (H9.out.2.2.1 _ HU1.out.1) H9.out.1
            have hp11 := hk (H9.out.2.2.1 _ HU1.out.2.1) H9.out.2.1
            have hbf : Below w.heap.size w w11 := by
              have hu : ∀ i, i < w.heap.size → U2 i := fun i hi => H9.out.2.2.1 i (HU1.out.2.2.2 i (by have := HD3.out.size; omega))
              have b9 := HB9.out.2
              have b10 : Below w.heap.size w w10 := b9.trans (hst10.below b9.size hu)
              exact b10.trans (hb11.mono b10.size)
            clear x0 x1 x2 x3 p0 p1 p2 p3 p4 p5 p6 p7 p8 p9 p10 p11
            have hwh := full_whole HY.out.2.2.2.2 HY.out.2.2.1 HV.out.nd HS.out.1.2 HS.out.2 HS.out.1.1 H9.out.2.2.2.1
            have hWH := whole10_any hV11 (by omega) H9.out.2.2.2.2 qd
            rw [hwh.1] at hWH
            have HWH := Lib.hid hWH
            obtain ⟨x0, x1, x2, x3⟩ := vxF (hx11)
            obtain ⟨p0, p1, p2, p3, p4, p5, p6, p7, p8, p9, p10, p11⟩ := ptF (hp11)
            rw [← hw11] at x0 x1 x2 x3 p0 p1 p2 p3 p4 p5 p6 p7 p8 p9 p10 p11
            have HW11 := Lib.hid hw11
            have HBF := Lib.hid hbf
            clear hw11 hb11 hc11 hV11 hk hx11 hp11 hbf hwh hV10 hst10 HSC hWH
            go_wp2_with fail
            rw [HW11.out]
            refine HWH.out.mono ?_
            rintro e w12 ⟨rfl, hb12⟩
            have HB12 := Lib.hid (HBF.out.trans (hb12.mono HBF.out.size))
            clear hb12
            go_wp2_with fail
            go_ret
            exact ⟨rfl, HB12.out⟩
          · have hne : (ct == s) = false := beq_eq_false_iff_ne.2 hts
            obtain ⟨F, hF⟩ : ∃ F, fsum s = F := ⟨_, rfl⟩
            have hF2 : fsum ct = F := HFS.out.1.trans hF
            have hs1 := fun W => fsum_any ct (by have := HFS.out.2; omega) W
            have hs2 := fun W => fsum_any s (by have := HY.out.1; omega) W
            simp only [hF2] at hs1
            simp only [hF] at hs2
            have HS1 := Lib.hid hs1
            have HS2 := Lib.hid hs2
            have HEQ : ∀ X, (binOp .eql 29 (.agg (fcells F)) (.agg (fcells F))).run Tryz.prog X = .ok (.bool true) X := fun X => by
              have := eql_sum F F X
              rw [beq_self_eq_true] at this
              exact this
            clear hts hF hF2 hs1 hs2 hw9 hb8 hb89 hb9 hbf9
            go_wp2_with fail
            rw [HW9.out]
            refine (HS1.out w9).mono ?_
            rintro e w10 ⟨rfl, hb10⟩
            have HB10 := Lib.hid (HB9.out.2.trans (hb10.mono HB9.out.2.size))
            clear hb10
            go_wp2_with fail
            refine (HS2.out w10).mono ?_
            rintro e w11 ⟨rfl, hb11⟩
            have HB11 := Lib.hid (HB10.out.trans (hb11.mono HB10.out.size))
            clear hb11
            go_wp2_with fail
            go_ret
            exact ⟨rfl, HB11.out⟩
    | false =>
      have hplr : cMay y.gs y.secs qd.bg qd.ba qd.size = true := pls_may HY.out.2.2.2.2 _ HPL.out.1.2
      obtain ⟨w6, hw6⟩ : ∃ z, w5.alloc (.cells #[.int .i64 qd.bg, .int .i64 qd.ba] 26) = z := ⟨_, rfl⟩
      have hb6 : Below w5.heap.size w5 w6 := by rw [← hw6]; exact keep_alloc (Below.refl _ _) _
      have hg6 := hg5.below hb6 hg5.lt
      have hX6 := HXP.out.1.below hb6 HXP.out.1.lt
      have hP6 := HXP.out.2.below hb6 HXP.out.2.lt
      have g0 := hg6.at_ (i := 0) (v := .slice A m c) rfl
      have g1 := hg6.at_ (i := 1) (v := .int .i64 y.secs) rfl
      rw [← hw6, ← hw5, htw] at g0 g1
      have HRO := Lib.hid (refOf_any A m c y.gs y.secs qd.bg qd.ba qd.size w6 (HG5.out.below hb6 (Nat.le_refl _)) hplr)
      have HXP6 := Lib.hid (And.intro hX6 hP6)
      have HB6 := Lib.hid (keep_below hb6 HB5.out)
      have HW6 := Lib.hid hw6
      have HMP := Lib.hid hplr
      clear hplr hw6 hb6 hg6 hX6 hP6 hw5 hb5 hg5
      go_wp2_with fail
      have hw5' := HW5.out
      rw [htw] at hw5'
      rw [hw5', HW6.out]
      clear hw5' htw
      refine HRO.out.mono ?_
      rintro e w7 ⟨v7, rfl, hown, hb7⟩
      obtain ⟨L, hL⟩ : ∃ L, colsOf y.gs y.secs qd.bg qd.ba qd.size = L := ⟨_, rfl⟩
      have hpos : 0 < L.length := by rw [← hL]; exact cols_pos HMP.out
      have hle : L.length ≤ 64 := by rw [← hL, ← ofList_may HMP.out]; exact ofList_le _ _ _ _ _
      have hin : ∀ i, i < L.length → 0 ≤ (L.getD i (0, 0, false, 0)).1 ∧ (L.getD i (0, 0, false, 0)).1 < y.bd.length := fun i hi => by
        obtain ⟨t, hl, _⟩ := cols_lie HMP.out (by rw [hL]; exact colD_in hi)
        have h1 := lies_in HMP.out hl
        have h2 : gDevs y.gs y.secs = y.bd.length := by unfold gDevs; rw [if_pos HY.out.2.2.1]; exact HV.out.nd
        omega
      obtain ⟨D, hD⟩ : ∃ D, spoilTo L by_ ds1 L.length = D := ⟨_, rfl⟩
      obtain ⟨⟨ct, cpl, cdv, cfx⟩, hlk0, hfx0⟩ := two_law (D := D) HY.out.2.2.2.2 HY.out.2.2.1 HV.out.nd HV.out.n2 HF.out.2.2 HF.out.2.1 HS.out.1.2 HS.out.2 HS.out.1.1 HF.out.1 hb0 HPL.out.1.2 HPL.out.2 (by rw [hL]; exact hD.symm)
      have HTL := Lib.hid (And.intro hlk0 hfx0)
      rw [hL] at hown HTL
      rcases hown.2 with ⟨rfl, h0⟩ | ⟨gL, cap, cur, rfl, hgl, hh, _⟩
      · omega
      have hcs := csAt_of_own hown (lt_of_block hh)
      have hb47 := keep_below hb7 HB6.out
      obtain ⟨U1, hU1⟩ : ∃ U1, U1 = more U w4 w7 := ⟨_, rfl⟩
      have hV7 : VdIn w7 S U1 y aw ds1 := by rw [hU1]; exact HV.out.more hb47
      have hX7 := HXP6.out.1.below hb7 HXP6.out.1.lt
      have hP7 := HXP6.out.2.below hb7 HXP6.out.2.lt
      have h46 := HB6.out.size
      have hu1 : U1 w4.heap.size ∧ U1 (w4.heap.size + 1) ∧ U1 gL ∧ ∀ b, b < w3.heap.size → U1 b := by rw [hU1]; exact ⟨.inr ⟨Nat.le_refl _, hX7.lt⟩, .inr ⟨Nat.le_succ _, hP7.lt⟩, .inr ⟨by omega, hcs.1⟩, fun b hb => .inl (HU.out b hb)⟩
      have HV7 := Lib.hid hV7
      have HU1 := Lib.hid hu1
      have HXP7 := Lib.hid (And.intro hX7 hP7)
      have HCS := Lib.hid hcs
      have HB7 := Lib.hid (keep_below hb47 (keep_below HB4.out HD3.out))
      have HLL := Lib.hid (And.intro hpos (And.intro hle hin))
      clear hU1 hV7 hu1 hX7 hP7 h46 hb47 hcs hh hgl hown hb7 hL hlk0 hfx0 hpos hle hin p0 p1 p2 p3 p4 p5 p6 p7 p8 p9 p10 p11 g0 g1
      go_wp2_with fail
      go_loopw [17] (fun t wr => ∃ k : Nat, k ≤ L.length ∧ t = .int .i64 k ∧ VdIn wr S U1 y aw (spoilTo L by_ ds1 k) ∧ Stays U1 w7 wr) (fun t _ => L.length - (RowKit.intOf t).toNat)
      case atStart => exact ⟨0, Nat.zero_le _, rfl, HV7.out, stays_refl _⟩
      case round =>
        obtain ⟨k, hk, rfl, hVr, hst⟩ := hrel
        by_cases hlt : k < L.length
        · have hxr : Blk wr w4.heap.size 37 y.cells := (hst.heap HU1.out.1 HXP7.out.1.lt).trans HXP7.out.1
          obtain ⟨⟨cdev, cat_, cpb, cln⟩, hx⟩ : ∃ x, L[k]? = some x := ⟨_, List.getElem?_eq_getElem hlt⟩
          have hgd : L.getD k (0, 0, false, 0) = (cdev, cat_, cpb, cln) := by rw [List.getD_eq_getElem?_getD, hx]; rfl
          obtain ⟨dk, hdk⟩ : ∃ dk, spoilTo L by_ ds1 k = dk := ⟨_, rfl⟩
          have hokk : DsOk 128 y.secs dk := by rw [← hdk]; exact spoilTo_ok _ _ HF.out.2.2 _
          have heq : wr.heap[gL]? = w7.heap[gL]? := hst.heap HU1.out.2.2.1 HCS.out.1
          obtain ⟨t0, t1, _, _⟩ := HCS.out.2 k _ hx
          have s0 : wr.cell? ⟨gL, k * 4, none⟩ = some (.int .i64 cdev) := by rw [← Nat.zero_add (k * 4)]; exact (cell_same' heq).trans t0
          have s1 : wr.cell? ⟨gL, k * 4 + 1, none⟩ = some (.int .i64 cat_) := by rw [← Nat.zero_add (k * 4)]; exact (cell_same' heq).trans t1
          have x2 := hxr.at_ (i := 2) (v := .slice (some ⟨y.lb, 0, none⟩) y.bd.length y.lc) rfl
          have hink := HLL.out.2.2 k hlt
          rw [hgd] at hink
          obtain ⟨dn, hdn⟩ := Int.eq_ofNat_of_zero_le hink.1
          dsimp only at hdn hink
          have hnx : spoilTo L by_ ds1 (k + 1) = spoilAt dk dn cat_ k by_ := by rw [spoilTo_snoc, hdk, hgd, hdn]; rfl
          subst hdn
          have hdnl : dn < y.bd.length := by omega
          obtain ⟨b, hb⟩ : ∃ b, y.bd[dn]? = some b := ⟨_, List.getElem?_eq_getElem hdnl⟩
          rw [hdk] at hVr
          have hsp := vspoil_any (hVr.same (w' := wr.drew) (Nat.le_refl _) (fun _ _ => rfl) (fun _ _ _ => rfl)) hokk (by decide) hb cat_ k (by have := HLL.out.2.1; omega) by_
          rw [← hnx] at hsp
          have hrow := hVr.row dn b hb
          have hdc : decide (k < L.length) = true := decide_eq_true hlt
          have hd2 : decide (dn < y.bd.length) = true := decide_eq_true hdnl
          have HLT := Lib.hid hlt
          have hk64 : k < 64 := by have := HLL.out.2.1; omega
          have HST := Lib.hid hst
          have HVR := Lib.hid hVr
          have HSP := Lib.hid hsp
          obtain ⟨S0, hS0⟩ : ∃ S0 : World → Prop, S0 = fun W => ∀ g, (g = w4.heap.size ∨ g = y.lb ∨ g = gL) → W.heap[g]? = wr.heap[g]? := ⟨_, rfl⟩
          have f0 : ∀ W, S0 W → W.cell? ⟨w4.heap.size, 2, none⟩ = some (.slice (some ⟨y.lb, 0, none⟩) y.bd.length y.lc) := fun W h => by rw [hS0] at h; exact (cell_same' (h _ (.inl rfl))).trans x2
          have f1 : ∀ W, S0 W → W.cell? ⟨y.lb, dn, none⟩ = some (.pointer (some ⟨b, 0, none⟩)) := fun W h => by rw [hS0] at h; exact (cell_same' (h _ (.inr (.inl rfl)))).trans hrow
          have f2 : ∀ W, S0 W → W.cell? ⟨gL, k * 4, none⟩ = some (.int .i64 dn) := fun W h => by rw [hS0] at h; exact (cell_same' (h _ (.inr (.inr rfl)))).trans s0
          have f3 : ∀ W, S0 W → W.cell? ⟨gL, k * 4 + 1, none⟩ = some (.int .i64 cat_) := fun W h => by rw [hS0] at h; exact (cell_same' (h _ (.inr (.inr rfl)))).trans s1
          have hSw : S0 wr.drew := by rw [hS0]; exact fun _ _ => rfl
          have hSe : ∀ W, Stays U1 wr W → S0 W := fun W hW => by
            rw [hS0]
            intro g hg
            have hg' : U1 g := by
              rcases hg with rfl | rfl | rfl
              · exact HU1.out.1
              · exact HVR.out.ul
              · exact HU1.out.2.2.1
            exact hW.heap hg' (HVR.out.us g hg')
          have HSE := Lib.hid hSe
          clear hsp hS0 hSe hink hnx hdk hokk heq hb hx hgd s0 s1 t0 t1 hrow x2 hst hVr hxr
          go_wp2_with fail
          refine wp_region_effA S0 [16] (by kernel_rfl) (by kernel_rfl) (by kernel_rfl) hSw ?_
          refine wpLexE_take 16 (by kernel_rfl) (by kernel_rfl) ?_
          simp only [List.take_succ_cons, List.take_zero, List.drop_succ_cons, List.drop_zero]
          repeat (first
            | go_big_quiet_skip
            | (go_big_quiet_want
               go_big_quiet_op
               first
                 | go_big_quiet_on
                 | (apply Exists.intro
                    refine ⟨fun W hW => ?_, ?_⟩
                    · first
                        | exact rfl
                        | exact ⟨rfl, rfl⟩
                        | (have e0 := f0 W hW; have e1 := f1 W hW; have e2 := f2 W hW; have e3 := f3 W hW; simp only [e0, e1, e2, e3, Result.andThen_ok]; done)
                        | (have e0 := f0 W hW; have e1 := f1 W hW; have e2 := f2 W hW; have e3 := f3 W hW; simp only [e0, e1, e2, e3, Result.andThen_ok]; first | exact ⟨trivial, rfl⟩ | exact rfl | exact ⟨rfl, rfl⟩)
                        | (skip)
                    go_big_quiet_on)))
          refine wpQuiet_nil ?_
          show wpLexE _ _ _ _ _ _ _ _ _
          refine wpLexE_eff (by kernel_rfl) rfl ?_
          clear f0 f1 f2 f3
          go_wp2_with fail
          refine HSP.out.mono ?_
          rintro e w8 ⟨⟨r, rfl⟩, hV8, hst8⟩
          have hst8' : Stays U1 wr w8 := ⟨hst8.os, hst8.tape, hst8.output, hst8.size, hst8.block⟩
          have hS8 := HSE.out w8 hst8'
          have HR := Lib.hid (And.intro hV8 (HST.out.trans hst8'))
          clear hV8 hst8 hst8' hSw HSP
          go_wp2_with fail
          refine ⟨rfl, hS8, ?_⟩
          unfold wpLexE
          clear hS8
          go_wp2_with fail
          go_roundw
          case rel => exact ⟨k + 1, HLT.out, by go_num, HR.out.1, HR.out.2⟩
          case measure => have := HLT.out; simp [RowKit.intOf]; omega
        · obtain rfl : k = L.length := by omega
          have hdc : decide ((L.length : Int) < L.length) = false := decide_eq_false (by omega)
          rename World => wb
          rw [hD] at hVr
          have hokD : DsOk 128 y.secs D := by rw [← hD]; exact spoilTo_ok _ _ HF.out.2.2 _
          have hxr : Blk wb w4.heap.size 37 y.cells := (hst.heap HU1.out.1 HXP7.out.1.lt).trans HXP7.out.1
          have hpr : Blk wb (w4.heap.size + 1) 31 #[.int .i64 qd.ag, .int .i64 qd.aa, .int .i64 qd.bg, .int .i64 qd.ba, .bool qd.two, .int .i64 qd.size, .int .i64 qd.level, .int .i64 qd.birth, .int .u64 qd.s0, .int .u64 qd.s1, .int .u64 qd.s2, .int .u64 qd.s3] := (hst.heap HU1.out.2.1 HXP7.out.2.lt).trans HXP7.out.2
          have hlk := look_any hVr (by omega) hokD qd
          rw [HTL.out.1] at hlk
          dsimp only [CameD.cells] at hlk
          have hfs : fsum ct = fsum s ∧ ct.length ≤ 256 := by
            have h1 := look_found HY.out.2.2.2.2 hokD HTL.out.1
            have h2 := cMay_bd HMP.out
            exact ⟨h1.1.trans HS.out.1.1.symm, by have := h1.2; dsimp only at this; omega⟩
          have HLK := Lib.hid hlk
          have HFS := Lib.hid hfs
          have HVB := Lib.hid hVr
          have HOK := Lib.hid hokD
          have HXB := Lib.hid (And.intro hxr hpr)
          have HSTB := Lib.hid hst
          obtain ⟨x0, x1, x2, x3⟩ := vxF (hxr)
          obtain ⟨p0, p1, p2, p3, p4, p5, p6, p7, p8, p9, p10, p11⟩ := ptF (hpr)
          clear hlk hfs hVr hokD hxr hpr hst hD
          go_wp2_with fail
          refine HLK.out.mono ?_
          rintro e w8 ⟨rfl, hb8⟩
          obtain ⟨w9, hw9⟩ : ∃ z, w8.alloc (.cells #[str ct, .int .i64 cpl, .int .i64 cdv, .int .i64 cfx] 45) = z := ⟨_, rfl⟩
          have hb89 : Below w8.heap.size w8 w9 := by rw [← hw9]; exact keep_alloc (Below.refl _ _) _
          have hb9 : Below wb.heap.size wb w9 := keep_below hb89 hb8
          have hbf9 : Below w.heap.size w w9 := by
            have b7 := HB7.out
            have hu : ∀ i, i < w.heap.size → U1 i := fun i hi => HU1.out.2.2.2 i (by have := HD3.out.size; omega)
            have b6 : Below w.heap.size w wb := b7.trans (HSTB.out.below b7.size hu)
            exact b6.trans (hb9.mono b6.size)
          have HB9 := Lib.hid (And.intro hb9 hbf9)
          have HW9 := Lib.hid hw9
          clear x0 x1 x2 x3 p0 p1 p2 p3 p4 p5 p6 p7 p8 p9 p10 p11
          by_cases hts : ct = s
          · have hx9 := HXB.out.1.below hb9 HXB.out.1.lt
            have hp9 := HXB.out.2.below hb9 HXB.out.2.lt
            obtain ⟨x0, x1, x2, x3⟩ := vxF (hx9)
            obtain ⟨p0, p1, p2, p3, p4, p5, p6, p7, p8, p9, p10, p11⟩ := ptF (hp9)
            rw [← hw9] at x0 x1 x2 x3 p0 p1 p2 p3 p4 p5 p6 p7 p8 p9 p10 p11
            obtain ⟨hn, hfullD⟩ := HTL.out.2 hts
            obtain ⟨D2, hD2⟩ : ∃ D2, readD true y.gs y.secs aw qd D = D2 := ⟨_, rfl⟩
            rw [hD2] at hfullD
            have hokD2 : DsOk 256 y.secs D2 := by rw [← hD2]; exact readD_ok HOK.out
            obtain ⟨U2, hU2⟩ : ∃ U2, U2 = more U1 wb w9 := ⟨_, rfl⟩
            have hV9 : VdIn w9 S U2 y aw D := by rw [hU2]; exact HVB.out.more hb9
            have hu2 : ∀ b, U1 b → U2 b := by rw [hU2]; exact fun b hb => .inl hb
            have hsc := scrub10_any hV9 (by omega) HOK.out (by decide) qd
            rw [HTL.out.1, hn, hD2] at hsc
            dsimp only [CameD.cells] at hsc
            rw [hts] at hsc
            have HSC := Lib.hid hsc
            have H9 := Lib.hid (And.intro hx9 (And.intro hp9 (And.intro hu2 (And.intro hfullD hokD2))))
            have hss : (s != s) = false := by simp
            rw [hts] at hw9 x0 x1 x2 x3 p0 p1 p2 p3 p4 p5 p6 p7 p8 p9 p10 p11
            subst hts
            have hs2 : (ct == ct) = true := beq_self_eq_true _
            have hl2 : ((L.length : Int) == L.length) = true := beq_self_eq_true _
            clear hw9 hb8 hb89 hb9 hbf9 hx9 hp9 hn hfullD hD2 hokD2 hU2 hV9 hu2 hsc
            go_wp2_with fail
            rw [HW9.out]
            refine HSC.out.mono ?_
            rintro e w10 ⟨rfl, ⟨S10, hV10⟩, hst10⟩
            obtain ⟨w11, hw11⟩ : ∃ z, w10.alloc (.cells #[str ct, .int .i64 cpl, .int .i64 cdv, .int .i64 L.length] 45) = z := ⟨_, rfl⟩
            have hb11 : Below w10.heap.size w10 w11 := by rw [← hw11]; exact keep_alloc (Below.refl _ _) _
            have hc11 : Blk w11 w10.heap.size 45 #[str ct, .int .i64 cpl, .int .i64 cdv, .int .i64 L.length] := by rw [← hw11]; exact Blk.new _ _ _
            have hV11 := hV10.more hb11
            have hk : ∀ {g : Nat} {t : TypeId} {cs : Array Value}, U2 g → Blk w9 g t cs → Blk w11 g t cs := fun {g t cs} hg h => by
              have h8 : Blk w10 g t cs := (hst10.heap hg h.lt).trans h
              exact h8.below hb11 h8.lt
            have hx11 := hk (H9.out.2.2.1 _ HU1.out.1) H9.out.1
            have hp11 := hk (H9.out.2.2.1 _ HU1.out.2.1) H9.out.2.1
            have hbf : Below w.heap.size w w11 := by
              have hu : ∀ i, i < w.heap.size → U2 i := fun i hi => H9.out.2.2.1 i (HU1.out.2.2.2 i (by have := HD3.out.size; omega))
              have b9 := HB9.out.2
              have b10 : Below w.heap.size w w10 := b9.trans (hst10.below b9.size hu)
              exact b10.trans (hb11.mono b10.size)
            clear x0 x1 x2 x3 p0 p1 p2 p3 p4 p5 p6 p7 p8 p9 p10 p11
            have hwh := full_whole HY.out.2.2.2.2 HY.out.2.2.1 HV.out.nd HS.out.1.2 HS.out.2 HS.out.1.1 H9.out.2.2.2.1
            have hWH := whole10_any hV11 (by omega) H9.out.2.2.2.2 qd
            rw [hwh.1] at hWH
            have HWH := Lib.hid hWH
            obtain ⟨x0, x1, x2, x3⟩ := vxF (hx11)
            obtain ⟨p0, p1, p2, p3, p4, p5, p6, p7, p8, p9, p10, p11⟩ := ptF (hp11)
            rw [← hw11] at x0 x1 x2 x3 p0 p1 p2 p3 p4 p5 p6 p7 p8 p9 p10 p11
            have HW11 := Lib.hid hw11
            have HBF := Lib.hid hbf
            clear hw11 hb11 hc11 hV11 hk hx11 hp11 hbf hwh hV10 hst10 HSC hWH
            go_wp2_with fail
            rw [HW11.out]
            refine HWH.out.mono ?_
            rintro e w12 ⟨rfl, hb12⟩
            have HB12 := Lib.hid (HBF.out.trans (hb12.mono HBF.out.size))
            clear hb12
            go_wp2_with fail
            go_ret
            exact ⟨rfl, HB12.out⟩
          · have hne : (ct == s) = false := beq_eq_false_iff_ne.2 hts
            obtain ⟨F, hF⟩ : ∃ F, fsum s = F := ⟨_, rfl⟩
            have hF2 : fsum ct = F := HFS.out.1.trans hF
            have hs1 := fun W => fsum_any ct (by have := HFS.out.2; omega) W
            have hs2 := fun W => fsum_any s (by have := HY.out.1; omega) W
            simp only [hF2] at hs1
            simp only [hF] at hs2
            have HS1 := Lib.hid hs1
            have HS2 := Lib.hid hs2
            have HEQ : ∀ X, (binOp .eql 29 (.agg (fcells F)) (.agg (fcells F))).run Tryz.prog X = .ok (.bool true) X := fun X => by
              have := eql_sum F F X
              rw [beq_self_eq_true] at this
              exact this
            clear hts hF hF2 hs1 hs2 hw9 hb8 hb89 hb9 hbf9
            go_wp2_with fail
            rw [HW9.out]
            refine (HS1.out w9).mono ?_
            rintro e w10 ⟨rfl, hb10⟩
            have HB10 := Lib.hid (HB9.out.2.trans (hb10.mono HB9.out.2.size))
            clear hb10
            go_wp2_with fail
            refine (HS2.out w10).mono ?_
            rintro e w11 ⟨rfl, hb11⟩
            have HB11 := Lib.hid (HB10.out.trans (hb11.mono HB10.out.size))
            clear hb11
            go_wp2_with fail
            go_ret
            exact ⟨rfl, HB11.out⟩
end Go.Proofs.YtbhkbcpljakmjaaGreat
