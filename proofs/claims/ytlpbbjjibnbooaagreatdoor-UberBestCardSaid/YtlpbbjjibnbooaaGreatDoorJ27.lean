/-
  The statement UberBest, walked.
-/
import Derived.Test.YtlpbbjjibnbooaaGreatDoorJ26
import Derived.Test.YtlpbbjjibnbooaaGreatDoorJ25
import Derived.Test.YtlpbbjjibnbooaaGreatDoorJ20
import Derived.Test.YtlpbbjjibnbooaaGreatDoorJ23
namespace Go.Proofs.YtlpbbjjibnbooaaGreatDoor
set_option linter.unusedVariables false
set_option linter.unusedSimpArgs false
open Go.RowKit

theorem only_sets {T : Nat → Prop} {a : World} {g : Nat} (hT : T g) : ∀ (vs : List Value) (o : Nat) {w : World}, Only T a w → Only T a (w.setCells g o vs)
  | [], _, _, h => h
  | v :: r, o, _, h => by
    rw [World.setCells]
    exact only_sets hT r (o + 1) (h.set (.inl hT) v)
theorem uwD_len {gs : List (Int × Int)} {secs : Int} {aw : List Bool} {t n : Int} {p : PtrD} {ds : List DevD} : (uwD gs secs aw t n p ds).length = ds.length := by
  unfold uwD
  split
  · exact ubAll_len _
  · rfl
theorem uwD_here {gs : List (Int × Int)} {secs : Int} {aw : List Bool} {t n : Int} {p : PtrD} {ds : List DevD} (e : Nat) : hereD aw (uwD gs secs aw t n p ds) e = hereD aw ds e := by
  unfold uwD
  split
  · exact ubAll_here e _
  · rfl
theorem dsOk_more {N M secs : Nat} {ds : List DevD} (h : DsOk N secs ds) (hm : N ≤ M) : DsOk M secs ds := fun d hd =>
  have ⟨a, b, c, e⟩ := h d hd
  ⟨a, b, c, fun k => Nat.le_trans (e k) hm⟩
theorem uwD_ok {gs : List (Int × Int)} {secs : Int} {aw : List Bool} {t n : Int} {p : PtrD} {ds : List DevD} {N sn m : Nat} (h : DsOk N sn ds) (hl : ds.length = m) : DsOk (N + 4 * m) sn (uwD gs secs aw t n p ds) := by
  unfold uwD
  subst hl
  split
  · exact ubAll_ok h _
  · exact dsOk_more h (by omega)
set_option maxRecDepth 20000 in
set_option maxHeartbeats 8000000 in
theorem uberBest_any (A : Option Addr) (m c : Nat) (gs : List (Int × Int)) (secs : Int) {uv lv : Value} {us : List UbD} {ll : List Bool} (kp : Nat) (hkp : kp < 256) {w : World} (hg : GeoAt w A m gs) (hu : UbersAt w uv us) (hlo : SlAt w lv ll.length (boolC ll)) :
    Calls Tryz.prog 4 #[.agg #[.slice A m c, .int .i64 secs], uv, lv, .int .u8 kp] w fun e w' => e = .returned (.bool true) ∧ Below w.heap.size w w' := by
  have hbz := build_ubZ
  obtain ⟨Au, cu, rfl⟩ := hu.form
  obtain ⟨Al, cl, rfl⟩ := hlo.form
  obtain ⟨w2, hw2⟩ : ∃ z, w.alloc (.cells #[.slice A m c, .int .i64 secs] 24) = z := ⟨_, rfl⟩
  have B1 : Blk w2 w.heap.size 24 #[.slice A m c, .int .i64 secs] := by rw [← hw2]; exact Blk.new _ _ _
  have D2 : Below w.heap.size w w2 := by rw [← hw2]; exact keep_alloc (Below.refl _ _) _
  have HB := Lib.hid (And.intro B1 D2)
  have HW2 := Lib.hid hw2
  have HG := Lib.hid (hg.below D2 (Nat.le_refl _))
  have HARG := Lib.hid (And.intro (hu.below D2) (hlo.below D2))
  clear B1 D2 hw2 hg hu hlo
  go_enter Tryz.func4, Tryz.ntmps4
  go_wp2_with fail
  rw [HW2.out]
  refine (awake18_any w2).mono ?_
  rintro e w3 ⟨rfl, hb3⟩
  have HB3 := Lib.hid (keep_below hb3 HB.out.2)
  by_cases h12 : 12 < us.length
  · have hd1 : decide ((12 : Int) < us.length) = true := decide_eq_true (by omega)
    clear h12 hb3
    go_wp2_with fail
    refine (awake18_any w3).mono ?_
    rintro e w4 ⟨rfl, hb4⟩
    have HB4 := Lib.hid (keep_below hb4 HB3.out)
    clear hb4
    go_wp2_with fail
    go_ret
    exact ⟨rfl, HB4.out⟩
  have hd1 : decide ((12 : Int) < us.length) = false := decide_eq_false (by omega)
  have g0 := keepU (HB.out.1.at_ (i := 0) (v := .slice A m c) rfl) hb3
  have g1 := keepU (HB.out.1.at_ (i := 1) (v := .int .i64 secs) rfl) hb3
  have hg3 := HG.out.below hb3 (Nat.le_refl _)
  have HGB3 : Hid (Blk w3 w.heap.size 24 #[.slice A m c, .int .i64 secs]) := Lib.hid (HB.out.1.below hb3 HB.out.1.lt)
  have HUS3 : Hid (UbersAt w3 (.slice Au us.length cu) us) := Lib.hid (HARG.out.1.below hb3)
  have HLO3 := Lib.hid (HARG.out.2.below hb3)
  have H12 : Hid (us.length ≤ 12) := Lib.hid (by omega)
  clear hb3 h12
  cases hr : (gRight gs secs && decide (secs ≤ 200)) with
  | false =>
    have HD := Lib.hid (devices_bad (c := c) hg3 hr (.slice none 0 0) (.slice Al ll.length cl))
    clear hg3 hr
    go_wp2_with fail
    refine HD.out.mono ?_
    rintro e w4 ⟨rfl, hb4⟩
    have HB4 := Lib.hid (keep_below hb4 HB3.out)
    clear g0 g1 hb4
    go_wp2_with fail
    go_ret
    exact ⟨rfl, keep_alloc HB4.out _⟩
  | true =>
    simp only [Bool.and_eq_true, decide_eq_true_eq] at hr
    obtain ⟨hr1, hr2⟩ := hr
    have hgp := gRight_parts hr1
    obtain ⟨sn, rfl⟩ := Int.eq_ofNat_of_zero_le (show 0 ≤ secs by omega)
    obtain ⟨n, hn⟩ : ∃ n : Nat, gSum gs = n := ⟨(gSum gs).toNat, by have := gSum_pos hr1; omega⟩
    have hn32 : n ≤ 32 := by have := sum_take_bd hr1 gs.length; rw [List.take_length] at this; omega
    have hn0 : 0 < n := by have := gSum_pos hr1; omega
    have HD := Lib.hid (devices_any2 (c := c) hg3 hr1 (by omega) hn (al := []) (ll := ll) (slAt_none w3 _) HLO3.out)
    have hs24 : 24 ≤ sn := by have := hgp.2.2.1; omega
    have hs200 : sn ≤ 200 := by omega
    have HR := Lib.hid (And.intro hr1 (And.intro hs24 hs200))
    have HG3 := Lib.hid hg3
    clear hg3 hr1 hr2 hgp hn
    go_wp2_with fail
    refine HD.out.mono ?_
    rintro e w4 ⟨y, S, U, hv, rfl, hys, hysec, hyn, hV, hU, hsl, _, hb4⟩
    obtain ⟨Av, cv, rfl⟩ := hsl.form
    obtain ⟨ob, oo, rfl, hUo, hoc⟩ := hsl.cells hn0
    have few : y.bd.length ≤ 1000 := by omega
    obtain ⟨aw, haw⟩ : ∃ aw, awT [] n n = aw := ⟨_, rfl⟩
    obtain ⟨ds0, hds0⟩ : ∃ ds0, lsT ll (DevD.blank sn 0) n n = ds0 := ⟨_, rfl⟩
    have hl0 : ds0.length = n := by rw [← hds0]; exact lsT_len
    have hok0 : DsOk 0 sn ds0 := by rw [← hds0]; exact ubls_ok (by omega) (by omega)
    have hin0 : BInv gs (sn : Int) aw ds0 n ubZ := by rw [← haw, ← hds0]; exact binv_start hs24
    have hhr : ∀ i, i < n → hereD aw ds0 i = (!bAt [] i && !bAt ll i) := fun i hi => by rw [← haw, ← hds0]; exact ubls_here hi
    rw [haw, hds0] at hV
    have hsw : w4.heap.size + 1 = w4.heap.size + 1 := rfl
    obtain ⟨w5, hw5⟩ : ∃ z, w4.alloc (.cells y.cells 50) = z := ⟨_, rfl⟩
    have hX5 : Blk w5 w4.heap.size 50 y.cells := by rw [← hw5]; exact Blk.new _ _ _
    have hb5 : Below w4.heap.size w4 w5 := by rw [← hw5]; exact keep_alloc (Below.refl _ _) _
    have hs5 : w5.heap.size = w4.heap.size + 1 := by rw [← hw5]; simp
    obtain ⟨lb, hlb⟩ : ∃ lb, w4.heap.size + 1 = lb := ⟨_, rfl⟩
    rw [hlb] at hs5
    obtain ⟨w6, hw6⟩ : ∃ z, w5.alloc (.cells #[.int .i64 0, .int .i64 0, .int .i64 0, .int .i64 0, .int .i64 0, .int .i64 0, .bool false, .int .i64 0, .int .i64 0, .int .i64 0, .int .u64 0, .int .u64 0, .int .u64 0, .int .u64 0] 35) = z := ⟨_, rfl⟩
    have hL6 : Blk w6 lb 35 ubZ.cells := by rw [← hw6, ← hs5]; exact Blk.new _ _ _
    have hb6 : Below w5.heap.size w5 w6 := by rw [← hw6]; exact keep_alloc (Below.refl _ _) _
    obtain ⟨U0, hU0⟩ : ∃ U0, U0 = more U w4 w5 := ⟨_, rfl⟩
    obtain ⟨U1, hU1⟩ : ∃ U1, U1 = more U0 w5 w6 := ⟨_, rfl⟩
    have hV5 : VdIn w5 S U0 y aw ds0 := by rw [hU0]; exact hV.more hb5
    have hV6 : VdIn w6 S U1 y aw ds0 := by rw [hU1]; exact hV5.more hb6
    have hu01 : ∀ b, U0 b → U1 b := fun b hb => by rw [hU1]; exact .inl hb
    have hu0 : U0 w4.heap.size ∧ U0 ob ∧ ∀ b, b < w3.heap.size → U0 b := by rw [hU0]; exact ⟨.inr ⟨Nat.le_refl _, hX5.lt⟩, .inl hUo, fun b hb => .inl (hU b hb)⟩
    have hul : U1 lb ∧ ¬ U0 lb ∧ lb ≠ y.gb ∧ lb ≠ y.lb ∧ lb ≠ y.ab := by
      have h1 : ∀ b, U0 b → b ≠ lb := fun b hb => by have := hV5.us b hb; omega
      refine ⟨by rw [hU1]; exact .inr ⟨by omega, hL6.lt⟩, fun h => h1 _ h rfl, fun e => h1 _ hV5.ug e.symm, fun e => h1 _ hV5.ul e.symm, fun e => h1 _ hV5.ua e.symm⟩
    have hX6 : Blk w6 w4.heap.size 50 y.cells := hX5.below hb6 hX5.lt
    have hob6 : w6.heap[ob]? = w4.heap[ob]? := by
      have h1 := hV.us ob hUo
      exact (hb6.block ob (Nat.lt_of_lt_of_le h1 hb5.size)).trans (hb5.block ob h1)
    have HOC : Hid (∀ j u, (boolC (hrT [] ll n))[j]? = some u → w6.cell? ⟨ob, oo + j, none⟩ = some u) := Lib.hid fun j u hj => (cell_same' hob6).trans (hoc j u hj)
    have HV6 := Lib.hid hV6
    have HU := Lib.hid (And.intro hu01 (And.intro hu0 hul))
    have HX6 := Lib.hid hX6
    have HL6 := Lib.hid hL6
    have HB36 : Hid (Below w3.heap.size w3 w6) := Lib.hid (keep_below (keep_below hb6 hb5) hb4)
    have HY := Lib.hid (And.intro hyn (And.intro hys (And.intro hysec few)))
    have HI0 := Lib.hid (And.intro hl0 (And.intro hok0 hin0))
    have HHR := Lib.hid hhr
    have HW5 := Lib.hid hw5
    have HW6 := Lib.hid hw6
    have HLB := Lib.hid hlb
    clear hys hysec hyn hV hU hsl hUo hoc few haw hds0 hl0 hok0 hin0 hhr hsw hw5 hX5 hb5 hs5 hlb hw6 hL6 hb6 hU0 hU1 hV5 hV6 hu01 hu0 hul hX6 hob6 hb4 g0 g1 HD hs24 hs200
    go_wp2_with fail
    rw [HW5.out, HW6.out, HLB.out]
    go_loopw [13, 14, 15, 64] (fun t _ _ _ wr => ∃ (k : Nat) (S' : Nat → Nat → Prop) (ds : List DevD) (last : UbD), k ≤ us.length ∧ t = .int .i64 k ∧ VdIn wr S' U1 y aw ds ∧ ds.length = n ∧ DsOk (4 * n * k) sn ds ∧ (∀ e, hereD aw ds e = hereD aw ds0 e) ∧ BInv gs (sn : Int) aw ds n last ∧ Blk wr lb 35 last.cells ∧ Stays U0 w6 wr) (fun t _ _ _ _ => us.length - (RowKit.intOf t).toNat)
    case atStart => exact ⟨0, S, ds0, ubZ, Nat.zero_le _, rfl, HV6.out, HI0.out.1, HI0.out.2.1, fun _ => rfl, HI0.out.2.2, HL6.out, stays_refl _⟩
    case round =>
      obtain ⟨k, S', ds, ⟨bt, bn, bp⟩, hk, rfl, hV, hdl, hok, hhe, hinv, hlst, hst⟩ := hrel
      dsimp only [UbD.cells] at hlst
      have hbw : Below w3.heap.size w3 wr := HB36.out.trans (hst.below HB36.out.size (fun i hi => HU.out.2.1.2.2 i hi))
      have hgr := HG3.out.below hbw (Nat.le_refl _)
      have hgb := HGB3.out.below hbw HGB3.out.lt
      have hxr : Blk wr w4.heap.size 50 y.cells := (hst.heap HU.out.2.1.1 HX6.out.lt).trans HX6.out
      have HV := Lib.hid hV
      have HD := Lib.hid (And.intro hdl (And.intro hok (And.intro hhe hinv)))
      have HL := Lib.hid hlst
      have HST := Lib.hid hst
      have HGR := Lib.hid hgr
      have HXR := Lib.hid hxr
      have HBW := Lib.hid hbw
      by_cases hlt : k < us.length
      · have hdc : decide (k < us.length) = true := decide_eq_true hlt
        obtain ⟨⟨t0, n0, p0⟩, hx⟩ : ∃ x, us[k]? = some x := ⟨_, List.getElem?_eq_getElem hlt⟩
        obtain ⟨A', c', e1, _, e3⟩ := HUS3.out.below hbw
        obtain ⟨ub, uo, e4, hubl, hel⟩ := e3 (by omega)
        cases e1
        subst e4
        obtain ⟨op0, c0, c1, c2, c3, c4, c5, c6, c7, c8, c9, c10, c11, c12, c13⟩ := hel k _ hx
        have hub3 : ub < w3.heap.size := by
          obtain ⟨A', c', e1, _, e3⟩ := HUS3.out
          obtain ⟨ub', uo', e4, hubl', _⟩ := e3 (by omega)
          cases e1
          cases e4
          exact hubl'
        have hUub := HU.out.1 ub (HU.out.2.1.2.2 ub hub3)
        have HOP := Lib.hid op0
        have HC := Lib.hid (And.intro c0 (And.intro c1 (And.intro c2 (And.intro c3 (And.intro c4 (And.intro c5 (And.intro c6 (And.intro c7 (And.intro c8 (And.intro c9 (And.intro c10 (And.intro c11 (And.intro c12 c13)))))))))))))
        have HLT := Lib.hid hlt
        have HUB := Lib.hid (And.intro hubl hUub)
        obtain ⟨rr, hrr⟩ : ∃ rr, nRightB gs (sn : Int) n0 p0 = rr := ⟨_, rfl⟩
        have HRR := Lib.hid hrr
        try dsimp only at c0 c1 c2 c3 c4 c5 c6 c7 c8 c9 c10 c11 c12 c13
        have hb0 := hlst.at_ (i := 0) (v := .int .i64 bt) rfl
        have hlbl := hlst.lt
        have hgbl := hgb.lt
        have hgc0 := hgb.at_ (i := 0) (v := .slice A m c) rfl
        have hgc1 := hgb.at_ (i := 1) (v := .int .i64 sn) rfl
        clear hV hdl hok hhe hinv hlst hst hgr hxr hbw hrr e3 hel hub3 hUub op0 hx hk
        go_wp2_with fail
        obtain ⟨C, hC, hC0, hCB, hCK, hCd⟩ := cls_below wr
        have fe0 : ∀ W, C W → W.cell? ⟨ub, uo + k * 14, none⟩ = some (.int .i64 t0) := fun W h => (cell_same' ((hCB W h).block ub hubl)).trans c0
        have fe1 : ∀ W, C W → W.cell? ⟨ub, uo + k * 14 + 1, none⟩ = some (.int .i64 n0) := fun W h => (cell_same' ((hCB W h).block ub hubl)).trans c1
        have fe2 : ∀ W, C W → W.cell? ⟨ub, uo + k * 14 + 2, none⟩ = some (.int .i64 p0.ag) := fun W h => (cell_same' ((hCB W h).block ub hubl)).trans c2
        have fe3 : ∀ W, C W → W.cell? ⟨ub, uo + k * 14 + 3, none⟩ = some (.int .i64 p0.aa) := fun W h => (cell_same' ((hCB W h).block ub hubl)).trans c3
        have fe4 : ∀ W, C W → W.cell? ⟨ub, uo + k * 14 + 4, none⟩ = some (.int .i64 p0.bg) := fun W h => (cell_same' ((hCB W h).block ub hubl)).trans c4
        have fe5 : ∀ W, C W → W.cell? ⟨ub, uo + k * 14 + 5, none⟩ = some (.int .i64 p0.ba) := fun W h => (cell_same' ((hCB W h).block ub hubl)).trans c5
        have fe6 : ∀ W, C W → W.cell? ⟨ub, uo + k * 14 + 6, none⟩ = some (.bool p0.two) := fun W h => (cell_same' ((hCB W h).block ub hubl)).trans c6
        have fe7 : ∀ W, C W → W.cell? ⟨ub, uo + k * 14 + 7, none⟩ = some (.int .i64 p0.size) := fun W h => (cell_same' ((hCB W h).block ub hubl)).trans c7
        have fe8 : ∀ W, C W → W.cell? ⟨ub, uo + k * 14 + 8, none⟩ = some (.int .i64 p0.level) := fun W h => (cell_same' ((hCB W h).block ub hubl)).trans c8
        have fe9 : ∀ W, C W → W.cell? ⟨ub, uo + k * 14 + 9, none⟩ = some (.int .i64 p0.birth) := fun W h => (cell_same' ((hCB W h).block ub hubl)).trans c9
        have fe10 : ∀ W, C W → W.cell? ⟨ub, uo + k * 14 + 10, none⟩ = some (.int .u64 p0.s0) := fun W h => (cell_same' ((hCB W h).block ub hubl)).trans c10
        have fe11 : ∀ W, C W → W.cell? ⟨ub, uo + k * 14 + 11, none⟩ = some (.int .u64 p0.s1) := fun W h => (cell_same' ((hCB W h).block ub hubl)).trans c11
        have fe12 : ∀ W, C W → W.cell? ⟨ub, uo + k * 14 + 12, none⟩ = some (.int .u64 p0.s2) := fun W h => (cell_same' ((hCB W h).block ub hubl)).trans c12
        have fe13 : ∀ W, C W → W.cell? ⟨ub, uo + k * 14 + 13, none⟩ = some (.int .u64 p0.s3) := fun W h => (cell_same' ((hCB W h).block ub hubl)).trans c13
        have fb : ∀ W, C W → W.cell? ⟨lb, 0, none⟩ = some (.int .i64 bt) := fun W h => keep_cell (hCB W h) hb0 hlbl
        have fg0 : ∀ W, C W → W.cell? ⟨w.heap.size, 0, none⟩ = some (.slice A m c) := fun W h => keep_cell (hCB W h) hgc0 hgbl
        have fg1 : ∀ W, C W → W.cell? ⟨w.heap.size, 1, none⟩ = some (.int .i64 sn) := fun W h => keep_cell (hCB W h) hgc1 hgbl
        have HRT : Hid (∀ W, C W → Calls Tryz.prog 11 #[.agg #[.slice A m c, .int .i64 sn], .agg #[.int .i64 n0, .int .i64 p0.ag, .int .i64 p0.aa, .int .i64 p0.bg, .int .i64 p0.ba, .bool p0.two, .int .i64 p0.size, .int .i64 p0.level, .int .i64 p0.birth, .int .u64 p0.s0, .int .u64 p0.s1, .int .u64 p0.s2, .int .u64 p0.s3]] W fun e w' => e = .returned (.bool rr) ∧ Below W.heap.size W w') := Lib.hid fun W hW => by
          have h1 := refRight13_any A m c gs (sn : Int) n0 p0 W (HGR.out.below (hCB W hW) (Nat.le_refl _))
          rw [HRR.out] at h1
          exact h1
        clear c0 c1 c2 c3 c4 c5 c6 c7 c8 c9 c10 c11 c12 c13 hb0 hgc0 hgc1 hgbl hgb
        by_cases hle : t0 ≤ bt
        · have hd2 : decide (t0 ≤ bt) = true := decide_eq_true hle
          clear HRT hle
          refine wp_region_cls C (by kernel_rfl) (by kernel_rfl) hC ?_
          repeat (first
            | go_big_quiet_skip
            | (go_big_quiet_want
               go_big_quiet_op
               first
                 | go_big_quiet_on
                 | (apply Exists.intro
                    refine ⟨fun W hW => ?_, ?_⟩
                    · first
                        | exact rfl
                        | exact ⟨rfl, rfl⟩
                        | (have e0 := fe0 W hW; have e1 := fb W hW; simp only [e0, e1, Result.andThen_ok]; done)
                        | (have e0 := fe0 W hW; have e1 := fb W hW; simp only [e0, e1, Result.andThen_ok]; first | exact ⟨trivial, rfl⟩ | exact rfl | exact ⟨rfl, rfl⟩)
                        | (skip)
                    go_big_quiet_on)))
          refine wpQuiet_nil ?_
          intro w10 hw10
          have hB10 := hCB w10 hw10
          have HN := Lib.hid (And.intro (HV.out.below hB10) (And.intro (HL.out.below hB10 HL.out.lt) (HST.out.trans (stays_below hB10))))
          clear fe0 fe1 fe2 fe3 fe4 fe5 fe6 fe7 fe8 fe9 fe10 fe11 fe12 fe13 fb fg0 fg1 hC hC0 hCB hCK hCd hB10 hw10
          go_wp2_with fail
          go_roundw
          case rel => exact ⟨k + 1, S', ds, ⟨bt, bn, bp⟩, HLT.out, by go_num, HN.out.1, HD.out.1, dsOk_more HD.out.2.1 (Nat.mul_le_mul_left _ (Nat.le_succ k)), HD.out.2.2.1, HD.out.2.2.2, HN.out.2.1, HN.out.2.2⟩
          case measure => have := HLT.out; simp [RowKit.intOf]; omega
        · have hd2 : decide (t0 ≤ bt) = false := decide_eq_false hle
          have HLE : Hid (bt < t0) := Lib.hid (by omega)
          clear hle
          refine wp_region_cls C (by kernel_rfl) (by kernel_rfl) hC ?_
          repeat (first
            | go_big_quiet_skip
            | (go_big_quiet_want
               go_big_quiet_op
               first
                 | go_big_quiet_on
                 | (apply Exists.intro
                    refine ⟨fun W hW => ?_, ?_⟩
                    · first
                        | exact rfl
                        | exact ⟨rfl, rfl⟩
                        | (have e0 := fe0 W hW; have e1 := fe1 W hW; have e2 := fe2 W hW; have e3 := fe3 W hW; have e4 := fe4 W hW; have e5 := fe5 W hW; have e6 := fe6 W hW; have e7 := fe7 W hW; have e8 := fe8 W hW; have e9 := fe9 W hW; have e10 := fe10 W hW; have e11 := fe11 W hW; have e12 := fe12 W hW; have e13 := fe13 W hW; have e14 := fb W hW; have e15 := fg0 W hW; have e16 := fg1 W hW; simp only [e0, e1, e2, e3, e4, e5, e6, e7, e8, e9, e10, e11, e12, e13, e14, e15, e16, Result.andThen_ok]; done)
                        | (have e0 := fe0 W hW; have e1 := fe1 W hW; have e2 := fe2 W hW; have e3 := fe3 W hW; have e4 := fe4 W hW; have e5 := fe5 W hW; have e6 := fe6 W hW; have e7 := fe7 W hW; have e8 := fe8 W hW; have e9 := fe9 W hW; have e10 := fe10 W hW; have e11 := fe11 W hW; have e12 := fe12 W hW; have e13 := fe13 W hW; have e14 := fb W hW; have e15 := fg0 W hW; have e16 := fg1 W hW; simp only [e0, e1, e2, e3, e4, e5, e6, e7, e8, e9, e10, e11, e12, e13, e14, e15, e16, Result.andThen_ok]; first | exact ⟨trivial, rfl⟩ | exact rfl | exact ⟨rfl, rfl⟩)
                        | ((go_at_call 11; refine (HRT.out W hW).mono ?_; rintro e w' ⟨rfl, hb⟩; exact ⟨rfl, hCK _ _ hW hb⟩))
                    go_big_quiet_on)))
          refine wpQuiet_nil ?_
          intro w10 hw10
          have hB10 := hCB w10 hw10
          have HN := Lib.hid (And.intro (HV.out.below hB10) (And.intro (HL.out.below hB10 HL.out.lt) (And.intro (HST.out.trans (stays_below hB10)) (And.intro (HXR.out.below hB10 HXR.out.lt) hB10))))
          clear fe0 fe1 fe2 fe3 fe4 fe5 fe6 fe7 fe8 fe9 fe10 fe11 fe12 fe13 fb fg0 fg1 hC hC0 hCB hCK hCd hB10 hw10 HRT
          cases rr with
          | false =>
            go_wp2_with fail
            go_roundw
            case rel => exact ⟨k + 1, S', ds, ⟨bt, bn, bp⟩, HLT.out, by go_num, HN.out.1, HD.out.1, dsOk_more HD.out.2.1 (Nat.mul_le_mul_left _ (Nat.le_succ k)), HD.out.2.2.1, HD.out.2.2.2, HN.out.2.1, HN.out.2.2.1⟩
            case measure => have := HLT.out; simp [RowKit.intOf]; omega
          | true =>
            obtain ⟨ew, hew⟩ : ∃ ew, uwE gs (sn : Int) aw t0 n0 p0 ds = ew := ⟨_, rfl⟩
            obtain ⟨nw, hnw⟩ : ∃ nw : Int, ((uwN gs (sn : Int) aw t0 n0 p0 ds : Nat) : Int) = nw := ⟨_, rfl⟩
            have hwr := uwrite_any (HN.out.1.same (w' := w10.drew) (Nat.le_refl _) (fun _ _ => rfl) (fun _ _ _ => rfl)) HY.out.2.2.2 (N := 4 * n * k) (by rw [HY.out.2.2.1]; exact HD.out.2.1) (by
              have h1 : 4 * n * k ≤ 4 * 32 * 12 := Nat.mul_le_mul (by omega) (by have := H12.out; omega)
              omega) (by rw [HY.out.2.2.1]; exact HR.out.2.1) t0 n0 p0 HOP.out
            rw [HY.out.2.1, HY.out.2.2.1, hew, hnw] at hwr
            have HWR := Lib.hid hwr
            have HEW := Lib.hid hew
            obtain ⟨c0, c1, c2, c3, c4, c5, c6, c7, c8, c9, c10, c11, c12, c13⟩ := HC.out
            try dsimp only at c0 c1 c2 c3 c4 c5 c6 c7 c8 c9 c10 c11 c12 c13
            obtain ⟨S0, hS0⟩ : ∃ S0 : World → Prop, S0 = fun W => ∀ g, (g = w4.heap.size ∨ g = ub) → W.heap[g]? = w10.heap[g]? := ⟨_, rfl⟩
            have hSg : ∀ W, S0 W → ∀ g, (g = w4.heap.size ∨ g = ub) → W.heap[g]? = w10.heap[g]? := fun W h => by rw [hS0] at h; exact h
            have fe0 : ∀ W, S0 W → W.cell? ⟨ub, uo + k * 14, none⟩ = some (.int .i64 t0) := fun W h => (cell_same' ((hSg W h _ (.inr rfl)).trans (HN.out.2.2.2.2.block ub HUB.out.1))).trans c0
            have fe1 : ∀ W, S0 W → W.cell? ⟨ub, uo + k * 14 + 1, none⟩ = some (.int .i64 n0) := fun W h => (cell_same' ((hSg W h _ (.inr rfl)).trans (HN.out.2.2.2.2.block ub HUB.out.1))).trans c1
            have fe2 : ∀ W, S0 W → W.cell? ⟨ub, uo + k * 14 + 2, none⟩ = some (.int .i64 p0.ag) := fun W h => (cell_same' ((hSg W h _ (.inr rfl)).trans (HN.out.2.2.2.2.block ub HUB.out.1))).trans c2
            have fe3 : ∀ W, S0 W → W.cell? ⟨ub, uo + k * 14 + 3, none⟩ = some (.int .i64 p0.aa) := fun W h => (cell_same' ((hSg W h _ (.inr rfl)).trans (HN.out.2.2.2.2.block ub HUB.out.1))).trans c3
            have fe4 : ∀ W, S0 W → W.cell? ⟨ub, uo + k * 14 + 4, none⟩ = some (.int .i64 p0.bg) := fun W h => (cell_same' ((hSg W h _ (.inr rfl)).trans (HN.out.2.2.2.2.block ub HUB.out.1))).trans c4
            have fe5 : ∀ W, S0 W → W.cell? ⟨ub, uo + k * 14 + 5, none⟩ = some (.int .i64 p0.ba) := fun W h => (cell_same' ((hSg W h _ (.inr rfl)).trans (HN.out.2.2.2.2.block ub HUB.out.1))).trans c5
            have fe6 : ∀ W, S0 W → W.cell? ⟨ub, uo + k * 14 + 6, none⟩ = some (.bool p0.two) := fun W h => (cell_same' ((hSg W h _ (.inr rfl)).trans (HN.out.2.2.2.2.block ub HUB.out.1))).trans c6
            have fe7 : ∀ W, S0 W → W.cell? ⟨ub, uo + k * 14 + 7, none⟩ = some (.int .i64 p0.size) := fun W h => (cell_same' ((hSg W h _ (.inr rfl)).trans (HN.out.2.2.2.2.block ub HUB.out.1))).trans c7
            have fe8 : ∀ W, S0 W → W.cell? ⟨ub, uo + k * 14 + 8, none⟩ = some (.int .i64 p0.level) := fun W h => (cell_same' ((hSg W h _ (.inr rfl)).trans (HN.out.2.2.2.2.block ub HUB.out.1))).trans c8
            have fe9 : ∀ W, S0 W → W.cell? ⟨ub, uo + k * 14 + 9, none⟩ = some (.int .i64 p0.birth) := fun W h => (cell_same' ((hSg W h _ (.inr rfl)).trans (HN.out.2.2.2.2.block ub HUB.out.1))).trans c9
            have fe10 : ∀ W, S0 W → W.cell? ⟨ub, uo + k * 14 + 10, none⟩ = some (.int .u64 p0.s0) := fun W h => (cell_same' ((hSg W h _ (.inr rfl)).trans (HN.out.2.2.2.2.block ub HUB.out.1))).trans c10
            have fe11 : ∀ W, S0 W → W.cell? ⟨ub, uo + k * 14 + 11, none⟩ = some (.int .u64 p0.s1) := fun W h => (cell_same' ((hSg W h _ (.inr rfl)).trans (HN.out.2.2.2.2.block ub HUB.out.1))).trans c11
            have fe12 : ∀ W, S0 W → W.cell? ⟨ub, uo + k * 14 + 12, none⟩ = some (.int .u64 p0.s2) := fun W h => (cell_same' ((hSg W h _ (.inr rfl)).trans (HN.out.2.2.2.2.block ub HUB.out.1))).trans c12
            have fe13 : ∀ W, S0 W → W.cell? ⟨ub, uo + k * 14 + 13, none⟩ = some (.int .u64 p0.s3) := fun W h => (cell_same' ((hSg W h _ (.inr rfl)).trans (HN.out.2.2.2.2.block ub HUB.out.1))).trans c13
            have fx0 : ∀ W, S0 W → W.cell? ⟨w4.heap.size, 0, none⟩ = some (.slice (some ⟨y.gb, 0, none⟩) y.m y.cc) := fun W h => (cell_same' (hSg W h _ (.inl rfl))).trans (HN.out.2.2.2.1.at_ rfl)
            have fx1 : ∀ W, S0 W → W.cell? ⟨w4.heap.size, 1, none⟩ = some (.int .i64 y.secs) := fun W h => (cell_same' (hSg W h _ (.inl rfl))).trans (HN.out.2.2.2.1.at_ rfl)
            have fx2 : ∀ W, S0 W → W.cell? ⟨w4.heap.size, 2, none⟩ = some (.slice (some ⟨y.lb, 0, none⟩) y.bd.length y.lc) := fun W h => (cell_same' (hSg W h _ (.inl rfl))).trans (HN.out.2.2.2.1.at_ rfl)
            have fx3 : ∀ W, S0 W → W.cell? ⟨w4.heap.size, 3, none⟩ = some (.slice (some ⟨y.ab, 0, none⟩) y.bd.length y.bd.length) := fun W h => (cell_same' (hSg W h _ (.inl rfl))).trans (HN.out.2.2.2.1.at_ rfl)
            have hSw : S0 w10.drew := by rw [hS0]; exact fun _ _ => rfl
            have HSE : Hid (∀ W, Stays U1 w10 W → S0 W) := Lib.hid fun W hW => by
              rw [hS0]
              intro g hg
              have hg' : U1 g := by
                rcases hg with rfl | rfl
                · exact HU.out.1 _ HU.out.2.1.1
                · exact HUB.out.2
              exact hW.heap hg' (HN.out.1.us g hg')
            clear c0 c1 c2 c3 c4 c5 c6 c7 c8 c9 c10 c11 c12 c13 hS0 hSg hwr hew hnw
            go_wp2_with fail
            refine wp_region_effA S0 [5] (by kernel_rfl) (by kernel_rfl) (by kernel_rfl) hSw ?_
            refine wpLexE_take 5 (by kernel_rfl) (by kernel_rfl) ?_
            simp only [List.take_succ_cons, List.take_zero, List.drop_succ_cons, List.drop_zero]
            repeat (first
              | go_big_quiet_skip
              | (go_big_quiet_want
                 go_big_quiet_op
                 first
                   | go_big_quiet_on
                   | (apply Exists.intro
                      refine ⟨fun W hW => ?_, ?_⟩
                      · first
                          | exact rfl
                          | exact ⟨rfl, rfl⟩
                          | (have e0 := fe0 W hW; have e1 := fe1 W hW; have e2 := fe2 W hW; have e3 := fe3 W hW; have e4 := fe4 W hW; have e5 := fe5 W hW; have e6 := fe6 W hW; have e7 := fe7 W hW; have e8 := fe8 W hW; have e9 := fe9 W hW; have e10 := fe10 W hW; have e11 := fe11 W hW; have e12 := fe12 W hW; have e13 := fe13 W hW; have e14 := fx0 W hW; have e15 := fx1 W hW; have e16 := fx2 W hW; have e17 := fx3 W hW; simp only [e0, e1, e2, e3, e4, e5, e6, e7, e8, e9, e10, e11, e12, e13, e14, e15, e16, e17, Result.andThen_ok]; done)
                          | (have e0 := fe0 W hW; have e1 := fe1 W hW; have e2 := fe2 W hW; have e3 := fe3 W hW; have e4 := fe4 W hW; have e5 := fe5 W hW; have e6 := fe6 W hW; have e7 := fe7 W hW; have e8 := fe8 W hW; have e9 := fe9 W hW; have e10 := fe10 W hW; have e11 := fe11 W hW; have e12 := fe12 W hW; have e13 := fe13 W hW; have e14 := fx0 W hW; have e15 := fx1 W hW; have e16 := fx2 W hW; have e17 := fx3 W hW; simp only [e0, e1, e2, e3, e4, e5, e6, e7, e8, e9, e10, e11, e12, e13, e14, e15, e16, e17, Result.andThen_ok]; first | exact ⟨trivial, rfl⟩ | exact rfl | exact ⟨rfl, rfl⟩)
                          | (skip)
                      go_big_quiet_on)))
            refine wpQuiet_nil ?_
            show wpLexE _ _ _ _ _ _ _ _ _
            refine wpLexE_eff (by kernel_rfl) rfl ?_
            clear fe0 fe1 fe2 fe3 fe4 fe5 fe6 fe7 fe8 fe9 fe10 fe11 fe12 fe13 fx1 fx2 fx3
            go_wp2_with fail
            refine HWR.out.mono ?_
            rintro e w11 ⟨rfl, ⟨S11, hV11⟩, hst11⟩
            have hst11' : Stays U1 w10 w11 := ⟨hst11.os, hst11.tape, hst11.output, hst11.size, hst11.block⟩
            have hS6 := HSE.out w11 hst11'
            have heqb : w11.heap[ub]? = wr.heap[ub]? := (hst11'.heap HUB.out.2 (HN.out.1.us _ HUB.out.2)).trans (HN.out.2.2.2.2.block ub HUB.out.1)
            have hL11 : Blk w11 lb 35 #[.int .i64 bt, .int .i64 bn, .int .i64 bp.ag, .int .i64 bp.aa, .int .i64 bp.bg, .int .i64 bp.ba, .bool bp.two, .int .i64 bp.size, .int .i64 bp.level, .int .i64 bp.birth, .int .u64 bp.s0, .int .u64 bp.s1, .int .u64 bp.s2, .int .u64 bp.s3] := (hst11'.heap HU.out.2.2.1 HN.out.2.1.lt).trans HN.out.2.1
            have hst0 : Stays U0 w6 w11 := HN.out.2.2.1.trans (hst11'.mono HU.out.1)
            have hokN : DsOk (4 * n * (k + 1)) sn (uwD gs (sn : Int) aw t0 n0 p0 ds) := by
              have := uwD_ok (gs := gs) (secs := (sn : Int)) (aw := aw) (t := t0) (n := n0) (p := p0) HD.out.2.1 HD.out.1
              rw [Nat.mul_succ]
              exact this
            have HE11 := Lib.hid (And.intro hV11 (And.intro hL11 (And.intro hst0 (And.intro hokN heqb))))
            clear hV11 hst11 hst11' HWR hL11 hst0 hokN heqb
            go_wp2_with fail
            refine ⟨rfl, hS6, ?_⟩
            refine wpLexE_take 5 (by kernel_rfl) (by kernel_rfl) ?_
            simp only [List.take_succ_cons, List.take_zero, List.drop_succ_cons, List.drop_zero]
            repeat (first
              | go_big_quiet_skip
              | (go_big_quiet_want
                 go_big_quiet_op
                 first
                   | go_big_quiet_on
                   | (apply Exists.intro
                      refine ⟨fun W hW => ?_, ?_⟩
                      · first
                          | exact rfl
                          | exact ⟨rfl, rfl⟩
                          | (have e0 := fx0 W hW; simp only [e0, Result.andThen_ok]; done)
                          | (have e0 := fx0 W hW; simp only [e0, Result.andThen_ok]; first | exact ⟨trivial, rfl⟩ | exact rfl | exact ⟨rfl, rfl⟩)
                          | (skip)
                      go_big_quiet_on)))
            refine wpQuiet_nil ?_
            show wpLexE _ _ _ _ _ _ _ _ _
            unfold wpLexE
            clear hS6 HSE fx0 hSw
            by_cases he0 : ew = 0
            · subst he0
              obtain ⟨c0, c1, c2, c3, c4, c5, c6, c7, c8, c9, c10, c11, c12, c13⟩ := HC.out
              try dsimp only at c0 c1 c2 c3 c4 c5 c6 c7 c8 c9 c10 c11 c12 c13
              have hL11 := HE11.out.2.1
              have e0 : (w11).cell? ⟨ub, uo + k * 14, none⟩ = some (.int .i64 t0) := (cell_same' (HE11.out.2.2.2.2)).trans c0
              have e1 : (w11).cell? ⟨ub, uo + k * 14 + 1, none⟩ = some (.int .i64 n0) := (cell_same' (HE11.out.2.2.2.2)).trans c1
              have e2 : (w11).cell? ⟨ub, uo + k * 14 + 2, none⟩ = some (.int .i64 p0.ag) := (cell_same' (HE11.out.2.2.2.2)).trans c2
              have e3 : (w11).cell? ⟨ub, uo + k * 14 + 3, none⟩ = some (.int .i64 p0.aa) := (cell_same' (HE11.out.2.2.2.2)).trans c3
              have e4 : (w11).cell? ⟨ub, uo + k * 14 + 4, none⟩ = some (.int .i64 p0.bg) := (cell_same' (HE11.out.2.2.2.2)).trans c4
              have e5 : (w11).cell? ⟨ub, uo + k * 14 + 5, none⟩ = some (.int .i64 p0.ba) := (cell_same' (HE11.out.2.2.2.2)).trans c5
              have e6 : (w11).cell? ⟨ub, uo + k * 14 + 6, none⟩ = some (.bool p0.two) := (cell_same' (HE11.out.2.2.2.2)).trans c6
              have e7 : (w11).cell? ⟨ub, uo + k * 14 + 7, none⟩ = some (.int .i64 p0.size) := (cell_same' (HE11.out.2.2.2.2)).trans c7
              have e8 : (w11).cell? ⟨ub, uo + k * 14 + 8, none⟩ = some (.int .i64 p0.level) := (cell_same' (HE11.out.2.2.2.2)).trans c8
              have e9 : (w11).cell? ⟨ub, uo + k * 14 + 9, none⟩ = some (.int .i64 p0.birth) := (cell_same' (HE11.out.2.2.2.2)).trans c9
              have e10 : (w11).cell? ⟨ub, uo + k * 14 + 10, none⟩ = some (.int .u64 p0.s0) := (cell_same' (HE11.out.2.2.2.2)).trans c10
              have e11 : (w11).cell? ⟨ub, uo + k * 14 + 11, none⟩ = some (.int .u64 p0.s1) := (cell_same' (HE11.out.2.2.2.2)).trans c11
              have e12 : (w11).cell? ⟨ub, uo + k * 14 + 12, none⟩ = some (.int .u64 p0.s2) := (cell_same' (HE11.out.2.2.2.2)).trans c12
              have e13 : (w11).cell? ⟨ub, uo + k * 14 + 13, none⟩ = some (.int .u64 p0.s3) := (cell_same' (HE11.out.2.2.2.2)).trans c13
              have b0 := (hL11).at_ (i := 0) (v := .int .i64 bt) rfl
              have b1 := (hL11).at_ (i := 1) (v := .int .i64 bn) rfl
              have b2 := (hL11).at_ (i := 2) (v := .int .i64 bp.ag) rfl
              have b3 := (hL11).at_ (i := 3) (v := .int .i64 bp.aa) rfl
              have b4 := (hL11).at_ (i := 4) (v := .int .i64 bp.bg) rfl
              have b5 := (hL11).at_ (i := 5) (v := .int .i64 bp.ba) rfl
              have b6 := (hL11).at_ (i := 6) (v := .bool bp.two) rfl
              have b7 := (hL11).at_ (i := 7) (v := .int .i64 bp.size) rfl
              have b8 := (hL11).at_ (i := 8) (v := .int .i64 bp.level) rfl
              have b9 := (hL11).at_ (i := 9) (v := .int .i64 bp.birth) rfl
              have b10 := (hL11).at_ (i := 10) (v := .int .u64 bp.s0) rfl
              have b11 := (hL11).at_ (i := 11) (v := .int .u64 bp.s1) rfl
              have b12 := (hL11).at_ (i := 12) (v := .int .u64 bp.s2) rfl
              have b13 := (hL11).at_ (i := 13) (v := .int .u64 bp.s3) rfl
              have bf0 := (hL11).fr 0
              have bf1 := (hL11).fr 1
              have bf2 := (hL11).fr 2
              have bf3 := (hL11).fr 3
              have bf4 := (hL11).fr 4
              have bf5 := (hL11).fr 5
              have bf6 := (hL11).fr 6
              have bf7 := (hL11).fr 7
              have bf8 := (hL11).fr 8
              have bf9 := (hL11).fr 9
              have bf10 := (hL11).fr 10
              have bf11 := (hL11).fr 11
              have bf12 := (hL11).fr 12
              have bf13 := (hL11).fr 13
              obtain ⟨X2, hX2⟩ : ∃ z, ((((((((((((((w11.setCell ⟨lb, 0, none⟩ (.int .i64 t0)).setCell ⟨lb, 1, none⟩ (.int .i64 n0)).setCell ⟨lb, 2, none⟩ (.int .i64 p0.ag)).setCell ⟨lb, 3, none⟩ (.int .i64 p0.aa)).setCell ⟨lb, 4, none⟩ (.int .i64 p0.bg)).setCell ⟨lb, 5, none⟩ (.int .i64 p0.ba)).setCell ⟨lb, 6, none⟩ (.bool p0.two)).setCell ⟨lb, 7, none⟩ (.int .i64 p0.size)).setCell ⟨lb, 8, none⟩ (.int .i64 p0.level)).setCell ⟨lb, 9, none⟩ (.int .i64 p0.birth)).setCell ⟨lb, 10, none⟩ (.int .u64 p0.s0)).setCell ⟨lb, 11, none⟩ (.int .u64 p0.s1)).setCell ⟨lb, 12, none⟩ (.int .u64 p0.s2)).setCell ⟨lb, 13, none⟩ (.int .u64 p0.s3)) = z := ⟨_, rfl⟩
              have hX2' : (w11).setCells (lb) 0 [.int .i64 t0, .int .i64 n0, .int .i64 p0.ag, .int .i64 p0.aa, .int .i64 p0.bg, .int .i64 p0.ba, .bool p0.two, .int .i64 p0.size, .int .i64 p0.level, .int .i64 p0.birth, .int .u64 p0.s0, .int .u64 p0.s1, .int .u64 p0.s2, .int .u64 p0.s3] = X2 := hX2
              have hx2o : Only (fun g => g = lb) w11 X2 := by rw [← hX2']; exact only_sets (T := fun g => g = lb) (g := lb) rfl _ _ (Only.refl _ _)
              have HNX : Hid (VdIn X2 S11 U1 y aw (uwD gs (sn : Int) aw t0 n0 p0 ds) ∧ Blk X2 lb 35 #[.int .i64 t0, .int .i64 n0, .int .i64 p0.ag, .int .i64 p0.aa, .int .i64 p0.bg, .int .i64 p0.ba, .bool p0.two, .int .i64 p0.size, .int .i64 p0.level, .int .i64 p0.birth, .int .u64 p0.s0, .int .u64 p0.s1, .int .u64 p0.s2, .int .u64 p0.s3] ∧ Stays U0 w6 X2) := Lib.hid
                ⟨HE11.out.1.only hx2o (fun g hg => by subst hg; exact ⟨HU.out.2.2.1, HU.out.2.2.2.2⟩), by rw [← hX2']; exact hL11.putAll #[.int .i64 t0, .int .i64 n0, .int .i64 p0.ag, .int .i64 p0.aa, .int .i64 p0.bg, .int .i64 p0.ba, .bool p0.two, .int .i64 p0.size, .int .i64 p0.level, .int .i64 p0.birth, .int .u64 p0.s0, .int .u64 p0.s1, .int .u64 p0.s2, .int .u64 p0.s3] rfl, HE11.out.2.2.1.trans (Only.mono hx2o (fun i _ hi hU => by subst hi; exact HU.out.2.2.2.1 hU))⟩
              have HINV : Hid (BInv gs (sn : Int) aw (uwD gs (sn : Int) aw t0 n0 p0 ds) n ⟨t0, n0, p0⟩) := Lib.hid (binv_write HD.out.2.2.2 HD.out.1 HD.out.2.1 HR.out.2.1 HLE.out HOP.out HRR.out HEW.out)
              have HWX := Lib.hid hX2
              clear c0 c1 c2 c3 c4 c5 c6 c7 c8 c9 c10 c11 c12 c13 hL11 hX2 hX2' hx2o
              go_wp2_with fail
              rw [HWX.out]
              go_roundw
              case rel => exact ⟨k + 1, S11, _, ⟨t0, n0, p0⟩, HLT.out, by go_num, HNX.out.1, uwD_len.trans HD.out.1, HE11.out.2.2.2.1, fun e => (uwD_here e).trans (HD.out.2.2.1 e), HINV.out, HNX.out.2.1, HNX.out.2.2⟩
              case measure => have := HLT.out; simp [RowKit.intOf]; omega
            · have hq : (ew == 0) = false := beq_eq_false_iff_ne.2 he0
              have HINV : Hid (BInv gs (sn : Int) aw (uwD gs (sn : Int) aw t0 n0 p0 ds) n ⟨bt, bn, bp⟩) := Lib.hid (binv_fail HD.out.2.2.2 HD.out.1 (by rw [HEW.out]; exact he0))
              clear he0
              go_wp2_with fail
              go_roundw
              case rel => exact ⟨k + 1, S11, _, ⟨bt, bn, bp⟩, HLT.out, by go_num, HE11.out.1, uwD_len.trans HD.out.1, HE11.out.2.2.2.1, fun e => (uwD_here e).trans (HD.out.2.2.1 e), HINV.out, HE11.out.2.1, HE11.out.2.2.1⟩
              case measure => have := HLT.out; simp [RowKit.intOf]; omega
      · obtain rfl : k = us.length := by omega
        have hdc : decide (us.length < us.length) = false := decide_eq_false (by omega)
        clear hV hdl hok hhe hinv hlst hst hgr hgb hxr hbw HGR hk hlt
        obtain ⟨wb, hwb⟩ : ∃ z, wr = z := ⟨_, rfl⟩
        rw [hwb] at HV HL HST HXR HBW ⊢
        clear hwb
        have hbe := ubest_any HV.out HY.out.2.2.2 (N := 4 * n * us.length) (by rw [HY.out.2.2.1]; exact HD.out.2.1)
        rw [HY.out.2.1, HY.out.2.2.1, HY.out.1, binv_best HD.out.2.2.2] at hbe
        have x0 := (HXR.out).at_ (i := 0) (v := .slice (some ⟨y.gb, 0, none⟩) y.m y.cc) rfl
        have x1 := (HXR.out).at_ (i := 1) (v := .int .i64 y.secs) rfl
        have x2 := (HXR.out).at_ (i := 2) (v := .slice (some ⟨y.lb, 0, none⟩) y.bd.length y.lc) rfl
        have x3 := (HXR.out).at_ (i := 3) (v := .slice (some ⟨y.ab, 0, none⟩) y.bd.length y.bd.length) rfl
        by_cases h0 : bt = 0
        · have hz := binv_zero HD.out.2.2.2 h0
          rw [if_pos (show (⟨bt, bn, bp⟩ : UbD).t = 0 from h0)] at hbe
          have HBE : Hid (Calls Tryz.prog 14 #[y.val] wb fun e w' => e = .returned (.tuple #[.agg #[.int .i64 0, .int .i64 0, .int .i64 0, .int .i64 0, .int .i64 0, .int .i64 0, .bool false, .int .i64 0, .int .i64 0, .int .i64 0, .int .u64 0, .int .u64 0, .int .u64 0, .int .u64 0], .int .i64 7]) ∧ Below wb.heap.size wb w') := Lib.hid hbe
          have hlz : Blk wb lb 35 #[.int .i64 0, .int .i64 0, .int .i64 0, .int .i64 0, .int .i64 0, .int .i64 0, .bool false, .int .i64 0, .int .i64 0, .int .i64 0, .int .u64 0, .int .u64 0, .int .u64 0, .int .u64 0] := by
            have := HL.out
            unfold ubZ at hz
            injection hz with h1 h2 h3
            subst h1 h2 h3
            exact this
          have hez : ∀ W, (binOp .eql 35 (.agg #[.int .i64 0, .int .i64 0, .int .i64 0, .int .i64 0, .int .i64 0, .int .i64 0, .bool false, .int .i64 0, .int .i64 0, .int .i64 0, .int .u64 0, .int .u64 0, .int .u64 0, .int .u64 0]) (.agg #[.int .i64 0, .int .i64 0, .int .i64 0, .int .i64 0, .int .i64 0, .int .i64 0, .bool false, .int .i64 0, .int .i64 0, .int .i64 0, .int .u64 0, .int .u64 0, .int .u64 0, .int .u64 0])).run Tryz.prog W = .ok (.bool true) W := fun W => (eql_uber18 0 0 0 0 ptrZ ptrZ W).trans (by rw [show ((0 : Int) == 0 && ((0 : Int) == 0 && ptrEq ptrZ ptrZ)) = true by decide +kernel])
          have HLZ := Lib.hid hlz
          clear hbe hz h0 hlz HL
          go_wp2_with fail
          refine HBE.out.mono ?_
          rintro e w13 ⟨rfl, hb13⟩
          obtain ⟨w14, hw14⟩ : ∃ z, w13.alloc (.cells #[.int .i64 0, .int .i64 0, .int .i64 0, .int .i64 0, .int .i64 0, .int .i64 0, .bool false, .int .i64 0, .int .i64 0, .int .i64 0, .int .u64 0, .int .u64 0, .int .u64 0, .int .u64 0] 35) = z := ⟨_, rfl⟩
          have hb14 : Below wb.heap.size wb w14 := by rw [← hw14]; exact keep_alloc hb13 _
          have hN14 : Blk w14 w13.heap.size 35 #[.int .i64 0, .int .i64 0, .int .i64 0, .int .i64 0, .int .i64 0, .int .i64 0, .bool false, .int .i64 0, .int .i64 0, .int .i64 0, .int .u64 0, .int .u64 0, .int .u64 0, .int .u64 0] := by rw [← hw14]; exact Blk.new _ _ _
          have hl14 := HLZ.out.below hb14 HLZ.out.lt
          have z0 := (hl14).at_ (i := 0) (v := .int .i64 0) rfl
          have z1 := (hl14).at_ (i := 1) (v := .int .i64 0) rfl
          have z2 := (hl14).at_ (i := 2) (v := .int .i64 0) rfl
          have z3 := (hl14).at_ (i := 3) (v := .int .i64 0) rfl
          have z4 := (hl14).at_ (i := 4) (v := .int .i64 0) rfl
          have z5 := (hl14).at_ (i := 5) (v := .int .i64 0) rfl
          have z6 := (hl14).at_ (i := 6) (v := .bool false) rfl
          have z7 := (hl14).at_ (i := 7) (v := .int .i64 0) rfl
          have z8 := (hl14).at_ (i := 8) (v := .int .i64 0) rfl
          have z9 := (hl14).at_ (i := 9) (v := .int .i64 0) rfl
          have z10 := (hl14).at_ (i := 10) (v := .int .u64 0) rfl
          have z11 := (hl14).at_ (i := 11) (v := .int .u64 0) rfl
          have z12 := (hl14).at_ (i := 12) (v := .int .u64 0) rfl
          have z13 := (hl14).at_ (i := 13) (v := .int .u64 0) rfl
          have fr0 := (hl14).fr 0
          have fr1 := (hl14).fr 1
          have fr2 := (hl14).fr 2
          have fr3 := (hl14).fr 3
          have fr4 := (hl14).fr 4
          have fr5 := (hl14).fr 5
          have fr6 := (hl14).fr 6
          have fr7 := (hl14).fr 7
          have fr8 := (hl14).fr 8
          have fr9 := (hl14).fr 9
          have fr10 := (hl14).fr 10
          have fr11 := (hl14).fr 11
          have fr12 := (hl14).fr 12
          have fr13 := (hl14).fr 13
          have u0 := (hN14).at_ (i := 0) (v := .int .i64 0) rfl
          have u1 := (hN14).at_ (i := 1) (v := .int .i64 0) rfl
          have u2 := (hN14).at_ (i := 2) (v := .int .i64 0) rfl
          have u3 := (hN14).at_ (i := 3) (v := .int .i64 0) rfl
          have u4 := (hN14).at_ (i := 4) (v := .int .i64 0) rfl
          have u5 := (hN14).at_ (i := 5) (v := .int .i64 0) rfl
          have u6 := (hN14).at_ (i := 6) (v := .bool false) rfl
          have u7 := (hN14).at_ (i := 7) (v := .int .i64 0) rfl
          have u8 := (hN14).at_ (i := 8) (v := .int .i64 0) rfl
          have u9 := (hN14).at_ (i := 9) (v := .int .i64 0) rfl
          have u10 := (hN14).at_ (i := 10) (v := .int .u64 0) rfl
          have u11 := (hN14).at_ (i := 11) (v := .int .u64 0) rfl
          have u12 := (hN14).at_ (i := 12) (v := .int .u64 0) rfl
          have u13 := (hN14).at_ (i := 13) (v := .int .u64 0) rfl
          rw [← hw14] at z0 z1 z2 z3 z4 z5 z6 z7 z8 z9 z10 z11 z12 z13 u0 u1 u2 u3 u4 u5 u6 u7 u8 u9 u10 u11 u12 u13
          have HF := Lib.hid (keep_below hb14 (keep_below HBW.out HB3.out))
          have HW14 := Lib.hid hw14
          clear x0 x1 x2 x3 hb13 hw14 hb14 hN14 hl14
          go_wp2_with fail
          rw [HW14.out]
          go_ret
          exact ⟨rfl, HF.out⟩
        · rw [if_neg (show ¬ (⟨bt, bn, bp⟩ : UbD).t = 0 from h0)] at hbe
          have HBE : Hid (Calls Tryz.prog 14 #[y.val] wb fun e w' => e = .returned (.tuple #[.agg #[.int .i64 bt, .int .i64 bn, .int .i64 bp.ag, .int .i64 bp.aa, .int .i64 bp.bg, .int .i64 bp.ba, .bool bp.two, .int .i64 bp.size, .int .i64 bp.level, .int .i64 bp.birth, .int .u64 bp.s0, .int .u64 bp.s1, .int .u64 bp.s2, .int .u64 bp.s3], .int .i64 0]) ∧ Below wb.heap.size wb w') := Lib.hid hbe
          have hq0 : (bt == 0) = false := beq_eq_false_iff_ne.2 h0
          have hbt0 : 0 < bt := by
            rcases HD.out.2.2.2.hit with h | h
            · exfalso
              unfold ubZ at h
              injection h with h1 h2 h3
              exact h0 h1
            · exact h.1
          have hnq : ∀ W, (binOp .neq 35 (.agg #[.int .i64 bt, .int .i64 bn, .int .i64 bp.ag, .int .i64 bp.aa, .int .i64 bp.bg, .int .i64 bp.ba, .bool bp.two, .int .i64 bp.size, .int .i64 bp.level, .int .i64 bp.birth, .int .u64 bp.s0, .int .u64 bp.s1, .int .u64 bp.s2, .int .u64 bp.s3]) (.agg #[.int .i64 bt, .int .i64 bn, .int .i64 bp.ag, .int .i64 bp.aa, .int .i64 bp.bg, .int .i64 bp.ba, .bool bp.two, .int .i64 bp.size, .int .i64 bp.level, .int .i64 bp.birth, .int .u64 bp.s0, .int .u64 bp.s1, .int .u64 bp.s2, .int .u64 bp.s3])).run Tryz.prog W = .ok (.bool false) W := fun W => (neq_uber18 bt bt bn bn bp bp W).trans (by simp [ptrEq])
          obtain ⟨kx, hkx⟩ : ∃ kx, kp % n = kx := ⟨_, rfl⟩
          have hkn : kx < n := by rw [← hkx]; exact Nat.mod_lt _ hn0
          have hm1 : (kp : Int) % (n : Int) = (kx : Int) := by rw [← hkx]; rfl
          have hm2 : (kp : Int).tmod (n : Int) = (kx : Int) := by rw [← hkx]; exact (Int.ofNat_tmod _ _).symm
          obtain ⟨r4, hr4⟩ : ∃ r4, bt.toNat % 4 = r4 := ⟨_, rfl⟩
          have hr4l : r4 < 4 := by omega
          have hm3 : bt % 4 = (r4 : Int) := by omega
          have hm4 : bt.tmod 4 = (r4 : Int) := by rw [Int.tmod_eq_emod_of_nonneg (by omega)]; exact hm3
          obtain ⟨q4, hq4⟩ : ∃ q4, kp % 4 = q4 := ⟨_, rfl⟩
          have hq4l : q4 < 4 := by omega
          have hm5 : (kp : Int) % 4 = (q4 : Int) := by omega
          have hm6 : (kp : Int).tmod 4 = (q4 : Int) := by rw [← hq4]; exact (Int.ofNat_tmod _ _).symm
          obtain ⟨kr, hkr⟩ : ∃ kr, kp % 200 = kr := ⟨_, rfl⟩
          have hkrl : kr < 200 := by omega
          have hm7 : (kp : Int) % 200 = (kr : Int) := by omega
          have hm8 : (kp : Int).tmod 200 = (kr : Int) := by rw [← hkr]; exact (Int.ofNat_tmod _ _).symm
          obtain ⟨bb, hbb⟩ : ∃ bb, UInt8.ofNat (1 + kr) = bb := ⟨_, rfl⟩
          have hbn : (bb.toNat : Int) = 1 + (kr : Int) := by rw [← hbb, UInt8.toNat_ofNat_of_lt' (show 1 + kr < UInt8.size by show 1 + kr < 256; omega)]; omega
          have hbb0 : bb ≠ 0 := fun h => by
            rw [h] at hbn
            have : ((0 : UInt8).toNat : Int) = 0 := rfl
            omega
          have HAR := Lib.hid (And.intro hr4 (And.intro hq4 (And.intro hbn hbb0)))
          have hbL := HL.out
          have b0 := (hbL).at_ (i := 0) (v := .int .i64 bt) rfl
          have b1 := (hbL).at_ (i := 1) (v := .int .i64 bn) rfl
          have b2 := (hbL).at_ (i := 2) (v := .int .i64 bp.ag) rfl
          have b3 := (hbL).at_ (i := 3) (v := .int .i64 bp.aa) rfl
          have b4 := (hbL).at_ (i := 4) (v := .int .i64 bp.bg) rfl
          have b5 := (hbL).at_ (i := 5) (v := .int .i64 bp.ba) rfl
          have b6 := (hbL).at_ (i := 6) (v := .bool bp.two) rfl
          have b7 := (hbL).at_ (i := 7) (v := .int .i64 bp.size) rfl
          have b8 := (hbL).at_ (i := 8) (v := .int .i64 bp.level) rfl
          have b9 := (hbL).at_ (i := 9) (v := .int .i64 bp.birth) rfl
          have b10 := (hbL).at_ (i := 10) (v := .int .u64 bp.s0) rfl
          have b11 := (hbL).at_ (i := 11) (v := .int .u64 bp.s1) rfl
          have b12 := (hbL).at_ (i := 12) (v := .int .u64 bp.s2) rfl
          have b13 := (hbL).at_ (i := 13) (v := .int .u64 bp.s3) rfl
          clear hbe h0 hbt0 hkx hr4 hq4 hkr hbb hbn hbb0 hbL
          go_wp2_with fail
          refine HBE.out.mono ?_
          rintro e w13 ⟨rfl, hb13⟩
          obtain ⟨w14, hw14⟩ : ∃ z, w13.alloc (.cells #[.int .i64 bt, .int .i64 bn, .int .i64 bp.ag, .int .i64 bp.aa, .int .i64 bp.bg, .int .i64 bp.ba, .bool bp.two, .int .i64 bp.size, .int .i64 bp.level, .int .i64 bp.birth, .int .u64 bp.s0, .int .u64 bp.s1, .int .u64 bp.s2, .int .u64 bp.s3] 35) = z := ⟨_, rfl⟩
          have hb14 : Below wb.heap.size wb w14 := by rw [← hw14]; exact keep_alloc hb13 _
          have hN14 : Blk w14 w13.heap.size 35 #[.int .i64 bt, .int .i64 bn, .int .i64 bp.ag, .int .i64 bp.aa, .int .i64 bp.bg, .int .i64 bp.ba, .bool bp.two, .int .i64 bp.size, .int .i64 bp.level, .int .i64 bp.birth, .int .u64 bp.s0, .int .u64 bp.s1, .int .u64 bp.s2, .int .u64 bp.s3] := by rw [← hw14]; exact Blk.new _ _ _
          have hl14 := HL.out.below hb14 HL.out.lt
          clear x0 x1 x2 x3 b0 b1 b2 b3 b4 b5 b6 b7 b8 b9 b10 b11 b12 b13
          have b0 := (hl14).at_ (i := 0) (v := .int .i64 bt) rfl
          have b1 := (hl14).at_ (i := 1) (v := .int .i64 bn) rfl
          have b2 := (hl14).at_ (i := 2) (v := .int .i64 bp.ag) rfl
          have b3 := (hl14).at_ (i := 3) (v := .int .i64 bp.aa) rfl
          have b4 := (hl14).at_ (i := 4) (v := .int .i64 bp.bg) rfl
          have b5 := (hl14).at_ (i := 5) (v := .int .i64 bp.ba) rfl
          have b6 := (hl14).at_ (i := 6) (v := .bool bp.two) rfl
          have b7 := (hl14).at_ (i := 7) (v := .int .i64 bp.size) rfl
          have b8 := (hl14).at_ (i := 8) (v := .int .i64 bp.level) rfl
          have b9 := (hl14).at_ (i := 9) (v := .int .i64 bp.birth) rfl
          have b10 := (hl14).at_ (i := 10) (v := .int .u64 bp.s0) rfl
          have b11 := (hl14).at_ (i := 11) (v := .int .u64 bp.s1) rfl
          have b12 := (hl14).at_ (i := 12) (v := .int .u64 bp.s2) rfl
          have b13 := (hl14).at_ (i := 13) (v := .int .u64 bp.s3) rfl
          have u0 := (hN14).at_ (i := 0) (v := .int .i64 bt) rfl
          have u1 := (hN14).at_ (i := 1) (v := .int .i64 bn) rfl
          have u2 := (hN14).at_ (i := 2) (v := .int .i64 bp.ag) rfl
          have u3 := (hN14).at_ (i := 3) (v := .int .i64 bp.aa) rfl
          have u4 := (hN14).at_ (i := 4) (v := .int .i64 bp.bg) rfl
          have u5 := (hN14).at_ (i := 5) (v := .int .i64 bp.ba) rfl
          have u6 := (hN14).at_ (i := 6) (v := .bool bp.two) rfl
          have u7 := (hN14).at_ (i := 7) (v := .int .i64 bp.size) rfl
          have u8 := (hN14).at_ (i := 8) (v := .int .i64 bp.level) rfl
          have u9 := (hN14).at_ (i := 9) (v := .int .i64 bp.birth) rfl
          have u10 := (hN14).at_ (i := 10) (v := .int .u64 bp.s0) rfl
          have u11 := (hN14).at_ (i := 11) (v := .int .u64 bp.s1) rfl
          have u12 := (hN14).at_ (i := 12) (v := .int .u64 bp.s2) rfl
          have u13 := (hN14).at_ (i := 13) (v := .int .u64 bp.s3) rfl
          rw [← hw14] at b0 b1 b2 b3 b4 b5 b6 b7 b8 b9 b10 b11 b12 b13 u0 u1 u2 u3 u4 u5 u6 u7 u8 u9 u10 u11 u12 u13
          have HV14 := Lib.hid (HV.out.below hb14)
          have HL14 := Lib.hid hl14
          have HX14 := Lib.hid (HXR.out.below hb14 HXR.out.lt)
          have HF := Lib.hid (keep_below hb14 HBW.out)
          have HS14 := Lib.hid (HST.out.trans (stays_below hb14))
          have HW14 := Lib.hid hw14
          clear hb13 hw14 hb14 hN14 hl14
          go_wp2_with fail
          rw [HW14.out]
          clear b0 b1 b2 b3 b4 b5 b6 b7 b8 b9 b10 b11 b12 b13 u0 u1 u2 u3 u4 u5 u6 u7 u8 u9 u10 u11 u12 u13
          go_loopw [19] (fun t wq => ∃ (d : Nat) (S' : Nat → Nat → Prop), d ≤ n ∧ t = .int .i64 d ∧ VdIn wq S' U1 y aw (spTo kx ((r4 * 4 + q4 : Nat) : Int) (kp : Int) bb ds d) ∧ Stays U1 w14 wq) (fun t _ => n - (RowKit.intOf t).toNat)
          case atStart => exact ⟨0, S', Nat.zero_le _, rfl, HV14.out, stays_refl _⟩
          case round =>
            obtain ⟨d, S2, hd, rfl, hV2, hst2⟩ := hrel
            have hok2 : DsOk (4 * n * us.length) sn (spTo kx ((r4 * 4 + q4 : Nat) : Int) (kp : Int) bb ds d) := spTo_ok HD.out.2.1 d
            have HV2 := Lib.hid (And.intro hV2 hok2)
            have HST2 := Lib.hid hst2
            have hl2 : Blk wr lb 35 #[.int .i64 bt, .int .i64 bn, .int .i64 bp.ag, .int .i64 bp.aa, .int .i64 bp.bg, .int .i64 bp.ba, .bool bp.two, .int .i64 bp.size, .int .i64 bp.level, .int .i64 bp.birth, .int .u64 bp.s0, .int .u64 bp.s1, .int .u64 bp.s2, .int .u64 bp.s3] := (hst2.heap HU.out.2.2.1 HL14.out.lt).trans HL14.out
            have hx2 : Blk wr w4.heap.size 50 y.cells := (hst2.heap (HU.out.1 _ HU.out.2.1.1) HX14.out.lt).trans HX14.out
            by_cases hdn : d < n
            · have hdc2 : decide (d < n) = true := decide_eq_true hdn
              have HDN := Lib.hid hdn
              by_cases hdk : d = kx
              · have hq1 : ((d : Int) != (kx : Int)) = false := by rw [bne_eq_false_iff_eq]; omega
                have HNX : Hid (VdIn wr S2 U1 y aw (spTo kx ((r4 * 4 + q4 : Nat) : Int) (kp : Int) bb ds (d + 1))) := Lib.hid (by rw [spTo_step, if_pos hdk]; exact hV2)
                clear hV2 hok2 hst2 hl2 hx2 hdk hd
                go_wp2_with fail
                go_roundw
                case rel => exact ⟨d + 1, S2, HDN.out, by go_num, HNX.out, HST2.out⟩
                case measure => have := HDN.out; simp [RowKit.intOf]; omega
              · have hq1 : ((d : Int) != (kx : Int)) = true := by rw [bne_iff_ne]; omega
                have hdb : d < y.bd.length := by rw [HY.out.1]; exact hdn
                obtain ⟨b, hb⟩ : ∃ b, y.bd[d]? = some b := ⟨_, List.getElem?_eq_getElem hdb⟩
                have hsp := vspoil_any (hV2.same (w' := wr.drew) (Nat.le_refl _) (fun _ _ => rfl) (fun _ _ _ => rfl)) (by rw [HY.out.2.2.1]; exact hok2) (by
                  have h1 : 4 * n * us.length ≤ 4 * 32 * 12 := Nat.mul_le_mul (by omega) H12.out
                  omega) hb ((r4 * 4 + q4 : Nat) : Int) (kp : Int) ⟨by omega, by omega⟩ bb
                have hst := spTo_step (k := kx) (a := ((r4 * 4 + q4 : Nat) : Int)) (p := (kp : Int)) (b := bb) (ds := ds) d
                rw [if_neg hdk] at hst
                rw [← hst, HAR.out.2.2.1, show ((r4 * 4 + q4 : Nat) : Int) = (r4 : Int) * 4 + (q4 : Int) by omega] at hsp
                rw [show ((r4 * 4 + q4 : Nat) : Int) = (r4 : Int) * 4 + (q4 : Int) by omega] at HV2 ⊢
                have hrow := hV2.row d b hb
                have HSP := Lib.hid hsp
                obtain ⟨S0, hS0⟩ : ∃ S0 : World → Prop, S0 = fun W => ∀ g, (g = w4.heap.size ∨ g = y.lb ∨ g = lb) → W.heap[g]? = wr.heap[g]? := ⟨_, rfl⟩
                have f0 : ∀ W, S0 W → W.cell? ⟨w4.heap.size, 1 + 1, none⟩ = some (.slice (some ⟨y.lb, 0, none⟩) y.bd.length y.lc) := fun W h => by rw [hS0] at h; exact (cell_same' (h _ (.inl rfl))).trans (hx2.at_ rfl)
                have f1 : ∀ W, S0 W → W.cell? ⟨w4.heap.size, 2, none⟩ = some (.slice (some ⟨y.lb, 0, none⟩) y.bd.length y.lc) := f0
                have f2 : ∀ W, S0 W → W.cell? ⟨y.lb, d, none⟩ = some (.pointer (some ⟨b, 0, none⟩)) := fun W h => by rw [hS0] at h; exact (cell_same' (h _ (.inr (.inl rfl)))).trans hrow
                have f3 : ∀ W, S0 W → W.cell? ⟨lb, 0, none⟩ = some (.int .i64 bt) := fun W h => by rw [hS0] at h; exact (cell_same' (h _ (.inr (.inr rfl)))).trans (hl2.at_ rfl)
                have hSw : S0 wr.drew := by rw [hS0]; exact fun _ _ => rfl
                have HSE : Hid (∀ W, Stays U1 wr W → S0 W) := Lib.hid fun W hW => by
                  rw [hS0]
                  intro g hg
                  have hg' : U1 g := by
                    rcases hg with rfl | rfl | rfl
                    · exact HU.out.1 _ HU.out.2.1.1
                    · exact hV2.ul
                    · exact HU.out.2.2.1
                  exact hW.heap hg' (hV2.us g hg')
                clear f0 hsp hst hS0 hV2 hok2 hst2 hl2 hx2 hdk hd hrow hb
                go_wp2_with fail
                refine wp_region_effA S0 [18] (by kernel_rfl) (by kernel_rfl) (by kernel_rfl) hSw ?_
                refine wpLexE_take 18 (by kernel_rfl) (by kernel_rfl) ?_
                simp only [List.take_succ_cons, List.take_zero, List.drop_succ_cons, List.drop_zero]
                repeat (first
                  | go_big_quiet_skip
                  | (go_big_quiet_want
                     go_big_quiet_op
                     first
                       | go_big_quiet_on
                       | (apply Exists.intro
                          refine ⟨fun W hW => ?_, ?_⟩
                          · first
                              | exact rfl
                              | exact ⟨rfl, rfl⟩
                              | (have e0 := f1 W hW; have e1 := f2 W hW; have e2 := f3 W hW; simp only [e0, e1, e2, Result.andThen_ok]; done)
                              | (have e0 := f1 W hW; have e1 := f2 W hW; have e2 := f3 W hW; simp only [e0, e1, e2, Result.andThen_ok]; first | exact ⟨trivial, rfl⟩ | exact rfl | exact ⟨rfl, rfl⟩)
                              | (skip)
                          go_big_quiet_on)))
                refine wpQuiet_nil ?_
                show wpLexE _ _ _ _ _ _ _ _ _
                refine wpLexE_eff (by kernel_rfl) rfl ?_
                clear f1 f2 f3
                go_wp2_with fail
                refine HSP.out.mono ?_
                rintro e w15 ⟨⟨r, rfl⟩, hV15, hst15⟩
                have hst15' : Stays U1 wr w15 := ⟨hst15.os, hst15.tape, hst15.output, hst15.size, hst15.block⟩
                have hS6 := HSE.out w15 hst15'
                have HF15 := Lib.hid (And.intro hV15 (HST2.out.trans hst15'))
                clear hV15 hst15 hst15' hSw HSP
                go_wp2_with fail
                refine ⟨rfl, hS6, ?_⟩
                unfold wpLexE
                clear hS6 HSE
                go_wp2_with fail
                go_roundw
                case rel => exact ⟨d + 1, S2, HDN.out, by go_num, HF15.out.1, HF15.out.2⟩
                case measure => have := HDN.out; simp [RowKit.intOf]; omega
            · obtain rfl : n = d := by omega
              have hdc2 : decide (n < n) = false := decide_eq_false (by omega)
              have hbe2 := ubest_any hV2 HY.out.2.2.2 (N := 4 * n * us.length) (by rw [HY.out.2.2.1]; exact hok2)
              rw [HY.out.2.1, HY.out.2.2.1, HY.out.1] at hbe2
              obtain ⟨hh, hhh⟩ : ∃ hh, (!bAt [] kx && !bAt ll kx) = hh := ⟨_, rfl⟩
              have hcl : wr.cell? ⟨ob, oo + kx, none⟩ = some (.bool hh) := by
                have h1 : (boolC (hrT [] ll n))[kx]? = some (.bool hh) := boolC_at (by unfold hrT; rw [List.getElem?_map, List.getElem?_range hkn, ← hhh]; rfl)
                have h2 := HOC.out kx _ h1
                have hob : ob < w6.heap.size := HV6.out.us ob (HU.out.1 _ HU.out.2.1.2.1)
                have h3 := HS14.out.heap HU.out.2.1.2.1 hob
                have h4 := hst2.heap (HU.out.1 _ HU.out.2.1.2.1) (Nat.lt_of_lt_of_le hob HS14.out.size)
                exact (cell_same' (h4.trans h3)).trans h2
              have hbwr : Below w.heap.size w wr := keep_below (HF.out.trans (hst2.below HF.out.size (fun i hi => HU.out.1 _ (HU.out.2.1.2.2 i hi)))) HB3.out
              have HCL := Lib.hid hcl
              have HBR := Lib.hid hbwr
              have HL2 := Lib.hid hl2
              have hobl := World.block_lt_of_cell? wr _ hcl
              cases hh with
              | false =>
                obtain ⟨⟨⟨t1, n1, p1⟩, e1⟩, hB⟩ : ∃ q, bestR gs (sn : Int) aw (spTo kx ((r4 * 4 + q4 : Nat) : Int) (kp : Int) bb ds n) n = q := ⟨_, rfl⟩
                rw [hB] at hbe2
                dsimp only [UbD.cells] at hbe2
                have HBE2 := Lib.hid hbe2
                have x0 := (hx2).at_ (i := 0) (v := .slice (some ⟨y.gb, 0, none⟩) y.m y.cc) rfl
                have x1 := (hx2).at_ (i := 1) (v := .int .i64 y.secs) rfl
                have x2 := (hx2).at_ (i := 2) (v := .slice (some ⟨y.lb, 0, none⟩) y.bd.length y.lc) rfl
                have x3 := (hx2).at_ (i := 3) (v := .slice (some ⟨y.ab, 0, none⟩) y.bd.length y.bd.length) rfl
                clear hV2 hok2 hst2 hl2 hx2 hdn hd hbe2 hhh hcl hbwr hB
                go_wp2_with fail
                refine HBE2.out.mono ?_
                rintro e w16 ⟨rfl, hb16⟩
                obtain ⟨w17, hw17⟩ : ∃ z, w16.alloc (.cells #[.int .i64 t1, .int .i64 n1, .int .i64 p1.ag, .int .i64 p1.aa, .int .i64 p1.bg, .int .i64 p1.ba, .bool p1.two, .int .i64 p1.size, .int .i64 p1.level, .int .i64 p1.birth, .int .u64 p1.s0, .int .u64 p1.s1, .int .u64 p1.s2, .int .u64 p1.s3] 35) = z := ⟨_, rfl⟩
                have hb17 : Below wr.heap.size wr w17 := by rw [← hw17]; exact keep_alloc hb16 _
                have hcl17 := keepU HCL.out hb17
                rw [← hw17] at hcl17
                have HF2 := Lib.hid (keep_below hb17 HBR.out)
                have HW17 := Lib.hid hw17
                clear x0 x1 x2 x3 hb16 hw17 hb17 hobl
                go_wp2_with fail
                rw [HW17.out]
                go_ret
                exact ⟨rfl, HF2.out⟩
              | true =>
                have hbs := best_spoilt (q := kp) (b := bb) HD.out.2.2.2 (beq_eq_false_iff_ne.1 hq0) HD.out.1 HD.out.2.1 HR.out.2.1 hkn ((HD.out.2.2.1 kx).trans ((HHR.out kx hkn).trans hhh)) HAR.out.2.2.2 n (kp : Int)
                rw [show (⟨bt, bn, bp⟩ : UbD).t.toNat % 4 = r4 from HAR.out.1, HAR.out.2.1] at hbs
                rw [hbs] at hbe2
                dsimp only [UbD.cells] at hbe2
                have HBE2 := Lib.hid hbe2
                have heq : ∀ W, (binOp .eql 35 (.agg #[.int .i64 bt, .int .i64 bn, .int .i64 bp.ag, .int .i64 bp.aa, .int .i64 bp.bg, .int .i64 bp.ba, .bool bp.two, .int .i64 bp.size, .int .i64 bp.level, .int .i64 bp.birth, .int .u64 bp.s0, .int .u64 bp.s1, .int .u64 bp.s2, .int .u64 bp.s3]) (.agg #[.int .i64 bt, .int .i64 bn, .int .i64 bp.ag, .int .i64 bp.aa, .int .i64 bp.bg, .int .i64 bp.ba, .bool bp.two, .int .i64 bp.size, .int .i64 bp.level, .int .i64 bp.birth, .int .u64 bp.s0, .int .u64 bp.s1, .int .u64 bp.s2, .int .u64 bp.s3])).run Tryz.prog W = .ok (.bool true) W := fun W => (eql_uber18 bt bt bn bn bp bp W).trans (by simp [ptrEq])
                have x0 := (hx2).at_ (i := 0) (v := .slice (some ⟨y.gb, 0, none⟩) y.m y.cc) rfl
                have x1 := (hx2).at_ (i := 1) (v := .int .i64 y.secs) rfl
                have x2 := (hx2).at_ (i := 2) (v := .slice (some ⟨y.lb, 0, none⟩) y.bd.length y.lc) rfl
                have x3 := (hx2).at_ (i := 3) (v := .slice (some ⟨y.ab, 0, none⟩) y.bd.length y.bd.length) rfl
                clear hV2 hok2 hst2 hl2 hx2 hdn hd hbe2 hhh hcl hbwr hbs
                go_wp2_with fail
                refine HBE2.out.mono ?_
                rintro e w16 ⟨rfl, hb16⟩
                obtain ⟨w17, hw17⟩ : ∃ z, w16.alloc (.cells #[.int .i64 bt, .int .i64 bn, .int .i64 bp.ag, .int .i64 bp.aa, .int .i64 bp.bg, .int .i64 bp.ba, .bool bp.two, .int .i64 bp.size, .int .i64 bp.level, .int .i64 bp.birth, .int .u64 bp.s0, .int .u64 bp.s1, .int .u64 bp.s2, .int .u64 bp.s3] 35) = z := ⟨_, rfl⟩
                have hb17 : Below wr.heap.size wr w17 := by rw [← hw17]; exact keep_alloc hb16 _
                have hcl17 := keepU HCL.out hb17
                have hl17 := HL2.out.below hb17 HL2.out.lt
                have hN17 : Blk w17 w16.heap.size 35 #[.int .i64 bt, .int .i64 bn, .int .i64 bp.ag, .int .i64 bp.aa, .int .i64 bp.bg, .int .i64 bp.ba, .bool bp.two, .int .i64 bp.size, .int .i64 bp.level, .int .i64 bp.birth, .int .u64 bp.s0, .int .u64 bp.s1, .int .u64 bp.s2, .int .u64 bp.s3] := by rw [← hw17]; exact Blk.new _ _ _
                have b0 := (hl17).at_ (i := 0) (v := .int .i64 bt) rfl
                have b1 := (hl17).at_ (i := 1) (v := .int .i64 bn) rfl
                have b2 := (hl17).at_ (i := 2) (v := .int .i64 bp.ag) rfl
                have b3 := (hl17).at_ (i := 3) (v := .int .i64 bp.aa) rfl
                have b4 := (hl17).at_ (i := 4) (v := .int .i64 bp.bg) rfl
                have b5 := (hl17).at_ (i := 5) (v := .int .i64 bp.ba) rfl
                have b6 := (hl17).at_ (i := 6) (v := .bool bp.two) rfl
                have b7 := (hl17).at_ (i := 7) (v := .int .i64 bp.size) rfl
                have b8 := (hl17).at_ (i := 8) (v := .int .i64 bp.level) rfl
                have b9 := (hl17).at_ (i := 9) (v := .int .i64 bp.birth) rfl
                have b10 := (hl17).at_ (i := 10) (v := .int .u64 bp.s0) rfl
                have b11 := (hl17).at_ (i := 11) (v := .int .u64 bp.s1) rfl
                have b12 := (hl17).at_ (i := 12) (v := .int .u64 bp.s2) rfl
                have b13 := (hl17).at_ (i := 13) (v := .int .u64 bp.s3) rfl
                have u0 := (hN17).at_ (i := 0) (v := .int .i64 bt) rfl
                have u1 := (hN17).at_ (i := 1) (v := .int .i64 bn) rfl
                have u2 := (hN17).at_ (i := 2) (v := .int .i64 bp.ag) rfl
                have u3 := (hN17).at_ (i := 3) (v := .int .i64 bp.aa) rfl
                have u4 := (hN17).at_ (i := 4) (v := .int .i64 bp.bg) rfl
                have u5 := (hN17).at_ (i := 5) (v := .int .i64 bp.ba) rfl
                have u6 := (hN17).at_ (i := 6) (v := .bool bp.two) rfl
                have u7 := (hN17).at_ (i := 7) (v := .int .i64 bp.size) rfl
                have u8 := (hN17).at_ (i := 8) (v := .int .i64 bp.level) rfl
                have u9 := (hN17).at_ (i := 9) (v := .int .i64 bp.birth) rfl
                have u10 := (hN17).at_ (i := 10) (v := .int .u64 bp.s0) rfl
                have u11 := (hN17).at_ (i := 11) (v := .int .u64 bp.s1) rfl
                have u12 := (hN17).at_ (i := 12) (v := .int .u64 bp.s2) rfl
                have u13 := (hN17).at_ (i := 13) (v := .int .u64 bp.s3) rfl
                rw [← hw17] at hcl17 b0 b1 b2 b3 b4 b5 b6 b7 b8 b9 b10 b11 b12 b13 u0 u1 u2 u3 u4 u5 u6 u7 u8 u9 u10 u11 u12 u13
                have HF2 := Lib.hid (keep_below hb17 HBR.out)
                have HW17 := Lib.hid hw17
                clear x0 x1 x2 x3 hb16 hw17 hb17 hobl hl17 hN17
                go_wp2_with fail
                rw [HW17.out]
                go_ret
                exact ⟨rfl, HF2.out⟩
end Go.Proofs.YtlpbbjjibnbooaaGreatDoor
