/-
  The statement UberTorn, walked.
  A world for the witness in which the library tables that the rows list hold what their texts lay.
-/
import Derived.Test.YtlpbbjjibnbooaaGreatDoorJ24
import Derived.Test.YtlpbbjjibnbooaaGreatDoorRows
import Derived.Deep.DeepHandedRow
namespace Go.Proofs.YtlpbbjjibnbooaaGreatDoor
set_option linter.unusedVariables false
set_option linter.unusedSimpArgs false
open Go.RowKit

set_option maxRecDepth 20000 in
set_option maxHeartbeats 4000000 in
theorem uberTorn_any (A : Option Addr) (m c : Nat) (gs : List (Int × Int)) (secs : Int) (tx kp : Nat) (htx : tx < 256) (hkp : kp < 256) {w : World} (hg : GeoAt w A m gs) :
    Calls Tryz.prog 7 #[.agg #[.slice A m c, .int .i64 secs], .int .u8 tx, .int .u8 kp] w fun e w' => e = .returned (.bool true) ∧ Below w.heap.size w w' := by
  have hb7 := build_nd7
  have hb9 := build_nd9
  have hb2 := build_ub2
  obtain ⟨w2, hw2⟩ : ∃ z, w.alloc (.cells #[.slice A m c, .int .i64 secs] 24) = z := ⟨_, rfl⟩
  have B1 : Blk w2 w.heap.size 24 #[.slice A m c, .int .i64 secs] := by rw [← hw2]; exact Blk.new _ _ _
  have D2 : Below w.heap.size w w2 := by rw [← hw2]; exact keep_alloc (Below.refl _ _) _
  have HB := Lib.hid (And.intro B1 D2)
  have HW2 := Lib.hid hw2
  have HG := Lib.hid (hg.below D2 (Nat.le_refl _))
  have HG0 := Lib.hid hg
  clear B1 D2 hw2 hg
  go_enter Tryz.func7, Tryz.ntmps7
  go_wp2_with fail
  rw [HW2.out]
  refine (awake18_any w2).mono ?_
  rintro e w3 ⟨rfl, hb3⟩
  have g0 := keepU (HB.out.1.at_ (i := 0) (v := .slice A m c) rfl) hb3
  have g1 := keepU (HB.out.1.at_ (i := 1) (v := .int .i64 secs) rfl) hb3
  have hg3 := HG.out.below hb3 (Nat.le_refl _)
  have HB3 := Lib.hid (keep_below hb3 HB.out.2)
  have HBG := Lib.hid (And.intro (HB.out.1.below hb3 HB.out.1.lt) trivial)
  clear hb3
  cases hr : (gRight gs secs && decide (secs ≤ 200)) with
  | false =>
    have HD := Lib.hid (devices_bad (c := c) hg3 hr (.slice none 0 0) (.slice none 0 0))
    clear hg3 hr
    go_wp2_with fail
    refine HD.out.mono ?_
    rintro e w4 ⟨rfl, hb4⟩
    have HB4 := Lib.hid (keep_below hb4 HB3.out)
    clear g0 g1 hb4
    go_wp2_with fail
    go_ret
    exact ⟨rfl, keep_alloc HB4.out _⟩
  | true =>
    simp only [Bool.and_eq_true, decide_eq_true_eq] at hr
    obtain ⟨hr1, hr2⟩ := hr
    have hgp := gRight_parts hr1
    obtain ⟨sn, rfl⟩ := Int.eq_ofNat_of_zero_le (show 0 ≤ secs by omega)
    obtain ⟨n, hn⟩ : ∃ n : Nat, gSum gs = n := ⟨(gSum gs).toNat, by have := gSum_pos hr1; omega⟩
    have hn32 : n ≤ 32 := by have := sum_take_bd hr1 gs.length; rw [List.take_length] at this; omega
    have hn0 : 0 < n := by have := gSum_pos hr1; omega
    have HD := Lib.hid (devices_any2 (c := c) hg3 hr1 (by omega) hn (al := []) (ll := []) (slAt_none w3 _) (slAt_none w3 _))
    have hs24 : 24 ≤ sn := by have := hgp.2.2.1; omega
    have hs200 : sn ≤ 200 := by omega
    have HR := Lib.hid (And.intro hr1 (And.intro hs24 hs200))
    have HG3 := Lib.hid hg3
    clear hg3 hr1 hr2 hgp hn
    go_wp2_with fail
    refine HD.out.mono ?_
    rintro e w4 ⟨y, S, U, hv, rfl, hys, hysec, hyn, hV, hU, hsl, _, hb4⟩
    obtain ⟨Av, cv, rfl, hncv, _⟩ := hsl
    rw [lsT_nil18, awT_nil] at hV
    have few : y.bd.length ≤ 1000 := by omega
    obtain ⟨lr, hlr⟩ : ∃ lr, tx % 200 = lr := ⟨_, rfl⟩
    have hl200 : lr < 200 := by omega
    have hm3 : (tx : Int) % 200 = (lr : Int) := by omega
    have hm4 : (tx : Int).tmod 200 = (lr : Int) := by rw [← hlr]; exact (Int.ofNat_tmod _ _).symm
    have HT : Hid (1 ≤ lr + 1 ∧ lr + 1 ≤ 200) := Lib.hid ⟨by omega, by omega⟩
    have k1 := torn_ok1 HR.out.1 HR.out.2.1 HR.out.2.2 HT.out.1 HT.out.2
    have k2 := torn_ok2 HR.out.1 HR.out.2.1 HR.out.2.2 HT.out.1 HT.out.2
    have k3 := torn_ok3 HR.out.1 HR.out.2.1 HR.out.2.2 HT.out.1 HT.out.2
    have k4 := torn_ok4 (bv := bitB kp) HR.out.1 HR.out.2.1 HR.out.2.2 HT.out.1 HT.out.2
    have HW1 : Hid (∀ (S' : Nat → Nat → Prop) (U' : Nat → Prop) (W : World), VdIn W S' U' y (List.replicate n false) (List.replicate n (DevD.blank sn 0)) → Calls Tryz.prog 13 #[y.val, .agg #[.int .i64 (1 + (lr : Int)), .int .i64 7, .int .i64 0, .int .i64 0, .int .i64 0, .int .i64 0, .bool false, .int .i64 0, .int .i64 0, .int .i64 0, .int .u64 0, .int .u64 0, .int .u64 0, .int .u64 0]] W fun e w' => e = .returned (.tuple #[.int .i64 0, .int .i64 0]) ∧ (∃ S', VdIn w' S' U' y (List.replicate n false) (List.replicate n (torn1 gs sn (lr + 1)))) ∧ Stays U' W w') := Lib.hid fun S' U' W hW => by
      have h1 := uwrite_any hW few (N := 0) (by rw [hysec]; exact blanks_ok (by omega) (by omega)) (by omega) (by rw [hysec]; omega) ((lr + 1 : Nat) : Int) 7 ptrZ ptrZ_ok
      rw [hys, hysec, torn_one HR.out.1 HR.out.2.1 HT.out.1 HT.out.2] at h1
      have hN : uwN gs (sn : Int) (List.replicate n false) ((lr + 1 : Nat) : Int) 7 ptrZ (List.replicate n (DevD.blank sn 0)) = 0 := by
        unfold uwN
        rw [if_pos (ub_ok7 HR.out.1 HT.out.1 (by omega)), List.length_replicate, dv_blank]
        exact gone_rep
      have hE : uwE gs (sn : Int) (List.replicate n false) ((lr + 1 : Nat) : Int) 7 ptrZ (List.replicate n (DevD.blank sn 0)) = 0 := by
        unfold uwE
        rw [if_pos (ub_ok7 HR.out.1 HT.out.1 (by omega)), List.length_replicate, dv_blank, gone_rep, if_neg (by omega)]
      rw [hN, hE, show ((lr + 1 : Nat) : Int) = 1 + (lr : Int) by omega] at h1
      exact h1
    have HW2' : Hid (∀ (S' : Nat → Nat → Prop) (U' : Nat → Prop) (W : World), VdIn W S' U' y (List.replicate n false) (List.replicate n (torn2 gs sn (lr + 1))) → Calls Tryz.prog 13 #[y.val, .agg #[.int .i64 (1 + (lr : Int) + 1), .int .i64 9, .int .i64 0, .int .i64 0, .int .i64 0, .int .i64 0, .bool false, .int .i64 0, .int .i64 0, .int .i64 0, .int .u64 0, .int .u64 0, .int .u64 0, .int .u64 0]] W fun e w' => e = .returned (.tuple #[.int .i64 0, .int .i64 0]) ∧ (∃ S', VdIn w' S' U' y (List.replicate n false) (List.replicate n (torn3 gs sn (lr + 1)))) ∧ Stays U' W w') := Lib.hid fun S' U' W hW => by
      have h1 := uwrite_any hW few (N := 4) (by rw [hysec]; exact rep_ok k2) (by omega) (by rw [hysec]; omega) ((lr + 1 + 1 : Nat) : Int) 9 ptrZ ptrZ_ok
      rw [hys, hysec, torn_three HR.out.1 HR.out.2.1 HT.out.2] at h1
      have hN : uwN gs (sn : Int) (List.replicate n false) ((lr + 1 + 1 : Nat) : Int) 9 ptrZ (List.replicate n (torn2 gs sn (lr + 1))) = 0 := by
        unfold uwN
        rw [if_pos (ub_ok9 HR.out.1 (by omega) (by omega)), List.length_replicate]
        exact gone_rep
      have hE : uwE gs (sn : Int) (List.replicate n false) ((lr + 1 + 1 : Nat) : Int) 9 ptrZ (List.replicate n (torn2 gs sn (lr + 1))) = 0 := by
        unfold uwE
        rw [if_pos (ub_ok9 HR.out.1 (by omega) (by omega)), List.length_replicate]
        unfold torn2
        rw [gone_rep, if_neg (by omega)]
      rw [hN, hE, show ((lr + 1 + 1 : Nat) : Int) = 1 + (lr : Int) + 1 by omega] at h1
      exact h1
    obtain ⟨Wb, hWb⟩ : ∃ Wb, wholeB (bitB kp) (ubL gs sn ((lr + 1 + 1 : Nat) : Int) 9 ptrZ) = Wb := ⟨_, rfl⟩
    have HBE : Hid (∀ (S' : Nat → Nat → Prop) (U' : Nat → Prop) (W : World), VdIn W S' U' y (List.replicate n false) (List.replicate n (torn4 gs sn (lr + 1) (bitB kp))) → Calls Tryz.prog 14 #[y.val] W fun e w' => e = .returned (.tuple #[.agg (if Wb then #[.int .i64 (1 + (lr : Int) + 1), .int .i64 9, .int .i64 0, .int .i64 0, .int .i64 0, .int .i64 0, .bool false, .int .i64 0, .int .i64 0, .int .i64 0, .int .u64 0, .int .u64 0, .int .u64 0, .int .u64 0] else #[.int .i64 (1 + (lr : Int)), .int .i64 7, .int .i64 0, .int .i64 0, .int .i64 0, .int .i64 0, .bool false, .int .i64 0, .int .i64 0, .int .i64 0, .int .u64 0, .int .u64 0, .int .u64 0, .int .u64 0]), .int .i64 0]) ∧ Below W.heap.size W w') := Lib.hid fun S' U' W hW => by
      have h1 := ubest_any hW few (N := 8) (by rw [hysec]; exact rep_ok k4)
      rw [hys, hysec, hyn, torn_best HR.out.1 HR.out.2.1 HT.out.1 HT.out.2 hn0] at h1
      refine h1.mono fun e w' ⟨a, b⟩ => ⟨a.trans ?_, b⟩
      unfold tornU
      rw [hWb]
      cases Wb with
      | true =>
        rw [show ((lr + 1 + 1 : Nat) : Int) = 1 + (lr : Int) + 1 by omega]
        rfl
      | false =>
        rw [show ((lr + 1 : Nat) : Int) = 1 + (lr : Int) by omega]
        rfl
    have HWH : Hid (∀ (W : World), GeoAt W A m gs → Calls Tryz.prog 22 #[.agg #[.slice A m c, .int .i64 sn], .int .i64 (1 + (lr : Int) + 1), .int .u8 kp] W fun e w' => e = .returned (.bool Wb) ∧ Below W.heap.size W w') := Lib.hid fun W hW => by
      have h1 := whole18_any A m c gs sn (lr + 1 + 1) kp HR.out.1 (by omega) (by omega) hkp W hW
      rw [hWb, show ((lr + 1 + 1 : Nat) : Int) = 1 + (lr : Int) + 1 by omega] at h1
      exact h1
    obtain ⟨w5, hw5⟩ : ∃ z, w4.alloc (.cells y.cells 50) = z := ⟨_, rfl⟩
    have hX5 : Blk w5 w4.heap.size 50 y.cells := by rw [← hw5]; exact Blk.new _ _ _
    have hb5 : Below w4.heap.size w4 w5 := by rw [← hw5]; exact keep_alloc (Below.refl _ _) _
    obtain ⟨U1, hU1⟩ : ∃ U1, U1 = more U w4 w5 := ⟨_, rfl⟩
    have hV5 : VdIn w5 S U1 y (List.replicate n false) (List.replicate n (DevD.blank sn 0)) := by rw [hU1]; exact hV.more hb5
    have hu1 : U1 w4.heap.size ∧ ∀ b, b < w3.heap.size → U1 b := by rw [hU1]; exact ⟨.inr ⟨Nat.le_refl _, hX5.lt⟩, fun b hb => .inl (hU b hb)⟩
    have HV5 := Lib.hid hV5
    have HU1 := Lib.hid hu1
    have HX5 := Lib.hid hX5
    have HB35 := Lib.hid (keep_below hb5 hb4)
    have HB5 := Lib.hid (keep_below (keep_below hb5 hb4) HB3.out)
    have HGB : Hid (Blk w5 w.heap.size 24 #[.slice A m c, .int .i64 sn] ∧ w.heap.size < w3.heap.size) := Lib.hid ⟨by
      have hq := keep_below (keep_below hb5 hb4) (Below.refl w3.heap.size w3)
      exact (HBG.out.1).below hq HBG.out.1.lt, HBG.out.1.lt⟩
    have HW5 := Lib.hid hw5
    have HY := Lib.hid (And.intro hyn (And.intro hys hysec))
    have HK := Lib.hid (And.intro k1 (And.intro k2 (And.intro k3 k4)))
    have x0 := (hX5).at_ (i := 0) (v := .slice (some ⟨y.gb, 0, none⟩) y.m y.cc) rfl
    have x1 := (hX5).at_ (i := 1) (v := .int .i64 y.secs) rfl
    have x2 := (hX5).at_ (i := 2) (v := .slice (some ⟨y.lb, 0, none⟩) y.bd.length y.lc) rfl
    have x3 := (hX5).at_ (i := 3) (v := .slice (some ⟨y.ab, 0, none⟩) y.bd.length y.bd.length) rfl
    rw [← hw5] at x0 x1 x2 x3
    clear hys hysec hyn hV hU hb4 few hlr hw5 hX5 hb5 hU1 hV5 hu1 HD g0 g1 hs24 hs200 k1 k2 k3 k4 hWb
    go_wp2_with fail
    rw [HW5.out]
    refine (HW1.out _ _ _ HV5.out).mono ?_
    rintro e w6 ⟨rfl, ⟨S6, hV6⟩, hst6⟩
    have HV6 := Lib.hid hV6
    have HST6 := Lib.hid hst6
    clear hV6 hst6 x0 x1 x2 x3
    go_wp2_with fail
    go_loopw [13] (fun t wr => ∃ (k : Nat) (S' : Nat → Nat → Prop), k ≤ n ∧ t = .int .i64 k ∧ VdIn wr S' U1 y (List.replicate n false) (turnTo DevD.fl (List.replicate n (torn1 gs sn (lr + 1))) k) ∧ Stays U1 w5 wr) (fun t _ => n - (RowKit.intOf t).toNat)
    case atStart => exact ⟨0, S6, Nat.zero_le _, rfl, by rw [turnTo_zero]; exact HV6.out, HST6.out⟩
    case round =>
      obtain ⟨k, S', hk, rfl, hV, hst⟩ := hrel
      have hxr : Blk wr w4.heap.size 50 y.cells := (hst.heap HU1.out.1 HX5.out.lt).trans HX5.out
      have HVR := Lib.hid hV
      have HST := Lib.hid hst
      have HXR := Lib.hid hxr
      by_cases hlt : k < n
      · have hdc : decide (k < n) = true := decide_eq_true hlt
        have hdk : (turnTo DevD.fl (List.replicate n (torn1 gs sn (lr + 1))) k)[k]? = some (torn1 gs sn (lr + 1)) := by rw [turnTo_at, List.getElem?_replicate_of_lt hlt]; simp
        obtain ⟨hkb, b, _, hb, _, _, hrow, _⟩ := hV.parts hdk
        have HFL := Lib.hid (vfl18_any hV HK.out.1.1 (by rw [HK.out.1.2.1, HY.out.2.2]) hb hdk)
        have HTS : Hid ((turnTo DevD.fl (List.replicate n (torn1 gs sn (lr + 1))) k).set k (torn1 gs sn (lr + 1)).fl = turnTo DevD.fl (List.replicate n (torn1 gs sn (lr + 1))) (k + 1)) := Lib.hid (turnTo_step (List.getElem?_replicate_of_lt hlt)).symm
        obtain ⟨fe, hfe⟩ : ∃ fe, (torn1 gs sn (lr + 1)).flE = fe := ⟨_, rfl⟩
        rw [hfe] at HFL
        have HLT := Lib.hid hlt
        have x0 := (hxr).at_ (i := 0) (v := .slice (some ⟨y.gb, 0, none⟩) y.m y.cc) rfl
        have x1 := (hxr).at_ (i := 1) (v := .int .i64 y.secs) rfl
        have x2 := (hxr).at_ (i := 2) (v := .slice (some ⟨y.lb, 0, none⟩) y.bd.length y.lc) rfl
        have x3 := (hxr).at_ (i := 3) (v := .slice (some ⟨y.ab, 0, none⟩) y.bd.length y.bd.length) rfl
        clear hV hst hxr hdk hb hfe
        go_wp2_with fail
        refine HFL.out.mono ?_
        rintro e w7 ⟨rfl, ⟨S7, hV7⟩, hst7⟩
        rw [HTS.out] at hV7
        have H7 := Lib.hid (And.intro hV7 (HST.out.trans hst7))
        clear hV7 hst7 x0 x1 x2 x3 hrow
        go_wp2_with fail
        go_roundw
        case rel => exact ⟨k + 1, S7, HLT.out, by go_num, H7.out.1, H7.out.2⟩
        case measure => have := HLT.out; simp [RowKit.intOf]; omega
      · have hkn : k = n := by omega
        have hdc : decide (k < n) = false := decide_eq_false hlt
        have HV2 : Hid (VdIn wr S' U1 y (List.replicate n false) (List.replicate n (torn2 gs sn (lr + 1)))) := Lib.hid (by
          have := HVR.out
          rw [hkn, torn_two] at this
          exact this)
        obtain ⟨wb, hwb⟩ : ∃ z, wr = z := ⟨_, rfl⟩
        rw [hwb] at HV2 HST HXR hxr ⊢
        have x0 := (hxr).at_ (i := 0) (v := .slice (some ⟨y.gb, 0, none⟩) y.m y.cc) rfl
        have x1 := (hxr).at_ (i := 1) (v := .int .i64 y.secs) rfl
        have x2 := (hxr).at_ (i := 2) (v := .slice (some ⟨y.lb, 0, none⟩) y.bd.length y.lc) rfl
        have x3 := (hxr).at_ (i := 3) (v := .slice (some ⟨y.ab, 0, none⟩) y.bd.length y.bd.length) rfl
        clear hwb hV hst hxr HVR hk hlt hkn
        go_wp2_with fail
        refine (HW2'.out _ _ _ HV2.out).mono ?_
        rintro e w8 ⟨rfl, ⟨S8, hV8⟩, hst8⟩
        have HV8 := Lib.hid hV8
        have HST8 := Lib.hid (HST.out.trans hst8)
        clear hV8 hst8 x0 x1 x2 x3
        go_wp2_with fail
        go_loopw [16, 17, 18] (fun t _ _ wr => ∃ (k : Nat) (S' : Nat → Nat → Prop), k ≤ n ∧ t = .int .i64 k ∧ VdIn wr S' U1 y (List.replicate n false) (turnTo (fun d => d.crash (keepL (bitB kp))) (List.replicate n (torn3 gs sn (lr + 1))) k) ∧ Stays U1 w5 wr) (fun t _ _ _ => n - (RowKit.intOf t).toNat)
        case atStart => exact ⟨0, S8, Nat.zero_le _, rfl, by rw [turnTo_zero]; exact HV8.out, HST8.out⟩
        case round =>
          obtain ⟨k, S', hk, rfl, hV, hst⟩ := hrel
          have hxr : Blk wr w4.heap.size 50 y.cells := (hst.heap HU1.out.1 HX5.out.lt).trans HX5.out
          have HVR := Lib.hid hV
          have HST9 := Lib.hid hst
          have HXR9 := Lib.hid hxr
          by_cases hlt : k < n
          · have hdc : decide (k < n) = true := decide_eq_true hlt
            have HLT := Lib.hid hlt
            obtain ⟨wo, hwo⟩ : ∃ z, wr = z := ⟨_, rfl⟩
            rw [hwo] at HVR HST9 HXR9 ⊢
            obtain ⟨i0, hi, hz0, hz1, hz2⟩ := info_parts Tryz.infoInt
            clear hwo hV hst hxr hk
            go_wp2_with fail
            go_loopw [17, 18] (fun v t wr => ∃ i : Nat, i ≤ 4 ∧ t = .int .i64 i ∧ wr.ownsRow wo.heap.size 3 1 v i (intCells (keepTo (bitB kp) i)) ∧ Below wo.heap.size wo wr) (fun _ t _ => 4 - (RowKit.intOf t).toNat)
            case atStart => exact ⟨0, by omega, rfl, World.ownsRow_nil _ _ _ _, Below.refl _ _⟩
            case round =>
              obtain ⟨i, hi4, rfl, hown, hbi⟩ := hrel
              by_cases hil : i < 4
              · have hdi : decide (i < 4) = true := decide_eq_true hil
                obtain ⟨q, hq⟩ : ∃ q, kp / 2 ^ i = q := ⟨_, rfl⟩
                have hql : q < 256 := by rw [← hq]; exact Nat.lt_of_le_of_lt (Nat.div_le_self _ _) hkp
                have hba := bit_and q hql
                have hdv : (kp : Int) / 2 ^ i = (q : Int) := by rw [bit_div, hq]
                obtain ⟨vb, hvb⟩ : ∃ vb : Nat, q % 2 = vb := ⟨_, rfl⟩
                have hks := keepTo_step (bitB kp) i
                rw [← bit_one, hq, hvb] at hks
                rw [hvb] at hba
                have HKS := Lib.hid hks
                have HIL := Lib.hid hil
                clear hks hq hvb
                go_wp2_with (at_builtin; refine wpList_append_own _ rfl _ _ 67 rfl wo.heap.size 3 i0 _ 1 8 Tryz.underlying67 hi hz0 hz1 hz2 rfl (by decide) _ _ _ rfl (hown.alloc _) ⟨wr.heap.size, 0, none⟩ 1 1 [.int .i64 (vb : Int)] rfl rfl ?c1 ?c2 (by unfold maxLen; omega) (by omega) ?c5 ?_)
                case c1 => exact one_new _ _ _
                case c2 => intro u hu; simp at hu; subst hu; rfl
                case c5 => have := hbi.size; simp; omega
                intro v' w1 hown' hgrow _
                have hown2 : w1.ownsRow wo.heap.size 3 1 v' (i + 1) (intCells (keepTo (bitB kp) (i + 1))) := by
                  rw [HKS.out, intCells_snoc]
                  exact hown'
                have hb2 : Below wo.heap.size wo w1 := (hbi.alloc hbi.size _).grown hgrow (by have := hbi.size; simp; omega) (fun k hk => (hown.lt k hk).1)
                have HO2 := Lib.hid hown2
                have HB2 := Lib.hid hb2
                clear hown hown' hgrow hown2 hb2
                go_wp2_with fail
                go_roundw
                case rel => exact ⟨i + 1, HIL.out, by go_num, HO2.out, HB2.out⟩
                case measure => have := HIL.out; simp [RowKit.intOf]; omega
              · obtain rfl : i = 4 := by omega
                have hdi : decide ((4 : Nat) < 4) = false := decide_eq_false (by omega)
                have hVi := HVR.out.below hbi
                have hdk : (turnTo (fun d => d.crash (keepL (bitB kp))) (List.replicate n (torn3 gs sn (lr + 1))) k)[k]? = some (torn3 gs sn (lr + 1)) := by rw [turnTo_at, List.getElem?_replicate_of_lt HLT.out]; simp
                obtain ⟨hkb, b, _, hb, _, _, hrow, _⟩ := hVi.parts hdk
                have hkp := keep_own hown (S := S' k) (fun b hb => HVR.out.lt k b hb)
                have HCR := Lib.hid (vcr18_any hVi HK.out.2.2.1.1 (fun j => Nat.le_trans (HK.out.2.2.1.2.2.2 j) (by decide)) hkp (by rw [torn_crash, HK.out.2.2.2.2.1, HY.out.2.2]) hb hdk)
                have HTS : Hid ((turnTo (fun d => d.crash (keepL (bitB kp))) (List.replicate n (torn3 gs sn (lr + 1))) k).set k ((torn3 gs sn (lr + 1)).crash (keepL (bitB kp))) = turnTo (fun d => d.crash (keepL (bitB kp))) (List.replicate n (torn3 gs sn (lr + 1))) (k + 1)) := Lib.hid (turnTo_step (f := (fun d => d.crash (keepL (bitB kp)))) (List.getElem?_replicate_of_lt HLT.out)).symm
                have HSI := Lib.hid (HST9.out.trans (stays_below hbi))
                have hxi := HXR9.out.below hbi HXR9.out.lt
                obtain ⟨gk, capk, rfl, _, _⟩ := hown.form (by omega)
                have x0 := (hxi).at_ (i := 0) (v := .slice (some ⟨y.gb, 0, none⟩) y.m y.cc) rfl
                have x1 := (hxi).at_ (i := 1) (v := .int .i64 y.secs) rfl
                have x2 := (hxi).at_ (i := 2) (v := .slice (some ⟨y.lb, 0, none⟩) y.bd.length y.lc) rfl
                have x3 := (hxi).at_ (i := 3) (v := .slice (some ⟨y.ab, 0, none⟩) y.bd.length y.bd.length) rfl
                clear hVi hdk hb hkp hxi hown hbi hi hz0 hz1 hz2 hil hi4
                go_wp2_with fail
                refine HCR.out.mono ?_
                rintro e w9 ⟨rfl, ⟨S9, hV9⟩, hst9⟩
                rw [HTS.out] at hV9
                have H9 := Lib.hid (And.intro hV9 (HSI.out.trans hst9))
                clear hV9 hst9 x0 x1 x2 x3 hrow
                go_wp2_with fail
                go_roundw
                case rel => exact ⟨k + 1, S9, HLT.out, by go_num, H9.out.1, H9.out.2⟩
                case measure => have := HLT.out; simp [RowKit.intOf]; omega
          · have hkn : k = n := by omega
            have hdc : decide (k < n) = false := decide_eq_false hlt
            have HV4 : Hid (VdIn wr S' U1 y (List.replicate n false) (List.replicate n (torn4 gs sn (lr + 1) (bitB kp)))) := Lib.hid (by
              have := HVR.out
              rw [hkn, torn_four] at this
              exact this)
            have HBW : Hid (Below w.heap.size w wr) := Lib.hid (HB5.out.trans (hst.below HB5.out.size (fun i hi => HU1.out.2 i (by have := HGB.out.2; omega))))
            have hgb : Blk wr w.heap.size 24 #[.slice A m c, .int .i64 sn] := (hst.heap (HU1.out.2 _ HGB.out.2) HGB.out.1.lt).trans HGB.out.1
            have HGB9 := Lib.hid hgb
            have x0 := (hxr).at_ (i := 0) (v := .slice (some ⟨y.gb, 0, none⟩) y.m y.cc) rfl
            have x1 := (hxr).at_ (i := 1) (v := .int .i64 y.secs) rfl
            have x2 := (hxr).at_ (i := 2) (v := .slice (some ⟨y.lb, 0, none⟩) y.bd.length y.lc) rfl
            have x3 := (hxr).at_ (i := 3) (v := .slice (some ⟨y.ab, 0, none⟩) y.bd.length y.bd.length) rfl
            clear hV hst hxr HVR hk hlt hkn hgb
            go_wp2_with fail
            refine (HBE.out _ _ _ HV4.out).mono ?_
            rintro e w10 ⟨rfl, hb10⟩
            have hgb10 := HGB9.out.below hb10 HGB9.out.lt
            have hbw10 := HBW.out.trans (hb10.mono HBW.out.size)
            have HBW10 := Lib.hid hbw10
            clear x0 x1 x2 x3 hb10
            cases Wb with
            | true =>
              simp only [if_true]
              obtain ⟨w11, hw11⟩ : ∃ z, w10.alloc (.cells #[.int .i64 (1 + (lr : Int) + 1), .int .i64 9, .int .i64 0, .int .i64 0, .int .i64 0, .int .i64 0, .bool false, .int .i64 0, .int .i64 0, .int .i64 0, .int .u64 0, .int .u64 0, .int .u64 0, .int .u64 0] 35) = z := ⟨_, rfl⟩
              have hN11 : Blk w11 w10.heap.size 35 #[.int .i64 (1 + (lr : Int) + 1), .int .i64 9, .int .i64 0, .int .i64 0, .int .i64 0, .int .i64 0, .bool false, .int .i64 0, .int .i64 0, .int .i64 0, .int .u64 0, .int .u64 0, .int .u64 0, .int .u64 0] := by rw [← hw11]; exact Blk.new _ _ _
              have hb11 : Below w10.heap.size w10 w11 := by rw [← hw11]; exact keep_alloc (Below.refl _ _) _
              have hg11 := hgb10.below hb11 hgb10.lt
              have HB11 := Lib.hid (HBW10.out.trans (hb11.mono HBW10.out.size))
              have HGE := Lib.hid (HG0.out.below HB11.out (Nat.le_refl _))
              have HN11 := Lib.hid hN11
              have g0 := hg11.at_ (i := 0) (v := .slice A m c) rfl
              have g1 := hg11.at_ (i := 1) (v := .int .i64 sn) rfl
              rw [← hw11] at g0 g1
              have HW11 := Lib.hid hw11
              clear hN11 hb11 hg11 hgb10 hbw10 hw11
              go_wp2_with fail
              rw [HW11.out]
              refine (HWH.out w11 HGE.out).mono ?_
              rintro e w12 ⟨rfl, hb12⟩
              have n0 := keepU (HN11.out.at_ (i := 0) (v := .int .i64 (1 + (lr : Int) + 1)) rfl) hb12
              have n1 := keepU (HN11.out.at_ (i := 1) (v := .int .i64 9) rfl) hb12
              have HB12 := Lib.hid (HB11.out.trans (hb12.mono HB11.out.size))
              clear g0 g1 hb12
              go_wp2_with fail
              go_ret
              exact ⟨rfl, HB12.out⟩
            | false =>
              simp only [Bool.false_eq_true, if_false]
              obtain ⟨w11, hw11⟩ : ∃ z, w10.alloc (.cells #[.int .i64 (1 + (lr : Int)), .int .i64 7, .int .i64 0, .int .i64 0, .int .i64 0, .int .i64 0, .bool false, .int .i64 0, .int .i64 0, .int .i64 0, .int .u64 0, .int .u64 0, .int .u64 0, .int .u64 0] 35) = z := ⟨_, rfl⟩
              have hN11 : Blk w11 w10.heap.size 35 #[.int .i64 (1 + (lr : Int)), .int .i64 7, .int .i64 0, .int .i64 0, .int .i64 0, .int .i64 0, .bool false, .int .i64 0, .int .i64 0, .int .i64 0, .int .u64 0, .int .u64 0, .int .u64 0, .int .u64 0] := by rw [← hw11]; exact Blk.new _ _ _
              have hb11 : Below w10.heap.size w10 w11 := by rw [← hw11]; exact keep_alloc (Below.refl _ _) _
              have hg11 := hgb10.below hb11 hgb10.lt
              have HB11 := Lib.hid (HBW10.out.trans (hb11.mono HBW10.out.size))
              have HGE := Lib.hid (HG0.out.below HB11.out (Nat.le_refl _))
              have HN11 := Lib.hid hN11
              have g0 := hg11.at_ (i := 0) (v := .slice A m c) rfl
              have g1 := hg11.at_ (i := 1) (v := .int .i64 sn) rfl
              rw [← hw11] at g0 g1
              have HW11 := Lib.hid hw11
              clear hN11 hb11 hg11 hgb10 hbw10 hw11
              go_wp2_with fail
              rw [HW11.out]
              refine (HWH.out w11 HGE.out).mono ?_
              rintro e w12 ⟨rfl, hb12⟩
              have n0 := keepU (HN11.out.at_ (i := 0) (v := .int .i64 (1 + (lr : Int))) rfl) hb12
              have n1 := keepU (HN11.out.at_ (i := 1) (v := .int .i64 7) rfl) hb12
              have HB12 := Lib.hid (HB11.out.trans (hb12.mono HB11.out.size))
              clear g0 g1 hb12
              go_wp2_with fail
              go_ret
              exact ⟨rfl, HB12.out⟩
end Go.Proofs.YtlpbbjjibnbooaaGreatDoor

namespace Go.Proofs.YtlpbbjjibnbooaaGreatDoor

def litOf : DataW Unit → Value
  | .lit (.int k n) => .int k n
  | _ => .int .i64 0
def partsOf : DataW Unit → List (DataW Unit)
  | .agg l => l
  | _ => []
def firstCells : Array Value := ((partsOf Rows.laid_unicode_utf8_first).map litOf).toArray
def rangeCells : Array Value := ((partsOf (Rows.laid_unicode_utf8_acceptRanges (H := Unit))).flatMap fun d => (partsOf d).map litOf).toArray
def layCells (cs : Array Value) : Obj → Obj
  | .cells _ t frozen => .cells cs t frozen
  | o => o
noncomputable def laidWorld (os : Os) : World :=
  { World.holding Tryz.prog os ⟨#[], #[], []⟩ with heap := Array.modify (Array.modify (World.holding Tryz.prog os ⟨#[], #[], []⟩).heap 1 (layCells firstCells)) 2 (layCells rangeCells) }
end Go.Proofs.YtlpbbjjibnbooaaGreatDoor
