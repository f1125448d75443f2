/-
  The walk of DevFresh.
-/
import Derived.Test.YtkaijdnaheikeaaDevActsW
namespace Go.Proofs.Ytkaijdnaheikeaa
set_option linter.unusedVariables false
set_option linter.unusedSimpArgs false
open Go.RowKit

namespace DevD
theorem wr_mlen (d : DevD) (a : Int) (s : List UInt8) : (d.wr a s).med.length = d.med.length := by
  unfold wr
  split <;> rfl
theorem blank_rd {n : Nat} {b : UInt8} {k : Nat} (hk : k < n) : (DevD.blank n b).mayE k = 0 ∧ (DevD.blank n b).rdS k = fullL b := by
  have hm : (DevD.blank n b).mayE k = 0 := by
    unfold mayE blank
    simp
    omega
  refine ⟨hm, ?_⟩
  unfold rdS
  rw [if_pos hm]
  unfold now medAt blank lastOr
  simp [List.getD_eq_getElem?_getD, hk]
theorem blank_wr {n : Nat} {b c : UInt8} {k : Nat} (hk : k < n) : (DevD.blank n b).wrE k (fullL c) = 0 ∧ ((DevD.blank n b).wr k (fullL c)).flE = 0 ∧ ((DevD.blank n b).wr k (fullL c)).fl.med.length = n := by
  have h1 : (DevD.blank n b).wrE k (fullL c) = 0 := by
    unfold DevD.wrE
    rw [(blank_rd hk).1, fullL_len]; rfl
  have h2 : ((DevD.blank n b).wr k (fullL c)).flE = 0 := by
    unfold DevD.wr
    rw [if_pos h1]
    rfl
  refine ⟨h1, h2, ?_⟩
  unfold DevD.fl
  rw [if_pos h2]
  show (List.mapIdx _ ((DevD.blank n b).wr k (fullL c)).med).length = n
  rw [List.length_mapIdx, wr_mlen]
  simp [blank]
theorem blank_keys (n : Nat) (b : UInt8) : (DevD.blank n b).keys = [] := by
  unfold keys hasL
  rw [List.filter_eq_nil_iff]
  intro k _
  simp [pre, blank]
end DevD

set_option maxRecDepth 20000 in
set_option maxHeartbeats 400000 in
theorem devFresh_any (v : Value) (l : List ActD) (fill at_ : UInt8) (w : World) (hl : ActArg w v l) : Calls Try.prog 7 #[v, .int .u8 fill.toNat, .int .u8 at_.toNat] w fun e w' => e = .returned (.bool true) ∧ Below w.heap.size w w' := by
  have HA := Lib.hid (fun W => awake_any W)
  have HFA := Lib.hid (fun b W => rfull_any b W)
  have HARG := Lib.hid hl
  have HFEW := Lib.hid (fun W (h : Below w.heap.size w W) => few_any v l W (hl.below h))
  obtain ⟨A, c, rfl, hlm, _⟩ := hl
  go_enter Try.func7, Try.ntmps7
  go_wp2_with fail
  refine (HA.out _).mono ?_
  rintro e w1 ⟨rfl, hb1⟩
  have HB1 := Lib.hid hb1
  clear hb1
  go_wp2_with fail
  refine (HFEW.out _ HB1.out).mono ?_
  rintro e w1' ⟨fb, rfl, himp, rfl⟩
  cases fb with
  | false =>
    go_wp2_with fail
    refine (HA.out _).mono ?_
    rintro e w2 ⟨rfl, hb2⟩
    have HB2 := Lib.hid (keep_below hb2 HB1.out)
    clear hb2
    go_wp2_with fail
    go_ret
    exact ⟨rfl, HB2.out⟩
  | true =>
    have hl80 := himp rfl
    clear himp
    go_wp2_with fail
    refine (new_s (w0 := w) 6 (by omega) (by omega) HB1.out).mono ?_
    rintro e w2 ⟨bd, rfl, hd⟩
    have HD := Lib.hid hd
    clear hd
    go_wp2_with fail
    go_loopw [9] (fun i wr => ∃ (k : Nat) (d : DevD), k ≤ l.length ∧ i = .int .i64 k ∧ DevS w wr bd d k ∧ d.med.length = 6) (fun i _ => l.length - (intOf i).toNat)
    case atStart => exact ⟨0, _, Nat.zero_le _, rfl, HD.out, by simp [DevD.blank]⟩
    case round =>
      obtain ⟨k, d, hk, rfl, hd, h6⟩ := hrel
      have HDK := Lib.hid hd
      have H6 := Lib.hid h6
      clear hd h6
      by_cases hlt : k < l.length
      · have harg := HARG.out.below HDK.out.base
        obtain ⟨A', c', he, _, hcell⟩ := harg
        cases he
        obtain ⟨b, o, rfl, hblt, hcell⟩ := hcell (by omega)
        obtain ⟨x, hx⟩ : ∃ x, l[k]? = some x := ⟨_, List.getElem?_eq_getElem hlt⟩
        obtain ⟨x0, x1, x2, x3, ⟨A4, c4, hc4⟩, hx0, hx1, hx2, hkl⟩ := hcell k x hx
        have HLT := Lib.hid hlt
        have hdc : decide (k < l.length) = true := decide_eq_true hlt
        obtain ⟨S1, hS1⟩ : ∃ S1 : World → Prop, S1 = fun W => W.cell? ⟨b, o + k * 5 + 1, none⟩ = some (.int .i64 x.at_) ∧ W.cell? ⟨b, o + k * 5 + 3, none⟩ = some (.int .u8 x.fill.toNat) := ⟨_, rfl⟩
        have hSw : S1 wr.drew := by rw [hS1]; exact ⟨x1, x3⟩
        have HX := Lib.hid hx
        clear hcell hx x2 hc4 hkl x1 x3
        repeat' (first
          | go_values
          | go_skip
          | go_guarded
          | ((fail_if_success (with_reducible refine drawn_mark ?_))
             first
               | go_step
               | go_upon
               | go_back
               | (simp only [Int.not_lt, Int.not_le] at *; go_simp)
               | (go_values <;> (try go_simp))
               | (go_ite <;> go_prune <;> (try go_simp))
               | (split <;> (first | (rename_i hx; exact (hx _ rfl).elim) | go_prune))))
        have f1 : ∀ W, S1 W → W.cell? ⟨b, o + k * 5 + 1, none⟩ = some (.int .i64 x.at_) := fun W hW => by rw [hS1] at hW; exact hW.1
        have f2 : ∀ W, S1 W → W.cell? ⟨b, o + k * 5 + 3, none⟩ = some (.int .u8 x.fill.toNat) := fun W hW => by rw [hS1] at hW; exact hW.2
        have hS2 : ∀ W W', S1 W → Below W.heap.size W W' → S1 W' := fun W W' hW hb => by
          rw [hS1] at hW ⊢
          exact ⟨(hb.cell (p := ⟨b, o + k * 5 + 1, none⟩) (World.block_lt_of_cell? W _ hW.1)).trans hW.1, (hb.cell (p := ⟨b, o + k * 5 + 3, none⟩) (World.block_lt_of_cell? W _ hW.2)).trans hW.2⟩
        have HSS := Lib.hid hS2
        have HS1 := Lib.hid hS1
        clear hS1 hS2
        refine wp_region_eff S1 [11] 12 (by kernel_rfl) (by kernel_rfl) (by kernel_rfl) hSw ?_
        simp only [List.take_succ_cons, List.take_zero, List.drop_succ_cons, List.drop_zero]
        refine wpLexE_take 11 (by kernel_rfl) (by kernel_rfl) ?_
        simp only [List.take_succ_cons, List.take_zero, List.drop_succ_cons, List.drop_zero]
        repeat (first
          | go_big_quiet_skip
          | (go_big_quiet_want
             go_big_quiet_op
             first
               | go_big_quiet_on
               | (apply Exists.intro
                  refine ⟨fun W hW => ?_, ?_⟩
                  · first
                      | exact rfl
                      | exact ⟨rfl, rfl⟩
                      | (have e0 := f1 W hW; have e1 := f2 W hW; simp only [e0, e1, Result.andThen_ok]; done)
                      | (have e0 := f1 W hW; have e1 := f2 W hW; simp only [e0, e1, Result.andThen_ok]; first | exact ⟨trivial, rfl⟩ | exact rfl | exact ⟨rfl, rfl⟩)
                      | (skip)
                  go_big_quiet_on)))
        refine wpQuiet_nil ?_
        show wpLexE _ _ _ _ _ _ _ _ _
        refine wpLexE_eff (by kernel_rfl) rfl ?_
        go_wp2_with fail
        refine (HFA.out x.fill _).mono ?_
        rintro e w4 ⟨rfl, hb4⟩
        have HD4 := Lib.hid ((HDK.out.below ((Below.refl _ _).drew)).below hb4)
        have HSW4 := Lib.hid (HSS.out _ _ hSw hb4)
        clear hb4 hSw
        go_wp2_with fail
        refine ⟨rfl, HSW4.out, ?_⟩
        show wpList _ _ _ _ _ _
        go_wp2_with fail
        refine (write_s HD4.out (by omega) x.at_ (fullL x.fill) (by rw [fullL_len]; omega)).mono ?_
        rintro e w5 ⟨rfl, hd5⟩
        have HD5 := Lib.hid hd5
        clear hd5 f1 f2
        obtain ⟨x0, _, _, _, x0b, _, _⟩ := HARG.out.get HX.out HD5.out.base
        have HW6 : Hid ((d.wr x.at_ (fullL x.fill)).med.length = 6) := Lib.hid (by rw [DevD.wr_mlen]; exact H6.out)
        obtain ⟨q, hq⟩ : ∃ q, x.do_ % 4 = q := ⟨_, rfl⟩
        have t4 : (x.do_ : Int).tmod 4 = (q : Int) := mod_eq 4 hq
        clear hq
        by_cases h3 : q = 3
        · subst h3
          go_wp2_with fail
          refine (lose_s HD5.out).mono ?_
          rintro e w6 ⟨rfl, hd6⟩
          have HD6 := Lib.hid hd6
          clear hd6
          go_wp2_with fail
          go_roundw
          case rel => exact ⟨k + 1, _, HLT.out, by go_num, HD6.out, HW6.out⟩
          case measure => have := HLT.out; simp [intOf]; omega
        · have hq3 : ((q : Int) == 3) = false := by rw [beq_eq_false_iff_ne]; omega
          go_wp2_with fail
          go_roundw
          case rel => exact ⟨k + 1, _, HLT.out, by go_num, HD5.out, HW6.out⟩
          case measure => have := HLT.out; simp [intOf]; omega
      · have hdc : decide (k < l.length) = false := decide_eq_false hlt
        clear hlt
        go_wp2_with fail
        refine (fuse_s HDK.out 0 (by omega)).mono ?_
        rintro e w3 ⟨rfl, hd3⟩
        have HD3 := Lib.hid hd3
        clear hd3
        go_wp2_with fail
        refine (fresh_s HD3.out fill).mono ?_
        rintro e w4 ⟨rfl, hd4⟩
        have hlen : (d.fused 0).med.length = 6 := H6.out
        rw [hlen] at hd4
        have HD4 := Lib.hid hd4
        clear hd4 hlen
        go_wp2_with fail
        go_loopw [10] (fun i wr => ∃ j : Nat, j ≤ 6 ∧ i = .int .i64 j ∧ DevS w wr bd (DevD.blank 6 fill) 0) (fun i _ => 6 - (intOf i).toNat)
        case atStart => exact ⟨0, Nat.zero_le _, rfl, HD4.out⟩
        case round =>
          obtain ⟨j, hj, rfl, hd⟩ := hrel
          have HDJ := Lib.hid hd
          clear hd
          by_cases hjl : j < 6
          · have HBR := Lib.hid (DevD.blank_rd (b := fill) hjl)
            go_wp2_with fail
            refine (read_s HDJ.out j).mono ?_
            rintro e w5 ⟨rfl, rfl⟩
            rw [HBR.out.1, HBR.out.2]
            go_wp2_with fail
            refine (HFA.out fill _).mono ?_
            rintro e w6 ⟨rfl, hb6⟩
            have HD6 := Lib.hid (HDJ.out.below hb6)
            clear hb6
            go_wp2_with fail
            go_roundw
            case rel => exact ⟨j + 1, by omega, by go_num, HD6.out⟩
            case measure => simp [intOf]; omega
          · obtain rfl : j = 6 := by omega
            have HKE := Lib.hid (DevD.blank_keys 6 fill)
            obtain ⟨q, hq⟩ : ∃ q, at_.toNat % 6 = q := ⟨_, rfl⟩
            have t6 : (at_.toNat : Int).tmod 6 = (q : Int) := mod_eq 6 hq
            have tw : wrap64 (at_.toNat : Int) = at_.toNat := IntWalk.wrap64_in _ (by have := at_.toNat_lt; omega)
            have hq6 : q < 6 := by rw [← hq]; exact Nat.mod_lt _ (by omega)
            have HBW := Lib.hid (DevD.blank_wr (b := fill) (c := at_) hq6)
            clear hq hjl
            go_wp2_with fail
            refine (lost_s HDJ.out).mono ?_
            rintro e w5 ⟨rfl, rfl⟩
            have hlo : (DevD.blank 6 fill).lost = false := rfl
            rw [hlo]
            go_wp2_with fail
            refine (cached_s HDJ.out).mono ?_
            rintro e w6 ⟨A6, c6, rfl, hb6⟩
            rw [HKE.out]
            have HD6 := Lib.hid (HDJ.out.below hb6)
            clear hb6
            go_wp2_with fail
            refine (HFA.out at_ _).mono ?_
            rintro e w7 ⟨rfl, hb7⟩
            have HD7 := Lib.hid (HD6.out.below hb7)
            clear hb7
            go_wp2_with fail
            refine (write_s HD7.out (by omega) q (fullL at_) (by rw [fullL_len]; omega)).mono ?_
            rintro e w8 ⟨rfl, hd8⟩
            rw [HBW.out.1]
            have HD8 := Lib.hid hd8
            clear hd8
            go_wp2_with fail
            refine (flush_s HD8.out).mono ?_
            rintro e w9 ⟨rfl, hd9⟩
            rw [HBW.out.2.1]
            have HD9 := Lib.hid hd9
            clear hd9
            go_wp2_with fail
            refine (secs_s HD9.out).mono ?_
            rintro e w10 ⟨rfl, rfl⟩
            rw [HBW.out.2.2]
            go_wp2_with fail
            go_ret
            exact ⟨rfl, HD9.out.base⟩
theorem devFresh_n (v : Value) (l : List ActD) (n m : Nat) (w : World) (hl : ActArg w v l) (hn : n ≤ 255) (hm : m ≤ 255) : Calls Try.prog 7 #[v, .int .u8 n, .int .u8 m] w fun e w' => e = .returned (.bool true) ∧ Below w.heap.size w w' := by
  obtain ⟨u, rfl⟩ := u8_of hn
  obtain ⟨u2, rfl⟩ := u8_of hm
  exact devFresh_any v l u u2 w hl
end Go.Proofs.Ytkaijdnaheikeaa
