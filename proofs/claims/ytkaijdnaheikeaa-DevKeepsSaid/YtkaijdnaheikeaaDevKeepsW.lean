/-
  The walk of DevKeeps.
-/
import Derived.Test.YtkaijdnaheikeaaDevAloneW
namespace Go.Proofs.Ytkaijdnaheikeaa
set_option linter.unusedVariables false
set_option linter.unusedSimpArgs false
open Go.RowKit

namespace DevD
/-- n sectors; nothing is lost, no fuse. -/
structure Open (d : DevD) (n : Nat) : Prop where
  lost : d.lost = false
  len : d.med.length = n
  fuse : d.fuse = -1
theorem Open.may {d : DevD} {n k : Nat} (h : d.Open n) (hk : k < n) : d.mayE k = 0 := by
  unfold mayE
  rw [h.lost, h.len]
  simp; omega
theorem Open.wr {d : DevD} {n : Nat} (h : d.Open n) (a : Int) (t : List UInt8) : (d.wr a t).Open n := by
  unfold DevD.wr
  split
  · exact ⟨h.lost, h.len, by show max (d.fuse - 1) (-1) = -1; rw [h.fuse]; rfl⟩
  · exact h
theorem Open.flE {d : DevD} {n : Nat} (h : d.Open n) : d.flE = 0 := by
  unfold DevD.flE
  rw [h.lost, h.fuse]; rfl
/-- Sector k stands; nothing of it is in the cache. -/
structure Stands (d : DevD) (n k : Nat) (s : List UInt8) : Prop where
  op : d.Open n
  med : d.medAt k = s
  cac : d.cac k = []
theorem Open.fl {d : DevD} {n k : Nat} (h : d.Open n) : d.fl.Stands n k (d.fl.medAt k) := by
  have hfl : d.fl = d.burn.settled := by unfold DevD.fl; rw [if_pos h.flE]
  refine ⟨⟨?_, ?_, ?_⟩, rfl, ?_⟩
  · rw [hfl]; exact h.lost
  · rw [hfl]; show (List.mapIdx _ d.med).length = n; rw [List.length_mapIdx]; exact h.len
  · rw [hfl]; show max (d.fuse - 1) (-1) = -1; rw [h.fuse]; rfl
  · rw [hfl]; rfl
theorem Stands.rd {d : DevD} {n k : Nat} {s : List UInt8} (h : d.Stands n k s) (hk : k < n) : d.rdS k = s := by
  unfold rdS
  rw [if_pos (h.op.may hk)]
  have : (k : Int).toNat = k := rfl
  rw [this]
  unfold now
  rw [h.cac, lastOr_nil]
  exact h.med
theorem Stands.wr {d : DevD} {n k : Nat} {s : List UInt8} (h : d.Stands n k s) {a : Int} (ha : a ≠ k) (t : List UInt8) : (d.wr a t).Stands n k s := by
  refine ⟨h.op.wr a t, ?_, ?_⟩
  · unfold DevD.wr
    split
    · exact h.med
    · exact h.med
  · unfold DevD.wr
    split
    · rename_i h0
      have hm := mayE_ok (wrE_ok h0).1
      have hne : k ≠ a.toNat := by omega
      show (if k = a.toNat then _ else d.cac k) = []
      rw [if_neg hne]; exact h.cac
    · exact h.cac
theorem Stands.crash {d : DevD} {n k : Nat} {s : List UInt8} (h : d.Stands n k s) (hk : k < n) (keep : List Int) : (d.crash keep).Stands n k s ∧ (d.crash keep).keys = [] := by
  have hc : d.crash keep = { d with med := d.crashMed keep d.med.length, cac := fun _ => [], fuse := -1 } := by
    unfold DevD.crash
    rw [if_neg (by simp [h.op.lost])]
  have hkl : k < d.med.length := by rw [h.op.len]; exact hk
  rw [hc]
  refine ⟨⟨⟨h.op.lost, by show (d.crashMed keep _).length = n; simp [crashMed, h.op.len], rfl⟩, ?_, rfl⟩, ?_⟩
  · have hm := h.med
    unfold medAt at hm ⊢
    show (d.crashMed keep d.med.length).getD k [] = s
    have hl : k < (d.crashMed keep d.med.length).length := by simpa [crashMed] using hkl
    rw [List.getD_eq_getElem?_getD, List.getElem?_eq_getElem hkl] at hm
    rw [List.getD_eq_getElem?_getD, List.getElem?_eq_getElem hl, crashMed_get d keep _ hkl, if_neg (by simp [h.cac])]
    exact hm
  · unfold keys hasL
    rw [List.filter_eq_nil_iff]
    intro j _
    simp [pre]
end DevD

theorem keeps_nums (secs at_ : UInt8) : ∃ q n s : Nat, (secs.toNat : Int).tmod 20 = (q : Int) ∧ wrap64 (secs.toNat : Int) = secs.toNat ∧ wrap64 (at_.toNat : Int) = at_.toNat ∧ wrap64 (1 + (q : Int)) = (n : Int) ∧ (at_.toNat : Int).tmod (n : Int) = (s : Int) ∧ ¬ (n : Int) = 0 ∧ s < n ∧ 1 ≤ n ∧ n ≤ 4096 := by
  have h1 := secs.toNat_lt
  have h2 := at_.toNat_lt
  have hq : secs.toNat % 20 < 20 := Nat.mod_lt _ (by omega)
  refine ⟨secs.toNat % 20, secs.toNat % 20 + 1, at_.toNat % (secs.toNat % 20 + 1), mod_eq 20 rfl, IntWalk.wrap64_in _ (by omega), IntWalk.wrap64_in _ (by omega), ?_, IntWalk.up_tmod rfl rfl, by omega, Nat.mod_lt _ (by omega), by omega, by omega⟩
  rw [IntWalk.wrap64_in _ (by omega)]
  omega

set_option maxRecDepth 20000 in
set_option maxHeartbeats 2000000 in
theorem devKeeps_any (secs at_ : UInt8) (v1 v2 v3 : Value) (l m : List ActD) (keep : List Int) (w : World) (hl : ActArg w v1 l) (hm : ActArg w v2 m) (hk : IntArg w v3 keep) :
    Calls Try.prog 3 #[.int .u8 secs.toNat, v1, v2, v3, .int .u8 at_.toNat] w fun e w' => e = .returned (.bool true) ∧ Below w.heap.size w w' := by
  have HA := Lib.hid (fun W => awake_any W)
  have HFA := Lib.hid (fun b W => rfull_any b W)
  have HARG := Lib.hid hl
  have HARG2 := Lib.hid hm
  have HARG3 := Lib.hid hk
  have HFEW := Lib.hid (fun W (h : Below w.heap.size w W) => few_any v1 l W (hl.below h))
  have HFEW2 := Lib.hid (fun W (h : Below w.heap.size w W) => few_any v2 m W (hm.below h))
  obtain ⟨A, c, rfl, hlm, _⟩ := hl
  obtain ⟨A2, c2, rfl, hmm, _⟩ := hm
  obtain ⟨A3, c3, rfl, _, _⟩ := hk
  go_enter Try.func3, Try.ntmps3
  go_wp2_with fail
  refine (HA.out _).mono ?_
  rintro e w1 ⟨rfl, hb1⟩
  have HB1 := Lib.hid hb1
  clear hb1
  go_wp2_with fail
  refine (HFEW.out _ HB1.out).mono ?_
  rintro e w1' ⟨fb, rfl, himp, rfl⟩
  cases fb with
  | false =>
    go_wp2_with fail
    refine (HA.out _).mono ?_
    rintro e w2 ⟨rfl, hb2⟩
    have HB2 := Lib.hid (keep_below hb2 HB1.out)
    clear hb2
    go_wp2_with fail
    go_ret
    exact ⟨rfl, HB2.out⟩
  | true =>
  have hl80 := himp rfl
  clear himp
  go_wp2_with fail
  refine (HFEW2.out _ HB1.out).mono ?_
  rintro e w1' ⟨fb, rfl, himp, rfl⟩
  cases fb with
  | false =>
    go_wp2_with fail
    refine (HA.out _).mono ?_
    rintro e w2 ⟨rfl, hb2⟩
    have HB2 := Lib.hid (keep_below hb2 HB1.out)
    clear hb2
    go_wp2_with fail
    go_ret
    exact ⟨rfl, HB2.out⟩
  | true =>
  have hm80 := himp rfl
  clear himp
  by_cases hk80 : 80 < keep.length
  · go_wp2_with fail
    refine (HA.out _).mono ?_
    rintro e w2 ⟨rfl, hb2⟩
    have HB2 := Lib.hid (keep_below hb2 HB1.out)
    clear hb2
    go_wp2_with fail
    go_ret
    exact ⟨rfl, HB2.out⟩
  · obtain ⟨q, n, s, t20, tw, tw2, t1, tn, hn0, hsn, hn1, hn2⟩ := keeps_nums secs at_
    have HSN := Lib.hid hsn
    have HN1 := Lib.hid hn1
    have HN2 := Lib.hid hn2
    clear hsn hn1 hn2
    go_wp2_with fail
    refine (new_s (w0 := w) n HN1.out HN2.out HB1.out).mono ?_
    rintro e w2 ⟨bd, rfl, hd⟩
    have HD := Lib.hid hd
    have HO0 : Hid ((DevD.blank n 0).Open n) := Lib.hid ⟨rfl, by simp [DevD.blank], rfl⟩
    have HT20 := Lib.hid t20
    clear hd t20
    go_wp2_with fail
    clear tw tw2
    go_loopw [15] (fun i wr => ∃ (k : Nat) (d : DevD), k ≤ l.length ∧ i = .int .i64 k ∧ DevS w wr bd d k ∧ d.Open n) (fun i _ => l.length - (intOf i).toNat)
    case atStart => exact ⟨0, _, Nat.zero_le _, rfl, HD.out, HO0.out⟩
    case round =>
      obtain ⟨k, d, hk, rfl, hd, hal⟩ := hrel
      have HDK := Lib.hid hd
      have HAL := Lib.hid hal
      clear hd hal
      by_cases hlt : k < l.length
      · have hneed : ∃ b o, A = some ⟨b, o, none⟩ := by
          obtain ⟨A', c', he, _, hcell⟩ := HARG.out
          cases he
          obtain ⟨b, o, h, _⟩ := hcell (Nat.lt_of_le_of_lt (Nat.zero_le _) hlt)
          exact ⟨b, o, h⟩
        obtain ⟨b, o, rfl⟩ := hneed
        obtain ⟨x, hx⟩ : ∃ x, l[k]? = some x := ⟨_, List.getElem?_eq_getElem hlt⟩
        obtain ⟨x0, x1, x2, x3, hx0, hx1, hx2⟩ := HARG.out.get hx HDK.out.base
        have HLT := Lib.hid hlt
        have hdc : decide (k < l.length) = true := decide_eq_true hlt
        have hkN : k ≤ 1000000 := Nat.le_trans hk (Nat.le_trans hl80 (by decide))
        have HKN := Lib.hid hkN
        have HW := Lib.hid (HAL.out.wr x.at_ (fullL x.fill))
        clear hx hx2 hx1 hx0 x0 x2 hkN
        obtain ⟨S1, hS1⟩ : ∃ S1 : World → Prop, S1 = fun W => W.cell? ⟨b, o + k * 5 + 1, none⟩ = some (.int .i64 x.at_) ∧ W.cell? ⟨b, o + k * 5 + 3, none⟩ = some (.int .u8 x.fill.toNat) := ⟨_, rfl⟩
        have hSw : S1 wr.drew := by rw [hS1]; exact ⟨x1, x3⟩
        clear x1 x3
        repeat' (first
          | go_values
          | go_skip
          | go_guarded
          | ((fail_if_success (with_reducible refine drawn_mark ?_))
             first
               | go_step
               | go_upon
               | go_back
               | (simp only [Int.not_lt, Int.not_le] at *; go_simp)
               | (go_values <;> (try go_simp))
               | (go_ite <;> go_prune <;> (try go_simp))
               | (split <;> (first | (rename_i hx; exact (hx _ rfl).elim) | go_prune))))
        have f1 : ∀ W, S1 W → W.cell? ⟨b, o + k * 5 + 1, none⟩ = some (.int .i64 x.at_) := fun W hW => by rw [hS1] at hW; exact hW.1
        have f2 : ∀ W, S1 W → W.cell? ⟨b, o + k * 5 + 3, none⟩ = some (.int .u8 x.fill.toNat) := fun W hW => by rw [hS1] at hW; exact hW.2
        have hS2 : ∀ W W', S1 W → Below W.heap.size W W' → S1 W' := fun W W' hW hb => by
          rw [hS1] at hW ⊢
          exact ⟨(hb.cell (p := ⟨b, o + k * 5 + 1, none⟩) (World.block_lt_of_cell? W _ hW.1)).trans hW.1, (hb.cell (p := ⟨b, o + k * 5 + 3, none⟩) (World.block_lt_of_cell? W _ hW.2)).trans hW.2⟩
        have HSS := Lib.hid hS2
        have HS1 := Lib.hid hS1
        clear hS1 hS2
        refine wp_region_eff S1 [11] 12 (by kernel_rfl) (by kernel_rfl) (by kernel_rfl) hSw ?_
        simp only [List.take_succ_cons, List.take_zero, List.drop_succ_cons, List.drop_zero]
        refine wpLexE_take 11 (by kernel_rfl) (by kernel_rfl) ?_
        simp only [List.take_succ_cons, List.take_zero, List.drop_succ_cons, List.drop_zero]
        repeat (first
          | go_big_quiet_skip
          | (go_big_quiet_want
             go_big_quiet_op
             first
               | go_big_quiet_on
               | (apply Exists.intro
                  refine ⟨fun W hW => ?_, ?_⟩
                  · first
                      | exact rfl
                      | exact ⟨rfl, rfl⟩
                      | (have e0 := f1 W hW; have e1 := f2 W hW; simp only [e0, e1, Result.andThen_ok]; done)
                      | (have e0 := f1 W hW; have e1 := f2 W hW; simp only [e0, e1, Result.andThen_ok]; first | exact ⟨trivial, rfl⟩ | exact rfl | exact ⟨rfl, rfl⟩)
                      | (skip)
                  go_big_quiet_on)))
        refine wpQuiet_nil ?_
        show wpLexE _ _ _ _ _ _ _ _ _
        refine wpLexE_eff (by kernel_rfl) rfl ?_
        go_wp2_with fail
        refine (HFA.out x.fill _).mono ?_
        rintro e w4 ⟨rfl, hb4⟩
        have HD4 := Lib.hid ((HDK.out.below ((Below.refl _ _).drew)).below hb4)
        have HSW4 := Lib.hid (HSS.out _ _ hSw hb4)
        clear hb4 hSw
        go_wp2_with fail
        refine ⟨rfl, HSW4.out, ?_⟩
        show wpList _ _ _ _ _ _
        go_wp2_with fail
        refine (write_s HD4.out HKN.out x.at_ (fullL x.fill) (by rw [fullL_len]; decide)).mono ?_
        rintro e w5 ⟨rfl, hd5⟩
        have HD5 := Lib.hid hd5
        clear hd5 f1 f2
        go_wp2_with fail
        go_roundw
        case rel => exact ⟨k + 1, _, HLT.out, by go_num, HD5.out, HW.out⟩
        case measure => have := HLT.out; simp [intOf]; omega
      · obtain rfl : k = l.length := Nat.le_antisymm hk (Nat.le_of_not_lt hlt)
        have hdc : decide (l.length < l.length) = false := decide_eq_false (Nat.lt_irrefl _)
        have HST := Lib.hid (HAL.out.fl (k := s))
        have HFE := Lib.hid HAL.out.flE
        clear hlt hk
        go_wp2_with fail
        refine (flush_s HDK.out).mono ?_
        rintro e w3 ⟨rfl, hd3⟩
        rw [HFE.out]
        have HD3 := Lib.hid hd3
        clear hd3
        go_wp2_with fail
        refine (read_s HD3.out s).mono ?_
        rintro e w3' ⟨rfl, rfl⟩
        rw [HST.out.rd HSN.out, HST.out.op.may HSN.out]
        generalize d.fl.medAt s = was at *
        go_wp2_with fail
        go_loopw [19] (fun i wr => ∃ (k : Nat) (d : DevD), k ≤ m.length ∧ i = .int .i64 k ∧ DevS w wr bd d (l.length + k) ∧ d.Stands n s was) (fun i _ => m.length - (intOf i).toNat)
        case atStart => exact ⟨0, _, Nat.zero_le _, rfl, HD3.out, HST.out⟩
        case round =>
          obtain ⟨k, d, hk, rfl, hd, hal⟩ := hrel
          have HDK := Lib.hid hd
          have HAL := Lib.hid hal
          clear hd hal
          by_cases hlt : k < m.length
          · have hneed : ∃ b o, A2 = some ⟨b, o, none⟩ := by
              obtain ⟨A', c', he, _, hcell⟩ := HARG2.out
              cases he
              obtain ⟨b, o, h, _⟩ := hcell (Nat.lt_of_le_of_lt (Nat.zero_le _) hlt)
              exact ⟨b, o, h⟩
            obtain ⟨b, o, rfl⟩ := hneed
            obtain ⟨x, hx⟩ : ∃ x, m[k]? = some x := ⟨_, List.getElem?_eq_getElem hlt⟩
            obtain ⟨x0, x1, x2, x3, hx0, hx1, hx2⟩ := HARG2.out.get hx HDK.out.base
            have HLT := Lib.hid hlt
            have hdc : decide (k < m.length) = true := decide_eq_true hlt
            have hkN : l.length + k ≤ 1000000 := Nat.le_trans (Nat.add_le_add hl80 (Nat.le_trans hk hm80)) (by decide)
            have HKN := Lib.hid hkN
            clear hx hx2 hx1 hx0 x0 x2 hkN
            by_cases hxk : x.at_ = (s : Int)
            · have hq : (x.at_ != (s : Int)) = false := by rw [bne_eq_false_iff_eq]; exact hxk
              clear hxk
              go_wp2_with fail
              go_roundw
              case rel => exact ⟨k + 1, _, HLT.out, by go_num, HDK.out.mono (by omega), HAL.out⟩
              case measure => have := HLT.out; simp [intOf]; omega
            · have hq : (x.at_ != (s : Int)) = true := by rw [bne_iff_ne]; exact hxk
              have HW := Lib.hid (HAL.out.wr hxk (fullL x.fill))
              clear hxk
              obtain ⟨S1, hS1⟩ : ∃ S1 : World → Prop, S1 = fun W => W.cell? ⟨b, o + k * 5 + 1, none⟩ = some (.int .i64 x.at_) ∧ W.cell? ⟨b, o + k * 5 + 3, none⟩ = some (.int .u8 x.fill.toNat) := ⟨_, rfl⟩
              have hSw : S1 wr.drew := by rw [hS1]; exact ⟨x1, x3⟩
              repeat' (first
                | go_values
                | go_skip
                | go_guarded
                | ((fail_if_success (with_reducible refine drawn_mark ?_))
                   first
                     | go_step
                     | go_upon
                     | go_back
                     | (simp only [Int.not_lt, Int.not_le] at *; go_simp)
                     | (go_values <;> (try go_simp))
                     | (go_ite <;> go_prune <;> (try go_simp))
                     | (split <;> (first | (rename_i hx; exact (hx _ rfl).elim) | go_prune))))
              have f1 : ∀ W, S1 W → W.cell? ⟨b, o + k * 5 + 1, none⟩ = some (.int .i64 x.at_) := fun W hW => by rw [hS1] at hW; exact hW.1
              have f2 : ∀ W, S1 W → W.cell? ⟨b, o + k * 5 + 3, none⟩ = some (.int .u8 x.fill.toNat) := fun W hW => by rw [hS1] at hW; exact hW.2
              have hS2 : ∀ W W', S1 W → Below W.heap.size W W' → S1 W' := fun W W' hW hb => by
                rw [hS1] at hW ⊢
                exact ⟨(hb.cell (p := ⟨b, o + k * 5 + 1, none⟩) (World.block_lt_of_cell? W _ hW.1)).trans hW.1, (hb.cell (p := ⟨b, o + k * 5 + 3, none⟩) (World.block_lt_of_cell? W _ hW.2)).trans hW.2⟩
              have HSS := Lib.hid hS2
              have HS1 := Lib.hid hS1
              clear hS1 hS2
              refine wp_region_eff S1 [11] 12 (by kernel_rfl) (by kernel_rfl) (by kernel_rfl) hSw ?_
              simp only [List.take_succ_cons, List.take_zero, List.drop_succ_cons, List.drop_zero]
              refine wpLexE_take 11 (by kernel_rfl) (by kernel_rfl) ?_
              simp only [List.take_succ_cons, List.take_zero, List.drop_succ_cons, List.drop_zero]
              repeat (first
                | go_big_quiet_skip
                | (go_big_quiet_want
                   go_big_quiet_op
                   first
                     | go_big_quiet_on
                     | (apply Exists.intro
                        refine ⟨fun W hW => ?_, ?_⟩
                        · first
                            | exact rfl
                            | exact ⟨rfl, rfl⟩
                            | (have e0 := f1 W hW; have e1 := f2 W hW; simp only [e0, e1, Result.andThen_ok]; done)
                            | (have e0 := f1 W hW; have e1 := f2 W hW; simp only [e0, e1, Result.andThen_ok]; first | exact ⟨trivial, rfl⟩ | exact rfl | exact ⟨rfl, rfl⟩)
                            | (skip)
                        go_big_quiet_on)))
              refine wpQuiet_nil ?_
              show wpLexE _ _ _ _ _ _ _ _ _
              refine wpLexE_eff (by kernel_rfl) rfl ?_
              go_wp2_with fail
              refine (HFA.out x.fill _).mono ?_
              rintro e w4 ⟨rfl, hb4⟩
              have HD4 := Lib.hid ((HDK.out.below ((Below.refl _ _).drew)).below hb4)
              have HSW4 := Lib.hid (HSS.out _ _ hSw hb4)
              clear hb4 hSw
              go_wp2_with fail
              refine ⟨rfl, HSW4.out, ?_⟩
              show wpList _ _ _ _ _ _
              go_wp2_with fail
              refine (write_s HD4.out HKN.out x.at_ (fullL x.fill) (by rw [fullL_len]; decide)).mono ?_
              rintro e w5 ⟨rfl, hd5⟩
              have HD5 := Lib.hid hd5
              clear hd5 f1 f2
              go_wp2_with fail
              go_roundw
              case rel => exact ⟨k + 1, _, HLT.out, by go_num, HD5.out, HW.out⟩
              case measure => have := HLT.out; simp [intOf]; omega
          · obtain rfl : k = m.length := Nat.le_antisymm hk (Nat.le_of_not_lt hlt)
            have hdc : decide (m.length < m.length) = false := decide_eq_false (Nat.lt_irrefl _)
            have HCR := Lib.hid (HAL.out.crash HSN.out keep)
            have HKA := Lib.hid (HARG3.out.keep (HDK.out.base) (Nat.le_trans (Nat.le_of_not_lt hk80) (by decide)))
            have hkN : l.length + m.length ≤ 1000000 := Nat.le_trans (Nat.add_le_add hl80 hm80) (by decide)
            have HKN := Lib.hid hkN
            clear hlt hk hkN
            go_wp2_with fail
            refine (crash_s HDK.out HKN.out HKA.out).mono ?_
            rintro e w4 ⟨rfl, hd4⟩
            have HD4 := Lib.hid hd4
            clear hd4
            go_wp2_with fail
            refine (read_s HD4.out s).mono ?_
            rintro e w4' ⟨rfl, rfl⟩
            rw [HCR.out.1.rd HSN.out, HCR.out.1.op.may HSN.out]
            go_wp2_with fail
            refine (cached_s HD4.out).mono ?_
            rintro e w5 ⟨A6, c6, rfl, hb5⟩
            rw [HCR.out.2]
            have HD5 := Lib.hid (HD4.out.below hb5)
            clear hb5
            go_wp2_with fail
            go_ret
            exact ⟨rfl, HD5.out.base⟩
theorem devKeeps_n (n k : Nat) (v1 v2 v3 : Value) (l m : List ActD) (keep : List Int) (w : World) (hl : ActArg w v1 l) (hm : ActArg w v2 m) (hk : IntArg w v3 keep) (h1 : n ≤ 255) (h2 : k ≤ 255) :
    Calls Try.prog 3 #[.int .u8 n, v1, v2, v3, .int .u8 k] w fun e w' => e = .returned (.bool true) ∧ Below w.heap.size w w' := by
  obtain ⟨u, rfl⟩ := u8_of h1
  obtain ⟨u2, rfl⟩ := u8_of h2
  exact devKeeps_any u u2 v1 v2 v3 l m keep w hl hm hk
end Go.Proofs.Ytkaijdnaheikeaa
