/-
  The walk of DevAlone.
-/
import Derived.Test.YtkaijdnaheikeaaDevFreshW
namespace Go.Proofs.Ytkaijdnaheikeaa
set_option linter.unusedVariables false
set_option linter.unusedSimpArgs false
open Go.RowKit

namespace DevD
/-- Sector k reads as s; nothing is lost. -/
structure Alone (d : DevD) (k : Nat) (s : List UInt8) : Prop where
  lost : d.lost = false
  len : d.med.length = 12
  fuse : d.fuse = -1
  now : d.now k = s
theorem Alone.may {d : DevD} {k : Nat} {s : List UInt8} (h : d.Alone k s) (hk : k < 12) : d.mayE k = 0 := by
  unfold mayE
  rw [h.lost, h.len]
  simp; omega
theorem Alone.rd {d : DevD} {k : Nat} {s : List UInt8} (h : d.Alone k s) (hk : k < 12) : d.rdS k = s := by
  unfold rdS
  rw [if_pos (h.may hk)]
  exact h.now
theorem blank_alone {k : Nat} (hk : k < 12) (b : UInt8) : (DevD.blank 12 0).wrE k (fullL b) = 0 ∧ ((DevD.blank 12 0).wr k (fullL b)).Alone k (fullL b) := by
  have h1 := (blank_wr (n := 12) (b := 0) (c := b) hk).1
  refine ⟨h1, ?_⟩
  unfold DevD.wr
  rw [if_pos h1]
  refine ⟨rfl, by simp [burn, put, blank], rfl, ?_⟩
  show lastOr (((DevD.blank 12 0).burn.put (k : Int).toNat (fullL b)).cac k) _ = fullL b
  have : (k : Int).toNat = k := rfl
  rw [this]
  simp [put, burn, lastOr]
theorem Alone.wr {d : DevD} {k : Nat} {s : List UInt8} (h : d.Alone k s) {a : Int} (ha : a ≠ k) (t : List UInt8) : (d.wr a t).Alone k s := by
  unfold DevD.wr
  split
  · rename_i h0
    have hm := mayE_ok (wrE_ok h0).1
    refine ⟨h.lost, h.len, by show max (d.fuse - 1) (-1) = -1; rw [h.fuse]; rfl, ?_⟩
    have hne : k ≠ a.toNat := by omega
    show lastOr (if k = a.toNat then _ else d.cac k) (d.medAt k) = s
    rw [if_neg hne]; exact h.now
  · exact h
theorem Alone.fl {d : DevD} {k : Nat} {s : List UInt8} (h : d.Alone k s) (hk : k < 12) : d.fl.Alone k s := by
  unfold DevD.fl
  split
  · have hkl : k < d.med.length := by rw [h.len]; exact hk
    refine ⟨h.lost, by show (List.mapIdx _ d.med).length = 12; rw [List.length_mapIdx]; exact h.len, by show max (d.fuse - 1) (-1) = -1; rw [h.fuse]; rfl, ?_⟩
    have hn := h.now
    unfold DevD.now medAt at hn ⊢
    show lastOr [] (List.getD (List.mapIdx _ d.med) k []) = s
    rw [lastOr_nil, List.getD_eq_getElem?_getD, List.getElem?_mapIdx, List.getElem?_eq_getElem hkl]
    rw [List.getD_eq_getElem?_getD, List.getElem?_eq_getElem hkl] at hn
    exact hn
  · exact h
theorem Alone.spoil {d : DevD} {k : Nat} {s : List UInt8} (h : d.Alone k s) {a : Int} (ha : a ≠ k) (p : Int) (b : UInt8) : (d.spoil a p b).Alone k s := by
  unfold DevD.spoil
  split
  · rename_i h0
    have hm : d.mayE a = 0 := by simp only [spoilOk, Bool.and_eq_true, decide_eq_true_eq] at h0; exact h0.1
    have hm := mayE_ok hm
    have hne : a.toNat ≠ k := by omega
    generalize flip (d.now a.toNat) (spot p) b = t
    unfold spoiled
    split
    · refine ⟨h.lost, by show (d.med.set _ _).length = 12; rw [List.length_set]; exact h.len, h.fuse, ?_⟩
      have hn := h.now
      unfold DevD.now medAt at hn ⊢
      show lastOr (d.cac k) ((d.med.set a.toNat t).getD k []) = s
      rw [List.getD_eq_getElem?_getD, List.getElem?_set_ne hne, ← List.getD_eq_getElem?_getD]
      exact hn
    · refine ⟨h.lost, h.len, h.fuse, ?_⟩
      show lastOr (if k = a.toNat then _ else d.cac k) (d.medAt k) = s
      rw [if_neg (Ne.symm hne)]; exact h.now
  · exact h
end DevD

set_option maxRecDepth 20000 in
set_option maxHeartbeats 2000000 in
theorem devAlone_any (v : Value) (l : List ActD) (at_ fill : UInt8) (w : World) (hl : ActArg w v l) : Calls Try.prog 6 #[v, .int .u8 at_.toNat, .int .u8 fill.toNat] w fun e w' => e = .returned (.bool true) ∧ Below w.heap.size w w' := by
  have HA := Lib.hid (fun W => awake_any W)
  have HFA := Lib.hid (fun b W => rfull_any b W)
  have HARG := Lib.hid hl
  have HFEW := Lib.hid (fun W (h : Below w.heap.size w W) => few_any v l W (hl.below h))
  obtain ⟨A, c, rfl, hlm, _⟩ := hl
  go_enter Try.func6, Try.ntmps6
  go_wp2_with fail
  refine (HA.out _).mono ?_
  rintro e w1 ⟨rfl, hb1⟩
  have HB1 := Lib.hid hb1
  clear hb1
  go_wp2_with fail
  refine (HFEW.out _ HB1.out).mono ?_
  rintro e w1' ⟨fb, rfl, himp, rfl⟩
  cases fb with
  | false =>
    go_wp2_with fail
    refine (HA.out _).mono ?_
    rintro e w2 ⟨rfl, hb2⟩
    have HB2 := Lib.hid (keep_below hb2 HB1.out)
    clear hb2
    go_wp2_with fail
    go_ret
    exact ⟨rfl, HB2.out⟩
  | true =>
    have hl80 := himp rfl
    clear himp
    obtain ⟨s, hs⟩ : ∃ s, at_.toNat % 12 = s := ⟨_, rfl⟩
    have t12 : (at_.toNat : Int).tmod 12 = (s : Int) := mod_eq 12 hs
    have tw : wrap64 (at_.toNat : Int) = at_.toNat := IntWalk.wrap64_in _ (by have := at_.toNat_lt; omega)
    have hs12 : s < 12 := by rw [← hs]; exact Nat.mod_lt _ (by omega)
    have HBA := Lib.hid (DevD.blank_alone hs12 fill)
    have HS12 := Lib.hid hs12
    clear hs
    go_wp2_with fail
    refine (new_s (w0 := w) 12 (by omega) (by omega) HB1.out).mono ?_
    rintro e w2 ⟨bd, rfl, hd⟩
    have HD := Lib.hid hd
    clear hd
    go_wp2_with fail
    refine (HFA.out fill _).mono ?_
    rintro e w3 ⟨rfl, hb3⟩
    have HD3 := Lib.hid (HD.out.below hb3)
    clear hb3
    go_wp2_with fail
    refine (write_s HD3.out (by omega) s (fullL fill) (by rw [fullL_len]; omega)).mono ?_
    rintro e w4 ⟨rfl, hd4⟩
    rw [HBA.out.1]
    have HD4 := Lib.hid hd4
    clear hd4
    go_wp2_with fail
    go_loopw [10] (fun i wr => ∃ (k : Nat) (d : DevD), k ≤ l.length ∧ i = .int .i64 k ∧ DevS w wr bd d (k + 1) ∧ d.Alone s (fullL fill)) (fun i _ => l.length - (intOf i).toNat)
    case atStart => exact ⟨0, _, Nat.zero_le _, rfl, HD4.out, HBA.out.2⟩
    case round =>
      obtain ⟨k, d, hk, rfl, hd, hal⟩ := hrel
      have HDK := Lib.hid hd
      have HAL := Lib.hid hal
      clear hd hal
      by_cases hlt : k < l.length
      · have hneed : ∃ b o, A = some ⟨b, o, none⟩ := by
          obtain ⟨A', c', he, _, hcell⟩ := HARG.out
          cases he
          obtain ⟨b, o, h, _⟩ := hcell (by omega)
          exact ⟨b, o, h⟩
        obtain ⟨b, o, rfl⟩ := hneed
        obtain ⟨x, hx⟩ : ∃ x, l[k]? = some x := ⟨_, List.getElem?_eq_getElem hlt⟩
        obtain ⟨x0, x1, x2, x3, hx0, hx1, hx2⟩ := HARG.out.get hx HDK.out.base
        have HLT := Lib.hid hlt
        have hdc : decide (k < l.length) = true := decide_eq_true hlt
        have HX := Lib.hid hx
        have HX2 := Lib.hid hx2
        clear hx hx2 hx1
        by_cases hxk : x.at_ = (s : Int)
        · have hq : (x.at_ == (s : Int)) = true := by rw [hxk]; exact beq_self_eq_true _
          clear hxk
          go_wp2_with fail
          go_roundw
          case rel => exact ⟨k + 1, _, HLT.out, by go_num, HDK.out.mono (Nat.le_succ _), HAL.out⟩
          case measure => have := HLT.out; simp [intOf]; omega
        · have hq : (x.at_ == (s : Int)) = false := by rw [beq_eq_false_iff_ne]; exact hxk
          obtain ⟨q, hqd⟩ : ∃ q, x.do_ % 3 = q := ⟨_, rfl⟩
          have t3 : (x.do_ : Int).tmod 3 = (q : Int) := mod_eq 3 hqd
          have HNK := Lib.hid hxk
          clear hqd hxk
          obtain ⟨S1, hS1⟩ : ∃ S1 : World → Prop, S1 = fun W => W.cell? ⟨b, o + k * 5 + 1, none⟩ = some (.int .i64 x.at_) ∧ W.cell? ⟨b, o + k * 5 + 3, none⟩ = some (.int .u8 x.fill.toNat) := ⟨_, rfl⟩
          have hSw : S1 wr.drew := by rw [hS1]; exact ⟨x1, x3⟩
          by_cases q0 : q = 0
          · subst q0
            have HW := Lib.hid (HAL.out.wr HNK.out (fullL x.fill))
            repeat' (first
              | go_values
              | go_skip
              | go_guarded
              | ((fail_if_success (with_reducible refine drawn_mark ?_))
                 first
                   | go_step
                   | go_upon
                   | go_back
                   | (simp only [Int.not_lt, Int.not_le] at *; go_simp)
                   | (go_values <;> (try go_simp))
                   | (go_ite <;> go_prune <;> (try go_simp))
                   | (split <;> (first | (rename_i hx; exact (hx _ rfl).elim) | go_prune))))
            have f1 : ∀ W, S1 W → W.cell? ⟨b, o + k * 5 + 1, none⟩ = some (.int .i64 x.at_) := fun W hW => by rw [hS1] at hW; exact hW.1
            have f2 : ∀ W, S1 W → W.cell? ⟨b, o + k * 5 + 3, none⟩ = some (.int .u8 x.fill.toNat) := fun W hW => by rw [hS1] at hW; exact hW.2
            have hS2 : ∀ W W', S1 W → Below W.heap.size W W' → S1 W' := fun W W' hW hb => by
              rw [hS1] at hW ⊢
              exact ⟨(hb.cell (p := ⟨b, o + k * 5 + 1, none⟩) (World.block_lt_of_cell? W _ hW.1)).trans hW.1, (hb.cell (p := ⟨b, o + k * 5 + 3, none⟩) (World.block_lt_of_cell? W _ hW.2)).trans hW.2⟩
            have HSS := Lib.hid hS2
            have HS1 := Lib.hid hS1
            clear hS1 hS2
            refine wp_region_eff S1 [11] 12 (by kernel_rfl) (by kernel_rfl) (by kernel_rfl) hSw ?_
            simp only [List.take_succ_cons, List.take_zero, List.drop_succ_cons, List.drop_zero]
            refine wpLexE_take 11 (by kernel_rfl) (by kernel_rfl) ?_
            simp only [List.take_succ_cons, List.take_zero, List.drop_succ_cons, List.drop_zero]
            repeat (first
              | go_big_quiet_skip
              | (go_big_quiet_want
                 go_big_quiet_op
                 first
                   | go_big_quiet_on
                   | (apply Exists.intro
                      refine ⟨fun W hW => ?_, ?_⟩
                      · first
                          | exact rfl
                          | exact ⟨rfl, rfl⟩
                          | (have e0 := f1 W hW; have e1 := f2 W hW; simp only [e0, e1, Result.andThen_ok]; done)
                          | (have e0 := f1 W hW; have e1 := f2 W hW; simp only [e0, e1, Result.andThen_ok]; first | exact ⟨trivial, rfl⟩ | exact rfl | exact ⟨rfl, rfl⟩)
                          | (skip)
                      go_big_quiet_on)))
            refine wpQuiet_nil ?_
            show wpLexE _ _ _ _ _ _ _ _ _
            refine wpLexE_eff (by kernel_rfl) rfl ?_
            go_wp2_with fail
            refine (HFA.out x.fill _).mono ?_
            rintro e w4 ⟨rfl, hb4⟩
            have HD4 := Lib.hid ((HDK.out.below ((Below.refl _ _).drew)).below hb4)
            have HSW4 := Lib.hid (HSS.out _ _ hSw hb4)
            clear hb4 hSw
            go_wp2_with fail
            refine ⟨rfl, HSW4.out, ?_⟩
            show wpList _ _ _ _ _ _
            go_wp2_with fail
            refine (write_s HD4.out (by omega) x.at_ (fullL x.fill) (by rw [fullL_len]; omega)).mono ?_
            rintro e w5 ⟨rfl, hd5⟩
            have HD5 := Lib.hid hd5
            clear hd5 f1 f2
            go_wp2_with fail
            refine (read_s HD5.out s).mono ?_
            rintro e w8 ⟨rfl, rfl⟩
            rw [HW.out.may HS12.out, HW.out.rd HS12.out]
            go_wp2_with fail
            refine (HFA.out fill _).mono ?_
            rintro e w9 ⟨rfl, hb9⟩
            have HD9 := Lib.hid (HD5.out.below hb9)
            clear hb9
            go_wp2_with fail
            go_roundw
            case rel => exact ⟨k + 1, _, HLT.out, by go_num, HD9.out.mono (Nat.le_refl _), HW.out⟩
            case measure => have := HLT.out; simp [intOf]; omega
          · have hq0 : ((q : Int) == 0) = false := by rw [beq_eq_false_iff_ne]; omega
            by_cases q1 : q = 1
            · subst q1
              have HW := Lib.hid (HAL.out.spoil HNK.out x.n x.fill)
              have HSP := Lib.hid (spoil_s (HDK.out.below ((Below.refl _ _).drew)) (by omega) x.at_ x.n HX2.out x.fill)
              clear hS1 hSw
              repeat' (first
                | go_values
                | go_skip
                | go_guarded
                | ((fail_if_success (with_reducible refine drawn_mark ?_))
                   first
                     | go_step
                     | go_upon
                     | go_back
                     | (simp only [Int.not_lt, Int.not_le] at *; go_simp)
                     | (go_values <;> (try go_simp))
                     | (go_ite <;> go_prune <;> (try go_simp))
                     | (split <;> (first | (rename_i hx; exact (hx _ rfl).elim) | go_prune))))
              refine wp_region_still_tail 16 (by kernel_rfl) (by kernel_rfl) ?_
              simp only [List.take_succ_cons, List.take_zero, List.drop_succ_cons, List.drop_zero]
              repeat still_step
              try refine wpStill_nil ?_
              change wpList _ _ _ _ _ wr.drew
              go_wp2_with fail
              refine HSP.out.mono ?_
              rintro e w5 ⟨rfl, hd5⟩
              have HD5 := Lib.hid hd5
              clear hd5
              go_wp2_with fail
              refine (read_s HD5.out s).mono ?_
              rintro e w8 ⟨rfl, rfl⟩
              rw [HW.out.may HS12.out, HW.out.rd HS12.out]
              go_wp2_with fail
              refine (HFA.out fill _).mono ?_
              rintro e w9 ⟨rfl, hb9⟩
              have HD9 := Lib.hid (HD5.out.below hb9)
              clear hb9
              go_wp2_with fail
              go_roundw
              case rel => exact ⟨k + 1, _, HLT.out, by go_num, HD9.out.mono (Nat.le_succ _), HW.out⟩
              case measure => have := HLT.out; simp [intOf]; omega
            · have hq1 : ((q : Int) == 1) = false := by rw [beq_eq_false_iff_ne]; omega
              have HW := Lib.hid (HAL.out.fl HS12.out)
              clear hS1 hSw
              go_wp2_with fail
              refine (flush_s HDK.out).mono ?_
              rintro e w5 ⟨rfl, hd5⟩
              have HD5 := Lib.hid hd5
              clear hd5
              go_wp2_with fail
              refine (read_s HD5.out s).mono ?_
              rintro e w8 ⟨rfl, rfl⟩
              rw [HW.out.may HS12.out, HW.out.rd HS12.out]
              go_wp2_with fail
              refine (HFA.out fill _).mono ?_
              rintro e w9 ⟨rfl, hb9⟩
              have HD9 := Lib.hid (HD5.out.below hb9)
              clear hb9
              go_wp2_with fail
              go_roundw
              case rel => exact ⟨k + 1, _, HLT.out, by go_num, HD9.out.mono (Nat.le_succ _), HW.out⟩
              case measure => have := HLT.out; simp [intOf]; omega
      · have hdc : decide (k < l.length) = false := decide_eq_false hlt
        go_wp2_with fail
        go_ret
        exact ⟨rfl, HDK.out.base⟩
theorem devAlone_n (v : Value) (l : List ActD) (n m : Nat) (w : World) (hl : ActArg w v l) (hn : n ≤ 255) (hm : m ≤ 255) : Calls Try.prog 6 #[v, .int .u8 n, .int .u8 m] w fun e w' => e = .returned (.bool true) ∧ Below w.heap.size w w' := by
  obtain ⟨u, rfl⟩ := u8_of hn
  obtain ⟨u2, rfl⟩ := u8_of hm
  exact devAlone_any v l u u2 w hl
end Go.Proofs.Ytkaijdnaheikeaa
