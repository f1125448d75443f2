/-
  The walk of MasterApart.
-/
import Derived.Test.YtidmbibpoldgcaaMst7
import Derived.Test.YtidmbibpoldgcaaEffG
namespace Go.Proofs.Ytidmbibpoldgcaa
set_option linter.unusedVariables false
set_option linter.unusedSimpArgs false
open Go.RowKit

/-- A row of one's own, whatever it holds. -/
def Spare (w : World) (B : Nat) (t : TypeId) (sz n : Nat) (v : Value) : Prop :=
  ∃ A c, v = .slice A n c ∧ (0 < n → ∃ g cur, A = some ⟨g, 0, none⟩ ∧ Blk w g t cur ∧ n * sz ≤ cur.size ∧ B ≤ g)
theorem wrap_next (n : Int) (h : -9223372036854775808 ≤ n ∧ n ≤ 9223372036854775807) : wrap64 (n + 1) ≠ n := by
  by_cases e : n = 9223372036854775807
  · subst e
    have : wrap64 (9223372036854775807 + 1) = -9223372036854775808 := by kernel_rfl
    rw [this]; omega
  · rw [IntWalk.wrap64_in _ (by omega)]; omega
theorem spare_own {w : World} {base sz n : Nat} {t : TypeId} {v : Value} {cs : List Value} (h : w.ownsRow base t sz v n cs) : Spare w base t sz n v := by
  rcases h.2 with ⟨rfl, h0⟩ | ⟨g, cap, cur, rfl, h1, h2, h3, h4, h5, h6⟩
  · subst h0
    exact ⟨none, 0, rfl, fun h => absurd h (by omega)⟩
  · exact ⟨_, _, rfl, fun _ => ⟨g, cur, rfl, h2, by rw [h5]; exact Nat.mul_le_mul_right _ h3, h1⟩⟩
theorem Spare.same {w w' : World} {B sz n : Nat} {t : TypeId} {v : Value} (h : Spare w B t sz n v) (hb : ∀ g, v.ownBlock = some g → B ≤ g → w'.heap[g]? = w.heap[g]?) : Spare w' B t sz n v := by
  obtain ⟨A, c, rfl, h2⟩ := h
  refine ⟨A, c, rfl, fun hp => ?_⟩
  obtain ⟨g, cur, rfl, e2, e3, e4⟩ := h2 hp
  exact ⟨g, cur, rfl, (hb g rfl e4).trans e2, e3, e4⟩

set_option maxRecDepth 100000 in
set_option maxHeartbeats 1000000 in
theorem masterApart_any (s : StA) (sv tv : Value) (id fr : Int) (w : World) (h : StIn w s sv tv) (hn : -9223372036854775808 ≤ s.n ∧ s.n ≤ 9223372036854775807) :
    Calls Try.prog 3 #[.agg (stC s sv tv), .int .i64 id, .int .i64 fr] w fun e w' => e = .returned (.bool true) ∧ Below w.heap.size w w' := by
  obtain ⟨A1, c1, rfl⟩ := h.snaps.form
  obtain ⟨A2, c2, rfl⟩ := h.stale.form
  have H := Lib.hid h
  have hi35 : (Try.prog.info? 35).map (·.size) = some (stC s (.slice A1 s.snaps.length c1) (.slice A2 s.stale.length c2)).size := by rw [stC_size]; kernel_rfl
  obtain ⟨cA, hcA⟩ : ∃ x, x = stC s (.slice A1 s.snaps.length c1) (.slice A2 s.stale.length c2) := ⟨_, rfl⟩
  rw [← hcA] at hi35 ⊢
  have HCA := Lib.hid hcA
  obtain ⟨w1, hw1⟩ : ∃ x, w.alloc (.cells cA 35) = x := ⟨_, rfl⟩
  have hb1 : Blk w1 w.heap.size 35 cA := by rw [← hw1]; exact Blk.new _ _ _
  have HK1 := Lib.hid hb1
  have HD1 : Hid (Below w.heap.size w w1) := Lib.hid (by rw [← hw1]; exact keep_alloc (Below.refl _ _) _)
  have HN := Lib.hid hn
  clear h hcA hb1 hn
  go_enter Try.func3, Try.ntmps3
  go_wp2_with fail
  refine (mawake_any _).mono ?_
  rintro e w2 ⟨rfl, hb2⟩
  have K2 := HK1.out.below hb2 HK1.out.lt
  have HK2 := Lib.hid K2
  have HD2 := Lib.hid (keep_below hb2 HD1.out)
  clear hb2
  go_wp2_with ((with_reducible refine wpList_load_want ?qw 35 (.tmp 3) ?q2 w.heap.size ?q3 35 cA _ K2 Try.underlying35 rfl hi35 ?_); (case q2 => rfl); (case q3 => rfl); (case qw => rfl))
  have hst2 : StIn w2 s (.slice A1 s.snaps.length c1) (.slice A2 s.stale.length c2) := H.out.below HD2.out
  have hfew := mfew_any s _ _ w2 hst2
  rw [← HCA.out] at hfew
  have HF := Lib.hid hfew
  clear hfew hst2 K2
  refine HF.out.mono ?_
  rintro e w3 ⟨rfl, hb3⟩
  have K3 := HK2.out.below hb3 HK2.out.lt
  have HK3 := Lib.hid K3
  have HD3 := Lib.hid (keep_below hb3 HD2.out)
  clear hb3
  by_cases hf : ¬ (s.snaps.length ≤ 30 ∧ s.stale.length ≤ 60)
  · rw [decide_eq_false hf]
    clear hf
    go_wp2_with fail
    refine (mawake_any _).mono ?_
    rintro e w4 ⟨rfl, hb4⟩
    have HD4 := Lib.hid (keep_below hb4 HD3.out)
    clear hb4
    go_wp2_with fail
    go_ret
    exact ⟨rfl, HD4.out⟩
  replace hf := Classical.not_not.1 hf
  rw [decide_eq_true hf]
  obtain ⟨f1, f2⟩ := hf
  go_wp2_with ((with_reducible refine wpList_load_want ?qw 35 (.tmp 3) ?q2 w.heap.size ?q3 35 cA _ K3 Try.underlying35 rfl hi35 ?_); (case q2 => rfl); (case q3 => rfl); (case qw => rfl))
  have hof := mof_any s _ _ w3 (H.out.below HD3.out) f1 f2
  rw [← HCA.out] at hof
  refine hof.mono ?_
  rintro e w4 ⟨sx, tx, rfl, hox, hb4⟩
  clear hof K3
  obtain ⟨A3, c3, rfl⟩ := hox.st.snaps.form
  obtain ⟨A4, c4, rfl⟩ := hox.st.stale.form
  obtain ⟨cX, hcX⟩ : ∃ x, x = stC s (.slice A3 s.snaps.length c3) (.slice A4 s.stale.length c4) := ⟨_, rfl⟩
  rw [← hcX]
  have HOX := Lib.hid hox
  have HCX := Lib.hid hcX
  have HK4 := Lib.hid (HK3.out.below hb4 HK3.out.lt)
  have HD4 := Lib.hid (keep_below hb4 HD3.out)
  obtain ⟨w5, hw5⟩ : ∃ x, (w4.alloc (.cells #[.int .i64 0, .int .i64 0, .int .i64 0, .int .i64 0, .int .i64 0, .bool false, .int .i64 0, .int .i64 0, .int .i64 0, .int .u64 0, .int .u64 0, .int .u64 0, .int .u64 0, .slice none 0 0, .int .i64 0, .int .i64 0, .int .i64 0, .int .i64 0, .int .i64 0, .int .i64 0, .int .i64 0, .int .i64 0, .int .i64 0, .slice none 0 0] 43)).setCells w4.heap.size 0 cX.toList = x := ⟨_, rfl⟩
  have hth5 : (w4.alloc (.cells #[.int .i64 0, .int .i64 0, .int .i64 0, .int .i64 0, .int .i64 0, .bool false, .int .i64 0, .int .i64 0, .int .i64 0, .int .u64 0, .int .u64 0, .int .u64 0, .int .u64 0, .slice none 0 0, .int .i64 0, .int .i64 0, .int .i64 0, .int .i64 0, .int .i64 0, .int .i64 0, .int .i64 0, .int .i64 0, .int .i64 0, .slice none 0 0] 43)).there w4.heap.size 0 cX.size := (Blk.new w4 _ _).there (by rw [hcX, stC_size]; exact Nat.le_refl 24)
  have hi43 : (Try.prog.info? 43).map (·.size) = some cX.size := by rw [hcX, stC_size]; kernel_rfl
  have h1x : cX.all (·.oneCell') = true := by rw [hcX]; exact stC_one s A3 A4 _ _ _ _
  have K5 : Blk w5 w4.heap.size 43 cX := by rw [← hw5]; exact (Blk.new w4 _ _).putAll cX (by rw [hcX]; rfl)
  have D5 : Below w4.heap.size w4 w5 := by rw [← hw5]; exact below_sets _ _ (keep_alloc (Below.refl _ _) _) (Nat.le_refl _)
  have HK5 := Lib.hid K5
  have HD5 := Lib.hid D5
  clear hcX hox hb4 D5
  go_wp2_with (first
    | ((with_reducible refine wpList_store_mid ?a1 43 (.tmp 7) (.tmp 20) ?a2 w4.heap.size 0 cX ?a3 ?a4 hth5 hi43 h1x ?_); (case a1 => rfl); (case a2 => rfl); (case a3 => rfl); (case a4 => rfl); (rw [hw5]))
    | ((with_reducible refine wpList_load_want ?qw 43 (.tmp 7) ?q2 w4.heap.size ?q3 43 cX _ K5 Try.underlying43 rfl hi43 ?_); (case q2 => rfl); (case q3 => rfl); (case qw => rfl)))
  have HSX : Hid (StIn w5 s (.slice A3 s.snaps.length c3) (.slice A4 s.stale.length c4)) := Lib.hid (HOX.out.st.below HD5.out)
  have hcp := mcpy_any s _ _ w5 HSX.out f1 f2
  rw [← HCX.out] at hcp
  refine hcp.mono ?_
  rintro e w6 ⟨sc, tc, rfl, hoc, hb6⟩
  clear hcp K5 hth5 hw5 h1x
  obtain ⟨A5, c5, rfl⟩ := hoc.st.snaps.form
  obtain ⟨A6, c6, rfl⟩ := hoc.st.stale.form
  obtain ⟨cC, hcC⟩ : ∃ x, x = stC s (.slice A5 s.snaps.length c5) (.slice A6 s.stale.length c6) := ⟨_, rfl⟩
  rw [← hcC]
  have HOC := Lib.hid hoc
  have HCC := Lib.hid hcC
  have HB6 := Lib.hid hb6
  obtain ⟨w7, hw7⟩ : ∃ x, (w6.alloc (.cells #[.int .i64 0, .int .i64 0, .int .i64 0, .int .i64 0, .int .i64 0, .bool false, .int .i64 0, .int .i64 0, .int .i64 0, .int .u64 0, .int .u64 0, .int .u64 0, .int .u64 0, .slice none 0 0, .int .i64 0, .int .i64 0, .int .i64 0, .int .i64 0, .int .i64 0, .int .i64 0, .int .i64 0, .int .i64 0, .int .i64 0, .slice none 0 0] 43)).setCells w6.heap.size 0 cC.toList = x := ⟨_, rfl⟩
  have hth7 : (w6.alloc (.cells #[.int .i64 0, .int .i64 0, .int .i64 0, .int .i64 0, .int .i64 0, .bool false, .int .i64 0, .int .i64 0, .int .i64 0, .int .u64 0, .int .u64 0, .int .u64 0, .int .u64 0, .slice none 0 0, .int .i64 0, .int .i64 0, .int .i64 0, .int .i64 0, .int .i64 0, .int .i64 0, .int .i64 0, .int .i64 0, .int .i64 0, .slice none 0 0] 43)).there w6.heap.size 0 cC.size := (Blk.new w6 _ _).there (by rw [hcC, stC_size]; exact Nat.le_refl 24)
  have hi43c : (Try.prog.info? 43).map (·.size) = some cC.size := by rw [hcC, stC_size]; kernel_rfl
  have h1c : cC.all (·.oneCell') = true := by rw [hcC]; exact stC_one s A5 A6 _ _ _ _
  have K7 : Blk w7 w6.heap.size 43 cC := by rw [← hw7]; exact (Blk.new w6 _ _).putAll cC (by rw [hcC]; rfl)
  have D7 : Below w6.heap.size w6 w7 := by rw [← hw7]; exact below_sets _ _ (keep_alloc (Below.refl _ _) _) (Nat.le_refl _)
  rw [hcC] at K7
  have HK7 := Lib.hid K7
  have HD7 := Lib.hid D7
  clear hcC hoc hb6 D7 K7
  go_wp2_with ((with_reducible refine wpList_store_mid ?a1 43 (.tmp 8) (.tmp 22) ?a2 w6.heap.size 0 cC ?a3 ?a4 hth7 hi43c h1c ?_); (case a1 => rfl); (case a2 => rfl); (case a3 => rfl); (case a4 => rfl); (rw [hw7]))
  clear hw7 hth7 hi43c h1c
  have HS1 : Hid (Spare w7 w5.heap.size 47 15 s.snaps.length (.slice A5 s.snaps.length c5)) := Lib.hid ((spare_own HOC.out.snaps).same (fun g e _ => HD7.out.block g (HOC.out.snaps.lt g e).2))
  have HS2 : Hid (Spare w7 w5.heap.size 49 2 s.stale.length (.slice A6 s.stale.length c6)) := Lib.hid ((spare_own HOC.out.stale).same (fun g e _ => HD7.out.block g (HOC.out.stale.lt g e).2))
  have HAP := Lib.hid HOC.out.apart
  have hb67 := HB6.out.size
  have HB67 : Hid (Below w5.heap.size w5 w7) := Lib.hid (HB6.out.trans (HD7.out.mono hb67))
  have HW67 : Hid (w5.heap.size ≤ w6.heap.size) := Lib.hid hb67
  have HLT5 : Hid (∀ g, (Value.slice A5 s.snaps.length c5).ownBlock = some g → g < w6.heap.size) := Lib.hid fun g e => (HOC.out.snaps.lt g e).2
  have HLT6 : Hid (∀ g, (Value.slice A6 s.stale.length c6).ownBlock = some g → g < w6.heap.size) := Lib.hid fun g e => (HOC.out.stale.lt g e).2
  clear hb67 HOC
  go_loopw [9] (fun t wr => ∃ k : Nat, k ≤ s.snaps.length ∧ t = .int .i64 k ∧ Below w5.heap.size w5 wr ∧ Blk wr w6.heap.size 43 (stC s (.slice A5 s.snaps.length c5) (.slice A6 s.stale.length c6)) ∧
      Spare wr w5.heap.size 47 15 s.snaps.length (.slice A5 s.snaps.length c5) ∧ Spare wr w5.heap.size 49 2 s.stale.length (.slice A6 s.stale.length c6)) (fun t _ => s.snaps.length - (RowKit.intOf t).toNat)
  case atStart => exact ⟨0, Nat.zero_le _, rfl, HB67.out, HK7.out, HS1.out, HS2.out⟩
  case round =>
    clear HB67 HK7 HS1 HS2 HD7 HB6
    obtain ⟨k, hk, rfl, hbw, hkc, hs1, hs2⟩ := hrel
    have HBW := Lib.hid hbw
    have HKC := Lib.hid hkc
    have HS1 := Lib.hid hs1
    have HS2 := Lib.hid hs2
    have e13 : wr.cell? ⟨w6.heap.size, 13, none⟩ = some (.slice A5 s.snaps.length c5) := hkc.at_ rfl
    clear hbw hkc hs1 hs2
    by_cases hlt : k < s.snaps.length
    · obtain ⟨A', c', he, hsp⟩ := HS1.out
      cases he
      obtain ⟨g, cur, rfl, hbk, hsz, hge⟩ := hsp (by omega)
      obtain ⟨u, hu⟩ : ∃ u, cur[k * 15]? = some u := ⟨_, Array.getElem?_eq_getElem (by omega)⟩
      have q0 : wr.cell? ⟨g, k * 15, none⟩ = some u := hbk.at_ hu
      have z0 : wr.frozen? ⟨g, k * 15, none⟩ = false := hbk.fr _
      have hdc : decide (k < s.snaps.length) = true := decide_eq_true hlt
      have hgc : g ≠ w6.heap.size := by have := HLT5.out g rfl; omega
      have HGC := Lib.hid hgc
      have HBK := Lib.hid hbk
      have HSZ := Lib.hid hsz
      have HGE := Lib.hid hge
      have HLT := Lib.hid hlt
      clear hsp hbk hsz hge hgc hu
      go_wp2_with fail
      obtain ⟨w9, hw9⟩ : ∃ y, y = wr.setCell ⟨g, k * 15, none⟩ (.int .i64 id) := ⟨_, rfl⟩
      have g9 : ∀ i, i ≠ g → w9.heap[i]? = wr.heap[i]? := fun i hi => by rw [hw9]; exact Below.heap_setCell wr ⟨g, k * 15, none⟩ _ i hi
      have hb9 : Below w5.heap.size w5 w9 := by rw [hw9]; exact below_set HBW.out _ _ _ HGE.out
      have hbk9 : Blk w9 g 47 (cur.setIfInBounds (k * 15) (.int .i64 id)) := by rw [hw9]; exact HBK.out.put _ _
      rw [← hw9]
      go_roundw
      case rel =>
        refine ⟨k + 1, HLT.out, by go_num, hb9, (g9 _ (fun e => HGC.out e.symm)).trans HKC.out, ⟨_, _, rfl, fun _ => ⟨g, _, rfl, hbk9, by rw [Array.size_setIfInBounds]; exact HSZ.out, HGE.out⟩⟩, HS2.out.same (fun g2 e _ => g9 g2 (fun e2 => HAP.out g2 e (by rw [e2]; rfl)))⟩
      case measure => have := HLT.out; simp [RowKit.intOf]; omega
    · obtain rfl : k = s.snaps.length := by omega
      have hdc : decide ((s.snaps.length : Int) < s.snaps.length) = false := decide_eq_false (by omega)
      go_wp2_with fail
      have hstart := HBW.out
      have hst1 := HKC.out
      have hst2 := HS1.out
      have hst3 := HS2.out
      clear e13 hdc hlt hk
      go_loopw [10] (fun t wr => ∃ j : Nat, j ≤ s.stale.length ∧ t = .int .i64 j ∧ Below w5.heap.size w5 wr ∧ Blk wr w6.heap.size 43 (stC s (.slice A5 s.snaps.length c5) (.slice A6 s.stale.length c6)) ∧
        Spare wr w5.heap.size 49 2 s.stale.length (.slice A6 s.stale.length c6)) (fun t _ => s.stale.length - (RowKit.intOf t).toNat)
      case atStart => exact ⟨0, Nat.zero_le _, rfl, hstart, hst1, hst3⟩
      case round =>
        clear hstart hst1 hst2 hst3 HBW HKC HS1 HS2
        obtain ⟨j, hj, rfl, hbw, hkc, hs2⟩ := hrel
        have HBW := Lib.hid hbw
        have HKC := Lib.hid hkc
        have HS2 := Lib.hid hs2
        have e23 : wr.cell? ⟨w6.heap.size, 23, none⟩ = some (.slice A6 s.stale.length c6) := hkc.at_ rfl
        have e0 : wr.cell? ⟨w6.heap.size, 0, none⟩ = some (.int .i64 s.n) := hkc.at_ rfl
        have ez0 : wr.frozen? ⟨w6.heap.size, 0, none⟩ = false := hkc.fr 0
        clear hbw hkc hs2
        by_cases hlt : j < s.stale.length
        · obtain ⟨A', c', he, hsp⟩ := HS2.out
          cases he
          obtain ⟨g, cur, rfl, hbk, hsz, hge⟩ := hsp (by omega)
          obtain ⟨u, hu⟩ : ∃ u, cur[j * 2]? = some u := ⟨_, Array.getElem?_eq_getElem (by omega)⟩
          have q0 : wr.cell? ⟨g, j * 2, none⟩ = some u := hbk.at_ hu
          have z0 : wr.frozen? ⟨g, j * 2, none⟩ = false := hbk.fr _
          have hdc : decide (j < s.stale.length) = true := decide_eq_true hlt
          have hgc : g ≠ w6.heap.size := by have := HLT6.out g rfl; omega
          have HGC := Lib.hid hgc
          have HBK := Lib.hid hbk
          have HSZ := Lib.hid hsz
          have HGE := Lib.hid hge
          have HLT := Lib.hid hlt
          clear hsp hbk hsz hge hgc hu
          go_wp2_with fail
          obtain ⟨w9, hw9⟩ : ∃ y, y = wr.setCell ⟨g, j * 2, none⟩ (.int .i64 fr) := ⟨_, rfl⟩
          have g9 : ∀ i, i ≠ g → w9.heap[i]? = wr.heap[i]? := fun i hi => by rw [hw9]; exact Below.heap_setCell wr ⟨g, j * 2, none⟩ _ i hi
          have hb9 : Below w5.heap.size w5 w9 := by rw [hw9]; exact below_set HBW.out _ _ _ HGE.out
          have hbk9 : Blk w9 g 49 (cur.setIfInBounds (j * 2) (.int .i64 fr)) := by rw [hw9]; exact HBK.out.put _ _
          rw [← hw9]
          go_roundw
          case rel =>
            exact ⟨j + 1, HLT.out, by go_num, hb9, (g9 _ (fun e => HGC.out e.symm)).trans HKC.out, ⟨_, _, rfl, fun _ => ⟨g, _, rfl, hbk9, by rw [Array.size_setIfInBounds]; exact HSZ.out, HGE.out⟩⟩⟩
          case measure => have := HLT.out; simp [RowKit.intOf]; omega
        · obtain rfl : j = s.stale.length := by omega
          have hdc : decide ((s.stale.length : Int) < s.stale.length) = false := decide_eq_false (by omega)
          obtain ⟨y, hy⟩ : ∃ y, y = wrap64 (s.n + 1) := ⟨_, rfl⟩
          have hyn : y ≠ s.n := by rw [hy]; exact wrap_next s.n HN.out
          have HYN := Lib.hid hyn
          have HY := Lib.hid hy
          replace hy := hy.symm
          clear hyn
          obtain ⟨w8, hw8⟩ : ∃ x, wr.setCell ⟨w6.heap.size, 0, none⟩ (.int .i64 y) = x := ⟨_, rfl⟩
          have h45 := HK5.out.lt
          have hws5 := HD5.out.size
          have hw67 := HW67.out
          have hwlt := HK4.out.lt
          have g8 : ∀ i, i < w5.heap.size → w8.heap[i]? = w5.heap[i]? := fun i hi => by
            rw [← hw8]
            exact (Below.heap_setCell wr ⟨w6.heap.size, 0, none⟩ _ i (by simp; omega)).trans (HBW.out.block i hi)
          have b58 : Below w5.heap.size w5 w8 := by rw [← hw8]; exact below_set HBW.out _ _ _ hw67
          obtain ⟨cD, hcD⟩ : ∃ x, x = stC { s with n := y } (.slice A5 s.snaps.length c5) (.slice A6 s.stale.length c6) := ⟨_, rfl⟩
          have K8c : Blk w8 w6.heap.size 43 cD := by rw [← hw8, hcD, ← stC_0]; exact HKC.out.put 0 _
          have K8x : Blk w8 w4.heap.size 43 cX := (g8 _ h45).trans HK5.out
          have K8s : Blk w8 w.heap.size 35 cA := (g8 _ (by omega)).trans ((HD5.out.block _ hwlt).trans HK4.out)
          have bw8 : Below w.heap.size w w8 := HD4.out.trans ((HD5.out.mono (by omega)).trans (b58.mono (by omega)))
          have hi43d : (Try.prog.info? 43).map (·.size) = some cD.size := by rw [hcD, stC_size]; kernel_rfl
          obtain ⟨S0, hS0⟩ : ∃ S0 : World → Prop, S0 = fun W => Below w8.heap.size w8 W := ⟨_, rfl⟩
          have fX : ∀ W, S0 W → (Instr.loadAt 43 (.pointer (some ⟨w4.heap.size, 0, none⟩))).run Try.prog W = .ok (.agg cX) W := fun W hW => by rw [hS0] at hW; exact blk_loadAt (K8x.below hW K8x.lt) Try.underlying43 rfl hi43
          have fC : ∀ W, S0 W → (Instr.loadAt 43 (.pointer (some ⟨w6.heap.size, 0, none⟩))).run Try.prog W = .ok (.agg cD) W := fun W hW => by rw [hS0] at hW; exact blk_loadAt (K8c.below hW K8c.lt) Try.underlying43 rfl hi43d
          have fS : ∀ W, S0 W → (Instr.loadAt 35 (.pointer (some ⟨w.heap.size, 0, none⟩))).run Try.prog W = .ok (.agg cA) W := fun W hW => by rw [hS0] at hW; exact blk_loadAt (K8s.below hW K8s.lt) Try.underlying35 rfl hi35
          have HP : Hid (∀ W, S0 W → Calls Try.prog 10 #[.agg cX] W fun e w' => ∃ sv' tv', e = .returned (.agg (stC s sv' tv')) ∧ StIn w' s sv' tv' ∧ Below W.heap.size W w') := Lib.hid fun W hW => by
            rw [hS0] at hW
            rw [HCX.out]
            exact (mplain_any s _ _ W (HSX.out.below (b58.trans (hW.mono b58.size))) f1 f2).mono fun e w' ⟨sv', tv', he, ho, hb⟩ => ⟨sv', tv', he, ho.st, hb⟩
          have HQ : Hid (∀ W sv' tv', S0 W → StIn W s sv' tv' → Calls Try.prog 9 #[.agg (stC s sv' tv'), .agg cA] W fun e w' => e = .returned (.bool true) ∧ Below W.heap.size W w') := Lib.hid fun W sv' tv' hW hst => by
            rw [hS0] at hW
            rw [HCA.out]
            exact (msame_any s s sv' tv' _ _ W hst (H.out.below (bw8.trans (hW.mono bw8.size))) f1 f2).mono fun e w' ⟨he, hb⟩ => ⟨by rw [he, decide_eq_true rfl], hb⟩
          have HM : Hid (∀ W, Calls Try.prog 11 #[.agg cD, .agg cX] W fun e w' => e = .returned (.bool false) ∧ Below W.heap.size W w') := Lib.hid fun W => by
            rw [HCX.out, hcD]
            exact mne_any { s with n := y } s _ _ _ _ W HYN.out
          have hSw : S0 w8.drew := by rw [hS0]; exact (Below.refl _ _).drew
          have hSB : ∀ W, S0 W → Below w8.heap.size w8 W := fun W hW => by rw [hS0] at hW; exact hW
          have hSK : ∀ W W', S0 W → Below W.heap.size W W' → S0 W' := fun W W' hW hb => by rw [hS0] at hW ⊢; exact keep_below hb hW
          have HSB := Lib.hid hSB
          have HSK := Lib.hid hSK
          have HBW8 := Lib.hid bw8
          clear hS0 hSB hSK g8 b58 K8c K8x K8s bw8 hcD hi43d h45 hws5 hw67 hwlt
          repeat' (first
            | go_values
            | go_skip
            | go_guarded
            | ((fail_if_success (with_reducible refine drawn_mark ?_))
               first
                 | go_step
                 | go_upon
                 | go_back
                 | (simp only [Int.not_lt, Int.not_le] at *; go_simp)
                 | (go_values <;> (try go_simp))
                 | (go_ite <;> go_prune <;> (try go_simp))
                 | (split <;> (first | (rename_i hx; exact (hx _ rfl).elim) | go_prune))))
          refine G.wp_region_eff S0 [1, 3, 4, 7] 10 (by kernel_rfl) (by kernel_rfl) (by kernel_rfl) hSw ?_
          simp only [List.take_succ_cons, List.take_zero, List.drop_succ_cons, List.drop_zero]
          refine G.wpLexE_take 1 (by kernel_rfl) (by kernel_rfl) ?_
          simp only [List.take_succ_cons, List.take_zero, List.drop_succ_cons, List.drop_zero]
          repeat (first
            | go_big_quiet_skip
            | (go_big_quiet_want; refine quiet_loadRow 43 (.tmp 7) (by rfl) (.agg cX) _ (by rfl) fX ?_; simp only [Act.put, List.setIfInBounds_toArray, List.set_cons_zero, List.set_cons_succ]; go_big_quiet_on)
            | (go_big_quiet_want
               go_big_quiet_op
               first
                 | go_big_quiet_on
                 | (apply Exists.intro
                    refine ⟨fun W hW => ?_, ?_⟩
                    · first
                        | exact rfl
                        | exact ⟨rfl, rfl⟩
                        | (simp only [Result.andThen_ok]; done)
                        | (simp only [Result.andThen_ok]; first | exact ⟨trivial, rfl⟩ | exact rfl | exact ⟨rfl, rfl⟩)
                        | (skip)
                    go_big_quiet_on)))
          refine wpQuiet_nil ?_
          show G.wpLexE _ _ _ _ _ _ _ _ _
          refine G.wpLexE_eff (by kernel_rfl) rfl ?_
          go_wp2_with fail
          refine (HP.out _ hSw).mono ?_
          rintro e wa ⟨sp, tp, rfl, hsp, hba⟩
          have hSa : S0 wa := HSK.out _ _ hSw hba
          obtain ⟨cP, hcP⟩ : ∃ x, x = stC s sp tp := ⟨_, rfl⟩
          rw [← hcP]
          have hq := HQ.out wa sp tp hSa hsp
          rw [← hcP] at hq
          have HQ2 := Lib.hid hq
          clear hq hsp hba hcP
          go_wp2_with fail
          refine ⟨rfl, hSa, ?_⟩
          refine G.wpLexE_take 1 (by kernel_rfl) (by kernel_rfl) ?_
          simp only [List.take_succ_cons, List.take_zero, List.drop_succ_cons, List.drop_zero]
          repeat (first
            | go_big_quiet_skip
            | (go_big_quiet_want; refine quiet_loadRow 35 (.tmp 3) (by rfl) (.agg cA) _ (by rfl) fS ?_; simp only [Act.put, List.setIfInBounds_toArray, List.set_cons_zero, List.set_cons_succ]; go_big_quiet_on)
            | (go_big_quiet_want
               go_big_quiet_op
               first
                 | go_big_quiet_on
                 | (apply Exists.intro
                    refine ⟨fun W hW => ?_, ?_⟩
                    · first
                        | exact rfl
                        | exact ⟨rfl, rfl⟩
                        | (simp only [Result.andThen_ok]; done)
                        | (simp only [Result.andThen_ok]; first | exact ⟨trivial, rfl⟩ | exact rfl | exact ⟨rfl, rfl⟩)
                        | (skip)
                    go_big_quiet_on)))
          refine wpQuiet_nil ?_
          show G.wpLexE _ _ _ _ _ _ _ _ _
          refine G.wpLexE_eff (by kernel_rfl) rfl ?_
          go_wp2_with fail
          refine HQ2.out.mono ?_
          rintro e wb ⟨rfl, hbb⟩
          have hSb : S0 wb := HSK.out _ _ hSa hbb
          clear hbb
          go_wp2_with fail
          refine ⟨rfl, hSb, ?_⟩
          refine G.wpLexE_eff (by kernel_rfl) rfl ?_
          go_wp2_with fail
          refine ⟨rfl, hSb, ?_⟩
          refine G.wpLexE_take 2 (by kernel_rfl) (by kernel_rfl) ?_
          simp only [List.take_succ_cons, List.take_zero, List.drop_succ_cons, List.drop_zero]
          repeat (first
            | go_big_quiet_skip
            | (go_big_quiet_want; refine quiet_loadRow 43 (.tmp 8) (by rfl) (.agg cD) _ (by rfl) fC ?_; simp only [Act.put, List.setIfInBounds_toArray, List.set_cons_zero, List.set_cons_succ]; go_big_quiet_on)
            | (go_big_quiet_want; refine quiet_loadRow 43 (.tmp 7) (by rfl) (.agg cX) _ (by rfl) fX ?_; simp only [Act.put, List.setIfInBounds_toArray, List.set_cons_zero, List.set_cons_succ]; go_big_quiet_on)
            | (go_big_quiet_want
               go_big_quiet_op
               first
                 | go_big_quiet_on
                 | (apply Exists.intro
                    refine ⟨fun W hW => ?_, ?_⟩
                    · first
                        | exact rfl
                        | exact ⟨rfl, rfl⟩
                        | (simp only [Result.andThen_ok]; done)
                        | (simp only [Result.andThen_ok]; first | exact ⟨trivial, rfl⟩ | exact rfl | exact ⟨rfl, rfl⟩)
                        | (skip)
                    go_big_quiet_on)))
          refine wpQuiet_nil ?_
          show G.wpLexE _ _ _ _ _ _ _ _ _
          refine G.wpLexE_effg (by kernel_rfl) (by rfl) ?_
          go_wp2_with fail
          refine (HM.out wb).mono ?_
          rintro e wc ⟨rfl, hbc⟩
          have hSc : S0 wc := HSK.out _ _ hSb hbc
          clear hbc
          go_wp2_with fail
          refine ⟨rfl, hSc, ?_⟩
          refine G.wpLexE_take 2 (by kernel_rfl) (by kernel_rfl) ?_
          simp only [List.take_succ_cons, List.take_zero, List.drop_succ_cons, List.drop_zero]
          repeat (first
            | go_big_quiet_skip
            | (go_big_quiet_want; refine quiet_loadRow 43 (.tmp 7) (by rfl) (.agg cX) _ (by rfl) fX ?_; simp only [Act.put, List.setIfInBounds_toArray, List.set_cons_zero, List.set_cons_succ]; go_big_quiet_on)
            | (go_big_quiet_want
               go_big_quiet_op
               first
                 | go_big_quiet_on
                 | (apply Exists.intro
                    refine ⟨fun W hW => ?_, ?_⟩
                    · first
                        | exact rfl
                        | exact ⟨rfl, rfl⟩
                        | (simp only [Result.andThen_ok]; done)
                        | (simp only [Result.andThen_ok]; first | exact ⟨trivial, rfl⟩ | exact rfl | exact ⟨rfl, rfl⟩)
                        | (skip)
                    go_big_quiet_on)))
          refine wpQuiet_nil ?_
          show wpList _ _ _ _ _ _
          go_wp2_with fail
          go_ret
          exact ⟨rfl, keep_below (HSB.out _ hSc) HBW8.out⟩
end Go.Proofs.Ytidmbibpoldgcaa