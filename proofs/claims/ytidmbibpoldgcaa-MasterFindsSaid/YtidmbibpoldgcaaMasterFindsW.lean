/-
  The walk of MasterFinds.
-/
import Derived.Test.YtidmbibpoldgcaaMasterApartW
import Derived.Test.YtidmbibpoldgcaaMst9
namespace Go.Proofs.Ytidmbibpoldgcaa
set_option linter.unusedVariables false
set_option linter.unusedSimpArgs false
open Go.RowKit

/-- The first place from behind, of those above k. -/
def FstFrom (ss : List SnapA) (id : Int) (k i : Int) : Prop :=
  (i = -1 ∧ ∀ (j : Nat) x, k < j → ss[j]? = some x → x.id ≠ id) ∨ (∃ m : Nat, i = m ∧ k < m ∧ (∃ x, ss[m]? = some x ∧ x.id = id) ∧ ∀ (j : Nat) x, k < j → j < m → ss[j]? = some x → x.id ≠ id)
theorem FstFrom.fst {ss : List SnapA} {id i : Int} (h : FstFrom ss id (-1) i) : IsFst ss id i := by
  rcases h with ⟨rfl, h⟩ | ⟨m, rfl, _, hx, h⟩
  · exact .inl ⟨rfl, fun j x hx => h j x (by omega) hx⟩
  · exact .inr ⟨m, rfl, hx, fun j x hj hx => h j x (by omega) hj hx⟩
theorem FstFrom.hit {ss : List SnapA} {id i : Int} {k : Nat} {x : SnapA} (hx : ss[k]? = some x) (he : x.id = id) : FstFrom ss id ((k : Int) - 1) k :=
  .inr ⟨k, rfl, by omega, ⟨x, hx, he⟩, fun j y h1 h2 => by omega⟩
theorem FstFrom.miss {ss : List SnapA} {id i : Int} {k : Nat} {x : SnapA} (h : FstFrom ss id k i) (hx : ss[k]? = some x) (he : x.id ≠ id) : FstFrom ss id ((k : Int) - 1) i := by
  have key : ∀ (j : Nat) y, (k : Int) - 1 < j → ss[j]? = some y → (k : Int) < j ∨ y = x := fun j y h1 h2 => by
    by_cases e : j = k
    · subst e; rw [hx] at h2; exact .inr (Option.some.inj h2).symm
    · exact .inl (by omega)
  rcases h with ⟨rfl, h⟩ | ⟨m, rfl, hm, hy, h⟩
  · exact .inl ⟨rfl, fun j y h1 h2 => by
      rcases key j y h1 h2 with h3 | rfl
      · exact h j y h3 h2
      · exact he⟩
  · exact .inr ⟨m, rfl, by omega, hy, fun j y h1 h2 h3 => by
      rcases key j y h1 h3 with h4 | rfl
      · exact h j y h4 h2 h3
      · exact he⟩
theorem FstFrom.start (ss : List SnapA) (id : Int) : FstFrom ss id ((ss.length : Int) - 1) (-1) :=
  .inl ⟨rfl, fun j x h1 h2 => by have := (List.getElem?_eq_some_iff.1 h2).1; omega⟩
theorem FstFrom.range {ss : List SnapA} {id k i : Int} (h : FstFrom ss id k i) : i = -1 ∨ (0 ≤ i ∧ i < ss.length) := by
  rcases h with ⟨rfl, _⟩ | ⟨m, rfl, _, ⟨x, hx, _⟩, _⟩
  · exact .inl rfl
  · have := (List.getElem?_eq_some_iff.1 hx).1
    exact .inr ⟨by omega, by omega⟩

/-- A row of one's own of pairs, each of which begins with a number. -/
def SpareI (w : World) (B : Nat) (t : TypeId) (n : Nat) (v : Value) : Prop :=
  ∃ A c, v = .slice A n c ∧ (0 < n → ∃ g cur, A = some ⟨g, 0, none⟩ ∧ Blk w g t cur ∧ n * 2 ≤ cur.size ∧ B ≤ g ∧ ∀ k, k < n → ∃ y : Int, cur[k * 2]? = some (.int .i64 y))
theorem spareI_own {w : World} {base : Nat} {t : TypeId} {v : Value} {l : List (Int × Int)} (h : w.ownsRow base t 2 v l.length (staC l)) : SpareI w base t l.length v := by
  rcases h.2 with ⟨rfl, h0⟩ | ⟨g, cap, cur, rfl, h1, h2, h3, h4, h5, h6⟩
  · exact ⟨none, 0, by rw [h0], fun h => absurd h (by omega)⟩
  · refine ⟨_, _, rfl, fun _ => ⟨g, cur, rfl, h2, by rw [h5]; exact Nat.mul_le_mul_right _ h3, h1, fun k hk => ?_⟩⟩
    obtain ⟨x, hx⟩ : ∃ x, l[k]? = some x := ⟨_, List.getElem?_eq_getElem hk⟩
    have := flat_at staL 2 (fun _ => rfl) l k x hx 0 (by omega)
    refine ⟨x.1, ?_⟩
    have h7 : (staC l)[k * 2 + 0]? = some (.int .i64 x.1) := this.trans rfl
    rw [← h6, Nat.add_zero, List.getElem?_take, if_pos (by omega), Array.getElem?_toList] at h7
    exact h7


set_option maxRecDepth 100000 in
set_option maxHeartbeats 2000000 in
theorem masterFinds_any (s o : StA) (sv tv su tu : Value) (id : Int) (w : World) (h : StIn w s sv tv) (g : StIn w o su tu) :
    Calls Try.prog 4 #[.agg (stC s sv tv), .agg (stC o su tu), .int .i64 id] w fun e w' => e = .returned (.bool true) ∧ Below w.heap.size w w' := by
  obtain ⟨A1, c1, rfl⟩ := h.snaps.form
  obtain ⟨A2, c2, rfl⟩ := h.stale.form
  obtain ⟨E1, d1, rfl⟩ := g.snaps.form
  obtain ⟨E2, d2, rfl⟩ := g.stale.form
  have H := Lib.hid h
  have GG := Lib.hid g
  have hi35 : (Try.prog.info? 35).map (·.size) = some (stC s (.slice A1 s.snaps.length c1) (.slice A2 s.stale.length c2)).size := by rw [stC_size]; kernel_rfl
  have hj35 : (Try.prog.info? 35).map (·.size) = some (stC o (.slice E1 o.snaps.length d1) (.slice E2 o.stale.length d2)).size := by rw [stC_size]; kernel_rfl
  obtain ⟨cA, hcA⟩ : ∃ x, x = stC s (.slice A1 s.snaps.length c1) (.slice A2 s.stale.length c2) := ⟨_, rfl⟩
  obtain ⟨cE, hcE⟩ : ∃ x, x = stC o (.slice E1 o.snaps.length d1) (.slice E2 o.stale.length d2) := ⟨_, rfl⟩
  rw [← hcA] at hi35 ⊢
  rw [← hcE] at hj35 ⊢
  have HCA := Lib.hid hcA
  have HCE := Lib.hid hcE
  obtain ⟨w1, hw1⟩ : ∃ x, (w.alloc (.cells cA 35)).alloc (.cells cE 35) = x := ⟨_, rfl⟩
  have HK1 : Hid (Blk w1 w.heap.size 35 cA) := Lib.hid (by rw [← hw1]; exact (Blk.new _ _ _).alloc _)
  have HE1 : Hid (Blk w1 (w.heap.size + 1) 35 cE) := Lib.hid (by rw [← hw1]; exact Blk.new2 w _ _ _)
  have HD1 : Hid (Below w.heap.size w w1) := Lib.hid (by rw [← hw1]; exact keep_alloc (keep_alloc (Below.refl _ _) _) _)
  clear h g hcA hcE
  go_enter Try.func4, Try.ntmps4
  go_wp2_with fail
  refine (mawake_any _).mono ?_
  rintro e w2 ⟨rfl, hb2⟩
  have K2 := HK1.out.below hb2 HK1.out.lt
  have HK2 := Lib.hid K2
  have HE2 := Lib.hid (HE1.out.below hb2 HE1.out.lt)
  have HD2 := Lib.hid (keep_below hb2 HD1.out)
  clear hb2
  go_wp2_with ((with_reducible refine wpList_load_want ?qw 35 (.tmp 3) ?q2 (w.heap.size) ?q3 35 cA _ K2 Try.underlying35 rfl hi35 ?_); (case q2 => rfl); (case q3 => rfl); (case qw => rfl))
  have hfew := mfew_any s _ _ w2 (H.out.below HD2.out)
  rw [← HCA.out] at hfew
  have HF := Lib.hid hfew
  clear hfew K2
  refine HF.out.mono ?_
  rintro e w3 ⟨rfl, hb3⟩
  have HK3 := Lib.hid (HK2.out.below hb3 HK2.out.lt)
  have E3 := HE2.out.below hb3 HE2.out.lt
  have HE3 := Lib.hid E3
  have HD3 := Lib.hid (keep_below hb3 HD2.out)
  clear hb3
  by_cases hf : ¬ (s.snaps.length ≤ 30 ∧ s.stale.length ≤ 60)
  · rw [decide_eq_false hf]
    clear hf E3
    go_wp2_with fail
    refine (mawake_any _).mono ?_
    rintro e wz ⟨rfl, hbz⟩
    have HDZ := Lib.hid (keep_below hbz HD3.out)
    clear hbz
    go_wp2_with fail
    go_ret
    exact ⟨rfl, HDZ.out⟩
  replace hf := Classical.not_not.1 hf
  rw [decide_eq_true hf]
  obtain ⟨f1, f2⟩ := hf
  go_wp2_with ((with_reducible refine wpList_load_want ?qw 35 (.tmp 4) ?q2 (w.heap.size + 1) ?q3 35 cE _ E3 Try.underlying35 rfl hj35 ?_); (case q2 => rfl); (case q3 => rfl); (case qw => rfl))
  have hfew := mfew_any o _ _ w3 (GG.out.below HD3.out)
  rw [← HCE.out] at hfew
  have HF := Lib.hid hfew
  clear hfew E3
  refine HF.out.mono ?_
  rintro e w4 ⟨rfl, hb4⟩
  have K4 := HK3.out.below hb4 HK3.out.lt
  have HK4 := Lib.hid K4
  have HE4 := Lib.hid (HE3.out.below hb4 HE3.out.lt)
  have HD4 := Lib.hid (keep_below hb4 HD3.out)
  clear hb4
  by_cases hf : ¬ (o.snaps.length ≤ 30 ∧ o.stale.length ≤ 60)
  · rw [decide_eq_false hf]
    clear hf K4
    go_wp2_with fail
    refine (mawake_any _).mono ?_
    rintro e wz ⟨rfl, hbz⟩
    have HDZ := Lib.hid (keep_below hbz HD4.out)
    clear hbz
    go_wp2_with fail
    go_ret
    exact ⟨rfl, HDZ.out⟩
  replace hf := Classical.not_not.1 hf
  rw [decide_eq_true hf]
  obtain ⟨m1, m2⟩ := hf
  go_wp2_with ((with_reducible refine wpList_load_want ?qw 35 (.tmp 3) ?q2 (w.heap.size) ?q3 35 cA _ K4 Try.underlying35 rfl hi35 ?_); (case q2 => rfl); (case q3 => rfl); (case qw => rfl))
  have hof := mof_any s _ _ w4 (H.out.below HD4.out) f1 f2
  rw [← HCA.out] at hof
  refine hof.mono ?_
  rintro e w5 ⟨sx, tx, rfl, hox, hb5⟩
  have HK5 := Lib.hid (HK4.out.below hb5 HK4.out.lt)
  have HE5 := Lib.hid (HE4.out.below hb5 HE4.out.lt)
  have HD5 := Lib.hid (keep_below hb5 HD4.out)
  have HFI := Lib.hid (mfind_any s sx tx id w5 hox.st f1)
  clear hof K4 hox hb5
  go_wp2_with fail
  refine HFI.out.mono ?_
  rintro e w6 ⟨i, hi, rfl, hb6⟩
  have HIF := Lib.hid hi
  have K6 := HK5.out.below hb6 HK5.out.lt
  have HK6 := Lib.hid K6
  have HE6 := Lib.hid (HE5.out.below hb6 HE5.out.lt)
  have HD6 := Lib.hid (keep_below hb6 HD5.out)
  rw [HCA.out] at K6
  have e13 : w6.cell? ⟨w.heap.size, 13, none⟩ = some (.slice A1 s.snaps.length c1) := K6.at_ rfl
  have hn1 : wrap64 ((s.snaps.length : Int) - 1) = (s.snaps.length : Int) - 1 := IntWalk.wrap64_in _ (by omega)
  have hir := hi.range
  obtain ⟨ok, hok⟩ : ∃ ok, ok = decide (0 ≤ i) := ⟨_, rfl⟩
  rw [← hok]
  have HOK := Lib.hid hok
  obtain ⟨at0, hat⟩ : ∃ a, a = max i 0 := ⟨_, rfl⟩
  rw [← hat]
  have HAT := Lib.hid hat
  clear hb6 HFI hi K6 hok hat hir
  go_wp2_with fail
  go_loopw [9, 10] (fun u t wr => ∃ (k W : Int), -1 ≤ k ∧ k < s.snaps.length ∧ t = .int .i64 k ∧ u = .int .i64 W ∧ FstFrom s.snaps id k W ∧ w6 = wr) (fun _ t _ => (RowKit.intOf t + 1).toNat)
  case atStart => exact ⟨(s.snaps.length : Int) - 1, -1, by omega, by omega, rfl, rfl, FstFrom.start _ _, rfl⟩
  case round =>
    obtain ⟨k, W, hk1, hk2, rfl, rfl, hw, rfl⟩ := hrel
    have HW := Lib.hid hw
    clear hw
    by_cases hk0 : 0 ≤ k
    · obtain ⟨q, rfl⟩ := Int.eq_ofNat_of_zero_le hk0
      obtain ⟨b, oo, rfl, hbl, hcell⟩ := H.out.snaps.cells (by omega)
      obtain ⟨x, hx⟩ : ∃ x, s.snaps[q]? = some x := ⟨_, List.getElem?_eq_getElem (by omega)⟩
      have hc0 : w6.cell? ⟨b, oo + q * 15, none⟩ = some (.int .i64 x.id) := (World.cell?_of_block (HD6.out.block b hbl)).trans <| hcell _ _ ((flat_at snapL 15 (fun _ => rfl) s.snaps q x hx 0 (by omega)).trans rfl)
      have hdc : decide (0 ≤ (q : Int)) = true := decide_eq_true hk0
      have hql : q < s.snaps.length := by omega
      have HQL := Lib.hid hql
      have hwq : wrap64 ((q : Int) - 1) = (q : Int) - 1 := IntWalk.wrap64_in _ (by omega)
      have HX := Lib.hid hx
      clear hcell hx hk0 hk1
      by_cases he : x.id = id
      · have hb : (x.id == id) = true := by rw [beq_iff_eq]; exact he
        have HN : Hid (FstFrom s.snaps id ((q : Int) - 1) q) := Lib.hid (FstFrom.hit (i := 0) HX.out he)
        clear he
        go_wp2_with fail
        go_roundw
        case rel => exact ⟨(q : Int) - 1, q, by omega, by have := HQL.out; omega, rfl, rfl, HN.out, trivial⟩
        case measure => simp [RowKit.intOf]
      · have hb : (x.id == id) = false := by rw [beq_eq_false_iff_ne]; exact he
        have HN : Hid (FstFrom s.snaps id ((q : Int) - 1) W) := Lib.hid (HW.out.miss HX.out he)
        clear he
        go_wp2_with fail
        go_roundw
        case rel => exact ⟨(q : Int) - 1, W, by omega, by have := HQL.out; omega, rfl, rfl, HN.out, trivial⟩
        case measure => simp [RowKit.intOf]
    · obtain rfl : k = -1 := by omega
      have hWi : W = i := HW.out.fst.uniq HIF.out
      subst hWi
      clear hk1 hk2 hk0 hn1 HW HIF
      have K6 := HK6.out
      go_wp2_with ((with_reducible refine wpList_load_want ?qw 35 (.tmp 3) ?q2 (w.heap.size) ?q3 35 cA _ K6 Try.underlying35 rfl hi35 ?_); (case q2 => rfl); (case q3 => rfl); (case qw => rfl))
      have hof := mof_any s _ _ w6 (H.out.below HD6.out) f1 f2
      rw [← HCA.out] at hof
      refine hof.mono ?_
      rintro e w7 ⟨sx, tx, rfl, hox, hb7⟩
      clear hof K6 e13
      obtain ⟨A3, c3, rfl⟩ := hox.st.snaps.form
      obtain ⟨A4, c4, rfl⟩ := hox.st.stale.form
      obtain ⟨cX, hcX⟩ : ∃ x, x = stC s (.slice A3 s.snaps.length c3) (.slice A4 s.stale.length c4) := ⟨_, rfl⟩
      rw [← hcX]
      have HOX := Lib.hid hox
      have HCX := Lib.hid hcX
      have HK7 := Lib.hid (HK6.out.below hb7 HK6.out.lt)
      have HE7 := Lib.hid (HE6.out.below hb7 HE6.out.lt)
      have HD7 := Lib.hid (keep_below hb7 HD6.out)
      obtain ⟨w8, hw8⟩ : ∃ x, (w7.alloc (.cells #[.int .i64 0, .int .i64 0, .int .i64 0, .int .i64 0, .int .i64 0, .bool false, .int .i64 0, .int .i64 0, .int .i64 0, .int .u64 0, .int .u64 0, .int .u64 0, .int .u64 0, .slice none 0 0, .int .i64 0, .int .i64 0, .int .i64 0, .int .i64 0, .int .i64 0, .int .i64 0, .int .i64 0, .int .i64 0, .int .i64 0, .slice none 0 0] 43)).setCells w7.heap.size 0 cX.toList = x := ⟨_, rfl⟩
      have hth8 : (w7.alloc (.cells #[.int .i64 0, .int .i64 0, .int .i64 0, .int .i64 0, .int .i64 0, .bool false, .int .i64 0, .int .i64 0, .int .i64 0, .int .u64 0, .int .u64 0, .int .u64 0, .int .u64 0, .slice none 0 0, .int .i64 0, .int .i64 0, .int .i64 0, .int .i64 0, .int .i64 0, .int .i64 0, .int .i64 0, .int .i64 0, .int .i64 0, .slice none 0 0] 43)).there w7.heap.size 0 cX.size := (Blk.new w7 _ _).there (by rw [hcX, stC_size]; exact Nat.le_refl 24)
      have hi43 : (Try.prog.info? 43).map (·.size) = some cX.size := by rw [hcX, stC_size]; kernel_rfl
      have h1x : cX.all (·.oneCell') = true := by rw [hcX]; exact stC_one s A3 A4 _ _ _ _
      have K8 : Blk w8 w7.heap.size 43 cX := by rw [← hw8]; exact (Blk.new w7 _ _).putAll cX (by rw [hcX]; rfl)
      have D8 : Below w7.heap.size w7 w8 := by rw [← hw8]; exact below_sets _ _ (keep_alloc (Below.refl _ _) _) (Nat.le_refl _)
      have HK8 := Lib.hid K8
      have HD8 := Lib.hid D8
      clear hcX hox hb7 D8
      go_wp2_with (first
        | ((with_reducible refine wpList_store_mid ?a1 43 (.tmp 11) (.tmp 52) ?a2 (w7.heap.size) 0 cX ?a3 ?a4 hth8 hi43 h1x ?_); (case a1 => rfl); (case a2 => rfl); (case a3 => rfl); (case a4 => rfl); (rw [hw8]))
        | ((with_reducible refine wpList_load_want ?qw 43 (.tmp 11) ?q2 (w7.heap.size) ?q3 43 cX _ K8 Try.underlying43 rfl hi43 ?_); (case q2 => rfl); (case q3 => rfl); (case qw => rfl)))
      have HSX : Hid (StIn w8 s (.slice A3 s.snaps.length c3) (.slice A4 s.stale.length c4)) := Lib.hid (HOX.out.st.below HD8.out)
      have hcp := mcpy_any s _ _ w8 HSX.out f1 f2
      rw [← HCX.out] at hcp
      refine hcp.mono ?_
      rintro e w9 ⟨sc, tc, rfl, hoc, hb9⟩
      clear hcp K8 hth8 hw8 h1x
      obtain ⟨A5, c5, rfl⟩ := hoc.st.snaps.form
      obtain ⟨A6, c6, rfl⟩ := hoc.st.stale.form
      obtain ⟨cC, hcC⟩ : ∃ x, x = stC s (.slice A5 s.snaps.length c5) (.slice A6 s.stale.length c6) := ⟨_, rfl⟩
      rw [← hcC]
      have HOC := Lib.hid hoc
      have HB9 := Lib.hid hb9
      obtain ⟨wa, hwa⟩ : ∃ x, (w9.alloc (.cells #[.int .i64 0, .int .i64 0, .int .i64 0, .int .i64 0, .int .i64 0, .bool false, .int .i64 0, .int .i64 0, .int .i64 0, .int .u64 0, .int .u64 0, .int .u64 0, .int .u64 0, .slice none 0 0, .int .i64 0, .int .i64 0, .int .i64 0, .int .i64 0, .int .i64 0, .int .i64 0, .int .i64 0, .int .i64 0, .int .i64 0, .slice none 0 0] 43)).setCells w9.heap.size 0 cC.toList = x := ⟨_, rfl⟩
      have htha : (w9.alloc (.cells #[.int .i64 0, .int .i64 0, .int .i64 0, .int .i64 0, .int .i64 0, .bool false, .int .i64 0, .int .i64 0, .int .i64 0, .int .u64 0, .int .u64 0, .int .u64 0, .int .u64 0, .slice none 0 0, .int .i64 0, .int .i64 0, .int .i64 0, .int .i64 0, .int .i64 0, .int .i64 0, .int .i64 0, .int .i64 0, .int .i64 0, .slice none 0 0] 43)).there w9.heap.size 0 cC.size := (Blk.new w9 _ _).there (by rw [hcC, stC_size]; exact Nat.le_refl 24)
      have hi43c : (Try.prog.info? 43).map (·.size) = some cC.size := by rw [hcC, stC_size]; kernel_rfl
      have h1c : cC.all (·.oneCell') = true := by rw [hcC]; exact stC_one s A5 A6 _ _ _ _
      have Ka : Blk wa w9.heap.size 43 cC := by rw [← hwa]; exact (Blk.new w9 _ _).putAll cC (by rw [hcC]; rfl)
      have Da : Below w9.heap.size w9 wa := by rw [← hwa]; exact below_sets _ _ (keep_alloc (Below.refl _ _) _) (Nat.le_refl _)
      rw [hcC] at Ka
      have HKa := Lib.hid Ka
      have HDa := Lib.hid Da
      clear hcC hoc hb9 Da Ka
      go_wp2_with ((with_reducible refine wpList_store_mid ?a1 43 (.tmp 12) (.tmp 54) ?a2 (w9.heap.size) 0 cC ?a3 ?a4 htha hi43c h1c ?_); (case a1 => rfl); (case a2 => rfl); (case a3 => rfl); (case a4 => rfl); (rw [hwa]))
      clear hwa htha hi43c h1c
      have HS2 : Hid (SpareI wa w8.heap.size 49 s.stale.length (.slice A6 s.stale.length c6)) := Lib.hid (spareI_own (ownsRow_same HOC.out.stale (fun g e => HDa.out.block g (HOC.out.stale.lt g e).2)))
      have hb89 := HB9.out.size
      have HB8a : Hid (Below w8.heap.size w8 wa) := Lib.hid (HB9.out.trans (HDa.out.mono hb89))
      have HW89 : Hid (w8.heap.size ≤ w9.heap.size) := Lib.hid hb89
      have HLT6 : Hid (∀ g, (Value.slice A6 s.stale.length c6).ownBlock = some g → g < w9.heap.size) := Lib.hid fun g e => (HOC.out.stale.lt g e).2
      clear hb89 HOC
      go_loopw [13] (fun t wr => ∃ j : Nat, j ≤ s.stale.length ∧ t = .int .i64 j ∧ Below w8.heap.size w8 wr ∧ Blk wr w9.heap.size 43 (stC s (.slice A5 s.snaps.length c5) (.slice A6 s.stale.length c6)) ∧
        SpareI wr w8.heap.size 49 s.stale.length (.slice A6 s.stale.length c6)) (fun t _ => s.stale.length - (RowKit.intOf t).toNat)
      case atStart => exact ⟨0, Nat.zero_le _, rfl, HB8a.out, HKa.out, HS2.out⟩
      case round =>
        clear HB8a HKa HS2 HDa HB9
        obtain ⟨j, hj, rfl, hbw, hkc, hs2⟩ := hrel
        have HBW := Lib.hid hbw
        have HKC := Lib.hid hkc
        have HS2 := Lib.hid hs2
        have e23 : wr.cell? ⟨w9.heap.size, 23, none⟩ = some (.slice A6 s.stale.length c6) := hkc.at_ rfl
        clear hbw hkc hs2
        by_cases hlt : j < s.stale.length
        · obtain ⟨A', c', he, hsp⟩ := HS2.out
          cases he
          obtain ⟨g, cur, rfl, hbk, hsz, hge, hint⟩ := hsp (by omega)
          obtain ⟨u, hu⟩ := hint j hlt
          have q0 : wr.cell? ⟨g, j * 2, none⟩ = some (.int .i64 u) := hbk.at_ hu
          have z0 : wr.frozen? ⟨g, j * 2, none⟩ = false := hbk.fr _
          have hdc : decide (j < s.stale.length) = true := decide_eq_true hlt
          have hgc : g ≠ w9.heap.size := by have := HLT6.out g rfl; omega
          have HGC := Lib.hid hgc
          have HBK := Lib.hid hbk
          have HSZ := Lib.hid hsz
          have HGE := Lib.hid hge
          have HLT := Lib.hid hlt
          have HINT := Lib.hid hint
          obtain ⟨y, hy⟩ : ∃ y, wrap64 (u + 1) = y := ⟨_, rfl⟩
          clear hsp hbk hsz hge hgc hu hint
          go_wp2_with fail
          obtain ⟨wc, hwc⟩ : ∃ z, z = wr.setCell ⟨g, j * 2, none⟩ (.int .i64 y) := ⟨_, rfl⟩
          have g9 : ∀ i, i ≠ g → wc.heap[i]? = wr.heap[i]? := fun i hi => by rw [hwc]; exact Below.heap_setCell wr ⟨g, j * 2, none⟩ _ i hi
          have hb9 : Below w8.heap.size w8 wc := by rw [hwc]; exact below_set HBW.out _ _ _ HGE.out
          have hbk9 : Blk wc g 49 (cur.setIfInBounds (j * 2) (.int .i64 y)) := by rw [hwc]; exact HBK.out.put _ _
          rw [← hwc]
          go_roundw
          case rel =>
            refine ⟨j + 1, HLT.out, by go_num, hb9, (g9 _ (fun e => HGC.out e.symm)).trans HKC.out, ⟨_, _, rfl, fun _ => ⟨g, _, rfl, hbk9, by rw [Array.size_setIfInBounds]; exact HSZ.out, HGE.out, fun k hk => ?_⟩⟩⟩
            by_cases e : j * 2 = k * 2
            · exact ⟨y, by rw [← e, Array.getElem?_setIfInBounds_self_of_lt (by have := HSZ.out; have := HLT.out; omega)]⟩
            · obtain ⟨z, hz⟩ := HINT.out k hk
              exact ⟨z, by rw [Array.getElem?_setIfInBounds_ne e]; exact hz⟩
          case measure => have := HLT.out; simp [RowKit.intOf]; omega
        · obtain rfl : j = s.stale.length := by omega
          have hdc : decide ((s.stale.length : Int) < s.stale.length) = false := decide_eq_false (by omega)
          have h78 := HK8.out.lt
          have hws8 := HD8.out.size
          have hwlt := HK7.out.lt
          have hwlt2 := HE7.out.lt
          have g8 : ∀ i, i < w8.heap.size → wr.heap[i]? = w8.heap[i]? := fun i hi => HBW.out.block i hi
          have Kx : Blk wr w7.heap.size 43 cX := (g8 _ h78).trans HK8.out
          have Ks : Blk wr w.heap.size 35 cA := (g8 _ (by omega)).trans ((HD8.out.block _ hwlt).trans HK7.out)
          have Ko : Blk wr (w.heap.size + 1) 35 cE := (g8 _ (by omega)).trans ((HD8.out.block _ hwlt2).trans HE7.out)
          have bw : Below w.heap.size w wr := HD7.out.trans ((HD8.out.mono (by omega)).trans (HBW.out.mono (by omega)))
          obtain ⟨S0, hS0⟩ : ∃ S0 : World → Prop, S0 = fun W => Below wr.heap.size wr W := ⟨_, rfl⟩
          have fX : ∀ W, S0 W → (Instr.loadAt 43 (.pointer (some ⟨w7.heap.size, 0, none⟩))).run Try.prog W = .ok (.agg cX) W := fun W hW => by rw [hS0] at hW; exact blk_loadAt (Kx.below hW Kx.lt) Try.underlying43 rfl hi43
          have fS : ∀ W, S0 W → (Instr.loadAt 35 (.pointer (some ⟨w.heap.size, 0, none⟩))).run Try.prog W = .ok (.agg cA) W := fun W hW => by rw [hS0] at hW; exact blk_loadAt (Ks.below hW Ks.lt) Try.underlying35 rfl hi35
          have fO : ∀ W, S0 W → (Instr.loadAt 35 (.pointer (some ⟨w.heap.size + 1, 0, none⟩))).run Try.prog W = .ok (.agg cE) W := fun W hW => by rw [hS0] at hW; exact blk_loadAt (Ko.below hW Ko.lt) Try.underlying35 rfl hj35
          have HOF : Hid (∀ W, S0 W → Calls Try.prog 7 #[.agg cE] W fun e w' => ∃ sv' tv', e = .returned (.agg (stC o sv' tv')) ∧ StIn w' o sv' tv' ∧ Below W.heap.size W w') := Lib.hid fun W hW => by
            rw [hS0] at hW
            rw [HCE.out]
            exact (mof_any o _ _ W (GG.out.below (bw.trans (hW.mono bw.size))) m1 m2).mono fun e w' ⟨sv', tv', he, ho, hb⟩ => ⟨sv', tv', he, ho.st, hb⟩
          have HSM : Hid (∀ W sv' tv', S0 W → StIn W o sv' tv' → Calls Try.prog 11 #[.agg cX, .agg (stC o sv' tv')] W fun e w' => e = .returned (.bool (decide (s = o))) ∧ Below W.heap.size W w') := Lib.hid fun W sv' tv' hW hst => by
            rw [hS0] at hW
            rw [HCX.out]
            exact msameM_any s o _ _ sv' tv' W (HSX.out.below (HBW.out.trans (hW.mono HBW.out.size))) hst f1 f2
          have HSO : Hid (∀ W, S0 W → Calls Try.prog 9 #[.agg cA, .agg cE] W fun e w' => e = .returned (.bool (decide (s = o))) ∧ Below W.heap.size W w') := Lib.hid fun W hW => by
            rw [hS0] at hW
            rw [HCA.out, HCE.out]
            exact msame_any s o _ _ _ _ W (H.out.below (bw.trans (hW.mono bw.size))) (GG.out.below (bw.trans (hW.mono bw.size))) f1 f2
          have HP : Hid (∀ W, S0 W → Calls Try.prog 10 #[.agg cX] W fun e w' => ∃ sv' tv', e = .returned (.agg (stC s sv' tv')) ∧ StIn w' s sv' tv' ∧ Below W.heap.size W w') := Lib.hid fun W hW => by
            rw [hS0] at hW
            rw [HCX.out]
            exact (mplain_any s _ _ W (HSX.out.below (HBW.out.trans (hW.mono HBW.out.size))) f1 f2).mono fun e w' ⟨sv', tv', he, ho, hb⟩ => ⟨sv', tv', he, ho.st, hb⟩
          have HQ : Hid (∀ W sv' tv', S0 W → StIn W s sv' tv' → Calls Try.prog 9 #[.agg (stC s sv' tv'), .agg cA] W fun e w' => e = .returned (.bool true) ∧ Below W.heap.size W w') := Lib.hid fun W sv' tv' hW hst => by
            rw [hS0] at hW
            rw [HCA.out]
            exact (msame_any s s sv' tv' _ _ W hst (H.out.below (bw.trans (hW.mono bw.size))) f1 f2).mono fun e w' ⟨he, hb⟩ => ⟨by rw [he, decide_eq_true rfl], hb⟩
          have hSw : S0 wr.drew := by rw [hS0]; exact (Below.refl _ _).drew
          have hSB : ∀ W, S0 W → Below wr.heap.size wr W := fun W hW => by rw [hS0] at hW; exact hW
          have hSK : ∀ W W', S0 W → Below W.heap.size W W' → S0 W' := fun W W' hW hb => by rw [hS0] at hW ⊢; exact keep_below hb hW
          have HSB := Lib.hid hSB
          have HSK := Lib.hid hSK
          have HBW8 := Lib.hid bw
          obtain ⟨r, hr⟩ : ∃ r, r = decide (s = o) := ⟨_, rfl⟩
          rw [← hr] at HSM HSO
          have hok : decide (0 ≤ W) = ok := HOK.out.symm
          have hat : max W 0 = at0 := HAT.out.symm
          clear hS0 hSB hSK g8 Kx Ks Ko bw h78 hws8 hwlt hwlt2 hr
          repeat' (first
            | go_values
            | go_skip
            | go_guarded
            | ((fail_if_success (with_reducible refine drawn_mark ?_))
               first
                 | go_step
                 | go_upon
                 | go_back
                 | (simp only [Int.not_lt, Int.not_le] at *; go_simp)
                 | (go_values <;> (try go_simp))
                 | (go_ite <;> go_prune <;> (try go_simp))
                 | (split <;> (first | (rename_i hx; exact (hx _ rfl).elim) | go_prune))))
          refine G.wp_region_eff S0 [10, 13, 14, 17, 20, 22, 24] 26 (by kernel_rfl) (by kernel_rfl) (by kernel_rfl) hSw ?_
          simp only [List.take_succ_cons, List.take_zero, List.drop_succ_cons, List.drop_zero]
          refine G.wpLexE_take 10 (by kernel_rfl) (by kernel_rfl) ?_
          simp only [List.take_succ_cons, List.take_zero, List.drop_succ_cons, List.drop_zero]
          repeat (first
            | go_big_quiet_skip
            | (go_big_quiet_want
               go_big_quiet_op
               first
                 | go_big_quiet_on
                 | (apply Exists.intro
                    refine ⟨fun W hW => ?_, ?_⟩
                    · first
                        | exact rfl
                        | exact ⟨rfl, rfl⟩
                        | (simp only [Result.andThen_ok]; done)
                        | (simp only [Result.andThen_ok]; first | exact ⟨trivial, rfl⟩ | exact rfl | exact ⟨rfl, rfl⟩)
                        | (skip)
                    go_big_quiet_on)))
          refine wpQuiet_nil ?_
          show G.wpLexE _ _ _ _ _ _ _ _ _
          refine G.wpLexE_eff (by kernel_rfl) rfl ?_
          go_wp2_with fail
          refine ⟨rfl, hSw, ?_⟩
          refine G.wpLexE_take 2 (by kernel_rfl) (by kernel_rfl) ?_
          simp only [List.take_succ_cons, List.take_zero, List.drop_succ_cons, List.drop_zero]
          repeat (first
            | go_big_quiet_skip
            | (go_big_quiet_want; refine quiet_loadRow 43 (.tmp 11) (by rfl) (.agg cX) _ (by rfl) fX ?_; simp only [Act.put, List.setIfInBounds_toArray, List.set_cons_zero, List.set_cons_succ]; go_big_quiet_on)
            | (go_big_quiet_want; refine quiet_loadRow 35 (.tmp 4) (by rfl) (.agg cE) _ (by rfl) fO ?_; simp only [Act.put, List.setIfInBounds_toArray, List.set_cons_zero, List.set_cons_succ]; go_big_quiet_on)
            | (go_big_quiet_want
               go_big_quiet_op
               first
                 | go_big_quiet_on
                 | (apply Exists.intro
                    refine ⟨fun W hW => ?_, ?_⟩
                    · first
                        | exact rfl
                        | exact ⟨rfl, rfl⟩
                        | (simp only [Result.andThen_ok]; done)
                        | (simp only [Result.andThen_ok]; first | exact ⟨trivial, rfl⟩ | exact rfl | exact ⟨rfl, rfl⟩)
                        | (skip)
                    go_big_quiet_on)))
          refine wpQuiet_nil ?_
          show G.wpLexE _ _ _ _ _ _ _ _ _
          refine G.wpLexE_effg (by kernel_rfl) (by rfl) ?_
          go_wp2_with fail
          refine (HOF.out _ hSw).mono ?_
          rintro e wb ⟨so, ti, rfl, hso, hbb⟩
          have hSb : S0 wb := HSK.out _ _ hSw hbb
          obtain ⟨cO, hcO⟩ : ∃ x, x = stC o so ti := ⟨_, rfl⟩
          rw [← hcO]
          have hq := HSM.out wb so ti hSb hso
          rw [← hcO] at hq
          have HQ2 := Lib.hid hq
          clear hq hso hbb hcO
          go_wp2_with fail
          refine ⟨rfl, hSb, ?_⟩
          refine G.wpLexE_effg (by kernel_rfl) (by rfl) ?_
          go_wp2_with fail
          refine HQ2.out.mono ?_
          rintro e wc ⟨rfl, hbc⟩
          have hSc : S0 wc := HSK.out _ _ hSb hbc
          clear hbc
          go_wp2_with fail
          refine ⟨rfl, hSc, ?_⟩
          refine G.wpLexE_take 2 (by kernel_rfl) (by kernel_rfl) ?_
          simp only [List.take_succ_cons, List.take_zero, List.drop_succ_cons, List.drop_zero]
          repeat (first
            | go_big_quiet_skip
            | (go_big_quiet_want; refine quiet_loadRow 35 (.tmp 3) (by rfl) (.agg cA) _ (by rfl) fS ?_; simp only [Act.put, List.setIfInBounds_toArray, List.set_cons_zero, List.set_cons_succ]; go_big_quiet_on)
            | (go_big_quiet_want; refine quiet_loadRow 35 (.tmp 4) (by rfl) (.agg cE) _ (by rfl) fO ?_; simp only [Act.put, List.setIfInBounds_toArray, List.set_cons_zero, List.set_cons_succ]; go_big_quiet_on)
            | (go_big_quiet_want
               go_big_quiet_op
               first
                 | go_big_quiet_on
                 | (apply Exists.intro
                    refine ⟨fun W hW => ?_, ?_⟩
                    · first
                        | exact rfl
                        | exact ⟨rfl, rfl⟩
                        | (simp only [Result.andThen_ok]; done)
                        | (simp only [Result.andThen_ok]; first | exact ⟨trivial, rfl⟩ | exact rfl | exact ⟨rfl, rfl⟩)
                        | (skip)
                    go_big_quiet_on)))
          refine wpQuiet_nil ?_
          show G.wpLexE _ _ _ _ _ _ _ _ _
          refine G.wpLexE_effg (by kernel_rfl) (by rfl) ?_
          go_wp2_with fail
          refine (HSO.out _ hSc).mono ?_
          rintro e wd ⟨rfl, hbd⟩
          have hSd : S0 wd := HSK.out _ _ hSc hbd
          clear hbd
          go_wp2_with fail
          refine ⟨rfl, hSd, ?_⟩
          refine G.wpLexE_take 2 (by kernel_rfl) (by kernel_rfl) ?_
          simp only [List.take_succ_cons, List.take_zero, List.drop_succ_cons, List.drop_zero]
          repeat (first
            | go_big_quiet_skip
            | (go_big_quiet_want
               go_big_quiet_op
               first
                 | go_big_quiet_on
                 | (apply Exists.intro
                    refine ⟨fun W hW => ?_, ?_⟩
                    · first
                        | exact rfl
                        | exact ⟨rfl, rfl⟩
                        | (simp only [Result.andThen_ok]; done)
                        | (simp only [Result.andThen_ok]; first | exact ⟨trivial, rfl⟩ | exact rfl | exact ⟨rfl, rfl⟩)
                        | (skip)
                    go_big_quiet_on)))
          refine wpQuiet_nil ?_
          show G.wpLexE _ _ _ _ _ _ _ _ _
          refine G.wpLexE_eff (by kernel_rfl) rfl ?_
          go_wp2_with fail
          refine ⟨rfl, hSd, ?_⟩
          refine G.wpLexE_take 1 (by kernel_rfl) (by kernel_rfl) ?_
          simp only [List.take_succ_cons, List.take_zero, List.drop_succ_cons, List.drop_zero]
          repeat (first
            | go_big_quiet_skip
            | (go_big_quiet_want; refine quiet_loadRow 43 (.tmp 11) (by rfl) (.agg cX) _ (by rfl) fX ?_; simp only [Act.put, List.setIfInBounds_toArray, List.set_cons_zero, List.set_cons_succ]; go_big_quiet_on)
            | (go_big_quiet_want
               go_big_quiet_op
               first
                 | go_big_quiet_on
                 | (apply Exists.intro
                    refine ⟨fun W hW => ?_, ?_⟩
                    · first
                        | exact rfl
                        | exact ⟨rfl, rfl⟩
                        | (simp only [Result.andThen_ok]; done)
                        | (simp only [Result.andThen_ok]; first | exact ⟨trivial, rfl⟩ | exact rfl | exact ⟨rfl, rfl⟩)
                        | (skip)
                    go_big_quiet_on)))
          refine wpQuiet_nil ?_
          show G.wpLexE _ _ _ _ _ _ _ _ _
          refine G.wpLexE_effg (by kernel_rfl) (by rfl) ?_
          go_wp2_with fail
          refine (HP.out _ hSd).mono ?_
          rintro e we ⟨sp, tp, rfl, hsp, hbe⟩
          have hSe : S0 we := HSK.out _ _ hSd hbe
          obtain ⟨cP, hcP⟩ : ∃ x, x = stC s sp tp := ⟨_, rfl⟩
          rw [← hcP]
          have hq := HQ.out we sp tp hSe hsp
          rw [← hcP] at hq
          have HQ3 := Lib.hid hq
          clear hq hsp hbe hcP
          go_wp2_with fail
          refine ⟨rfl, hSe, ?_⟩
          refine G.wpLexE_take 1 (by kernel_rfl) (by kernel_rfl) ?_
          simp only [List.take_succ_cons, List.take_zero, List.drop_succ_cons, List.drop_zero]
          repeat (first
            | go_big_quiet_skip
            | (go_big_quiet_want; refine quiet_loadRow 35 (.tmp 3) (by rfl) (.agg cA) _ (by rfl) fS ?_; simp only [Act.put, List.setIfInBounds_toArray, List.set_cons_zero, List.set_cons_succ]; go_big_quiet_on)
            | (go_big_quiet_want
               go_big_quiet_op
               first
                 | go_big_quiet_on
                 | (apply Exists.intro
                    refine ⟨fun W hW => ?_, ?_⟩
                    · first
                        | exact rfl
                        | exact ⟨rfl, rfl⟩
                        | (simp only [Result.andThen_ok]; done)
                        | (simp only [Result.andThen_ok]; first | exact ⟨trivial, rfl⟩ | exact rfl | exact ⟨rfl, rfl⟩)
                        | (skip)
                    go_big_quiet_on)))
          refine wpQuiet_nil ?_
          show G.wpLexE _ _ _ _ _ _ _ _ _
          refine G.wpLexE_effg (by kernel_rfl) (by rfl) ?_
          go_wp2_with fail
          refine HQ3.out.mono ?_
          rintro e wf ⟨rfl, hbf⟩
          have hSf : S0 wf := HSK.out _ _ hSe hbf
          clear hbf
          go_wp2_with fail
          refine ⟨rfl, hSf, ?_⟩
          refine G.wpLexE_take 1 (by kernel_rfl) (by kernel_rfl) ?_
          simp only [List.take_succ_cons, List.take_zero, List.drop_succ_cons, List.drop_zero]
          repeat (first
            | go_big_quiet_skip
            | (go_big_quiet_want
               go_big_quiet_op
               first
                 | go_big_quiet_on
                 | (apply Exists.intro
                    refine ⟨fun W hW => ?_, ?_⟩
                    · first
                        | exact rfl
                        | exact ⟨rfl, rfl⟩
                        | (simp only [Result.andThen_ok]; done)
                        | (simp only [Result.andThen_ok]; first | exact ⟨trivial, rfl⟩ | exact rfl | exact ⟨rfl, rfl⟩)
                        | (skip)
                    go_big_quiet_on)))
          refine wpQuiet_nil ?_
          show wpList _ _ _ _ _ _
          go_wp2_with fail
          go_ret
          exact ⟨rfl, keep_below (HSB.out _ hSf) HBW8.out⟩
end Go.Proofs.Ytidmbibpoldgcaa