/-
  Layer 17: slices.Clone, master.Copy.
-/
import Derived.Test.YtidmbibpoldgcaaMst4
import Derived.Lib.SliceRun
namespace Go.Proofs.Ytidmbibpoldgcaa
set_option linter.unusedVariables false
set_option linter.unusedSimpArgs false
open Go.RowKit

set_option maxRecDepth 20000 in
theorem cloneS_any (ss : List SnapA) (sv : Value) (w : World) (h : RowAt w sv ss.length (snapC ss)) (f1 : ss.length ≤ 30) :
    Calls Try.prog 14 #[sv] w fun e w' => ∃ v, e = .returned v ∧ w'.ownsRow w.heap.size 47 15 v ss.length (snapC ss) ∧ Below w.heap.size w w' := by
  obtain ⟨i0, hi, hz0, hz1, hz2⟩ := info_parts Try.infoMSnap
  obtain ⟨A, c, rfl⟩ := h.form
  cases A with
  | none =>
    have h0 : ss.length = 0 := by
      by_cases e : 0 < ss.length
      · obtain ⟨b, o, he, _⟩ := h.cells e; cases he
      · omega
    have h1 : ss = [] := List.length_eq_zero_iff.1 h0
    subst h1
    have hq : ∀ W, (binOp .eql 38 (.slice none 0 c) (.slice none 0 0)).run Try.prog W = .ok (.bool true) W := fun W => Lib.run_eql_slice_nil W _ _ none _ _ _ _ Try.underlying38
    clear h
    go_enter Try.func14, Try.ntmps14
    go_wp2_with fail
    go_ret
    exact ⟨_, rfl, World.ownsRow_nil _ _ _ _, Below.refl _ _⟩
  | some ad =>
    have H := Lib.hid h
    have hq : ∀ W, (binOp .eql 38 (.slice (some ad) ss.length c) (.slice none 0 0)).run Try.prog W = .ok (.bool false) W := fun W => Lib.run_eql_slice_nil W _ _ (some ad) _ _ _ _ Try.underlying38
    clear h
    go_enter Try.func14, Try.ntmps14
    have hown : (w.alloc (.cells #[] 47)).ownsRow w.heap.size 47 15 (.slice (some ⟨w.heap.size, 0, none⟩) 0 0) 0 [] :=
      ⟨rfl, .inr ⟨w.heap.size, 0, #[], rfl, Nat.le_refl _, heap_alloc_new w _, Nat.le_refl _, by unfold maxLen; omega, rfl, rfl⟩⟩
    have hnews : ∀ j u, (snapC ss)[j]? = some u → (w.alloc (.cells #[] 47)).cell? (ad.add j) = some u := fun j u hu => by
      have hj := (List.getElem?_eq_some_iff.1 hu).1
      rw [snapC_len] at hj
      obtain ⟨b, o, he, hb, hc⟩ := H.out.cells (by omega)
      cases he
      rw [Addr.add_mid]
      exact cell_alloc (hc j u hu) _
    have h1c : ∀ u ∈ snapC ss, u.oneCell' = true := fun u hu => by
      simp only [snapC, List.mem_flatMap] at hu
      obtain ⟨x, _, hx⟩ := hu
      simp only [snapL, List.mem_cons, List.not_mem_nil, or_false] at hx
      rcases hx with rfl | rfl | rfl | rfl | rfl | rfl | rfl | rfl | rfl | rfl | rfl | rfl | rfl | rfl | rfl <;> rfl
    go_wp2_with (at_builtin; refine wpList_append_own_at _ rfl _ _ 38 rfl w.heap.size 47 i0 _ 15 120 Try.underlying38 hi hz0 hz1 hz2 rfl (by decide) _ _ _ rfl hown ad ss.length c (snapC ss) rfl (snapC_len ss) hnews h1c (by unfold maxLen; omega) (by omega) (by simp) ?_)
    intro v' w8 hown' hgrow _ _
    have HO := Lib.hid hown'
    have HB : Hid (Below w.heap.size w w8) := Lib.hid ((keep_alloc (Below.refl _ w) _).grown hgrow (by simp) (fun y e => by simp [Value.ownBlock] at e; omega))
    clear hown' hgrow hown hnews h1c
    go_wp2_with fail
    go_ret
    exact ⟨_, rfl, HO.out, HB.out⟩
set_option maxRecDepth 20000 in
theorem cloneR_any (ss : List (Int × Int)) (sv : Value) (w : World) (h : RowAt w sv ss.length (staC ss)) (f1 : ss.length ≤ 60) :
    Calls Try.prog 15 #[sv] w fun e w' => ∃ v, e = .returned v ∧ w'.ownsRow w.heap.size 49 2 v ss.length (staC ss) ∧ Below w.heap.size w w' := by
  obtain ⟨i0, hi, hz0, hz1, hz2⟩ := info_parts Try.infoRange
  obtain ⟨A, c, rfl⟩ := h.form
  cases A with
  | none =>
    have h0 : ss.length = 0 := by
      by_cases e : 0 < ss.length
      · obtain ⟨b, o, he, _⟩ := h.cells e; cases he
      · omega
    have h1 : ss = [] := List.length_eq_zero_iff.1 h0
    subst h1
    have hq : ∀ W, (binOp .eql 41 (.slice none 0 c) (.slice none 0 0)).run Try.prog W = .ok (.bool true) W := fun W => Lib.run_eql_slice_nil W _ _ none _ _ _ _ Try.underlying41
    clear h
    go_enter Try.func15, Try.ntmps15
    go_wp2_with fail
    go_ret
    exact ⟨_, rfl, World.ownsRow_nil _ _ _ _, Below.refl _ _⟩
  | some ad =>
    have H := Lib.hid h
    have hq : ∀ W, (binOp .eql 41 (.slice (some ad) ss.length c) (.slice none 0 0)).run Try.prog W = .ok (.bool false) W := fun W => Lib.run_eql_slice_nil W _ _ (some ad) _ _ _ _ Try.underlying41
    clear h
    go_enter Try.func15, Try.ntmps15
    have hown : (w.alloc (.cells #[] 49)).ownsRow w.heap.size 49 2 (.slice (some ⟨w.heap.size, 0, none⟩) 0 0) 0 [] :=
      ⟨rfl, .inr ⟨w.heap.size, 0, #[], rfl, Nat.le_refl _, heap_alloc_new w _, Nat.le_refl _, by unfold maxLen; omega, rfl, rfl⟩⟩
    have hnews : ∀ j u, (staC ss)[j]? = some u → (w.alloc (.cells #[] 49)).cell? (ad.add j) = some u := fun j u hu => by
      have hj := (List.getElem?_eq_some_iff.1 hu).1
      rw [staC_len] at hj
      obtain ⟨b, o, he, hb, hc⟩ := H.out.cells (by omega)
      cases he
      rw [Addr.add_mid]
      exact cell_alloc (hc j u hu) _
    have h1c : ∀ u ∈ staC ss, u.oneCell' = true := fun u hu => by
      simp only [staC, List.mem_flatMap] at hu
      obtain ⟨x, _, hx⟩ := hu
      simp only [staL, List.mem_cons, List.not_mem_nil, or_false] at hx
      rcases hx with rfl | rfl <;> rfl
    go_wp2_with (at_builtin; refine wpList_append_own_at _ rfl _ _ 41 rfl w.heap.size 49 i0 _ 2 16 Try.underlying41 hi hz0 hz1 hz2 rfl (by decide) _ _ _ rfl hown ad ss.length c (staC ss) rfl (staC_len ss) hnews h1c (by unfold maxLen; omega) (by omega) (by simp) ?_)
    intro v' w8 hown' hgrow _ _
    have HO := Lib.hid hown'
    have HB : Hid (Below w.heap.size w w8) := Lib.hid ((keep_alloc (Below.refl _ w) _).grown hgrow (by simp) (fun y e => by simp [Value.ownBlock] at e; omega))
    clear hown' hgrow hown hnews h1c
    go_wp2_with fail
    go_ret
    exact ⟨_, rfl, HO.out, HB.out⟩

set_option maxRecDepth 20000 in
theorem mcpy_any (s : StA) (sv tv : Value) (w : World) (h : StIn w s sv tv) (l1 : s.snaps.length ≤ 30) (l2 : s.stale.length ≤ 60) :
    Calls Try.prog 8 #[.agg (stC s sv tv)] w fun e w' => ∃ sv' tv', e = .returned (.agg (stC s sv' tv')) ∧ OwnSt 47 49 w.heap.size w' s sv' tv' ∧ Below w.heap.size w w' := by
  obtain ⟨A1, c1, rfl⟩ := h.snaps.form
  obtain ⟨A2, c2, rfl⟩ := h.stale.form
  have H := Lib.hid h
  clear h
  obtain ⟨cA, hcA⟩ : ∃ x, x = stC s (.slice A1 s.snaps.length c1) (.slice A2 s.stale.length c2) := ⟨_, rfl⟩
  rw [← hcA]
  obtain ⟨w2, hw2⟩ : ∃ x, (w.alloc (.cells cA 43)).alloc (.cells #[.int .i64 0, .int .i64 0, .int .i64 0, .int .i64 0, .int .i64 0, .bool false, .int .i64 0, .int .i64 0, .int .i64 0, .int .u64 0, .int .u64 0, .int .u64 0, .int .u64 0, .slice none 0 0, .int .i64 0, .int .i64 0, .int .i64 0, .int .i64 0, .int .i64 0, .int .i64 0, .int .i64 0, .int .i64 0, .int .i64 0, .slice none 0 0] 43) = x := ⟨_, rfl⟩
  have B2 : Blk w2 w.heap.size 43 cA := by rw [← hw2]; exact (Blk.new _ _ _).alloc _
  have Z2 : Blk w2 (w.heap.size + 1) 43 #[.int .i64 0, .int .i64 0, .int .i64 0, .int .i64 0, .int .i64 0, .bool false, .int .i64 0, .int .i64 0, .int .i64 0, .int .u64 0, .int .u64 0, .int .u64 0, .int .u64 0, .slice none 0 0, .int .i64 0, .int .i64 0, .int .i64 0, .int .i64 0, .int .i64 0, .int .i64 0, .int .i64 0, .int .i64 0, .int .i64 0, .slice none 0 0] := by rw [← hw2]; exact Blk.new2 w _ _ _
  have d2 : Below w.heap.size w w2 := by rw [← hw2]; exact keep_alloc (keep_alloc (Below.refl _ _) _) _
  have s2 : w2.heap.size = w.heap.size + 2 := by rw [← hw2]; simp
  rw [hcA] at B2
  have HB2 := Lib.hid B2
  have HZ2 := Lib.hid Z2
  have HD2 := Lib.hid d2
  have HS2 := Lib.hid s2
  clear hcA B2 Z2 d2 s2
  go_enter Try.func8, Try.ntmps8
  repeat' (first
    | go_values
    | go_skip
    | go_guarded
    | ((fail_if_success (with_reducible refine drawn_mark ?_))
       first
         | go_step
         | go_upon
         | go_back
         | (simp only [Int.not_lt, Int.not_le] at *; go_simp)
         | (go_values <;> (try go_simp))
         | (go_ite <;> go_prune <;> (try go_simp))
         | (split <;> (first | (rename_i hx; exact (hx _ rfl).elim) | go_prune))))
  obtain ⟨S0, hS0⟩ : ∃ S0 : World → Prop, S0 = fun W => Below w2.heap.size w2 W := ⟨_, rfl⟩
  have f0 : ∀ W, S0 W → W.cell? ⟨w.heap.size, 13, none⟩ = some (.slice A1 s.snaps.length c1) := fun W hW => by rw [hS0] at hW; exact (HB2.out.below hW HB2.out.lt).at_ rfl
  have f1 : ∀ W, S0 W → W.cell? ⟨w.heap.size, 23, none⟩ = some (.slice A2 s.stale.length c2) := fun W hW => by rw [hS0] at hW; exact (HB2.out.below hW HB2.out.lt).at_ rfl
  have hSw : S0 w2.drew := by rw [hS0]; exact (Below.refl _ _).drew
  have hSS : ∀ W, Below w2.heap.size w2 W → S0 W := fun W a => by rw [hS0]; exact a
  have HSS := Lib.hid hSS
  clear hS0 hSS
  refine wp_region_eff S0 [2, 5] 7 (by kernel_rfl) (by kernel_rfl) (by kernel_rfl) hSw ?_
  simp only [List.take_succ_cons, List.take_zero, List.drop_succ_cons, List.drop_zero]
  refine wpLexE_take 2 (by kernel_rfl) (by kernel_rfl) ?_
  simp only [List.take_succ_cons, List.take_zero, List.drop_succ_cons, List.drop_zero]
  repeat (first
    | go_big_quiet_skip
    | (go_big_quiet_want
       go_big_quiet_op
       first
         | go_big_quiet_on
         | (apply Exists.intro
            refine ⟨fun W hW => ?_, ?_⟩
            · first
                | exact rfl
                | exact ⟨rfl, rfl⟩
                | (have e0 := f0 W hW; have e1 := f1 W hW; simp only [e0, e1, Result.andThen_ok]; done)
                | (have e0 := f0 W hW; have e1 := f1 W hW; simp only [e0, e1, Result.andThen_ok]; first | exact ⟨trivial, rfl⟩ | exact rfl | exact ⟨rfl, rfl⟩)
                | (skip)
            go_big_quiet_on)))
  refine wpQuiet_nil ?_
  show wpLexE _ _ _ _ _ _ _ _ _
  refine wpLexE_eff (by kernel_rfl) rfl ?_
  go_wp2_with fail
  have h1 : RowAt w2.drew (.slice A1 s.snaps.length c1) s.snaps.length (snapC s.snaps) := H.out.snaps.below (below_drew' HD2.out)
  refine (cloneS_any s.snaps _ _ h1 l1).mono ?_
  rintro e w3 ⟨v1, rfl, r1, b3⟩
  have B3 : Below w2.heap.size w2 w3 := ⟨b3.os, b3.tape, b3.output, b3.size, fun i hi => b3.block i hi⟩
  have hd2 : w2.drew.heap.size = w2.heap.size := rfl
  rw [hd2] at r1
  have HR1 := Lib.hid r1
  have HB3 := Lib.hid B3
  have hS3 : S0 w3 := HSS.out _ B3
  clear h1 r1 b3 B3 hd2
  go_wp2_with fail
  refine ⟨rfl, hS3, ?_⟩
  refine wpLexE_take 2 (by kernel_rfl) (by kernel_rfl) ?_
  simp only [List.take_succ_cons, List.take_zero, List.drop_succ_cons, List.drop_zero]
  repeat (first
    | go_big_quiet_skip
    | (go_big_quiet_want
       go_big_quiet_op
       first
         | go_big_quiet_on
         | (apply Exists.intro
            refine ⟨fun W hW => ?_, ?_⟩
            · first
                | exact rfl
                | exact ⟨rfl, rfl⟩
                | (have e0 := f0 W hW; have e1 := f1 W hW; simp only [e0, e1, Result.andThen_ok]; done)
                | (have e0 := f0 W hW; have e1 := f1 W hW; simp only [e0, e1, Result.andThen_ok]; first | exact ⟨trivial, rfl⟩ | exact rfl | exact ⟨rfl, rfl⟩)
                | (skip)
            go_big_quiet_on)))
  refine wpQuiet_nil ?_
  show wpLexE _ _ _ _ _ _ _ _ _
  refine wpLexE_eff (by kernel_rfl) rfl ?_
  go_wp2_with fail
  have h2 : RowAt w3 (.slice A2 s.stale.length c2) s.stale.length (staC s.stale) := H.out.stale.below (HD2.out.trans (HB3.out.mono HD2.out.size))
  refine (cloneR_any s.stale _ _ h2 l2).mono ?_
  rintro e w4 ⟨v2, rfl, r2, b4⟩
  have B4 : Below w2.heap.size w2 w4 := keep_below b4 HB3.out
  have hS4 : S0 w4 := HSS.out _ B4
  have hr1 := ownsRow_same HR1.out (fun y e => b4.block y (HR1.out.lt y e).2)
  have hap : ∀ y, v2.ownBlock = some y → v1.ownBlock ≠ some y := fun y e1 e2 => by have := (HR1.out.lt y e2).2; have := (r2.lt y e1).1; omega
  obtain ⟨A3, c3, rfl⟩ := (rowAt_own hr1).form
  obtain ⟨A4, c4, rfl⟩ := (rowAt_own r2).form
  have HR1' := Lib.hid hr1
  have HR2 := Lib.hid r2
  have HAP := Lib.hid hap
  have HB4 := Lib.hid B4
  have K4 := HB2.out.below B4 HB2.out.lt
  have Z4 := HZ2.out.below B4 HZ2.out.lt
  have z13 : w4.frozen? ⟨w.heap.size, 13, none⟩ = false := K4.fr 13
  have z23 : w4.frozen? ⟨w.heap.size, 23, none⟩ = false := K4.fr 23
  have HK4 := Lib.hid K4
  have HZ4 := Lib.hid Z4
  clear h2 r2 b4 B4 hr1 hap K4 Z4
  go_wp2_with fail
  refine ⟨rfl, hS4, ?_⟩
  refine wpLexE_take 1 (by kernel_rfl) (by kernel_rfl) ?_
  simp only [List.take_succ_cons, List.take_zero, List.drop_succ_cons, List.drop_zero]
  repeat (first
    | go_big_quiet_skip
    | (go_big_quiet_want
       go_big_quiet_op
       first
         | go_big_quiet_on
         | (apply Exists.intro
            refine ⟨fun W hW => ?_, ?_⟩
            · first
                | exact rfl
                | exact ⟨rfl, rfl⟩
                | (have e0 := f0 W hW; have e1 := f1 W hW; simp only [e0, e1, Result.andThen_ok]; done)
                | (have e0 := f0 W hW; have e1 := f1 W hW; simp only [e0, e1, Result.andThen_ok]; first | exact ⟨trivial, rfl⟩ | exact rfl | exact ⟨rfl, rfl⟩)
                | (skip)
            go_big_quiet_on)))
  refine wpQuiet_nil ?_
  show wpList _ _ _ _ _ _
  have c13 := f0 w4 hS4
  have c23 := f1 w4 hS4
  have hb3s := HB3.out.size
  have hs2s := HS2.out
  obtain ⟨cB, hcB⟩ : ∃ x, x = stC s (.slice A3 s.snaps.length c3) (.slice A4 s.stale.length c4) := ⟨_, rfl⟩
  obtain ⟨w5, hw5⟩ : ∃ x, (w4.setCell ⟨w.heap.size, 13, none⟩ (.slice A3 s.snaps.length c3)).setCell ⟨w.heap.size, 23, none⟩ (.slice A4 s.stale.length c4) = x := ⟨_, rfl⟩
  have K5 : Blk w5 w.heap.size 43 cB := by rw [← hw5, hcB, ← stC_23 s _ (.slice A2 s.stale.length c2), ← stC_13 s (.slice A1 s.snaps.length c1)]; exact (HK4.out.put 13 _).put 23 _
  have g5 : ∀ i, i ≠ w.heap.size → w5.heap[i]? = w4.heap[i]? := fun i hi => by
    rw [← hw5]
    exact (Below.heap_setCell _ ⟨w.heap.size, 23, none⟩ _ i hi).trans (Below.heap_setCell _ ⟨w.heap.size, 13, none⟩ _ i hi)
  have Z5 : Blk w5 (w.heap.size + 1) 43 #[.int .i64 0, .int .i64 0, .int .i64 0, .int .i64 0, .int .i64 0, .bool false, .int .i64 0, .int .i64 0, .int .i64 0, .int .u64 0, .int .u64 0, .int .u64 0, .int .u64 0, .slice none 0 0, .int .i64 0, .int .i64 0, .int .i64 0, .int .i64 0, .int .i64 0, .int .i64 0, .int .i64 0, .int .i64 0, .int .i64 0, .slice none 0 0] := (g5 _ (by omega)).trans HZ4.out
  have b5 : Below w.heap.size w w5 := by rw [← hw5]; exact below_set (below_set (HD2.out.trans (HB4.out.mono HD2.out.size)) _ _ _ (Nat.le_refl _)) _ _ _ (Nat.le_refl _)
  have h1c : cB.all (·.oneCell') = true := by rw [hcB]; exact stC_one s A3 A4 _ _ _ _
  have hi43 : (Try.prog.info? 43).map (·.size) = some cB.size := by rw [hcB, stC_size]; kernel_rfl
  have hth : w5.there (w.heap.size + 1) 0 cB.size := Z5.there (by rw [hcB, stC_size]; exact Nat.le_refl 24)
  have HRES : Hid (Blk (w5.setCells (w.heap.size + 1) 0 cB.toList) (w.heap.size + 1) 43 cB) := Lib.hid (Z5.putAll _ (by rw [hcB]; rfl))
  have HS5 : Hid (∀ i, i ≠ w.heap.size → i ≠ w.heap.size + 1 → (w5.setCells (w.heap.size + 1) 0 cB.toList).heap[i]? = w4.heap[i]?) := Lib.hid fun i h1 h2 => (sets_far _ _ _ _ trivial h2).trans (g5 i h1)
  have HB5 : Hid (Below w.heap.size w (w5.setCells (w.heap.size + 1) 0 cB.toList)) := Lib.hid (below_sets _ _ b5 (by omega))
  have HCB := Lib.hid hcB
  clear f0 f1 hSw hS3 hS4 hcB g5 Z5 b5
  go_wp2_with (first
    | ((with_reducible refine wpList_load_want ?qw 43 (.tmp 1) ?q2 w.heap.size ?q3 43 cB _ K5 Try.underlying43 rfl hi43 ?_); (case q2 => rfl); (case q3 => rfl); (case qw => rfl))
    | ((with_reducible refine wpList_store_mid ?a1 43 (.tmp 2) (.tmp 11) ?a2 (w.heap.size + 1) 0 cB ?a3 ?a4 hth hi43 h1c ?_); (case a1 => rfl); (case a2 => rfl); (case a3 => rfl); (case a4 => rfl)))
  refine bodyPost_ret (v := .agg cB) (results_cell_row rfl _ _ (w.heap.size + 1) 43 cB (0, 0) _ rfl HRES.out Try.underlying43 rfl hi43) rfl ⟨_, _, by rw [HCB.out], ⟨?_, ?_, HAP.out⟩, HB5.out⟩
  · exact ownsRow_low (ownsRow_same HR1'.out (fun y e => HS5.out y (by have := HR1'.out.lt y e; omega) (by have := HR1'.out.lt y e; omega))) (by omega)
  · exact ownsRow_low (ownsRow_same HR2.out (fun y e => HS5.out y (by have := HR2.out.lt y e; omega) (by have := HR2.out.lt y e; omega))) (by omega)
end Go.Proofs.Ytidmbibpoldgcaa