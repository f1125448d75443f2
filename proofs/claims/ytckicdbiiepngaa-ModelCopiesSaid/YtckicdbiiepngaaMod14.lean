/-
  Package model: Destroy.
-/
import Derived.Test.YtckicdbiiepngaaMod13
import Derived.Lib.AppendZeros
namespace Go.Proofs.Ytckicdbiiepngaa
set_option linter.unusedVariables false
set_option linter.unusedSimpArgs false
open Go.RowKit Go.Maps Go.Lib Go.Shelf

theorem rowC_app (a b : List (Int × Nat)) : rowC (a ++ b) = rowC a ++ rowC b := by simp [rowC]
theorem rowC_take (rs : List (Int × Nat)) (i : Nat) (hi : i ≤ rs.length) : (rowC rs).take (i * 2) = rowC (rs.take i) := by
  have e : rowC rs = rowC (rs.take i) ++ rowC (rs.drop i) := by rw [← rowC_app, List.take_append_drop]
  rw [e, List.take_append_of_le_length (by rw [rowC_len, List.length_take]; omega), List.take_of_length_le (by rw [rowC_len, List.length_take]; omega)]
theorem rowC_drop (rs : List (Int × Nat)) (i : Nat) (hi : i ≤ rs.length) : (rowC rs).drop (i * 2) = rowC (rs.drop i) := by
  have e : rowC rs = rowC (rs.take i) ++ rowC (rs.drop i) := by rw [← rowC_app, List.take_append_drop]
  have hl : (rowC (rs.take i)).length = i * 2 := by rw [rowC_len, List.length_take]; omega
  rw [e, ← hl, List.drop_left]
theorem rowC_erase (rs : List (Int × Nat)) (i : Nat) (hi : i < rs.length) : rowC (rs.eraseIdx i) = (rowC rs).take (i * 2) ++ (rowC rs).drop ((i + 1) * 2) := by
  rw [rowC_take rs i (by omega), rowC_drop rs (i + 1) (by omega), ← rowC_app, List.eraseIdx_eq_take_drop_succ]
theorem rowC_one (rs : List (Int × Nat)) : ∀ u ∈ rowC rs, u.oneCell' = true := by
  intro u hu
  simp only [rowC, List.mem_flatMap] at hu
  obtain ⟨r, _, hr⟩ := hu
  simp at hr
  rcases hr with rfl | rfl <;> rfl

/-- The two builtins of Delete: what is behind moves on, the last one is cleared. -/
theorem del_runs {w : World} {g cap n i : Nat} {rs : List (Int × Nat)} (h : w.ownsRow 0 75 2 (.slice (some ⟨g, 0, none⟩) n cap) n (rowC rs)) (hn : n = rs.length) (hi : i < n) (A : Addr) (hA : i + 1 ≠ cap → A = ⟨g, (i + 1) * 2, none⟩) : ∃ w1 w2,
    (Builtin.append_ #[58, 58] 58 #[.slice (some ⟨g, 0, none⟩) i cap, .slice (some A) (n - (i + 1)) (cap - (i + 1))]).run Try.prog w = .ok (.slice (some ⟨g, 0, none⟩) (n - 1) cap) w1 ∧
    (∀ ty, (Builtin.clear_ #[58] ty #[.slice (some ⟨g, (n - 1) * 2, none⟩) 1 (cap - (n - 1))]).run Try.prog w1 = .ok (.tuple #[]) w2) ∧
    w2.ownsRow 0 75 2 (.slice (some ⟨g, 0, none⟩) (n - 1) cap) (n - 1) (rowC (rs.eraseIdx i)) ∧ w.grownBy w2 (some g) ∧ w2.heap.size = w.heap.size := by
  obtain ⟨i0, hi0, hz0, hz1, hz2⟩ := info_parts Try.infoSn
  subst hn
  rcases h.2 with ⟨he, _⟩ | ⟨g', cap', cur, he, h1, h2, h3, h4, h5, h6⟩
  · cases he
  cases he
  have hcl : cur.toList.length = cap * 2 := by rw [Array.length_toList, h5]
  have hnl : (rowC (rs.drop (i + 1))).length = (rs.length - (i + 1)) * 2 := by rw [rowC_len, List.length_drop]
  have hrun := run_append_room (P := Try.prog) (w := w) 58 58 75 i0 Try.underlying58 hi0 g i cap cur h2 A (rs.length - (i + 1)) (cap - (i + 1)) (rowC (rs.drop (i + 1))) (by rw [hnl, hz1]) (fun j u hj => by
    have hjl := (List.getElem?_eq_some_iff.1 hj).1
    rw [hnl] at hjl
    rw [hA (by omega), Addr.add_mid]
    rw [← rowC_drop rs (i + 1) (by omega), List.getElem?_drop] at hj
    have := h.cells rfl _ _ hj
    rwa [Addr.add_mid, Nat.zero_add] at this) (rowC_one _) (by omega) (by rw [hz1, hnl, h5]; omega)
  rw [hz1, hnl, show i + (rs.length - (i + 1)) = rs.length - 1 by omega] at hrun
  have hc1 : cur.toList.take (i * 2) ++ rowC (rs.drop (i + 1)) = rowC (rs.eraseIdx i) := by
    rw [rowC_erase rs i hi, ← rowC_drop rs (i + 1) (by omega), ← h6, List.take_take, Nat.min_eq_left (by omega)]
  rw [hc1] at hrun
  obtain ⟨cur1, hcur1⟩ : ∃ c, c = (rowC (rs.eraseIdx i) ++ cur.toList.drop (i * 2 + (rs.length - (i + 1)) * 2)).toArray := ⟨_, rfl⟩
  rw [← hcur1] at hrun
  have hel : (rowC (rs.eraseIdx i)).length = (rs.length - 1) * 2 := by rw [rowC_len, List.length_eraseIdx, if_pos hi]
  have hs1 : cur1.size = cap * 2 := by
    rw [hcur1, List.size_toArray, List.length_append, hel, List.length_drop, hcl]; omega
  have hl1 : cur1.toList.length = cap * 2 := by rw [Array.length_toList, hs1]
  obtain ⟨w1, hw1⟩ : ∃ x, x = w.setRow g cur1 := ⟨_, rfl⟩
  have hg1 : w1.heap[g]? = some (.cells cur1 75 (0, 0)) := by rw [hw1]; exact setRow_heap w g _ _ _ _ h2
  have hst := run_storeCells_at Try.prog g ((rs.length - 1) * 2) 75 [.int .i64 0, .map none] 0 cur1 w1 hg1 (by rw [hs1]; simp; omega) (by intro v hv; simp at hv; rcases hv with rfl | rfl <;> rfl)
  simp only [Nat.add_zero] at hst
  obtain ⟨cur2, hcur2⟩ : ∃ c, c = (cur1.toList.take ((rs.length - 1) * 2) ++ [Value.int .i64 0, .map none] ++ cur1.toList.drop ((rs.length - 1) * 2 + [Value.int .i64 0, .map none].length)).toArray := ⟨_, rfl⟩
  rw [← hcur2] at hst
  have hs2 : cur2.size = cap * 2 := by
    rw [hcur2, List.size_toArray]; simp only [List.length_append, List.length_take, List.length_drop, hl1, List.length_cons, List.length_nil]; omega
  have hg2 : (w1.setRow g cur2).heap[g]? = some (.cells cur2 75 (0, 0)) := setRow_heap w1 g _ _ _ _ hg1
  refine ⟨w1, w1.setRow g cur2, by rw [hw1]; exact hrun, fun ty => ?_, ⟨by rw [hel], .inr ⟨g, cap, cur2, rfl, h1, hg2, by omega, h4, hs2, ?_⟩⟩, ?_, by rw [hw1]; simp⟩
  · have hzv : ∀ W, (zeroValue 75).run Try.prog W = .ok (.agg #[.int .i64 0, .map none]) W := fun W => by simp [zeroValue, typeInfo, hi0, hz0]
    have hzc : (Builtin.zeroCells (Value.agg #[.int .i64 0, .map none]).cells 1).toList = [.int .i64 0, .map none] := by kernel_rfl
    simp [Builtin.clear_, run_underlying Try.underlying58, hzv, hzc, hst]
  · rw [hcur2, List.toList_toArray, List.append_assoc, List.take_append_of_le_length (by rw [List.length_take, hl1]; omega), List.take_take, Nat.min_self, hcur1, List.toList_toArray, List.take_append_of_le_length (by rw [hel]; omega), List.take_of_length_le (by rw [hel]; omega)]
  · refine ⟨by rw [hw1]; rfl, by rw [hw1]; rfl, by rw [hw1]; rfl, by rw [hw1]; simp, fun k hk hne => ?_⟩
    have hkg : k ≠ g := fun e => hne (by rw [e])
    rw [setRow_other w1 g k _ hkg, hw1, setRow_other w g k _ hkg]

theorem sl_hi (W : World) (g n cap i : Nat) (h : i ≤ cap) : (Instr.slice 58 (.slice (some ⟨g, 0, none⟩) n cap) none (some (.int .i64 i)) none).run Try.prog W = .ok (.slice (some ⟨g, 0, none⟩) i cap) W := by
  obtain ⟨i0, hi0, hz0, hz1, hz2⟩ := info_parts Try.infoSn
  simp [Instr.slice, Instr.sliceBounds, Instr.sliceBound, run_underlying Try.underlying58, sizeOf, typeInfo, hi0, hz1, go_sem, h, Addr.add]
theorem sl_lo (W : World) (g n cap j : Nat) (A : Addr) (h : j ≤ n) (h0 : 0 < j) (hA : (if cap = j then some (⟨g, 0, none⟩ : Addr) else some ⟨g, j * 2, none⟩) = some A) : (Instr.slice 58 (.slice (some ⟨g, 0, none⟩) n cap) (some (.int .i64 j)) none none).run Try.prog W = .ok (.slice (some A) (n - j) (cap - j)) W := by
  obtain ⟨i0, hi0, hz0, hz1, hz2⟩ := info_parts Try.infoSn
  rw [← hA]
  have hj0 : ¬ j * 2 = 0 := by omega
  simp [hj0, Instr.slice, Instr.sliceBounds, Instr.sliceBound, run_underlying Try.underlying58, sizeOf, typeInfo, hi0, hz1, go_sem, h, Addr.add]

set_option maxRecDepth 20000 in
theorem del_any {w : World} {g cap n i j : Nat} {rs : List (Int × Nat)} (h : w.ownsRow 0 75 2 (.slice (some ⟨g, 0, none⟩) n cap) n (rowC rs)) (hn : n = rs.length) (hi : i < n) (few : n ≤ 4) (hj : j = i + 1) :
    Calls Try.prog 48 #[.slice (some ⟨g, 0, none⟩) n cap, .int .i64 i, .int .i64 j] w fun e w' => e = .returned (.slice (some ⟨g, 0, none⟩) (n - 1) cap) ∧
      w'.ownsRow 0 75 2 (.slice (some ⟨g, 0, none⟩) (n - 1) cap) (n - 1) (rowC (rs.eraseIdx i)) ∧ w.grownBy w' (some g) ∧ w'.heap.size = w.heap.size := by
  have hcap : n ≤ cap ∧ cap ≤ 9223372036854775807 := by
    rcases h.2 with ⟨he, _⟩ | ⟨g', cap', cur, he, h1, h2, h3, h4, _⟩
    · cases he
    · cases he; unfold maxLen at h4; omega
  obtain ⟨hc1, hc2⟩ := hcap
  obtain ⟨A, hA, hA2⟩ : ∃ A : Addr, (if cap = j then some (⟨g, 0, none⟩ : Addr) else some ⟨g, j * 2, none⟩) = some A ∧ (i + 1 ≠ cap → A = ⟨g, (i + 1) * 2, none⟩) := by
    by_cases e : cap = j
    · exact ⟨_, by rw [if_pos e], fun h => absurd (by omega) h⟩
    · exact ⟨_, by rw [if_neg e], fun _ => by rw [hj]⟩
  have hd : ∀ b : Nat, w.drew.heap[b]? = w.heap[b]? := fun b => rfl
  obtain ⟨w1, w2, r1, r2, hrow, hg, hs⟩ := del_runs (w := w.drew) (ownsRow_same h (fun b _ => hd b)) hn hi A hA2
  have hij : i < j := by omega
  have hjn : j ≤ n := by omega
  rw [← hj] at r1
  obtain ⟨k, rfl⟩ : ∃ k, n = k + 1 := ⟨n - 1, by omega⟩
  simp only [Nat.add_sub_cancel] at r1 r2 hrow ⊢
  have HROW := Lib.hid hrow
  have HG := Lib.hid hg
  have HS := Lib.hid hs
  have HR1 := Lib.hid r1
  have q1 := sl_hi w.drew g (k + 1) cap i (by omega)
  have q2 := sl_lo w.drew g (k + 1) cap j A hjn (by omega) hA
  clear hn hj hA
  clear hA2 hd hrow hg hs r1 h
  go_enter Try.func48, Try.ntmps48
  go_wp2_with fail
  refine wp_region_still_tail 6 (by kernel_rfl) (by kernel_rfl) ?_
  simp only [List.take_succ_cons, List.take_zero, List.drop_succ_cons, List.drop_zero]
  repeat still_step
  try refine wpStill_nil ?_
  change wpList _ _ _ _ _ w.drew
  refine Lib.wpList_append_run _ rfl (.tmp 22) (.tmp 25) _ _ rfl _ _ rfl rfl _ _ HR1.out ?_
  go_wp2_with fail
  go_ret
  exact ⟨rfl, HROW.out, ⟨HG.out.os, HG.out.tape, HG.out.output, HG.out.size, HG.out.block⟩, HS.out⟩

set_option maxRecDepth 20000 in
theorem destroy_any {w : World} {S : Nat → Prop} {b : Nat} {d : ModD} {N : Nat} (h : ModAt w S b d N) (id : Int) :
    Calls Try.prog 28 #[.pointer (some ⟨b, 0, none⟩), .int .i64 id] w fun e w' => ∃ er, e = .returned (.int .i64 er) ∧ Act1 w w' S b d N er := by
  have H := Lib.hid h
  have HF := Lib.hid (found_any h id)
  clear h
  go_enter Try.func28, Try.ntmps28
  go_wp2_with fail
  refine HF.out.mono ?_
  rintro e w1 ⟨⟨i, hi, rfl⟩ | rfl, hb1⟩
  · have HB1 := Lib.hid hb1
    have h := H.out.below hb1
    obtain ⟨m1, A1, n1, c1, m2, A2, n2, c2, S1, S2, h1, h2, h3, h4, h5, h6, h7⟩ := h
    obtain ⟨rs, hl, hr, hm1, hrs, hrb, hnd⟩ := h2
    obtain ⟨A1', c1', he⟩ := hr.form
    cases he
    have hir : i < rs.length := by rw [hr.len]; exact hi
    obtain ⟨g1, rfl⟩ : ∃ gv, A1 = some ⟨gv, 0, none⟩ := by
      rcases hr.row.2 with ⟨_, h0⟩ | ⟨b, cap, cur, he, _⟩
      · omega
      · cases he; exact ⟨b, rfl⟩
    have k1 := h1.at_ (i := 1) rfl
    have few := hr.few
    have hdel := del_any (j := i + 1) hr.row rfl hir few rfl
    rw [Int.natCast_add, Int.natCast_one] at hdel
    have HD := Lib.hid hdel
    have HX1 := Lib.hid h1
    have HALL := Lib.hid (And.intro h3 (And.intro h4 (And.intro h5 (And.intro h6 h7))))
    have HR := Lib.hid (And.intro hl (And.intro hr (And.intro hm1 (And.intro hrs (And.intro hrb hnd)))))
    have HIR := Lib.hid hir
    clear hb1 h1 hl hr hm1 hrs hrb hnd hi h3 h4 h5 h6 h7 hdel
    go_wp2_with fail
    refine HD.out.mono ?_
    rintro e w2 ⟨rfl, hrow2, hg2, hs2⟩
    have hgb : g1 ≠ b := by
      obtain ⟨_, _, _, _, hrb, _⟩ := HR.out
      obtain ⟨_, h4, _⟩ := HALL.out
      exact (h4 g1 (hrb g1 rfl)).2.1
    have hk2 : Blk w2 b 63 _ := (hg2.block b HX1.out.lt (fun e => hgb (by injection e with e; exact e.symm))).trans HX1.out
    have z1 := hk2.fr 1
    have c1x := hk2.at_ (i := 1) rfl
    have HROW2 := Lib.hid hrow2
    have HG2 := Lib.hid hg2
    have HS2 := Lib.hid hs2
    have HK2 := Lib.hid hk2
    clear hrow2 hg2 hs2 hk2 k1
    go_wp2_with fail
    obtain ⟨w3, hw3⟩ : ∃ x, x = w2.setCell ⟨b, 1, none⟩ (.slice (some ⟨g1, 0, none⟩) (rs.length - 1) c1) := ⟨_, rfl⟩
    have hk3 : Blk w3 b 63 #[.map (some m1), .slice (some ⟨g1, 0, none⟩) (rs.length - 1) c1, .map (some m2), .slice A2 n2 c2] := by rw [hw3]; exact HK2.out.put 1 _
    have g3 : ∀ i, i ≠ b → w3.heap[i]? = w2.heap[i]? := fun i hi => by rw [hw3]; exact Below.heap_setCell _ ⟨b, 1, none⟩ _ i hi
    have hs3 : w3.heap.size = w2.heap.size := by rw [hw3]; simp [World.setCell]
    obtain ⟨h3, h4, h5, h6, h7⟩ := HALL.out
    obtain ⟨hl, hr, hm1, hrs, hrb, hnd⟩ := HR.out
    have hSg := hrb g1 rfl
    have ho : Only S w w3 := by
      rw [hw3]
      exact (((Only.of_below (S := S) HB1.out)).trans (Only.of_grown (S := S) HG2.out (h4 g1 hSg).1) (fun i hi => .inl hi)).set (.inl H.out.has) _
    rw [← hw3]
    go_ret
    have q1 := HB1.out.size
    have q2 := HS2.out
    have q3 := HX1.out.lt
    have hir := HIR.out
    have old : ∀ i, i < w1.heap.size → i ≠ b → i ≠ g1 → w3.heap[i]? = w1.heap[i]? := fun i hi h1 h2 => (g3 i h1).trans (HG2.out.block i hi (fun e => h2 (by injection e)))
    have hgm : ∀ i D0 N0, MapT w1 i N0 D0 → i ≠ g1 := fun i D0 N0 hm e => map_row hm hr.row (by rw [e]; rfl)
    have hsub : ∀ r, r ∈ rs.eraseIdx i → r ∈ rs := fun r hr' => (List.eraseIdx_sublist rs i).mem hr'
    refine ⟨_, rfl, ⟨⟨⟨d.now.live, d.now.snaps.eraseIdx i⟩, d.kept⟩, ⟨m1, _, _, _, m2, A2, n2, c2, fun i => S1 i ∧ i < w1.heap.size, fun i => S2 i ∧ i < w1.heap.size, hk3, ⟨rs.eraseIdx i, ?_, ?_, ⟨hm1, World.ownsMap.lt hl⟩, fun r hr' => ⟨hrs r (hsub r hr'), hr.lt.2 r (hsub r hr')⟩, ?_, ?_⟩, ?_, ?_, ?_, .inl H.out.has, ?_⟩, ho, rfl, fun h => absurd rfl h⟩⟩
    · exact World.ownsMap.mono (MapT.same hl (old _ (World.ownsMap.lt hl) (h4 _ hm1).2.1 (hgm _ _ _ hl))) (by omega)
    · have hlen2 : (rs.eraseIdx i).length = rs.length - 1 := by rw [List.length_eraseIdx, if_pos hir]
      refine ⟨?_, by rw [hlen2, List.length_eraseIdx, if_pos (by rw [← hr.len]; exact hir), hr.len], ?_, ?_, by rw [hlen2]; have := hr.few; omega⟩
      · rw [hlen2]
        exact ownsRow_same HROW2.out (fun x e => by cases e; exact g3 g1 (h4 g1 hSg).2.1)
      · intro j r1 p1 e1 e2
        rw [List.getElem?_eraseIdx] at e1 e2
        split at e1
        · rename_i hji; rw [if_pos hji] at e2; exact hr.ids _ _ _ e1 e2
        · rename_i hji; rw [if_neg hji] at e2; exact hr.ids _ _ _ e1 e2
      · intro j r1 p1 e1 e2
        rw [List.getElem?_eraseIdx] at e1 e2
        have hm : MapT w1 r1.2 N p1.2 := by
          split at e1
          · rename_i hji; rw [if_pos hji] at e2; exact hr.maps _ _ _ e1 e2
          · rename_i hji; rw [if_neg hji] at e2; exact hr.maps _ _ _ e1 e2
        have hmem : r1 ∈ rs := hsub r1 (List.mem_of_getElem? (by rw [List.getElem?_eraseIdx]; exact e1))
        exact World.ownsMap.mono (MapT.same hm (old _ (World.ownsMap.lt hm) (h4 _ (hrs r1 hmem)).2.1 (hgm _ _ _ hm))) (by omega)
    · intro x e
      have hx : g1 = x := by simpa [Value.ownBlock] using e
      rw [← hx]
      exact ⟨hSg, hr.lt.1 g1 rfl⟩
    · rw [List.nodup_cons] at hnd ⊢
      refine ⟨fun hmem => ?_, hnd.2.sublist ((List.eraseIdx_sublist rs i).map _)⟩
      exact hnd.1 (((List.eraseIdx_sublist rs i).map Prod.snd).mem hmem)
    · exact (h3.mono (T := fun i => S2 i ∧ i < w1.heap.size) (fun i a c => ⟨c, a⟩)).same (fun i hi _ => old i hi.2 (h5 i hi.1).2 (fun e => (h4 g1 hSg).2.2 (e ▸ hi.1))) |>.monoN (by omega)
    · intro i hi
      exact ⟨.inl (h4 i hi.1).1, (h4 i hi.1).2.1, fun h => (h4 i hi.1).2.2 h.1⟩
    · intro i hi; exact ⟨.inl (h5 i hi.1).1, (h5 i hi.1).2⟩
    · intro i hi
      rcases hi with hi | hi
      · have := H.out.lt i hi; omega
      · exact hi.2
  · have HB1 := Lib.hid hb1
    clear hb1
    go_wp2_with fail
    go_ret
    exact ⟨_, rfl, Act1.below H.out HB1.out _⟩
end Go.Proofs.Ytckicdbiiepngaa
