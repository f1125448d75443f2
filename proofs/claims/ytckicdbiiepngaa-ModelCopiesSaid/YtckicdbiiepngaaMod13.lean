/-
  Package model: Snap.
-/
import Derived.Test.YtckicdbiiepngaaMod12
namespace Go.Proofs.Ytckicdbiiepngaa
set_option linter.unusedVariables false
set_option linter.unusedSimpArgs false
open Go.RowKit Go.Maps Go.Lib Go.Shelf

set_option maxRecDepth 20000 in
theorem snap_any {w : World} {S : Nat → Prop} {b : Nat} {d : ModD} {N : Nat} (h : ModAt w S b d N) (id : Int) :
    Calls Try.prog 27 #[.pointer (some ⟨b, 0, none⟩), .int .i64 id] w fun e w' => ∃ er, e = .returned (.int .i64 er) ∧ Act1 w w' S b d N er := by
  obtain ⟨i0, hi, hz0, hz1, hz2⟩ := info_parts Try.infoSn
  have H := Lib.hid h
  have HF := Lib.hid (find_any h id)
  clear h
  go_enter Try.func27, Try.ntmps27
  by_cases hlo : id < 0
  · have g1 : decide (id < 0) = true := decide_eq_true hlo
    go_wp2_with fail
    go_ret
    exact ⟨_, rfl, Act1.none (w' := w) H.out _⟩
  have g1 : decide (id < 0) = false := decide_eq_false hlo
  by_cases hup : 99 < id
  · have g2 : decide (99 < id) = true := decide_eq_true hup
    go_wp2_with fail
    go_ret
    exact ⟨_, rfl, Act1.none (w' := w) H.out _⟩
  have g2 : decide (99 < id) = false := decide_eq_false hup
  clear hlo hup
  go_wp2_with fail
  refine HF.out.mono ?_
  rintro e w1 ⟨i, rfl, hi1, hb1⟩
  have HB1 := Lib.hid hb1
  rcases hi1 with rfl | ⟨hi0, _⟩
  · have h := H.out.below hb1
    obtain ⟨m1, A1, n1, c1, m2, A2, n2, c2, S1, S2, h1, h2, h3, h4, h5, h6, h7⟩ := h
    obtain ⟨rs, hl, hr, hm1, hrs, hrb, hnd⟩ := h2
    obtain ⟨A1', c1', he⟩ := hr.form
    cases he
    have k0 := h1.at_ (i := 0) rfl
    have k1 := h1.at_ (i := 1) rfl
    have HX1 := Lib.hid h1
    have HALL := Lib.hid (And.intro h3 (And.intro h4 (And.intro h5 (And.intro h6 h7))))
    have HR := Lib.hid (And.intro hl (And.intro hr (And.intro hm1 (And.intro hrs (And.intro hrb hnd)))))
    have HL := Lib.hid hl
    have HROW := Lib.hid hr
    clear hb1 h1 hl hr hm1 hrs hrb hnd h3 h4 h5 h6 h7
    by_cases hfull : 4 ≤ rs.length
    · have g4 : decide (4 ≤ rs.length) = true := decide_eq_true hfull
      go_wp2_with fail
      go_ret
      exact ⟨_, rfl, Act1.below H.out HB1.out _⟩
    have g4 : decide (4 ≤ rs.length) = false := decide_eq_false hfull
    have few : rs.length < 4 := by omega
    clear hfull
    repeat' (first
      | go_values
      | go_skip
      | go_guarded
      | ((fail_if_success (with_reducible refine drawn_mark ?_))
         first
           | go_step
           | go_upon
           | go_back
           | (simp only [Int.not_lt, Int.not_le] at *; go_simp)
           | (go_values <;> (try go_simp))
           | (go_ite <;> go_prune <;> (try go_simp))
           | (split <;> (first | (rename_i hx; exact (hx _ rfl).elim) | go_prune))))
    obtain ⟨S0, hS1⟩ : ∃ S0 : World → Prop, S0 = fun W => W.heap[b]? = w1.heap[b]? := ⟨_, rfl⟩
    have f0 : ∀ W, S0 W → W.cell? ⟨b, 0, none⟩ = some (.map (some m1)) := fun W hW => by rw [hS1] at hW; exact (show Blk W _ _ _ from hW.trans HX1.out).at_ rfl
    have f1 : ∀ W, S0 W → W.cell? ⟨b, 1, none⟩ = some (.slice A1 rs.length c1) := fun W hW => by rw [hS1] at hW; exact (show Blk W _ _ _ from hW.trans HX1.out).at_ rfl
    have hSw : S0 w1.drew := by rw [hS1]; rfl
    have hS2 : ∀ W, W.heap[b]? = w1.heap[b]? → S0 W := fun W a => by rw [hS1]; exact a
    have HSS := Lib.hid hS2
    clear hS1 hS2 k0 k1
    refine wp_region_eff S0 [12, 13, 14, 15] 19 (by kernel_rfl) (by kernel_rfl) (by kernel_rfl) hSw ?_
    simp only [List.take_succ_cons, List.take_zero, List.drop_succ_cons, List.drop_zero]
    refine wpLexE_take 12 (by kernel_rfl) (by kernel_rfl) ?_
    simp only [List.take_succ_cons, List.take_zero, List.drop_succ_cons, List.drop_zero]
    repeat (first
      | go_big_quiet_skip
      | (go_big_quiet_want
         go_big_quiet_op
         first
           | go_big_quiet_on
           | (apply Exists.intro
              refine ⟨fun W hW => ?_, ?_⟩
              · first
                  | exact rfl
                  | exact ⟨rfl, rfl⟩
                  | (have e0 := f0 W hW; have e1 := f1 W hW; simp only [e0, e1, Result.andThen_ok]; done)
                  | (have e0 := f0 W hW; have e1 := f1 W hW; simp only [e0, e1, Result.andThen_ok]; first | exact ⟨trivial, rfl⟩ | exact rfl | exact ⟨rfl, rfl⟩)
                  | (skip)
              go_big_quiet_on)))
    refine wpQuiet_nil ?_
    show wpLexE _ _ _ _ _ _ _ _ _
    refine wpLexE_eff (by kernel_rfl) rfl ?_
    go_wp2_with fail
    refine (clone_any (w := w1.drew) (N := N) (D := d.now.live) (MapT.same HL.out rfl)).mono ?_
    rintro e w7 ⟨rfl, hm7, hs7, hb7⟩
    have hd6 : w1.drew.heap.size = w1.heap.size := rfl
    rw [hd6] at hm7 hs7 hb7
    have HM7 := Lib.hid hm7
    have HS7 := Lib.hid hs7
    have HB7 : Hid (Below w1.heap.size w1 w7) := Lib.hid ⟨hb7.os, hb7.tape, hb7.output, hb7.size, fun i hi => hb7.block i hi⟩
    have HSW7 : Hid (S0 w7) := Lib.hid (HSS.out _ (HB7.out.block _ HX1.out.lt))
    clear hm7 hs7 hb7 hd6 hSw
    go_wp2_with fail
    refine ⟨rfl, HSW7.out, ?_⟩
    refine wpLexE_eff (by kernel_rfl) rfl ?_
    go_wp2_with fail
    refine ⟨rfl, HSW7.out, ?_⟩
    refine wpLexE_eff (by kernel_rfl) rfl ?_
    go_wp2_with fail
    have hx7 : ∀ (X : Obj) i, i < w7.heap.size → (w7.alloc X).heap[i]? = w7.heap[i]? := fun X i hi => Below.heap_alloc w7 X i hi
    have hbl := HX1.out.lt
    have e7 : b < w7.heap.size := by have := HS7.out; omega
    have g7 : ∀ i, i < w1.heap.size → w7.heap[i]? = w1.heap[i]? := fun i hi => HB7.out.block i hi
    refine ⟨rfl, HSS.out _ ((hx7 _ _ e7).trans (g7 _ hbl)), ?_⟩
    have hrow7 : (w7.alloc (.cells #[.int .i64 id, .map (some w1.heap.size)] 75)).ownsRow 0 75 2 (.slice A1 rs.length c1) rs.length (rowC rs) :=
      ownsRow_same HROW.out.row (fun b e => by have := HROW.out.lt.1 b e; exact (hx7 _ b (by have := HS7.out; omega)).trans (g7 b this))
    have hfw := HROW.out.few
    refine wpLexE_eff (by kernel_rfl) rfl ?_
    refine wpList_append_own_at _ rfl (.tmp 33) (.tmp 42) 58 rfl 0 75 i0 (.agg #[.int .i64 0, .map none]) 2 16 Try.underlying58 hi hz0 hz1 hz2 rfl (by decide) _ _ _ rfl hrow7 ⟨w7.heap.size, 0, none⟩ 1 1 [.int .i64 id, .map (some w1.heap.size)] rfl rfl ?c1 ?c2 (by unfold maxLen; omega) (by omega) (Nat.zero_le _) ?_
    case c1 =>
      intro j u hj
      rw [Addr.add_mid, Nat.zero_add]
      exact (Blk.new w7 75 #[.int .i64 id, .map (some w1.heap.size)]).at_ (by simpa using hj)
    case c2 => intro u hu; simp at hu; rcases hu with rfl | rfl <;> rfl
    intro v' w8 hown' hgrow hnil hloc
    obtain ⟨gn, cap8, rfl, _, _⟩ := hown'.form (by omega)
    have hnb : ∀ x, (Value.slice A1 rs.length c1).ownBlock = some x → S1 x ∧ x ≠ b ∧ x < w1.heap.size := fun x e => by
      obtain ⟨_, _, _, _, hrb, _⟩ := HR.out
      obtain ⟨_, h4, _⟩ := HALL.out
      exact ⟨hrb x e, (h4 x (hrb x e)).2.1, HROW.out.lt.1 x e⟩
    have g8 : ∀ i, i < w7.heap.size → (∀ x, (Value.slice A1 rs.length c1).ownBlock = some x → x ≠ i) → w8.heap[i]? = w7.heap[i]? := fun i hi hn => (hgrow.block i (by simp; omega) (fun e => hn i e.symm rfl)).trans (hx7 _ i hi)
    have hsz8 : w7.heap.size + 1 ≤ w8.heap.size := by have := hgrow.size; simpa using this
    have hb8 : w8.heap[b]? = w1.heap[b]? := (g8 _ e7 (fun x e => (hnb x e).2.1)).trans (g7 _ hbl)
    have hSw8 : S0 w8 := HSS.out _ hb8
    refine ⟨rfl, hSw8, ?_⟩
    have HG8 := Lib.hid g8
    have HO8 : Hid (Only S w1 w8) := Lib.hid (by
      have o1 : Only S w1 w7 := Only.of_below HB7.out
      have o2 : Only S w1 (w7.alloc (.cells #[.int .i64 id, .map (some w1.heap.size)] 75)) := o1.alloc _
      obtain ⟨_, h4, _⟩ := HALL.out
      exact o2.trans (Only.of_grown' (S := S) hgrow (fun x e => (h4 x (hnb x e).1).1)) (fun i hi => .inl hi))
    have HK8 : Hid (Blk w8 b 63 #[.map (some m1), .slice A1 rs.length c1, .map (some m2), .slice A2 n2 c2]) := Lib.hid (hb8.trans HX1.out)
    have c80 := f1 w8 hSw8
    have z80 : w8.frozen? ⟨b, 1, none⟩ = false := HK8.out.fr 1
    have HE7 := Lib.hid e7
    have HG7 := Lib.hid g7
    have HNB := Lib.hid hnb
    have HOWN := Lib.hid hown'
    have HLOC := Lib.hid hloc
    have HZ8 := Lib.hid hsz8
    clear hrow7 hown' hgrow hnil hloc g8 g7 hnb hsz8 hx7 e7 hb8
    simp only [Act.put, List.setIfInBounds_toArray, List.set_cons_zero, List.set_cons_succ]
    refine wpLexE_take 3 (by kernel_rfl) (by kernel_rfl) ?_
    simp only [List.take_succ_cons, List.take_zero, List.drop_succ_cons, List.drop_zero]
    repeat (first
      | go_big_quiet_skip
      | (go_big_quiet_want
         go_big_quiet_op
         first
           | go_big_quiet_on
           | (apply Exists.intro
              refine ⟨fun W hW => ?_, ?_⟩
              · first
                  | exact rfl
                  | exact ⟨rfl, rfl⟩
                  | (have e0 := f0 W hW; have e1 := f1 W hW; simp only [e0, e1, Result.andThen_ok]; done)
                  | (have e0 := f0 W hW; have e1 := f1 W hW; simp only [e0, e1, Result.andThen_ok]; first | exact ⟨trivial, rfl⟩ | exact rfl | exact ⟨rfl, rfl⟩)
                  | (skip)
              go_big_quiet_on)))
    refine wpQuiet_nil ?_
    show wpList _ _ _ _ _ _
    go_wp2_with fail
    obtain ⟨w9, hw9⟩ : ∃ x, x = w8.setCell ⟨b, 1, none⟩ (.slice (some ⟨gn, 0, none⟩) (rs.length + 1) cap8) := ⟨_, rfl⟩
    have g9 : ∀ i, i ≠ b → w9.heap[i]? = w8.heap[i]? := fun i hi => by rw [hw9]; exact Below.heap_setCell w8 ⟨b, 1, none⟩ _ i hi
    have hk9 : Blk w9 b 63 #[.map (some m1), .slice (some ⟨gn, 0, none⟩) (rs.length + 1) cap8, .map (some m2), .slice A2 n2 c2] := by rw [hw9]; exact HK8.out.put 1 _
    have hs9 : w9.heap.size = w8.heap.size := by rw [hw9]; simp [World.setCell]
    have ho : Only S w w9 := by
      rw [hw9]
      exact (((Only.of_below (S := S) HB1.out)).trans HO8.out (fun i hi => .inl hi)).set (.inl H.out.has) _
    rw [← hw9]
    go_ret
    obtain ⟨h3, h4, h5, h6, h7⟩ := HALL.out
    obtain ⟨hl, hr, hm1, hrs, hrb, hnd⟩ := HR.out
    have q1 := HB1.out.size
    have q2 := HS7.out
    have q3 := HX1.out.lt
    have q4 := HZ8.out
    have hrow : ∀ x, (Value.slice A1 rs.length c1).ownBlock = some x → ∀ i D0, MapT w1 i N D0 → x ≠ i := fun x e i D0 hm h => map_row hm hr.row (h ▸ e)
    have old : ∀ i, i < w1.heap.size → i ≠ b → (∀ x, (Value.slice A1 rs.length c1).ownBlock = some x → x ≠ i) → w9.heap[i]? = w1.heap[i]? := fun i hi h1 h2 => ((g9 i h1).trans (HG8.out i (by omega) h2)).trans (HG7.out i hi)
    have hgn : gn ≠ b ∧ ((S1 gn ∧ gn < w1.heap.size) ∨ (w1.heap.size < gn ∧ gn < w8.heap.size)) := by
      rcases HLOC.out with e | e
      · have := HNB.out gn e.symm; exact ⟨this.2.1, .inl ⟨this.1, this.2.2⟩⟩
      · simp [Value.ownBlock] at e
        have := (HOWN.out.lt gn rfl).2
        exact ⟨by omega, .inr ⟨by omega, this⟩⟩
    refine ⟨_, rfl, ⟨⟨⟨d.now.live, d.now.snaps ++ [(id, d.now.live)]⟩, d.kept⟩, ⟨m1, _, _, _, m2, A2, n2, c2, fun i => (S1 i ∧ i < w1.heap.size) ∨ (w1.heap.size ≤ i ∧ i < w9.heap.size), fun i => S2 i ∧ i < w1.heap.size, hk9, ⟨rs ++ [(id, w1.heap.size)], ?_, ?_, .inl ⟨hm1, World.ownsMap.lt hl⟩, ?_, ?_, ?_⟩, ?_, ?_, ?_, .inl H.out.has, ?_⟩, ho, rfl, fun h => absurd rfl h⟩⟩
    · exact World.ownsMap.mono (MapT.same hl (old _ (World.ownsMap.lt hl) (h4 _ hm1).2.1 (fun x e => hrow x e _ _ hl))) (by omega)
    · have hlen2 : (rs ++ [(id, w1.heap.size)]).length = rs.length + 1 := by simp
      refine ⟨?_, by rw [List.length_append, List.length_append, hr.len]; rfl, ?_, ?_, by rw [hlen2]; omega⟩
      · rw [hlen2, rowC_snoc]
        exact ownsRow_same HOWN.out (fun x e => by cases e; exact g9 gn hgn.1)
      · intro i r1 p1 e1 e2
        by_cases hik : i < rs.length
        · rw [List.getElem?_append_left (by omega)] at e1
          rw [List.getElem?_append_left (by rw [← hr.len]; omega)] at e2
          exact hr.ids i r1 p1 e1 e2
        · have hi2 : i = rs.length := by have := (List.getElem?_eq_some_iff.1 e1).1; rw [hlen2] at this; omega
          subst hi2
          rw [List.getElem?_append_right (by omega), Nat.sub_self] at e1
          rw [List.getElem?_append_right (by rw [hr.len]; omega), hr.len, Nat.sub_self] at e2
          simp at e1 e2
          rw [← e1, ← e2]
      · intro i r1 p1 e1 e2
        by_cases hik : i < rs.length
        · rw [List.getElem?_append_left (by omega)] at e1
          rw [List.getElem?_append_left (by rw [← hr.len]; omega)] at e2
          have hm := hr.maps i r1 p1 e1 e2
          have hms := hrs r1 (List.mem_of_getElem? e1)
          exact World.ownsMap.mono (MapT.same hm (old _ (World.ownsMap.lt hm) (h4 _ hms).2.1 (fun x e => hrow x e _ _ hm))) (by omega)
        · have hi2 : i = rs.length := by have := (List.getElem?_eq_some_iff.1 e1).1; rw [hlen2] at this; omega
          subst hi2
          rw [List.getElem?_append_right (by omega), Nat.sub_self] at e1
          rw [List.getElem?_append_right (by rw [hr.len]; omega), hr.len, Nat.sub_self] at e2
          simp at e1 e2
          rw [← e1, ← e2]
          exact World.ownsMap.mono (MapT.same HM7.out ((g9 _ (by omega)).trans (HG8.out _ (by omega) (fun x e => by have := HNB.out x e; omega)))) (by omega)
    · intro r1 e1
      rcases List.mem_append.1 e1 with e1 | e1
      · exact .inl ⟨hrs r1 e1, hr.lt.2 r1 e1⟩
      · simp at e1; rw [e1]; exact .inr ⟨Nat.le_refl _, by show w1.heap.size < _; omega⟩
    · intro x e
      have hx : gn = x := by simpa [Value.ownBlock] using e
      rw [← hx]
      rcases hgn.2 with q | q
      · exact .inl q
      · exact .inr ⟨Nat.le_of_lt q.1, by rw [hs9]; exact q.2⟩
    · rw [List.map_append, ← List.cons_append, List.nodup_append]
      refine ⟨hnd, by simp, fun a ha x hx => ?_⟩
      simp at hx
      have hal : a < w1.heap.size := by
        rcases List.mem_cons.1 ha with rfl | ha
        · exact World.ownsMap.lt hl
        · obtain ⟨r1, hr1, rfl⟩ := List.mem_map.1 ha
          exact hr.lt.2 r1 hr1
      omega
    · exact (h3.mono (T := fun i => S2 i ∧ i < w1.heap.size) (fun i a c => ⟨c, a⟩)).same (fun i hi _ => old i hi.2 (h5 i hi.1).2 (fun x e h => (h4 x (HNB.out x e).1).2.2 (h ▸ hi.1))) |>.monoN (by omega)
    · intro i hi
      rcases hi with hi | hi
      · exact ⟨.inl (h4 i hi.1).1, (h4 i hi.1).2.1, fun h => (h4 i hi.1).2.2 h.1⟩
      · exact ⟨.inr ⟨by omega, by omega⟩, by omega, fun h => by omega⟩
    · intro i hi; exact ⟨.inl (h5 i hi.1).1, (h5 i hi.1).2⟩
    · intro i hi
      rcases hi with hi | hi
      · have := H.out.lt i hi; omega
      · exact hi.2
  · obtain ⟨k, rfl⟩ := Int.eq_ofNat_of_zero_le hi0
    have hd : decide (0 ≤ (k : Int)) = true := decide_eq_true (by omega)
    clear hb1 hi0
    go_wp2_with fail
    go_ret
    exact ⟨_, rfl, Act1.below H.out HB1.out _⟩
end Go.Proofs.Ytckicdbiiepngaa
