/-
  Package model: Keep, Back, Copy.
-/
import Derived.Test.YtckicdbiiepngaaMod3
namespace Go.Proofs.Ytckicdbiiepngaa
set_option linter.unusedVariables false
set_option linter.unusedSimpArgs false
open Go.RowKit Go.Maps Go.Lib Go.Shelf

theorem keep_any {w : World} {S : Nat → Prop} {b : Nat} {d : ModD} {N : Nat} (h : ModAt w S b d N) (hN : N ≤ 1000000) :
    Calls Try.prog 15 #[.pointer (some ⟨b, 0, none⟩)] w fun e w' => e = .returned (.tuple #[]) ∧ ModAt w' (more S w w') b ⟨d.now, d.now⟩ N ∧ Only S w w' := by
  obtain ⟨m1, A1, n1, k1, m2, A2, n2, k2, S1, S2, h1, h2, h3, h4, h5, h6, h7⟩ := h
  have c0 := h1.at_ (i := 0) rfl
  have c1 := h1.at_ (i := 1) rfl
  have HK := Lib.hid h1
  have H2 := Lib.hid h2
  have H4 := Lib.hid h4
  have H6 := Lib.hid h6
  have H7 := Lib.hid h7
  clear h1 h2 h3 h4 h5 h6 h7
  go_enter Try.func15, Try.ntmps15
  go_wp2_with fail
  refine (copied_any H2.out hN).mono ?_
  rintro e w1 ⟨ml, A, n, k, rfl, ha, hb⟩
  have hk1 : Blk w1 b 63 #[.map (some m1), .slice A1 n1 k1, .map (some m2), .slice A2 n2 k2] := HK.out.below hb HK.out.lt
  have HA := Lib.hid ha
  have HB := Lib.hid hb
  clear ha hb
  have c2 := hk1.at_ (i := 2) rfl
  have c3 := hk1.at_ (i := 3) rfl
  have z2 := hk1.fr 2
  have z3 := hk1.fr 3
  have HK1 := Lib.hid hk1
  clear hk1 c0 c1
  go_wp2_with fail
  obtain ⟨w2, hw2⟩ : ∃ x, x = (w1.setCell ⟨b, 2, none⟩ (.map (some ml))).setCell ⟨b, 3, none⟩ (.slice A n k) := ⟨_, rfl⟩
  have hk2 : Blk w2 b 63 #[.map (some m1), .slice A1 n1 k1, .map (some ml), .slice A n k] := by rw [hw2]; exact (HK1.out.put 2 _).put 3 _
  have ho : Only S w w2 := by rw [hw2]; exact ((Only.of_below HB.out).set (.inl H6.out) _).set (.inl H6.out) _
  have g2 : ∀ i, i ≠ b → w2.heap[i]? = w1.heap[i]? := fun i hi => by
    rw [hw2]
    exact (Below.heap_setCell _ ⟨b, 3, none⟩ _ i hi).trans (Below.heap_setCell _ ⟨b, 2, none⟩ _ i hi)
  have hs2 : w2.heap.size = w1.heap.size := by rw [hw2]; simp [World.setCell]
  have hs1 := HB.out.size
  have hlb := HK.out.lt
  rw [← hw2]
  go_end0
  refine ⟨rfl, ⟨m1, A1, n1, k1, ml, A, n, k, fun i => S1 i ∧ i < w.heap.size, fun i => w.heap.size ≤ i ∧ i < w1.heap.size, hk2, ?_, ?_, ?_, ?_, .inl H6.out, ?_⟩, ho⟩
  · exact ((H2.out.mono (fun i a c => ⟨c, a⟩)).below HB.out).same (fun i hi _ => g2 i (H4.out i hi.1).2.1)
  · exact (HA.out.mono (fun i a c => ⟨c, a⟩)).same (fun i hi _ => g2 i (by omega))
  · intro i hi; exact ⟨.inl (H4.out i hi.1).1, (H4.out i hi.1).2.1, fun h => by omega⟩
  · intro i hi; exact ⟨.inr ⟨hi.1, by omega⟩, by omega⟩
  · intro i hi
    rcases hi with hi | hi
    · have := H7.out i hi; omega
    · exact hi.2
theorem keep_nil (w : World) : Calls Try.prog 15 #[.pointer none] w fun e w' => e = .returned (.tuple #[]) ∧ w = w' := by
  go_enter Try.func15, Try.ntmps15
  go_wp2_with fail
  go_end0
  exact ⟨rfl, rfl⟩
theorem back_any {w : World} {S : Nat → Prop} {b : Nat} {d : ModD} {N : Nat} (h : ModAt w S b d N) (hN : N ≤ 1000000) :
    Calls Try.prog 17 #[.pointer (some ⟨b, 0, none⟩)] w fun e w' => e = .returned (.tuple #[]) ∧ ModAt w' (more S w w') b ⟨d.kept, d.kept⟩ N ∧ Only S w w' := by
  obtain ⟨m1, A1, n1, k1, m2, A2, n2, k2, S1, S2, h1, h2, h3, h4, h5, h6, h7⟩ := h
  have c0 := h1.at_ (i := 2) rfl
  have c1 := h1.at_ (i := 3) rfl
  have HK := Lib.hid h1
  have H3 := Lib.hid h3
  have H5 := Lib.hid h5
  have H6 := Lib.hid h6
  have H7 := Lib.hid h7
  clear h1 h2 h3 h4 h5 h6 h7
  go_enter Try.func17, Try.ntmps17
  go_wp2_with fail
  refine (copied_any H3.out hN).mono ?_
  rintro e w1 ⟨ml, A, n, k, rfl, ha, hb⟩
  have hk1 : Blk w1 b 63 #[.map (some m1), .slice A1 n1 k1, .map (some m2), .slice A2 n2 k2] := HK.out.below hb HK.out.lt
  have HA := Lib.hid ha
  have HB := Lib.hid hb
  clear ha hb
  have c2 := hk1.at_ (i := 0) rfl
  have c3 := hk1.at_ (i := 1) rfl
  have z2 := hk1.fr 0
  have z3 := hk1.fr 1
  have HK1 := Lib.hid hk1
  clear hk1 c0 c1
  go_wp2_with fail
  obtain ⟨w2, hw2⟩ : ∃ x, x = (w1.setCell ⟨b, 0, none⟩ (.map (some ml))).setCell ⟨b, 1, none⟩ (.slice A n k) := ⟨_, rfl⟩
  have hk2 : Blk w2 b 63 #[.map (some ml), .slice A n k, .map (some m2), .slice A2 n2 k2] := by rw [hw2]; exact (HK1.out.put 0 _).put 1 _
  have ho : Only S w w2 := by rw [hw2]; exact ((Only.of_below HB.out).set (.inl H6.out) _).set (.inl H6.out) _
  have g2 : ∀ i, i ≠ b → w2.heap[i]? = w1.heap[i]? := fun i hi => by
    rw [hw2]
    exact (Below.heap_setCell _ ⟨b, 1, none⟩ _ i hi).trans (Below.heap_setCell _ ⟨b, 0, none⟩ _ i hi)
  have hs2 : w2.heap.size = w1.heap.size := by rw [hw2]; simp [World.setCell]
  have hs1 := HB.out.size
  have hlb := HK.out.lt
  rw [← hw2]
  go_end0
  refine ⟨rfl, ⟨ml, A, n, k, m2, A2, n2, k2, fun i => w.heap.size ≤ i ∧ i < w1.heap.size, fun i => S2 i ∧ i < w.heap.size, hk2, ?_, ?_, ?_, ?_, .inl H6.out, ?_⟩, ho⟩
  · exact (HA.out.mono (fun i a c => ⟨c, a⟩)).same (fun i hi _ => g2 i (by omega))
  · exact ((H3.out.mono (fun i a c => ⟨c, a⟩)).below HB.out).same (fun i hi _ => g2 i (H5.out i hi.1).2)
  · intro i hi; exact ⟨.inr ⟨hi.1, by omega⟩, by omega, fun h => by omega⟩
  · intro i hi; exact ⟨.inl (H5.out i hi.1).1, (H5.out i hi.1).2⟩
  · intro i hi
    rcases hi with hi | hi
    · have := H7.out i hi; omega
    · exact hi.2
theorem back_nil (w : World) : Calls Try.prog 17 #[.pointer none] w fun e w' => e = .returned (.tuple #[]) ∧ w = w' := by
  go_enter Try.func17, Try.ntmps17
  go_wp2_with fail
  go_end0
  exact ⟨rfl, rfl⟩
theorem copy_nil (w : World) : Calls Try.prog 16 #[.pointer none] w fun e w' => e = .returned (.pointer none) ∧ w = w' := by
  go_enter Try.func16, Try.ntmps16
  go_wp2_with fail
  go_ret
  exact ⟨rfl, rfl⟩
set_option maxRecDepth 20000 in
theorem mcopy_any {w : World} {S : Nat → Prop} {b : Nat} {d : ModD} {N : Nat} (h : ModAt w S b d N) (hN : N ≤ 1000000) :
    Calls Try.prog 16 #[.pointer (some ⟨b, 0, none⟩)] w fun e w' => ∃ v, e = .returned (.pointer (some ⟨v, 0, none⟩)) ∧ ModAt w' (fun i => w.heap.size ≤ i ∧ i < w'.heap.size) v d N ∧ Below w.heap.size w w' := by
  obtain ⟨m1, A1, n1, k1, m2, A2, n2, k2, S1, S2, h1, h2, h3, _⟩ := h
  have HK := Lib.hid h1
  have H2 := Lib.hid h2
  have H3 := Lib.hid h3
  clear h1 h2 h3
  go_enter Try.func16, Try.ntmps16
  repeat' (first
    | go_values
    | go_skip
    | go_guarded
    | ((fail_if_success (with_reducible refine drawn_mark ?_))
       first
         | go_step
         | go_upon
         | go_back
         | (simp only [Int.not_lt, Int.not_le] at *; go_simp)
         | (go_values <;> (try go_simp))
         | (go_ite <;> go_prune <;> (try go_simp))
         | (split <;> (first | (rename_i hx; exact (hx _ rfl).elim) | go_prune))))
  obtain ⟨C1, hC1⟩ : ∃ C1 : World → Prop, C1 = fun W => W.heap[b]? = w.heap[b]? := ⟨_, rfl⟩
  have f0 : ∀ W, C1 W → W.cell? ⟨b, 0, none⟩ = some (.map (some m1)) := fun W hW => by rw [hC1] at hW; exact (show Blk W _ _ _ from hW.trans HK.out).at_ rfl
  have f1 : ∀ W, C1 W → W.cell? ⟨b, 1, none⟩ = some (.slice A1 n1 k1) := fun W hW => by rw [hC1] at hW; exact (show Blk W _ _ _ from hW.trans HK.out).at_ rfl
  have f2 : ∀ W, C1 W → W.cell? ⟨b, 2, none⟩ = some (.map (some m2)) := fun W hW => by rw [hC1] at hW; exact (show Blk W _ _ _ from hW.trans HK.out).at_ rfl
  have f3 : ∀ W, C1 W → W.cell? ⟨b, 3, none⟩ = some (.slice A2 n2 k2) := fun W hW => by rw [hC1] at hW; exact (show Blk W _ _ _ from hW.trans HK.out).at_ rfl
  have hSw : C1 w.drew := by rw [hC1]; rfl
  have hC2 : ∀ W, W.heap[b]? = w.heap[b]? → C1 W := fun W a => by rw [hC1]; exact a
  have HC := Lib.hid hC2
  clear hC1 hC2
  refine wp_region_eff C1 [4, 9, 10] 11 (by kernel_rfl) (by kernel_rfl) (by kernel_rfl) hSw ?_
  simp only [List.take_succ_cons, List.take_zero, List.drop_succ_cons, List.drop_zero]
  refine wpLexE_take 4 (by kernel_rfl) (by kernel_rfl) ?_
  simp only [List.take_succ_cons, List.take_zero, List.drop_succ_cons, List.drop_zero]
  repeat (first
    | go_big_quiet_skip
    | (go_big_quiet_want
       go_big_quiet_op
       first
         | go_big_quiet_on
         | (apply Exists.intro
            refine ⟨fun W hW => ?_, ?_⟩
            · first
                | exact rfl
                | exact ⟨rfl, rfl⟩
                | (have e0 := f0 W hW; have e1 := f1 W hW; have e2 := f2 W hW; have e3 := f3 W hW; simp only [e0, e1, e2, e3, Result.andThen_ok]; done)
                | (have e0 := f0 W hW; have e1 := f1 W hW; have e2 := f2 W hW; have e3 := f3 W hW; simp only [e0, e1, e2, e3, Result.andThen_ok]; first | exact ⟨trivial, rfl⟩ | exact rfl | exact ⟨rfl, rfl⟩)
                | (skip)
            go_big_quiet_on)))
  refine wpQuiet_nil ?_
  show wpLexE _ _ _ _ _ _ _ _ _
  refine wpLexE_eff (by kernel_rfl) rfl ?_
  go_wp2_with fail
  have hd1 : w.drew.heap.size = w.heap.size := rfl
  have h2d : AllIn w.drew S1 m1 (.slice A1 n1 k1) d.now N := H2.out.same (fun _ _ _ => rfl)
  refine (copied_any h2d hN).mono ?_
  rintro e w1 ⟨ml, A, n, k, rfl, ha, hb⟩
  rw [hd1] at ha hb
  have hb1 : Below w.heap.size w w1 := ⟨hb.os, hb.tape, hb.output, hb.size, fun i hi => hb.block i hi⟩
  have HA := Lib.hid ha
  have HB := Lib.hid hb1
  have hS1 : C1 w1 := HC.out _ (hb1.block b HK.out.lt)
  clear ha hb hb1 h2d hd1
  go_wp2_with fail
  refine ⟨rfl, hS1, ?_⟩
  refine wpLexE_take 4 (by kernel_rfl) (by kernel_rfl) ?_
  simp only [List.take_succ_cons, List.take_zero, List.drop_succ_cons, List.drop_zero]
  repeat (first
    | go_big_quiet_skip
    | (go_big_quiet_want
       go_big_quiet_op
       first
         | go_big_quiet_on
         | (apply Exists.intro
            refine ⟨fun W hW => ?_, ?_⟩
            · first
                | exact rfl
                | exact ⟨rfl, rfl⟩
                | (have e0 := f0 W hW; have e1 := f1 W hW; have e2 := f2 W hW; have e3 := f3 W hW; simp only [e0, e1, e2, e3, Result.andThen_ok]; done)
                | (have e0 := f0 W hW; have e1 := f1 W hW; have e2 := f2 W hW; have e3 := f3 W hW; simp only [e0, e1, e2, e3, Result.andThen_ok]; first | exact ⟨trivial, rfl⟩ | exact rfl | exact ⟨rfl, rfl⟩)
                | (skip)
            go_big_quiet_on)))
  refine wpQuiet_nil ?_
  show wpLexE _ _ _ _ _ _ _ _ _
  refine wpLexE_eff (by kernel_rfl) rfl ?_
  go_wp2_with fail
  have h3d : AllIn w1 S2 m2 (.slice A2 n2 k2) d.kept N := H3.out.below HB.out
  refine (copied_any h3d hN).mono ?_
  rintro e w2 ⟨ml2, A', n', k', rfl, ha, hb⟩
  have HA2 := Lib.hid ha
  have HB2 := Lib.hid hb
  have hS2 : C1 w2 := HC.out _ ((hb.block b (by have := HB.out.size; have := HK.out.lt; omega)).trans (HB.out.block b HK.out.lt))
  clear ha hb h3d
  go_wp2_with fail
  refine ⟨rfl, hS2, ?_⟩
  refine wpLexE_eff (by kernel_rfl) rfl ?_
  go_wp2_with fail
  refine ⟨rfl, hS2, ?_⟩
  show wpList _ _ _ _ _ _
  go_wp2_with fail
  have hs1 := HB.out.size
  have hs2 := HB2.out.size
  obtain ⟨w3, hw3⟩ : ∃ x, x = w2.alloc (.cells #[.map (some ml), .slice A n k, .map (some ml2), .slice A' n' k'] 63) := ⟨_, rfl⟩
  have hb3 : Below w2.heap.size w2 w3 := by rw [hw3]; exact keep_alloc (Below.refl _ _) _
  have hs3 : w3.heap.size = w2.heap.size + 1 := by rw [hw3]; simp
  have hk3 : Blk w3 w2.heap.size 63 #[.map (some ml), .slice A n k, .map (some ml2), .slice A' n' k'] := by rw [hw3]; exact Blk.new _ _ _
  rw [← hw3]
  go_ret
  refine ⟨_, rfl, ⟨ml, A, n, k, ml2, A', n', k', fun i => w.heap.size ≤ i ∧ i < w1.heap.size, fun i => w1.heap.size ≤ i ∧ i < w2.heap.size, hk3, ?_, ?_, ?_, ?_, ?_, ?_⟩, ?_⟩
  · exact ((HA.out.mono (T := fun i => w.heap.size ≤ i ∧ i < w1.heap.size) (fun i h1 h2 => ⟨h2, h1⟩)).below HB2.out).below hb3
  · exact (HA2.out.mono (T := fun i => w1.heap.size ≤ i ∧ i < w2.heap.size) (fun i h1 h2 => ⟨h2, h1⟩)).below hb3
  · intro i hi; refine ⟨⟨?_, ?_⟩, ?_, fun h => ?_⟩ <;> omega
  · intro i hi; refine ⟨⟨?_, ?_⟩, ?_⟩ <;> omega
  · show w.heap.size ≤ w2.heap.size ∧ w2.heap.size < w3.heap.size
    omega
  · intro i hi; exact hi.2
  · exact keep_below hb3 (keep_below HB2.out HB.out)
end Go.Proofs.Ytckicdbiiepngaa
