/-
  Layer 17: few, same.
-/
import Derived.Test.YtidmbibpoldgcaaGreatDoorJ11
namespace Go.Proofs.YtidmbibpoldgcaaGreatDoor
set_option linter.unusedVariables false
set_option linter.unusedSimpArgs false
open Go.RowKit

theorem mfew_any (s : StA) (sv tv : Value) (w : World) (h : StIn w s sv tv) :
    Calls Tryz.prog 6 #[.agg (stC s sv tv)] w fun e w' => e = .returned (.bool (decide (s.snaps.length ≤ 30 ∧ s.stale.length ≤ 60))) ∧ Below w.heap.size w w' := by
  obtain ⟨A1, c1, rfl⟩ := h.snaps.form
  obtain ⟨A2, c2, rfl⟩ := h.stale.form
  clear h
  obtain ⟨cA, hcA⟩ : ∃ x, x = stC s (.slice A1 s.snaps.length c1) (.slice A2 s.stale.length c2) := ⟨_, rfl⟩
  rw [← hcA]
  obtain ⟨w1, hw1⟩ : ∃ x, w.alloc (.cells cA 38) = x := ⟨_, rfl⟩
  have B1 : Blk w1 w.heap.size 38 cA := by rw [← hw1]; exact Blk.new _ _ _
  have HB1 : Hid (Below w.heap.size w w1) := Lib.hid (by rw [← hw1]; exact keep_alloc (Below.refl _ _) _)
  rw [hcA] at B1
  have e13 : w1.cell? ⟨w.heap.size, 13, none⟩ = some (.slice A1 s.snaps.length c1) := B1.at_ rfl
  have e23 : w1.cell? ⟨w.heap.size, 23, none⟩ = some (.slice A2 s.stale.length c2) := B1.at_ rfl
  clear B1 hcA
  go_enter Tryz.func6, Tryz.ntmps6
  by_cases h1 : s.snaps.length ≤ 30
  · have d1 : decide ((s.snaps.length : Int) ≤ 30) = true := decide_eq_true (by omega)
    by_cases h2 : s.stale.length ≤ 60
    · have d2 : decide ((s.stale.length : Int) ≤ 60) = true := decide_eq_true (by omega)
      have d : decide (s.snaps.length ≤ 30 ∧ s.stale.length ≤ 60) = true := decide_eq_true ⟨h1, h2⟩
      have HD := Lib.hid d
      clear h1 h2 d
      go_wp2_with fail
      go_ret
      exact ⟨by rw [HD.out]; rfl, HB1.out⟩
    · have d2 : decide ((s.stale.length : Int) ≤ 60) = false := decide_eq_false (by omega)
      have d : decide (s.snaps.length ≤ 30 ∧ s.stale.length ≤ 60) = false := decide_eq_false (fun h => h2 h.2)
      have HD := Lib.hid d
      clear h1 h2 d
      go_wp2_with fail
      go_ret
      exact ⟨by rw [HD.out]; rfl, HB1.out⟩
  · have d1 : decide ((s.snaps.length : Int) ≤ 30) = false := decide_eq_false (by omega)
    have d : decide (s.snaps.length ≤ 30 ∧ s.stale.length ≤ 60) = false := decide_eq_false (fun h => h1 h.1)
    have HD := Lib.hid d
    clear h1 d
    go_wp2_with fail
    go_ret
    exact ⟨by rw [HD.out]; rfl, HB1.out⟩

theorem st_ne {s o : StA} {b : Bool} (h : s ≠ o) (hb : b = false) : Ending.returned (.bool b) = .returned (.bool (decide (s = o))) := by rw [decide_eq_false h, hb]

set_option maxRecDepth 100000 in
set_option maxHeartbeats 1000000 in
theorem msame_any (s o : StA) (sv tv su tu : Value) (w : World) (h1 : StIn w s sv tv) (h2 : StIn w o su tu) (f1 : s.snaps.length ≤ 30) (f2 : s.stale.length ≤ 60) :
    Calls Tryz.prog 11 #[.agg (stC s sv tv), .agg (stC o su tu)] w fun e w' => e = .returned (.bool (decide (s = o))) ∧ Below w.heap.size w w' := by
  obtain ⟨A1, c1, rfl⟩ := h1.snaps.form
  obtain ⟨A2, c2, rfl⟩ := h1.stale.form
  obtain ⟨A3, c3, rfl⟩ := h2.snaps.form
  obtain ⟨A4, c4, rfl⟩ := h2.stale.form
  have H1 := Lib.hid h1
  have H2 := Lib.hid h2
  clear h1 h2
  obtain ⟨cA, hcA⟩ : ∃ x, x = stC s (.slice A1 s.snaps.length c1) (.slice A2 s.stale.length c2) := ⟨_, rfl⟩
  obtain ⟨cB, hcB⟩ : ∃ x, x = stC o (.slice A3 o.snaps.length c3) (.slice A4 o.stale.length c4) := ⟨_, rfl⟩
  rw [← hcA, ← hcB]
  obtain ⟨w1, hw1⟩ : ∃ x, (w.alloc (.cells cA 38)).alloc (.cells cB 38) = x := ⟨_, rfl⟩
  have B1 : Blk w1 w.heap.size 38 cA := by rw [← hw1]; exact (Blk.new _ _ _).alloc _
  have B2 : Blk w1 (w.heap.size + 1) 38 cB := by rw [← hw1]; exact Blk.new2 w _ _ _
  have d1 : Below w.heap.size w w1 := by rw [← hw1]; exact keep_alloc (keep_alloc (Below.refl _ _) _) _
  rw [hcA] at B1
  rw [hcB] at B2
  have b1 : ∀ i v, (stC s (.slice A1 s.snaps.length c1) (.slice A2 s.stale.length c2))[i]? = some v → w1.cell? ⟨w.heap.size, i, none⟩ = some v := fun i v hv => B1.at_ hv
  have b2 : ∀ i v, (stC o (.slice A3 o.snaps.length c3) (.slice A4 o.stale.length c4))[i]? = some v → w1.cell? ⟨w.heap.size + 1, i, none⟩ = some v := fun i v hv => B2.at_ hv
  have e0 : w1.cell? ⟨w.heap.size, 0, none⟩ = some (.int .i64 s.n) := b1 0 _ rfl
  have e1 : w1.cell? ⟨w.heap.size, 1, none⟩ = some (.int .i64 s.p.ag) := b1 1 _ rfl
  have e2 : w1.cell? ⟨w.heap.size, 2, none⟩ = some (.int .i64 s.p.aa) := b1 2 _ rfl
  have e3 : w1.cell? ⟨w.heap.size, 3, none⟩ = some (.int .i64 s.p.bg) := b1 3 _ rfl
  have e4 : w1.cell? ⟨w.heap.size, 4, none⟩ = some (.int .i64 s.p.ba) := b1 4 _ rfl
  have e5 : w1.cell? ⟨w.heap.size, 5, none⟩ = some (.bool s.p.two) := b1 5 _ rfl
  have e6 : w1.cell? ⟨w.heap.size, 6, none⟩ = some (.int .i64 s.p.size) := b1 6 _ rfl
  have e7 : w1.cell? ⟨w.heap.size, 7, none⟩ = some (.int .i64 s.p.level) := b1 7 _ rfl
  have e8 : w1.cell? ⟨w.heap.size, 8, none⟩ = some (.int .i64 s.p.birth) := b1 8 _ rfl
  have e9 : w1.cell? ⟨w.heap.size, 9, none⟩ = some (.int .u64 s.p.s0) := b1 9 _ rfl
  have e10 : w1.cell? ⟨w.heap.size, 10, none⟩ = some (.int .u64 s.p.s1) := b1 10 _ rfl
  have e11 : w1.cell? ⟨w.heap.size, 11, none⟩ = some (.int .u64 s.p.s2) := b1 11 _ rfl
  have e12 : w1.cell? ⟨w.heap.size, 12, none⟩ = some (.int .u64 s.p.s3) := b1 12 _ rfl
  have e13 : w1.cell? ⟨w.heap.size, 13, none⟩ = some (.slice A1 s.snaps.length c1) := b1 13 _ rfl
  have e14 : w1.cell? ⟨w.heap.size, 14, none⟩ = some (.int .i64 s.z.x0) := b1 14 _ rfl
  have e15 : w1.cell? ⟨w.heap.size, 15, none⟩ = some (.int .i64 s.z.x1) := b1 15 _ rfl
  have e16 : w1.cell? ⟨w.heap.size, 16, none⟩ = some (.int .i64 s.z.x2) := b1 16 _ rfl
  have e17 : w1.cell? ⟨w.heap.size, 17, none⟩ = some (.int .i64 s.z.x3) := b1 17 _ rfl
  have e18 : w1.cell? ⟨w.heap.size, 18, none⟩ = some (.int .i64 s.z.x4) := b1 18 _ rfl
  have e19 : w1.cell? ⟨w.heap.size, 19, none⟩ = some (.int .i64 s.z.x5) := b1 19 _ rfl
  have e20 : w1.cell? ⟨w.heap.size, 20, none⟩ = some (.int .i64 s.z.x6) := b1 20 _ rfl
  have e21 : w1.cell? ⟨w.heap.size, 21, none⟩ = some (.int .i64 s.z.x7) := b1 21 _ rfl
  have e22 : w1.cell? ⟨w.heap.size, 22, none⟩ = some (.int .i64 s.z.x8) := b1 22 _ rfl
  have e23 : w1.cell? ⟨w.heap.size, 23, none⟩ = some (.slice A2 s.stale.length c2) := b1 23 _ rfl
  have g0 : w1.cell? ⟨w.heap.size + 1, 0, none⟩ = some (.int .i64 o.n) := b2 0 _ rfl
  have g1 : w1.cell? ⟨w.heap.size + 1, 1, none⟩ = some (.int .i64 o.p.ag) := b2 1 _ rfl
  have g2 : w1.cell? ⟨w.heap.size + 1, 2, none⟩ = some (.int .i64 o.p.aa) := b2 2 _ rfl
  have g3 : w1.cell? ⟨w.heap.size + 1, 3, none⟩ = some (.int .i64 o.p.bg) := b2 3 _ rfl
  have g4 : w1.cell? ⟨w.heap.size + 1, 4, none⟩ = some (.int .i64 o.p.ba) := b2 4 _ rfl
  have g5 : w1.cell? ⟨w.heap.size + 1, 5, none⟩ = some (.bool o.p.two) := b2 5 _ rfl
  have g6 : w1.cell? ⟨w.heap.size + 1, 6, none⟩ = some (.int .i64 o.p.size) := b2 6 _ rfl
  have g7 : w1.cell? ⟨w.heap.size + 1, 7, none⟩ = some (.int .i64 o.p.level) := b2 7 _ rfl
  have g8 : w1.cell? ⟨w.heap.size + 1, 8, none⟩ = some (.int .i64 o.p.birth) := b2 8 _ rfl
  have g9 : w1.cell? ⟨w.heap.size + 1, 9, none⟩ = some (.int .u64 o.p.s0) := b2 9 _ rfl
  have g10 : w1.cell? ⟨w.heap.size + 1, 10, none⟩ = some (.int .u64 o.p.s1) := b2 10 _ rfl
  have g11 : w1.cell? ⟨w.heap.size + 1, 11, none⟩ = some (.int .u64 o.p.s2) := b2 11 _ rfl
  have g12 : w1.cell? ⟨w.heap.size + 1, 12, none⟩ = some (.int .u64 o.p.s3) := b2 12 _ rfl
  have g13 : w1.cell? ⟨w.heap.size + 1, 13, none⟩ = some (.slice A3 o.snaps.length c3) := b2 13 _ rfl
  have g14 : w1.cell? ⟨w.heap.size + 1, 14, none⟩ = some (.int .i64 o.z.x0) := b2 14 _ rfl
  have g15 : w1.cell? ⟨w.heap.size + 1, 15, none⟩ = some (.int .i64 o.z.x1) := b2 15 _ rfl
  have g16 : w1.cell? ⟨w.heap.size + 1, 16, none⟩ = some (.int .i64 o.z.x2) := b2 16 _ rfl
  have g17 : w1.cell? ⟨w.heap.size + 1, 17, none⟩ = some (.int .i64 o.z.x3) := b2 17 _ rfl
  have g18 : w1.cell? ⟨w.heap.size + 1, 18, none⟩ = some (.int .i64 o.z.x4) := b2 18 _ rfl
  have g19 : w1.cell? ⟨w.heap.size + 1, 19, none⟩ = some (.int .i64 o.z.x5) := b2 19 _ rfl
  have g20 : w1.cell? ⟨w.heap.size + 1, 20, none⟩ = some (.int .i64 o.z.x6) := b2 20 _ rfl
  have g21 : w1.cell? ⟨w.heap.size + 1, 21, none⟩ = some (.int .i64 o.z.x7) := b2 21 _ rfl
  have g22 : w1.cell? ⟨w.heap.size + 1, 22, none⟩ = some (.int .i64 o.z.x8) := b2 22 _ rfl
  have g23 : w1.cell? ⟨w.heap.size + 1, 23, none⟩ = some (.slice A4 o.stale.length c4) := b2 23 _ rfl
  have HB1 := Lib.hid B1
  have HB2 := Lib.hid B2
  have HD1 := Lib.hid d1
  clear hcA hcB b1 b2 B1 B2 d1
  have qn := fun W => neq_node s.n o.n s.p o.p W
  have qz := fun W => neq_scans s.z o.z W
  have hn : (s.n == o.n && ptrEq s.p o.p) = decide (s.n = o.n ∧ s.p = o.p) := by unfold ptrEq; by_cases a : s.n = o.n <;> by_cases b : s.p = o.p <;> simp [a, b]
  rw [hn] at qn
  clear hn
  go_enter Tryz.func11, Tryz.ntmps11
  by_cases h1 : ¬ (s.n = o.n ∧ s.p = o.p)
  · have HN : Hid (s ≠ o) := Lib.hid fun e => h1 (by rw [e]; exact ⟨rfl, rfl⟩)
    rw [decide_eq_false h1] at qn
    clear h1
    go_wp2_with fail
    go_ret
    exact ⟨st_ne HN.out rfl, HD1.out⟩
  replace h1 := Classical.not_not.1 h1
  rw [decide_eq_true h1] at qn
  have HE1 := Lib.hid h1
  clear h1
  by_cases h2 : ¬ (s.z = o.z)
  · have HN : Hid (s ≠ o) := Lib.hid fun e => h2 (by rw [e])
    rw [decide_eq_false h2] at qz
    clear h2
    go_wp2_with fail
    go_ret
    exact ⟨st_ne HN.out rfl, HD1.out⟩
  replace h2 := Classical.not_not.1 h2
  rw [decide_eq_true h2] at qz
  have HE2 := Lib.hid h2
  clear h2
  by_cases h3 : ¬ (s.snaps.length = o.snaps.length)
  · have HN : Hid (s ≠ o) := Lib.hid fun e => h3 (by rw [e])
    have l3 : ((s.snaps.length : Int) == o.snaps.length) = false := by rw [beq_eq_false_iff_ne]; omega
    go_wp2_with fail
    go_ret
    exact ⟨st_ne HN.out rfl, HD1.out⟩
  replace h3 := Classical.not_not.1 h3
  obtain ⟨n, hsn⟩ : ∃ n, n = s.snaps.length := ⟨_, rfl⟩
  have hon : o.snaps.length = n := by rw [hsn, h3]
  by_cases h4 : ¬ (s.stale.length = o.stale.length)
  · have HN : Hid (s ≠ o) := Lib.hid fun e => h4 (by rw [e])
    have l3 : ((s.stale.length : Int) == o.stale.length) = false := by rw [beq_eq_false_iff_ne]; omega
    rw [← h3] at g13
    clear h3 hsn hon
    go_wp2_with fail
    go_ret
    exact ⟨st_ne HN.out rfl, HD1.out⟩
  replace h4 := Classical.not_not.1 h4
  obtain ⟨m, hsm⟩ : ∃ m, m = s.stale.length := ⟨_, rfl⟩
  have hom : o.stale.length = m := by rw [hsm, h4]
  rw [← hsn] at e13 f1
  rw [← hsm] at e23 f2
  rw [hon] at g13
  rw [hom] at g23
  have HL : Hid (s.snaps.length = n ∧ o.snaps.length = n ∧ s.stale.length = m ∧ o.stale.length = m) := Lib.hid ⟨hsn.symm, hon, hsm.symm, hom⟩
  clear h3 h4 hsn hon hsm hom
  go_wp2_with fail
  clear e0 g0 e1 g1 e2 g2 e3 g3 e4 g4 e5 g5 e6 g6 e7 g7 e8 g8 e9 g9 e10 g10 e11 g11 e12 g12 e13 g13 e14 g14 e15 g15 e16 g16 e17 g17 e18 g18 e19 g19 e20 g20 e21 g21 e22 g22 e23 g23 qn qz hw1
  have HBA : Hid (Blk w1 w.heap.size 38 (stC s (.slice A1 n c1) (.slice A2 m c2))) := Lib.hid (by have := HB1.out; rw [HL.out.1, HL.out.2.2.1] at this; exact this)
  have HBB : Hid (Blk w1 (w.heap.size + 1) 38 (stC o (.slice A3 n c3) (.slice A4 m c4))) := Lib.hid (by have := HB2.out; rw [HL.out.2.1, HL.out.2.2.2] at this; exact this)
  clear HB1 HB2
  go_loopw [5] (fun t wr => ∃ k : Nat, k ≤ n ∧ t = .int .i64 k ∧ Below w1.heap.size w1 wr ∧ ∀ j, j < k → s.snaps[j]? = o.snaps[j]?) (fun t _ => n - (RowKit.intOf t).toNat)
  case atStart => exact ⟨0, Nat.zero_le _, rfl, Below.refl _ _, fun j hj => absurd hj (Nat.not_lt_zero _)⟩
  case round =>
    obtain ⟨k, hk, rfl, hbw, hal⟩ := hrel
    have HBW := Lib.hid hbw
    have HAL := Lib.hid hal
    have q13 : wr.cell? ⟨w.heap.size, 13, none⟩ = some (.slice A1 n c1) := (HBA.out.below hbw HBA.out.lt).at_ rfl
    clear hbw hal
    by_cases hlt : k < n
    · obtain ⟨b, oo, rfl, hbl, hcell⟩ := H1.out.snaps.cells (by have := HL.out; omega)
      obtain ⟨b2, o2, rfl, hbl2, hcell2⟩ := H2.out.snaps.cells (by have := HL.out; omega)
      obtain ⟨x, hx⟩ : ∃ x, s.snaps[k]? = some x := ⟨_, List.getElem?_eq_getElem (by have := HL.out; omega)⟩
      obtain ⟨y, hy⟩ : ∃ y, o.snaps[k]? = some y := ⟨_, List.getElem?_eq_getElem (by have := HL.out; omega)⟩
      have hdc : decide (k < n) = true := decide_eq_true hlt
      have HLT := Lib.hid hlt
      have HX := Lib.hid hx
      have HY := Lib.hid hy
      repeat' (first
        | go_values
        | go_skip
        | go_guarded
        | ((fail_if_success (with_reducible refine drawn_mark ?_))
           first
             | go_step
             | go_upon
             | go_back
             | (simp only [Int.not_lt, Int.not_le] at *; go_simp)
             | (go_values <;> (try go_simp))
             | (go_ite <;> go_prune <;> (try go_simp))
             | (split <;> (first | (rename_i hx; exact (hx _ rfl).elim) | go_prune))))
      obtain ⟨C, hC, hC0, hCB, hCK, hCd⟩ := cls_below wr
      have hbw1 : ∀ W, C W → ∀ i, i < w1.heap.size → W.heap[i]? = w1.heap[i]? := fun W hW i hi => ((hCB W hW).block i (Nat.lt_of_lt_of_le hi HBW.out.size)).trans (HBW.out.block i hi)
      have hbw0 : ∀ W, C W → ∀ i, i < w.heap.size → W.heap[i]? = w.heap[i]? := fun W hW i hi => (hbw1 W hW i (Nat.lt_of_lt_of_le hi HD1.out.size)).trans (HD1.out.block i hi)
      have f15 : ∀ W, C W → W.cell? ⟨w.heap.size, 13, none⟩ = some (.slice (some ⟨b, oo, none⟩) n c1) := fun W hW => (show Blk W _ _ _ from (hbw1 W hW _ HBA.out.lt).trans HBA.out).at_ rfl
      have f16 : ∀ W, C W → W.cell? ⟨w.heap.size + 1, 13, none⟩ = some (.slice (some ⟨b2, o2, none⟩) n c3) := fun W hW => (show Blk W _ _ _ from (hbw1 W hW _ HBB.out.lt).trans HBB.out).at_ rfl
      have hs1 : ∀ W, C W → ∀ j u, j < 15 → (snapL x)[j]? = some u → W.cell? ⟨b, oo + k * 15 + j, none⟩ = some u := fun W hW j u hj hu => by
        rw [Nat.add_assoc]
        exact (World.cell?_of_block (hbw0 W hW b hbl)).trans <| hcell _ _ ((flat_at snapL 15 (fun _ => rfl) s.snaps k x hx j hj).trans hu)
      have hs2 : ∀ W, C W → ∀ j u, j < 15 → (snapL y)[j]? = some u → W.cell? ⟨b2, o2 + k * 15 + j, none⟩ = some u := fun W hW j u hj hu => by
        rw [Nat.add_assoc]
        exact (World.cell?_of_block (hbw0 W hW b2 hbl2)).trans <| hcell2 _ _ ((flat_at snapL 15 (fun _ => rfl) o.snaps k y hy j hj).trans hu)
      have f0 : ∀ W, C W → W.cell? ⟨b, oo + k * 15, none⟩ = some (.int .i64 x.id) := fun W hW => hs1 W hW 0 _ (by omega) rfl
      have f1 : ∀ W, C W → W.cell? ⟨b, oo + k * 15 + 1, none⟩ = some (.int .i64 x.txg) := fun W hW => hs1 W hW 1 _ (by omega) rfl
      have f2 : ∀ W, C W → W.cell? ⟨b, oo + k * 15 + 2, none⟩ = some (.int .i64 x.n) := fun W hW => hs1 W hW 2 _ (by omega) rfl
      have f3 : ∀ W, C W → W.cell? ⟨b, oo + k * 15 + 3, none⟩ = some (.int .i64 x.p.ag) := fun W hW => hs1 W hW 3 _ (by omega) rfl
      have f4 : ∀ W, C W → W.cell? ⟨b, oo + k * 15 + 4, none⟩ = some (.int .i64 x.p.aa) := fun W hW => hs1 W hW 4 _ (by omega) rfl
      have f5 : ∀ W, C W → W.cell? ⟨b, oo + k * 15 + 5, none⟩ = some (.int .i64 x.p.bg) := fun W hW => hs1 W hW 5 _ (by omega) rfl
      have f6 : ∀ W, C W → W.cell? ⟨b, oo + k * 15 + 6, none⟩ = some (.int .i64 x.p.ba) := fun W hW => hs1 W hW 6 _ (by omega) rfl
      have f7 : ∀ W, C W → W.cell? ⟨b, oo + k * 15 + 7, none⟩ = some (.bool x.p.two) := fun W hW => hs1 W hW 7 _ (by omega) rfl
      have f8 : ∀ W, C W → W.cell? ⟨b, oo + k * 15 + 8, none⟩ = some (.int .i64 x.p.size) := fun W hW => hs1 W hW 8 _ (by omega) rfl
      have f9 : ∀ W, C W → W.cell? ⟨b, oo + k * 15 + 9, none⟩ = some (.int .i64 x.p.level) := fun W hW => hs1 W hW 9 _ (by omega) rfl
      have f10 : ∀ W, C W → W.cell? ⟨b, oo + k * 15 + 10, none⟩ = some (.int .i64 x.p.birth) := fun W hW => hs1 W hW 10 _ (by omega) rfl
      have f11 : ∀ W, C W → W.cell? ⟨b, oo + k * 15 + 11, none⟩ = some (.int .u64 x.p.s0) := fun W hW => hs1 W hW 11 _ (by omega) rfl
      have f12 : ∀ W, C W → W.cell? ⟨b, oo + k * 15 + 12, none⟩ = some (.int .u64 x.p.s1) := fun W hW => hs1 W hW 12 _ (by omega) rfl
      have f13 : ∀ W, C W → W.cell? ⟨b, oo + k * 15 + 13, none⟩ = some (.int .u64 x.p.s2) := fun W hW => hs1 W hW 13 _ (by omega) rfl
      have f14 : ∀ W, C W → W.cell? ⟨b, oo + k * 15 + 14, none⟩ = some (.int .u64 x.p.s3) := fun W hW => hs1 W hW 14 _ (by omega) rfl
      have g0 : ∀ W, C W → W.cell? ⟨b2, o2 + k * 15, none⟩ = some (.int .i64 y.id) := fun W hW => hs2 W hW 0 _ (by omega) rfl
      have g1 : ∀ W, C W → W.cell? ⟨b2, o2 + k * 15 + 1, none⟩ = some (.int .i64 y.txg) := fun W hW => hs2 W hW 1 _ (by omega) rfl
      have g2 : ∀ W, C W → W.cell? ⟨b2, o2 + k * 15 + 2, none⟩ = some (.int .i64 y.n) := fun W hW => hs2 W hW 2 _ (by omega) rfl
      have g3 : ∀ W, C W → W.cell? ⟨b2, o2 + k * 15 + 3, none⟩ = some (.int .i64 y.p.ag) := fun W hW => hs2 W hW 3 _ (by omega) rfl
      have g4 : ∀ W, C W → W.cell? ⟨b2, o2 + k * 15 + 4, none⟩ = some (.int .i64 y.p.aa) := fun W hW => hs2 W hW 4 _ (by omega) rfl
      have g5 : ∀ W, C W → W.cell? ⟨b2, o2 + k * 15 + 5, none⟩ = some (.int .i64 y.p.bg) := fun W hW => hs2 W hW 5 _ (by omega) rfl
      have g6 : ∀ W, C W → W.cell? ⟨b2, o2 + k * 15 + 6, none⟩ = some (.int .i64 y.p.ba) := fun W hW => hs2 W hW 6 _ (by omega) rfl
      have g7 : ∀ W, C W → W.cell? ⟨b2, o2 + k * 15 + 7, none⟩ = some (.bool y.p.two) := fun W hW => hs2 W hW 7 _ (by omega) rfl
      have g8 : ∀ W, C W → W.cell? ⟨b2, o2 + k * 15 + 8, none⟩ = some (.int .i64 y.p.size) := fun W hW => hs2 W hW 8 _ (by omega) rfl
      have g9 : ∀ W, C W → W.cell? ⟨b2, o2 + k * 15 + 9, none⟩ = some (.int .i64 y.p.level) := fun W hW => hs2 W hW 9 _ (by omega) rfl
      have g10 : ∀ W, C W → W.cell? ⟨b2, o2 + k * 15 + 10, none⟩ = some (.int .i64 y.p.birth) := fun W hW => hs2 W hW 10 _ (by omega) rfl
      have g11 : ∀ W, C W → W.cell? ⟨b2, o2 + k * 15 + 11, none⟩ = some (.int .u64 y.p.s0) := fun W hW => hs2 W hW 11 _ (by omega) rfl
      have g12 : ∀ W, C W → W.cell? ⟨b2, o2 + k * 15 + 12, none⟩ = some (.int .u64 y.p.s1) := fun W hW => hs2 W hW 12 _ (by omega) rfl
      have g13 : ∀ W, C W → W.cell? ⟨b2, o2 + k * 15 + 13, none⟩ = some (.int .u64 y.p.s2) := fun W hW => hs2 W hW 13 _ (by omega) rfl
      have g14 : ∀ W, C W → W.cell? ⟨b2, o2 + k * 15 + 14, none⟩ = some (.int .u64 y.p.s3) := fun W hW => hs2 W hW 14 _ (by omega) rfl
      have hq : ∀ W, (binOp .neq 74 (.agg #[.int .i64 x.id, .int .i64 x.txg, .int .i64 x.n, .int .i64 x.p.ag, .int .i64 x.p.aa, .int .i64 x.p.bg, .int .i64 x.p.ba, .bool x.p.two, .int .i64 x.p.size, .int .i64 x.p.level, .int .i64 x.p.birth, .int .u64 x.p.s0, .int .u64 x.p.s1, .int .u64 x.p.s2, .int .u64 x.p.s3]) (.agg #[.int .i64 y.id, .int .i64 y.txg, .int .i64 y.n, .int .i64 y.p.ag, .int .i64 y.p.aa, .int .i64 y.p.bg, .int .i64 y.p.ba, .bool y.p.two, .int .i64 y.p.size, .int .i64 y.p.level, .int .i64 y.p.birth, .int .u64 y.p.s0, .int .u64 y.p.s1, .int .u64 y.p.s2, .int .u64 y.p.s3])).run Tryz.prog W = .ok (.bool (!decide (x = y))) W := fun W => neq_rsnap x y W
      have HCB := Lib.hid hCB
      clear hs1 hs2 hbw0 hbw1 hcell hcell2 hx hy q13 hC0 hCd hCK hCB
      by_cases hxy : x = y
      · rw [decide_eq_true hxy, Bool.not_true] at hq
        have HXY := Lib.hid hxy
        clear hxy
        refine wp_region_cls C (by kernel_rfl) (by kernel_rfl) hC ?_
        repeat (first
          | go_big_quiet_skip
          | (go_big_quiet_want
             go_big_quiet_op
             first
               | go_big_quiet_on
               | (apply Exists.intro
                  refine ⟨fun W hW => ?_, ?_⟩
                  · first
                      | exact rfl
                      | exact ⟨rfl, rfl⟩
                      | (have e0 := f15 W hW; have e1 := f16 W hW; have e2 := f0 W hW; have e3 := f1 W hW; have e4 := f2 W hW; have e5 := f3 W hW; have e6 := f4 W hW; have e7 := f5 W hW; have e8 := f6 W hW; have e9 := f7 W hW; have e10 := f8 W hW; have e11 := f9 W hW; have e12 := f10 W hW; have e13 := f11 W hW; have e14 := f12 W hW; have e15 := f13 W hW; have e16 := f14 W hW; have e17 := g0 W hW; have e18 := g1 W hW; have e19 := g2 W hW; have e20 := g3 W hW; have e21 := g4 W hW; have e22 := g5 W hW; have e23 := g6 W hW; have e24 := g7 W hW; have e25 := g8 W hW; have e26 := g9 W hW; have e27 := g10 W hW; have e28 := g11 W hW; have e29 := g12 W hW; have e30 := g13 W hW; have e31 := g14 W hW; simp only [e0, e1, e2, e3, e4, e5, e6, e7, e8, e9, e10, e11, e12, e13, e14, e15, e16, e17, e18, e19, e20, e21, e22, e23, e24, e25, e26, e27, e28, e29, e30, e31, Result.andThen_ok]; done)
                      | (have e0 := f15 W hW; have e1 := f16 W hW; have e2 := f0 W hW; have e3 := f1 W hW; have e4 := f2 W hW; have e5 := f3 W hW; have e6 := f4 W hW; have e7 := f5 W hW; have e8 := f6 W hW; have e9 := f7 W hW; have e10 := f8 W hW; have e11 := f9 W hW; have e12 := f10 W hW; have e13 := f11 W hW; have e14 := f12 W hW; have e15 := f13 W hW; have e16 := f14 W hW; have e17 := g0 W hW; have e18 := g1 W hW; have e19 := g2 W hW; have e20 := g3 W hW; have e21 := g4 W hW; have e22 := g5 W hW; have e23 := g6 W hW; have e24 := g7 W hW; have e25 := g8 W hW; have e26 := g9 W hW; have e27 := g10 W hW; have e28 := g11 W hW; have e29 := g12 W hW; have e30 := g13 W hW; have e31 := g14 W hW; simp only [e0, e1, e2, e3, e4, e5, e6, e7, e8, e9, e10, e11, e12, e13, e14, e15, e16, e17, e18, e19, e20, e21, e22, e23, e24, e25, e26, e27, e28, e29, e30, e31, Result.andThen_ok]; first | exact ⟨trivial, rfl⟩ | exact rfl | exact ⟨rfl, rfl⟩)
                      | (skip)
                  go_big_quiet_on)))
        refine wpQuiet_nil ?_
        intro w2 hw2
        have HB2 := Lib.hid (keep_below (HCB.out w2 hw2) HBW.out)
        clear f0 f1 f2 f3 f4 f5 f6 f7 f8 f9 f10 f11 f12 f13 f14 f15 f16 g0 g1 g2 g3 g4 g5 g6 g7 g8 g9 g10 g11 g12 g13 g14 hq hC hw2
        go_wp2_with fail
        go_roundw
        case rel =>
          refine ⟨k + 1, HLT.out, by go_num, HB2.out, fun j hj => ?_⟩
          by_cases e : j < k
          · exact HAL.out j e
          · obtain rfl : j = k := by omega
            rw [HX.out, HY.out, HXY.out]
        case measure => have := HLT.out; simp [RowKit.intOf]; omega
      · rw [decide_eq_false hxy, Bool.not_false] at hq
        have HN : Hid (s ≠ o) := Lib.hid fun e => hxy (by have h1 := HX.out; rw [e, HY.out] at h1; exact (Option.some.inj h1).symm)
        clear hxy
        refine wp_region_cls C (by kernel_rfl) (by kernel_rfl) hC ?_
        repeat (first
          | go_big_quiet_skip
          | (go_big_quiet_want
             go_big_quiet_op
             first
               | go_big_quiet_on
               | (apply Exists.intro
                  refine ⟨fun W hW => ?_, ?_⟩
                  · first
                      | exact rfl
                      | exact ⟨rfl, rfl⟩
                      | (have e0 := f15 W hW; have e1 := f16 W hW; have e2 := f0 W hW; have e3 := f1 W hW; have e4 := f2 W hW; have e5 := f3 W hW; have e6 := f4 W hW; have e7 := f5 W hW; have e8 := f6 W hW; have e9 := f7 W hW; have e10 := f8 W hW; have e11 := f9 W hW; have e12 := f10 W hW; have e13 := f11 W hW; have e14 := f12 W hW; have e15 := f13 W hW; have e16 := f14 W hW; have e17 := g0 W hW; have e18 := g1 W hW; have e19 := g2 W hW; have e20 := g3 W hW; have e21 := g4 W hW; have e22 := g5 W hW; have e23 := g6 W hW; have e24 := g7 W hW; have e25 := g8 W hW; have e26 := g9 W hW; have e27 := g10 W hW; have e28 := g11 W hW; have e29 := g12 W hW; have e30 := g13 W hW; have e31 := g14 W hW; simp only [e0, e1, e2, e3, e4, e5, e6, e7, e8, e9, e10, e11, e12, e13, e14, e15, e16, e17, e18, e19, e20, e21, e22, e23, e24, e25, e26, e27, e28, e29, e30, e31, Result.andThen_ok]; done)
                      | (have e0 := f15 W hW; have e1 := f16 W hW; have e2 := f0 W hW; have e3 := f1 W hW; have e4 := f2 W hW; have e5 := f3 W hW; have e6 := f4 W hW; have e7 := f5 W hW; have e8 := f6 W hW; have e9 := f7 W hW; have e10 := f8 W hW; have e11 := f9 W hW; have e12 := f10 W hW; have e13 := f11 W hW; have e14 := f12 W hW; have e15 := f13 W hW; have e16 := f14 W hW; have e17 := g0 W hW; have e18 := g1 W hW; have e19 := g2 W hW; have e20 := g3 W hW; have e21 := g4 W hW; have e22 := g5 W hW; have e23 := g6 W hW; have e24 := g7 W hW; have e25 := g8 W hW; have e26 := g9 W hW; have e27 := g10 W hW; have e28 := g11 W hW; have e29 := g12 W hW; have e30 := g13 W hW; have e31 := g14 W hW; simp only [e0, e1, e2, e3, e4, e5, e6, e7, e8, e9, e10, e11, e12, e13, e14, e15, e16, e17, e18, e19, e20, e21, e22, e23, e24, e25, e26, e27, e28, e29, e30, e31, Result.andThen_ok]; first | exact ⟨trivial, rfl⟩ | exact rfl | exact ⟨rfl, rfl⟩)
                      | (skip)
                  go_big_quiet_on)))
        refine wpQuiet_nil ?_
        intro w2 hw2
        have HB2 := Lib.hid (keep_below (HCB.out w2 hw2) HBW.out)
        clear f0 f1 f2 f3 f4 f5 f6 f7 f8 f9 f10 f11 f12 f13 f14 f15 f16 g0 g1 g2 g3 g4 g5 g6 g7 g8 g9 g10 g11 g12 g13 g14 hq hC hw2
        go_wp2_with fail
        go_ret
        exact ⟨st_ne HN.out rfl, HD1.out.trans (HB2.out.mono HD1.out.size)⟩
    · obtain rfl : k = n := by omega
      have hdc : decide ((k : Int) < k) = false := decide_eq_false (by omega)
      go_wp2_with fail
      have HSN : Hid (s.snaps = o.snaps) := Lib.hid (List.ext_getElem? fun j => by
        by_cases e : j < k
        · exact HAL.out j e
        · have := HL.out; rw [List.getElem?_eq_none (by omega), List.getElem?_eq_none (by omega)])
      have hstart := HBW.out
      clear q13 HAL hdc hlt hk
      go_loopw [6] (fun t wr => ∃ i : Nat, i ≤ m ∧ t = .int .i64 i ∧ Below w1.heap.size w1 wr ∧ ∀ j, j < i → s.stale[j]? = o.stale[j]?) (fun t _ => m - (RowKit.intOf t).toNat)
      case atStart => exact ⟨0, Nat.zero_le _, rfl, hstart, fun j hj => absurd hj (Nat.not_lt_zero _)⟩
      case round =>
        clear hstart HBW
        obtain ⟨i, hi, rfl, hbw, hal⟩ := hrel
        have HBW := Lib.hid hbw
        have HAL := Lib.hid hal
        have q23 : wr.cell? ⟨w.heap.size, 23, none⟩ = some (.slice A2 m c2) := (HBA.out.below hbw HBA.out.lt).at_ rfl
        clear hbw hal
        by_cases hlt : i < m
        · obtain ⟨b, oo, rfl, hbl, hcell⟩ := H1.out.stale.cells (by have := HL.out; omega)
          obtain ⟨b2, o2, rfl, hbl2, hcell2⟩ := H2.out.stale.cells (by have := HL.out; omega)
          obtain ⟨x, hx⟩ : ∃ x, s.stale[i]? = some x := ⟨_, List.getElem?_eq_getElem (by have := HL.out; omega)⟩
          obtain ⟨y, hy⟩ : ∃ y, o.stale[i]? = some y := ⟨_, List.getElem?_eq_getElem (by have := HL.out; omega)⟩
          have hdc : decide (i < m) = true := decide_eq_true hlt
          have HLT := Lib.hid hlt
          have HX := Lib.hid hx
          have HY := Lib.hid hy
          repeat' (first
            | go_values
            | go_skip
            | go_guarded
            | ((fail_if_success (with_reducible refine drawn_mark ?_))
               first
                 | go_step
                 | go_upon
                 | go_back
                 | (simp only [Int.not_lt, Int.not_le] at *; go_simp)
                 | (go_values <;> (try go_simp))
                 | (go_ite <;> go_prune <;> (try go_simp))
                 | (split <;> (first | (rename_i hx; exact (hx _ rfl).elim) | go_prune))))
          obtain ⟨C, hC, hC0, hCB, hCK, hCd⟩ := cls_below wr
          have hbw1 : ∀ W, C W → ∀ i, i < w1.heap.size → W.heap[i]? = w1.heap[i]? := fun W hW i hi => ((hCB W hW).block i (Nat.lt_of_lt_of_le hi HBW.out.size)).trans (HBW.out.block i hi)
          have hbw0 : ∀ W, C W → ∀ i, i < w.heap.size → W.heap[i]? = w.heap[i]? := fun W hW i hi => (hbw1 W hW i (Nat.lt_of_lt_of_le hi HD1.out.size)).trans (HD1.out.block i hi)
          have f15 : ∀ W, C W → W.cell? ⟨w.heap.size, 23, none⟩ = some (.slice (some ⟨b, oo, none⟩) m c2) := fun W hW => (show Blk W _ _ _ from (hbw1 W hW _ HBA.out.lt).trans HBA.out).at_ rfl
          have f16 : ∀ W, C W → W.cell? ⟨w.heap.size + 1, 23, none⟩ = some (.slice (some ⟨b2, o2, none⟩) m c4) := fun W hW => (show Blk W _ _ _ from (hbw1 W hW _ HBB.out.lt).trans HBB.out).at_ rfl
          have hs1 : ∀ W, C W → ∀ j u, j < 2 → (staL x)[j]? = some u → W.cell? ⟨b, oo + i * 2 + j, none⟩ = some u := fun W hW j u hj hu => by
            rw [Nat.add_assoc]
            exact (World.cell?_of_block (hbw0 W hW b hbl)).trans <| hcell _ _ ((flat_at staL 2 (fun _ => rfl) s.stale i x hx j hj).trans hu)
          have hs2 : ∀ W, C W → ∀ j u, j < 2 → (staL y)[j]? = some u → W.cell? ⟨b2, o2 + i * 2 + j, none⟩ = some u := fun W hW j u hj hu => by
            rw [Nat.add_assoc]
            exact (World.cell?_of_block (hbw0 W hW b2 hbl2)).trans <| hcell2 _ _ ((flat_at staL 2 (fun _ => rfl) o.stale i y hy j hj).trans hu)
          have f0 : ∀ W, C W → W.cell? ⟨b, oo + i * 2, none⟩ = some (.int .i64 x.1) := fun W hW => hs1 W hW 0 _ (by omega) rfl
          have f1 : ∀ W, C W → W.cell? ⟨b, oo + i * 2 + 1, none⟩ = some (.int .i64 x.2) := fun W hW => hs1 W hW 1 _ (by omega) rfl
          have g0 : ∀ W, C W → W.cell? ⟨b2, o2 + i * 2, none⟩ = some (.int .i64 y.1) := fun W hW => hs2 W hW 0 _ (by omega) rfl
          have g1 : ∀ W, C W → W.cell? ⟨b2, o2 + i * 2 + 1, none⟩ = some (.int .i64 y.2) := fun W hW => hs2 W hW 1 _ (by omega) rfl
          have hq : ∀ W, (binOp .neq 76 (.agg #[.int .i64 x.1, .int .i64 x.2]) (.agg #[.int .i64 y.1, .int .i64 y.2])).run Tryz.prog W = .ok (.bool (!decide (x = y))) W := fun W => neq_pair x y W
          have HCB := Lib.hid hCB
          clear hs1 hs2 hbw0 hbw1 hcell hcell2 hx hy q23 hC0 hCd hCK hCB
          by_cases hxy : x = y
          · rw [decide_eq_true hxy, Bool.not_true] at hq
            have HXY := Lib.hid hxy
            clear hxy
            refine wp_region_cls C (by kernel_rfl) (by kernel_rfl) hC ?_
            repeat (first
              | go_big_quiet_skip
              | (go_big_quiet_want
                 go_big_quiet_op
                 first
                   | go_big_quiet_on
                   | (apply Exists.intro
                      refine ⟨fun W hW => ?_, ?_⟩
                      · first
                          | exact rfl
                          | exact ⟨rfl, rfl⟩
                          | (have e0 := f15 W hW; have e1 := f16 W hW; have e2 := f0 W hW; have e3 := f1 W hW; have e4 := g0 W hW; have e5 := g1 W hW; simp only [e0, e1, e2, e3, e4, e5, Result.andThen_ok]; done)
                          | (have e0 := f15 W hW; have e1 := f16 W hW; have e2 := f0 W hW; have e3 := f1 W hW; have e4 := g0 W hW; have e5 := g1 W hW; simp only [e0, e1, e2, e3, e4, e5, Result.andThen_ok]; first | exact ⟨trivial, rfl⟩ | exact rfl | exact ⟨rfl, rfl⟩)
                          | (skip)
                      go_big_quiet_on)))
            refine wpQuiet_nil ?_
            intro w2 hw2
            have HB2 := Lib.hid (keep_below (HCB.out w2 hw2) HBW.out)
            clear f0 f1 f15 f16 g0 g1 hq hC hw2
            go_wp2_with fail
            go_roundw
            case rel =>
              refine ⟨i + 1, HLT.out, by go_num, HB2.out, fun j hj => ?_⟩
              by_cases e : j < i
              · exact HAL.out j e
              · obtain rfl : j = i := by omega
                rw [HX.out, HY.out, HXY.out]
            case measure => have := HLT.out; simp [RowKit.intOf]; omega
          · rw [decide_eq_false hxy, Bool.not_false] at hq
            have HN : Hid (s ≠ o) := Lib.hid fun e => hxy (by have h1 := HX.out; rw [e, HY.out] at h1; exact (Option.some.inj h1).symm)
            clear hxy
            refine wp_region_cls C (by kernel_rfl) (by kernel_rfl) hC ?_
            repeat (first
              | go_big_quiet_skip
              | (go_big_quiet_want
                 go_big_quiet_op
                 first
                   | go_big_quiet_on
                   | (apply Exists.intro
                      refine ⟨fun W hW => ?_, ?_⟩
                      · first
                          | exact rfl
                          | exact ⟨rfl, rfl⟩
                          | (have e0 := f15 W hW; have e1 := f16 W hW; have e2 := f0 W hW; have e3 := f1 W hW; have e4 := g0 W hW; have e5 := g1 W hW; simp only [e0, e1, e2, e3, e4, e5, Result.andThen_ok]; done)
                          | (have e0 := f15 W hW; have e1 := f16 W hW; have e2 := f0 W hW; have e3 := f1 W hW; have e4 := g0 W hW; have e5 := g1 W hW; simp only [e0, e1, e2, e3, e4, e5, Result.andThen_ok]; first | exact ⟨trivial, rfl⟩ | exact rfl | exact ⟨rfl, rfl⟩)
                          | (skip)
                      go_big_quiet_on)))
            refine wpQuiet_nil ?_
            intro w2 hw2
            have HB2 := Lib.hid (keep_below (HCB.out w2 hw2) HBW.out)
            clear f0 f1 f15 f16 g0 g1 hq hC hw2
            go_wp2_with fail
            go_ret
            exact ⟨st_ne HN.out rfl, HD1.out.trans (HB2.out.mono HD1.out.size)⟩
        · obtain rfl : i = m := by omega
          have hdc : decide ((i : Int) < i) = false := decide_eq_false (by omega)
          have HTN : Hid (s.stale = o.stale) := Lib.hid (List.ext_getElem? fun j => by
            by_cases e : j < i
            · exact HAL.out j e
            · have := HL.out; rw [List.getElem?_eq_none (by omega), List.getElem?_eq_none (by omega)])
          have HEQ : Hid (s = o) := Lib.hid (by
            have a1 := HE1.out; have a2 := HE2.out; have a3 := HSN.out; have a4 := HTN.out
            cases s; cases o; simp only at a1 a2 a3 a4; rw [a1.1, a1.2, a2, a3, a4])
          go_wp2_with fail
          go_ret
          exact ⟨by rw [decide_eq_true HEQ.out]; rfl, HD1.out.trans (HBW.out.mono HD1.out.size)⟩
end Go.Proofs.YtidmbibpoldgcaaGreatDoor
