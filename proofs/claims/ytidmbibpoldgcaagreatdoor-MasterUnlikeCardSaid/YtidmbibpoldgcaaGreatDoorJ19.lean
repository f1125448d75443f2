/-
  Layer 17: snaps.
-/
import Derived.Test.YtidmbibpoldgcaaGreatDoorJ18
namespace Go.Proofs.YtidmbibpoldgcaaGreatDoor
set_option linter.unusedVariables false
set_option linter.unusedSimpArgs false
open Go.RowKit

/-- A slice's length is within its capacity. -/
def CapOk (v : Value) : Prop := ∃ A n c, v = .slice A n c ∧ n ≤ c
theorem own_cap {w : World} {base n size : Nat} {e : TypeId} {v : Value} {xs : List Value} (h : w.ownsRow base e size v n xs) : CapOk v := by
  rcases h.2 with ⟨rfl, _⟩ | ⟨g, cap, cur, rfl, _, _, h3, _⟩
  · exact ⟨none, 0, 0, rfl, Nat.le_refl _⟩
  · exact ⟨_, _, _, rfl, h3⟩
theorem flat_take {α : Type} (f : α → List Value) (l : List α) (k : Nat) {j : Nat} {u : Value} (h : ((l.take k).flatMap f)[j]? = some u) : (l.flatMap f)[j]? = some u := by
  have e : l.flatMap f = (l.take k).flatMap f ++ (l.drop k).flatMap f := by rw [← List.flatMap_append, List.take_append_drop]
  rw [e, List.getElem?_append_left (List.getElem?_eq_some_iff.1 h).1, h]
set_option maxRecDepth 20000 in
set_option maxHeartbeats 1000000 in
theorem snaps_any (A : Option Addr) (m c : Nat) (gs : List (Int × Int)) (secs : Int) {w : World} (hg : GeoAt w A m gs) {l : List SnapA} {sv : Value} (h1 : RowAt w sv l.length (snapC l)) (f1 : l.length ≤ 100) (hcap : CapOk sv) :
    Calls Tryz.prog 16 #[.agg #[.slice A m c, .int .i64 secs], sv] w fun e w' => e = .returned (.bool (snapsB gs secs l)) ∧ Below w.heap.size w w' := by
  obtain ⟨A1, c1, rfl⟩ := h1.form
  have hcp : l.length ≤ c1 := by obtain ⟨A', n', c', e, h⟩ := hcap; cases e; exact h
  obtain ⟨w1, hw1⟩ : ∃ x, w.alloc (.cells #[.slice A m c, .int .i64 secs] 24) = x := ⟨_, rfl⟩
  have G1 : Blk w1 w.heap.size 24 #[.slice A m c, .int .i64 secs] := by rw [← hw1]; exact Blk.new _ _ _
  have D1 : Hid (Below w.heap.size w w1) := Lib.hid (by rw [← hw1]; exact keep_alloc (Below.refl _ _) _)
  have HG1 := Lib.hid G1
  have H1 := Lib.hid h1
  have HG := Lib.hid hg
  have HCP := Lib.hid hcp
  clear h1 hg G1 hcap hcp
  go_enter Tryz.func16, Tryz.ntmps16
  go_wp2_with fail
  go_loopw [5, 6, 9] (fun _ _ t wr => ∃ k : Nat, k ≤ l.length ∧ t = .int .i64 k ∧ Below w.heap.size w wr ∧ Blk wr w.heap.size 24 #[.slice A m c, .int .i64 secs] ∧ ∀ j x, j < k → l[j]? = some x → snAt gs secs l j x = true) (fun _ _ t _ => l.length - (RowKit.intOf t).toNat)
  case atStart => exact ⟨0, Nat.zero_le _, rfl, D1.out, HG1.out, fun j x hj => absurd hj (Nat.not_lt_zero _)⟩
  case round =>
    obtain ⟨k, hk, rfl, hb, hgb, hal⟩ := hrel
    have HB := Lib.hid hb
    have HGB := Lib.hid hgb
    have HAL := Lib.hid hal
    by_cases hlt : k < l.length
    · obtain ⟨b, oo, rfl, hbl, hcell⟩ := H1.out.cells (by omega)
      obtain ⟨x, hx⟩ : ∃ x, l[k]? = some x := ⟨_, List.getElem?_eq_getElem hlt⟩
      have hs1 : ∀ j u, j < 15 → (snapL x)[j]? = some u → wr.cell? ⟨b, oo + k * 15 + j, none⟩ = some u := fun j u hj hu => by
        rw [Nat.add_assoc]
        exact (World.cell?_of_block (hb.block b hbl)).trans <| hcell _ _ ((flat_at snapL 15 (fun _ => rfl) l k x hx j hj).trans hu)
      have f0 : wr.cell? ⟨b, oo + k * 15, none⟩ = some (.int .i64 x.id) := hs1 0 _ (by omega) rfl
      have f1 : wr.cell? ⟨b, oo + k * 15 + 1, none⟩ = some (.int .i64 x.txg) := hs1 1 _ (by omega) rfl
      have f2 : wr.cell? ⟨b, oo + k * 15 + 2, none⟩ = some (.int .i64 x.n) := hs1 2 _ (by omega) rfl
      have f3 : wr.cell? ⟨b, oo + k * 15 + 3, none⟩ = some (.int .i64 x.p.ag) := hs1 3 _ (by omega) rfl
      have f4 : wr.cell? ⟨b, oo + k * 15 + 4, none⟩ = some (.int .i64 x.p.aa) := hs1 4 _ (by omega) rfl
      have f5 : wr.cell? ⟨b, oo + k * 15 + 5, none⟩ = some (.int .i64 x.p.bg) := hs1 5 _ (by omega) rfl
      have f6 : wr.cell? ⟨b, oo + k * 15 + 6, none⟩ = some (.int .i64 x.p.ba) := hs1 6 _ (by omega) rfl
      have f7 : wr.cell? ⟨b, oo + k * 15 + 7, none⟩ = some (.bool x.p.two) := hs1 7 _ (by omega) rfl
      have f8 : wr.cell? ⟨b, oo + k * 15 + 8, none⟩ = some (.int .i64 x.p.size) := hs1 8 _ (by omega) rfl
      have f9 : wr.cell? ⟨b, oo + k * 15 + 9, none⟩ = some (.int .i64 x.p.level) := hs1 9 _ (by omega) rfl
      have f10 : wr.cell? ⟨b, oo + k * 15 + 10, none⟩ = some (.int .i64 x.p.birth) := hs1 10 _ (by omega) rfl
      have f11 : wr.cell? ⟨b, oo + k * 15 + 11, none⟩ = some (.int .u64 x.p.s0) := hs1 11 _ (by omega) rfl
      have f12 : wr.cell? ⟨b, oo + k * 15 + 12, none⟩ = some (.int .u64 x.p.s1) := hs1 12 _ (by omega) rfl
      have f13 : wr.cell? ⟨b, oo + k * 15 + 13, none⟩ = some (.int .u64 x.p.s2) := hs1 13 _ (by omega) rfl
      have f14 : wr.cell? ⟨b, oo + k * 15 + 14, none⟩ = some (.int .u64 x.p.s3) := hs1 14 _ (by omega) rfl
      have hdc : decide (k < l.length) = true := decide_eq_true hlt
      have HLT := Lib.hid hlt
      have HX := Lib.hid hx
      have HBL := Lib.hid hbl
      have hi15 : (Tryz.prog.info? 75).map (·.size) = some (#[.int .i64 x.id, .int .i64 x.txg, .int .i64 x.n, .int .i64 x.p.ag, .int .i64 x.p.aa, .int .i64 x.p.bg, .int .i64 x.p.ba, .bool x.p.two, .int .i64 x.p.size, .int .i64 x.p.level, .int .i64 x.p.birth, .int .u64 x.p.s0, .int .u64 x.p.s1, .int .u64 x.p.s2, .int .u64 x.p.s3] : Array Value).size := by kernel_rfl
      have h1c : (#[.int .i64 x.id, .int .i64 x.txg, .int .i64 x.n, .int .i64 x.p.ag, .int .i64 x.p.aa, .int .i64 x.p.bg, .int .i64 x.p.ba, .bool x.p.two, .int .i64 x.p.size, .int .i64 x.p.level, .int .i64 x.p.birth, .int .u64 x.p.s0, .int .u64 x.p.s1, .int .u64 x.p.s2, .int .u64 x.p.s3] : Array Value).all (·.oneCell') = true := by kernel_rfl
      have Z2 : Blk (wr.alloc (.cells #[.int .i64 0, .int .i64 0, .int .i64 0, .int .i64 0, .int .i64 0, .int .i64 0, .int .i64 0, .bool false, .int .i64 0, .int .i64 0, .int .i64 0, .int .u64 0, .int .u64 0, .int .u64 0, .int .u64 0] 75)) wr.heap.size 75 #[.int .i64 0, .int .i64 0, .int .i64 0, .int .i64 0, .int .i64 0, .int .i64 0, .int .i64 0, .bool false, .int .i64 0, .int .i64 0, .int .i64 0, .int .u64 0, .int .u64 0, .int .u64 0, .int .u64 0] := Blk.new _ _ _
      have hth : (wr.alloc (.cells #[.int .i64 0, .int .i64 0, .int .i64 0, .int .i64 0, .int .i64 0, .int .i64 0, .int .i64 0, .bool false, .int .i64 0, .int .i64 0, .int .i64 0, .int .u64 0, .int .u64 0, .int .u64 0, .int .u64 0] 75)).there wr.heap.size 0 (#[.int .i64 x.id, .int .i64 x.txg, .int .i64 x.n, .int .i64 x.p.ag, .int .i64 x.p.aa, .int .i64 x.p.bg, .int .i64 x.p.ba, .bool x.p.two, .int .i64 x.p.size, .int .i64 x.p.level, .int .i64 x.p.birth, .int .u64 x.p.s0, .int .u64 x.p.s1, .int .u64 x.p.s2, .int .u64 x.p.s3] : Array Value).size := Z2.there (Nat.le_refl _)
      obtain ⟨w2, hw2⟩ : ∃ y, (wr.alloc (.cells #[.int .i64 0, .int .i64 0, .int .i64 0, .int .i64 0, .int .i64 0, .int .i64 0, .int .i64 0, .bool false, .int .i64 0, .int .i64 0, .int .i64 0, .int .u64 0, .int .u64 0, .int .u64 0, .int .u64 0] 75)).setCells wr.heap.size 0 (#[.int .i64 x.id, .int .i64 x.txg, .int .i64 x.n, .int .i64 x.p.ag, .int .i64 x.p.aa, .int .i64 x.p.bg, .int .i64 x.p.ba, .bool x.p.two, .int .i64 x.p.size, .int .i64 x.p.level, .int .i64 x.p.birth, .int .u64 x.p.s0, .int .u64 x.p.s1, .int .u64 x.p.s2, .int .u64 x.p.s3] : Array Value).toList = y := ⟨_, rfl⟩
      have X2 : Blk w2 wr.heap.size 75 #[.int .i64 x.id, .int .i64 x.txg, .int .i64 x.n, .int .i64 x.p.ag, .int .i64 x.p.aa, .int .i64 x.p.bg, .int .i64 x.p.ba, .bool x.p.two, .int .i64 x.p.size, .int .i64 x.p.level, .int .i64 x.p.birth, .int .u64 x.p.s0, .int .u64 x.p.s1, .int .u64 x.p.s2, .int .u64 x.p.s3] := by rw [← hw2]; exact Z2.putAll #[.int .i64 x.id, .int .i64 x.txg, .int .i64 x.n, .int .i64 x.p.ag, .int .i64 x.p.aa, .int .i64 x.p.bg, .int .i64 x.p.ba, .bool x.p.two, .int .i64 x.p.size, .int .i64 x.p.level, .int .i64 x.p.birth, .int .u64 x.p.s0, .int .u64 x.p.s1, .int .u64 x.p.s2, .int .u64 x.p.s3] rfl
      have hb2 : Below wr.heap.size wr w2 := by rw [← hw2]; exact below_sets _ _ (keep_alloc (Below.refl _ _) _) (Nat.le_refl _)
      have HX2 := Lib.hid X2
      have HB2 := Lib.hid (HB.out.trans (hb2.mono HB.out.size))
      have HG2 := Lib.hid (HGB.out.below hb2 HGB.out.lt)
      have HK2 := Lib.hid hb2
      have HW2 := Lib.hid hw2
      have e0 : w2.cell? ⟨wr.heap.size, 0, none⟩ = some (.int .i64 x.id) := X2.at_ rfl
      clear hs1 hx hb hgb hal hbl X2 hb2 Z2 hw2
      go_wp2_with ((with_reducible refine wpList_store_mid ?a1 75 (.tmp 6) (.tmp 13) ?a2 wr.heap.size 0 #[.int .i64 x.id, .int .i64 x.txg, .int .i64 x.n, .int .i64 x.p.ag, .int .i64 x.p.aa, .int .i64 x.p.bg, .int .i64 x.p.ba, .bool x.p.two, .int .i64 x.p.size, .int .i64 x.p.level, .int .i64 x.p.birth, .int .u64 x.p.s0, .int .u64 x.p.s1, .int .u64 x.p.s2, .int .u64 x.p.s3] ?a3 ?a4 hth hi15 h1c ?_); (case a2 => rfl); (case a3 => rfl); (case a4 => rfl); (case a1 => rfl); simp only [Act.put, List.setIfInBounds_toArray, List.set_cons_zero, List.set_cons_succ]; rw [HW2.out])
      refine (mwithin_any x.id 99 w2).mono ?_
      rintro e w3 ⟨rfl, hb3⟩
      have X3 := HX2.out.below hb3 HX2.out.lt
      have G3 := HG2.out.below hb3 HG2.out.lt
      have HX2 := Lib.hid X3
      have HG2 := Lib.hid G3
      have HB2 := Lib.hid (keep_below hb3 HB2.out)
      have HK2 := Lib.hid (keep_below hb3 HK2.out)
      have b3 : ∀ i v, (#[.int .i64 x.id, .int .i64 x.txg, .int .i64 x.n, .int .i64 x.p.ag, .int .i64 x.p.aa, .int .i64 x.p.bg, .int .i64 x.p.ba, .bool x.p.two, .int .i64 x.p.size, .int .i64 x.p.level, .int .i64 x.p.birth, .int .u64 x.p.s0, .int .u64 x.p.s1, .int .u64 x.p.s2, .int .u64 x.p.s3] : Array Value)[i]? = some v → w3.cell? ⟨wr.heap.size, i, none⟩ = some v := fun i v hv => X3.at_ hv
      have e0 : w3.cell? ⟨wr.heap.size, 0, none⟩ = some (.int .i64 x.id) := b3 0 _ rfl
      have e1 : w3.cell? ⟨wr.heap.size, 0 + 1, none⟩ = some (.int .i64 x.txg) := b3 1 _ rfl
      have e2 : w3.cell? ⟨wr.heap.size, 0 + 2, none⟩ = some (.int .i64 x.n) := b3 2 _ rfl
      have e3 : w3.cell? ⟨wr.heap.size, 0 + 3, none⟩ = some (.int .i64 x.p.ag) := b3 3 _ rfl
      have e4 : w3.cell? ⟨wr.heap.size, 0 + 4, none⟩ = some (.int .i64 x.p.aa) := b3 4 _ rfl
      have e5 : w3.cell? ⟨wr.heap.size, 0 + 5, none⟩ = some (.int .i64 x.p.bg) := b3 5 _ rfl
      have e6 : w3.cell? ⟨wr.heap.size, 0 + 6, none⟩ = some (.int .i64 x.p.ba) := b3 6 _ rfl
      have e7 : w3.cell? ⟨wr.heap.size, 0 + 7, none⟩ = some (.bool x.p.two) := b3 7 _ rfl
      have e8 : w3.cell? ⟨wr.heap.size, 0 + 8, none⟩ = some (.int .i64 x.p.size) := b3 8 _ rfl
      have e9 : w3.cell? ⟨wr.heap.size, 0 + 9, none⟩ = some (.int .i64 x.p.level) := b3 9 _ rfl
      have e10 : w3.cell? ⟨wr.heap.size, 0 + 10, none⟩ = some (.int .i64 x.p.birth) := b3 10 _ rfl
      have e11 : w3.cell? ⟨wr.heap.size, 0 + 11, none⟩ = some (.int .u64 x.p.s0) := b3 11 _ rfl
      have e12 : w3.cell? ⟨wr.heap.size, 0 + 12, none⟩ = some (.int .u64 x.p.s1) := b3 12 _ rfl
      have e13 : w3.cell? ⟨wr.heap.size, 0 + 13, none⟩ = some (.int .u64 x.p.s2) := b3 13 _ rfl
      have e14 : w3.cell? ⟨wr.heap.size, 0 + 14, none⟩ = some (.int .u64 x.p.s3) := b3 14 _ rfl
      have g0 : w3.cell? ⟨w.heap.size, 0, none⟩ = some (.slice A m c) := G3.at_ rfl
      have g1 : w3.cell? ⟨w.heap.size, 1, none⟩ = some (.int .i64 secs) := G3.at_ rfl
      clear f0 f1 f2 f3 f4 f5 f6 f7 f8 f9 f10 f11 f12 f13 f14 hb3 X3 G3 b3 hi15 h1c hth HW2
      have HSN : Hid (snOne gs secs x = (inB 99 x.id && (decide (1 ≤ x.txg) && (decide (x.txg ≤ 4294967295) && nRightB gs secs x.n x.p)))) := Lib.hid rfl
      have HSA : Hid (snAt gs secs l k x = (snOne gs secs x && (prevOk l k x && !((l.take k).any fun y => y.id == x.id)))) := Lib.hid rfl
      cases hid : inB 99 x.id with
      | false =>
        have HV : Hid (snAt gs secs l k x = false) := Lib.hid (by rw [HSA.out, HSN.out, hid]; rfl)
        clear hid HSN HSA
        go_wp2_with fail
        go_ret
        exact ⟨ret_bool (snapsB_bad HX.out HV.out).symm, HB2.out⟩
      | true =>
        rw [hid, Bool.true_and] at HSN
        clear hid
        by_cases ht1 : x.txg < 1
        · have d1 : decide (x.txg < 1) = true := decide_eq_true ht1
          have HV : Hid (snAt gs secs l k x = false) := Lib.hid (by rw [HSA.out, HSN.out, decide_eq_false (by omega : ¬ 1 ≤ x.txg)]; rfl)
          clear ht1 HSN HSA
          go_wp2_with fail
          go_ret
          exact ⟨ret_bool (snapsB_bad HX.out HV.out).symm, HB2.out⟩
        have d1 : decide (x.txg < 1) = false := decide_eq_false ht1
        rw [decide_eq_true (by omega : 1 ≤ x.txg), Bool.true_and] at HSN
        clear ht1
        by_cases ht2 : 4294967295 < x.txg
        · have d2 : decide (4294967295 < x.txg) = true := decide_eq_true ht2
          have HV : Hid (snAt gs secs l k x = false) := Lib.hid (by rw [HSA.out, HSN.out, decide_eq_false (by omega : ¬ x.txg ≤ 4294967295)]; rfl)
          clear ht2 HSN HSA
          go_wp2_with fail
          go_ret
          exact ⟨ret_bool (snapsB_bad HX.out HV.out).symm, HB2.out⟩
        have d2 : decide (4294967295 < x.txg) = false := decide_eq_false ht2
        rw [decide_eq_true (by omega : x.txg ≤ 4294967295), Bool.true_and] at HSN
        clear ht2
        go_wp2_with fail
        refine (nright_any A m c gs secs x.n x.p w3 (HG.out.below HB2.out (Nat.le_refl _))).mono ?_
        rintro e w4 ⟨rfl, hb4⟩
        have X4 := HX2.out.below hb4 HX2.out.lt
        have HX2 := Lib.hid X4
        have HG2 := Lib.hid (HG2.out.below hb4 HG2.out.lt)
        have HB2 := Lib.hid (keep_below hb4 HB2.out)
        have HK2 := Lib.hid (keep_below hb4 HK2.out)
        have e1 : w4.cell? ⟨wr.heap.size, 1, none⟩ = some (.int .i64 x.txg) := X4.at_ rfl
        clear e0 e2 e3 e4 e5 e6 e7 e8 e9 e10 e11 e12 e13 e14 g0 g1 d1 d2 hb4 X4
        cases hnr : nRightB gs secs x.n x.p with
        | false =>
          have HV : Hid (snAt gs secs l k x = false) := Lib.hid (by rw [HSA.out, HSN.out, hnr]; rfl)
          clear hnr HSN HSA
          go_wp2_with fail
          go_ret
          exact ⟨ret_bool (snapsB_bad HX.out HV.out).symm, HB2.out⟩
        | true =>
          rw [hnr] at HSN
          rw [HSN.out, Bool.true_and] at HSA
          clear hnr HSN
          repeat' (first
            | go_values
            | go_skip
            | go_guarded
            | ((fail_if_success (with_reducible refine drawn_mark ?_))
               first
                 | go_step
                 | go_upon
                 | go_back
                 | (simp only [Int.not_lt, Int.not_le] at *; go_simp)
                 | (go_values <;> (try go_simp))
                 | (go_ite <;> go_prune <;> (try go_simp))
                 | (split <;> (first | (rename_i hx; exact (hx _ rfl).elim) | go_prune))))
          obtain ⟨C, hC, hC0, hCB, hCK, hCd⟩ := cls_below w4
          have f0 : ∀ W, C W → W.cell? ⟨wr.heap.size, 1, none⟩ = some (.int .i64 x.txg) := fun W h => (HX2.out.below (hCB W h) HX2.out.lt).at_ rfl
          have HBW : Hid (∀ W, C W → ∀ i, i < w.heap.size → W.heap[i]? = w.heap[i]?) := Lib.hid fun W h i hi => ((hCB W h).block i (Nat.lt_of_lt_of_le hi HB2.out.size)).trans (HB2.out.block i hi)
          have hlk : (l.take k).length = k := by rw [List.length_take]; omega
          have hmf : ∀ (fn : Fn) (first cap : Array Value) (w : World), (Instr.makeFunc fn first cap).run Tryz.prog w = .ok (.func fn first cap) w := fun _ _ _ _ => rfl
          obtain ⟨ca, hca⟩ : ∃ v, v = (l.take k).any fun y => y.id == x.id := ⟨_, rfl⟩
          have HCON : Hid (∀ W, C W → Calls Tryz.prog 40 #[.slice (some ⟨b, oo, none⟩) k c1, .func (.func 41) #[] #[.pointer (some ⟨wr.heap.size, 0, none⟩)]] W fun e w' => e = .returned (.bool ca) ∧ Below W.heap.size W w') := Lib.hid fun W hW => by
            have hrow : RowAt W (.slice (some ⟨b, oo, none⟩) k c1) (l.take k).length ((l.take k).flatMap snapL) := by
              refine ⟨some ⟨b, oo, none⟩, c1, by rw [hlk], fun hp => ?_⟩
              obtain ⟨b', o', he, hbl, hcell⟩ := H1.out.cells (by omega)
              cases he
              exact ⟨b, oo, rfl, Nat.lt_of_lt_of_le hbl (Nat.le_trans HB2.out.size (hCB W hW).size), fun j u hu => (World.cell?_of_block (HBW.out W hW b hbl)).trans (hcell j u (flat_take snapL l k hu))⟩
            rw [hca]
            exact conS_any 41 #[.pointer (some ⟨wr.heap.size, 0, none⟩)] (fun y => y.id == x.id) hrow (by omega) goesS1 (fun y W' hb' => snaps1m_any (HX2.out.below ((hCB W hW).trans (hb'.mono (hCB W hW).size)) HX2.out.lt) y)
          have hcp : k ≤ c1 := by have := HCP.out; omega
          rw [← hca] at HSA
          clear hlk hca e1 hC0 hCd
          by_cases hk0 : k = 0
          · subst hk0
            have hpo : prevOk l 0 x = true := rfl
            rw [hpo, Bool.true_and] at HSA
            clear hpo
            cases ca with
            | true =>
              have HV : Hid (snAt gs secs l 0 x = false) := HSA
              clear HSA
              refine wp_region_cls C (by kernel_rfl) (by kernel_rfl) hC ?_
              repeat (first
                | go_big_quiet_skip
                | (go_big_quiet_want
                   go_big_quiet_op
                   first
                     | go_big_quiet_on
                     | (apply Exists.intro
                        refine ⟨fun W hW => ?_, ?_⟩
                        · first
                            | exact rfl
                            | exact ⟨rfl, rfl⟩
                            | (have e0 := f0 W hW; simp only [e0, Result.andThen_ok]; done)
                            | (have e0 := f0 W hW; simp only [e0, Result.andThen_ok]; first | exact ⟨trivial, rfl⟩ | exact rfl | exact ⟨rfl, rfl⟩)
                            | ((go_at_call 40; with_reducible refine (HCON.out W hW).mono ?_; rintro e w' ⟨rfl, hb⟩; exact ⟨rfl, hCK _ _ hW hb⟩))
                        go_big_quiet_on)))
              refine wpQuiet_nil ?_
              intro w6 hw6
              have HB6 := Lib.hid (HB2.out.trans ((hCB w6 hw6).mono HB2.out.size))
              have HG6 := Lib.hid (HG2.out.below (hCB w6 hw6) HG2.out.lt)
              clear hC hw6 hCB hCK f0 HCON HBW
              go_wp2_with fail
              go_ret
              exact ⟨ret_bool (snapsB_bad HX.out HV.out).symm, HB6.out⟩
            | false =>
              have HV : Hid (snAt gs secs l 0 x = true) := HSA
              clear HSA
              refine wp_region_cls C (by kernel_rfl) (by kernel_rfl) hC ?_
              repeat (first
                | go_big_quiet_skip
                | (go_big_quiet_want
                   go_big_quiet_op
                   first
                     | go_big_quiet_on
                     | (apply Exists.intro
                        refine ⟨fun W hW => ?_, ?_⟩
                        · first
                            | exact rfl
                            | exact ⟨rfl, rfl⟩
                            | (have e0 := f0 W hW; simp only [e0, Result.andThen_ok]; done)
                            | (have e0 := f0 W hW; simp only [e0, Result.andThen_ok]; first | exact ⟨trivial, rfl⟩ | exact rfl | exact ⟨rfl, rfl⟩)
                            | ((go_at_call 40; with_reducible refine (HCON.out W hW).mono ?_; rintro e w' ⟨rfl, hb⟩; exact ⟨rfl, hCK _ _ hW hb⟩))
                        go_big_quiet_on)))
              refine wpQuiet_nil ?_
              intro w6 hw6
              have HB6 := Lib.hid (HB2.out.trans ((hCB w6 hw6).mono HB2.out.size))
              have HG6 := Lib.hid (HG2.out.below (hCB w6 hw6) HG2.out.lt)
              clear hC hw6 hCB hCK f0 HCON HBW
              go_wp2_with fail
              go_roundw
              case rel =>
                refine ⟨0 + 1, HLT.out, by go_num, HB6.out, HG6.out, fun i z hi hz => ?_⟩
                by_cases e : i < 0
                · exact HAL.out i z e hz
                · obtain rfl : i = 0 := by omega
                  have h2 := HX.out
                  rw [hz] at h2
                  cases h2
                  exact HV.out
              case measure => have := HLT.out; simp [RowKit.intOf]; omega
          · obtain ⟨j, rfl⟩ : ∃ j, k = j + 1 := ⟨k - 1, by omega⟩
            clear hk0
            obtain ⟨y, hy⟩ : ∃ y, l[j]? = some y := ⟨_, List.getElem?_eq_getElem (by omega)⟩
            have f1 : ∀ W, C W → W.cell? ⟨b, oo + j * 15 + 1, none⟩ = some (.int .i64 y.txg) := fun W hW => by
              obtain ⟨b', o', he, hbl, hcell⟩ := H1.out.cells (by omega)
              cases he
              rw [Nat.add_assoc]
              exact (World.cell?_of_block (HBW.out W hW b hbl)).trans (hcell _ _ (flat_at snapL 15 (fun _ => rfl) l j y hy 1 (by omega)))
            have hpo : prevOk l (j + 1) x = decide (y.txg ≤ x.txg) := by
              unfold prevOk
              rw [Nat.add_sub_cancel, hy]
              rfl
            rw [hpo] at HSA
            have hwr : IntKind.i64.wrap ((j : Int) + 1 - 1) = j := by rw [Int.add_sub_cancel, IntKind.wrap_i64]; omega
            have hjl : decide (j < l.length) = true := decide_eq_true (by omega)
            clear hpo hy
            by_cases hxy : x.txg < y.txg
            · have dxy : decide (x.txg < y.txg) = true := decide_eq_true hxy
              rw [decide_eq_false (by omega : ¬ y.txg ≤ x.txg)] at HSA
              have HV : Hid (snAt gs secs l (j + 1) x = false) := HSA
              clear HSA hxy
              refine wp_region_cls C (by kernel_rfl) (by kernel_rfl) hC ?_
              repeat (first
                | go_big_quiet_skip
                | (go_big_quiet_want
                   go_big_quiet_op
                   first
                     | go_big_quiet_on
                     | (apply Exists.intro
                        refine ⟨fun W hW => ?_, ?_⟩
                        · first
                            | exact rfl
                            | exact ⟨rfl, rfl⟩
                            | (have e0 := f0 W hW; have e1 := f1 W hW; simp only [e0, e1, Result.andThen_ok]; done)
                            | (have e0 := f0 W hW; have e1 := f1 W hW; simp only [e0, e1, Result.andThen_ok]; first | exact ⟨trivial, rfl⟩ | exact rfl | exact ⟨rfl, rfl⟩)
                            | ((go_at_call 40; with_reducible refine (HCON.out W hW).mono ?_; rintro e w' ⟨rfl, hb⟩; exact ⟨rfl, hCK _ _ hW hb⟩))
                        go_big_quiet_on)))
              refine wpQuiet_nil ?_
              intro w6 hw6
              have HB6 := Lib.hid (HB2.out.trans ((hCB w6 hw6).mono HB2.out.size))
              have HG6 := Lib.hid (HG2.out.below (hCB w6 hw6) HG2.out.lt)
              clear hC hw6 hCB hCK f0 HCON HBW
              go_wp2_with fail
              go_ret
              exact ⟨ret_bool (snapsB_bad HX.out HV.out).symm, HB6.out⟩
            · have dxy : decide (x.txg < y.txg) = false := decide_eq_false hxy
              rw [decide_eq_true (by omega : y.txg ≤ x.txg), Bool.true_and] at HSA
              clear hxy
              cases ca with
              | true =>
                have HV : Hid (snAt gs secs l (j + 1) x = false) := HSA
                clear HSA
                refine wp_region_cls C (by kernel_rfl) (by kernel_rfl) hC ?_
                repeat (first
                  | go_big_quiet_skip
                  | (go_big_quiet_want
                     go_big_quiet_op
                     first
                       | go_big_quiet_on
                       | (apply Exists.intro
                          refine ⟨fun W hW => ?_, ?_⟩
                          · first
                              | exact rfl
                              | exact ⟨rfl, rfl⟩
                              | (have e0 := f0 W hW; have e1 := f1 W hW; simp only [e0, e1, Result.andThen_ok]; done)
                              | (have e0 := f0 W hW; have e1 := f1 W hW; simp only [e0, e1, Result.andThen_ok]; first | exact ⟨trivial, rfl⟩ | exact rfl | exact ⟨rfl, rfl⟩)
                              | ((go_at_call 40; with_reducible refine (HCON.out W hW).mono ?_; rintro e w' ⟨rfl, hb⟩; exact ⟨rfl, hCK _ _ hW hb⟩))
                          go_big_quiet_on)))
                refine wpQuiet_nil ?_
                intro w6 hw6
                have HB6 := Lib.hid (HB2.out.trans ((hCB w6 hw6).mono HB2.out.size))
                have HG6 := Lib.hid (HG2.out.below (hCB w6 hw6) HG2.out.lt)
                clear hC hw6 hCB hCK f0 HCON HBW
                go_wp2_with fail
                go_ret
                exact ⟨ret_bool (snapsB_bad HX.out HV.out).symm, HB6.out⟩
              | false =>
                have HV : Hid (snAt gs secs l (j + 1) x = true) := HSA
                clear HSA
                refine wp_region_cls C (by kernel_rfl) (by kernel_rfl) hC ?_
                repeat (first
                  | go_big_quiet_skip
                  | (go_big_quiet_want
                     go_big_quiet_op
                     first
                       | go_big_quiet_on
                       | (apply Exists.intro
                          refine ⟨fun W hW => ?_, ?_⟩
                          · first
                              | exact rfl
                              | exact ⟨rfl, rfl⟩
                              | (have e0 := f0 W hW; have e1 := f1 W hW; simp only [e0, e1, Result.andThen_ok]; done)
                              | (have e0 := f0 W hW; have e1 := f1 W hW; simp only [e0, e1, Result.andThen_ok]; first | exact ⟨trivial, rfl⟩ | exact rfl | exact ⟨rfl, rfl⟩)
                              | ((go_at_call 40; with_reducible refine (HCON.out W hW).mono ?_; rintro e w' ⟨rfl, hb⟩; exact ⟨rfl, hCK _ _ hW hb⟩))
                          go_big_quiet_on)))
                refine wpQuiet_nil ?_
                intro w6 hw6
                have HB6 := Lib.hid (HB2.out.trans ((hCB w6 hw6).mono HB2.out.size))
                have HG6 := Lib.hid (HG2.out.below (hCB w6 hw6) HG2.out.lt)
                clear hC hw6 hCB hCK f0 HCON HBW
                go_wp2_with fail
                go_roundw
                case rel =>
                  refine ⟨j + 1 + 1, HLT.out, by go_num, HB6.out, HG6.out, fun i z hi hz => ?_⟩
                  by_cases e : i < j + 1
                  · exact HAL.out i z e hz
                  · obtain rfl : i = j + 1 := by omega
                    have h2 := HX.out
                    rw [hz] at h2
                    cases h2
                    exact HV.out
                case measure => have := HLT.out; simp [RowKit.intOf]; omega
    · obtain rfl : k = l.length := by omega
      have hdc : decide ((l.length : Int) < l.length) = false := decide_eq_false (by omega)
      have HV := Lib.hid (snapsB_good (gs := gs) (secs := secs) fun i x hi => HAL.out i x (List.getElem?_eq_some_iff.1 hi).1 hi)
      clear hb hgb hal
      go_wp2_with fail
      go_ret
      exact ⟨ret_bool (by rw [HV.out]; exact decide_eq_decide.2 (by omega)), HB.out⟩
end Go.Proofs.YtidmbibpoldgcaaGreatDoor
