/-
  Contracts of package fletch: more, Sum.
  Contracts: geom.Bytes, uber.Bytes.
  Contracts: uber.Bytes.
-/
import Derived.Test.YtlpbbjjibnbooaaGreatDoorJ17
import Derived.Test.YtlpbbjjibnbooaaGreatDoorJ09
import Derived.Test.YtlpbbjjibnbooaaGreatDoorJ16
import Derived.Test.YtlpbbjjibnbooaaGreatDoorJ01
namespace Go.Proofs.YtlpbbjjibnbooaaGreatDoor
set_option linter.unusedVariables false
set_option linter.unusedSimpArgs false
open Go.RowKit
attribute [local go_sem] Oper.semAt_some

theorem words_any (s : List UInt8) (w : World) : Calls Tryz.prog 105 #[str s] w fun e w' =>
    e = .returned (.func (.func 126) #[] #[.pointer (some ⟨w.heap.size, 0, none⟩)]) ∧ w'.cell? ⟨w.heap.size, 0, none⟩ = some (str s) ∧ Below w.heap.size w w' := by
  go_enter Tryz.func105, Tryz.ntmps105
  go_wp2_with fail
  go_ret
  exact ⟨rfl, cell_new' (by simp) rfl, keep_alloc (Below.refl _ _) _⟩
theorem wrap_sum (a b : Nat) : IntKind.u64.wrap ((a : Int) + (b : Int)) = (((a + b) % M64 : Nat) : Int) := by
  have : (a : Int) + (b : Int) = ((a + b : Nat) : Int) := by omega
  rw [this, IntKind.wrap_u64]
  rfl
/-- The state amid a word. -/
def fpart (x : Nat × Nat × Nat × Nat) (w : Nat) : Nat → (Nat × Nat × Nat × Nat) × Nat
  | 0 => (x, w)
  | 1 => (((x.1 + w) % M64, x.2.1, x.2.2.1, x.2.2.2), (x.1 + w) % M64)
  | 2 => (((x.1 + w) % M64, (x.2.1 + (x.1 + w) % M64) % M64, x.2.2.1, x.2.2.2), (x.2.1 + (x.1 + w) % M64) % M64)
  | 3 => (((x.1 + w) % M64, (x.2.1 + (x.1 + w) % M64) % M64, (x.2.2.1 + (x.2.1 + (x.1 + w) % M64) % M64) % M64, x.2.2.2), (x.2.2.1 + (x.2.1 + (x.1 + w) % M64) % M64) % M64)
  | _ => (fstep x w, (fstep x w).2.2.2)
set_option maxRecDepth 20000 in
set_option maxHeartbeats 1000000 in
theorem fmore_any (x : Nat × Nat × Nat × Nat) (s : List UInt8) (hl : s.length ≤ 140737488351000) (w : World) : Calls Tryz.prog 68 #[.agg (fcells x), str s] w fun e w' => e = .returned (.agg (fcells ((wordsL s).foldl fstep x))) ∧ Below w.heap.size w w' := by
  obtain ⟨w2, hw2⟩ : ∃ z, (w.alloc (.cells (fcells x) 29)).alloc (.cells #[.int .u64 0, .int .u64 0, .int .u64 0, .int .u64 0] 29) = z := ⟨_, rfl⟩
  have B1 : Blk w2 w.heap.size 29 (fcells x) := by rw [← hw2]; exact (Blk.new _ _ _).alloc _
  have B2 : Blk w2 (w.heap.size + 1) 29 #[.int .u64 0, .int .u64 0, .int .u64 0, .int .u64 0] := by rw [← hw2]; exact Blk.new2 _ _ _ _
  have D2 : Below w.heap.size w w2 := by rw [← hw2]; exact keep_alloc (keep_alloc (Below.refl _ _) _) _
  have HB1 := Lib.hid B1
  have HB2 := Lib.hid B2
  have HD2 := Lib.hid D2
  have HW2 := Lib.hid hw2
  have HWD := Lib.hid (words_any s w2)
  clear B1 B2 D2 hw2
  refine (callsIn_wide (n := 9)).1 ?_
  refine callsIn_of_wp_marks Tryz.func68 rfl trivial (wpIn_wide.2 ?_) rfl
  simp only [Tryz.ntmps68, List.size_toArray, List.length_cons, List.length_nil, Nat.reduceAdd, Nat.reduceSub, Array.replicate_succ, Array.replicate_zero, List.push_toArray, List.append_toArray, List.nil_append, List.cons_append]
  go_wp2_with fail
  rw [HW2.out]
  refine HWD.out.mono ?_
  rintro e w3 ⟨rfl, hc3, hb3⟩
  have b13 := HB1.out.below hb3 HB1.out.lt
  have b23 := HB2.out.below hb3 HB2.out.lt
  have d3 := keep_below hb3 HD2.out
  have HLT : Hid (w.heap.size + 1 < w3.heap.size) := Lib.hid b23.lt
  have HS := Lib.hid (words_seq (9 - 1) (V := fun b => b = w.heap.size) hc3 hl (fun b h => by rw [h]; exact b13.lt))
  have H0 := Lib.hid (And.intro b13 (And.intro b23 d3))
  clear b13 b23 d3 hc3 hb3
  go_wp2_with fail
  refine (wpIn_wide (n := 9)).1 ?_
  refine wpIn_range_cells rfl (by decide) (gf := 126) (lb := _) rfl trivial (enters_of Tryz.func126 (by kernel_rfl) rfl) HS.out KB.trans kb_putObj (fun _ => rfl)
    (fun pre W => Blk W w.heap.size 29 (fcells (pre.foldl fstep x)) ∧ Blk W (w.heap.size + 1) 29 #[.int .u64 0, .int .u64 0, .int .u64 0, .int .u64 0] ∧ Below w.heap.size w W) ?hI H0.out ?a1 ?assign ?body ?done
  case hI =>
    rintro pre A B row ⟨h1, h2, h3⟩ hg hr
    have hne : ∀ i, i < w3.heap.size → row ≠ some i := fun i hi e => by have := hr i e; omega
    exact ⟨(hg.block _ h1.lt (fun e => hne _ (by have := HLT.out; omega) e.symm)).trans h1, (hg.block _ h2.lt (fun e => hne _ HLT.out e.symm)).trans h2,
      ⟨hg.os.trans h3.os, hg.tape.trans h3.tape, hg.output.trans h3.output, Nat.le_trans h3.size hg.size, fun i hi => (hg.block i (Nat.lt_of_lt_of_le hi h3.size) (fun e => hne i (by have := HLT.out; omega) e.symm)).trans (h3.block i hi)⟩⟩
  case assign =>
    intro l x W K hK
    simp only [wordE, List.zip_toArray, List.zip_cons_cons, List.zip_nil_left, List.zip_nil_right, List.foldl_toArray, List.foldl_cons, List.foldl_nil, List.size_toArray, List.length_cons, List.length_nil, List.setIfInBounds_toArray, List.set_cons_succ, List.set_cons_zero]
    gi_wp2
    exact hK
  case body =>
    rintro l pre v W ⟨h1, h2, h3⟩ hpre
    have hvm : v < 4294967296 := words_lt v (hpre.subset (List.mem_append_right _ List.mem_cons_self))
    obtain ⟨y, hy⟩ : ∃ y, pre.foldl fstep x = y := ⟨_, rfl⟩
    have hst : (pre ++ [v]).foldl fstep x = fstep y v := by rw [List.foldl_append, hy]; rfl
    rw [hy] at h1
    have HW := Lib.hid (And.intro h1 (And.intro h2 h3))
    have HST := Lib.hid hst
    clear h1 h2 h3 hpre hy hst
    gi_wp2_with fail
    gi_loopw [5, 10] (fun wv t wr => ∃ k : Nat, k ≤ 4 ∧ t = .int .i64 k ∧ wv = .int .u64 (fpart y v k).2 ∧ Blk wr w.heap.size 29 (fcells (fpart y v k).1) ∧ W.grownBy wr (some w.heap.size)) (fun _ t _ => 4 - (RowKit.intOf t).toNat)
    case atStart => exact ⟨0, Nat.zero_le _, rfl, rfl, HW.out.1, rfl, rfl, rfl, Nat.le_refl _, fun _ _ _ => rfl⟩
    case round =>
      obtain ⟨k, hk, rfl, rfl, hbk, hgr⟩ := hrel
      have HB := Lib.hid (And.intro hbk hgr)
      rcases (show k = 0 ∨ k = 1 ∨ k = 2 ∨ k = 3 ∨ k = 4 by omega) with rfl | rfl | rfl | rfl | rfl
      · have c0 : wr.cell? ⟨w.heap.size, 0, none⟩ = some (.int .u64 (y.1 : Nat)) := hbk.at_ rfl
        have f0 := hbk.fr 0
        have hs := wrap_sum (y.1) (v)
        obtain ⟨z, hz⟩ : ∃ z, ((y.1) + (v)) % M64 = z := ⟨_, rfl⟩
        rw [hz] at hs
        have HZ := Lib.hid hz
        have hv2 : (fpart y v 0).2 = v := rfl
        rw [hv2]
        obtain ⟨v2, hv3⟩ : ∃ v2, v = v2 := ⟨_, rfl⟩
        rw [hv3] at hs
        rw [hv3]
        obtain ⟨y2, hy3⟩ : ∃ y2, y.1 = y2 := ⟨_, rfl⟩
        rw [hy3] at hs c0
        have HY := Lib.hid (And.intro hv3 hy3)
        clear hv2 hz hbk hgr hv3 hy3
        gi_wp2_with fail
        obtain ⟨hv3, hy3⟩ := HY.out
        have hz := HZ.out
        subst hv3 hy3 hz
        exact ⟨⟨0 + 1, by omega, rfl, rfl, HB.out.1.put 0 _, only_set HB.out.2 (.inl rfl) _⟩, by simp [RowKit.intOf]⟩
      · have c0 : wr.cell? ⟨w.heap.size, 1, none⟩ = some (.int .u64 (y.2.1 : Nat)) := hbk.at_ rfl
        have f0 := hbk.fr 1
        have hs := wrap_sum (y.2.1) (((y.1 + v) % M64))
        obtain ⟨z, hz⟩ : ∃ z, ((y.2.1) + (((y.1 + v) % M64))) % M64 = z := ⟨_, rfl⟩
        rw [hz] at hs
        have HZ := Lib.hid hz
        have hv2 : (fpart y v 1).2 = ((y.1 + v) % M64) := rfl
        rw [hv2]
        obtain ⟨v2, hv3⟩ : ∃ v2, ((y.1 + v) % M64) = v2 := ⟨_, rfl⟩
        rw [hv3] at hs
        rw [hv3]
        obtain ⟨y2, hy3⟩ : ∃ y2, y.2.1 = y2 := ⟨_, rfl⟩
        rw [hy3] at hs c0
        have HY := Lib.hid (And.intro hv3 hy3)
        clear hv2 hz hbk hgr hv3 hy3
        gi_wp2_with fail
        obtain ⟨hv3, hy3⟩ := HY.out
        have hz := HZ.out
        subst hv3 hy3 hz
        exact ⟨⟨1 + 1, by omega, rfl, rfl, HB.out.1.put 1 _, only_set HB.out.2 (.inl rfl) _⟩, by simp [RowKit.intOf]⟩
      · have c0 : wr.cell? ⟨w.heap.size, 2, none⟩ = some (.int .u64 (y.2.2.1 : Nat)) := hbk.at_ rfl
        have f0 := hbk.fr 2
        have hs := wrap_sum (y.2.2.1) (((y.2.1 + (y.1 + v) % M64) % M64))
        obtain ⟨z, hz⟩ : ∃ z, ((y.2.2.1) + (((y.2.1 + (y.1 + v) % M64) % M64))) % M64 = z := ⟨_, rfl⟩
        rw [hz] at hs
        have HZ := Lib.hid hz
        have hv2 : (fpart y v 2).2 = ((y.2.1 + (y.1 + v) % M64) % M64) := rfl
        rw [hv2]
        obtain ⟨v2, hv3⟩ : ∃ v2, ((y.2.1 + (y.1 + v) % M64) % M64) = v2 := ⟨_, rfl⟩
        rw [hv3] at hs
        rw [hv3]
        obtain ⟨y2, hy3⟩ : ∃ y2, y.2.2.1 = y2 := ⟨_, rfl⟩
        rw [hy3] at hs c0
        have HY := Lib.hid (And.intro hv3 hy3)
        clear hv2 hz hbk hgr hv3 hy3
        gi_wp2_with fail
        obtain ⟨hv3, hy3⟩ := HY.out
        have hz := HZ.out
        subst hv3 hy3 hz
        exact ⟨⟨2 + 1, by omega, rfl, rfl, HB.out.1.put 2 _, only_set HB.out.2 (.inl rfl) _⟩, by simp [RowKit.intOf]⟩
      · have c0 : wr.cell? ⟨w.heap.size, 3, none⟩ = some (.int .u64 (y.2.2.2 : Nat)) := hbk.at_ rfl
        have f0 := hbk.fr 3
        have hs := wrap_sum (y.2.2.2) (((y.2.2.1 + (y.2.1 + (y.1 + v) % M64) % M64) % M64))
        obtain ⟨z, hz⟩ : ∃ z, ((y.2.2.2) + (((y.2.2.1 + (y.2.1 + (y.1 + v) % M64) % M64) % M64))) % M64 = z := ⟨_, rfl⟩
        rw [hz] at hs
        have HZ := Lib.hid hz
        have hv2 : (fpart y v 3).2 = ((y.2.2.1 + (y.2.1 + (y.1 + v) % M64) % M64) % M64) := rfl
        rw [hv2]
        obtain ⟨v2, hv3⟩ : ∃ v2, ((y.2.2.1 + (y.2.1 + (y.1 + v) % M64) % M64) % M64) = v2 := ⟨_, rfl⟩
        rw [hv3] at hs
        rw [hv3]
        obtain ⟨y2, hy3⟩ : ∃ y2, y.2.2.2 = y2 := ⟨_, rfl⟩
        rw [hy3] at hs c0
        have HY := Lib.hid (And.intro hv3 hy3)
        clear hv2 hz hbk hgr hv3 hy3
        gi_wp2_with fail
        obtain ⟨hv3, hy3⟩ := HY.out
        have hz := HZ.out
        subst hv3 hy3 hz
        exact ⟨⟨3 + 1, by omega, rfl, rfl, HB.out.1.put 3 _, only_set HB.out.2 (.inl rfl) _⟩, by simp [RowKit.intOf]⟩
      · gi_wp2_with fail
        have hne : w.heap.size + 1 ≠ w.heap.size := by omega
        refine ⟨KeepsFrom.of_grownBy HB.out.2 (fun j e => by cases e; have := HLT.out; omega), ⟨HB.out.2.size, fun b t cs hn hb => (HB.out.2.block b hb.lt (fun e => hn (by injection e))).trans hb⟩, ?_, HW.out.2.1.grown HB.out.2 hne, below_only HW.out.2.2 HB.out.2 (Nat.le_refl _)⟩
        rw [HST.out]
        exact HB.out.1
  case done =>
    rintro D W hD ⟨h1, h2, h3⟩ hK
    obtain ⟨S, hS⟩ : ∃ S, (wordsL s).foldl fstep x = S := ⟨_, rfl⟩
    rw [hS] at h1
    have HSS := Lib.hid hS
    clear hS
    have c0 : W.cell? ⟨w.heap.size, 0, none⟩ = some (.int .u64 S.1) := h1.at_ rfl
    have c1 : W.cell? ⟨w.heap.size, 1, none⟩ = some (.int .u64 S.2.1) := h1.at_ rfl
    have c2 : W.cell? ⟨w.heap.size, 2, none⟩ = some (.int .u64 S.2.2.1) := h1.at_ rfl
    have c3 : W.cell? ⟨w.heap.size, 3, none⟩ = some (.int .u64 S.2.2.2) := h1.at_ rfl
    have f0 := h2.fr 0
    have f1 := h2.fr 1
    have f2 := h2.fr 2
    have f3 := h2.fr 3
    have z0 := h2.at_ (i := 0) (v := .int .u64 0) rfl
    have z1 := h2.at_ (i := 1) (v := .int .u64 0) rfl
    have z2 := h2.at_ (i := 2) (v := .int .u64 0) rfl
    have z3 := h2.at_ (i := 3) (v := .int .u64 0) rfl
    have hP := ((((h2.put 0 (.int .u64 S.1)).put 1 (.int .u64 S.2.1)).put 2 (.int .u64 S.2.2.1)).put 3 (.int .u64 S.2.2.2))
    obtain ⟨W4, hW4⟩ : ∃ z, (((W.setCell ⟨w.heap.size + 1, 0, none⟩ (.int .u64 S.1)).setCell ⟨w.heap.size + 1, 1, none⟩ (.int .u64 S.2.1)).setCell ⟨w.heap.size + 1, 2, none⟩ (.int .u64 S.2.2.1)).setCell ⟨w.heap.size + 1, 3, none⟩ (.int .u64 S.2.2.2) = z := ⟨_, rfl⟩
    have hK4 : W4.heap[D]? = some (.deferred (some [])) := by rw [← hW4]; exact (KeepsOthers.setCell _ _ _).same D _ ((KeepsOthers.setCell _ _ _).same D _ ((KeepsOthers.setCell _ _ _).same D _ ((KeepsOthers.setCell _ _ _).same D _ hK rfl) rfl) rfl) rfl
    rw [hW4] at hP
    have hB4 : Below w.heap.size w W4 := by rw [← hW4]; exact below_set (below_set (below_set (below_set h3 _ _ _ (Nat.le_succ _)) _ _ _ (Nat.le_succ _)) _ _ _ (Nat.le_succ _)) _ _ _ (Nat.le_succ _)
    have hP5 : Blk (W4.putObj D (.deferred none)) (w.heap.size + 1) 29 (fcells S) := (World.putObj_heap_other (by have := HLT.out; omega)).trans hP
    have HP5 := Lib.hid hP5
    have HK4 := Lib.hid hK4
    have HB5 : Hid (Below w.heap.size w (W4.putObj D (.deferred none))) := Lib.hid (hB4.trans (belowK_b (w := w) (Nat.le_refl _) _ D _ _ (by have := HLT.out; omega) hK4 rfl rfl))
    have HW4 := Lib.hid hW4
    clear h1 h2 h3 hK hP hK4 hB4 hP5 hW4
    go_wp2_with fail
    rw [HW4.out]
    refine ⟨by simp, .inl ⟨_, _, rfl, run_takeDeferred HK4.out, ?_⟩⟩
    refine ⟨.agg (fcells S), ?_, by rw [HSS.out], HB5.out⟩
    have e0 := HP5.out.at_ (i := 0) (v := .int .u64 S.1) rfl
    have e1 := HP5.out.at_ (i := 1) (v := .int .u64 S.2.1) rfl
    have e2 := HP5.out.at_ (i := 2) (v := .int .u64 S.2.2.1) rfl
    have e3 := HP5.out.at_ (i := 3) (v := .int .u64 S.2.2.2) rfl
    simp [results, Tryz.f68, go_sem, e0, e1, e2, e3]
theorem fsum_any (s : List UInt8) (hl : s.length ≤ 140737488351000) (w : World) : Calls Tryz.prog 28 #[str s] w fun e w' => e = .returned (.agg (fcells (fsum s))) ∧ Below w.heap.size w w' := by
  obtain ⟨w2, hw2⟩ : ∃ z, w.alloc (.cells #[.int .u64 0, .int .u64 0, .int .u64 0, .int .u64 0] 29) = z := ⟨_, rfl⟩
  have B2 : Blk w2 w.heap.size 29 #[.int .u64 0, .int .u64 0, .int .u64 0, .int .u64 0] := by rw [← hw2]; exact Blk.new _ _ _
  have D2 : Below w.heap.size w w2 := by rw [← hw2]; exact keep_alloc (Below.refl _ _) _
  have HB2 := Lib.hid B2
  have HD2 := Lib.hid D2
  have HW2 := Lib.hid hw2
  have HM := Lib.hid (fmore_any (0, 0, 0, 0) s hl w2)
  clear B2 D2 hw2
  go_enter Tryz.func28, Tryz.ntmps28
  go_wp2_with fail
  rw [HW2.out]
  refine HM.out.mono ?_
  rintro e w3 ⟨rfl, hb3⟩
  have h2 := HB2.out.below hb3 HB2.out.lt
  obtain ⟨S, hS⟩ : ∃ S, (wordsL s).foldl fstep (0, 0, 0, 0) = S := ⟨_, rfl⟩
  have hF : fsum s = S := hS
  have HF := Lib.hid hF
  have f0 := h2.fr 0
  have f1 := h2.fr 1
  have f2 := h2.fr 2
  have f3 := h2.fr 3
  have z0 := h2.at_ (i := 0) (v := .int .u64 0) rfl
  have z1 := h2.at_ (i := 1) (v := .int .u64 0) rfl
  have z2 := h2.at_ (i := 2) (v := .int .u64 0) rfl
  have z3 := h2.at_ (i := 3) (v := .int .u64 0) rfl
  have HP := Lib.hid ((((h2.put 0 (.int .u64 S.1)).put 1 (.int .u64 S.2.1)).put 2 (.int .u64 S.2.2.1)).put 3 (.int .u64 S.2.2.2))
  have HB3 := Lib.hid (keep_below hb3 HD2.out)
  rw [hS]
  clear hb3 h2 hF hS
  go_wp2_with fail
  have e0 := HP.out.at_ (i := 0) (v := .int .u64 S.1) rfl
  have e1 := HP.out.at_ (i := 1) (v := .int .u64 S.2.1) rfl
  have e2 := HP.out.at_ (i := 2) (v := .int .u64 S.2.2.1) rfl
  have e3 := HP.out.at_ (i := 3) (v := .int .u64 S.2.2.2) rfl
  refine bodyPost_ret (v := .agg (fcells S)) (by simp [results, Tryz.f28, go_sem, e0, e1, e2, e3]) rfl ⟨by rw [HF.out], below_set (below_set (below_set (below_set HB3.out _ _ _ (Nat.le_refl _)) _ _ _ (Nat.le_refl _)) _ _ _ (Nat.le_refl _)) _ _ _ (Nat.le_refl _)⟩
end Go.Proofs.YtlpbbjjibnbooaaGreatDoor

namespace Go.Proofs.YtlpbbjjibnbooaaGreatDoor
set_option linter.unusedVariables false
set_option linter.unusedSimpArgs false
open Go.RowKit

theorem keepU {W W' : World} {b o : Nat} {v : Value} (h : W.cell? ⟨b, o, none⟩ = some v) (hb : Below W.heap.size W W') : W'.cell? ⟨b, o, none⟩ = some v :=
  (World.cell?_of_block (hb.block b (World.block_lt_of_cell? W _ h))).trans h
theorem str_cat18 (a b : List UInt8) : Value.string ((⟨a.toArray⟩ : ByteArray) ++ ⟨b.toArray⟩) = str (a ++ b) := by
  show Value.string _ = Value.string ⟨(a ++ b).toArray⟩
  congr 1
theorem ba_app (a b : List UInt8) : (⟨a.toArray⟩ : ByteArray) ++ ⟨b.toArray⟩ = ⟨(a ++ b).toArray⟩ := ByteArray.ext (by simp)
theorem u32L_le (n : Int) : (u32L n).length ≤ 4 := by
  unfold u32L
  split
  · rw [layL_len]
    exact Nat.le_refl _
  · exact Nat.zero_le _
/-- A measure's bytes. -/
def gbG (x : Int × Int) : List UInt8 := u32L x.1 ++ u32L x.2
def gbTo (gs : List (Int × Int)) (secs : Int) (k : Nat) : List UInt8 := (u32L gs.length ++ u32L secs) ++ (gs.take k).flatMap gbG
def gbL (gs : List (Int × Int)) (secs : Int) : List UInt8 := if gRight gs secs then gbTo gs secs gs.length else []
theorem gbTo_step {gs : List (Int × Int)} {secs : Int} {k : Nat} {x : Int × Int} (h : gs[k]? = some x) : gbTo gs secs (k + 1) = gbTo gs secs k ++ (u32L x.1 ++ u32L x.2) := by
  unfold gbTo
  rw [List.take_add_one, h, List.flatMap_append, ← List.append_assoc]
  simp [gbG]
theorem gbTo_len (gs : List (Int × Int)) (secs : Int) (k : Nat) : (gbTo gs secs k).length ≤ 8 + 8 * k := by
  unfold gbTo
  rw [List.length_append, List.length_append]
  have h1 := u32L_le gs.length
  have h2 := u32L_le secs
  have h3 : ∀ l : List (Int × Int), (l.flatMap gbG).length ≤ 8 * l.length := by
    intro l
    induction l with
    | nil => exact Nat.zero_le _
    | cons x r ih =>
      rw [List.flatMap_cons, List.length_append, List.length_cons]
      have h4 := u32L_le x.1
      have h5 := u32L_le x.2
      have : (gbG x).length ≤ 8 := by unfold gbG; rw [List.length_append]; omega
      omega
  have h4 := h3 (gs.take k)
  have : (gs.take k).length ≤ k := by rw [List.length_take]; omega
  omega
set_option maxRecDepth 20000 in
set_option maxHeartbeats 1000000 in
theorem gbytes_any (A : Option Addr) (m c : Nat) (gs : List (Int × Int)) (secs : Int) (w : World) (hg : GeoAt w A m gs) :
    Calls Tryz.prog 29 #[.agg #[.slice A m c, .int .i64 secs]] w fun e w' => e = .returned (str (gbL gs secs)) ∧ Below w.heap.size w w' := by
  obtain ⟨w1, hw1⟩ : ∃ z, w.alloc (.cells #[.slice A m c, .int .i64 secs] 24) = z := ⟨_, rfl⟩
  have B1 : Blk w1 w.heap.size 24 #[.slice A m c, .int .i64 secs] := by rw [← hw1]; exact Blk.new _ _ _
  have D1 : Below w.heap.size w w1 := by rw [← hw1]; exact keep_alloc (Below.refl _ _) _
  have HR := Lib.hid (right_any A m c gs secs w1 (hg.below D1 (Nat.le_refl _)))
  obtain ⟨gr, hgr⟩ : ∃ gr, gRight gs secs = gr := ⟨_, rfl⟩
  rw [hgr] at HR
  have hml : gs.length = m := hg.1
  have hm4 : gr = true → gs.length ≤ 4 ∧ 0 < gs.length := fun h => by
    rw [h] at hgr
    simp only [gRight, Bool.and_eq_true, decide_eq_true_eq] at hgr
    omega
  have HG := Lib.hid (hg.below D1 (Nat.le_refl _))
  have HB1 := Lib.hid (And.intro B1 D1)
  have HGR := Lib.hid hgr
  have HW1 := Lib.hid hw1
  have x0 := B1.at_ (i := 0) (v := .slice A m c) rfl
  have x1 := B1.at_ (i := 1) (v := .int .i64 secs) rfl
  rw [← hw1] at x0 x1
  clear hg B1 D1 hgr hw1
  go_enter Tryz.func29, Tryz.ntmps29
  go_wp2_with fail
  rw [HW1.out]
  refine HR.out.mono ?_
  rintro e w2 ⟨rfl, hb2⟩
  have HB2 := Lib.hid (And.intro (HB1.out.1.below hb2 HB1.out.1.lt) (keep_below hb2 HB1.out.2))
  have HG2 := Lib.hid (HG.out.below hb2 (Nat.le_refl _))
  clear x0 x1 hb2
  cases gr with
  | false =>
    have HE : Hid (gbL gs secs = []) := Lib.hid (by unfold gbL; rw [HGR.out]; rfl)
    clear hm4 hml
    go_wp2_with fail
    go_ret
    exact ⟨by rw [HE.out]; rfl, HB2.out.2⟩
  | true =>
    have HE : Hid (gbL gs secs = gbTo gs secs gs.length) := Lib.hid (by unfold gbL; rw [HGR.out]; rfl)
    obtain ⟨hm1, hm0⟩ := hm4 rfl
    clear hm4
    have hU := fun n W => u32_any n W
    have HU := Lib.hid hU
    obtain ⟨C, hCd, hCw, hCB, hCK, hCD⟩ := cls_below w2
    have x0 := HB2.out.1.at_ (i := 0) (v := .slice A m c) rfl
    have x1 := HB2.out.1.at_ (i := 1) (v := .int .i64 secs) rfl
    have f0 : ∀ W, C W → W.cell? ⟨w.heap.size, 0, none⟩ = some (.slice A m c) := fun W h => keepU x0 (hCB W h)
    have f1 : ∀ W, C W → W.cell? ⟨w.heap.size, 1, none⟩ = some (.int .i64 secs) := fun W h => keepU x1 (hCB W h)
    have h1 := u32L_le m
    have h2 := u32L_le secs
    have h0 : gbTo gs secs 0 = u32L m ++ u32L secs := by unfold gbTo; rw [hml]; simp
    have H0 := Lib.hid h0
    obtain ⟨a, ha⟩ : ∃ a, u32L m = a := ⟨_, rfl⟩
    obtain ⟨b, hb⟩ : ∃ b, u32L secs = b := ⟨_, rfl⟩
    have HUA : Hid (∀ W, Calls Tryz.prog 69 #[.int .i64 (m : Int)] W fun e w' => e = .returned (str a) ∧ Below W.heap.size W w') := Lib.hid fun W => by rw [← ha]; exact u32_any _ W
    have HUB : Hid (∀ W, Calls Tryz.prog 69 #[.int .i64 secs] W fun e w' => e = .returned (str b) ∧ Below W.heap.size W w') := Lib.hid fun W => by rw [← hb]; exact u32_any _ W
    rw [ha] at h1 H0
    rw [hb] at h2 H0
    have hcc : ¬ 9223372036854775807 < (ByteArray.mk a.toArray).size + (ByteArray.mk b.toArray).size := by simp [ByteArray.size]; omega
    have HC := Lib.hid hCB
    clear hU x0 x1 h0 ha hb hCw hCB hCD
    go_wp2_with fail
    refine wp_region_cls C (by kernel_rfl) (by kernel_rfl) hCd ?_
    repeat (first
      | go_big_quiet_skip
      | (go_big_quiet_want
         go_big_quiet_op
         first
           | go_big_quiet_on
           | (apply Exists.intro
              refine ⟨fun W hW => ?_, ?_⟩
              · first
                  | exact rfl
                  | exact ⟨rfl, rfl⟩
                  | (have e0 := f0 W hW; have e1 := f1 W hW; simp only [e0, e1, Result.andThen_ok]; done)
                  | (have e0 := f0 W hW; have e1 := f1 W hW; simp only [e0, e1, Result.andThen_ok]; first | exact ⟨trivial, rfl⟩ | exact rfl | exact ⟨rfl, rfl⟩)
                  | (first | (with_reducible refine (HUA.out W).mono ?_; rintro e w' ⟨rfl, hb⟩; exact ⟨rfl, hCK _ _ hW hb⟩) | (with_reducible refine (HUB.out W).mono ?_; rintro e w' ⟨rfl, hb⟩; exact ⟨rfl, hCK _ _ hW hb⟩))
              go_big_quiet_on)))
    refine wpQuiet_nil ?_
    intro w3 hw3
    have hb3 := HC.out w3 hw3
    have HB3 := Lib.hid (And.intro (HB2.out.1.below hb3 HB2.out.1.lt) (keep_below hb3 HB2.out.2))
    have HG3 := Lib.hid (HG2.out.below hb3 (Nat.le_refl _))
    have y0 := HB3.out.1.at_ (i := 0) (v := .slice A m c) rfl
    rw [str_cat18, ← H0.out]
    clear f0 f1 hCd hw3 hb3 hcc h1 h2 HUA HUB
    have hg3 := HG3.out
    obtain ⟨gb, gof, rfl, hgc⟩ := hg3.2.2 (by omega)
    go_wp2_with fail
    go_loopw [3, 5, 20] (fun out _ t wr => ∃ k : Nat, k ≤ m ∧ out = str (gbTo gs secs k) ∧ t = .int .i64 k ∧ Below w3.heap.size w3 wr) (fun _ _ t _ => m - (RowKit.intOf t).toNat)
    case atStart => exact ⟨0, Nat.zero_le _, rfl, rfl, Below.refl _ _⟩
    case round =>
      obtain ⟨k, hk, rfl, rfl, hb⟩ := hrel
      have hle := gbTo_len gs secs k
      have HB := Lib.hid hb
      by_cases hlt : k < m
      · obtain ⟨x, hx⟩ : ∃ x, gs[k]? = some x := ⟨_, List.getElem?_eq_getElem (by omega)⟩
        have hst := gbTo_step (secs := secs) hx
        have q0 := keepU (hgc.2 k x hx).1 hb
        have q1 := keepU (hgc.2 k x hx).2 hb
        obtain ⟨P, hP⟩ : ∃ P, gbTo gs secs k = P := ⟨_, rfl⟩
        obtain ⟨a2, ha2⟩ : ∃ a, u32L x.1 = a := ⟨_, rfl⟩
        obtain ⟨b2, hb2⟩ : ∃ b, u32L x.2 = b := ⟨_, rfl⟩
        have h1 := u32L_le x.1
        have h2 := u32L_le x.2
        have HUA : Hid (∀ W, Calls Tryz.prog 69 #[.int .i64 x.1] W fun e w' => e = .returned (str a2) ∧ Below W.heap.size W w') := Lib.hid fun W => by rw [← ha2]; exact u32_any _ W
        have HUB : Hid (∀ W, Calls Tryz.prog 69 #[.int .i64 x.2] W fun e w' => e = .returned (str b2) ∧ Below W.heap.size W w') := Lib.hid fun W => by rw [← hb2]; exact u32_any _ W
        rw [hP] at hst hle ⊢
        rw [ha2] at hst h1
        rw [hb2] at hst h2
        have hcc : ¬ 9223372036854775807 < (ByteArray.mk a2.toArray).size + (ByteArray.mk b2.toArray).size := by simp [ByteArray.size]; omega
        have hcc2 : ¬ 9223372036854775807 < P.length + (a2.length + b2.length) := by omega
        obtain ⟨w6, hw6⟩ : ∃ z, wr.alloc (.cells #[.int .i64 x.1, .int .i64 x.2] 71) = z := ⟨_, rfl⟩
        have hN6 : Blk w6 wr.heap.size 71 #[.int .i64 x.1, .int .i64 x.2] := by rw [← hw6]; exact Blk.new _ _ _
        have hB6 : Below w3.heap.size w3 w6 := by rw [← hw6]; exact keep_alloc hb _
        obtain ⟨C, hCd, hCw, hCB, hCK, hCD⟩ := cls_below w6
        have f0 : ∀ W, C W → W.cell? ⟨wr.heap.size, 0, none⟩ = some (.int .i64 x.1) := fun W h => keepU (hN6.at_ rfl) (hCB W h)
        have f1 : ∀ W, C W → W.cell? ⟨wr.heap.size, 1, none⟩ = some (.int .i64 x.2) := fun W h => keepU (hN6.at_ rfl) (hCB W h)
        have HC := Lib.hid hCB
        have HST := Lib.hid hst
        have HB6 := Lib.hid hB6
        have HW6 := Lib.hid hw6
        have hd : decide (k < m) = true := decide_eq_true hlt
        clear hst hx ha2 hb2 hP hb hw6 hN6 hB6 hCw hCB hCD hgc
        go_wp2_with fail
        rw [HW6.out]
        refine wp_region_cls C (by kernel_rfl) (by kernel_rfl) hCd ?_
        repeat (first
          | go_big_quiet_skip
          | (go_big_quiet_want
             go_big_quiet_op
             first
               | go_big_quiet_on
               | (apply Exists.intro
                  refine ⟨fun W hW => ?_, ?_⟩
                  · first
                      | exact rfl
                      | exact ⟨rfl, rfl⟩
                      | (have e0 := f0 W hW; have e1 := f1 W hW; simp only [e0, e1, Result.andThen_ok]; done)
                      | (have e0 := f0 W hW; have e1 := f1 W hW; simp only [e0, e1, Result.andThen_ok]; first | exact ⟨trivial, rfl⟩ | exact rfl | exact ⟨rfl, rfl⟩)
                      | (first | (with_reducible refine (HUA.out W).mono ?_; rintro e w' ⟨rfl, hb⟩; exact ⟨rfl, hCK _ _ hW hb⟩) | (with_reducible refine (HUB.out W).mono ?_; rintro e w' ⟨rfl, hb⟩; exact ⟨rfl, hCK _ _ hW hb⟩))
                  go_big_quiet_on)))
        refine wpQuiet_nil ?_
        intro w7 hw7
        have HB7 := Lib.hid (keep_below (HC.out w7 hw7) HB6.out)
        clear f0 f1 hCd hw7 hcc hcc2 h1 h2 hle q0 q1
        go_wp2_with fail
        go_roundw
        case rel => exact ⟨k + 1, hlt, by rw [HST.out, ba_app, ba_app], by go_num, HB7.out⟩
        case measure => simp [RowKit.intOf]; omega
      · obtain rfl : k = m := by omega
        have hd : decide (k < k) = false := decide_eq_false (by omega)
        have HF := Lib.hid (keep_below hb HB3.out.2)
        clear hb hle
        go_wp2_with fail
        go_ret
        exact ⟨by rw [HE.out, hml]; rfl, HF.out⟩
/-- A sum's bytes. -/
def sum4 (x : Nat × Nat × Nat × Nat) : List UInt8 := sumL [x.1, x.2.1, x.2.2.1, x.2.2.2]
theorem sum4_len (x : Nat × Nat × Nat × Nat) : (sum4 x).length = 32 := sumL_len _
theorem fold_lt : ∀ (l : List Nat) (x : Nat × Nat × Nat × Nat), (x.1 < M64 ∧ x.2.1 < M64 ∧ x.2.2.1 < M64 ∧ x.2.2.2 < M64) → ((l.foldl fstep x).1 < M64 ∧ (l.foldl fstep x).2.1 < M64 ∧ (l.foldl fstep x).2.2.1 < M64 ∧ (l.foldl fstep x).2.2.2 < M64)
  | [], _, h => h
  | a :: l, x, _ => fold_lt l (fstep x a) ⟨Nat.mod_lt _ (by decide), Nat.mod_lt _ (by decide), Nat.mod_lt _ (by decide), Nat.mod_lt _ (by decide)⟩
theorem fsum_lt (s : List UInt8) : (fsum s).1 < 18446744073709551616 ∧ (fsum s).2.1 < 18446744073709551616 ∧ (fsum s).2.2.1 < 18446744073709551616 ∧ (fsum s).2.2.2 < 18446744073709551616 :=
  fold_lt (wordsL s) (0, 0, 0, 0) ⟨by decide, by decide, by decide, by decide⟩
theorem sumB_any (s : List UInt8) (w : World) : Calls Tryz.prog 27 #[.agg (fcells (fsum s))] w fun e w' => e = .returned (str (sum4 (fsum s))) ∧ Below w.heap.size w w' := by
  obtain ⟨h0, h1, h2, h3⟩ := fsum_lt s
  exact fbytes_any _ _ _ _ w h0 h1 h2 h3
end Go.Proofs.YtlpbbjjibnbooaaGreatDoor

namespace Go.Proofs.YtlpbbjjibnbooaaGreatDoor
set_option linter.unusedVariables false
set_option linter.unusedSimpArgs false
open Go.RowKit

def magicL : List UInt8 := [112, 111, 108, 100, 101, 114, 48, 49]
def ubH (gs : List (Int × Int)) (secs t n : Int) (p : PtrD) : List UInt8 := padL (magicL ++ layL t.toNat 8 ++ sum4 (fsum (gbL gs secs)) ++ nodeL n p) 224
def ubL (gs : List (Int × Int)) (secs t n : Int) (p : PtrD) : List UInt8 := ubH gs secs t n p ++ sum4 (fsum (ubH gs secs t n p))
def ubOk (gs : List (Int × Int)) (secs t n : Int) (p : PtrD) : Bool := gRight gs secs && (decide (1 ≤ t) && (decide (t ≤ 4294967295) && nodeOk n p))
def ubS (gs : List (Int × Int)) (secs t n : Int) (p : PtrD) : List UInt8 := if ubOk gs secs t n p then ubL gs secs t n p else []
def ubE (gs : List (Int × Int)) (secs t n : Int) (p : PtrD) : Int := if ubOk gs secs t n p then 0 else 1
theorem nodeL_len {n : Int} {p : PtrD} (h : nodeOk n p = true) (op : p.Ok) : (nodeL n p).length = 128 := by
  unfold nodeOk at h
  simp only [Bool.and_eq_true] at h
  have := ptrL_len h.2 op
  unfold nodeL padL
  rw [if_pos (by omega)]
  have h1 : (layL n.toNat 8 ++ (layL 1 8 ++ ptrL p)).length = 80 := by rw [List.length_append, List.length_append, layL_len, layL_len, this]
  rw [List.length_append, h1, List.length_replicate]
  rfl
theorem gbL_len (gs : List (Int × Int)) (secs : Int) : (gbL gs secs).length ≤ 40 := by
  unfold gbL
  split
  · rename_i h
    simp only [gRight, Bool.and_eq_true, decide_eq_true_eq] at h
    have := gbTo_len gs secs gs.length
    omega
  · exact Nat.zero_le _
theorem ubH_len {gs : List (Int × Int)} {secs t n : Int} {p : PtrD} (h : nodeOk n p = true) (op : p.Ok) : (ubH gs secs t n p).length = 224 := by
  unfold ubH padL
  rw [if_pos (by omega)]
  have h1 : (magicL ++ layL t.toNat 8 ++ sum4 (fsum (gbL gs secs)) ++ nodeL n p).length = 176 := by rw [List.length_append, List.length_append, List.length_append, layL_len, sum4_len, nodeL_len h op]; rfl
  rw [List.length_append, h1, List.length_replicate]
  rfl
theorem ubL_len {gs : List (Int × Int)} {secs t n : Int} {p : PtrD} (h : nodeOk n p = true) (op : p.Ok) : (ubL gs secs t n p).length = 256 := by
  unfold ubL
  rw [List.length_append, ubH_len h op, sum4_len]
set_option maxRecDepth 20000 in
set_option maxHeartbeats 2000000 in
theorem ubytes_any (A : Option Addr) (m c : Nat) (gs : List (Int × Int)) (secs t n : Int) (p : PtrD) (w : World) (hg : GeoAt w A m gs) (op : p.Ok) :
    Calls Tryz.prog 9 #[.agg #[.slice A m c, .int .i64 secs], .agg #[.int .i64 t, .int .i64 n, .int .i64 p.ag, .int .i64 p.aa, .int .i64 p.bg, .int .i64 p.ba, .bool p.two, .int .i64 p.size, .int .i64 p.level, .int .i64 p.birth, .int .u64 p.s0, .int .u64 p.s1, .int .u64 p.s2, .int .u64 p.s3]] w fun e w' => e = .returned (.tuple #[str (ubS gs secs t n p), .int .i64 (ubE gs secs t n p)]) ∧ Below w.heap.size w w' := by
  obtain ⟨w2, hw2⟩ : ∃ z, (w.alloc (.cells #[.slice A m c, .int .i64 secs] 24)).alloc (.cells #[.int .i64 t, .int .i64 n, .int .i64 p.ag, .int .i64 p.aa, .int .i64 p.bg, .int .i64 p.ba, .bool p.two, .int .i64 p.size, .int .i64 p.level, .int .i64 p.birth, .int .u64 p.s0, .int .u64 p.s1, .int .u64 p.s2, .int .u64 p.s3] 35) = z := ⟨_, rfl⟩
  have B1 : Blk w2 w.heap.size 24 #[.slice A m c, .int .i64 secs] := by rw [← hw2]; exact (Blk.new _ _ _).alloc _
  have B2 : Blk w2 (w.heap.size + 1) 35 #[.int .i64 t, .int .i64 n, .int .i64 p.ag, .int .i64 p.aa, .int .i64 p.bg, .int .i64 p.ba, .bool p.two, .int .i64 p.size, .int .i64 p.level, .int .i64 p.birth, .int .u64 p.s0, .int .u64 p.s1, .int .u64 p.s2, .int .u64 p.s3] := by rw [← hw2]; exact Blk.new2 _ _ _ _
  have D2 : Below w.heap.size w w2 := by rw [← hw2]; exact keep_alloc (keep_alloc (Below.refl _ _) _) _
  have HNB := Lib.hid (nbytes_any n p w2 op)
  have HB := Lib.hid (And.intro B1 (And.intro B2 D2))
  have HG := Lib.hid (hg.below D2 (Nat.le_refl _))
  have HW2 := Lib.hid hw2
  have HOP := Lib.hid op
  have u1 := B2.at_ (i := 1) (v := .int .i64 n) rfl
  have u2 := B2.at_ (i := 2) (v := .int .i64 p.ag) rfl
  have u3 := B2.at_ (i := 3) (v := .int .i64 p.aa) rfl
  have u4 := B2.at_ (i := 4) (v := .int .i64 p.bg) rfl
  have u5 := B2.at_ (i := 5) (v := .int .i64 p.ba) rfl
  have u6 := B2.at_ (i := 6) (v := .bool p.two) rfl
  have u7 := B2.at_ (i := 7) (v := .int .i64 p.size) rfl
  have u8 := B2.at_ (i := 8) (v := .int .i64 p.level) rfl
  have u9 := B2.at_ (i := 9) (v := .int .i64 p.birth) rfl
  have ua := B2.at_ (i := 10) (v := .int .u64 p.s0) rfl
  have ub := B2.at_ (i := 11) (v := .int .u64 p.s1) rfl
  have uc := B2.at_ (i := 12) (v := .int .u64 p.s2) rfl
  have ud := B2.at_ (i := 13) (v := .int .u64 p.s3) rfl
  rw [← hw2] at u1 u2 u3 u4 u5 u6 u7 u8 u9 ua ub uc ud
  obtain ⟨ns, hns⟩ : ∃ ns, nbS n p = ns := ⟨_, rfl⟩
  obtain ⟨ne, hne⟩ : ∃ ne, nbE n p = ne := ⟨_, rfl⟩
  rw [hns, hne] at HNB
  have HNN := Lib.hid (And.intro hns hne)
  clear B1 B2 D2 hw2 hg op hns hne
  go_enter Tryz.func9, Tryz.ntmps9
  go_wp2_with fail
  rw [HW2.out]
  refine HNB.out.mono ?_
  rintro e w3 ⟨rfl, hb3⟩
  have HB3 := Lib.hid (And.intro (HB.out.1.below hb3 HB.out.1.lt) (And.intro (HB.out.2.1.below hb3 HB.out.2.1.lt) (keep_below hb3 HB.out.2.2)))
  have HG3 := Lib.hid (HG.out.below hb3 (Nat.le_refl _))
  have HR := Lib.hid (right_any A m c gs secs w3 HG3.out)
  have g0 := HB3.out.1.at_ (i := 0) (v := .slice A m c) rfl
  have g1 := HB3.out.1.at_ (i := 1) (v := .int .i64 secs) rfl
  clear u1 u2 u3 u4 u5 u6 u7 u8 u9 ua ub uc ud hb3
  obtain ⟨gr, hgr⟩ : ∃ gr, gRight gs secs = gr := ⟨_, rfl⟩
  rw [hgr] at HR
  have HGR := Lib.hid hgr
  clear hgr
  go_wp2_with fail
  refine HR.out.mono ?_
  rintro e w4 ⟨rfl, hb4⟩
  have HB4 := Lib.hid (keep_below hb4 HB3.out.2.2)
  have hB2 := HB3.out.2.1.below hb4 HB3.out.2.1.lt
  have hB1 := HB3.out.1.below hb4 HB3.out.1.lt
  have u0 := hB2.at_ (i := 0) (v := .int .i64 t) rfl
  have HBB := Lib.hid (And.intro hB1 (HG3.out.below hb4 (Nat.le_refl _)))
  clear g0 g1 hb4 hB2 hB1
  cases gr with
  | false =>
    have HE : Hid (ubS gs secs t n p = [] ∧ ubE gs secs t n p = 1) := Lib.hid (by unfold ubS ubE ubOk; rw [HGR.out]; exact ⟨rfl, rfl⟩)
    go_wp2_with fail
    refine bodyPost_ret (v := .tuple #[str [], .int .i64 1]) (by simp [results, Tryz.f9, go_sem]) rfl ⟨by rw [HE.out.1, HE.out.2], HB4.out⟩
  | true =>
    by_cases h1 : 1 ≤ t
    · by_cases h2 : t ≤ 4294967295
      · cases hnk : nodeOk n p with
        | false =>
          obtain rfl : ne = 1 := by rw [← HNN.out.2]; unfold nbE; rw [hnk]; rfl
          have HE : Hid (ubS gs secs t n p = [] ∧ ubE gs secs t n p = 1) := Lib.hid (by unfold ubS ubE ubOk; rw [hnk]; simp)
          have hd1 : decide (t < 1) = false := decide_eq_false (by omega)
          have hd2 : decide (4294967295 < t) = false := decide_eq_false (by omega)
          clear h1 h2 hnk
          go_wp2_with fail
          refine bodyPost_ret (v := .tuple #[str [], .int .i64 1]) (by simp [results, Tryz.f9, go_sem]) rfl ⟨by rw [HE.out.1, HE.out.2], HB4.out⟩
        | true =>
          obtain rfl : ne = 0 := by rw [← HNN.out.2]; unfold nbE; rw [hnk]; rfl
          obtain rfl : ns = nodeL n p := by rw [← HNN.out.1]; unfold nbS; rw [hnk]; rfl
          have hok : ubOk gs secs t n p = true := by unfold ubOk; rw [HGR.out, decide_eq_true h1, decide_eq_true h2, hnk]; rfl
          have HE : Hid (ubS gs secs t n p = ubL gs secs t n p ∧ ubE gs secs t n p = 0) := Lib.hid (by unfold ubS ubE; rw [hok]; exact ⟨rfl, rfl⟩)
          have hd1 : decide (t < 1) = false := decide_eq_false (by omega)
          have hd2 : decide (4294967295 < t) = false := decide_eq_false (by omega)
          have hT : intL t = layL t.toNat 8 := by unfold intL; rw [if_pos (by omega)]
          have hHl := ubH_len (gs := gs) (secs := secs) (t := t) hnk HOP.out
          have hNl := nodeL_len hnk HOP.out
          have hGl := gbL_len gs secs
          have hTl := layL_len t.toNat 8
          have HUL : Hid (ubL gs secs t n p = ubH gs secs t n p ++ sum4 (fsum (ubH gs secs t n p))) := Lib.hid rfl
          have hHD : padL (magicL ++ layL t.toNat 8 ++ sum4 (fsum (gbL gs secs)) ++ nodeL n p) 224 = ubH gs secs t n p := rfl
          obtain ⟨T, hTT⟩ : ∃ T, layL t.toNat 8 = T := ⟨_, rfl⟩
          obtain ⟨GB, hGB⟩ : ∃ GB, gbL gs secs = GB := ⟨_, rfl⟩
          obtain ⟨NL, hNL⟩ : ∃ NL, nodeL n p = NL := ⟨_, rfl⟩
          obtain ⟨HH, hHH⟩ : ∃ HH, ubH gs secs t n p = HH := ⟨_, rfl⟩
          rw [hTT, hGB, hNL, hHH] at hHD
          rw [hTT] at hT hTl
          rw [hGB] at hGl
          rw [hNL] at hNl ⊢
          rw [hHH] at HUL hHl
          have HIN : Hid (∀ W, Calls Tryz.prog 26 #[.int .i64 t] W fun e w' => e = .returned (str T) ∧ Below W.heap.size W w') := Lib.hid fun W => by have := int_any t W; rwa [hT] at this
          have HGY : Hid (∀ W, Below w4.heap.size w4 W → Calls Tryz.prog 29 #[.agg #[.slice A m c, .int .i64 secs]] W fun e w' => e = .returned (str GB) ∧ Below W.heap.size W w') := Lib.hid fun W hW => by
            have := gbytes_any A m c gs secs W (HBB.out.2.below hW (Nat.le_refl _)); rwa [hGB] at this
          obtain ⟨F1, hF1⟩ : ∃ F, fsum GB = F := ⟨_, rfl⟩
          obtain ⟨F2, hF2⟩ : ∃ F, fsum HH = F := ⟨_, rfl⟩
          have HS1 : Hid (∀ W, Calls Tryz.prog 28 #[str GB] W fun e w' => e = .returned (.agg (fcells F1)) ∧ Below W.heap.size W w') := Lib.hid fun W => by rw [← hF1]; exact fsum_any GB (by omega) W
          have HS2 : Hid (∀ W, Calls Tryz.prog 28 #[str HH] W fun e w' => e = .returned (.agg (fcells F2)) ∧ Below W.heap.size W w') := Lib.hid fun W => by rw [← hF2]; exact fsum_any HH (by omega) W
          obtain ⟨K1, hK1⟩ : ∃ K, sum4 F1 = K := ⟨_, rfl⟩
          obtain ⟨K2, hK2⟩ : ∃ K, sum4 F2 = K := ⟨_, rfl⟩
          have HK1 : Hid (∀ W, Calls Tryz.prog 27 #[.agg (fcells F1)] W fun e w' => e = .returned (str K1) ∧ Below W.heap.size W w') := Lib.hid fun W => by have := sumB_any GB W; rwa [hF1, hK1] at this
          have HK2 : Hid (∀ W, Calls Tryz.prog 27 #[.agg (fcells F2)] W fun e w' => e = .returned (str K2) ∧ Below W.heap.size W w') := Lib.hid fun W => by have := sumB_any HH W; rwa [hF2, hK2] at this
          have hk1 : K1.length = 32 := by rw [← hK1]; exact sum4_len _
          have hk2 : K2.length = 32 := by rw [← hK2]; exact sum4_len _
          rw [hF1, hK1] at hHD
          rw [hF2, hK2] at HUL
          have hml : magicL.length = 8 := rfl
          have harg : Value.string (((({ data := #[112, 111, 108, 100, 101, 114, 48, 49] } : ByteArray) ++ { data := T.toArray }) ++ { data := K1.toArray }) ++ { data := NL.toArray }) = str (magicL ++ T ++ K1 ++ NL) := by
            rw [show ({ data := #[112, 111, 108, 100, 101, 114, 48, 49] } : ByteArray) = ⟨magicL.toArray⟩ from rfl, ba_app, ba_app, ba_app]
          have HPD : Hid (∀ W, Calls Tryz.prog 25 #[.string (((({ data := #[112, 111, 108, 100, 101, 114, 48, 49] } : ByteArray) ++ { data := T.toArray }) ++ { data := K1.toArray }) ++ { data := NL.toArray }), .int .i64 224] W fun e w' => e = .returned (str HH) ∧ Below W.heap.size W w') := Lib.hid fun W => by
            rw [harg]
            have := pad_any (magicL ++ T ++ K1 ++ NL) 224 W (by rw [List.length_append, List.length_append, List.length_append]; omega)
            rwa [hHD] at this
          have hc4 : ¬ 9223372036854775807 < (ByteArray.mk HH.toArray).size + (ByteArray.mk K2.toArray).size := by simp [ByteArray.size]; omega
          obtain ⟨C, hCd, hCw, hCB, hCK, hCD⟩ := cls_below w4
          have g0 := HBB.out.1.at_ (i := 0) (v := .slice A m c) rfl
          have g1 := HBB.out.1.at_ (i := 1) (v := .int .i64 secs) rfl
          have f0 : ∀ W, C W → W.cell? ⟨w.heap.size, 0, none⟩ = some (.slice A m c) := fun W h => keepU g0 (hCB W h)
          have f1 : ∀ W, C W → W.cell? ⟨w.heap.size, 1, none⟩ = some (.int .i64 secs) := fun W h => keepU g1 (hCB W h)
          have f2 : ∀ W, C W → W.cell? ⟨w.heap.size + 1, 0, none⟩ = some (.int .i64 t) := fun W h => keepU u0 (hCB W h)
          have HC := Lib.hid hCB
          clear h1 h2 hnk hok hT hHl hGl hHD harg hTT hGB hNL hHH hF1 hF2 hK1 hK2 hk2 hml g0 g1 hCw hCD
          go_wp2_with fail
          refine wp_region_cls C (by kernel_rfl) (by kernel_rfl) hCd ?_
          repeat (first
            | go_big_quiet_skip
            | (go_big_quiet_want
               go_big_quiet_op
               first
                 | go_big_quiet_on
                 | (apply Exists.intro
                    refine ⟨fun W hW => ?_, ?_⟩
                    · first
                        | exact rfl
                        | exact ⟨rfl, rfl⟩
                        | (have e0 := f0 W hW; have e1 := f1 W hW; have e2 := f2 W hW; simp only [e0, e1, e2, Result.andThen_ok]; done)
                        | (have e0 := f0 W hW; have e1 := f1 W hW; have e2 := f2 W hW; simp only [e0, e1, e2, Result.andThen_ok]; first | exact ⟨trivial, rfl⟩ | exact rfl | exact ⟨rfl, rfl⟩)
                        | (first | (with_reducible refine (HIN.out W).mono ?_; rintro e w' ⟨rfl, hb⟩; exact ⟨rfl, hCK _ _ hW hb⟩) | (with_reducible refine (HGY.out W (hCB W hW)).mono ?_; rintro e w' ⟨rfl, hb⟩; exact ⟨rfl, hCK _ _ hW hb⟩) | (with_reducible refine (HS1.out W).mono ?_; rintro e w' ⟨rfl, hb⟩; exact ⟨rfl, hCK _ _ hW hb⟩) | (with_reducible refine (HK1.out W).mono ?_; rintro e w' ⟨rfl, hb⟩; exact ⟨rfl, hCK _ _ hW hb⟩) | (with_reducible refine (HPD.out W).mono ?_; rintro e w' ⟨rfl, hb⟩; exact ⟨rfl, hCK _ _ hW hb⟩))
                    go_big_quiet_on)))
          refine wpQuiet_nil ?_
          intro w5 hw5
          have HB5 := Lib.hid (keep_below (HC.out w5 hw5) HB4.out)
          clear f0 f1 f2 hCd hCB hCK hw5 u0 hNl hTl hk1
          go_wp2_with fail
          refine (HS2.out _).mono ?_
          rintro e w6 ⟨rfl, hb6⟩
          have HB6 := Lib.hid (keep_below hb6 HB5.out)
          clear hb6
          go_wp2_with fail
          refine (HK2.out _).mono ?_
          rintro e w7 ⟨rfl, hb7⟩
          have HB7 := Lib.hid (keep_below hb7 HB6.out)
          clear hb7
          go_wp2_with fail
          refine bodyPost_ret (v := .tuple #[str (HH ++ K2), .int .i64 0]) (by simp [results, Tryz.f9, go_sem, ba_app]) rfl ⟨by rw [HE.out.1, HE.out.2, HUL.out], HB7.out⟩
      · have HE : Hid (ubS gs secs t n p = [] ∧ ubE gs secs t n p = 1) := Lib.hid (by unfold ubS ubE ubOk; rw [decide_eq_false h2]; simp)
        have hd1 : decide (t < 1) = false := decide_eq_false (by omega)
        have hd2 : decide (4294967295 < t) = true := decide_eq_true (by omega)
        clear h1 h2
        go_wp2_with fail
        refine bodyPost_ret (v := .tuple #[str [], .int .i64 1]) (by simp [results, Tryz.f9, go_sem]) rfl ⟨by rw [HE.out.1, HE.out.2], HB4.out⟩
    · have HE : Hid (ubS gs secs t n p = [] ∧ ubE gs secs t n p = 1) := Lib.hid (by unfold ubS ubE ubOk; rw [decide_eq_false h1]; simp)
      have hd1 : decide (t < 1) = true := decide_eq_true (by omega)
      clear h1
      go_wp2_with fail
      refine bodyPost_ret (v := .tuple #[str [], .int .i64 1]) (by simp [results, Tryz.f9, go_sem]) rfl ⟨by rw [HE.out.1, HE.out.2], HB4.out⟩
end Go.Proofs.YtlpbbjjibnbooaaGreatDoor
