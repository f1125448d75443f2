/-
  The walk of PtrPlays.
-/
import Derived.Test.YtnagcmfecggllaaDoorPtrRef2
import Derived.Test.YtnagcmfecggllaaDoorPtrRef3
import Derived.Test.YtnagcmfecggllaaDoorPtrBackW
namespace Go.Proofs.YtnagcmfecggllaaDoor
set_option linter.unusedVariables false
set_option linter.unusedSimpArgs false
open Go.RowKit

set_option maxRecDepth 100000 in
set_option maxHeartbeats 2000000 in
theorem placesC_any (p : PtrD) (w : World) :
    Calls Tryd.prog 14 #[.agg p.cells] w fun e w' => (∃ A c, e = .returned (.slice A (placesN p) c) ∧
      (1 ≤ placesN p → ∃ b, A = some ⟨b, 0, none⟩ ∧ w'.cell? ⟨b, 0, none⟩ = some (.int .i64 p.ag) ∧ w'.cell? ⟨b, 1, none⟩ = some (.int .i64 p.aa) ∧
        (placesN p = 2 → w'.cell? ⟨b, 2, none⟩ = some (.int .i64 p.bg) ∧ w'.cell? ⟨b, 3, none⟩ = some (.int .i64 p.ba)))) ∧ Below w.heap.size w w' := by
  have hb := (Below.refl w.heap.size w).alloc (Nat.le_refl _) (.cells p.cells 28)
  have hs : w.heap.size < (w.alloc (.cells p.cells 28)).heap.size := by simp
  have HP := Lib.hid (PtrAt.new w p 28)
  have h := HP.out
  obtain ⟨h0, h1, h2, h3, h4, h5, h6, h7, h8, h9, ha, hc⟩ := h
  simp only [Nat.zero_add] at h1 h2 h3 h4 h5 h6 h7 h8 h9 ha hc
  go_enter Tryd.func14, Tryd.ntmps14
  go_wp2_with fail
  refine (none_any p _).mono ?_
  rintro e w1 ⟨rfl, hb1⟩
  have hP1 := HP.out.keep hb1 hs
  have hs1 := keep_size hb1 hs
  have hb2 := hb.trans (hb1.mono hb.size)
  clear h0 h1 h2 h3 h4 h5 h6 h7 h8 h9 ha hc HP hb1 hb
  obtain ⟨h0, h1, h2, h3, h4, h5, h6, h7, h8, h9, ha, hc⟩ := hP1
  simp only [Nat.zero_add] at h1 h2 h3 h4 h5 h6 h7 h8 h9 ha hc
  cases hn : noneB p with
  | true =>
    have HN : Hid (placesN p = 0) := by unfold Hid placesN; rw [hn]; rfl
    go_wp2_with fail
    go_ret
    exact ⟨⟨none, 0, by rw [HN.out]; rfl, fun h => absurd (HN.out ▸ h) (by omega)⟩, hb2⟩
  | false =>
    cases ht : p.two with
    | true =>
      have HN : Hid (placesN p = 2) := by unfold Hid placesN; rw [hn, ht]; rfl
      rw [ht] at h4
      go_wp2_with fail
      all_goals
        go_ret
        refine ⟨⟨_, _, by rw [HN.out]; rfl, fun _ => ⟨_, rfl, ?_, ?_, fun _ => ⟨?_, ?_⟩⟩⟩, ?_⟩
        all_goals first | exact (hb2.drew.alloc hb2.drew.size _) | exact (hb2.alloc hb2.size _) | exact (hb2.alloc hb2.size _).drew | exact cell_new rfl rfl | simp
    | false =>
      have HN : Hid (placesN p = 1) := by unfold Hid placesN; rw [hn, ht]; rfl
      rw [ht] at h4
      go_wp2_with fail
      all_goals
        go_ret
        refine ⟨⟨_, _, by rw [HN.out]; rfl, fun _ => ⟨_, rfl, ?_, ?_, fun h => absurd (HN.out.symm.trans h) (by omega)⟩⟩, ?_⟩
        all_goals first | exact (hb2.drew.alloc hb2.drew.size _) | exact (hb2.alloc hb2.size _) | exact (hb2.alloc hb2.size _).drew | exact cell_new rfl rfl | simp

set_option maxRecDepth 100000 in
set_option maxHeartbeats 8000000 in
theorem plays9_any (A : Option Addr) (n c : Nat) (gs : List (Int × Int)) (secs : Int) (p : PtrD) (s : List UInt8) (w : World) (hg : GeoAt w A n gs) (op : p.Ok) (hl : s.length ≤ 9223372036854775807) :
    Calls Tryd.prog 4 #[.agg #[.slice A n c, .int .i64 secs], .agg p.cells, str s] w fun e w' => e = .returned (.bool true) ∧ Below w.heap.size w w' := by
  obtain ⟨w0, hw0⟩ : ∃ w0, w0 = ((w.alloc (Obj.cells #[Value.slice A n c, Value.int IntKind.i64 secs] 39)).alloc (.cells #[.int .i64 p.ag, .int .i64 p.aa, .int .i64 p.bg, .int .i64 p.ba, .bool p.two, .int .i64 p.size, .int .i64 p.level, .int .i64 p.birth, .int .u64 p.s0, .int .u64 p.s1, .int .u64 p.s2, .int .u64 p.s3] 28)) := ⟨_, rfl⟩
  have hb0 : Below w.heap.size w w0 := by rw [hw0]; exact ((Below.refl _ _).alloc (Nat.le_refl _) _).alloc (by simp) _
  have hs0 : w.heap.size + 2 ≤ w0.heap.size := by rw [hw0]; simp
  have HP0 : Hid (PtrAt w0 (w.heap.size + 1) 0 p) := by
    rw [hw0]
    have := PtrAt.new (w.alloc (Obj.cells #[Value.slice A n c, Value.int IntKind.i64 secs] 39)) p 28
    rw [World.size_alloc] at this
    exact Lib.hid this
  have k1 : w0.cell? ⟨w.heap.size, 0, none⟩ = some (.slice A n c) := by rw [hw0]; exact cell_alloc (cell_new rfl rfl) _
  have k2 : w0.cell? ⟨w.heap.size, 1, none⟩ = some (.int .i64 secs) := by rw [hw0]; exact cell_alloc (cell_new rfl rfl) _
  rw [show (Value.agg p.cells) = .agg #[.int .i64 p.ag, .int .i64 p.aa, .int .i64 p.bg, .int .i64 p.ba, .bool p.two, .int .i64 p.size, .int .i64 p.level, .int .i64 p.birth, .int .u64 p.s0, .int .u64 p.s1, .int .u64 p.s2, .int .u64 p.s3] from rfl]
  go_enter Tryd.func4, Tryd.ntmps4
  go_wp2_with fail
  rw [← hw0]
  clear hw0
  refine (awake9_any _).mono ?_
  rintro e w1 ⟨rfl, hb1⟩
  have l1 := keep_cell hb1 k1 (by omega)
  have l2 := keep_cell hb1 k2 (by omega)
  have HP1 := Lib.hid (HP0.out.keep hb1 (by omega))
  have hb2 := hb0.trans (hb1.mono hb0.size)
  have hs1 := keep_size hb1 hs0
  clear HP0 hb1 k1 k2 hs0 hb0
  have hend : (100 : Int) < n ∨ ((n : Int) ≤ 100 ∧ 3000 < s.length) ∨ ((n : Int) ≤ 100 ∧ s.length ≤ 3000) := by omega
  rcases hend with hn | ⟨hn, hn2⟩ | ⟨hn, hn2⟩
  · go_wp2_with fail
    refine (awake9_any _).mono ?_
    rintro e w2 ⟨rfl, hb3⟩
    go_wp2_with fail
    go_ret
    exact ⟨rfl, keep_below hb3 hb2⟩
  · go_wp2_with fail
    refine (awake9_any _).mono ?_
    rintro e w2 ⟨rfl, hb3⟩
    go_wp2_with fail
    go_ret
    exact ⟨rfl, keep_below hb3 hb2⟩
  · have HRD0 := Lib.hid fun W => pread_any s W (by omega)
    have HRF0 := Lib.hid fun W => refRead9_any s W (by omega)
    generalize readV s = q at *
    generalize readE s = es at *
    have HRD : Hid (∀ W, Calls Tryd.prog 7 #[str s] W fun e w' => e = .returned (.tuple #[.agg #[.int .i64 q.ag, .int .i64 q.aa, .int .i64 q.bg, .int .i64 q.ba, .bool q.two, .int .i64 q.size, .int .i64 q.level, .int .i64 q.birth, .int .u64 q.s0, .int .u64 q.s1, .int .u64 q.s2, .int .u64 q.s3], .int .i64 es]) ∧ Below W.heap.size W w') := Lib.hid HRD0.out
    have HRF : Hid (∀ W, Calls Tryd.prog 11 #[str s] W fun e w' => e = .returned (.tuple #[.agg #[.int .i64 q.ag, .int .i64 q.aa, .int .i64 q.bg, .int .i64 q.ba, .bool q.two, .int .i64 q.size, .int .i64 q.level, .int .i64 q.birth, .int .u64 q.s0, .int .u64 q.s1, .int .u64 q.s2, .int .u64 q.s3], .int .i64 es]) ∧ Below W.heap.size W w') := Lib.hid HRF0.out
    clear HRD0 HRF0
    have hneq : ∀ W, (binOp .neq 28 (.agg #[.int .i64 q.ag, .int .i64 q.aa, .int .i64 q.bg, .int .i64 q.ba, .bool q.two, .int .i64 q.size, .int .i64 q.level, .int .i64 q.birth, .int .u64 q.s0, .int .u64 q.s1, .int .u64 q.s2, .int .u64 q.s3]) (.agg #[.int .i64 q.ag, .int .i64 q.aa, .int .i64 q.bg, .int .i64 q.ba, .bool q.two, .int .i64 q.size, .int .i64 q.level, .int .i64 q.birth, .int .u64 q.s0, .int .u64 q.s1, .int .u64 q.s2, .int .u64 q.s3])).run Tryd.prog W = .ok (.bool false) W := fun W => by
      have := neq_ptr q q W
      rw [show ptrEq q q = true from decide_eq_true rfl] at this
      exact this
    have HMY : Hid (∀ W, Calls Tryd.prog 9 #[.agg #[.int .i64 p.ag, .int .i64 p.aa, .int .i64 p.bg, .int .i64 p.ba, .bool p.two, .int .i64 p.size, .int .i64 p.level, .int .i64 p.birth, .int .u64 p.s0, .int .u64 p.s1, .int .u64 p.s2, .int .u64 p.s3]] W fun e w' => e = .returned (.bool (layOk p)) ∧ Below W.heap.size W w') := Lib.hid fun W => may9_any p W
    have HPB : Hid (∀ W, Calls Tryd.prog 6 #[.agg #[.int .i64 p.ag, .int .i64 p.aa, .int .i64 p.bg, .int .i64 p.ba, .bool p.two, .int .i64 p.size, .int .i64 p.level, .int .i64 p.birth, .int .u64 p.s0, .int .u64 p.s1, .int .u64 p.s2, .int .u64 p.s3]] W fun e w' => e = .returned (.tuple #[str (if layOk p then ptrL p else []), .int .i64 (if layOk p then 0 else 1)]) ∧ Below W.heap.size W w') := Lib.hid fun W => pbytes_any p W op
    have HRB : Hid (layOk p = true → ∀ W, Calls Tryd.prog 10 #[.agg #[.int .i64 p.ag, .int .i64 p.aa, .int .i64 p.bg, .int .i64 p.ba, .bool p.two, .int .i64 p.size, .int .i64 p.level, .int .i64 p.birth, .int .u64 p.s0, .int .u64 p.s1, .int .u64 p.s2, .int .u64 p.s3]] W fun e w' => e = .returned (str (ptrL p)) ∧ Below W.heap.size W w') := Lib.hid fun h W => refPBytes_any p W op h
    have h := HP1.out
    obtain ⟨p0, p1, p2, p3, p4, p5, p6, p7, p8, p9, pa, pb⟩ := h
    simp only [Nat.zero_add] at p1 p2 p3 p4 p5 p6 p7 p8 p9 pa pb
    cases hly : layOk p with
    | true =>
      rw [hly] at HMY HPB
      simp only [if_true] at HPB
      have HRB2 := Lib.hid (HRB.out hly)
      generalize ptrL p = sp at *
      clear hly HRB
      go_wp2_with fail
      refine (HPB.out _).mono ?_
      rintro e wn ⟨rfl, hbn⟩
      have HPn := HP1.out.keep hbn (by omega)
      have l1 := keep_cell hbn l1 (by omega)
      have l2 := keep_cell hbn l2 (by omega)
      have hb2 := keep_below hbn hb2
      have hs1 := keep_size hbn hs1
      clear hbn HP1 p0 p1 p2 p3 p4 p5 p6 p7 p8 p9 pa pb
      have HP1 := Lib.hid HPn
      obtain ⟨p0, p1, p2, p3, p4, p5, p6, p7, p8, p9, pa, pb⟩ := HPn
      simp only [Nat.zero_add] at p1 p2 p3 p4 p5 p6 p7 p8 p9 pa pb
      go_wp2_with fail
      refine (HMY.out _).mono ?_
      rintro e wn ⟨rfl, hbn⟩
      have HPn := HP1.out.keep hbn (by omega)
      have l1 := keep_cell hbn l1 (by omega)
      have l2 := keep_cell hbn l2 (by omega)
      have hb2 := keep_below hbn hb2
      have hs1 := keep_size hbn hs1
      clear hbn HP1 p0 p1 p2 p3 p4 p5 p6 p7 p8 p9 pa pb
      have HP1 := Lib.hid HPn
      obtain ⟨p0, p1, p2, p3, p4, p5, p6, p7, p8, p9, pa, pb⟩ := HPn
      simp only [Nat.zero_add] at p1 p2 p3 p4 p5 p6 p7 p8 p9 pa pb
      go_wp2_with fail
      refine (HMY.out _).mono ?_
      rintro e wn ⟨rfl, hbn⟩
      have HPn := HP1.out.keep hbn (by omega)
      have l1 := keep_cell hbn l1 (by omega)
      have l2 := keep_cell hbn l2 (by omega)
      have hb2 := keep_below hbn hb2
      have hs1 := keep_size hbn hs1
      clear hbn HP1 p0 p1 p2 p3 p4 p5 p6 p7 p8 p9 pa pb
      have HP1 := Lib.hid HPn
      obtain ⟨p0, p1, p2, p3, p4, p5, p6, p7, p8, p9, pa, pb⟩ := HPn
      simp only [Nat.zero_add] at p1 p2 p3 p4 p5 p6 p7 p8 p9 pa pb
      go_wp2_with fail
      refine (HRB2.out _).mono ?_
      rintro e wn ⟨rfl, hbn⟩
      have HPn := HP1.out.keep hbn (by omega)
      have l1 := keep_cell hbn l1 (by omega)
      have l2 := keep_cell hbn l2 (by omega)
      have hb2 := keep_below hbn hb2
      have hs1 := keep_size hbn hs1
      clear hbn HP1 p0 p1 p2 p3 p4 p5 p6 p7 p8 p9 pa pb
      have HP1 := Lib.hid HPn
      obtain ⟨p0, p1, p2, p3, p4, p5, p6, p7, p8, p9, pa, pb⟩ := HPn
      simp only [Nat.zero_add] at p1 p2 p3 p4 p5 p6 p7 p8 p9 pa pb
      go_wp2_with fail
      refine (HMY.out _).mono ?_
      rintro e wn ⟨rfl, hbn⟩
      have HPn := HP1.out.keep hbn (by omega)
      have l1 := keep_cell hbn l1 (by omega)
      have l2 := keep_cell hbn l2 (by omega)
      have hb2 := keep_below hbn hb2
      have hs1 := keep_size hbn hs1
      clear hbn HP1 p0 p1 p2 p3 p4 p5 p6 p7 p8 p9 pa pb
      have HP1 := Lib.hid HPn
      obtain ⟨p0, p1, p2, p3, p4, p5, p6, p7, p8, p9, pa, pb⟩ := HPn
      simp only [Nat.zero_add] at p1 p2 p3 p4 p5 p6 p7 p8 p9 pa pb
      go_wp2_with fail
      have hbb := hb2
      have hss := hs1
      have HPP := HP1
      clear p0 p1 p2 p3 p4 p5 p6 p7 p8 p9 pa pb HMY HPB HRB2 hb2 hs1 HP1
      refine (HRD.out _).mono ?_
      rintro e v1 ⟨rfl, hc1⟩
      have hd1 := keep_below hc1 hbb
      have hsv1 := keep_size hc1 hss
      have hPv1 := HPP.out.keep hc1 (by omega)
      have m1 := keep_cell hc1 l1 (by omega)
      have m2 := keep_cell hc1 l2 (by omega)
      clear hc1
      go_wp2_with fail
      refine (HRF.out _).mono ?_
      rintro e v2 ⟨rfl, hc2⟩
      have hQ0 := PtrAt.new v1 q 28
      have hd2 := keep_below hc2 (keep_alloc hd1 _)
      have hPv2 := (hPv1.keep ((Below.refl _ _).alloc (Nat.le_refl _) _) (by omega)).keep hc2 (by simp; omega)
      have hQv2 := hQ0.keep hc2 (by simp)
      have m3 := keep_cell hc2 (cell_alloc m1 _) (by simp; omega)
      have m4 := keep_cell hc2 (cell_alloc m2 _) (by simp; omega)
      have hsv2 : v1.heap.size + 1 ≤ v2.heap.size := by have := hc2.size; simp at this; omega
      clear hc2 hQ0 hPv1 m1 m2
      go_wp2_with fail
      obtain ⟨v3, hv3⟩ : ∃ v3, v3 = v2.alloc (.cells #[.int .i64 q.ag, .int .i64 q.aa, .int .i64 q.bg, .int .i64 q.ba, .bool q.two, .int .i64 q.size, .int .i64 q.level, .int .i64 q.birth, .int .u64 q.s0, .int .u64 q.s1, .int .u64 q.s2, .int .u64 q.s3] 28) := ⟨_, rfl⟩
      have hd3 : Below w.heap.size w v3 := by rw [hv3]; exact keep_alloc hd2 _
      have hPv3 : PtrAt v3 (w.heap.size + 1) 0 p := by rw [hv3]; exact hPv2.keep ((Below.refl _ _).alloc (Nat.le_refl _) _) (by omega)
      have hQv3 : PtrAt v3 v1.heap.size 0 q := by rw [hv3]; exact hQv2.keep ((Below.refl _ _).alloc (Nat.le_refl _) _) (by omega)
      have hXv3 : PtrAt v3 v2.heap.size 0 q := by rw [hv3]; exact PtrAt.new v2 q 28
      have m5 : v3.cell? ⟨w.heap.size, 0, none⟩ = some (.slice A n c) := by rw [hv3]; exact cell_alloc m3 _
      have m6 : v3.cell? ⟨w.heap.size, 1, none⟩ = some (.int .i64 secs) := by rw [hv3]; exact cell_alloc m4 _
      have hsv3 : v2.heap.size < v3.heap.size := by rw [hv3]; simp
      rw [← hv3]
      clear hv3 hPv2 hQv2 m3 m4 hd2
      obtain ⟨C, hC, hC0, hCB, hCK, hCd⟩ := cls_below v3
      have hPC : ∀ W, C W → PtrAt W (w.heap.size + 1) 0 p := fun W h => hPv3.keep (hCB W h) (by omega)
      have hQC : ∀ W, C W → PtrAt W v1.heap.size 0 q := fun W h => hQv3.keep (hCB W h) (by omega)
      have hXC : ∀ W, C W → PtrAt W v2.heap.size 0 q := fun W h => hXv3.keep (hCB W h) (by omega)
      have f0 : ∀ W, C W → W.cell? ⟨w.heap.size + 1, 0, none⟩ = some (.int .i64 p.ag) := fun W h => (hPC W h).1
      have f1 : ∀ W, C W → W.cell? ⟨w.heap.size + 1, 1, none⟩ = some (.int .i64 p.aa) := fun W h => (hPC W h).2.1
      have f2 : ∀ W, C W → W.cell? ⟨w.heap.size + 1, 2, none⟩ = some (.int .i64 p.bg) := fun W h => (hPC W h).2.2.1
      have f3 : ∀ W, C W → W.cell? ⟨w.heap.size + 1, 3, none⟩ = some (.int .i64 p.ba) := fun W h => (hPC W h).2.2.2.1
      have f4 : ∀ W, C W → W.cell? ⟨w.heap.size + 1, 4, none⟩ = some (.bool p.two) := fun W h => (hPC W h).2.2.2.2.1
      have f5 : ∀ W, C W → W.cell? ⟨w.heap.size + 1, 5, none⟩ = some (.int .i64 p.size) := fun W h => (hPC W h).2.2.2.2.2.1
      have f6 : ∀ W, C W → W.cell? ⟨w.heap.size + 1, 6, none⟩ = some (.int .i64 p.level) := fun W h => (hPC W h).2.2.2.2.2.2.1
      have f7 : ∀ W, C W → W.cell? ⟨w.heap.size + 1, 7, none⟩ = some (.int .i64 p.birth) := fun W h => (hPC W h).2.2.2.2.2.2.2.1
      have f8 : ∀ W, C W → W.cell? ⟨w.heap.size + 1, 8, none⟩ = some (.int .u64 p.s0) := fun W h => (hPC W h).2.2.2.2.2.2.2.2.1
      have f9 : ∀ W, C W → W.cell? ⟨w.heap.size + 1, 9, none⟩ = some (.int .u64 p.s1) := fun W h => (hPC W h).2.2.2.2.2.2.2.2.2.1
      have f10 : ∀ W, C W → W.cell? ⟨w.heap.size + 1, 10, none⟩ = some (.int .u64 p.s2) := fun W h => (hPC W h).2.2.2.2.2.2.2.2.2.2.1
      have f11 : ∀ W, C W → W.cell? ⟨w.heap.size + 1, 11, none⟩ = some (.int .u64 p.s3) := fun W h => (hPC W h).2.2.2.2.2.2.2.2.2.2.2
      have g0 : ∀ W, C W → W.cell? ⟨v1.heap.size, 0, none⟩ = some (.int .i64 q.ag) := fun W h => (hQC W h).1
      have g1 : ∀ W, C W → W.cell? ⟨v1.heap.size, 1, none⟩ = some (.int .i64 q.aa) := fun W h => (hQC W h).2.1
      have g2 : ∀ W, C W → W.cell? ⟨v1.heap.size, 2, none⟩ = some (.int .i64 q.bg) := fun W h => (hQC W h).2.2.1
      have g3 : ∀ W, C W → W.cell? ⟨v1.heap.size, 3, none⟩ = some (.int .i64 q.ba) := fun W h => (hQC W h).2.2.2.1
      have g4 : ∀ W, C W → W.cell? ⟨v1.heap.size, 4, none⟩ = some (.bool q.two) := fun W h => (hQC W h).2.2.2.2.1
      have g5 : ∀ W, C W → W.cell? ⟨v1.heap.size, 5, none⟩ = some (.int .i64 q.size) := fun W h => (hQC W h).2.2.2.2.2.1
      have g6 : ∀ W, C W → W.cell? ⟨v1.heap.size, 6, none⟩ = some (.int .i64 q.level) := fun W h => (hQC W h).2.2.2.2.2.2.1
      have g7 : ∀ W, C W → W.cell? ⟨v1.heap.size, 7, none⟩ = some (.int .i64 q.birth) := fun W h => (hQC W h).2.2.2.2.2.2.2.1
      have g8 : ∀ W, C W → W.cell? ⟨v1.heap.size, 8, none⟩ = some (.int .u64 q.s0) := fun W h => (hQC W h).2.2.2.2.2.2.2.2.1
      have g9 : ∀ W, C W → W.cell? ⟨v1.heap.size, 9, none⟩ = some (.int .u64 q.s1) := fun W h => (hQC W h).2.2.2.2.2.2.2.2.2.1
      have g10 : ∀ W, C W → W.cell? ⟨v1.heap.size, 10, none⟩ = some (.int .u64 q.s2) := fun W h => (hQC W h).2.2.2.2.2.2.2.2.2.2.1
      have g11 : ∀ W, C W → W.cell? ⟨v1.heap.size, 11, none⟩ = some (.int .u64 q.s3) := fun W h => (hQC W h).2.2.2.2.2.2.2.2.2.2.2
      have x0 : ∀ W, C W → W.cell? ⟨v2.heap.size, 0, none⟩ = some (.int .i64 q.ag) := fun W h => (hXC W h).1
      have x1 : ∀ W, C W → W.cell? ⟨v2.heap.size, 1, none⟩ = some (.int .i64 q.aa) := fun W h => (hXC W h).2.1
      have x2 : ∀ W, C W → W.cell? ⟨v2.heap.size, 2, none⟩ = some (.int .i64 q.bg) := fun W h => (hXC W h).2.2.1
      have x3 : ∀ W, C W → W.cell? ⟨v2.heap.size, 3, none⟩ = some (.int .i64 q.ba) := fun W h => (hXC W h).2.2.2.1
      have x4 : ∀ W, C W → W.cell? ⟨v2.heap.size, 4, none⟩ = some (.bool q.two) := fun W h => (hXC W h).2.2.2.2.1
      have x5 : ∀ W, C W → W.cell? ⟨v2.heap.size, 5, none⟩ = some (.int .i64 q.size) := fun W h => (hXC W h).2.2.2.2.2.1
      have x6 : ∀ W, C W → W.cell? ⟨v2.heap.size, 6, none⟩ = some (.int .i64 q.level) := fun W h => (hXC W h).2.2.2.2.2.2.1
      have x7 : ∀ W, C W → W.cell? ⟨v2.heap.size, 7, none⟩ = some (.int .i64 q.birth) := fun W h => (hXC W h).2.2.2.2.2.2.2.1
      have x8 : ∀ W, C W → W.cell? ⟨v2.heap.size, 8, none⟩ = some (.int .u64 q.s0) := fun W h => (hXC W h).2.2.2.2.2.2.2.2.1
      have x9 : ∀ W, C W → W.cell? ⟨v2.heap.size, 9, none⟩ = some (.int .u64 q.s1) := fun W h => (hXC W h).2.2.2.2.2.2.2.2.2.1
      have x10 : ∀ W, C W → W.cell? ⟨v2.heap.size, 10, none⟩ = some (.int .u64 q.s2) := fun W h => (hXC W h).2.2.2.2.2.2.2.2.2.2.1
      have x11 : ∀ W, C W → W.cell? ⟨v2.heap.size, 11, none⟩ = some (.int .u64 q.s3) := fun W h => (hXC W h).2.2.2.2.2.2.2.2.2.2.2
      have fg0 : ∀ W, C W → W.cell? ⟨w.heap.size, 0, none⟩ = some (.slice A n c) := fun W h => keep_cell (hCB W h) m5 (by omega)
      have fg1 : ∀ W, C W → W.cell? ⟨w.heap.size, 1, none⟩ = some (.int .i64 secs) := fun W h => keep_cell (hCB W h) m6 (by omega)
      have hR1 : Hid (∀ W, Below v3.heap.size v3 W → Calls Tryd.prog 12 #[.agg #[.slice A n c, .int .i64 secs], .agg #[.int .i64 p.ag, .int .i64 p.aa, .int .i64 p.bg, .int .i64 p.ba, .bool p.two, .int .i64 p.size, .int .i64 p.level, .int .i64 p.birth, .int .u64 p.s0, .int .u64 p.s1, .int .u64 p.s2, .int .u64 p.s3]] W fun e w' => e = .returned (.bool (rightB gs secs p)) ∧ Below W.heap.size W w') :=
        Lib.hid fun W hB => pright_any A n c gs secs p W (hg.below (hd3.trans (hB.mono hd3.size)) (Nat.le_refl _))
      have hR2 : Hid (∀ W, Below v3.heap.size v3 W → Calls Tryd.prog 13 #[.agg #[.slice A n c, .int .i64 secs], .agg #[.int .i64 p.ag, .int .i64 p.aa, .int .i64 p.bg, .int .i64 p.ba, .bool p.two, .int .i64 p.size, .int .i64 p.level, .int .i64 p.birth, .int .u64 p.s0, .int .u64 p.s1, .int .u64 p.s2, .int .u64 p.s3]] W fun e w' => e = .returned (.bool (rightB gs secs p)) ∧ Below W.heap.size W w') :=
        Lib.hid fun W hB => refRight9_any A n c gs secs p W (hg.below (hd3.trans (hB.mono hd3.size)) (Nat.le_refl _))
      generalize rightB gs secs p = rb at hR1 hR2
      refine wp_region_cls C (by kernel_rfl) (by kernel_rfl) hC ?_
      repeat (first
        | go_big_quiet_skip
        | (go_big_quiet_want
           go_big_quiet_op
           first
             | go_big_quiet_on
             | (apply Exists.intro
                refine ⟨fun W hW => ?_, ?_⟩
                · first
                    | exact rfl
                    | exact ⟨rfl, rfl⟩
                    | (have e0 := f0 W hW; have e1 := f1 W hW; have e2 := f2 W hW; have e3 := f3 W hW; have e4 := f4 W hW; have e5 := f5 W hW; have e6 := f6 W hW; have e7 := f7 W hW; have e8 := f8 W hW; have e9 := f9 W hW; have e10 := f10 W hW; have e11 := f11 W hW; have e12 := g0 W hW; have e13 := g1 W hW; have e14 := g2 W hW; have e15 := g3 W hW; have e16 := g4 W hW; have e17 := g5 W hW; have e18 := g6 W hW; have e19 := g7 W hW; have e20 := g8 W hW; have e21 := g9 W hW; have e22 := g10 W hW; have e23 := g11 W hW; have e24 := x0 W hW; have e25 := x1 W hW; have e26 := x2 W hW; have e27 := x3 W hW; have e28 := x4 W hW; have e29 := x5 W hW; have e30 := x6 W hW; have e31 := x7 W hW; have e32 := x8 W hW; have e33 := x9 W hW; have e34 := x10 W hW; have e35 := x11 W hW; have e36 := fg0 W hW; have e37 := fg1 W hW; simp only [e0, e1, e2, e3, e4, e5, e6, e7, e8, e9, e10, e11, e12, e13, e14, e15, e16, e17, e18, e19, e20, e21, e22, e23, e24, e25, e26, e27, e28, e29, e30, e31, e32, e33, e34, e35, e36, e37, Result.andThen_ok]; done)
                    | (have e0 := f0 W hW; have e1 := f1 W hW; have e2 := f2 W hW; have e3 := f3 W hW; have e4 := f4 W hW; have e5 := f5 W hW; have e6 := f6 W hW; have e7 := f7 W hW; have e8 := f8 W hW; have e9 := f9 W hW; have e10 := f10 W hW; have e11 := f11 W hW; have e12 := g0 W hW; have e13 := g1 W hW; have e14 := g2 W hW; have e15 := g3 W hW; have e16 := g4 W hW; have e17 := g5 W hW; have e18 := g6 W hW; have e19 := g7 W hW; have e20 := g8 W hW; have e21 := g9 W hW; have e22 := g10 W hW; have e23 := g11 W hW; have e24 := x0 W hW; have e25 := x1 W hW; have e26 := x2 W hW; have e27 := x3 W hW; have e28 := x4 W hW; have e29 := x5 W hW; have e30 := x6 W hW; have e31 := x7 W hW; have e32 := x8 W hW; have e33 := x9 W hW; have e34 := x10 W hW; have e35 := x11 W hW; have e36 := fg0 W hW; have e37 := fg1 W hW; simp only [e0, e1, e2, e3, e4, e5, e6, e7, e8, e9, e10, e11, e12, e13, e14, e15, e16, e17, e18, e19, e20, e21, e22, e23, e24, e25, e26, e27, e28, e29, e30, e31, e32, e33, e34, e35, e36, e37, Result.andThen_ok]; first | exact ⟨trivial, rfl⟩ | exact rfl | exact ⟨rfl, rfl⟩)
                    | ((first | (go_at_call 12; refine (hR1.out W (hCB W hW)).mono ?_) | (go_at_call 13; refine (hR2.out W (hCB W hW)).mono ?_)); rintro e w' ⟨rfl, hb⟩; exact ⟨rfl, hCK _ _ hW hb⟩)
                go_big_quiet_on)))
      refine wpQuiet_nil ?_
      intro v4 hv4
      have hwB := hCB v4 hv4
      have hPv4 := hPC v4 hv4
      have hd4 := keep_below hwB hd3
      have hsv4 := keep_size hwB (Nat.le_of_lt hsv3)
      clear f0 f1 f2 f3 f4 f5 f6 f7 f8 f9 f10 f11 g0 g1 g2 g3 g4 g5 g6 g7 g8 g9 g10 g11 x0 x1 x2 x3 x4 x5 x6 x7 x8 x9 x10 x11 fg0 fg1 hPC hQC hXC hCK hCd hCB hC hC0 hPv3 hQv3 hXv3 m5 m6 hR1 hR2 hwB hd3
      have HP4 := Lib.hid hPv4
      obtain ⟨p0, p1, p2, p3, p4, p5, p6, p7, p8, p9, pa, pb⟩ := hPv4
      simp only [Nat.zero_add] at p1 p2 p3 p4 p5 p6 p7 p8 p9 pa pb
      have HEQ : Hid (∀ W, (binOp .eql 28 (.agg #[.int .i64 p.ag, .int .i64 p.aa, .int .i64 p.bg, .int .i64 p.ba, .bool p.two, .int .i64 p.size, .int .i64 p.level, .int .i64 p.birth, .int .u64 p.s0, .int .u64 p.s1, .int .u64 p.s2, .int .u64 p.s3]) (.agg #[.int .i64 0, .int .i64 0, .int .i64 0, .int .i64 0, .bool false, .int .i64 0, .int .i64 0, .int .i64 0, .int .u64 0, .int .u64 0, .int .u64 0, .int .u64 0])).run Tryd.prog W = .ok (.bool (noneB p)) W) := Lib.hid fun W => eql_ptr p ptrZ W
      have HNO : Hid (∀ W, Calls Tryd.prog 8 #[.agg #[.int .i64 p.ag, .int .i64 p.aa, .int .i64 p.bg, .int .i64 p.ba, .bool p.two, .int .i64 p.size, .int .i64 p.level, .int .i64 p.birth, .int .u64 p.s0, .int .u64 p.s1, .int .u64 p.s2, .int .u64 p.s3]] W fun e w' => e = .returned (.bool (noneB p)) ∧ Below W.heap.size W w') := Lib.hid fun W => none_any p W
      go_wp2_with fail
      refine (placesC_any p _).mono ?_
      rintro e v5 ⟨⟨A5, c5, rfl, h5⟩, hc5⟩
      have H5 := Lib.hid h5
      have hPv5 := HP4.out.keep hc5 (by omega)
      have hd5 := keep_below hc5 hd4
      have hsv5 := keep_size hc5 hsv4
      clear h5 hc5 p0 p1 p2 p3 p4 p5 p6 p7 p8 p9 pa pb HP4
      cases hnb : noneB p with
      | true =>
        have HN : Hid (placesN p = 0) := by unfold Hid placesN; rw [hnb]; rfl
        rw [HN.out]
        rw [hnb] at HEQ HNO
        have he := HEQ.out
        clear hnb
        repeat' (first
          | go_values
          | go_skip
          | go_guarded
          | ((fail_if_success (with_reducible refine drawn_mark ?_))
             first
               | go_step
               | go_upon
               | go_back
               | (simp only [Int.not_lt, Int.not_le] at *; go_simp)
               | (go_values <;> (try go_simp))
               | (go_ite <;> go_prune <;> (try go_simp))
               | (split <;> (first | (rename_i hx; exact (hx _ rfl).elim) | go_prune))))
        obtain ⟨C, hC, hC0, hCB, hCK, hCd⟩ := cls_below v5
        have hPC : ∀ W, C W → PtrAt W (w.heap.size + 1) 0 p := fun W h => hPv5.keep (hCB W h) (by omega)
        have f0 : ∀ W, C W → W.cell? ⟨w.heap.size + 1, 0, none⟩ = some (.int .i64 p.ag) := fun W h => (hPC W h).1
        have f1 : ∀ W, C W → W.cell? ⟨w.heap.size + 1, 1, none⟩ = some (.int .i64 p.aa) := fun W h => (hPC W h).2.1
        have f2 : ∀ W, C W → W.cell? ⟨w.heap.size + 1, 2, none⟩ = some (.int .i64 p.bg) := fun W h => (hPC W h).2.2.1
        have f3 : ∀ W, C W → W.cell? ⟨w.heap.size + 1, 3, none⟩ = some (.int .i64 p.ba) := fun W h => (hPC W h).2.2.2.1
        have f4 : ∀ W, C W → W.cell? ⟨w.heap.size + 1, 4, none⟩ = some (.bool p.two) := fun W h => (hPC W h).2.2.2.2.1
        have f5 : ∀ W, C W → W.cell? ⟨w.heap.size + 1, 5, none⟩ = some (.int .i64 p.size) := fun W h => (hPC W h).2.2.2.2.2.1
        have f6 : ∀ W, C W → W.cell? ⟨w.heap.size + 1, 6, none⟩ = some (.int .i64 p.level) := fun W h => (hPC W h).2.2.2.2.2.2.1
        have f7 : ∀ W, C W → W.cell? ⟨w.heap.size + 1, 7, none⟩ = some (.int .i64 p.birth) := fun W h => (hPC W h).2.2.2.2.2.2.2.1
        have f8 : ∀ W, C W → W.cell? ⟨w.heap.size + 1, 8, none⟩ = some (.int .u64 p.s0) := fun W h => (hPC W h).2.2.2.2.2.2.2.2.1
        have f9 : ∀ W, C W → W.cell? ⟨w.heap.size + 1, 9, none⟩ = some (.int .u64 p.s1) := fun W h => (hPC W h).2.2.2.2.2.2.2.2.2.1
        have f10 : ∀ W, C W → W.cell? ⟨w.heap.size + 1, 10, none⟩ = some (.int .u64 p.s2) := fun W h => (hPC W h).2.2.2.2.2.2.2.2.2.2.1
        have f11 : ∀ W, C W → W.cell? ⟨w.heap.size + 1, 11, none⟩ = some (.int .u64 p.s3) := fun W h => (hPC W h).2.2.2.2.2.2.2.2.2.2.2
        refine wp_region_cls C (by kernel_rfl) (by kernel_rfl) hC ?_
        repeat (first
          | go_big_quiet_skip
          | (go_big_quiet_want
             go_big_quiet_op
             first
               | go_big_quiet_on
               | (apply Exists.intro
                  refine ⟨fun W hW => ?_, ?_⟩
                  · first
                      | exact rfl
                      | exact ⟨rfl, rfl⟩
                      | (have e0 := f0 W hW; have e1 := f1 W hW; have e2 := f2 W hW; have e3 := f3 W hW; have e4 := f4 W hW; have e5 := f5 W hW; have e6 := f6 W hW; have e7 := f7 W hW; have e8 := f8 W hW; have e9 := f9 W hW; have e10 := f10 W hW; have e11 := f11 W hW; simp only [e0, e1, e2, e3, e4, e5, e6, e7, e8, e9, e10, e11, Result.andThen_ok]; done)
                      | (have e0 := f0 W hW; have e1 := f1 W hW; have e2 := f2 W hW; have e3 := f3 W hW; have e4 := f4 W hW; have e5 := f5 W hW; have e6 := f6 W hW; have e7 := f7 W hW; have e8 := f8 W hW; have e9 := f9 W hW; have e10 := f10 W hW; have e11 := f11 W hW; simp only [e0, e1, e2, e3, e4, e5, e6, e7, e8, e9, e10, e11, Result.andThen_ok]; first | exact ⟨trivial, rfl⟩ | exact rfl | exact ⟨rfl, rfl⟩)
                      | ((refine (HNO.out W).mono ?_; rintro e w' ⟨rfl, hb⟩; exact ⟨rfl, hCK _ _ hW hb⟩))
                  go_big_quiet_on)))
        refine wpQuiet_nil ?_
        intro v6 hv6
        have hwB := hCB v6 hv6
        have hPv6 := hPC v6 hv6
        have hd6 := keep_below hwB hd5
        clear f0 f1 f2 f3 f4 f5 f6 f7 f8 f9 f10 f11 hPC hCK hCd hCB hC hC0 hPv5
        obtain ⟨p0, p1, p2, p3, p4, p5, p6, p7, p8, p9, pa, pb⟩ := hPv6
        simp only [Nat.zero_add] at p1 p2 p3 p4 p5 p6 p7 p8 p9 pa pb
        go_wp2_with fail
        go_ret
        exact ⟨ret_bool (by simp), hd6⟩
      | false =>
        have hv : p.two = true ∨ p.two = false := by cases p.two <;> simp
        rw [hnb] at HEQ HNO
        have he := HEQ.out
        rcases hv with hv | hv
        · have HN : Hid (placesN p = 2) := by unfold Hid placesN; rw [hnb, hv]; rfl
          rw [HN.out]
          obtain ⟨b, rfl, r0, r1, r2⟩ := H5.out (by rw [HN.out]; omega)
          obtain ⟨r2, r3⟩ := r2 HN.out
          have hbl := World.block_lt_of_cell? _ _ r0
          have he2 := HEQ.out
          simp only [hv] at he2
          have Hv := Lib.hid hv
          clear hnb H5 hv
          repeat' (first
            | go_values
            | go_skip
            | go_guarded
            | ((fail_if_success (with_reducible refine drawn_mark ?_))
               first
                 | go_step
                 | go_upon
                 | go_back
                 | (simp only [Int.not_lt, Int.not_le] at *; go_simp)
                 | (go_values <;> (try go_simp))
                 | (go_ite <;> go_prune <;> (try go_simp))
                 | (split <;> (first | (rename_i hx; exact (hx _ rfl).elim) | go_prune))))
          obtain ⟨C, hC, hC0, hCB, hCK, hCd⟩ := cls_below v5
          have hPC : ∀ W, C W → PtrAt W (w.heap.size + 1) 0 p := fun W h => hPv5.keep (hCB W h) (by omega)
          have f0 : ∀ W, C W → W.cell? ⟨w.heap.size + 1, 0, none⟩ = some (.int .i64 p.ag) := fun W h => (hPC W h).1
          have f1 : ∀ W, C W → W.cell? ⟨w.heap.size + 1, 1, none⟩ = some (.int .i64 p.aa) := fun W h => (hPC W h).2.1
          have f2 : ∀ W, C W → W.cell? ⟨w.heap.size + 1, 2, none⟩ = some (.int .i64 p.bg) := fun W h => (hPC W h).2.2.1
          have f3 : ∀ W, C W → W.cell? ⟨w.heap.size + 1, 3, none⟩ = some (.int .i64 p.ba) := fun W h => (hPC W h).2.2.2.1
          have f4 : ∀ W, C W → W.cell? ⟨w.heap.size + 1, 4, none⟩ = some (.bool p.two) := fun W h => (hPC W h).2.2.2.2.1
          have f5 : ∀ W, C W → W.cell? ⟨w.heap.size + 1, 5, none⟩ = some (.int .i64 p.size) := fun W h => (hPC W h).2.2.2.2.2.1
          have f6 : ∀ W, C W → W.cell? ⟨w.heap.size + 1, 6, none⟩ = some (.int .i64 p.level) := fun W h => (hPC W h).2.2.2.2.2.2.1
          have f7 : ∀ W, C W → W.cell? ⟨w.heap.size + 1, 7, none⟩ = some (.int .i64 p.birth) := fun W h => (hPC W h).2.2.2.2.2.2.2.1
          have f8 : ∀ W, C W → W.cell? ⟨w.heap.size + 1, 8, none⟩ = some (.int .u64 p.s0) := fun W h => (hPC W h).2.2.2.2.2.2.2.2.1
          have f9 : ∀ W, C W → W.cell? ⟨w.heap.size + 1, 9, none⟩ = some (.int .u64 p.s1) := fun W h => (hPC W h).2.2.2.2.2.2.2.2.2.1
          have f10 : ∀ W, C W → W.cell? ⟨w.heap.size + 1, 10, none⟩ = some (.int .u64 p.s2) := fun W h => (hPC W h).2.2.2.2.2.2.2.2.2.2.1
          have f11 : ∀ W, C W → W.cell? ⟨w.heap.size + 1, 11, none⟩ = some (.int .u64 p.s3) := fun W h => (hPC W h).2.2.2.2.2.2.2.2.2.2.2
          refine wp_region_cls C (by kernel_rfl) (by kernel_rfl) hC ?_
          repeat (first
            | go_big_quiet_skip
            | (go_big_quiet_want
               go_big_quiet_op
               first
                 | go_big_quiet_on
                 | (apply Exists.intro
                    refine ⟨fun W hW => ?_, ?_⟩
                    · first
                        | exact rfl
                        | exact ⟨rfl, rfl⟩
                        | (have e0 := f0 W hW; have e1 := f1 W hW; have e2 := f2 W hW; have e3 := f3 W hW; have e4 := f4 W hW; have e5 := f5 W hW; have e6 := f6 W hW; have e7 := f7 W hW; have e8 := f8 W hW; have e9 := f9 W hW; have e10 := f10 W hW; have e11 := f11 W hW; simp only [e0, e1, e2, e3, e4, e5, e6, e7, e8, e9, e10, e11, Result.andThen_ok]; done)
                        | (have e0 := f0 W hW; have e1 := f1 W hW; have e2 := f2 W hW; have e3 := f3 W hW; have e4 := f4 W hW; have e5 := f5 W hW; have e6 := f6 W hW; have e7 := f7 W hW; have e8 := f8 W hW; have e9 := f9 W hW; have e10 := f10 W hW; have e11 := f11 W hW; simp only [e0, e1, e2, e3, e4, e5, e6, e7, e8, e9, e10, e11, Result.andThen_ok]; first | exact ⟨trivial, rfl⟩ | exact rfl | exact ⟨rfl, rfl⟩)
                        | ((refine (HNO.out W).mono ?_; rintro e w' ⟨rfl, hb⟩; exact ⟨rfl, hCK _ _ hW hb⟩))
                    go_big_quiet_on)))
          refine wpQuiet_nil ?_
          intro v6 hv6
          have hwB := hCB v6 hv6
          have hPv6 := hPC v6 hv6
          have hd6 := keep_below hwB hd5
          clear f0 f1 f2 f3 f4 f5 f6 f7 f8 f9 f10 f11 hPC hCK hCd hCB hC hC0 hPv5
          obtain ⟨p0, p1, p2, p3, p4, p5, p6, p7, p8, p9, pa, pb⟩ := hPv6
          simp only [Nat.zero_add] at p1 p2 p3 p4 p5 p6 p7 p8 p9 pa pb
          have r0 := keep_cell hwB r0 hbl
          have r1 := keep_cell hwB r1 hbl
          have r2 := keep_cell hwB r2 hbl
          have r3 := keep_cell hwB r3 hbl
          rw [Hv.out] at p4
          have e1 : ∀ W, (binOp .eql 23 (.agg #[.int .i64 p.ag, .int .i64 p.aa]) (.agg #[.int .i64 p.ag, .int .i64 p.aa])).run Tryd.prog W = .ok (.bool true) W := fun W => by rw [eql_place]; simp
          have e2 : ∀ W, (binOp .eql 23 (.agg #[.int .i64 p.bg, .int .i64 p.ba]) (.agg #[.int .i64 p.bg, .int .i64 p.ba])).run Tryd.prog W = .ok (.bool true) W := fun W => by rw [eql_place]; simp
          repeat' (first
            | go_values
            | go_skip
            | go_guarded
            | ((fail_if_success (with_reducible refine drawn_mark ?_))
               first
                 | go_step
                 | go_upon
                 | go_back
                 | (simp only [Int.not_lt, Int.not_le] at *; go_simp)
                 | (go_values <;> (try go_simp))
                 | (go_ite <;> go_prune <;> (try go_simp))
                 | (split <;> (first | (rename_i hx; exact (hx _ rfl).elim) | go_prune))))
          go_quiet (fail)
          go_wp2_with fail
          go_ret
          exact ⟨ret_bool (by simp), below_drewN hd6 _⟩
        · have HN : Hid (placesN p = 1) := by unfold Hid placesN; rw [hnb, hv]; rfl
          rw [HN.out]
          obtain ⟨b, rfl, r0, r1, _⟩ := H5.out (by rw [HN.out]; omega)
          have hbl := World.block_lt_of_cell? _ _ r0
          have he2 := HEQ.out
          simp only [hv] at he2
          have Hv := Lib.hid hv
          clear hnb H5 hv
          repeat' (first
            | go_values
            | go_skip
            | go_guarded
            | ((fail_if_success (with_reducible refine drawn_mark ?_))
               first
                 | go_step
                 | go_upon
                 | go_back
                 | (simp only [Int.not_lt, Int.not_le] at *; go_simp)
                 | (go_values <;> (try go_simp))
                 | (go_ite <;> go_prune <;> (try go_simp))
                 | (split <;> (first | (rename_i hx; exact (hx _ rfl).elim) | go_prune))))
          obtain ⟨C, hC, hC0, hCB, hCK, hCd⟩ := cls_below v5
          have hPC : ∀ W, C W → PtrAt W (w.heap.size + 1) 0 p := fun W h => hPv5.keep (hCB W h) (by omega)
          have f0 : ∀ W, C W → W.cell? ⟨w.heap.size + 1, 0, none⟩ = some (.int .i64 p.ag) := fun W h => (hPC W h).1
          have f1 : ∀ W, C W → W.cell? ⟨w.heap.size + 1, 1, none⟩ = some (.int .i64 p.aa) := fun W h => (hPC W h).2.1
          have f2 : ∀ W, C W → W.cell? ⟨w.heap.size + 1, 2, none⟩ = some (.int .i64 p.bg) := fun W h => (hPC W h).2.2.1
          have f3 : ∀ W, C W → W.cell? ⟨w.heap.size + 1, 3, none⟩ = some (.int .i64 p.ba) := fun W h => (hPC W h).2.2.2.1
          have f4 : ∀ W, C W → W.cell? ⟨w.heap.size + 1, 4, none⟩ = some (.bool p.two) := fun W h => (hPC W h).2.2.2.2.1
          have f5 : ∀ W, C W → W.cell? ⟨w.heap.size + 1, 5, none⟩ = some (.int .i64 p.size) := fun W h => (hPC W h).2.2.2.2.2.1
          have f6 : ∀ W, C W → W.cell? ⟨w.heap.size + 1, 6, none⟩ = some (.int .i64 p.level) := fun W h => (hPC W h).2.2.2.2.2.2.1
          have f7 : ∀ W, C W → W.cell? ⟨w.heap.size + 1, 7, none⟩ = some (.int .i64 p.birth) := fun W h => (hPC W h).2.2.2.2.2.2.2.1
          have f8 : ∀ W, C W → W.cell? ⟨w.heap.size + 1, 8, none⟩ = some (.int .u64 p.s0) := fun W h => (hPC W h).2.2.2.2.2.2.2.2.1
          have f9 : ∀ W, C W → W.cell? ⟨w.heap.size + 1, 9, none⟩ = some (.int .u64 p.s1) := fun W h => (hPC W h).2.2.2.2.2.2.2.2.2.1
          have f10 : ∀ W, C W → W.cell? ⟨w.heap.size + 1, 10, none⟩ = some (.int .u64 p.s2) := fun W h => (hPC W h).2.2.2.2.2.2.2.2.2.2.1
          have f11 : ∀ W, C W → W.cell? ⟨w.heap.size + 1, 11, none⟩ = some (.int .u64 p.s3) := fun W h => (hPC W h).2.2.2.2.2.2.2.2.2.2.2
          refine wp_region_cls C (by kernel_rfl) (by kernel_rfl) hC ?_
          repeat (first
            | go_big_quiet_skip
            | (go_big_quiet_want
               go_big_quiet_op
               first
                 | go_big_quiet_on
                 | (apply Exists.intro
                    refine ⟨fun W hW => ?_, ?_⟩
                    · first
                        | exact rfl
                        | exact ⟨rfl, rfl⟩
                        | (have e0 := f0 W hW; have e1 := f1 W hW; have e2 := f2 W hW; have e3 := f3 W hW; have e4 := f4 W hW; have e5 := f5 W hW; have e6 := f6 W hW; have e7 := f7 W hW; have e8 := f8 W hW; have e9 := f9 W hW; have e10 := f10 W hW; have e11 := f11 W hW; simp only [e0, e1, e2, e3, e4, e5, e6, e7, e8, e9, e10, e11, Result.andThen_ok]; done)
                        | (have e0 := f0 W hW; have e1 := f1 W hW; have e2 := f2 W hW; have e3 := f3 W hW; have e4 := f4 W hW; have e5 := f5 W hW; have e6 := f6 W hW; have e7 := f7 W hW; have e8 := f8 W hW; have e9 := f9 W hW; have e10 := f10 W hW; have e11 := f11 W hW; simp only [e0, e1, e2, e3, e4, e5, e6, e7, e8, e9, e10, e11, Result.andThen_ok]; first | exact ⟨trivial, rfl⟩ | exact rfl | exact ⟨rfl, rfl⟩)
                        | ((refine (HNO.out W).mono ?_; rintro e w' ⟨rfl, hb⟩; exact ⟨rfl, hCK _ _ hW hb⟩))
                    go_big_quiet_on)))
          refine wpQuiet_nil ?_
          intro v6 hv6
          have hwB := hCB v6 hv6
          have hPv6 := hPC v6 hv6
          have hd6 := keep_below hwB hd5
          clear f0 f1 f2 f3 f4 f5 f6 f7 f8 f9 f10 f11 hPC hCK hCd hCB hC hC0 hPv5
          obtain ⟨p0, p1, p2, p3, p4, p5, p6, p7, p8, p9, pa, pb⟩ := hPv6
          simp only [Nat.zero_add] at p1 p2 p3 p4 p5 p6 p7 p8 p9 pa pb
          have r0 := keep_cell hwB r0 hbl
          have r1 := keep_cell hwB r1 hbl
          rw [Hv.out] at p4
          have e1 : ∀ W, (binOp .eql 23 (.agg #[.int .i64 p.ag, .int .i64 p.aa]) (.agg #[.int .i64 p.ag, .int .i64 p.aa])).run Tryd.prog W = .ok (.bool true) W := fun W => by rw [eql_place]; simp
          repeat' (first
            | go_values
            | go_skip
            | go_guarded
            | ((fail_if_success (with_reducible refine drawn_mark ?_))
               first
                 | go_step
                 | go_upon
                 | go_back
                 | (simp only [Int.not_lt, Int.not_le] at *; go_simp)
                 | (go_values <;> (try go_simp))
                 | (go_ite <;> go_prune <;> (try go_simp))
                 | (split <;> (first | (rename_i hx; exact (hx _ rfl).elim) | go_prune))))
          go_quiet (fail)
          go_wp2_with fail
          go_ret
          exact ⟨ret_bool (by simp), below_drewN hd6 _⟩
    | false =>
      rw [hly] at HMY HPB
      simp only [if_false, Bool.false_eq_true] at HPB
      clear hly HRB
      go_wp2_with fail
      refine (HPB.out _).mono ?_
      rintro e wn ⟨rfl, hbn⟩
      have HPn := HP1.out.keep hbn (by omega)
      have l1 := keep_cell hbn l1 (by omega)
      have l2 := keep_cell hbn l2 (by omega)
      have hb2 := keep_below hbn hb2
      have hs1 := keep_size hbn hs1
      clear hbn HP1 p0 p1 p2 p3 p4 p5 p6 p7 p8 p9 pa pb
      have HP1 := Lib.hid HPn
      obtain ⟨p0, p1, p2, p3, p4, p5, p6, p7, p8, p9, pa, pb⟩ := HPn
      simp only [Nat.zero_add] at p1 p2 p3 p4 p5 p6 p7 p8 p9 pa pb
      go_wp2_with fail
      refine (HMY.out _).mono ?_
      rintro e wn ⟨rfl, hbn⟩
      have HPn := HP1.out.keep hbn (by omega)
      have l1 := keep_cell hbn l1 (by omega)
      have l2 := keep_cell hbn l2 (by omega)
      have hb2 := keep_below hbn hb2
      have hs1 := keep_size hbn hs1
      clear hbn HP1 p0 p1 p2 p3 p4 p5 p6 p7 p8 p9 pa pb
      have HP1 := Lib.hid HPn
      obtain ⟨p0, p1, p2, p3, p4, p5, p6, p7, p8, p9, pa, pb⟩ := HPn
      simp only [Nat.zero_add] at p1 p2 p3 p4 p5 p6 p7 p8 p9 pa pb
      go_wp2_with fail
      refine (HMY.out _).mono ?_
      rintro e wn ⟨rfl, hbn⟩
      have HPn := HP1.out.keep hbn (by omega)
      have l1 := keep_cell hbn l1 (by omega)
      have l2 := keep_cell hbn l2 (by omega)
      have hb2 := keep_below hbn hb2
      have hs1 := keep_size hbn hs1
      clear hbn HP1 p0 p1 p2 p3 p4 p5 p6 p7 p8 p9 pa pb
      have HP1 := Lib.hid HPn
      obtain ⟨p0, p1, p2, p3, p4, p5, p6, p7, p8, p9, pa, pb⟩ := HPn
      simp only [Nat.zero_add] at p1 p2 p3 p4 p5 p6 p7 p8 p9 pa pb
      go_wp2_with fail
      refine (HMY.out _).mono ?_
      rintro e wn ⟨rfl, hbn⟩
      have HPn := HP1.out.keep hbn (by omega)
      have l1 := keep_cell hbn l1 (by omega)
      have l2 := keep_cell hbn l2 (by omega)
      have hb2 := keep_below hbn hb2
      have hs1 := keep_size hbn hs1
      clear hbn HP1 p0 p1 p2 p3 p4 p5 p6 p7 p8 p9 pa pb
      have HP1 := Lib.hid HPn
      obtain ⟨p0, p1, p2, p3, p4, p5, p6, p7, p8, p9, pa, pb⟩ := HPn
      simp only [Nat.zero_add] at p1 p2 p3 p4 p5 p6 p7 p8 p9 pa pb
      go_wp2_with fail
      have hbb := hb2
      have hss := hs1
      have HPP := HP1
      clear p0 p1 p2 p3 p4 p5 p6 p7 p8 p9 pa pb HMY HPB hb2 hs1 HP1
      refine (HRD.out _).mono ?_
      rintro e v1 ⟨rfl, hc1⟩
      have hd1 := keep_below hc1 hbb
      have hsv1 := keep_size hc1 hss
      have hPv1 := HPP.out.keep hc1 (by omega)
      have m1 := keep_cell hc1 l1 (by omega)
      have m2 := keep_cell hc1 l2 (by omega)
      clear hc1
      go_wp2_with fail
      refine (HRF.out _).mono ?_
      rintro e v2 ⟨rfl, hc2⟩
      have hQ0 := PtrAt.new v1 q 28
      have hd2 := keep_below hc2 (keep_alloc hd1 _)
      have hPv2 := (hPv1.keep ((Below.refl _ _).alloc (Nat.le_refl _) _) (by omega)).keep hc2 (by simp; omega)
      have hQv2 := hQ0.keep hc2 (by simp)
      have m3 := keep_cell hc2 (cell_alloc m1 _) (by simp; omega)
      have m4 := keep_cell hc2 (cell_alloc m2 _) (by simp; omega)
      have hsv2 : v1.heap.size + 1 ≤ v2.heap.size := by have := hc2.size; simp at this; omega
      clear hc2 hQ0 hPv1 m1 m2
      go_wp2_with fail
      obtain ⟨v3, hv3⟩ : ∃ v3, v3 = v2.alloc (.cells #[.int .i64 q.ag, .int .i64 q.aa, .int .i64 q.bg, .int .i64 q.ba, .bool q.two, .int .i64 q.size, .int .i64 q.level, .int .i64 q.birth, .int .u64 q.s0, .int .u64 q.s1, .int .u64 q.s2, .int .u64 q.s3] 28) := ⟨_, rfl⟩
      have hd3 : Below w.heap.size w v3 := by rw [hv3]; exact keep_alloc hd2 _
      have hPv3 : PtrAt v3 (w.heap.size + 1) 0 p := by rw [hv3]; exact hPv2.keep ((Below.refl _ _).alloc (Nat.le_refl _) _) (by omega)
      have hQv3 : PtrAt v3 v1.heap.size 0 q := by rw [hv3]; exact hQv2.keep ((Below.refl _ _).alloc (Nat.le_refl _) _) (by omega)
      have hXv3 : PtrAt v3 v2.heap.size 0 q := by rw [hv3]; exact PtrAt.new v2 q 28
      have m5 : v3.cell? ⟨w.heap.size, 0, none⟩ = some (.slice A n c) := by rw [hv3]; exact cell_alloc m3 _
      have m6 : v3.cell? ⟨w.heap.size, 1, none⟩ = some (.int .i64 secs) := by rw [hv3]; exact cell_alloc m4 _
      have hsv3 : v2.heap.size < v3.heap.size := by rw [hv3]; simp
      rw [← hv3]
      clear hv3 hPv2 hQv2 m3 m4 hd2
      obtain ⟨C, hC, hC0, hCB, hCK, hCd⟩ := cls_below v3
      have hPC : ∀ W, C W → PtrAt W (w.heap.size + 1) 0 p := fun W h => hPv3.keep (hCB W h) (by omega)
      have hQC : ∀ W, C W → PtrAt W v1.heap.size 0 q := fun W h => hQv3.keep (hCB W h) (by omega)
      have hXC : ∀ W, C W → PtrAt W v2.heap.size 0 q := fun W h => hXv3.keep (hCB W h) (by omega)
      have f0 : ∀ W, C W → W.cell? ⟨w.heap.size + 1, 0, none⟩ = some (.int .i64 p.ag) := fun W h => (hPC W h).1
      have f1 : ∀ W, C W → W.cell? ⟨w.heap.size + 1, 1, none⟩ = some (.int .i64 p.aa) := fun W h => (hPC W h).2.1
      have f2 : ∀ W, C W → W.cell? ⟨w.heap.size + 1, 2, none⟩ = some (.int .i64 p.bg) := fun W h => (hPC W h).2.2.1
      have f3 : ∀ W, C W → W.cell? ⟨w.heap.size + 1, 3, none⟩ = some (.int .i64 p.ba) := fun W h => (hPC W h).2.2.2.1
      have f4 : ∀ W, C W → W.cell? ⟨w.heap.size + 1, 4, none⟩ = some (.bool p.two) := fun W h => (hPC W h).2.2.2.2.1
      have f5 : ∀ W, C W → W.cell? ⟨w.heap.size + 1, 5, none⟩ = some (.int .i64 p.size) := fun W h => (hPC W h).2.2.2.2.2.1
      have f6 : ∀ W, C W → W.cell? ⟨w.heap.size + 1, 6, none⟩ = some (.int .i64 p.level) := fun W h => (hPC W h).2.2.2.2.2.2.1
      have f7 : ∀ W, C W → W.cell? ⟨w.heap.size + 1, 7, none⟩ = some (.int .i64 p.birth) := fun W h => (hPC W h).2.2.2.2.2.2.2.1
      have f8 : ∀ W, C W → W.cell? ⟨w.heap.size + 1, 8, none⟩ = some (.int .u64 p.s0) := fun W h => (hPC W h).2.2.2.2.2.2.2.2.1
      have f9 : ∀ W, C W → W.cell? ⟨w.heap.size + 1, 9, none⟩ = some (.int .u64 p.s1) := fun W h => (hPC W h).2.2.2.2.2.2.2.2.2.1
      have f10 : ∀ W, C W → W.cell? ⟨w.heap.size + 1, 10, none⟩ = some (.int .u64 p.s2) := fun W h => (hPC W h).2.2.2.2.2.2.2.2.2.2.1
      have f11 : ∀ W, C W → W.cell? ⟨w.heap.size + 1, 11, none⟩ = some (.int .u64 p.s3) := fun W h => (hPC W h).2.2.2.2.2.2.2.2.2.2.2
      have g0 : ∀ W, C W → W.cell? ⟨v1.heap.size, 0, none⟩ = some (.int .i64 q.ag) := fun W h => (hQC W h).1
      have g1 : ∀ W, C W → W.cell? ⟨v1.heap.size, 1, none⟩ = some (.int .i64 q.aa) := fun W h => (hQC W h).2.1
      have g2 : ∀ W, C W → W.cell? ⟨v1.heap.size, 2, none⟩ = some (.int .i64 q.bg) := fun W h => (hQC W h).2.2.1
      have g3 : ∀ W, C W → W.cell? ⟨v1.heap.size, 3, none⟩ = some (.int .i64 q.ba) := fun W h => (hQC W h).2.2.2.1
      have g4 : ∀ W, C W → W.cell? ⟨v1.heap.size, 4, none⟩ = some (.bool q.two) := fun W h => (hQC W h).2.2.2.2.1
      have g5 : ∀ W, C W → W.cell? ⟨v1.heap.size, 5, none⟩ = some (.int .i64 q.size) := fun W h => (hQC W h).2.2.2.2.2.1
      have g6 : ∀ W, C W → W.cell? ⟨v1.heap.size, 6, none⟩ = some (.int .i64 q.level) := fun W h => (hQC W h).2.2.2.2.2.2.1
      have g7 : ∀ W, C W → W.cell? ⟨v1.heap.size, 7, none⟩ = some (.int .i64 q.birth) := fun W h => (hQC W h).2.2.2.2.2.2.2.1
      have g8 : ∀ W, C W → W.cell? ⟨v1.heap.size, 8, none⟩ = some (.int .u64 q.s0) := fun W h => (hQC W h).2.2.2.2.2.2.2.2.1
      have g9 : ∀ W, C W → W.cell? ⟨v1.heap.size, 9, none⟩ = some (.int .u64 q.s1) := fun W h => (hQC W h).2.2.2.2.2.2.2.2.2.1
      have g10 : ∀ W, C W → W.cell? ⟨v1.heap.size, 10, none⟩ = some (.int .u64 q.s2) := fun W h => (hQC W h).2.2.2.2.2.2.2.2.2.2.1
      have g11 : ∀ W, C W → W.cell? ⟨v1.heap.size, 11, none⟩ = some (.int .u64 q.s3) := fun W h => (hQC W h).2.2.2.2.2.2.2.2.2.2.2
      have x0 : ∀ W, C W → W.cell? ⟨v2.heap.size, 0, none⟩ = some (.int .i64 q.ag) := fun W h => (hXC W h).1
      have x1 : ∀ W, C W → W.cell? ⟨v2.heap.size, 1, none⟩ = some (.int .i64 q.aa) := fun W h => (hXC W h).2.1
      have x2 : ∀ W, C W → W.cell? ⟨v2.heap.size, 2, none⟩ = some (.int .i64 q.bg) := fun W h => (hXC W h).2.2.1
      have x3 : ∀ W, C W → W.cell? ⟨v2.heap.size, 3, none⟩ = some (.int .i64 q.ba) := fun W h => (hXC W h).2.2.2.1
      have x4 : ∀ W, C W → W.cell? ⟨v2.heap.size, 4, none⟩ = some (.bool q.two) := fun W h => (hXC W h).2.2.2.2.1
      have x5 : ∀ W, C W → W.cell? ⟨v2.heap.size, 5, none⟩ = some (.int .i64 q.size) := fun W h => (hXC W h).2.2.2.2.2.1
      have x6 : ∀ W, C W → W.cell? ⟨v2.heap.size, 6, none⟩ = some (.int .i64 q.level) := fun W h => (hXC W h).2.2.2.2.2.2.1
      have x7 : ∀ W, C W → W.cell? ⟨v2.heap.size, 7, none⟩ = some (.int .i64 q.birth) := fun W h => (hXC W h).2.2.2.2.2.2.2.1
      have x8 : ∀ W, C W → W.cell? ⟨v2.heap.size, 8, none⟩ = some (.int .u64 q.s0) := fun W h => (hXC W h).2.2.2.2.2.2.2.2.1
      have x9 : ∀ W, C W → W.cell? ⟨v2.heap.size, 9, none⟩ = some (.int .u64 q.s1) := fun W h => (hXC W h).2.2.2.2.2.2.2.2.2.1
      have x10 : ∀ W, C W → W.cell? ⟨v2.heap.size, 10, none⟩ = some (.int .u64 q.s2) := fun W h => (hXC W h).2.2.2.2.2.2.2.2.2.2.1
      have x11 : ∀ W, C W → W.cell? ⟨v2.heap.size, 11, none⟩ = some (.int .u64 q.s3) := fun W h => (hXC W h).2.2.2.2.2.2.2.2.2.2.2
      have fg0 : ∀ W, C W → W.cell? ⟨w.heap.size, 0, none⟩ = some (.slice A n c) := fun W h => keep_cell (hCB W h) m5 (by omega)
      have fg1 : ∀ W, C W → W.cell? ⟨w.heap.size, 1, none⟩ = some (.int .i64 secs) := fun W h => keep_cell (hCB W h) m6 (by omega)
      have hR1 : Hid (∀ W, Below v3.heap.size v3 W → Calls Tryd.prog 12 #[.agg #[.slice A n c, .int .i64 secs], .agg #[.int .i64 p.ag, .int .i64 p.aa, .int .i64 p.bg, .int .i64 p.ba, .bool p.two, .int .i64 p.size, .int .i64 p.level, .int .i64 p.birth, .int .u64 p.s0, .int .u64 p.s1, .int .u64 p.s2, .int .u64 p.s3]] W fun e w' => e = .returned (.bool (rightB gs secs p)) ∧ Below W.heap.size W w') :=
        Lib.hid fun W hB => pright_any A n c gs secs p W (hg.below (hd3.trans (hB.mono hd3.size)) (Nat.le_refl _))
      have hR2 : Hid (∀ W, Below v3.heap.size v3 W → Calls Tryd.prog 13 #[.agg #[.slice A n c, .int .i64 secs], .agg #[.int .i64 p.ag, .int .i64 p.aa, .int .i64 p.bg, .int .i64 p.ba, .bool p.two, .int .i64 p.size, .int .i64 p.level, .int .i64 p.birth, .int .u64 p.s0, .int .u64 p.s1, .int .u64 p.s2, .int .u64 p.s3]] W fun e w' => e = .returned (.bool (rightB gs secs p)) ∧ Below W.heap.size W w') :=
        Lib.hid fun W hB => refRight9_any A n c gs secs p W (hg.below (hd3.trans (hB.mono hd3.size)) (Nat.le_refl _))
      generalize rightB gs secs p = rb at hR1 hR2
      refine wp_region_cls C (by kernel_rfl) (by kernel_rfl) hC ?_
      repeat (first
        | go_big_quiet_skip
        | (go_big_quiet_want
           go_big_quiet_op
           first
             | go_big_quiet_on
             | (apply Exists.intro
                refine ⟨fun W hW => ?_, ?_⟩
                · first
                    | exact rfl
                    | exact ⟨rfl, rfl⟩
                    | (have e0 := f0 W hW; have e1 := f1 W hW; have e2 := f2 W hW; have e3 := f3 W hW; have e4 := f4 W hW; have e5 := f5 W hW; have e6 := f6 W hW; have e7 := f7 W hW; have e8 := f8 W hW; have e9 := f9 W hW; have e10 := f10 W hW; have e11 := f11 W hW; have e12 := g0 W hW; have e13 := g1 W hW; have e14 := g2 W hW; have e15 := g3 W hW; have e16 := g4 W hW; have e17 := g5 W hW; have e18 := g6 W hW; have e19 := g7 W hW; have e20 := g8 W hW; have e21 := g9 W hW; have e22 := g10 W hW; have e23 := g11 W hW; have e24 := x0 W hW; have e25 := x1 W hW; have e26 := x2 W hW; have e27 := x3 W hW; have e28 := x4 W hW; have e29 := x5 W hW; have e30 := x6 W hW; have e31 := x7 W hW; have e32 := x8 W hW; have e33 := x9 W hW; have e34 := x10 W hW; have e35 := x11 W hW; have e36 := fg0 W hW; have e37 := fg1 W hW; simp only [e0, e1, e2, e3, e4, e5, e6, e7, e8, e9, e10, e11, e12, e13, e14, e15, e16, e17, e18, e19, e20, e21, e22, e23, e24, e25, e26, e27, e28, e29, e30, e31, e32, e33, e34, e35, e36, e37, Result.andThen_ok]; done)
                    | (have e0 := f0 W hW; have e1 := f1 W hW; have e2 := f2 W hW; have e3 := f3 W hW; have e4 := f4 W hW; have e5 := f5 W hW; have e6 := f6 W hW; have e7 := f7 W hW; have e8 := f8 W hW; have e9 := f9 W hW; have e10 := f10 W hW; have e11 := f11 W hW; have e12 := g0 W hW; have e13 := g1 W hW; have e14 := g2 W hW; have e15 := g3 W hW; have e16 := g4 W hW; have e17 := g5 W hW; have e18 := g6 W hW; have e19 := g7 W hW; have e20 := g8 W hW; have e21 := g9 W hW; have e22 := g10 W hW; have e23 := g11 W hW; have e24 := x0 W hW; have e25 := x1 W hW; have e26 := x2 W hW; have e27 := x3 W hW; have e28 := x4 W hW; have e29 := x5 W hW; have e30 := x6 W hW; have e31 := x7 W hW; have e32 := x8 W hW; have e33 := x9 W hW; have e34 := x10 W hW; have e35 := x11 W hW; have e36 := fg0 W hW; have e37 := fg1 W hW; simp only [e0, e1, e2, e3, e4, e5, e6, e7, e8, e9, e10, e11, e12, e13, e14, e15, e16, e17, e18, e19, e20, e21, e22, e23, e24, e25, e26, e27, e28, e29, e30, e31, e32, e33, e34, e35, e36, e37, Result.andThen_ok]; first | exact ⟨trivial, rfl⟩ | exact rfl | exact ⟨rfl, rfl⟩)
                    | ((first | (go_at_call 12; refine (hR1.out W (hCB W hW)).mono ?_) | (go_at_call 13; refine (hR2.out W (hCB W hW)).mono ?_)); rintro e w' ⟨rfl, hb⟩; exact ⟨rfl, hCK _ _ hW hb⟩)
                go_big_quiet_on)))
      refine wpQuiet_nil ?_
      intro v4 hv4
      have hwB := hCB v4 hv4
      have hPv4 := hPC v4 hv4
      have hd4 := keep_below hwB hd3
      have hsv4 := keep_size hwB (Nat.le_of_lt hsv3)
      clear f0 f1 f2 f3 f4 f5 f6 f7 f8 f9 f10 f11 g0 g1 g2 g3 g4 g5 g6 g7 g8 g9 g10 g11 x0 x1 x2 x3 x4 x5 x6 x7 x8 x9 x10 x11 fg0 fg1 hPC hQC hXC hCK hCd hCB hC hC0 hPv3 hQv3 hXv3 m5 m6 hR1 hR2 hwB hd3
      have HP4 := Lib.hid hPv4
      obtain ⟨p0, p1, p2, p3, p4, p5, p6, p7, p8, p9, pa, pb⟩ := hPv4
      simp only [Nat.zero_add] at p1 p2 p3 p4 p5 p6 p7 p8 p9 pa pb
      have HEQ : Hid (∀ W, (binOp .eql 28 (.agg #[.int .i64 p.ag, .int .i64 p.aa, .int .i64 p.bg, .int .i64 p.ba, .bool p.two, .int .i64 p.size, .int .i64 p.level, .int .i64 p.birth, .int .u64 p.s0, .int .u64 p.s1, .int .u64 p.s2, .int .u64 p.s3]) (.agg #[.int .i64 0, .int .i64 0, .int .i64 0, .int .i64 0, .bool false, .int .i64 0, .int .i64 0, .int .i64 0, .int .u64 0, .int .u64 0, .int .u64 0, .int .u64 0])).run Tryd.prog W = .ok (.bool (noneB p)) W) := Lib.hid fun W => eql_ptr p ptrZ W
      have HNO : Hid (∀ W, Calls Tryd.prog 8 #[.agg #[.int .i64 p.ag, .int .i64 p.aa, .int .i64 p.bg, .int .i64 p.ba, .bool p.two, .int .i64 p.size, .int .i64 p.level, .int .i64 p.birth, .int .u64 p.s0, .int .u64 p.s1, .int .u64 p.s2, .int .u64 p.s3]] W fun e w' => e = .returned (.bool (noneB p)) ∧ Below W.heap.size W w') := Lib.hid fun W => none_any p W
      go_wp2_with fail
      refine (placesC_any p _).mono ?_
      rintro e v5 ⟨⟨A5, c5, rfl, h5⟩, hc5⟩
      have H5 := Lib.hid h5
      have hPv5 := HP4.out.keep hc5 (by omega)
      have hd5 := keep_below hc5 hd4
      have hsv5 := keep_size hc5 hsv4
      clear h5 hc5 p0 p1 p2 p3 p4 p5 p6 p7 p8 p9 pa pb HP4
      cases hnb : noneB p with
      | true =>
        have HN : Hid (placesN p = 0) := by unfold Hid placesN; rw [hnb]; rfl
        rw [HN.out]
        rw [hnb] at HEQ HNO
        have he := HEQ.out
        clear hnb
        repeat' (first
          | go_values
          | go_skip
          | go_guarded
          | ((fail_if_success (with_reducible refine drawn_mark ?_))
             first
               | go_step
               | go_upon
               | go_back
               | (simp only [Int.not_lt, Int.not_le] at *; go_simp)
               | (go_values <;> (try go_simp))
               | (go_ite <;> go_prune <;> (try go_simp))
               | (split <;> (first | (rename_i hx; exact (hx _ rfl).elim) | go_prune))))
        obtain ⟨C, hC, hC0, hCB, hCK, hCd⟩ := cls_below v5
        have hPC : ∀ W, C W → PtrAt W (w.heap.size + 1) 0 p := fun W h => hPv5.keep (hCB W h) (by omega)
        have f0 : ∀ W, C W → W.cell? ⟨w.heap.size + 1, 0, none⟩ = some (.int .i64 p.ag) := fun W h => (hPC W h).1
        have f1 : ∀ W, C W → W.cell? ⟨w.heap.size + 1, 1, none⟩ = some (.int .i64 p.aa) := fun W h => (hPC W h).2.1
        have f2 : ∀ W, C W → W.cell? ⟨w.heap.size + 1, 2, none⟩ = some (.int .i64 p.bg) := fun W h => (hPC W h).2.2.1
        have f3 : ∀ W, C W → W.cell? ⟨w.heap.size + 1, 3, none⟩ = some (.int .i64 p.ba) := fun W h => (hPC W h).2.2.2.1
        have f4 : ∀ W, C W → W.cell? ⟨w.heap.size + 1, 4, none⟩ = some (.bool p.two) := fun W h => (hPC W h).2.2.2.2.1
        have f5 : ∀ W, C W → W.cell? ⟨w.heap.size + 1, 5, none⟩ = some (.int .i64 p.size) := fun W h => (hPC W h).2.2.2.2.2.1
        have f6 : ∀ W, C W → W.cell? ⟨w.heap.size + 1, 6, none⟩ = some (.int .i64 p.level) := fun W h => (hPC W h).2.2.2.2.2.2.1
        have f7 : ∀ W, C W → W.cell? ⟨w.heap.size + 1, 7, none⟩ = some (.int .i64 p.birth) := fun W h => (hPC W h).2.2.2.2.2.2.2.1
        have f8 : ∀ W, C W → W.cell? ⟨w.heap.size + 1, 8, none⟩ = some (.int .u64 p.s0) := fun W h => (hPC W h).2.2.2.2.2.2.2.2.1
        have f9 : ∀ W, C W → W.cell? ⟨w.heap.size + 1, 9, none⟩ = some (.int .u64 p.s1) := fun W h => (hPC W h).2.2.2.2.2.2.2.2.2.1
        have f10 : ∀ W, C W → W.cell? ⟨w.heap.size + 1, 10, none⟩ = some (.int .u64 p.s2) := fun W h => (hPC W h).2.2.2.2.2.2.2.2.2.2.1
        have f11 : ∀ W, C W → W.cell? ⟨w.heap.size + 1, 11, none⟩ = some (.int .u64 p.s3) := fun W h => (hPC W h).2.2.2.2.2.2.2.2.2.2.2
        refine wp_region_cls C (by kernel_rfl) (by kernel_rfl) hC ?_
        repeat (first
          | go_big_quiet_skip
          | (go_big_quiet_want
             go_big_quiet_op
             first
               | go_big_quiet_on
               | (apply Exists.intro
                  refine ⟨fun W hW => ?_, ?_⟩
                  · first
                      | exact rfl
                      | exact ⟨rfl, rfl⟩
                      | (have e0 := f0 W hW; have e1 := f1 W hW; have e2 := f2 W hW; have e3 := f3 W hW; have e4 := f4 W hW; have e5 := f5 W hW; have e6 := f6 W hW; have e7 := f7 W hW; have e8 := f8 W hW; have e9 := f9 W hW; have e10 := f10 W hW; have e11 := f11 W hW; simp only [e0, e1, e2, e3, e4, e5, e6, e7, e8, e9, e10, e11, Result.andThen_ok]; done)
                      | (have e0 := f0 W hW; have e1 := f1 W hW; have e2 := f2 W hW; have e3 := f3 W hW; have e4 := f4 W hW; have e5 := f5 W hW; have e6 := f6 W hW; have e7 := f7 W hW; have e8 := f8 W hW; have e9 := f9 W hW; have e10 := f10 W hW; have e11 := f11 W hW; simp only [e0, e1, e2, e3, e4, e5, e6, e7, e8, e9, e10, e11, Result.andThen_ok]; first | exact ⟨trivial, rfl⟩ | exact rfl | exact ⟨rfl, rfl⟩)
                      | ((refine (HNO.out W).mono ?_; rintro e w' ⟨rfl, hb⟩; exact ⟨rfl, hCK _ _ hW hb⟩))
                  go_big_quiet_on)))
        refine wpQuiet_nil ?_
        intro v6 hv6
        have hwB := hCB v6 hv6
        have hPv6 := hPC v6 hv6
        have hd6 := keep_below hwB hd5
        clear f0 f1 f2 f3 f4 f5 f6 f7 f8 f9 f10 f11 hPC hCK hCd hCB hC hC0 hPv5
        obtain ⟨p0, p1, p2, p3, p4, p5, p6, p7, p8, p9, pa, pb⟩ := hPv6
        simp only [Nat.zero_add] at p1 p2 p3 p4 p5 p6 p7 p8 p9 pa pb
        go_wp2_with fail
        go_ret
        exact ⟨ret_bool (by simp), hd6⟩
      | false =>
        have hv : p.two = true ∨ p.two = false := by cases p.two <;> simp
        rw [hnb] at HEQ HNO
        have he := HEQ.out
        rcases hv with hv | hv
        · have HN : Hid (placesN p = 2) := by unfold Hid placesN; rw [hnb, hv]; rfl
          rw [HN.out]
          obtain ⟨b, rfl, r0, r1, r2⟩ := H5.out (by rw [HN.out]; omega)
          obtain ⟨r2, r3⟩ := r2 HN.out
          have hbl := World.block_lt_of_cell? _ _ r0
          have he2 := HEQ.out
          simp only [hv] at he2
          have Hv := Lib.hid hv
          clear hnb H5 hv
          repeat' (first
            | go_values
            | go_skip
            | go_guarded
            | ((fail_if_success (with_reducible refine drawn_mark ?_))
               first
                 | go_step
                 | go_upon
                 | go_back
                 | (simp only [Int.not_lt, Int.not_le] at *; go_simp)
                 | (go_values <;> (try go_simp))
                 | (go_ite <;> go_prune <;> (try go_simp))
                 | (split <;> (first | (rename_i hx; exact (hx _ rfl).elim) | go_prune))))
          obtain ⟨C, hC, hC0, hCB, hCK, hCd⟩ := cls_below v5
          have hPC : ∀ W, C W → PtrAt W (w.heap.size + 1) 0 p := fun W h => hPv5.keep (hCB W h) (by omega)
          have f0 : ∀ W, C W → W.cell? ⟨w.heap.size + 1, 0, none⟩ = some (.int .i64 p.ag) := fun W h => (hPC W h).1
          have f1 : ∀ W, C W → W.cell? ⟨w.heap.size + 1, 1, none⟩ = some (.int .i64 p.aa) := fun W h => (hPC W h).2.1
          have f2 : ∀ W, C W → W.cell? ⟨w.heap.size + 1, 2, none⟩ = some (.int .i64 p.bg) := fun W h => (hPC W h).2.2.1
          have f3 : ∀ W, C W → W.cell? ⟨w.heap.size + 1, 3, none⟩ = some (.int .i64 p.ba) := fun W h => (hPC W h).2.2.2.1
          have f4 : ∀ W, C W → W.cell? ⟨w.heap.size + 1, 4, none⟩ = some (.bool p.two) := fun W h => (hPC W h).2.2.2.2.1
          have f5 : ∀ W, C W → W.cell? ⟨w.heap.size + 1, 5, none⟩ = some (.int .i64 p.size) := fun W h => (hPC W h).2.2.2.2.2.1
          have f6 : ∀ W, C W → W.cell? ⟨w.heap.size + 1, 6, none⟩ = some (.int .i64 p.level) := fun W h => (hPC W h).2.2.2.2.2.2.1
          have f7 : ∀ W, C W → W.cell? ⟨w.heap.size + 1, 7, none⟩ = some (.int .i64 p.birth) := fun W h => (hPC W h).2.2.2.2.2.2.2.1
          have f8 : ∀ W, C W → W.cell? ⟨w.heap.size + 1, 8, none⟩ = some (.int .u64 p.s0) := fun W h => (hPC W h).2.2.2.2.2.2.2.2.1
          have f9 : ∀ W, C W → W.cell? ⟨w.heap.size + 1, 9, none⟩ = some (.int .u64 p.s1) := fun W h => (hPC W h).2.2.2.2.2.2.2.2.2.1
          have f10 : ∀ W, C W → W.cell? ⟨w.heap.size + 1, 10, none⟩ = some (.int .u64 p.s2) := fun W h => (hPC W h).2.2.2.2.2.2.2.2.2.2.1
          have f11 : ∀ W, C W → W.cell? ⟨w.heap.size + 1, 11, none⟩ = some (.int .u64 p.s3) := fun W h => (hPC W h).2.2.2.2.2.2.2.2.2.2.2
          refine wp_region_cls C (by kernel_rfl) (by kernel_rfl) hC ?_
          repeat (first
            | go_big_quiet_skip
            | (go_big_quiet_want
               go_big_quiet_op
               first
                 | go_big_quiet_on
                 | (apply Exists.intro
                    refine ⟨fun W hW => ?_, ?_⟩
                    · first
                        | exact rfl
                        | exact ⟨rfl, rfl⟩
                        | (have e0 := f0 W hW; have e1 := f1 W hW; have e2 := f2 W hW; have e3 := f3 W hW; have e4 := f4 W hW; have e5 := f5 W hW; have e6 := f6 W hW; have e7 := f7 W hW; have e8 := f8 W hW; have e9 := f9 W hW; have e10 := f10 W hW; have e11 := f11 W hW; simp only [e0, e1, e2, e3, e4, e5, e6, e7, e8, e9, e10, e11, Result.andThen_ok]; done)
                        | (have e0 := f0 W hW; have e1 := f1 W hW; have e2 := f2 W hW; have e3 := f3 W hW; have e4 := f4 W hW; have e5 := f5 W hW; have e6 := f6 W hW; have e7 := f7 W hW; have e8 := f8 W hW; have e9 := f9 W hW; have e10 := f10 W hW; have e11 := f11 W hW; simp only [e0, e1, e2, e3, e4, e5, e6, e7, e8, e9, e10, e11, Result.andThen_ok]; first | exact ⟨trivial, rfl⟩ | exact rfl | exact ⟨rfl, rfl⟩)
                        | ((refine (HNO.out W).mono ?_; rintro e w' ⟨rfl, hb⟩; exact ⟨rfl, hCK _ _ hW hb⟩))
                    go_big_quiet_on)))
          refine wpQuiet_nil ?_
          intro v6 hv6
          have hwB := hCB v6 hv6
          have hPv6 := hPC v6 hv6
          have hd6 := keep_below hwB hd5
          clear f0 f1 f2 f3 f4 f5 f6 f7 f8 f9 f10 f11 hPC hCK hCd hCB hC hC0 hPv5
          obtain ⟨p0, p1, p2, p3, p4, p5, p6, p7, p8, p9, pa, pb⟩ := hPv6
          simp only [Nat.zero_add] at p1 p2 p3 p4 p5 p6 p7 p8 p9 pa pb
          have r0 := keep_cell hwB r0 hbl
          have r1 := keep_cell hwB r1 hbl
          have r2 := keep_cell hwB r2 hbl
          have r3 := keep_cell hwB r3 hbl
          rw [Hv.out] at p4
          have e1 : ∀ W, (binOp .eql 23 (.agg #[.int .i64 p.ag, .int .i64 p.aa]) (.agg #[.int .i64 p.ag, .int .i64 p.aa])).run Tryd.prog W = .ok (.bool true) W := fun W => by rw [eql_place]; simp
          have e2 : ∀ W, (binOp .eql 23 (.agg #[.int .i64 p.bg, .int .i64 p.ba]) (.agg #[.int .i64 p.bg, .int .i64 p.ba])).run Tryd.prog W = .ok (.bool true) W := fun W => by rw [eql_place]; simp
          repeat' (first
            | go_values
            | go_skip
            | go_guarded
            | ((fail_if_success (with_reducible refine drawn_mark ?_))
               first
                 | go_step
                 | go_upon
                 | go_back
                 | (simp only [Int.not_lt, Int.not_le] at *; go_simp)
                 | (go_values <;> (try go_simp))
                 | (go_ite <;> go_prune <;> (try go_simp))
                 | (split <;> (first | (rename_i hx; exact (hx _ rfl).elim) | go_prune))))
          go_quiet (fail)
          go_wp2_with fail
          go_ret
          exact ⟨ret_bool (by simp), below_drewN hd6 _⟩
        · have HN : Hid (placesN p = 1) := by unfold Hid placesN; rw [hnb, hv]; rfl
          rw [HN.out]
          obtain ⟨b, rfl, r0, r1, _⟩ := H5.out (by rw [HN.out]; omega)
          have hbl := World.block_lt_of_cell? _ _ r0
          have he2 := HEQ.out
          simp only [hv] at he2
          have Hv := Lib.hid hv
          clear hnb H5 hv
          repeat' (first
            | go_values
            | go_skip
            | go_guarded
            | ((fail_if_success (with_reducible refine drawn_mark ?_))
               first
                 | go_step
                 | go_upon
                 | go_back
                 | (simp only [Int.not_lt, Int.not_le] at *; go_simp)
                 | (go_values <;> (try go_simp))
                 | (go_ite <;> go_prune <;> (try go_simp))
                 | (split <;> (first | (rename_i hx; exact (hx _ rfl).elim) | go_prune))))
          obtain ⟨C, hC, hC0, hCB, hCK, hCd⟩ := cls_below v5
          have hPC : ∀ W, C W → PtrAt W (w.heap.size + 1) 0 p := fun W h => hPv5.keep (hCB W h) (by omega)
          have f0 : ∀ W, C W → W.cell? ⟨w.heap.size + 1, 0, none⟩ = some (.int .i64 p.ag) := fun W h => (hPC W h).1
          have f1 : ∀ W, C W → W.cell? ⟨w.heap.size + 1, 1, none⟩ = some (.int .i64 p.aa) := fun W h => (hPC W h).2.1
          have f2 : ∀ W, C W → W.cell? ⟨w.heap.size + 1, 2, none⟩ = some (.int .i64 p.bg) := fun W h => (hPC W h).2.2.1
          have f3 : ∀ W, C W → W.cell? ⟨w.heap.size + 1, 3, none⟩ = some (.int .i64 p.ba) := fun W h => (hPC W h).2.2.2.1
          have f4 : ∀ W, C W → W.cell? ⟨w.heap.size + 1, 4, none⟩ = some (.bool p.two) := fun W h => (hPC W h).2.2.2.2.1
          have f5 : ∀ W, C W → W.cell? ⟨w.heap.size + 1, 5, none⟩ = some (.int .i64 p.size) := fun W h => (hPC W h).2.2.2.2.2.1
          have f6 : ∀ W, C W → W.cell? ⟨w.heap.size + 1, 6, none⟩ = some (.int .i64 p.level) := fun W h => (hPC W h).2.2.2.2.2.2.1
          have f7 : ∀ W, C W → W.cell? ⟨w.heap.size + 1, 7, none⟩ = some (.int .i64 p.birth) := fun W h => (hPC W h).2.2.2.2.2.2.2.1
          have f8 : ∀ W, C W → W.cell? ⟨w.heap.size + 1, 8, none⟩ = some (.int .u64 p.s0) := fun W h => (hPC W h).2.2.2.2.2.2.2.2.1
          have f9 : ∀ W, C W → W.cell? ⟨w.heap.size + 1, 9, none⟩ = some (.int .u64 p.s1) := fun W h => (hPC W h).2.2.2.2.2.2.2.2.2.1
          have f10 : ∀ W, C W → W.cell? ⟨w.heap.size + 1, 10, none⟩ = some (.int .u64 p.s2) := fun W h => (hPC W h).2.2.2.2.2.2.2.2.2.2.1
          have f11 : ∀ W, C W → W.cell? ⟨w.heap.size + 1, 11, none⟩ = some (.int .u64 p.s3) := fun W h => (hPC W h).2.2.2.2.2.2.2.2.2.2.2
          refine wp_region_cls C (by kernel_rfl) (by kernel_rfl) hC ?_
          repeat (first
            | go_big_quiet_skip
            | (go_big_quiet_want
               go_big_quiet_op
               first
                 | go_big_quiet_on
                 | (apply Exists.intro
                    refine ⟨fun W hW => ?_, ?_⟩
                    · first
                        | exact rfl
                        | exact ⟨rfl, rfl⟩
                        | (have e0 := f0 W hW; have e1 := f1 W hW; have e2 := f2 W hW; have e3 := f3 W hW; have e4 := f4 W hW; have e5 := f5 W hW; have e6 := f6 W hW; have e7 := f7 W hW; have e8 := f8 W hW; have e9 := f9 W hW; have e10 := f10 W hW; have e11 := f11 W hW; simp only [e0, e1, e2, e3, e4, e5, e6, e7, e8, e9, e10, e11, Result.andThen_ok]; done)
                        | (have e0 := f0 W hW; have e1 := f1 W hW; have e2 := f2 W hW; have e3 := f3 W hW; have e4 := f4 W hW; have e5 := f5 W hW; have e6 := f6 W hW; have e7 := f7 W hW; have e8 := f8 W hW; have e9 := f9 W hW; have e10 := f10 W hW; have e11 := f11 W hW; simp only [e0, e1, e2, e3, e4, e5, e6, e7, e8, e9, e10, e11, Result.andThen_ok]; first | exact ⟨trivial, rfl⟩ | exact rfl | exact ⟨rfl, rfl⟩)
                        | ((refine (HNO.out W).mono ?_; rintro e w' ⟨rfl, hb⟩; exact ⟨rfl, hCK _ _ hW hb⟩))
                    go_big_quiet_on)))
          refine wpQuiet_nil ?_
          intro v6 hv6
          have hwB := hCB v6 hv6
          have hPv6 := hPC v6 hv6
          have hd6 := keep_below hwB hd5
          clear f0 f1 f2 f3 f4 f5 f6 f7 f8 f9 f10 f11 hPC hCK hCd hCB hC hC0 hPv5
          obtain ⟨p0, p1, p2, p3, p4, p5, p6, p7, p8, p9, pa, pb⟩ := hPv6
          simp only [Nat.zero_add] at p1 p2 p3 p4 p5 p6 p7 p8 p9 pa pb
          have r0 := keep_cell hwB r0 hbl
          have r1 := keep_cell hwB r1 hbl
          rw [Hv.out] at p4
          have e1 : ∀ W, (binOp .eql 23 (.agg #[.int .i64 p.ag, .int .i64 p.aa]) (.agg #[.int .i64 p.ag, .int .i64 p.aa])).run Tryd.prog W = .ok (.bool true) W := fun W => by rw [eql_place]; simp
          repeat' (first
            | go_values
            | go_skip
            | go_guarded
            | ((fail_if_success (with_reducible refine drawn_mark ?_))
               first
                 | go_step
                 | go_upon
                 | go_back
                 | (simp only [Int.not_lt, Int.not_le] at *; go_simp)
                 | (go_values <;> (try go_simp))
                 | (go_ite <;> go_prune <;> (try go_simp))
                 | (split <;> (first | (rename_i hx; exact (hx _ rfl).elim) | go_prune))))
          go_quiet (fail)
          go_wp2_with fail
          go_ret
          exact ⟨ret_bool (by simp), below_drewN hd6 _⟩
end Go.Proofs.YtnagcmfecggllaaDoor
