/-
  Contracts of package ptr: None, Bytes.
  The walks of LeLays, LeUnlike, LePads.
  The walk of LeUnlike.
  Contracts of package geom, second part: Sectors, Devs, First.
  Contracts of package cols: the columns of a block.
  Contracts of package cols, second part: mirror, parity, Of.
-/
import Derived.Test.YtidmbibpoldgcaaGreatDoorJ04
import Derived.Test.YtidmbibpoldgcaaGreatDoorJ01
namespace Go.Proofs.YtidmbibpoldgcaaGreatDoor
open Go.RowKit
set_option linter.unusedVariables false

def ptrZ : PtrD := ⟨0, 0, 0, 0, false, 0, 0, 0, 0, 0, 0, 0⟩
/-- All of it is zero. -/
def noneB (p : PtrD) : Bool := ptrEq p ptrZ
set_option maxRecDepth 100000 in
theorem none_any (p : PtrD) (w : World) :
    Calls Tryz.prog 37 #[.agg p.cells] w fun e w' => e = .returned (.bool (noneB p)) ∧ Below w.heap.size w w' := by
  have h := PtrAt.new w p 31
  obtain ⟨h0, h1, h2, h3, h4, h5, h6, h7, h8, h9, ha, hc⟩ := h
  simp only [Nat.zero_add] at h1 h2 h3 h4 h5 h6 h7 h8 h9 ha hc
  have he : ∀ W, (binOp .eql 31 (.agg #[.int .i64 p.ag, .int .i64 p.aa, .int .i64 p.bg, .int .i64 p.ba, .bool p.two, .int .i64 p.size, .int .i64 p.level, .int .i64 p.birth, .int .u64 p.s0, .int .u64 p.s1, .int .u64 p.s2, .int .u64 p.s3])
      (.agg #[.int .i64 0, .int .i64 0, .int .i64 0, .int .i64 0, .bool false, .int .i64 0, .int .i64 0, .int .i64 0, .int .u64 0, .int .u64 0, .int .u64 0, .int .u64 0])).run Tryz.prog W = .ok (.bool (noneB p)) W := fun W => eql_ptr p ptrZ W
  have hb := (Below.refl w.heap.size w).alloc (Nat.le_refl _) (.cells p.cells 31)
  go_enter Tryz.func37, Tryz.ntmps37
  go_wp2_with fail
  go_ret
  exact ⟨rfl, hb⟩
/-- Whether a pointer can be laid; its bytes. -/
def layOk (p : PtrD) : Bool := withinL 4294967295 [p.ag, p.aa, p.bg, p.ba, p.birth] && withinL 255 [p.size, p.level]
def ptrOne (p : PtrD) : Int := p.size + p.level * 256 + if p.two then 65536 else 0
def ptrL (p : PtrD) : List UInt8 := padL (smallL [p.ag, p.aa, p.bg, p.ba, ptrOne p, p.birth] ++ sumL [p.s0, p.s1, p.s2, p.s3]) 64

set_option maxRecDepth 100000 in
set_option maxHeartbeats 8000000 in
theorem pbytes_any (p : PtrD) (w : World) (hok : p.Ok) :
    Calls Tryz.prog 55 #[.agg p.cells] w fun e w' => e = .returned (.tuple #[str (if layOk p then ptrL p else []), .int .i64 (if layOk p then 0 else 1)]) ∧ Below w.heap.size w w' := by
  have h := PtrAt.new w p 31
  obtain ⟨h0, h1, h2, h3, h4, h5, h6, h7, h8, h9, ha, hc⟩ := h
  simp only [Nat.zero_add] at h1 h2 h3 h4 h5 h6 h7 h8 h9 ha hc
  have hb := (Below.refl w.heap.size w).alloc (Nat.le_refl _) (.cells p.cells 31)
  have hs : w.heap.size < (w.alloc (.cells p.cells 31)).heap.size := by simp
  have HL : Hid (layOk p = (withinL 4294967295 [p.ag, p.aa, p.bg, p.ba, p.birth] && withinL 255 [p.size, p.level])) := Lib.hid rfl
  obtain ⟨g0, g1, g2, g3, g4, g5, g6, g7, g8, g9⟩ := hok
  have HI1 : Hid (IntsAt ((w.alloc (.cells p.cells 31)).alloc (.cells #[.int .i64 p.ag, .int .i64 p.aa, .int .i64 p.bg, .int .i64 p.ba, .int .i64 p.birth] 3)) (w.heap.size + 1) 0 [p.ag, p.aa, p.bg, p.ba, p.birth]) := by
    have := IntsAt.new (w.alloc (.cells p.cells 31)) [p.ag, p.aa, p.bg, p.ba, p.birth] 3
    rw [World.size_alloc] at this
    exact this
  have hb1 := hb.alloc hb.size (.cells #[.int .i64 p.ag, .int .i64 p.aa, .int .i64 p.bg, .int .i64 p.ba, .int .i64 p.birth] 3)
  have HP : Hid (PtrAt ((w.alloc (.cells p.cells 31)).alloc (.cells #[.int .i64 p.ag, .int .i64 p.aa, .int .i64 p.bg, .int .i64 p.ba, .int .i64 p.birth] 3)) w.heap.size 0 p) :=
    Lib.hid ((PtrAt.new w p 31).keep ((Below.refl _ _).alloc (Nat.le_refl _) _) hs)
  cases hc1 : withinL 4294967295 [p.ag, p.aa, p.bg, p.ba, p.birth] with
  | true =>
    have HC1 := Lib.hid hc1
    clear hc1
    go_enter Tryz.func55, Tryz.ntmps55
    go_wp2_with fail
    refine (within_any 4294967295 (w.heap.size + 1) 5 5 [p.ag, p.aa, p.bg, p.ba, p.birth] _ rfl (by omega) HI1.out).mono ?_
    rintro e w2 ⟨rfl, k, rfl⟩
    rw [HC1.out]
    have hP2 : PtrAt (((w.alloc (.cells p.cells 31)).alloc (.cells #[.int .i64 p.ag, .int .i64 p.aa, .int .i64 p.bg, .int .i64 p.ba, .int .i64 p.birth] 3)).drewN k) w.heap.size 0 p := HP.out
    have hb2 := below_drewN hb1 k
    have hs2 : w.heap.size < (((w.alloc (.cells p.cells 31)).alloc (.cells #[.int .i64 p.ag, .int .i64 p.aa, .int .i64 p.bg, .int .i64 p.ba, .int .i64 p.birth] 3)).drewN k).heap.size := by simp; omega
    clear h0 h1 h2 h3 h4 h5 h6 h7 h8 h9 ha hc hb hs hb1 HI1 HP
    generalize (((w.alloc (.cells p.cells 31)).alloc (.cells #[.int .i64 p.ag, .int .i64 p.aa, .int .i64 p.bg, .int .i64 p.ba, .int .i64 p.birth] 3)).drewN k) = w2 at *
    have HP2 := Lib.hid hP2
    obtain ⟨h0, h1, h2, h3, h4, h5, h6, h7, h8, h9, ha, hc⟩ := hP2
    simp only [Nat.zero_add] at h1 h2 h3 h4 h5 h6 h7 h8 h9 ha hc
    have HI2 : Hid (IntsAt (w2.alloc (.cells #[.int .i64 p.size, .int .i64 p.level] 3)) w2.heap.size 0 [p.size, p.level]) := Lib.hid (IntsAt.new w2 [p.size, p.level] 3)
    have hb3 := hb2.alloc hb2.size (.cells #[.int .i64 p.size, .int .i64 p.level] 3)
    have HP3 := Lib.hid (HP2.out.keep ((Below.refl _ _).alloc (Nat.le_refl _) (.cells #[.int .i64 p.size, .int .i64 p.level] 3)) hs2)
    cases hc2 : withinL 255 [p.size, p.level] with
    | true =>
      have HLT : Hid (layOk p = true) := by unfold Hid; rw [HL.out, HC1.out, hc2]; rfl
      have HC2 := Lib.hid hc2
      clear hc2 HL
      go_wp2_with fail
      refine (within_any 255 w2.heap.size 2 2 [p.size, p.level] _ rfl (by omega) HI2.out).mono ?_
      rintro e w3 ⟨rfl, k3, rfl⟩
      rw [HC2.out]
      have hP3 : PtrAt ((w2.alloc (.cells #[.int .i64 p.size, .int .i64 p.level] 3)).drewN k3) w.heap.size 0 p := HP3.out
      have hb4 := below_drewN hb3 k3
      have hs4 : w.heap.size < ((w2.alloc (.cells #[.int .i64 p.size, .int .i64 p.level] 3)).drewN k3).heap.size := by simp; omega
      clear h0 h1 h2 h3 h4 h5 h6 h7 h8 h9 ha hc hb2 hb3 HI2 HP2 HP3
      obtain ⟨w4, hw4⟩ : ∃ x, x = ((w2.alloc (.cells #[.int .i64 p.size, .int .i64 p.level] 3)).drewN k3) := ⟨_, rfl⟩
      rw [← hw4] at hP3 hb4 hs4 ⊢
      clear hw4
      have HP4 := Lib.hid hP3
      obtain ⟨h0, h1, h2, h3, h4, h5, h6, h7, h8, h9, ha, hc⟩ := hP3
      simp only [Nat.zero_add] at h1 h2 h3 h4 h5 h6 h7 h8 h9 ha hc
      have hsz : 0 ≤ p.size ∧ p.size ≤ 255 ∧ 0 ≤ p.level ∧ p.level ≤ 255 := by
        have := HC2.out
        simp [withinL] at this
        omega
      obtain ⟨q1, q2, q3, q4⟩ := hsz
      have HO : Hid (ptrOne p = p.size + p.level * 256 + if p.two then 65536 else 0) := Lib.hid rfl
      cases htwo : p.two with
      | true =>
        rw [htwo] at h4 HO
        have HO2 : Hid (ptrOne p = p.size + p.level * 256 + 65536) := by unfold Hid; rw [HO.out]; simp
        have HIS : IntsAt (w4.alloc (.cells #[.int .i64 p.ag, .int .i64 p.aa, .int .i64 p.bg, .int .i64 p.ba, .int .i64 (p.size + p.level * 256 + 65536), .int .i64 p.birth] 3)).drew w4.heap.size 0 [p.ag, p.aa, p.bg, p.ba, p.size + p.level * 256 + 65536, p.birth] := IntsAt.new w4 [p.ag, p.aa, p.bg, p.ba, p.size + p.level * 256 + 65536, p.birth] 3
        have HSM := Lib.hid (small_any w4.heap.size 6 6 [p.ag, p.aa, p.bg, p.ba, p.size + p.level * 256 + 65536, p.birth] _ rfl (by omega) HIS)
        have HFB := Lib.hid fun W => fbytes_any p.s0 p.s1 p.s2 p.s3 W g0 g1 g2 g3
        have hsa : (smallL [p.ag, p.aa, p.bg, p.ba, p.size + p.level * 256 + 65536, p.birth]).length ≤ 24 := smallL_len [p.ag, p.aa, p.bg, p.ba, p.size + p.level * 256 + 65536, p.birth]
        have hsb : (sumL [p.s0, p.s1, p.s2, p.s3]).length ≤ 32 := Nat.le_of_eq (sumL_len [p.s0, p.s1, p.s2, p.s3])
        have HPL : Hid (ptrL p = padL (smallL [p.ag, p.aa, p.bg, p.ba, p.size + p.level * 256 + 65536, p.birth] ++ sumL [p.s0, p.s1, p.s2, p.s3]) 64) := by unfold Hid ptrL; rw [HO2.out]
        generalize smallL [p.ag, p.aa, p.bg, p.ba, p.size + p.level * 256 + 65536, p.birth] = sa at HSM hsa HPL
        generalize sumL [p.s0, p.s1, p.s2, p.s3] = sb at HFB hsb HPL
        have hcc : ¬ 9223372036854775807 < (ByteArray.mk sa.toArray).size + (ByteArray.mk sb.toArray).size := by simp [ByteArray.size]; omega
        have hcd : ¬ 9223372036854775807 < sa.length + sb.length := by omega
        have HPA := Lib.hid fun W => pad_any (sa ++ sb) 64 W (by rw [List.length_append]; omega)
        clear HIS HO2
        clear htwo HO g0 g1 g2 g3 g4 g5 g6 g7 g8 g9
        go_wp2_with fail
        go_region_held3 (fun W => W.cell? ⟨w.heap.size, 0, none⟩ = some (.int .i64 p.ag) ∧ W.cell? ⟨w.heap.size, 1, none⟩ = some (.int .i64 p.aa) ∧ W.cell? ⟨w.heap.size, 2, none⟩ = some (.int .i64 p.bg) ∧ W.cell? ⟨w.heap.size, 3, none⟩ = some (.int .i64 p.ba) ∧
            W.cell? ⟨w.heap.size, 7, none⟩ = some (.int .i64 p.birth) ∧ W.cell? ⟨w.heap.size, 8, none⟩ = some (.int .u64 p.s0) ∧ W.cell? ⟨w.heap.size, 9, none⟩ = some (.int .u64 p.s1) ∧ W.cell? ⟨w.heap.size, 10, none⟩ = some (.int .u64 p.s2) ∧ W.cell? ⟨w.heap.size, 11, none⟩ = some (.int .u64 p.s3) ∧ Below w4.heap.size w4 W)
          (first
            | exact ⟨h0, h1, h2, h3, h7, h8, h9, ha, hc, (Below.refl _ _).drew⟩
            | exact ‹_ ∧ _ ∧ _ ∧ _ ∧ _ ∧ _ ∧ _ ∧ _ ∧ _ ∧ Below w4.heap.size w4 _›
            | (obtain ⟨t0, t1, t2, t3, t4, t5, t6, t7, t8, t9⟩ := ‹_ ∧ _ ∧ _ ∧ _ ∧ _ ∧ _ ∧ _ ∧ _ ∧ _ ∧ Below w4.heap.size w4 _›; exact ⟨cell_alloc t0 _, cell_alloc t1 _, cell_alloc t2 _, cell_alloc t3 _, cell_alloc t4 _, cell_alloc t5 _, cell_alloc t6 _, cell_alloc t7 _, cell_alloc t8 _, t9.alloc t9.size _⟩)
            | (obtain ⟨t0, t1, t2, t3, t4, t5, t6, t7, t8, t9⟩ := ‹_ ∧ _ ∧ _ ∧ _ ∧ _ ∧ _ ∧ _ ∧ _ ∧ _ ∧ Below w4.heap.size w4 _›; have hq := Nat.lt_of_lt_of_le hs4 t9.size; exact ⟨keep_cell hbc t0 hq, keep_cell hbc t1 hq, keep_cell hbc t2 hq, keep_cell hbc t3 hq, keep_cell hbc t4 hq, keep_cell hbc t5 hq, keep_cell hbc t6 hq, keep_cell hbc t7 hq, keep_cell hbc t8 hq, t9.trans (hbc.mono t9.size)⟩))
          (first
            | (go_at_call 74; refine HSM.out.mono ?_; rintro e wc ⟨rfl, hbc⟩)
            | (go_at_call 75; refine (HFB.out _).mono ?_; rintro e wc ⟨rfl, hbc⟩)
            | (go_at_call 56; rw [ByteArray.mk_append_mk]; refine (HPA.out _).mono ?_; rintro e wc ⟨rfl, hbc⟩))
        obtain ⟨t0, t1, t2, t3, t4, t5, t6, t7, t8, t9⟩ := ‹_ ∧ _ ∧ _ ∧ _ ∧ _ ∧ _ ∧ _ ∧ _ ∧ _ ∧ Below w4.heap.size w4 _›
        have hl := HLT.out
        go_wp2_with fail
        go_ret2
        exact ⟨by rw [HPL.out]; rfl, hb4.trans (t9.mono hb4.size)⟩
      | false =>
        rw [htwo] at h4 HO
        have HO2 : Hid (ptrOne p = p.size + p.level * 256) := by unfold Hid; rw [HO.out]; simp
        have HIS : IntsAt (w4.alloc (.cells #[.int .i64 p.ag, .int .i64 p.aa, .int .i64 p.bg, .int .i64 p.ba, .int .i64 (p.size + p.level * 256), .int .i64 p.birth] 3)).drew w4.heap.size 0 [p.ag, p.aa, p.bg, p.ba, p.size + p.level * 256, p.birth] := IntsAt.new w4 [p.ag, p.aa, p.bg, p.ba, p.size + p.level * 256, p.birth] 3
        have HSM := Lib.hid (small_any w4.heap.size 6 6 [p.ag, p.aa, p.bg, p.ba, p.size + p.level * 256, p.birth] _ rfl (by omega) HIS)
        have HFB := Lib.hid fun W => fbytes_any p.s0 p.s1 p.s2 p.s3 W g0 g1 g2 g3
        have hsa : (smallL [p.ag, p.aa, p.bg, p.ba, p.size + p.level * 256, p.birth]).length ≤ 24 := smallL_len [p.ag, p.aa, p.bg, p.ba, p.size + p.level * 256, p.birth]
        have hsb : (sumL [p.s0, p.s1, p.s2, p.s3]).length ≤ 32 := Nat.le_of_eq (sumL_len [p.s0, p.s1, p.s2, p.s3])
        have HPL : Hid (ptrL p = padL (smallL [p.ag, p.aa, p.bg, p.ba, p.size + p.level * 256, p.birth] ++ sumL [p.s0, p.s1, p.s2, p.s3]) 64) := by unfold Hid ptrL; rw [HO2.out]
        generalize smallL [p.ag, p.aa, p.bg, p.ba, p.size + p.level * 256, p.birth] = sa at HSM hsa HPL
        generalize sumL [p.s0, p.s1, p.s2, p.s3] = sb at HFB hsb HPL
        have hcc : ¬ 9223372036854775807 < (ByteArray.mk sa.toArray).size + (ByteArray.mk sb.toArray).size := by simp [ByteArray.size]; omega
        have hcd : ¬ 9223372036854775807 < sa.length + sb.length := by omega
        have HPA := Lib.hid fun W => pad_any (sa ++ sb) 64 W (by rw [List.length_append]; omega)
        clear HIS HO2
        clear htwo HO g0 g1 g2 g3 g4 g5 g6 g7 g8 g9
        go_wp2_with fail
        go_region_held3 (fun W => W.cell? ⟨w.heap.size, 0, none⟩ = some (.int .i64 p.ag) ∧ W.cell? ⟨w.heap.size, 1, none⟩ = some (.int .i64 p.aa) ∧ W.cell? ⟨w.heap.size, 2, none⟩ = some (.int .i64 p.bg) ∧ W.cell? ⟨w.heap.size, 3, none⟩ = some (.int .i64 p.ba) ∧
            W.cell? ⟨w.heap.size, 7, none⟩ = some (.int .i64 p.birth) ∧ W.cell? ⟨w.heap.size, 8, none⟩ = some (.int .u64 p.s0) ∧ W.cell? ⟨w.heap.size, 9, none⟩ = some (.int .u64 p.s1) ∧ W.cell? ⟨w.heap.size, 10, none⟩ = some (.int .u64 p.s2) ∧ W.cell? ⟨w.heap.size, 11, none⟩ = some (.int .u64 p.s3) ∧ Below w4.heap.size w4 W)
          (first
            | exact ⟨h0, h1, h2, h3, h7, h8, h9, ha, hc, (Below.refl _ _).drew⟩
            | exact ‹_ ∧ _ ∧ _ ∧ _ ∧ _ ∧ _ ∧ _ ∧ _ ∧ _ ∧ Below w4.heap.size w4 _›
            | (obtain ⟨t0, t1, t2, t3, t4, t5, t6, t7, t8, t9⟩ := ‹_ ∧ _ ∧ _ ∧ _ ∧ _ ∧ _ ∧ _ ∧ _ ∧ _ ∧ Below w4.heap.size w4 _›; exact ⟨cell_alloc t0 _, cell_alloc t1 _, cell_alloc t2 _, cell_alloc t3 _, cell_alloc t4 _, cell_alloc t5 _, cell_alloc t6 _, cell_alloc t7 _, cell_alloc t8 _, t9.alloc t9.size _⟩)
            | (obtain ⟨t0, t1, t2, t3, t4, t5, t6, t7, t8, t9⟩ := ‹_ ∧ _ ∧ _ ∧ _ ∧ _ ∧ _ ∧ _ ∧ _ ∧ _ ∧ Below w4.heap.size w4 _›; have hq := Nat.lt_of_lt_of_le hs4 t9.size; exact ⟨keep_cell hbc t0 hq, keep_cell hbc t1 hq, keep_cell hbc t2 hq, keep_cell hbc t3 hq, keep_cell hbc t4 hq, keep_cell hbc t5 hq, keep_cell hbc t6 hq, keep_cell hbc t7 hq, keep_cell hbc t8 hq, t9.trans (hbc.mono t9.size)⟩))
          (first
            | (go_at_call 74; refine HSM.out.mono ?_; rintro e wc ⟨rfl, hbc⟩)
            | (go_at_call 75; refine (HFB.out _).mono ?_; rintro e wc ⟨rfl, hbc⟩)
            | (go_at_call 56; rw [ByteArray.mk_append_mk]; refine (HPA.out _).mono ?_; rintro e wc ⟨rfl, hbc⟩))
        obtain ⟨t0, t1, t2, t3, t4, t5, t6, t7, t8, t9⟩ := ‹_ ∧ _ ∧ _ ∧ _ ∧ _ ∧ _ ∧ _ ∧ _ ∧ _ ∧ Below w4.heap.size w4 _›
        have hl := HLT.out
        go_wp2_with fail
        go_ret2
        exact ⟨by rw [HPL.out]; rfl, hb4.trans (t9.mono hb4.size)⟩
    | false =>
      have HLT : Hid (layOk p = false) := by unfold Hid; rw [HL.out, HC1.out, hc2]; rfl
      have HC2 := Lib.hid hc2
      clear hc2 HL
      go_wp2_with fail
      refine (within_any 255 w2.heap.size 2 2 [p.size, p.level] _ rfl (by omega) HI2.out).mono ?_
      rintro e w3 ⟨rfl, k3, rfl⟩
      rw [HC2.out]
      have hl := HLT.out
      go_wp2_with fail
      all_goals go_ret2
      all_goals exact ⟨rfl, below_drewN hb3 _⟩
  | false =>
    have HLT : Hid (layOk p = false) := by unfold Hid; rw [HL.out, hc1]; rfl
    have HC1 := Lib.hid hc1
    clear hc1 HL
    rw [HLT.out]
    go_enter Tryz.func55, Tryz.ntmps55
    go_wp2_with fail
    refine (within_any 4294967295 (w.heap.size + 1) 5 5 [p.ag, p.aa, p.bg, p.ba, p.birth] _ rfl (by omega) HI1.out).mono ?_
    rintro e w2 ⟨rfl, k, rfl⟩
    rw [HC1.out]
    go_wp2_with fail
    go_ret2
    exact ⟨rfl, below_drewN hb1 _⟩
end Go.Proofs.YtidmbibpoldgcaaGreatDoor

namespace Go.Proofs.YtidmbibpoldgcaaGreatDoor
open Go.RowKit
set_option linter.unusedVariables false

theorem long_any {n : Nat} (l : List UInt8) (h : 3000 < l.length) (hl : l.length ≤ 140737488351232) : (3000 : Int) < (l.length : Int) := by omega

end Go.Proofs.YtidmbibpoldgcaaGreatDoor

namespace Go.Proofs.YtidmbibpoldgcaaGreatDoor
open Go.RowKit
set_option linter.unusedVariables false

theorem layL_mod (x y : Nat) : ∀ n, layL x n = layL y n → x % 256 ^ n = y % 256 ^ n
  | 0, _ => by simp [Nat.mod_one]
  | n + 1, h => by
    rw [layL_succ, layL_succ] at h
    obtain ⟨h1, h2⟩ := List.append_inj h (by rw [layL_len, layL_len])
    have h3 := layL_mod x y n h1
    simp only [List.cons.injEq, and_true] at h2
    have h4 : (UInt8.ofNat (x / 256 ^ n)).toNat = (UInt8.ofNat (y / 256 ^ n)).toNat := by rw [h2]
    rw [UInt8.toNat_ofNat', UInt8.toNat_ofNat'] at h4
    have h5 : x / 256 ^ n % 256 = y / 256 ^ n % 256 := h4
    rw [Nat.mod_pow_succ, Nat.mod_pow_succ, h3, h5]
theorem layL_inj {x y n : Nat} (hx : x < 256 ^ n) (hy : y < 256 ^ n) (h : layL x n = layL y n) : x = y := by
  have := layL_mod x y n h
  rwa [Nat.mod_eq_of_lt hx, Nat.mod_eq_of_lt hy] at this
theorem layL_ne {x n : Nat} (h : 0 < n) : layL x n ≠ [] := by
  intro e
  have := layL_len x n
  rw [e] at this
  simp at this; omega
theorem u32L_eq {n m : Int} (h1 : u32L n ≠ []) (h2 : u32L m ≠ []) : u32L n = u32L m ↔ n = m := by
  unfold u32L at *
  split at h1
  · next h =>
    split at h2
    · next h' =>
      rw [if_pos h, if_pos h']
      constructor
      · intro e
        have := layL_inj (n := 4) (by omega) (by omega) e
        omega
      · rintro rfl; rfl
    · exact absurd rfl h2
  · exact absurd rfl h1
theorem intL_eq {n m : Int} (h1 : intL n ≠ []) (h2 : intL m ≠ []) : intL n = intL m ↔ n = m := by
  unfold intL at *
  split at h1
  · next h =>
    split at h2
    · next h' =>
      rw [if_pos h, if_pos h']
      constructor
      · intro e
        have := layL_inj (n := 8) (by omega) (by omega) e
        omega
      · rintro rfl; rfl
    · exact absurd rfl h2
  · exact absurd rfl h1

end Go.Proofs.YtidmbibpoldgcaaGreatDoor

namespace Go.Proofs.YtidmbibpoldgcaaGreatDoor
open Go.RowKit
set_option linter.unusedVariables false

def gSectors (gs : List (Int × Int)) (secs g : Int) : Int := if gHas gs secs g then (if (grAt gs g).1 == 1 then (secs - 16) * (grAt gs g).2 else secs - 16) else 0
def gSum (gs : List (Int × Int)) : Int := (gs.map (·.2)).sum
def gDevs (gs : List (Int × Int)) (secs : Int) : Int := if gRight gs secs then gSum gs else 0
def gFirst (gs : List (Int × Int)) (secs g : Int) : Int := if gHas gs secs g then gSum (gs.take g.toNat) else 0

theorem mul_bd {a b : Int} (h1 : 0 ≤ a) (h2 : a ≤ 4096) (h3 : 1 ≤ b) (h4 : b ≤ 8) : 0 ≤ a * b ∧ a * b ≤ 32768 := by
  have : b = 1 ∨ b = 2 ∨ b = 3 ∨ b = 4 ∨ b = 5 ∨ b = 6 ∨ b = 7 ∨ b = 8 := by omega
  rcases this with rfl | rfl | rfl | rfl | rfl | rfl | rfl | rfl <;> omega

theorem sectors_any (A : Option Addr) (n c : Nat) (gs : List (Int × Int)) (secs g : Int) (w : World) (hg : GeoAt w A n gs) :
    Calls Tryz.prog 84 #[.agg #[.slice A n c, .int .i64 secs], .int .i64 g] w fun e w' => e = .returned (.int .i64 (gSectors gs secs g)) ∧ Below w.heap.size w w' := by
  have hb0 : Below w.heap.size w (w.alloc (Obj.cells #[Value.slice A n c, Value.int IntKind.i64 secs] 24)) := (Below.refl _ _).alloc (Nat.le_refl _) _
  have H := Lib.hid (has_any A n c gs secs g (w.alloc (Obj.cells #[Value.slice A n c, Value.int IntKind.i64 secs] 24)) (hg.below hb0 (Nat.le_refl _)))
  by_cases hh : gHas gs secs g = true
  · obtain ⟨k, x, rfl, hk, hl4, hs1, hs2, hx, hgx, ho⟩ := gHas_true hh
    have ho' := gOne_true ho
    obtain ⟨b, off, rfl, hgs⟩ := hg.2.2 (by have := hg.1; omega)
    have hl := hg.1
    have hkn : (k : Int) < n := by omega
    have HX := Lib.hid hx
    have HH := Lib.hid hh
    have ht : Hid (gSectors gs secs k = if x.1 == 1 then (secs - 16) * x.2 else secs - 16) := by unfold Hid gSectors; rw [hh, hgx]; rfl
    clear hx hgx hh hl hg
    obtain ⟨kd, wd⟩ := x
    have hm := mul_bd (a := secs - 16) (b := wd) (by omega) (by omega)
    rcases ho' with ⟨e, hw1, hw2⟩ | ⟨e, hw1, hw2⟩
    all_goals
      simp only at e hw1 hw2
      subst e
      have hm1 := (hm (by omega) hw2).1
      have hm2 := (hm (by omega) hw2).2
      clear hm
      go_enter Tryz.func84, Tryz.ntmps84
      go_wp2_with fail
      refine H.out.mono ?_
      rintro e w1 ⟨rfl, hb1⟩
      have hb2 := hb0.trans (hb1.mono (by simp))
      obtain ⟨hc1, hc2⟩ := (hgs.below hb2 (Nat.le_refl _)).2 k _ HX.out
      obtain ⟨hc, hf⟩ := bcell hb1
      have hh := HH.out
      have hsz := hb1.size
      simp at hsz
      go_wp2
      go_ret
      refine ⟨ret_int ?_, hb2.alloc (by omega) _⟩
      rw [ht.out]
      simp
  · have hh' : gHas gs secs g = false := by simpa using hh
    have ht : Hid (gSectors gs secs g = 0) := by unfold Hid gSectors; rw [hh']; rfl
    clear hg hh
    have HH := Lib.hid hh'
    clear hh'
    go_enter Tryz.func84, Tryz.ntmps84
    go_wp2_with fail
    refine H.out.mono ?_
    rintro e w1 ⟨rfl, hb1⟩
    have hb2 := hb0.trans (hb1.mono (by simp))
    obtain ⟨hc, hf⟩ := bcell hb1
    have hh := HH.out
    go_wp2
    go_ret
    exact ⟨ret_int ht.out.symm, hb2⟩

theorem gSum_take {gs : List (Int × Int)} {k : Nat} {x : Int × Int} (hx : gs[k]? = some x) : gSum (gs.take (k + 1)) = gSum (gs.take k) + x.2 := by
  obtain ⟨hk, e⟩ := List.getElem?_eq_some_iff.1 hx
  rw [List.take_succ_eq_append_getElem hk, e]
  simp [gSum, List.sum_append]
theorem gSum_bd {gs : List (Int × Int)} (h : ∀ x ∈ gs, 0 ≤ x.2 ∧ x.2 ≤ 8) : 0 ≤ gSum gs ∧ gSum gs ≤ 8 * gs.length := by
  induction gs with
  | nil => simp [gSum]
  | cons x gs ih =>
    have h1 := h x (by simp)
    have h2 := ih fun y hy => h y (by simp [hy])
    simp only [gSum, List.map_cons, List.sum_cons, List.length_cons] at h2 ⊢
    omega
theorem gRight_parts {gs : List (Int × Int)} {secs : Int} (h : gRight gs secs = true) : 1 ≤ gs.length ∧ gs.length ≤ 4 ∧ 24 ≤ secs ∧ secs ≤ 4096 ∧ ∀ x ∈ gs, gOne x = true := by
  simp only [gRight, Bool.and_eq_true, decide_eq_true_eq, List.all_eq_true] at h
  exact ⟨h.1.1.1.1, h.1.1.1.2, h.1.1.2, h.1.2, h.2⟩

theorem sum_take_bd {gs : List (Int × Int)} {secs : Int} (h : gRight gs secs = true) (k : Nat) : 0 ≤ gSum (gs.take k) ∧ gSum (gs.take k) ≤ 32 := by
  obtain ⟨_, h2, _, _, h5⟩ := gRight_parts h
  have := gSum_bd (gs := gs.take k) fun x hx => by have := gOne_true (h5 x (List.mem_of_mem_take hx)); omega
  have hl := List.length_take_le k gs
  have hl2 : (gs.take k).length ≤ gs.length := by rw [List.length_take]; omega
  omega

theorem devs_any (A : Option Addr) (n c : Nat) (gs : List (Int × Int)) (secs : Int) (w : World) (hg : GeoAt w A n gs) :
    Calls Tryz.prog 17 #[.agg #[.slice A n c, .int .i64 secs]] w fun e w' => e = .returned (.int .i64 (gDevs gs secs)) ∧ Below w.heap.size w w' := by
  have hb0 : Below w.heap.size w (w.alloc (Obj.cells #[Value.slice A n c, Value.int IntKind.i64 secs] 24)) := (Below.refl _ _).alloc (Nat.le_refl _) _
  have H := Lib.hid (right_any A n c gs secs (w.alloc (Obj.cells #[Value.slice A n c, Value.int IntKind.i64 secs] 24)) (hg.below hb0 (Nat.le_refl _)))
  by_cases hh : gRight gs secs = true
  · obtain ⟨hl1, hl4, hs1, hs2, hone⟩ := gRight_parts hh
    obtain ⟨b, off, rfl, hgs⟩ := hg.2.2 (by have := hg.1; omega)
    have hl := Lib.hid hg.1
    have hn2 := hg.2.1
    have ht : Hid (gDevs gs secs = gSum gs) := by unfold Hid gDevs; rw [hh]; rfl
    have HH := Lib.hid hh
    have HB := Lib.hid (sum_take_bd hh)
    clear hh hg
    go_enter Tryz.func17, Tryz.ntmps17
    go_wp2_with fail
    refine H.out.mono ?_
    rintro e w1 ⟨rfl, hb1⟩
    have hb2 := hb0.trans (hb1.mono (by simp))
    obtain ⟨hc, hf⟩ := bcell hb1
    have hh := HH.out
    go_wp2
    go_loopw [3, 12] (fun s t wr => ∃ k : Nat, k ≤ n ∧ t = .int .i64 k ∧ s = .int .i64 (gSum (gs.take k)) ∧ Below w.heap.size w wr) (fun _ t _ => n - (RowKit.intOf t).toNat)
    case atStart => exact ⟨0, Nat.zero_le _, rfl, rfl, hb2⟩
    case round =>
      obtain ⟨k, hk, rfl, rfl, hb⟩ := hrel
      clear hc hf
      by_cases hlt : k < n
      · obtain ⟨x, hx⟩ : ∃ x, gs[k]? = some x := ⟨_, List.getElem?_eq_getElem (by have := hl.out; omega)⟩
        obtain ⟨hc1, hc2⟩ := (hgs.below hb (Nat.le_refl _)).2 k x hx
        have hs := Lib.hid (gSum_take hx)
        have hB1 := HB.out k
        have hB2 := HB.out (k + 1)
        rw [hs.out] at hB2
        clear hx
        go_wp2
        go_roundw
        case rel => exact ⟨k + 1, by omega, by go_num, by rw [hs.out], hb.alloc hb.size _⟩
        case measure => simp [RowKit.intOf]; omega
      · go_wp2
        go_ret
        exact ⟨ret_int (by rw [ht.out, List.take_of_length_le (by have := hl.out; omega)]), hb⟩
  · have hh' : gRight gs secs = false := by simpa using hh
    have ht : Hid (gDevs gs secs = 0) := by unfold Hid gDevs; rw [hh']; rfl
    clear hg hh
    have HH := Lib.hid hh'
    clear hh'
    go_enter Tryz.func17, Tryz.ntmps17
    go_wp2_with fail
    refine H.out.mono ?_
    rintro e w1 ⟨rfl, hb1⟩
    have hb2 := hb0.trans (hb1.mono (by simp))
    obtain ⟨hc, hf⟩ := bcell hb1
    have hh := HH.out
    go_wp2
    go_ret
    exact ⟨ret_int ht.out.symm, hb2⟩

theorem first_any (A : Option Addr) (n c : Nat) (gs : List (Int × Int)) (secs g : Int) (w : World) (hg : GeoAt w A n gs) :
    Calls Tryz.prog 69 #[.agg #[.slice A n c, .int .i64 secs], .int .i64 g] w fun e w' => e = .returned (.int .i64 (gFirst gs secs g)) ∧ Below w.heap.size w w' := by
  have hb0 : Below w.heap.size w (w.alloc (Obj.cells #[Value.slice A n c, Value.int IntKind.i64 secs] 24)) := (Below.refl _ _).alloc (Nat.le_refl _) _
  have H := Lib.hid (has_any A n c gs secs g (w.alloc (Obj.cells #[Value.slice A n c, Value.int IntKind.i64 secs] 24)) (hg.below hb0 (Nat.le_refl _)))
  by_cases hh : gHas gs secs g = true
  · obtain ⟨kg, x, rfl, hk, hl4, hs1, hs2, hx, hgx, ho⟩ := gHas_true hh
    obtain ⟨b, off, rfl, hgs⟩ := hg.2.2 (by have := hg.1; omega)
    have hl := Lib.hid hg.1
    have hkn : kg < n := by have := hl.out; omega
    have hn2 := hg.2.1
    have hr : gRight gs secs = true := by simp only [gHas, Bool.and_eq_true] at hh; exact hh.1.1
    have ht : Hid (gFirst gs secs kg = gSum (gs.take kg)) := by unfold Hid gFirst; rw [hh]; simp
    have HH := Lib.hid hh
    have HB := Lib.hid (sum_take_bd hr)
    clear hh hg hr hx hgx ho
    go_enter Tryz.func69, Tryz.ntmps69
    go_wp2_with fail
    refine H.out.mono ?_
    rintro e w1 ⟨rfl, hb1⟩
    have hb2 := hb0.trans (hb1.mono (by simp))
    obtain ⟨hc, hf⟩ := bcell hb1
    have hcA : w1.cell? ⟨w.heap.size, 0, none⟩ = some (.slice (some ⟨b, off, none⟩) n c) := by rw [hc _ _ (by simp)]; simp
    have hsz : w.heap.size < w1.heap.size := by have := hb1.size; simp at this; omega
    have hh := HH.out
    go_wp2
    go_loopw [5, 12] (fun s t wr => ∃ k : Nat, k ≤ kg ∧ t = .int .i64 k ∧ s = .int .i64 (gSum (gs.take k)) ∧ Below w1.heap.size w1 wr) (fun _ t _ => kg - (RowKit.intOf t).toNat)
    case atStart => exact ⟨0, Nat.zero_le _, rfl, rfl, Below.refl _ _⟩
    case round =>
      obtain ⟨k, hk, rfl, rfl, hb⟩ := hrel
      clear hc hf
      by_cases hlt : k < kg
      · obtain ⟨x, hx⟩ : ∃ x, gs[k]? = some x := ⟨_, List.getElem?_eq_getElem (by have := hl.out; omega)⟩
        obtain ⟨hc1, hc2⟩ := (hgs.below (hb2.trans (hb.mono (by omega))) (Nat.le_refl _)).2 k x hx
        have hcB := (hb.cell (p := ⟨w.heap.size, 0, none⟩) hsz).trans hcA
        have hs := Lib.hid (gSum_take hx)
        have hB1 := HB.out k
        have hB2 := HB.out (k + 1)
        rw [hs.out] at hB2
        clear hx
        go_wp2
        go_roundw
        case rel => exact ⟨k + 1, by omega, by go_num, by rw [hs.out], hb⟩
        case measure => simp [RowKit.intOf]; omega
      · go_wp2
        go_ret
        obtain rfl : k = kg := by omega
        exact ⟨ret_int ht.out.symm, hb2.trans (hb.mono (by omega))⟩
  · have hh' : gHas gs secs g = false := by simpa using hh
    have ht : Hid (gFirst gs secs g = 0) := by unfold Hid gFirst; rw [hh']; rfl
    clear hg hh
    have HH := Lib.hid hh'
    clear hh'
    go_enter Tryz.func69, Tryz.ntmps69
    go_wp2_with fail
    refine H.out.mono ?_
    rintro e w1 ⟨rfl, hb1⟩
    have hb2 := hb0.trans (hb1.mono (by simp))
    obtain ⟨hc, hf⟩ := bcell hb1
    have hh := HH.out
    go_wp2
    go_ret
    exact ⟨ret_int ht.out.symm, hb2⟩
end Go.Proofs.YtidmbibpoldgcaaGreatDoor

namespace Go.Proofs.YtidmbibpoldgcaaGreatDoor
open Go.RowKit
set_option linter.unusedVariables false

def cMay (gs : List (Int × Int)) (secs pg pa size : Int) : Bool := decide (0 < gTakes gs secs pg size) && (decide (0 ≤ pa) && decide (pa ≤ gSectors gs secs pg - gTakes gs secs pg size))

theorem gTakes_bd (gs : List (Int × Int)) (secs g size : Int) : 0 ≤ gTakes gs secs g size ∧ gTakes gs secs g size ≤ 8 := by
  unfold gTakes
  split
  · next h =>
    simp only [Bool.and_eq_true, decide_eq_true_eq] at h
    obtain ⟨⟨h1, h2⟩, h3⟩ := h
    obtain ⟨k, x, rfl, _, _, _, _, _, hgx, ho⟩ := gHas_true h1
    rw [hgx]
    obtain ⟨kd, wd⟩ := x
    unfold gTake1
    rcases gOne_true ho with ⟨e, hw1, hw2⟩ | ⟨e, hw1, hw2⟩
    · simp only at e; subst e; simp; omega
    · simp only at e hw1 hw2; subst e
      have := par_rows h2 h3 hw1 hw2
      simp; omega
  · omega
theorem gSectors_bd (gs : List (Int × Int)) (secs g : Int) : 0 ≤ gSectors gs secs g ∧ gSectors gs secs g ≤ 32768 := by
  unfold gSectors
  split
  · next h =>
    obtain ⟨k, x, rfl, _, _, _, _, _, hgx, ho⟩ := gHas_true h
    rw [hgx]
    obtain ⟨kd, wd⟩ := x
    rcases gOne_true ho with ⟨e, hw1, hw2⟩ | ⟨e, hw1, hw2⟩
    · simp only at e; subst e; simp; omega
    · simp only at e hw1 hw2; subst e
      have := mul_bd (a := secs - 16) (b := wd) (by omega) (by omega) (by omega) hw2
      simpa using this
  · omega

theorem may_any (A : Option Addr) (n c : Nat) (gs : List (Int × Int)) (secs pg pa size : Int) (w : World) (hg : GeoAt w A n gs) :
    Calls Tryz.prog 68 #[.agg #[.slice A n c, .int .i64 secs], .agg #[.int .i64 pg, .int .i64 pa], .int .i64 size] w fun e w' => e = .returned (.bool (cMay gs secs pg pa size)) ∧ Below w.heap.size w w' := by
  have hb0 : Below w.heap.size w ((w.alloc (Obj.cells #[Value.slice A n c, Value.int IntKind.i64 secs] 24)).alloc (Obj.cells #[Value.int IntKind.i64 pg, Value.int IntKind.i64 pa] 26)) :=
    ((Below.refl _ _).alloc (Nat.le_refl _) _).alloc (by simp) _
  have H := Lib.hid (takes_any A n c gs secs pg size _ (hg.below hb0 (Nat.le_refl _)))
  have H2 : Hid (∀ w1, Below w.heap.size w w1 → Calls Tryz.prog 84 #[.agg #[.slice A n c, .int .i64 secs], .int .i64 pg] w1 fun e w' => e = .returned (.int .i64 (gSectors gs secs pg)) ∧ Below w1.heap.size w1 w') :=
    Lib.hid fun w1 hb => sectors_any A n c gs secs pg w1 (hg.below hb (Nat.le_refl _))
  obtain ⟨ht1, ht2⟩ := gTakes_bd gs secs pg size
  obtain ⟨hs1, hs2⟩ := gSectors_bd gs secs pg
  clear hg
  have he : Hid (cMay gs secs pg pa size = (decide (0 < gTakes gs secs pg size) && (decide (0 ≤ pa) && decide (pa ≤ gSectors gs secs pg - gTakes gs secs pg size)))) := Lib.hid rfl
  generalize gTakes gs secs pg size = T at *
  generalize gSectors gs secs pg = S at *
  by_cases hpos : 0 < T ∧ 0 ≤ pa
  · obtain ⟨hp1, hp2⟩ := hpos
    go_enter Tryz.func68, Tryz.ntmps68
    go_wp2_with fail
    refine H.out.mono ?_
    rintro e w1 ⟨rfl, hb1⟩
    have hb2 := hb0.trans (hb1.mono (by simp; omega))
    obtain ⟨hc, hf⟩ := bcell hb1
    have k1 : w1.cell? ⟨w.heap.size, 0, none⟩ = some (.slice A n c) := by rw [hc _ _ (by simp; omega)]; simp
    have k2 : w1.cell? ⟨w.heap.size, 1, none⟩ = some (.int .i64 secs) := by rw [hc _ _ (by simp; omega)]; simp
    have k3 : w1.cell? ⟨w.heap.size + 1, 0, none⟩ = some (.int .i64 pg) := by rw [hc _ _ (by simp)]; simp
    have k4 : w1.cell? ⟨w.heap.size + 1, 1, none⟩ = some (.int .i64 pa) := by rw [hc _ _ (by simp)]; simp
    have hsz : w.heap.size + 2 ≤ w1.heap.size := by have := hb1.size; simp at this; omega
    clear hc hf hb1 hb0 H
    go_wp2_with fail
    go_region_held3 (fun W => W.cell? ⟨w.heap.size, 0, none⟩ = some (.slice A n c) ∧ W.cell? ⟨w.heap.size, 1, none⟩ = some (.int .i64 secs) ∧ W.cell? ⟨w.heap.size + 1, 0, none⟩ = some (.int .i64 pg) ∧
        W.cell? ⟨w.heap.size + 1, 1, none⟩ = some (.int .i64 pa) ∧ w.heap.size + 2 ≤ W.heap.size ∧ Below w.heap.size w W)
      (refine ⟨?_, ?_, ?_, ?_, ?_, ?_⟩ <;> first | assumption | exact hb2.drew | omega | exact keep_cell (by assumption) (by assumption) (by omega) | exact keep_below (by assumption) (by assumption) | exact keep_size (by assumption) (by assumption) | go_keep)
      (first | (go_at_call 84; obtain ⟨s1, s2, s3, s4, s5, s6⟩ := ‹_ ∧ _ ∧ _ ∧ _ ∧ _ ∧ Below w.heap.size w _›; refine (H2.out _ s6).mono ?_; rintro e w2 ⟨rfl, hb3⟩))
    go_wp2
    go_ret
    obtain ⟨_, _, _, _, _, h6⟩ := ‹_ ∧ _ ∧ _ ∧ _ ∧ _ ∧ Below w.heap.size w w2›
    have hw : IntKind.i64.wrap (S - T) = S - T := by rw [IntKind.wrap_i64]; omega
    refine ⟨ret_bool ?_, h6⟩
    rw [hw, he.out, decide_eq_true hp1, decide_eq_true hp2]
    rfl
  · have he2 : Hid (cMay gs secs pg pa size = false) := by
      unfold Hid; rw [he.out]
      by_cases h : 0 < T
      · have : ¬ 0 ≤ pa := by omega
        simp [this]
      · simp [h]
    clear he H2
    by_cases h : 0 < T
    · have hd : decide (0 ≤ pa) = false := by simp; omega
      have hd' : pa < 0 := by omega
      clear hpos
      go_enter Tryz.func68, Tryz.ntmps68
      go_wp2_with fail
      refine H.out.mono ?_
      rintro e w1 ⟨rfl, hb1⟩
      have hb2 := hb0.trans (hb1.mono (by simp; omega))
      obtain ⟨hc, hf⟩ := bcell hb1
      have k4 : w1.cell? ⟨w.heap.size + 1, 1, none⟩ = some (.int .i64 pa) := by rw [hc _ _ (by simp)]; simp
      clear hc hf
      go_wp2_with fail
      go_quiet (fail)
      go_wp2
      go_ret
      exact ⟨ret_bool he2.out.symm, below_drewN hb2 _⟩
    · have hd : decide (0 < T) = false := by simp; omega
      have hd' : T ≤ 0 := by omega
      clear hpos
      go_enter Tryz.func68, Tryz.ntmps68
      go_wp2_with fail
      refine H.out.mono ?_
      rintro e w1 ⟨rfl, hb1⟩
      have hb2 := hb0.trans (hb1.mono (by simp; omega))
      go_wp2_with fail
      go_quiet (fail)
      go_wp2
      go_ret
      exact ⟨ret_bool he2.out.symm, below_drewN hb2 _⟩
end Go.Proofs.YtidmbibpoldgcaaGreatDoor

namespace Go.Proofs.YtidmbibpoldgcaaGreatDoor
open Go.RowKit
set_option linter.unusedVariables false

/-- A column: device, sector, parity, row. -/
abbrev Col := Int × Int × Bool × Int
def colCells (c : Col) : List Value := [.int .i64 c.1, .int .i64 c.2.1, .bool c.2.2.1, .int .i64 c.2.2.2]
def colsCells (l : List Col) : List Value := l.flatMap colCells
theorem colsCells_snoc (l : List Col) (c : Col) : colsCells (l ++ [c]) = colsCells l ++ colCells c := by simp [colsCells, List.flatMap_append]
theorem colsCells_len (l : List Col) : (colsCells l).length = l.length * 4 := by
  induction l with
  | nil => rfl
  | cons c l ih =>
    have : colsCells (c :: l) = colCells c ++ colsCells l := rfl
    rw [this, List.length_append, ih, List.length_cons]
    simp [colCells]; omega

def mcol (first at_ : Int) (d i : Nat) : Col := (first + d, 16 + at_ + i, false, i)
def mirTo (first at_ : Int) (size d i : Nat) : List Col := (List.range d).flatMap (fun d => (List.range size).map (mcol first at_ d)) ++ (List.range i).map (mcol first at_ d)
def mirror (first at_ : Int) (wide size : Nat) : List Col := mirTo first at_ size wide 0
theorem mirTo_zero (first at_ : Int) (size : Nat) : mirTo first at_ size 0 0 = [] := rfl
theorem mirTo_step (first at_ : Int) (size d i : Nat) : mirTo first at_ size d (i + 1) = mirTo first at_ size d i ++ [mcol first at_ d i] := by
  simp [mirTo, List.range_succ]
theorem mirTo_row (first at_ : Int) (size d : Nat) : mirTo first at_ size (d + 1) 0 = mirTo first at_ size d size := by
  simp [mirTo, List.range_succ]
theorem mirTo_len (first at_ : Int) (size d i : Nat) : (mirTo first at_ size d i).length = d * size + i := by
  have : ∀ n : Nat, (List.map (fun _ : Nat => size) (List.range n)).sum = n * size := by
    intro n
    induction n with
    | zero => simp
    | succ n ih => rw [List.range_succ, List.map_append, List.sum_append, ih]; simp [Nat.add_mul]
  simp [mirTo, List.length_flatMap, this]

theorem Tryz.infoCol : (Tryz.prog.info? 153).map (fun i => (i.zero, i.size, i.bytes)) = some (some (.agg #[.int .i64 0, .int .i64 0, .bool false, .int .i64 0]), 4, 32) := by kernel_rfl

theorem col_new (w : World) (c : Col) (t : TypeId) : ∀ j u, (colCells c)[j]? = some u → (w.alloc (.cells #[.int .i64 c.1, .int .i64 c.2.1, .bool c.2.2.1, .int .i64 c.2.2.2] t)).cell? ((⟨w.heap.size, 0, none⟩ : Addr).add j) = some u := by
  intro j u hu
  match j, hu with
  | 0, hu => simp [colCells] at hu; subst hu; simp [Addr.add]
  | 1, hu => simp [colCells] at hu; subst hu; simp [Addr.add]
  | 2, hu => simp [colCells] at hu; subst hu; simp [Addr.add]
  | 3, hu => simp [colCells] at hu; subst hu; simp [Addr.add]
  | j + 4, hu => simp [colCells] at hu
theorem col_one (c : Col) : ∀ u ∈ colCells c, u.oneCell' = true := by
  intro u hu
  simp [colCells] at hu
  rcases hu with rfl | rfl | rfl | rfl <;> rfl

theorem mirror_any (first at_ : Int) (wide size : Nat) (w : World) (h1 : 0 ≤ first) (h2 : first ≤ 100) (h3 : 0 ≤ at_) (h4 : at_ ≤ 100000) (hw : wide ≤ 8) (hs : size ≤ 4) :
    Calls Tryz.prog 70 #[.int .i64 first, .int .i64 wide, .int .i64 at_, .int .i64 size] w fun e w' => ∃ v, e = .returned v ∧
      w'.ownsRow w.heap.size 153 4 v (mirror first at_ wide size).length (colsCells (mirror first at_ wide size)) ∧ Below w.heap.size w w' := by
  obtain ⟨i0, hi, hz0, hz1, hz2⟩ := info_parts Tryz.infoCol
  go_enter Tryz.func70, Tryz.ntmps70
  go_wp2
  go_loopw [9, 13] (fun v t wr => ∃ d : Nat, d ≤ wide ∧ t = .int .i64 d ∧ wr.ownsRow w.heap.size 153 4 v (mirTo first at_ size d 0).length (colsCells (mirTo first at_ size d 0)) ∧ Below w.heap.size w wr)
    (fun _ t _ => wide - (RowKit.intOf t).toNat)
  case atStart => exact ⟨0, Nat.zero_le _, rfl, World.ownsRow_nil _ _ _ _, Below.refl _ _⟩
  case round =>
    obtain ⟨d, hd, rfl, hown, hb⟩ := hrel
    obtain ⟨wo, rfl⟩ : ∃ wo : World, wo = wr := ⟨_, rfl⟩
    by_cases hlt : d < wide
    · go_wp2
      go_loopw [9, 17] (fun v t wr => ∃ i : Nat, i ≤ size ∧ t = .int .i64 i ∧ wr.ownsRow w.heap.size 153 4 v (mirTo first at_ size d i).length (colsCells (mirTo first at_ size d i)) ∧ Below w.heap.size w wr)
        (fun _ t _ => size - (RowKit.intOf t).toNat)
      case atStart => exact ⟨0, Nat.zero_le _, rfl, hown, hb⟩
      case round =>
        obtain ⟨i, hi', rfl, hown1, hb1⟩ := hrel
        clear hown hb
        by_cases hlt2 : i < size
        · have hlen := Lib.hid (mirTo_len first at_ size d i)
          have hlb : (mirTo first at_ size d i).length ≤ 64 := by
            rw [hlen.out]
            have : d * size ≤ 8 * 4 := Nat.mul_le_mul (by omega) (by omega)
            omega
          go_wp2_with (at_builtin; refine wpList_append_own _ rfl _ _ 115 rfl w.heap.size 153 i0 _ 4 32 Tryz.underlying115 hi hz0 hz1 hz2 rfl (by decide) _ _ _ rfl (hown1.alloc _) ⟨wr.heap.size, 0, none⟩ 1 1 (colCells (mcol first at_ d i)) rfl rfl ?c1 (col_one _) (by unfold maxLen; omega) (by omega) ?c5 ?_)
          case c1 => exact col_new _ _ _
          case c5 => have := hb1.size; simp; omega
          intro v' w1 hown' hgrow _
          rw [← colsCells_snoc, ← mirTo_step, show (mirTo first at_ size d i).length + 1 = (mirTo first at_ size d (i + 1)).length from by rw [mirTo_len, mirTo_len]; omega] at hown'
          have hb2 : Below w.heap.size w w1 := (hb1.alloc hb1.size _).grown hgrow (by have := hb1.size; simp; omega) (fun k hk => (hown1.lt k hk).1)
          clear hown1 hgrow
          go_wp2
          go_roundw
          case rel => exact ⟨i + 1, by omega, by go_num, hown', hb2⟩
          case measure => simp [RowKit.intOf]; omega
        · obtain rfl : i = size := by omega
          rw [← mirTo_row] at hown1
          go_wp2
          go_roundw
          case rel => exact ⟨d + 1, by omega, by go_num, hown1, hb1⟩
          case measure => simp [RowKit.intOf]; omega
    · obtain rfl : d = wide := by omega
      go_wp2
      go_ret
      exact ⟨_, rfl, hown, hb⟩
end Go.Proofs.YtidmbibpoldgcaaGreatDoor
