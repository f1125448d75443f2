/-
  Contracts of package ptr: None, Bytes.
-/
import Derived.Test.YtidmbibpoldgcaaPtrEq
namespace Go.Proofs.Ytidmbibpoldgcaa
open Go.RowKit
set_option linter.unusedVariables false

def ptrZ : PtrD := ⟨0, 0, 0, 0, false, 0, 0, 0, 0, 0, 0, 0⟩
/-- All of it is zero. -/
def noneB (p : PtrD) : Bool := ptrEq p ptrZ
/-- Whether a pointer can be laid; its bytes. -/
def layOk (p : PtrD) : Bool := withinL 4294967295 [p.ag, p.aa, p.bg, p.ba, p.birth] && withinL 255 [p.size, p.level]
def ptrOne (p : PtrD) : Int := p.size + p.level * 256 + if p.two then 65536 else 0
def ptrL (p : PtrD) : List UInt8 := padL (smallL [p.ag, p.aa, p.bg, p.ba, ptrOne p, p.birth] ++ sumL [p.s0, p.s1, p.s2, p.s3]) 64

set_option maxRecDepth 100000 in
set_option maxHeartbeats 8000000 in
theorem pbytes_any (p : PtrD) (w : World) (hok : p.Ok) :
    Calls Try.prog 25 #[.agg p.cells] w fun e w' => e = .returned (.tuple #[str (if layOk p then ptrL p else []), .int .i64 (if layOk p then 0 else 1)]) ∧ Below w.heap.size w w' := by
  have h := PtrAt.new w p 28
  obtain ⟨h0, h1, h2, h3, h4, h5, h6, h7, h8, h9, ha, hc⟩ := h
  simp only [Nat.zero_add] at h1 h2 h3 h4 h5 h6 h7 h8 h9 ha hc
  have hb := (Below.refl w.heap.size w).alloc (Nat.le_refl _) (.cells p.cells 28)
  have hs : w.heap.size < (w.alloc (.cells p.cells 28)).heap.size := by simp
  have HL : Hid (layOk p = (withinL 4294967295 [p.ag, p.aa, p.bg, p.ba, p.birth] && withinL 255 [p.size, p.level])) := Lib.hid rfl
  obtain ⟨g0, g1, g2, g3, g4, g5, g6, g7, g8, g9⟩ := hok
  have HI1 : Hid (IntsAt ((w.alloc (.cells p.cells 28)).alloc (.cells #[.int .i64 p.ag, .int .i64 p.aa, .int .i64 p.bg, .int .i64 p.ba, .int .i64 p.birth] 3)) (w.heap.size + 1) 0 [p.ag, p.aa, p.bg, p.ba, p.birth]) := by
    have := IntsAt.new (w.alloc (.cells p.cells 28)) [p.ag, p.aa, p.bg, p.ba, p.birth] 3
    rw [World.size_alloc] at this
    exact this
  have hb1 := hb.alloc hb.size (.cells #[.int .i64 p.ag, .int .i64 p.aa, .int .i64 p.bg, .int .i64 p.ba, .int .i64 p.birth] 3)
  have HP : Hid (PtrAt ((w.alloc (.cells p.cells 28)).alloc (.cells #[.int .i64 p.ag, .int .i64 p.aa, .int .i64 p.bg, .int .i64 p.ba, .int .i64 p.birth] 3)) w.heap.size 0 p) :=
    Lib.hid ((PtrAt.new w p 28).keep ((Below.refl _ _).alloc (Nat.le_refl _) _) hs)
  cases hc1 : withinL 4294967295 [p.ag, p.aa, p.bg, p.ba, p.birth] with
  | true =>
    have HC1 := Lib.hid hc1
    clear hc1
    go_enter Try.func25, Try.ntmps25
    go_wp2_with fail
    refine (within_any 4294967295 (w.heap.size + 1) 5 5 [p.ag, p.aa, p.bg, p.ba, p.birth] _ rfl (by omega) HI1.out).mono ?_
    rintro e w2 ⟨rfl, k, rfl⟩
    rw [HC1.out]
    have hP2 : PtrAt (((w.alloc (.cells p.cells 28)).alloc (.cells #[.int .i64 p.ag, .int .i64 p.aa, .int .i64 p.bg, .int .i64 p.ba, .int .i64 p.birth] 3)).drewN k) w.heap.size 0 p := HP.out
    have hb2 := below_drewN hb1 k
    have hs2 : w.heap.size < (((w.alloc (.cells p.cells 28)).alloc (.cells #[.int .i64 p.ag, .int .i64 p.aa, .int .i64 p.bg, .int .i64 p.ba, .int .i64 p.birth] 3)).drewN k).heap.size := by simp; omega
    clear h0 h1 h2 h3 h4 h5 h6 h7 h8 h9 ha hc hb hs hb1 HI1 HP
    generalize (((w.alloc (.cells p.cells 28)).alloc (.cells #[.int .i64 p.ag, .int .i64 p.aa, .int .i64 p.bg, .int .i64 p.ba, .int .i64 p.birth] 3)).drewN k) = w2 at *
    have HP2 := Lib.hid hP2
    obtain ⟨h0, h1, h2, h3, h4, h5, h6, h7, h8, h9, ha, hc⟩ := hP2
    simp only [Nat.zero_add] at h1 h2 h3 h4 h5 h6 h7 h8 h9 ha hc
    have HI2 : Hid (IntsAt (w2.alloc (.cells #[.int .i64 p.size, .int .i64 p.level] 3)) w2.heap.size 0 [p.size, p.level]) := Lib.hid (IntsAt.new w2 [p.size, p.level] 3)
    have hb3 := hb2.alloc hb2.size (.cells #[.int .i64 p.size, .int .i64 p.level] 3)
    have HP3 := Lib.hid (HP2.out.keep ((Below.refl _ _).alloc (Nat.le_refl _) (.cells #[.int .i64 p.size, .int .i64 p.level] 3)) hs2)
    cases hc2 : withinL 255 [p.size, p.level] with
    | true =>
      have HLT : Hid (layOk p = true) := by unfold Hid; rw [HL.out, HC1.out, hc2]; rfl
      have HC2 := Lib.hid hc2
      clear hc2 HL
      go_wp2_with fail
      refine (within_any 255 w2.heap.size 2 2 [p.size, p.level] _ rfl (by omega) HI2.out).mono ?_
      rintro e w3 ⟨rfl, k3, rfl⟩
      rw [HC2.out]
      have hP3 : PtrAt ((w2.alloc (.cells #[.int .i64 p.size, .int .i64 p.level] 3)).drewN k3) w.heap.size 0 p := HP3.out
      have hb4 := below_drewN hb3 k3
      have hs4 : w.heap.size < ((w2.alloc (.cells #[.int .i64 p.size, .int .i64 p.level] 3)).drewN k3).heap.size := by simp; omega
      clear h0 h1 h2 h3 h4 h5 h6 h7 h8 h9 ha hc hb2 hb3 HI2 HP2 HP3
      obtain ⟨w4, hw4⟩ : ∃ x, x = ((w2.alloc (.cells #[.int .i64 p.size, .int .i64 p.level] 3)).drewN k3) := ⟨_, rfl⟩
      rw [← hw4] at hP3 hb4 hs4 ⊢
      clear hw4
      have HP4 := Lib.hid hP3
      obtain ⟨h0, h1, h2, h3, h4, h5, h6, h7, h8, h9, ha, hc⟩ := hP3
      simp only [Nat.zero_add] at h1 h2 h3 h4 h5 h6 h7 h8 h9 ha hc
      have hsz : 0 ≤ p.size ∧ p.size ≤ 255 ∧ 0 ≤ p.level ∧ p.level ≤ 255 := by
        have := HC2.out
        simp [withinL] at this
        omega
      obtain ⟨q1, q2, q3, q4⟩ := hsz
      have HO : Hid (ptrOne p = p.size + p.level * 256 + if p.two then 65536 else 0) := Lib.hid rfl
      cases htwo : p.two with
      | true =>
        rw [htwo] at h4 HO
        have HO2 : Hid (ptrOne p = p.size + p.level * 256 + 65536) := by unfold Hid; rw [HO.out]; simp
        have HIS : IntsAt (w4.alloc (.cells #[.int .i64 p.ag, .int .i64 p.aa, .int .i64 p.bg, .int .i64 p.ba, .int .i64 (p.size + p.level * 256 + 65536), .int .i64 p.birth] 3)).drew w4.heap.size 0 [p.ag, p.aa, p.bg, p.ba, p.size + p.level * 256 + 65536, p.birth] := IntsAt.new w4 [p.ag, p.aa, p.bg, p.ba, p.size + p.level * 256 + 65536, p.birth] 3
        have HSM := Lib.hid (small_any w4.heap.size 6 6 [p.ag, p.aa, p.bg, p.ba, p.size + p.level * 256 + 65536, p.birth] _ rfl (by omega) HIS)
        have HFB := Lib.hid fun W => fbytes_any p.s0 p.s1 p.s2 p.s3 W g0 g1 g2 g3
        have hsa : (smallL [p.ag, p.aa, p.bg, p.ba, p.size + p.level * 256 + 65536, p.birth]).length ≤ 24 := smallL_len [p.ag, p.aa, p.bg, p.ba, p.size + p.level * 256 + 65536, p.birth]
        have hsb : (sumL [p.s0, p.s1, p.s2, p.s3]).length ≤ 32 := Nat.le_of_eq (sumL_len [p.s0, p.s1, p.s2, p.s3])
        have HPL : Hid (ptrL p = padL (smallL [p.ag, p.aa, p.bg, p.ba, p.size + p.level * 256 + 65536, p.birth] ++ sumL [p.s0, p.s1, p.s2, p.s3]) 64) := by unfold Hid ptrL; rw [HO2.out]
        generalize smallL [p.ag, p.aa, p.bg, p.ba, p.size + p.level * 256 + 65536, p.birth] = sa at HSM hsa HPL
        generalize sumL [p.s0, p.s1, p.s2, p.s3] = sb at HFB hsb HPL
        have hcc : ¬ 9223372036854775807 < (ByteArray.mk sa.toArray).size + (ByteArray.mk sb.toArray).size := by simp [ByteArray.size]; omega
        have hcd : ¬ 9223372036854775807 < sa.length + sb.length := by omega
        have HPA := Lib.hid fun W => pad_any (sa ++ sb) 64 W (by rw [List.length_append]; omega)
        clear HIS HO2
        clear htwo HO g0 g1 g2 g3 g4 g5 g6 g7 g8 g9
        go_wp2_with fail
        go_region_held3 (fun W => W.cell? ⟨w.heap.size, 0, none⟩ = some (.int .i64 p.ag) ∧ W.cell? ⟨w.heap.size, 1, none⟩ = some (.int .i64 p.aa) ∧ W.cell? ⟨w.heap.size, 2, none⟩ = some (.int .i64 p.bg) ∧ W.cell? ⟨w.heap.size, 3, none⟩ = some (.int .i64 p.ba) ∧
            W.cell? ⟨w.heap.size, 7, none⟩ = some (.int .i64 p.birth) ∧ W.cell? ⟨w.heap.size, 8, none⟩ = some (.int .u64 p.s0) ∧ W.cell? ⟨w.heap.size, 9, none⟩ = some (.int .u64 p.s1) ∧ W.cell? ⟨w.heap.size, 10, none⟩ = some (.int .u64 p.s2) ∧ W.cell? ⟨w.heap.size, 11, none⟩ = some (.int .u64 p.s3) ∧ Below w4.heap.size w4 W)
          (first
            | exact ⟨h0, h1, h2, h3, h7, h8, h9, ha, hc, (Below.refl _ _).drew⟩
            | exact ‹_ ∧ _ ∧ _ ∧ _ ∧ _ ∧ _ ∧ _ ∧ _ ∧ _ ∧ Below w4.heap.size w4 _›
            | (obtain ⟨t0, t1, t2, t3, t4, t5, t6, t7, t8, t9⟩ := ‹_ ∧ _ ∧ _ ∧ _ ∧ _ ∧ _ ∧ _ ∧ _ ∧ _ ∧ Below w4.heap.size w4 _›; exact ⟨cell_alloc t0 _, cell_alloc t1 _, cell_alloc t2 _, cell_alloc t3 _, cell_alloc t4 _, cell_alloc t5 _, cell_alloc t6 _, cell_alloc t7 _, cell_alloc t8 _, t9.alloc t9.size _⟩)
            | (obtain ⟨t0, t1, t2, t3, t4, t5, t6, t7, t8, t9⟩ := ‹_ ∧ _ ∧ _ ∧ _ ∧ _ ∧ _ ∧ _ ∧ _ ∧ _ ∧ Below w4.heap.size w4 _›; have hq := Nat.lt_of_lt_of_le hs4 t9.size; exact ⟨keep_cell hbc t0 hq, keep_cell hbc t1 hq, keep_cell hbc t2 hq, keep_cell hbc t3 hq, keep_cell hbc t4 hq, keep_cell hbc t5 hq, keep_cell hbc t6 hq, keep_cell hbc t7 hq, keep_cell hbc t8 hq, t9.trans (hbc.mono t9.size)⟩))
          (first
            | (go_at_call 29; refine HSM.out.mono ?_; rintro e wc ⟨rfl, hbc⟩)
            | (go_at_call 30; refine (HFB.out _).mono ?_; rintro e wc ⟨rfl, hbc⟩)
            | (go_at_call 26; rw [ByteArray.mk_append_mk]; refine (HPA.out _).mono ?_; rintro e wc ⟨rfl, hbc⟩))
        obtain ⟨t0, t1, t2, t3, t4, t5, t6, t7, t8, t9⟩ := ‹_ ∧ _ ∧ _ ∧ _ ∧ _ ∧ _ ∧ _ ∧ _ ∧ _ ∧ Below w4.heap.size w4 _›
        have hl := HLT.out
        go_wp2_with fail
        go_ret2
        exact ⟨by rw [HPL.out]; rfl, hb4.trans (t9.mono hb4.size)⟩
      | false =>
        rw [htwo] at h4 HO
        have HO2 : Hid (ptrOne p = p.size + p.level * 256) := by unfold Hid; rw [HO.out]; simp
        have HIS : IntsAt (w4.alloc (.cells #[.int .i64 p.ag, .int .i64 p.aa, .int .i64 p.bg, .int .i64 p.ba, .int .i64 (p.size + p.level * 256), .int .i64 p.birth] 3)).drew w4.heap.size 0 [p.ag, p.aa, p.bg, p.ba, p.size + p.level * 256, p.birth] := IntsAt.new w4 [p.ag, p.aa, p.bg, p.ba, p.size + p.level * 256, p.birth] 3
        have HSM := Lib.hid (small_any w4.heap.size 6 6 [p.ag, p.aa, p.bg, p.ba, p.size + p.level * 256, p.birth] _ rfl (by omega) HIS)
        have HFB := Lib.hid fun W => fbytes_any p.s0 p.s1 p.s2 p.s3 W g0 g1 g2 g3
        have hsa : (smallL [p.ag, p.aa, p.bg, p.ba, p.size + p.level * 256, p.birth]).length ≤ 24 := smallL_len [p.ag, p.aa, p.bg, p.ba, p.size + p.level * 256, p.birth]
        have hsb : (sumL [p.s0, p.s1, p.s2, p.s3]).length ≤ 32 := Nat.le_of_eq (sumL_len [p.s0, p.s1, p.s2, p.s3])
        have HPL : Hid (ptrL p = padL (smallL [p.ag, p.aa, p.bg, p.ba, p.size + p.level * 256, p.birth] ++ sumL [p.s0, p.s1, p.s2, p.s3]) 64) := by unfold Hid ptrL; rw [HO2.out]
        generalize smallL [p.ag, p.aa, p.bg, p.ba, p.size + p.level * 256, p.birth] = sa at HSM hsa HPL
        generalize sumL [p.s0, p.s1, p.s2, p.s3] = sb at HFB hsb HPL
        have hcc : ¬ 9223372036854775807 < (ByteArray.mk sa.toArray).size + (ByteArray.mk sb.toArray).size := by simp [ByteArray.size]; omega
        have hcd : ¬ 9223372036854775807 < sa.length + sb.length := by omega
        have HPA := Lib.hid fun W => pad_any (sa ++ sb) 64 W (by rw [List.length_append]; omega)
        clear HIS HO2
        clear htwo HO g0 g1 g2 g3 g4 g5 g6 g7 g8 g9
        go_wp2_with fail
        go_region_held3 (fun W => W.cell? ⟨w.heap.size, 0, none⟩ = some (.int .i64 p.ag) ∧ W.cell? ⟨w.heap.size, 1, none⟩ = some (.int .i64 p.aa) ∧ W.cell? ⟨w.heap.size, 2, none⟩ = some (.int .i64 p.bg) ∧ W.cell? ⟨w.heap.size, 3, none⟩ = some (.int .i64 p.ba) ∧
            W.cell? ⟨w.heap.size, 7, none⟩ = some (.int .i64 p.birth) ∧ W.cell? ⟨w.heap.size, 8, none⟩ = some (.int .u64 p.s0) ∧ W.cell? ⟨w.heap.size, 9, none⟩ = some (.int .u64 p.s1) ∧ W.cell? ⟨w.heap.size, 10, none⟩ = some (.int .u64 p.s2) ∧ W.cell? ⟨w.heap.size, 11, none⟩ = some (.int .u64 p.s3) ∧ Below w4.heap.size w4 W)
          (first
            | exact ⟨h0, h1, h2, h3, h7, h8, h9, ha, hc, (Below.refl _ _).drew⟩
            | exact ‹_ ∧ _ ∧ _ ∧ _ ∧ _ ∧ _ ∧ _ ∧ _ ∧ _ ∧ Below w4.heap.size w4 _›
            | (obtain ⟨t0, t1, t2, t3, t4, t5, t6, t7, t8, t9⟩ := ‹_ ∧ _ ∧ _ ∧ _ ∧ _ ∧ _ ∧ _ ∧ _ ∧ _ ∧ Below w4.heap.size w4 _›; exact ⟨cell_alloc t0 _, cell_alloc t1 _, cell_alloc t2 _, cell_alloc t3 _, cell_alloc t4 _, cell_alloc t5 _, cell_alloc t6 _, cell_alloc t7 _, cell_alloc t8 _, t9.alloc t9.size _⟩)
            | (obtain ⟨t0, t1, t2, t3, t4, t5, t6, t7, t8, t9⟩ := ‹_ ∧ _ ∧ _ ∧ _ ∧ _ ∧ _ ∧ _ ∧ _ ∧ _ ∧ Below w4.heap.size w4 _›; have hq := Nat.lt_of_lt_of_le hs4 t9.size; exact ⟨keep_cell hbc t0 hq, keep_cell hbc t1 hq, keep_cell hbc t2 hq, keep_cell hbc t3 hq, keep_cell hbc t4 hq, keep_cell hbc t5 hq, keep_cell hbc t6 hq, keep_cell hbc t7 hq, keep_cell hbc t8 hq, t9.trans (hbc.mono t9.size)⟩))
          (first
            | (go_at_call 29; refine HSM.out.mono ?_; rintro e wc ⟨rfl, hbc⟩)
            | (go_at_call 30; refine (HFB.out _).mono ?_; rintro e wc ⟨rfl, hbc⟩)
            | (go_at_call 26; rw [ByteArray.mk_append_mk]; refine (HPA.out _).mono ?_; rintro e wc ⟨rfl, hbc⟩))
        obtain ⟨t0, t1, t2, t3, t4, t5, t6, t7, t8, t9⟩ := ‹_ ∧ _ ∧ _ ∧ _ ∧ _ ∧ _ ∧ _ ∧ _ ∧ _ ∧ Below w4.heap.size w4 _›
        have hl := HLT.out
        go_wp2_with fail
        go_ret2
        exact ⟨by rw [HPL.out]; rfl, hb4.trans (t9.mono hb4.size)⟩
    | false =>
      have HLT : Hid (layOk p = false) := by unfold Hid; rw [HL.out, HC1.out, hc2]; rfl
      have HC2 := Lib.hid hc2
      clear hc2 HL
      go_wp2_with fail
      refine (within_any 255 w2.heap.size 2 2 [p.size, p.level] _ rfl (by omega) HI2.out).mono ?_
      rintro e w3 ⟨rfl, k3, rfl⟩
      rw [HC2.out]
      have hl := HLT.out
      go_wp2_with fail
      all_goals go_ret2
      all_goals exact ⟨rfl, below_drewN hb3 _⟩
  | false =>
    have HLT : Hid (layOk p = false) := by unfold Hid; rw [HL.out, hc1]; rfl
    have HC1 := Lib.hid hc1
    clear hc1 HL
    rw [HLT.out]
    go_enter Try.func25, Try.ntmps25
    go_wp2_with fail
    refine (within_any 4294967295 (w.heap.size + 1) 5 5 [p.ag, p.aa, p.bg, p.ba, p.birth] _ rfl (by omega) HI1.out).mono ?_
    rintro e w2 ⟨rfl, k, rfl⟩
    rw [HC1.out]
    go_wp2_with fail
    go_ret2
    exact ⟨rfl, below_drewN hb1 _⟩
end Go.Proofs.Ytidmbibpoldgcaa
