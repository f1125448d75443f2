/-
  Contracts of package node: Level, Data.Text; the document's examples.
  == on places, sums and pointers.
  Contracts of package ptr: None, Bytes.
  The walks of LeLays, LeUnlike, LePads.
  The walk of LeUnlike.
  Plain words on pointers: unlike pointers have unlike bytes; what is right can be laid.
  Contracts of le's reader: New, Left, Take, number, U64.
-/
import Derived.Test.YtlpbbjjibnbooaaGreatDoorRows
import Derived.Test.YtlpbbjjibnbooaaGreatDoorJ12
import Derived.Test.YtlpbbjjibnbooaaGreatDoorJ06
namespace Go.Proofs.YtlpbbjjibnbooaaGreatDoor
set_option linter.unusedVariables false
set_option linter.unusedSimpArgs false
open Go.RowKit

def levN (size : Int) : Nat := if size ≤ 256 then 0 else if size ≤ 1024 then 1 else if size ≤ 4096 then 2 else 3
theorem level_any (size : Int) (w : World) : Calls Tryz.prog 76 #[.int .i64 size] w fun e w' => e = .returned (.int .i64 (levN size)) ∧ w = w' := by
  have HV : Hid (levN size = if size ≤ 256 then 0 else if size ≤ 1024 then 1 else if size ≤ 4096 then 2 else 3) := Lib.hid rfl
  go_enter Tryz.func76, Tryz.ntmps76
  go_wp2_with fail
  go_loop [3, 4] (fun l m => ∃ k : Nat, k ≤ 3 ∧ l = .int .i64 k ∧ ((k = 0 ∧ m = .int .i64 256) ∨ (k = 1 ∧ m = .int .i64 1024 ∧ 256 < size) ∨ (k = 2 ∧ m = .int .i64 4096 ∧ 1024 < size) ∨ (k = 3 ∧ m = .int .i64 16384 ∧ 4096 < size))) (fun l _ => 3 - (RowKit.intOf l).toNat)
  case atStart => exact ⟨0, by omega, rfl, .inl ⟨rfl, rfl⟩⟩
  case round =>
    obtain ⟨k, hk, rfl, hc⟩ := hrel
    rcases hc with ⟨rfl, rfl⟩ | ⟨rfl, rfl, hlt⟩ | ⟨rfl, rfl, hlt⟩ | ⟨rfl, rfl, hlt⟩
    · by_cases h : 256 < size
      · go_wp2_with fail
        go_round
        case rel => exact ⟨1, by omega, rfl, .inr (.inl ⟨rfl, rfl, h⟩)⟩
        case measure => simp [RowKit.intOf]
      · go_wp2_with fail
        go_ret
        refine ⟨ret_int ?_, rfl⟩
        rw [HV.out, if_pos (by omega)]; rfl
    · by_cases h : 1024 < size
      · go_wp2_with fail
        go_round
        case rel => exact ⟨2, by omega, rfl, .inr (.inr (.inl ⟨rfl, rfl, h⟩))⟩
        case measure => simp [RowKit.intOf]
      · go_wp2_with fail
        go_ret
        refine ⟨ret_int ?_, rfl⟩
        rw [HV.out, if_neg (by omega), if_pos (by omega)]; rfl
    · by_cases h : 4096 < size
      · go_wp2_with fail
        go_round
        case rel => exact ⟨3, by omega, rfl, .inr (.inr (.inr ⟨rfl, rfl, h⟩))⟩
        case measure => simp [RowKit.intOf]
      · go_wp2_with fail
        go_ret
        refine ⟨ret_int ?_, rfl⟩
        rw [HV.out, if_neg (by omega), if_neg (by omega), if_pos (by omega)]; rfl
    · have hr : Hid (levN size = 3) := by unfold Hid; rw [HV.out, if_neg (by omega), if_neg (by omega), if_neg (by omega)]
      by_cases h : 16384 < size
      · go_wp2_with fail
        go_ret
        exact ⟨ret_int (by rw [hr.out]; rfl), rfl⟩
      · go_wp2_with fail
        go_ret
        exact ⟨ret_int (by rw [hr.out]; rfl), rfl⟩

end Go.Proofs.YtlpbbjjibnbooaaGreatDoor

namespace Go.Proofs.YtlpbbjjibnbooaaGreatDoor
open Go.RowKit
set_option linter.unusedVariables false

theorem Tryz.stoodPlace : Tryz.prog.stoodInHeld 26 = false := by kernel_rfl
theorem Tryz.stoodPtr : Tryz.prog.stoodInHeld 31 = false := by kernel_rfl

theorem eqIn_place (w : World) (d : Nat) (a b c e : Int) : (Op.equalIn (d + 2) 26 (.agg #[.int .i64 a, .int .i64 b]) (.agg #[.int .i64 c, .int .i64 e])).run Tryz.prog w = .ok (a == c && b == e) w := by
  rw [run_equalIn_struct w (d + 1) _ _ _ (by kernel_rfl) Tryz.stoodPlace]
  simp [go_sem, Tryz.underlying26]
  by_cases h1 : a = c <;> by_cases h2 : b = e <;> simp [h1, h2]

theorem eqIn_sum (w : World) (d : Nat) (a0 a1 a2 a3 b0 b1 b2 b3 : Nat) : (Op.equalIn (d + 2) 29 (.agg #[.int .u64 a0, .int .u64 a1, .int .u64 a2, .int .u64 a3]) (.agg #[.int .u64 b0, .int .u64 b1, .int .u64 b2, .int .u64 b3])).run Tryz.prog w =
    .ok ((a0 : Int) == b0 && ((a1 : Int) == b1 && ((a2 : Int) == b2 && (a3 : Int) == b3))) w := by
  rw [Op.equalIn]
  simp only [Sem.run_bind, run_underlying Tryz.underlying29, Result.andThen_ok]
  simp [go_sem, Tryz.sizeOf27, Std.Legacy.Range.forIn_eq_forIn_range', Std.Legacy.Range.size, List.range']
  repeat' split
  all_goals (congr 1; simp_all)

def ptrEq (p q : PtrD) : Bool := decide (p = q)
theorem eql_ptr (p q : PtrD) (w : World) : (binOp .eql 31 (.agg p.cells) (.agg q.cells)).run Tryz.prog w = .ok (.bool (ptrEq p q)) w := by
  obtain ⟨a1, a2, a3, a4, a5, a6, a7, a8, a9, aa, ab, ac⟩ := p
  obtain ⟨b1, b2, b3, b4, b5, b6, b7, b8, b9, ba, bb, bc⟩ := q
  rw [run_eql_struct, run_equalIn_struct w 9999 _ _ _ (by kernel_rfl) Tryz.stoodPtr]
  simp [go_sem, Tryz.underlying31, eqIn_place, eqIn_sum, PtrD.cells, ptrEq]
  repeat' split
  all_goals (congr 2; try simp_all)
  all_goals grind
theorem eql_place (a b c e : Int) (w : World) : (binOp .eql 26 (.agg #[.int .i64 a, .int .i64 b]) (.agg #[.int .i64 c, .int .i64 e])).run Tryz.prog w = .ok (.bool (a == c && b == e)) w := by
  rw [run_eql_struct, run_equalIn_struct w 9999 _ _ _ (by kernel_rfl) Tryz.stoodPlace]
  simp [go_sem, Tryz.underlying26]
  by_cases h1 : a = c <;> by_cases h2 : b = e <;> simp [h1, h2]
end Go.Proofs.YtlpbbjjibnbooaaGreatDoor

namespace Go.Proofs.YtlpbbjjibnbooaaGreatDoor
open Go.RowKit
set_option linter.unusedVariables false

def ptrZ : PtrD := ⟨0, 0, 0, 0, false, 0, 0, 0, 0, 0, 0, 0⟩
/-- All of it is zero. -/
def noneB (p : PtrD) : Bool := ptrEq p ptrZ
set_option maxRecDepth 100000 in
theorem none_any (p : PtrD) (w : World) :
    Calls Tryz.prog 74 #[.agg p.cells] w fun e w' => e = .returned (.bool (noneB p)) ∧ Below w.heap.size w w' := by
  have h := PtrAt.new w p 31
  obtain ⟨h0, h1, h2, h3, h4, h5, h6, h7, h8, h9, ha, hc⟩ := h
  simp only [Nat.zero_add] at h1 h2 h3 h4 h5 h6 h7 h8 h9 ha hc
  have he : ∀ W, (binOp .eql 31 (.agg #[.int .i64 p.ag, .int .i64 p.aa, .int .i64 p.bg, .int .i64 p.ba, .bool p.two, .int .i64 p.size, .int .i64 p.level, .int .i64 p.birth, .int .u64 p.s0, .int .u64 p.s1, .int .u64 p.s2, .int .u64 p.s3])
      (.agg #[.int .i64 0, .int .i64 0, .int .i64 0, .int .i64 0, .bool false, .int .i64 0, .int .i64 0, .int .i64 0, .int .u64 0, .int .u64 0, .int .u64 0, .int .u64 0])).run Tryz.prog W = .ok (.bool (noneB p)) W := fun W => eql_ptr p ptrZ W
  have hb := (Below.refl w.heap.size w).alloc (Nat.le_refl _) (.cells p.cells 31)
  go_enter Tryz.func74, Tryz.ntmps74
  go_wp2_with fail
  go_ret
  exact ⟨rfl, hb⟩
/-- Whether a pointer can be laid; its bytes. -/
def layOk (p : PtrD) : Bool := withinL 4294967295 [p.ag, p.aa, p.bg, p.ba, p.birth] && withinL 255 [p.size, p.level]
def ptrOne (p : PtrD) : Int := p.size + p.level * 256 + if p.two then 65536 else 0
def ptrL (p : PtrD) : List UInt8 := padL (smallL [p.ag, p.aa, p.bg, p.ba, ptrOne p, p.birth] ++ sumL [p.s0, p.s1, p.s2, p.s3]) 64

set_option maxRecDepth 100000 in
set_option maxHeartbeats 8000000 in
theorem pbytes_any (p : PtrD) (w : World) (hok : p.Ok) :
    Calls Tryz.prog 62 #[.agg p.cells] w fun e w' => e = .returned (.tuple #[str (if layOk p then ptrL p else []), .int .i64 (if layOk p then 0 else 1)]) ∧ Below w.heap.size w w' := by
  have h := PtrAt.new w p 31
  obtain ⟨h0, h1, h2, h3, h4, h5, h6, h7, h8, h9, ha, hc⟩ := h
  simp only [Nat.zero_add] at h1 h2 h3 h4 h5 h6 h7 h8 h9 ha hc
  have hb := (Below.refl w.heap.size w).alloc (Nat.le_refl _) (.cells p.cells 31)
  have hs : w.heap.size < (w.alloc (.cells p.cells 31)).heap.size := by simp
  have HL : Hid (layOk p = (withinL 4294967295 [p.ag, p.aa, p.bg, p.ba, p.birth] && withinL 255 [p.size, p.level])) := Lib.hid rfl
  obtain ⟨g0, g1, g2, g3, g4, g5, g6, g7, g8, g9⟩ := hok
  have HI1 : Hid (IntsAt ((w.alloc (.cells p.cells 31)).alloc (.cells #[.int .i64 p.ag, .int .i64 p.aa, .int .i64 p.bg, .int .i64 p.ba, .int .i64 p.birth] 3)) (w.heap.size + 1) 0 [p.ag, p.aa, p.bg, p.ba, p.birth]) := by
    have := IntsAt.new (w.alloc (.cells p.cells 31)) [p.ag, p.aa, p.bg, p.ba, p.birth] 3
    rw [World.size_alloc] at this
    exact this
  have hb1 := hb.alloc hb.size (.cells #[.int .i64 p.ag, .int .i64 p.aa, .int .i64 p.bg, .int .i64 p.ba, .int .i64 p.birth] 3)
  have HP : Hid (PtrAt ((w.alloc (.cells p.cells 31)).alloc (.cells #[.int .i64 p.ag, .int .i64 p.aa, .int .i64 p.bg, .int .i64 p.ba, .int .i64 p.birth] 3)) w.heap.size 0 p) :=
    Lib.hid ((PtrAt.new w p 31).keep ((Below.refl _ _).alloc (Nat.le_refl _) _) hs)
  cases hc1 : withinL 4294967295 [p.ag, p.aa, p.bg, p.ba, p.birth] with
  | true =>
    have HC1 := Lib.hid hc1
    clear hc1
    go_enter Tryz.func62, Tryz.ntmps62
    go_wp2_with fail
    refine (within_any 4294967295 (w.heap.size + 1) 5 5 [p.ag, p.aa, p.bg, p.ba, p.birth] _ rfl (by omega) HI1.out).mono ?_
    rintro e w2 ⟨rfl, k, rfl⟩
    rw [HC1.out]
    have hP2 : PtrAt (((w.alloc (.cells p.cells 31)).alloc (.cells #[.int .i64 p.ag, .int .i64 p.aa, .int .i64 p.bg, .int .i64 p.ba, .int .i64 p.birth] 3)).drewN k) w.heap.size 0 p := HP.out
    have hb2 := below_drewN hb1 k
    have hs2 : w.heap.size < (((w.alloc (.cells p.cells 31)).alloc (.cells #[.int .i64 p.ag, .int .i64 p.aa, .int .i64 p.bg, .int .i64 p.ba, .int .i64 p.birth] 3)).drewN k).heap.size := by simp; omega
    clear h0 h1 h2 h3 h4 h5 h6 h7 h8 h9 ha hc hb hs hb1 HI1 HP
    generalize (((w.alloc (.cells p.cells 31)).alloc (.cells #[.int .i64 p.ag, .int .i64 p.aa, .int .i64 p.bg, .int .i64 p.ba, .int .i64 p.birth] 3)).drewN k) = w2 at *
    have HP2 := Lib.hid hP2
    obtain ⟨h0, h1, h2, h3, h4, h5, h6, h7, h8, h9, ha, hc⟩ := hP2
    simp only [Nat.zero_add] at h1 h2 h3 h4 h5 h6 h7 h8 h9 ha hc
    have HI2 : Hid (IntsAt (w2.alloc (.cells #[.int .i64 p.size, .int .i64 p.level] 3)) w2.heap.size 0 [p.size, p.level]) := Lib.hid (IntsAt.new w2 [p.size, p.level] 3)
    have hb3 := hb2.alloc hb2.size (.cells #[.int .i64 p.size, .int .i64 p.level] 3)
    have HP3 := Lib.hid (HP2.out.keep ((Below.refl _ _).alloc (Nat.le_refl _) (.cells #[.int .i64 p.size, .int .i64 p.level] 3)) hs2)
    cases hc2 : withinL 255 [p.size, p.level] with
    | true =>
      have HLT : Hid (layOk p = true) := by unfold Hid; rw [HL.out, HC1.out, hc2]; rfl
      have HC2 := Lib.hid hc2
      clear hc2 HL
      go_wp2_with fail
      refine (within_any 255 w2.heap.size 2 2 [p.size, p.level] _ rfl (by omega) HI2.out).mono ?_
      rintro e w3 ⟨rfl, k3, rfl⟩
      rw [HC2.out]
      have hP3 : PtrAt ((w2.alloc (.cells #[.int .i64 p.size, .int .i64 p.level] 3)).drewN k3) w.heap.size 0 p := HP3.out
      have hb4 := below_drewN hb3 k3
      have hs4 : w.heap.size < ((w2.alloc (.cells #[.int .i64 p.size, .int .i64 p.level] 3)).drewN k3).heap.size := by simp; omega
      clear h0 h1 h2 h3 h4 h5 h6 h7 h8 h9 ha hc hb2 hb3 HI2 HP2 HP3
      obtain ⟨w4, hw4⟩ : ∃ x, x = ((w2.alloc (.cells #[.int .i64 p.size, .int .i64 p.level] 3)).drewN k3) := ⟨_, rfl⟩
      rw [← hw4] at hP3 hb4 hs4 ⊢
      clear hw4
      have HP4 := Lib.hid hP3
      obtain ⟨h0, h1, h2, h3, h4, h5, h6, h7, h8, h9, ha, hc⟩ := hP3
      simp only [Nat.zero_add] at h1 h2 h3 h4 h5 h6 h7 h8 h9 ha hc
      have hsz : 0 ≤ p.size ∧ p.size ≤ 255 ∧ 0 ≤ p.level ∧ p.level ≤ 255 := by
        have := HC2.out
        simp [withinL] at this
        omega
      obtain ⟨q1, q2, q3, q4⟩ := hsz
      have HO : Hid (ptrOne p = p.size + p.level * 256 + if p.two then 65536 else 0) := Lib.hid rfl
      cases htwo : p.two with
      | true =>
        rw [htwo] at h4 HO
        have HO2 : Hid (ptrOne p = p.size + p.level * 256 + 65536) := by unfold Hid; rw [HO.out]; simp
        have HIS : IntsAt (w4.alloc (.cells #[.int .i64 p.ag, .int .i64 p.aa, .int .i64 p.bg, .int .i64 p.ba, .int .i64 (p.size + p.level * 256 + 65536), .int .i64 p.birth] 3)).drew w4.heap.size 0 [p.ag, p.aa, p.bg, p.ba, p.size + p.level * 256 + 65536, p.birth] := IntsAt.new w4 [p.ag, p.aa, p.bg, p.ba, p.size + p.level * 256 + 65536, p.birth] 3
        have HSM := Lib.hid (small_any w4.heap.size 6 6 [p.ag, p.aa, p.bg, p.ba, p.size + p.level * 256 + 65536, p.birth] _ rfl (by omega) HIS)
        have HFB := Lib.hid fun W => fbytes_any p.s0 p.s1 p.s2 p.s3 W g0 g1 g2 g3
        have hsa : (smallL [p.ag, p.aa, p.bg, p.ba, p.size + p.level * 256 + 65536, p.birth]).length ≤ 24 := smallL_len [p.ag, p.aa, p.bg, p.ba, p.size + p.level * 256 + 65536, p.birth]
        have hsb : (sumL [p.s0, p.s1, p.s2, p.s3]).length ≤ 32 := Nat.le_of_eq (sumL_len [p.s0, p.s1, p.s2, p.s3])
        have HPL : Hid (ptrL p = padL (smallL [p.ag, p.aa, p.bg, p.ba, p.size + p.level * 256 + 65536, p.birth] ++ sumL [p.s0, p.s1, p.s2, p.s3]) 64) := by unfold Hid ptrL; rw [HO2.out]
        generalize smallL [p.ag, p.aa, p.bg, p.ba, p.size + p.level * 256 + 65536, p.birth] = sa at HSM hsa HPL
        generalize sumL [p.s0, p.s1, p.s2, p.s3] = sb at HFB hsb HPL
        have hcc : ¬ 9223372036854775807 < (ByteArray.mk sa.toArray).size + (ByteArray.mk sb.toArray).size := by simp [ByteArray.size]; omega
        have hcd : ¬ 9223372036854775807 < sa.length + sb.length := by omega
        have HPA := Lib.hid fun W => pad_any (sa ++ sb) 64 W (by rw [List.length_append]; omega)
        clear HIS HO2
        clear htwo HO g0 g1 g2 g3 g4 g5 g6 g7 g8 g9
        go_wp2_with fail
        go_region_held3 (fun W => W.cell? ⟨w.heap.size, 0, none⟩ = some (.int .i64 p.ag) ∧ W.cell? ⟨w.heap.size, 1, none⟩ = some (.int .i64 p.aa) ∧ W.cell? ⟨w.heap.size, 2, none⟩ = some (.int .i64 p.bg) ∧ W.cell? ⟨w.heap.size, 3, none⟩ = some (.int .i64 p.ba) ∧
            W.cell? ⟨w.heap.size, 7, none⟩ = some (.int .i64 p.birth) ∧ W.cell? ⟨w.heap.size, 8, none⟩ = some (.int .u64 p.s0) ∧ W.cell? ⟨w.heap.size, 9, none⟩ = some (.int .u64 p.s1) ∧ W.cell? ⟨w.heap.size, 10, none⟩ = some (.int .u64 p.s2) ∧ W.cell? ⟨w.heap.size, 11, none⟩ = some (.int .u64 p.s3) ∧ Below w4.heap.size w4 W)
          (first
            | exact ⟨h0, h1, h2, h3, h7, h8, h9, ha, hc, (Below.refl _ _).drew⟩
            | exact ‹_ ∧ _ ∧ _ ∧ _ ∧ _ ∧ _ ∧ _ ∧ _ ∧ _ ∧ Below w4.heap.size w4 _›
            | (obtain ⟨t0, t1, t2, t3, t4, t5, t6, t7, t8, t9⟩ := ‹_ ∧ _ ∧ _ ∧ _ ∧ _ ∧ _ ∧ _ ∧ _ ∧ _ ∧ Below w4.heap.size w4 _›; exact ⟨cell_alloc t0 _, cell_alloc t1 _, cell_alloc t2 _, cell_alloc t3 _, cell_alloc t4 _, cell_alloc t5 _, cell_alloc t6 _, cell_alloc t7 _, cell_alloc t8 _, t9.alloc t9.size _⟩)
            | (obtain ⟨t0, t1, t2, t3, t4, t5, t6, t7, t8, t9⟩ := ‹_ ∧ _ ∧ _ ∧ _ ∧ _ ∧ _ ∧ _ ∧ _ ∧ _ ∧ Below w4.heap.size w4 _›; have hq := Nat.lt_of_lt_of_le hs4 t9.size; exact ⟨keep_cell hbc t0 hq, keep_cell hbc t1 hq, keep_cell hbc t2 hq, keep_cell hbc t3 hq, keep_cell hbc t4 hq, keep_cell hbc t5 hq, keep_cell hbc t6 hq, keep_cell hbc t7 hq, keep_cell hbc t8 hq, t9.trans (hbc.mono t9.size)⟩))
          (first
            | (go_at_call 96; refine HSM.out.mono ?_; rintro e wc ⟨rfl, hbc⟩)
            | (go_at_call 27; refine (HFB.out _).mono ?_; rintro e wc ⟨rfl, hbc⟩)
            | (go_at_call 25; rw [ByteArray.mk_append_mk]; refine (HPA.out _).mono ?_; rintro e wc ⟨rfl, hbc⟩))
        obtain ⟨t0, t1, t2, t3, t4, t5, t6, t7, t8, t9⟩ := ‹_ ∧ _ ∧ _ ∧ _ ∧ _ ∧ _ ∧ _ ∧ _ ∧ _ ∧ Below w4.heap.size w4 _›
        have hl := HLT.out
        go_wp2_with fail
        go_ret2
        exact ⟨by rw [HPL.out]; rfl, hb4.trans (t9.mono hb4.size)⟩
      | false =>
        rw [htwo] at h4 HO
        have HO2 : Hid (ptrOne p = p.size + p.level * 256) := by unfold Hid; rw [HO.out]; simp
        have HIS : IntsAt (w4.alloc (.cells #[.int .i64 p.ag, .int .i64 p.aa, .int .i64 p.bg, .int .i64 p.ba, .int .i64 (p.size + p.level * 256), .int .i64 p.birth] 3)).drew w4.heap.size 0 [p.ag, p.aa, p.bg, p.ba, p.size + p.level * 256, p.birth] := IntsAt.new w4 [p.ag, p.aa, p.bg, p.ba, p.size + p.level * 256, p.birth] 3
        have HSM := Lib.hid (small_any w4.heap.size 6 6 [p.ag, p.aa, p.bg, p.ba, p.size + p.level * 256, p.birth] _ rfl (by omega) HIS)
        have HFB := Lib.hid fun W => fbytes_any p.s0 p.s1 p.s2 p.s3 W g0 g1 g2 g3
        have hsa : (smallL [p.ag, p.aa, p.bg, p.ba, p.size + p.level * 256, p.birth]).length ≤ 24 := smallL_len [p.ag, p.aa, p.bg, p.ba, p.size + p.level * 256, p.birth]
        have hsb : (sumL [p.s0, p.s1, p.s2, p.s3]).length ≤ 32 := Nat.le_of_eq (sumL_len [p.s0, p.s1, p.s2, p.s3])
        have HPL : Hid (ptrL p = padL (smallL [p.ag, p.aa, p.bg, p.ba, p.size + p.level * 256, p.birth] ++ sumL [p.s0, p.s1, p.s2, p.s3]) 64) := by unfold Hid ptrL; rw [HO2.out]
        generalize smallL [p.ag, p.aa, p.bg, p.ba, p.size + p.level * 256, p.birth] = sa at HSM hsa HPL
        generalize sumL [p.s0, p.s1, p.s2, p.s3] = sb at HFB hsb HPL
        have hcc : ¬ 9223372036854775807 < (ByteArray.mk sa.toArray).size + (ByteArray.mk sb.toArray).size := by simp [ByteArray.size]; omega
        have hcd : ¬ 9223372036854775807 < sa.length + sb.length := by omega
        have HPA := Lib.hid fun W => pad_any (sa ++ sb) 64 W (by rw [List.length_append]; omega)
        clear HIS HO2
        clear htwo HO g0 g1 g2 g3 g4 g5 g6 g7 g8 g9
        go_wp2_with fail
        go_region_held3 (fun W => W.cell? ⟨w.heap.size, 0, none⟩ = some (.int .i64 p.ag) ∧ W.cell? ⟨w.heap.size, 1, none⟩ = some (.int .i64 p.aa) ∧ W.cell? ⟨w.heap.size, 2, none⟩ = some (.int .i64 p.bg) ∧ W.cell? ⟨w.heap.size, 3, none⟩ = some (.int .i64 p.ba) ∧
            W.cell? ⟨w.heap.size, 7, none⟩ = some (.int .i64 p.birth) ∧ W.cell? ⟨w.heap.size, 8, none⟩ = some (.int .u64 p.s0) ∧ W.cell? ⟨w.heap.size, 9, none⟩ = some (.int .u64 p.s1) ∧ W.cell? ⟨w.heap.size, 10, none⟩ = some (.int .u64 p.s2) ∧ W.cell? ⟨w.heap.size, 11, none⟩ = some (.int .u64 p.s3) ∧ Below w4.heap.size w4 W)
          (first
            | exact ⟨h0, h1, h2, h3, h7, h8, h9, ha, hc, (Below.refl _ _).drew⟩
            | exact ‹_ ∧ _ ∧ _ ∧ _ ∧ _ ∧ _ ∧ _ ∧ _ ∧ _ ∧ Below w4.heap.size w4 _›
            | (obtain ⟨t0, t1, t2, t3, t4, t5, t6, t7, t8, t9⟩ := ‹_ ∧ _ ∧ _ ∧ _ ∧ _ ∧ _ ∧ _ ∧ _ ∧ _ ∧ Below w4.heap.size w4 _›; exact ⟨cell_alloc t0 _, cell_alloc t1 _, cell_alloc t2 _, cell_alloc t3 _, cell_alloc t4 _, cell_alloc t5 _, cell_alloc t6 _, cell_alloc t7 _, cell_alloc t8 _, t9.alloc t9.size _⟩)
            | (obtain ⟨t0, t1, t2, t3, t4, t5, t6, t7, t8, t9⟩ := ‹_ ∧ _ ∧ _ ∧ _ ∧ _ ∧ _ ∧ _ ∧ _ ∧ _ ∧ Below w4.heap.size w4 _›; have hq := Nat.lt_of_lt_of_le hs4 t9.size; exact ⟨keep_cell hbc t0 hq, keep_cell hbc t1 hq, keep_cell hbc t2 hq, keep_cell hbc t3 hq, keep_cell hbc t4 hq, keep_cell hbc t5 hq, keep_cell hbc t6 hq, keep_cell hbc t7 hq, keep_cell hbc t8 hq, t9.trans (hbc.mono t9.size)⟩))
          (first
            | (go_at_call 96; refine HSM.out.mono ?_; rintro e wc ⟨rfl, hbc⟩)
            | (go_at_call 27; refine (HFB.out _).mono ?_; rintro e wc ⟨rfl, hbc⟩)
            | (go_at_call 25; rw [ByteArray.mk_append_mk]; refine (HPA.out _).mono ?_; rintro e wc ⟨rfl, hbc⟩))
        obtain ⟨t0, t1, t2, t3, t4, t5, t6, t7, t8, t9⟩ := ‹_ ∧ _ ∧ _ ∧ _ ∧ _ ∧ _ ∧ _ ∧ _ ∧ _ ∧ Below w4.heap.size w4 _›
        have hl := HLT.out
        go_wp2_with fail
        go_ret2
        exact ⟨by rw [HPL.out]; rfl, hb4.trans (t9.mono hb4.size)⟩
    | false =>
      have HLT : Hid (layOk p = false) := by unfold Hid; rw [HL.out, HC1.out, hc2]; rfl
      have HC2 := Lib.hid hc2
      clear hc2 HL
      go_wp2_with fail
      refine (within_any 255 w2.heap.size 2 2 [p.size, p.level] _ rfl (by omega) HI2.out).mono ?_
      rintro e w3 ⟨rfl, k3, rfl⟩
      rw [HC2.out]
      have hl := HLT.out
      go_wp2_with fail
      all_goals go_ret2
      all_goals exact ⟨rfl, below_drewN hb3 _⟩
  | false =>
    have HLT : Hid (layOk p = false) := by unfold Hid; rw [HL.out, hc1]; rfl
    have HC1 := Lib.hid hc1
    clear hc1 HL
    rw [HLT.out]
    go_enter Tryz.func62, Tryz.ntmps62
    go_wp2_with fail
    refine (within_any 4294967295 (w.heap.size + 1) 5 5 [p.ag, p.aa, p.bg, p.ba, p.birth] _ rfl (by omega) HI1.out).mono ?_
    rintro e w2 ⟨rfl, k, rfl⟩
    rw [HC1.out]
    go_wp2_with fail
    go_ret2
    exact ⟨rfl, below_drewN hb1 _⟩
end Go.Proofs.YtlpbbjjibnbooaaGreatDoor

namespace Go.Proofs.YtlpbbjjibnbooaaGreatDoor
open Go.RowKit
set_option linter.unusedVariables false

end Go.Proofs.YtlpbbjjibnbooaaGreatDoor

namespace Go.Proofs.YtlpbbjjibnbooaaGreatDoor
open Go.RowKit
set_option linter.unusedVariables false

theorem layL_mod (x y : Nat) : ∀ n, layL x n = layL y n → x % 256 ^ n = y % 256 ^ n
  | 0, _ => by simp [Nat.mod_one]
  | n + 1, h => by
    rw [layL_succ, layL_succ] at h
    obtain ⟨h1, h2⟩ := List.append_inj h (by rw [layL_len, layL_len])
    have h3 := layL_mod x y n h1
    simp only [List.cons.injEq, and_true] at h2
    have h4 : (UInt8.ofNat (x / 256 ^ n)).toNat = (UInt8.ofNat (y / 256 ^ n)).toNat := by rw [h2]
    rw [UInt8.toNat_ofNat', UInt8.toNat_ofNat'] at h4
    have h5 : x / 256 ^ n % 256 = y / 256 ^ n % 256 := h4
    rw [Nat.mod_pow_succ, Nat.mod_pow_succ, h3, h5]
theorem layL_inj {x y n : Nat} (hx : x < 256 ^ n) (hy : y < 256 ^ n) (h : layL x n = layL y n) : x = y := by
  have := layL_mod x y n h
  rwa [Nat.mod_eq_of_lt hx, Nat.mod_eq_of_lt hy] at this
theorem layL_ne {x n : Nat} (h : 0 < n) : layL x n ≠ [] := by
  intro e
  have := layL_len x n
  rw [e] at this
  simp at this; omega
end Go.Proofs.YtlpbbjjibnbooaaGreatDoor

namespace Go.Proofs.YtlpbbjjibnbooaaGreatDoor
open Go.RowKit

theorem u32L_in {x : Int} (h0 : 0 ≤ x) (h1 : x ≤ 4294967295) : u32L x = layL x.toNat 4 := by
  unfold u32L
  first | rw [if_pos ⟨h0, h1⟩] | (split <;> first | rfl | omega)
theorem layOk_bd {p : PtrD} (h : layOk p = true) : (0 ≤ p.ag ∧ p.ag ≤ 4294967295) ∧ (0 ≤ p.aa ∧ p.aa ≤ 4294967295) ∧ (0 ≤ p.bg ∧ p.bg ≤ 4294967295) ∧ (0 ≤ p.ba ∧ p.ba ≤ 4294967295) ∧ (0 ≤ p.birth ∧ p.birth ≤ 4294967295) ∧
    (0 ≤ p.size ∧ p.size ≤ 255) ∧ (0 ≤ p.level ∧ p.level ≤ 255) := by
  simp only [layOk, withinL, List.all_cons, List.all_nil, Bool.and_true, Bool.and_eq_true, decide_eq_true_eq] at h
  obtain ⟨⟨h1, h2, h3, h4, h5⟩, h6, h7⟩ := h
  exact ⟨h1, h2, h3, h4, h5, h6, h7⟩
theorem ptrOne_bd {p : PtrD} (h : layOk p = true) : 0 ≤ ptrOne p ∧ ptrOne p ≤ 4294967295 := by
  obtain ⟨_, _, _, _, _, _, _⟩ := layOk_bd h
  unfold ptrOne; split <;> omega
theorem ptrL_eq {p : PtrD} (h : layOk p = true) : ptrL p = (layL p.ag.toNat 4 ++ (layL p.aa.toNat 4 ++ (layL p.bg.toNat 4 ++ (layL p.ba.toNat 4 ++ (layL (ptrOne p).toNat 4 ++ (layL p.birth.toNat 4 ++
    (layL p.s0 8 ++ (layL p.s1 8 ++ (layL p.s2 8 ++ layL p.s3 8))))))))) ++ List.replicate 8 0 := by
  obtain ⟨⟨a1, a2⟩, ⟨b1, b2⟩, ⟨c1, c2⟩, ⟨d1, d2⟩, ⟨e1, e2⟩, _, _⟩ := layOk_bd h
  obtain ⟨o1, o2⟩ := ptrOne_bd h
  have hb : smallL [p.ag, p.aa, p.bg, p.ba, ptrOne p, p.birth] ++ sumL [p.s0, p.s1, p.s2, p.s3] = (layL p.ag.toNat 4 ++ (layL p.aa.toNat 4 ++ (layL p.bg.toNat 4 ++ (layL p.ba.toNat 4 ++ (layL (ptrOne p).toNat 4 ++ (layL p.birth.toNat 4 ++
      (layL p.s0 8 ++ (layL p.s1 8 ++ (layL p.s2 8 ++ layL p.s3 8))))))))) := by
    unfold smallL sumL
    simp only [List.flatMap_cons, List.flatMap_nil, List.append_nil, List.append_assoc]
    rw [u32L_in a1 a2, u32L_in b1 b2, u32L_in c1 c2, u32L_in d1 d2, u32L_in o1 o2, u32L_in e1 e2]
  have hl : (smallL [p.ag, p.aa, p.bg, p.ba, ptrOne p, p.birth] ++ sumL [p.s0, p.s1, p.s2, p.s3]).length = 56 := by
    rw [hb]; simp [layL_len]
  unfold ptrL padL
  rw [if_pos (by decide), hl, hb]
  rfl
/-- Two stretches are apart; a pointer is right. -/
def apB (gs : List (Int × Int)) (secs ag aa bg ba size : Int) : Bool := (ag != bg) || (decide (aa + gTakes gs secs ag size ≤ ba) || decide (ba + gTakes gs secs bg size ≤ aa))
def rightB (gs : List (Int × Int)) (secs : Int) (p : PtrD) : Bool :=
  decide (0 ≤ p.level) && decide (p.level ≤ 3) && decide (1 ≤ p.birth) && decide (p.birth ≤ 4294967295) && cMay gs secs p.ag p.aa p.size &&
    (if p.two then cMay gs secs p.bg p.ba p.size && apB gs secs p.ag p.aa p.bg p.ba p.size else p.bg == 0 && p.ba == 0)
theorem cMay_bd {gs : List (Int × Int)} {secs pg pa size : Int} (h : cMay gs secs pg pa size = true) : 0 ≤ pg ∧ pg ≤ 4 ∧ 0 ≤ pa ∧ pa ≤ 100000 ∧ 1 ≤ size ∧ size ≤ 4 := by
  obtain ⟨hhas, hz1, hz2, hp1, hp2, _⟩ := cMay_true h
  have hS := gSectors_bd gs secs pg
  have hT := gTakes_bd gs secs pg size
  obtain ⟨k, x, rfl, hk, hl4, _⟩ := gHas_true hhas
  omega
end Go.Proofs.YtlpbbjjibnbooaaGreatDoor

namespace Go.Proofs.YtlpbbjjibnbooaaGreatDoor
open Go.RowKit
set_option linter.unusedVariables false

/-- Block b is a reader of the bytes l that stands at p. -/
def RdAt (w : World) (b : Nat) (l : List UInt8) (p : Nat) : Prop := w.heap[b]? = some (.cells #[str l, .int .i64 p] 112 (0, 0)) ∧ p ≤ l.length ∧ l.length ≤ 140737488351232
theorem RdAt.lt {w : World} {b p : Nat} {l : List UInt8} (h : RdAt w b l p) : b < w.heap.size := lt_of_block h.1
theorem RdAt.c0 {w : World} {b p : Nat} {l : List UInt8} (h : RdAt w b l p) : w.cell? ⟨b, 0, none⟩ = some (str l) := cell_of_row w b 0 _ _ _ h.1
theorem RdAt.c1 {w : World} {b p : Nat} {l : List UInt8} (h : RdAt w b l p) : w.cell? ⟨b, 1, none⟩ = some (.int .i64 p) := cell_of_row w b 1 _ _ _ h.1
theorem RdAt.fr {w : World} {b p : Nat} {l : List UInt8} (h : RdAt w b l p) (i : Nat) : w.frozen? ⟨b, i, none⟩ = false := by simp [World.frozen?, h.1]
theorem RdAt.keep {w w' : World} {b p B : Nat} {l : List UInt8} (h : RdAt w b l p) (hb : Below B w w') (hB : b < B) : RdAt w' b l p := ⟨(hb.block b hB).trans h.1, h.2⟩
theorem RdAt.drewN {w : World} {b p : Nat} {l : List UInt8} (h : RdAt w b l p) (n : Nat) : RdAt (w.drewN n) b l p := h
theorem RdAt.put {w : World} {b p q : Nat} {l : List UInt8} (h : RdAt w b l p) (hq : q ≤ l.length) : RdAt (w.setCell ⟨b, 1, none⟩ (.int .i64 q)) b l q := by
  refine ⟨?_, hq, h.2.2⟩
  have h1 := h.1
  simp [World.setCell, Array.getElem?_modify, h1]
/-- Only block b, and what is new, has turned. -/
theorem only_put {a w : World} {b : Nat} (h : a.grownBy w (some b)) (v : Value) : a.grownBy (w.setCell ⟨b, 1, none⟩ v) (some b) :=
  ⟨h.os, h.tape, h.output, by simpa [World.setCell] using h.size, fun i hi hne => (Below.heap_setCell w ⟨b, 1, none⟩ v i (by rintro rfl; exact hne rfl)).trans (h.block i hi hne)⟩
theorem only_drewN {a w : World} {row : Option Nat} (h : a.grownBy w row) (n : Nat) : a.grownBy (w.drewN n) row := ⟨h.os, h.tape, h.output, h.size, h.block⟩

theorem new_any (l : List UInt8) (w : World) (hl : l.length ≤ 140737488351232) :
    Calls Tryz.prog 30 #[str l] w fun e w' => e = .returned (.pointer (some ⟨w.heap.size, 0, none⟩)) ∧ RdAt w' w.heap.size l 0 ∧ Below w.heap.size w w' := by
  go_enter Tryz.func30, Tryz.ntmps30
  go_wp2_with fail
  go_ret
  exact ⟨rfl, ⟨heap_alloc_new w _, Nat.zero_le _, hl⟩, (Below.refl _ _).alloc (Nat.le_refl _) _⟩

theorem left_any (b p : Nat) (l : List UInt8) (w : World) (h : RdAt w b l p) :
    Calls Tryz.prog 70 #[.pointer (some ⟨b, 0, none⟩)] w fun e w' => e = .returned (.int .i64 ((l.length : Int) - p)) ∧ ∃ n, w' = w.drewN n := by
  have c0 := h.c0
  have c1 := h.c1
  have hp := h.2.1
  have hl := h.2.2
  have e1 : IntKind.i64.wrap ((l.length : Int) - p) = (l.length : Int) - p := by rw [IntKind.wrap_i64]; omega
  clear h
  go_enter Tryz.func70, Tryz.ntmps70
  go_wp2_with fail
  go_quiet (fail)
  go_wp2_with fail
  go_ret
  exact ⟨rfl, nq, rfl⟩

theorem rd_extract (l : List UInt8) (p m : Nat) : (ByteArray.mk l.toArray).extract p (p + m) = ⟨((l.drop p).take m).toArray⟩ := by
  apply ByteArray.ext
  rw [ByteArray.data_extract]
  simp [List.extract_eq_take_drop]

def tkErr (l : List UInt8) (p : Nat) (n : Int) : Int := if n < 0 then 1 else if (l.length : Int) - p < n then 2 else 0
def tkStr (l : List UInt8) (p : Nat) (n : Int) : List UInt8 := if tkErr l p n = 0 then (l.drop p).take n.toNat else []
def tkPos (l : List UInt8) (p : Nat) (n : Int) : Nat := if tkErr l p n = 0 then p + n.toNat else p

theorem take_any (b p : Nat) (l : List UInt8) (n : Int) (w : World) (h : RdAt w b l p) (hn : n ≤ 9223372036854775807) :
    Calls Tryz.prog 31 #[.pointer (some ⟨b, 0, none⟩), .int .i64 n] w fun e w' =>
      e = .returned (.tuple #[str (tkStr l p n), .int .i64 (tkErr l p n)]) ∧ RdAt w' b l (tkPos l p n) ∧ w.grownBy w' (some b) := by
  have HL := Lib.hid (left_any b p l w h)
  have HR := Lib.hid h
  by_cases hneg : n < 0
  · have he : Hid (tkErr l p n = 1) := by unfold Hid tkErr; rw [if_pos hneg]
    have hs : Hid (tkStr l p n = [] ∧ tkPos l p n = p) := by unfold Hid tkStr tkPos; rw [he.out]; exact ⟨rfl, rfl⟩
    clear h
    go_enter Tryz.func31, Tryz.ntmps31
    go_wp2_with fail
    go_ret2
    rw [he.out, hs.out.1, hs.out.2]
    exact ⟨rfl, HR.out, World.grownBy.refl _ _⟩
  · obtain ⟨m, rfl⟩ := Int.eq_ofNat_of_zero_le (show 0 ≤ n by omega)
    by_cases hlt : (l.length : Int) - p < m
    · have he : Hid (tkErr l p m = 2) := by unfold Hid tkErr; rw [if_neg hneg, if_pos hlt]
      have hs : Hid (tkStr l p m = [] ∧ tkPos l p m = p) := by unfold Hid tkStr tkPos; rw [he.out]; exact ⟨rfl, rfl⟩
      clear h hneg
      go_enter Tryz.func31, Tryz.ntmps31
      go_wp2_with fail
      refine HL.out.mono ?_
      rintro e w' ⟨rfl, k, rfl⟩
      go_wp2_with fail
      go_ret2
      rw [he.out, hs.out.1, hs.out.2]
      exact ⟨rfl, HR.out.drewN k, only_drewN (World.grownBy.refl _ _) k⟩
    · have he : Hid (tkErr l p m = 0) := by unfold Hid tkErr; rw [if_neg hneg, if_neg hlt]
      have hs : Hid (tkStr l p m = (l.drop p).take m ∧ tkPos l p m = p + m) := by unfold Hid tkStr tkPos; rw [he.out]; exact ⟨rfl, rfl⟩
      have c0 := h.c0
      have c1 := h.c1
      have f1 := h.fr 1
      have hp := h.2.1
      have hl := h.2.2
      have hpm : p + m ≤ l.length := by omega
      have hi1 : (p : Int) + m ≤ l.length := by omega
      have w1 : IntKind.i64.wrap ((p : Int) + m - m) = p := by rw [IntKind.wrap_i64]; omega
      clear h hneg
      go_enter Tryz.func31, Tryz.ntmps31
      go_wp2_with fail
      refine HL.out.mono ?_
      rintro e w' ⟨rfl, k, rfl⟩
      go_wp2_with fail
      have hR2 : RdAt ((w.drewN k).setCell ⟨b, 1, none⟩ (.int .i64 ((p : Int) + m))) b l (p + m) := (HR.out.drewN k).put hpm
      have hG : w.grownBy ((w.drewN k).setCell ⟨b, 1, none⟩ (.int .i64 ((p : Int) + m))) (some b) := only_put (only_drewN (World.grownBy.refl _ _) k) _
      have g0 := hR2.c0
      have g1 : ((w.drewN k).setCell ⟨b, 1, none⟩ (.int .i64 ((p : Int) + m))).cell? ⟨b, 1, none⟩ = some (.int .i64 ((p : Int) + m)) := hR2.c1
      have hR3 := Lib.hid hR2
      clear hR2 c0 c1 f1
      generalize (w.drewN k).setCell ⟨b, 1, none⟩ (.int .i64 ((p : Int) + m)) = W at *
      have i1 : (0 : Int) ≤ p := by omega
      have i2 : (p : Int) ≤ p + m := by omega
      go_quiet (fail)
      go_wp2_with fail
      go_ret2
      rw [he.out, hs.out.1, hs.out.2]
      refine ⟨?_, hR3.out.drewN nq, only_drewN hG nq⟩
      exact congrArg (fun s => Ending.returned (.tuple #[Value.string s, .int .i64 0])) (rd_extract l p m)

/-- The number that the first k bytes from p on are. -/
def numTo (l : List UInt8) (p : Nat) : Nat → Int
  | 0 => 0
  | k + 1 => bits .or .u64 (numTo l p k) (IntKind.u64.wrap (IntKind.u64.wrap ((l.getD (p + k) 0).toNat : Int) * 2 ^ (8 * k)))

def nbErr (l : List UInt8) (p n : Nat) : Int := if (l.length : Int) - p < n then 2 else 0
def nbVal (l : List UInt8) (p n : Nat) : Int := if (l.length : Int) - p < n then 0 else numTo l p n
def nbPos (l : List UInt8) (p n : Nat) : Nat := if (l.length : Int) - p < n then p else p + n

theorem number_any (b p n : Nat) (l : List UInt8) (w : World) (h : RdAt w b l p) (hn : n ≤ 8) :
    Calls Tryz.prog 71 #[.pointer (some ⟨b, 0, none⟩), .int .i64 n] w fun e w' =>
      e = .returned (.tuple #[.int .u64 (nbVal l p n), .int .i64 (nbErr l p n)]) ∧ RdAt w' b l (nbPos l p n) ∧ w.grownBy w' (some b) := by
  have HL := Lib.hid (left_any b p l w h)
  have HR := Lib.hid h
  by_cases hlt : (l.length : Int) - p < n
  · have he : Hid (nbErr l p n = 2 ∧ nbVal l p n = 0 ∧ nbPos l p n = p) := by unfold Hid nbErr nbVal nbPos; rw [if_pos hlt, if_pos hlt, if_pos hlt]; exact ⟨rfl, rfl, rfl⟩
    clear h
    go_enter Tryz.func71, Tryz.ntmps71
    go_wp2_with fail
    refine HL.out.mono ?_
    rintro e w' ⟨rfl, k, rfl⟩
    go_wp2_with fail
    go_ret2
    rw [he.out.1, he.out.2.1, he.out.2.2]
    exact ⟨rfl, HR.out.drewN k, only_drewN (World.grownBy.refl _ _) k⟩
  · have he : Hid (nbErr l p n = 0 ∧ nbVal l p n = numTo l p n ∧ nbPos l p n = p + n) := by unfold Hid nbErr nbVal nbPos; rw [if_neg hlt, if_neg hlt, if_neg hlt]; exact ⟨rfl, rfl, rfl⟩
    have hp := h.2.1
    have hl := h.2.2
    have hpm : p + n ≤ l.length := by omega
    clear h
    go_enter Tryz.func71, Tryz.ntmps71
    go_wp2_with fail
    refine HL.out.mono ?_
    rintro e w' ⟨rfl, k0, rfl⟩
    go_wp2_with fail
    go_loopw [6, 13] (fun x t wr => ∃ k : Nat, k ≤ n ∧ t = .int .i64 k ∧ x = .int .u64 (numTo l p k) ∧ RdAt wr b l p ∧ w.grownBy wr (some b)) (fun _ t _ => n - (RowKit.intOf t).toNat)
    case atStart => exact ⟨0, Nat.zero_le _, rfl, rfl, HR.out.drewN k0, only_drewN (World.grownBy.refl _ _) k0⟩
    case round =>
      obtain ⟨k, hk, rfl, rfl, hR, hG⟩ := hrel
      have c0 := hR.c0
      have c1 := hR.c1
      have f1 := hR.fr 1
      have HR2 := Lib.hid hR
      clear hR
      by_cases hlt2 : k < n
      · have w1 : IntKind.i64.wrap ((p : Int) + k) = p + k := by rw [IntKind.wrap_i64]; omega
        have w2 : IntKind.i64.wrap (8 * (k : Int)) = 8 * k := by rw [IntKind.wrap_i64]; omega
        have i1 : (0 : Int) ≤ (p : Int) + k := by omega
        have i2 : (p : Int) + k < l.length := by omega
        go_wp2_with fail
        go_quiet (fail)
        go_wp2_with fail
        go_roundw
        case rel =>
          refine ⟨k + 1, by omega, by go_num, ?_, HR2.out.drewN nq, only_drewN hG nq⟩
          have hpk : p + k < l.length := by omega
          have hg : (ByteArray.mk l.toArray)[p + k]'(by rw [ba_size]; exact hpk) = l.getD (p + k) 0 := by
            rw [ba_get, List.getD_eq_getElem?_getD, List.getElem?_eq_getElem hpk]; rfl
          rw [hg]
          rfl
        case measure => simp [RowKit.intOf]; omega
      · obtain rfl : k = n := by omega
        go_wp2_with fail
        go_ret2
        rw [he.out.1, he.out.2.1, he.out.2.2]
        exact ⟨rfl, HR2.out.put hpm, only_put hG _⟩

theorem rdU64_any (b p : Nat) (l : List UInt8) (w : World) (h : RdAt w b l p) :
    Calls Tryz.prog 72 #[.pointer (some ⟨b, 0, none⟩)] w fun e w' =>
      e = .returned (.tuple #[.int .u64 (nbVal l p 8), .int .i64 (nbErr l p 8)]) ∧ RdAt w' b l (nbPos l p 8) ∧ w.grownBy w' (some b) := by
  have H := Lib.hid (number_any b p 8 l w h (by omega))
  clear h
  go_enter Tryz.func72, Tryz.ntmps72
  go_wp2_with fail
  refine H.out.mono ?_
  rintro e w' ⟨rfl, hR, hG⟩
  go_wp2_with fail
  go_ret2
  exact ⟨rfl, hR, hG⟩
end Go.Proofs.YtlpbbjjibnbooaaGreatDoor
