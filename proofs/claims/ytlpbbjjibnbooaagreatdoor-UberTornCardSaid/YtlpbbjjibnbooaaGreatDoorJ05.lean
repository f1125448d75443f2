/-
  Contracts of fletch.Read and ptr.Read.
  Contracts of package ptr: Places, apart, Right.
  The walk of PtrOrder.
  The walk of PtrPlaces.
-/
import Derived.Test.YtlpbbjjibnbooaaGreatDoorJ04
import Derived.Test.YtlpbbjjibnbooaaGreatDoorJ03
import Derived.Test.YtlpbbjjibnbooaaGreatDoorJ02
namespace Go.Proofs.YtlpbbjjibnbooaaGreatDoor
set_option linter.unusedVariables false
set_option linter.unusedSimpArgs false
open Go.RowKit

theorem nb_in {l : List UInt8} {p n : Nat} (h : p + n ≤ l.length) : nbErr l p n = 0 ∧ nbPos l p n = p + n := by
  unfold nbErr nbPos; rw [if_neg (by omega), if_neg (by omega)]; exact ⟨rfl, rfl⟩
theorem RdAt.far2 {w : World} {b p : Nat} {l : List UInt8} (h : RdAt w b l p) {q : Addr} (hq : b ≠ q.block) (u : Value) : RdAt (w.setCell q u) b l p := ⟨(Below.heap_setCell w q u b hq).trans h.1, h.2⟩
theorem RdAt.alloc1 {w : World} {b p : Nat} {l : List UInt8} (h : RdAt w b l p) (o : Obj) : RdAt (w.alloc o) b l p := ⟨(Below.heap_alloc w o b h.lt).trans h.1, h.2⟩
theorem RdAt.alloc2 {w : World} {b p : Nat} {l : List UInt8} (h : RdAt w b l p) (o o' : Obj) : RdAt ((w.alloc o).alloc o') b l p := (h.alloc1 o).alloc1 o'
def sumC (l : List UInt8) (p k : Nat) : Array Value := ((List.range 4).map fun i => if i < k then Value.int .u64 (subN l (p + 8 * i) 8 : Nat) else .int .u64 0).toArray
theorem sumC_put (l : List UInt8) (p : Nat) : ∀ k, k < 4 → (sumC l p k).setIfInBounds k (.int .u64 (subN l (p + 8 * k) 8 : Nat)) = sumC l p (k + 1)
  | 0, _ => rfl
  | 1, _ => rfl
  | 2, _ => rfl
  | 3, _ => rfl
theorem sumC_at (l : List UInt8) (p : Nat) : ∀ k j, k < 4 → ∃ v, (sumC l p j)[k]? = some v := by
  intro k j hk
  exact ⟨_, Array.getElem?_eq_getElem (by simp [sumC]; exact hk)⟩

set_option maxRecDepth 100000 in
set_option maxHeartbeats 1000000 in
theorem fread_any (b p : Nat) (l : List UInt8) (w : World) (h : RdAt w b l p) (hp : p + 32 ≤ l.length) :
    Calls Tryz.prog 33 #[.pointer (some ⟨b, 0, none⟩)] w fun e w' =>
      e = .returned (.tuple #[.agg #[.int .u64 (subN l p 8 : Nat), .int .u64 (subN l (p + 8) 8 : Nat), .int .u64 (subN l (p + 16) 8 : Nat), .int .u64 (subN l (p + 24) 8 : Nat)], .int .i64 0]) ∧ RdAt w' b l (p + 32) ∧ w.grownBy w' (some b) := by
  have hlt := h.lt
  have HR := Lib.hid h
  clear h
  go_enter Tryz.func33, Tryz.ntmps33
  go_wp2_with fail
  go_loopw [8] (fun t wr => ∃ k : Nat, k ≤ 4 ∧ t = .int .i64 k ∧ RdAt wr b l (p + 8 * k) ∧ Blk wr (w.heap.size + 1) 29 (sumC l p k) ∧ Blk wr w.heap.size 29 (sumC l p 0) ∧ w.grownBy wr (some b)) (fun t _ => 4 - (RowKit.intOf t).toNat)
  case atStart =>
    exact ⟨0, by omega, rfl, HR.out.alloc2 _ _, Blk.new2 w _ _ _, (Blk.new _ _ _).alloc _, only_alloc (only_alloc (World.grownBy.refl _ _) _) _⟩
  case round =>
    obtain ⟨k, hk, rfl, hR, hX, hZ, hG⟩ := hrel
    by_cases hlt4 : k < 4
    · have HN := Lib.hid (nb_in (l := l) (p := p + 8 * k) (n := 8) (by omega))
      have HV := Lib.hid (rdN_sub (s := l) (k := p + 8 * k) (n := 8) (by omega))
      have HG := Lib.hid hG
      have HX := Lib.hid hX
      have HZ := Lib.hid hZ
      have HRR := Lib.hid hR
      clear hR hX hZ hG
      go_wp2_with fail
      refine (rU64_any b _ l _ HRR.out).mono ?_
      rintro e w1 ⟨rfl, hR1, hG1⟩
      rw [HN.out.1, HV.out]
      rw [HN.out.2] at hR1
      have hX1 := HX.out.grown hG1 (by omega)
      have hZ1 := HZ.out.grown hG1 (by omega)
      have hG2 := only_then HG.out hG1 (.inl rfl)
      obtain ⟨v, hv⟩ := sumC_at l p k k hlt4
      have c1 := hX1.at_ hv
      have f1 := hX1.fr k
      have HX1 := Lib.hid hX1
      have HZ1 := Lib.hid hZ1
      have HR1 := Lib.hid hR1
      have i0 : (0 : Int) ≤ k := by omega
      have i1 : (k : Int) < 4 := by omega
      clear hX1 hZ1 hR1 hG1 HX HZ HG HRR hv
      go_wp2_with fail
      go_roundw
      case rel =>
        refine ⟨k + 1, by omega, by go_num, ?_, ?_, HZ1.out.far (by simp) _, only_set hG2 (.inr (by simp)) _⟩
        · exact HR1.out.far2 (by simp; omega) _
        · rw [← sumC_put l p k hlt4]; exact HX1.out.put k _
      case measure => simp [RowKit.intOf]; omega
    · obtain rfl : k = 4 := by omega
      have HG := Lib.hid hG
      have HX := Lib.hid hX
      have HZ := Lib.hid hZ
      have HRR := Lib.hid hR
      have x0 := hX.at_ (i := 0) (v := .int .u64 (subN l p 8 : Nat)) rfl
      have x1 := hX.at_ (i := 1) (v := .int .u64 (subN l (p + 8) 8 : Nat)) rfl
      have x2 := hX.at_ (i := 2) (v := .int .u64 (subN l (p + 16) 8 : Nat)) rfl
      have x3 := hX.at_ (i := 3) (v := .int .u64 (subN l (p + 24) 8 : Nat)) rfl
      have z0 := hZ.at_ (i := 0) (v := .int .u64 0) rfl
      have z1 := hZ.at_ (i := 1) (v := .int .u64 0) rfl
      have z2 := hZ.at_ (i := 2) (v := .int .u64 0) rfl
      have z3 := hZ.at_ (i := 3) (v := .int .u64 0) rfl
      have f0 := hZ.fr 0
      have f1 := hZ.fr 1
      have f2 := hZ.fr 2
      have f3 := hZ.fr 3
      clear hX hZ hG hR
      go_wp2_with fail
      refine bodyPost_ret (v := .tuple #[.agg (sumC l p 4), .int .i64 0]) (by simp [results, Tryz.results33, go_sem, sumC, z0, z1, z2, z3]) rfl ⟨rfl, ?_, ?_⟩
      · exact (((HRR.out.far2 (by simp; omega) _).far2 (by simp; omega) _).far2 (by simp; omega) _).far2 (by simp; omega) _
      · exact only_set (only_set (only_set (only_set HG.out (.inr (by simp)) _) (.inr (by simp)) _) (.inr (by simp)) _) (.inr (by simp)) _

theorem i64_and255 (n : Int) : bits .and .i64 n 255 = n % 256 := by
  have h : (BitVec.ofInt 64 255).toNat = 2 ^ 8 - 1 := by decide
  have key : (BitVec.ofInt 64 n &&& BitVec.ofInt 64 255).toNat = (n % ((2 ^ 64 : Nat) : Int)).toNat % 2 ^ 8 := by
    rw [BitVec.toNat_and, BitVec.toNat_ofInt, h, Nat.and_two_pow_sub_one_eq_mod]
  show IntKind.i64.wrap ((BitVec.ofInt 64 n &&& BitVec.ofInt 64 255).toNat : Nat) = n % 256
  rw [key, IntKind.wrap_i64]
  · omega
  all_goals omega
def intC (l : List UInt8) (k : Nat) : Array Value := ((List.range 6).map fun i => if i < k then Value.int .i64 (subN l (4 * i) 4 : Nat) else .int .i64 0).toArray
theorem intC_put (l : List UInt8) : ∀ k, k < 6 → (intC l k).setIfInBounds k (.int .i64 (subN l (4 * k) 4 : Nat)) = intC l (k + 1)
  | 0, _ => rfl
  | 1, _ => rfl
  | 2, _ => rfl
  | 3, _ => rfl
  | 4, _ => rfl
  | 5, _ => rfl
theorem intC_at (l : List UInt8) : ∀ k j, k < 6 → ∃ v, (intC l j)[k]? = some v := by
  intro k j hk
  exact ⟨_, Array.getElem?_eq_getElem (by simp [intC]; exact hk)⟩

set_option maxRecDepth 100000 in
set_option maxHeartbeats 2000000 in
theorem pread_any (s : List UInt8) (w : World) (hl : s.length ≤ 140737488351232) :
    Calls Tryz.prog 73 #[str s] w fun e w' => e = .returned (.tuple #[.agg (readV s).cells, .int .i64 (readE s)]) ∧ Below w.heap.size w w' := by
  by_cases h1 : s.length < 64
  · have he : Hid (readE s = 2 ∧ readV s = ptrZ) := by
      have : readE s = 2 := by unfold readE; rw [if_pos h1]
      unfold Hid readV; rw [this]; exact ⟨rfl, rfl⟩
    rw [he.out.1, he.out.2]
    go_enter Tryz.func73, Tryz.ntmps73
    go_wp2_with fail
    refine bodyPost_ret (v := .tuple #[.agg ptrZ.cells, .int .i64 2]) (by simp [results, Tryz.results73, go_sem, PtrD.cells, ptrZ]) rfl ⟨rfl, ?_⟩
    exact (Below.refl _ _).alloc (Nat.le_refl _) _
  · by_cases h2 : 64 < s.length
    · have he : Hid (readE s = 3 ∧ readV s = ptrZ) := by
        have : readE s = 3 := by unfold readE; rw [if_neg h1, if_pos h2]
        unfold Hid readV; rw [this]; exact ⟨rfl, rfl⟩
      rw [he.out.1, he.out.2]
      go_enter Tryz.func73, Tryz.ntmps73
      go_wp2_with fail
      refine bodyPost_ret (v := .tuple #[.agg ptrZ.cells, .int .i64 3]) (by simp [results, Tryz.results73, go_sem, PtrD.cells, ptrZ]) rfl ⟨rfl, ?_⟩
      exact (Below.refl _ _).alloc (Nat.le_refl _) _
    · have h3 : s.length = 64 := by omega
      have HL := Lib.hid h3
      clear h3
      go_enter Tryz.func73, Tryz.ntmps73
      go_wp2_with fail
      refine (new_any s _ hl).mono ?_
      rintro e w1 ⟨rfl, hR, hb⟩
      have hz : w.heap.size < (w.alloc (.cells ptrZ.cells 31)).heap.size := by simp
      have hb1 : Below w.heap.size w (w.alloc (.cells ptrZ.cells 31)) := (Below.refl _ _).alloc (Nat.le_refl _) _
      have hb2 : Below w.heap.size w w1 := hb1.trans (hb.mono hb1.size)
      have hZ : Blk w1 w.heap.size 31 ptrZ.cells := (Blk.new w 31 ptrZ.cells).below hb hz
      have hs : w.heap.size < w1.heap.size := Nat.lt_of_lt_of_le hz hb.size
      rw [World.size_alloc] at hR
      have HR := Lib.hid hR
      have HZ := Lib.hid hZ
      have hrb : w.heap.size + 1 < w1.heap.size := by have := hR.lt; simpa using this
      have HW : Hid (w.heap.size ≤ w1.heap.size) := Lib.hid (by omega)
      clear hR hZ hb hz hb1
      go_wp2_with fail
      go_loopw [21] (fun t wr => ∃ k : Nat, k ≤ 6 ∧ t = .int .i64 k ∧ RdAt wr (w.heap.size + 1) s (4 * k) ∧ Blk wr w1.heap.size 156 (intC s k) ∧ Blk wr w.heap.size 31 ptrZ.cells ∧ w1.grownBy wr (some (w.heap.size + 1))) (fun t _ => 6 - (RowKit.intOf t).toNat)
      case atStart => exact ⟨0, by omega, rfl, HR.out.alloc1 _, Blk.new _ _ _, HZ.out.alloc _, only_alloc (World.grownBy.refl _ _) _⟩
      case round =>
        obtain ⟨k, hk, rfl, hR, hX, hZ, hG⟩ := hrel
        by_cases hlt6 : k < 6
        · have HN := Lib.hid (nb_in (l := s) (p := 4 * k) (n := 4) (by have := HL.out; omega))
          have HV := Lib.hid (rdN_sub (s := s) (k := 4 * k) (n := 4) (by have := HL.out; omega))
          have HG := Lib.hid hG
          have HX := Lib.hid hX
          have HZ := Lib.hid hZ
          have HRR := Lib.hid hR
          clear hR hX hZ hG
          go_wp2_with fail
          refine (rU32_any _ _ s _ HRR.out).mono ?_
          rintro e w2 ⟨rfl, hR1, hG1⟩
          rw [HN.out.1, HV.out]
          rw [HN.out.2] at hR1
          have hX1 := HX.out.grown hG1 (by omega)
          have hZ1 := HZ.out.grown hG1 (by omega)
          have hG2 := only_then HG.out hG1 (.inl rfl)
          obtain ⟨v, hv⟩ := intC_at s k k hlt6
          have c1 := hX1.at_ hv
          have f1 := hX1.fr k
          have HX1 := Lib.hid hX1
          have HZ1 := Lib.hid hZ1
          have HR1 := Lib.hid hR1
          have i0 : (0 : Int) ≤ k := by omega
          have i1 : (k : Int) < 6 := by omega
          clear hX1 hZ1 hR1 hG1 HX HZ HG HRR hv
          go_wp2_with fail
          go_roundw
          case rel =>
            refine ⟨k + 1, by omega, by go_num, ?_, ?_, HZ1.out.far (by simp; omega) _, only_set hG2 (.inr (by simp)) _⟩
            · exact HR1.out.far2 (by simp; omega) _
            · rw [← intC_put s k hlt6]; exact HX1.out.put k _
          case measure => simp [RowKit.intOf]; omega
        · obtain rfl : k = 6 := by omega
          have hR24 : RdAt wr (w.heap.size + 1) s 24 := hR
          have HRR := Lib.hid (fread_any (w.heap.size + 1) 24 s wr hR24 (by have := HL.out; omega))
          have HX := Lib.hid hX
          have HZ := Lib.hid hZ
          have HG := Lib.hid hG
          have hsz := hG.size
          clear hR hR24 hX hZ hG
          go_wp2_with fail
          refine HRR.out.mono ?_
          rintro e w3 ⟨rfl, hR3, hG3⟩
          have hX3 := HX.out.grown hG3 (by omega)
          have hZ3 := HZ.out.grown hG3 (by omega)
          have hG4 := only_then HG.out hG3 (.inl rfl)
          have HB : Hid (Below w.heap.size w w3) := Lib.hid (below_only hb2 hG4 (by omega))
          have HXX := Lib.hid hX3
          have HZZ := Lib.hid hZ3
          have HR3 := Lib.hid hR3
          have hs3 : w1.heap.size < w3.heap.size := hX3.lt
          clear hX3 hZ3 hR3 hG3 hG4 HX HZ HG HRR hsz
          have x0 := HXX.out.at_ (i := 0) (v := .int .i64 (subN s 0 4 : Nat)) rfl
          have x1 := HXX.out.at_ (i := 1) (v := .int .i64 (subN s 4 4 : Nat)) rfl
          have x2 := HXX.out.at_ (i := 2) (v := .int .i64 (subN s 8 4 : Nat)) rfl
          have x3 := HXX.out.at_ (i := 3) (v := .int .i64 (subN s 12 4 : Nat)) rfl
          have x4 := HXX.out.at_ (i := 4) (v := .int .i64 (subN s 16 4 : Nat)) rfl
          have x5 := HXX.out.at_ (i := 5) (v := .int .i64 (subN s 20 4 : Nat)) rfl
          have z0 := HZZ.out.at_ (i := 0) (v := .int .i64 0) rfl
          have f0 := HZZ.out.fr 0
          have z1 := HZZ.out.at_ (i := 1) (v := .int .i64 0) rfl
          have f1 := HZZ.out.fr 1
          have z2 := HZZ.out.at_ (i := 2) (v := .int .i64 0) rfl
          have f2 := HZZ.out.fr 2
          have z3 := HZZ.out.at_ (i := 3) (v := .int .i64 0) rfl
          have f3 := HZZ.out.fr 3
          have z4 := HZZ.out.at_ (i := 4) (v := .bool false) rfl
          have f4 := HZZ.out.fr 4
          have z5 := HZZ.out.at_ (i := 5) (v := .int .i64 0) rfl
          have f5 := HZZ.out.fr 5
          have z6 := HZZ.out.at_ (i := 6) (v := .int .i64 0) rfl
          have f6 := HZZ.out.fr 6
          have z7 := HZZ.out.at_ (i := 7) (v := .int .i64 0) rfl
          have f7 := HZZ.out.fr 7
          have z8 := HZZ.out.at_ (i := 8) (v := .int .u64 0) rfl
          have f8 := HZZ.out.fr 8
          have z9 := HZZ.out.at_ (i := 9) (v := .int .u64 0) rfl
          have f9 := HZZ.out.fr 9
          have z10 := HZZ.out.at_ (i := 10) (v := .int .u64 0) rfl
          have f10 := HZZ.out.fr 10
          have z11 := HZZ.out.at_ (i := 11) (v := .int .u64 0) rfl
          have f11 := HZZ.out.fr 11
          have hw3 : w.heap.size < w3.heap.size := by omega
          have n4 := subN_lt s 16 4
          by_cases hbig : 131071 < subN s 16 4
          · have he : Hid (readE s = 3 ∧ readV s = ptrZ) := by
              have : readE s = 3 := by unfold readE; rw [if_neg h1, if_neg h2, if_pos hbig]
              unfold Hid readV; rw [this]; exact ⟨rfl, rfl⟩
            go_wp2_with fail
            refine bodyPost_ret (v := .tuple #[.agg ptrZ.cells, .int .i64 3]) (by simp [results, Tryz.results73, go_sem, PtrD.cells, ptrZ, hw3, z0, z1, z2, z3, z4, z5, z6, z7, z8, z9, z10, z11]) rfl ⟨by rw [he.out.1, he.out.2], ?_⟩
            repeat (first | (with_reducible exact HB.out) | (with_reducible refine keep_alloc ?_ _) | (with_reducible refine below_drewN ?_ _) | (with_reducible refine below_set ?_ _ _ _ (Nat.le_refl _)))
          · have HRA := HR3.out.alloc1 (.cells #[.int .u64 (subN s 24 8 : Nat), .int .u64 (subN s 32 8 : Nat), .int .u64 (subN s 40 8 : Nat), .int .u64 (subN s 48 8 : Nat)] 29)
            have HZR := Lib.hid (rZeros_any _ _ s _ HRA)
            clear HRA
            cases hz : allZ (s.drop 56) with
            | true =>
              have he : Hid (readE s = 0 ∧ readV s = readP s) := by
                have : readE s = 0 := by unfold readE; rw [if_neg h1, if_neg h2, if_neg hbig, if_pos hz]
                unfold Hid readV; rw [this]; exact ⟨rfl, rfl⟩
              have HZ5 := Lib.hid hz
              clear hz
              go_wp2_with fail
              refine HZR.out.mono ?_
              rintro e w4 ⟨rfl, k4, rfl⟩
              rw [HZ5.out]
              go_wp2_with fail
              have ha1 : bits .and .i64 ((subN s 16 4 : Nat) : Int) 255 = ((subN s 16 4 % 256 : Nat) : Int) := by rw [i64_and255]; omega
              have ha2 : bits .and .i64 (((subN s 16 4 : Nat) : Int) / 256) 255 = ((subN s 16 4 / 256 % 256 : Nat) : Int) := by rw [i64_and255]; omega
              have hbt : decide ((0 : Int) < ((subN s 16 4 : Nat) : Int) / 65536) = decide (65536 ≤ subN s 16 4) := decide_eq_decide.2 (by omega)
              rw [ha1, ha2, hbt]
              refine bodyPost_ret (v := .tuple #[.agg (readP s).cells, .int .i64 0]) (by simp [results, Tryz.results73, go_sem, PtrD.cells, readP, hw3, z0, z1, z2, z3, z4, z5, z6, z7, z8, z9, z10, z11]) rfl ⟨by rw [he.out.1, he.out.2], ?_⟩
              repeat (first | (with_reducible exact HB.out) | (with_reducible refine keep_alloc ?_ _) | (with_reducible refine below_drewN ?_ _) | (with_reducible refine below_set ?_ _ _ _ (Nat.le_refl _)))
            | false =>
              have he : Hid (readE s = 3 ∧ readV s = ptrZ) := by
                have : readE s = 3 := by unfold readE; rw [if_neg h1, if_neg h2, if_neg hbig, hz]; rfl
                unfold Hid readV; rw [this]; exact ⟨rfl, rfl⟩
              have HZ5 := Lib.hid hz
              clear hz
              go_wp2_with fail
              refine HZR.out.mono ?_
              rintro e w4 ⟨rfl, k4, rfl⟩
              rw [HZ5.out]
              go_wp2_with fail
              refine bodyPost_ret (v := .tuple #[.agg ptrZ.cells, .int .i64 3]) (by simp [results, Tryz.results73, go_sem, PtrD.cells, ptrZ, hw3, z0, z1, z2, z3, z4, z5, z6, z7, z8, z9, z10, z11]) rfl ⟨by rw [he.out.1, he.out.2], ?_⟩
              repeat (first | (with_reducible exact HB.out) | (with_reducible refine keep_alloc ?_ _) | (with_reducible refine below_drewN ?_ _) | (with_reducible refine below_set ?_ _ _ _ (Nat.le_refl _)))
end Go.Proofs.YtlpbbjjibnbooaaGreatDoor

namespace Go.Proofs.YtlpbbjjibnbooaaGreatDoor
set_option linter.unusedVariables false
set_option linter.unusedSimpArgs false
open Go.RowKit

set_option maxRecDepth 100000 in
set_option maxHeartbeats 2000000 in
theorem apart_any (A : Option Addr) (n c : Nat) (gs : List (Int × Int)) (secs ag aa bg ba size : Int) (w : World) (hg : GeoAt w A n gs) (hba : 0 ≤ ba) (hba1 : ba ≤ 100000) (haa : 0 ≤ aa) (haa1 : aa ≤ 100000) :
    Calls Tryz.prog 108 #[.agg #[.slice A n c, .int .i64 secs], .agg #[.int .i64 ag, .int .i64 aa], .agg #[.int .i64 bg, .int .i64 ba], .int .i64 size] w fun e w' => e = .returned (.bool (apB gs secs ag aa bg ba size)) ∧ Below w.heap.size w w' := by
  have hb0 : Below w.heap.size w (((w.alloc (Obj.cells #[Value.slice A n c, Value.int IntKind.i64 secs] 24)).alloc (Obj.cells #[Value.int IntKind.i64 ag, Value.int IntKind.i64 aa] 26)).alloc (Obj.cells #[Value.int IntKind.i64 bg, Value.int IntKind.i64 ba] 26)) :=
    (((Below.refl _ _).alloc (Nat.le_refl _) _).alloc (by simp) _).alloc (by simp; omega) _
  go_enter Tryz.func108, Tryz.ntmps108
  go_wp2_with fail
  obtain ⟨ht1, ht2⟩ := gTakes_bd gs secs ag size
  obtain ⟨ht3, ht4⟩ := gTakes_bd gs secs bg size
  obtain ⟨w3, hw3⟩ : ∃ w3 : World, w3 = (((w.alloc (Obj.cells #[Value.slice A n c, Value.int IntKind.i64 secs] 24)).alloc (Obj.cells #[Value.int IntKind.i64 ag, Value.int IntKind.i64 aa] 26)).alloc (Obj.cells #[Value.int IntKind.i64 bg, Value.int IntKind.i64 ba] 26)) := ⟨_, rfl⟩
  have m1 : w3.cell? ⟨w.heap.size, 0, none⟩ = some (.slice A n c) := by rw [hw3]; exact cell_alloc (cell_alloc (cell_new rfl rfl) _) _
  have m2 : w3.cell? ⟨w.heap.size, 1, none⟩ = some (.int .i64 secs) := by rw [hw3]; exact cell_alloc (cell_alloc (cell_new rfl rfl) _) _
  have m3 : w3.cell? ⟨w.heap.size + 1, 0, none⟩ = some (.int .i64 ag) := by rw [hw3]; exact cell_alloc (cell_new (by simp) rfl) _
  have m4 : w3.cell? ⟨w.heap.size + 1, 1, none⟩ = some (.int .i64 aa) := by rw [hw3]; exact cell_alloc (cell_new (by simp) rfl) _
  have m5 : w3.cell? ⟨w.heap.size + 2, 0, none⟩ = some (.int .i64 bg) := by rw [hw3]; exact cell_new (by simp) rfl
  have m6 : w3.cell? ⟨w.heap.size + 2, 1, none⟩ = some (.int .i64 ba) := by rw [hw3]; exact cell_new (by simp) rfl
  have hs3 : w.heap.size + 3 ≤ w3.heap.size := by rw [hw3]; simp
  rw [← hw3] at hb0 ⊢
  clear hw3
  have HT : Hid (∀ (g s : Int) W, Below w3.heap.size w3 W → Calls Tryz.prog 131 #[.agg #[.slice A n c, .int .i64 secs], .int .i64 g, .int .i64 s] W fun e w' => e = .returned (.int .i64 (gTakes gs secs g s)) ∧ Below W.heap.size W w') :=
    Lib.hid fun g s W hb => takes_any A n c gs secs g s W (hg.below (hb0.trans (hb.mono hb0.size)) (Nat.le_refl _))
  have w1' : IntKind.i64.wrap (aa + gTakes gs secs ag size) = aa + gTakes gs secs ag size := by rw [IntKind.wrap_i64]; omega
  have w2' : IntKind.i64.wrap (ba + gTakes gs secs bg size) = ba + gTakes gs secs bg size := by rw [IntKind.wrap_i64]; omega
  obtain ⟨C, hC, hC0, hCB, hCK, hCd⟩ := cls_below w3
  have f1 : ∀ W, C W → W.cell? ⟨w.heap.size, 0, none⟩ = some (.slice A n c) := fun W h => keep_cell (hCB W h) m1 (by omega)
  have f2 : ∀ W, C W → W.cell? ⟨w.heap.size, 1, none⟩ = some (.int .i64 secs) := fun W h => keep_cell (hCB W h) m2 (by omega)
  have f3 : ∀ W, C W → W.cell? ⟨w.heap.size + 1, 0, none⟩ = some (.int .i64 ag) := fun W h => keep_cell (hCB W h) m3 (by omega)
  have f4 : ∀ W, C W → W.cell? ⟨w.heap.size + 1, 1, none⟩ = some (.int .i64 aa) := fun W h => keep_cell (hCB W h) m4 (by omega)
  have f5 : ∀ W, C W → W.cell? ⟨w.heap.size + 2, 0, none⟩ = some (.int .i64 bg) := fun W h => keep_cell (hCB W h) m5 (by omega)
  have f6 : ∀ W, C W → W.cell? ⟨w.heap.size + 2, 1, none⟩ = some (.int .i64 ba) := fun W h => keep_cell (hCB W h) m6 (by omega)
  have HA : Hid (apB gs secs ag aa bg ba size = ((ag != bg) || (decide (aa + gTakes gs secs ag size ≤ ba) || decide (ba + gTakes gs secs bg size ≤ aa)))) := Lib.hid rfl
  clear m1 m2 m3 m4 m5 m6 hg ht1 ht2 ht3 ht4
  cases h1 : (ag != bg) with
  | true =>
    have hv : Hid (apB gs secs ag aa bg ba size = true) := by unfold Hid; rw [HA.out, h1]; rfl
    refine wp_region_cls C (by kernel_rfl) (by kernel_rfl) hC ?_
    repeat (first
      | go_big_quiet_skip
      | (go_big_quiet_want
         go_big_quiet_op
         first
           | go_big_quiet_on
           | (apply Exists.intro
              refine ⟨fun W hW => ?_, ?_⟩
              · first
                  | exact rfl
                  | exact ⟨rfl, rfl⟩
                  | (have e0 := f1 W hW; have e1 := f2 W hW; have e2 := f3 W hW; have e3 := f4 W hW; have e4 := f5 W hW; have e5 := f6 W hW; simp only [e0, e1, e2, e3, e4, e5, Result.andThen_ok]; done)
                  | (have e0 := f1 W hW; have e1 := f2 W hW; have e2 := f3 W hW; have e3 := f4 W hW; have e4 := f5 W hW; have e5 := f6 W hW; simp only [e0, e1, e2, e3, e4, e5, Result.andThen_ok]; first | exact ⟨trivial, rfl⟩ | exact rfl | exact ⟨rfl, rfl⟩)
                  | (refine (HT.out _ _ W (hCB W hW)).mono ?_; rintro e w' ⟨rfl, hb⟩; exact ⟨rfl, hCK _ _ hW hb⟩)
              go_big_quiet_on)))
    refine wpQuiet_nil ?_
    intro w' hw'
    go_wp2_with fail
    go_ret
    exact ⟨ret_bool hv.out.symm, hb0.trans ((hCB w' hw').mono hb0.size)⟩
  | false =>
    cases h2 : decide (aa + gTakes gs secs ag size ≤ ba) with
    | true =>
      have hv : Hid (apB gs secs ag aa bg ba size = true) := by unfold Hid; rw [HA.out, h1, h2]; rfl
      refine wp_region_cls C (by kernel_rfl) (by kernel_rfl) hC ?_
      repeat (first
        | go_big_quiet_skip
        | (go_big_quiet_want
           go_big_quiet_op
           first
             | go_big_quiet_on
             | (apply Exists.intro
                refine ⟨fun W hW => ?_, ?_⟩
                · first
                    | exact rfl
                    | exact ⟨rfl, rfl⟩
                    | (have e0 := f1 W hW; have e1 := f2 W hW; have e2 := f3 W hW; have e3 := f4 W hW; have e4 := f5 W hW; have e5 := f6 W hW; simp only [e0, e1, e2, e3, e4, e5, Result.andThen_ok]; done)
                    | (have e0 := f1 W hW; have e1 := f2 W hW; have e2 := f3 W hW; have e3 := f4 W hW; have e4 := f5 W hW; have e5 := f6 W hW; simp only [e0, e1, e2, e3, e4, e5, Result.andThen_ok]; first | exact ⟨trivial, rfl⟩ | exact rfl | exact ⟨rfl, rfl⟩)
                    | (refine (HT.out _ _ W (hCB W hW)).mono ?_; rintro e w' ⟨rfl, hb⟩; exact ⟨rfl, hCK _ _ hW hb⟩)
                go_big_quiet_on)))
      refine wpQuiet_nil ?_
      intro w' hw'
      go_wp2_with fail
      go_ret
      exact ⟨ret_bool hv.out.symm, hb0.trans ((hCB w' hw').mono hb0.size)⟩
    | false =>
      have hv : Hid (apB gs secs ag aa bg ba size = decide (ba + gTakes gs secs bg size ≤ aa)) := by unfold Hid; rw [HA.out, h1, h2]; rfl
      refine wp_region_cls C (by kernel_rfl) (by kernel_rfl) hC ?_
      repeat (first
        | go_big_quiet_skip
        | (go_big_quiet_want
           go_big_quiet_op
           first
             | go_big_quiet_on
             | (apply Exists.intro
                refine ⟨fun W hW => ?_, ?_⟩
                · first
                    | exact rfl
                    | exact ⟨rfl, rfl⟩
                    | (have e0 := f1 W hW; have e1 := f2 W hW; have e2 := f3 W hW; have e3 := f4 W hW; have e4 := f5 W hW; have e5 := f6 W hW; simp only [e0, e1, e2, e3, e4, e5, Result.andThen_ok]; done)
                    | (have e0 := f1 W hW; have e1 := f2 W hW; have e2 := f3 W hW; have e3 := f4 W hW; have e4 := f5 W hW; have e5 := f6 W hW; simp only [e0, e1, e2, e3, e4, e5, Result.andThen_ok]; first | exact ⟨trivial, rfl⟩ | exact rfl | exact ⟨rfl, rfl⟩)
                    | (refine (HT.out _ _ W (hCB W hW)).mono ?_; rintro e w' ⟨rfl, hb⟩; exact ⟨rfl, hCK _ _ hW hb⟩)
                go_big_quiet_on)))
      refine wpQuiet_nil ?_
      intro w' hw'
      go_wp2_with fail
      go_ret
      exact ⟨ret_bool hv.out.symm, hb0.trans ((hCB w' hw').mono hb0.size)⟩

set_option maxRecDepth 100000 in
set_option maxHeartbeats 2000000 in
theorem pright_any (A : Option Addr) (n c : Nat) (gs : List (Int × Int)) (secs : Int) (p : PtrD) (w : World) (hg : GeoAt w A n gs) :
    Calls Tryz.prog 75 #[.agg #[.slice A n c, .int .i64 secs], .agg p.cells] w fun e w' => e = .returned (.bool (rightB gs secs p)) ∧ Below w.heap.size w w' := by
  have hb0 : Below w.heap.size w ((w.alloc (Obj.cells #[Value.slice A n c, Value.int IntKind.i64 secs] 24)).alloc (.cells p.cells 31)) :=
    ((Below.refl _ _).alloc (Nat.le_refl _) _).alloc (by simp) _
  have HP := Lib.hid (PtrAt.new (w.alloc (Obj.cells #[Value.slice A n c, Value.int IntKind.i64 secs] 24)) p 31)
  rw [World.size_alloc] at HP
  have h := HP.out
  obtain ⟨h0, h1, h2, h3, h4, h5, h6, h7, h8, h9, ha, hc⟩ := h
  simp only [Nat.zero_add] at h1 h2 h3 h4 h5 h6 h7 h8 h9 ha hc
  have hs0 : w.heap.size + 2 ≤ ((w.alloc (Obj.cells #[Value.slice A n c, Value.int IntKind.i64 secs] 24)).alloc (.cells p.cells 31)).heap.size := by simp
  have k1 : ((w.alloc (Obj.cells #[Value.slice A n c, Value.int IntKind.i64 secs] 24)).alloc (.cells p.cells 31)).cell? ⟨w.heap.size, 0, none⟩ = some (.slice A n c) := cell_alloc (cell_new rfl rfl) _
  have k2 : ((w.alloc (Obj.cells #[Value.slice A n c, Value.int IntKind.i64 secs] 24)).alloc (.cells p.cells 31)).cell? ⟨w.heap.size, 1, none⟩ = some (.int .i64 secs) := cell_alloc (cell_new rfl rfl) _
  by_cases hgood : (0 ≤ p.level ∧ p.level ≤ 3) ∧ (1 ≤ p.birth ∧ p.birth ≤ 4294967295)
  · obtain ⟨⟨g1, g2⟩, g3, g4⟩ := hgood
    have HR : Hid (rightB gs secs p = (cMay gs secs p.ag p.aa p.size && (if p.two then cMay gs secs p.bg p.ba p.size && apB gs secs p.ag p.aa p.bg p.ba p.size else p.bg == 0 && p.ba == 0))) := by
      unfold Hid rightB; rw [decide_eq_true g1, decide_eq_true g2, decide_eq_true g3, decide_eq_true g4]; rfl
    go_enter Tryz.func75, Tryz.ntmps75
    go_wp2_with fail
    refine (of_any A n c gs secs p.ag p.aa p.size _ (hg.below hb0 (Nat.le_refl _))).mono ?_
    rintro e w1 ⟨v1, rfl, _, hb1⟩
    have hP1 := HP.out.keep hb1 (by omega)
    have hb2 := hb0.trans (hb1.mono hb0.size)
    have hs1 := keep_size hb1 hs0
    have l1 := keep_cell hb1 k1 (by omega)
    have l2 := keep_cell hb1 k2 (by omega)
    clear h0 h1 h2 h3 h4 h5 h6 h7 h8 h9 ha hc hb1 k1 k2
    by_cases hp : cMay gs secs p.ag p.aa p.size = true
    · have e1 : ofErr gs secs p.ag p.aa p.size = 0 := by unfold ofErr; rw [if_pos hp]
      have hbd := cMay_bd hp
      rw [e1]
      rw [hp, Bool.true_and] at HR
      clear hp e1
      have HP1 := Lib.hid hP1
      obtain ⟨h0, h1, h2, h3, h4, h5, h6, h7, h8, h9, ha, hc⟩ := hP1
      simp only [Nat.zero_add] at h1 h2 h3 h4 h5 h6 h7 h8 h9 ha hc
      cases ht : p.two with
      | false =>
        rw [ht] at h4 HR
        rw [if_neg (by simp)] at HR
        have he := fun W => eql_place p.bg p.ba 0 0 W
        go_wp2_with fail
        go_ret
        exact ⟨ret_bool HR.out.symm, hb2⟩
      | true =>
        rw [ht] at h4 HR
        rw [if_pos rfl] at HR
        go_wp2_with fail
        refine (of_any A n c gs secs p.bg p.ba p.size _ (hg.below hb2 (Nat.le_refl _))).mono ?_
        rintro e w2 ⟨v2, rfl, _, hb3⟩
        have hP2 := HP1.out.keep hb3 (by omega)
        have hb4 := hb2.trans (hb3.mono hb2.size)
        have hs2 := keep_size hb3 hs1
        have n1 := keep_cell hb3 l1 (by omega)
        have n2 := keep_cell hb3 l2 (by omega)
        clear h0 h1 h2 h3 h4 h5 h6 h7 h8 h9 ha hc hb3 l1 l2
        by_cases hq : cMay gs secs p.bg p.ba p.size = true
        · have e1 : ofErr gs secs p.bg p.ba p.size = 0 := by unfold ofErr; rw [if_pos hq]
          have hbq := cMay_bd hq
          rw [e1]
          rw [hq, Bool.true_and] at HR
          clear hq e1
          obtain ⟨h0, h1, h2, h3, h4, h5, h6, h7, h8, h9, ha, hc⟩ := hP2
          simp only [Nat.zero_add] at h1 h2 h3 h4 h5 h6 h7 h8 h9 ha hc
          rw [ht] at h4
          go_wp2_with fail
          refine (apart_any A n c gs secs p.ag p.aa p.bg p.ba p.size _ (hg.below hb4 (Nat.le_refl _)) (by omega) (by omega) (by omega) (by omega)).mono ?_
          rintro e w3 ⟨rfl, hb5⟩
          go_wp2_with fail
          go_ret
          exact ⟨ret_bool HR.out.symm, hb4.trans (hb5.mono hb4.size)⟩
        · have e1 : ofErr gs secs p.bg p.ba p.size = 1 := by unfold ofErr; rw [if_neg hq]
          have hq' : cMay gs secs p.bg p.ba p.size = false := by simpa using hq
          rw [e1]
          rw [hq', Bool.false_and] at HR
          go_wp2_with fail
          go_ret
          exact ⟨ret_bool HR.out.symm, hb4⟩
    · have e1 : ofErr gs secs p.ag p.aa p.size = 1 := by unfold ofErr; rw [if_neg hp]
      have hp' : cMay gs secs p.ag p.aa p.size = false := by simpa using hp
      rw [e1]
      rw [hp', Bool.false_and] at HR
      go_wp2_with fail
      go_ret
      exact ⟨ret_bool HR.out.symm, hb2⟩
  · have HR : Hid (rightB gs secs p = false) := by
      unfold Hid
      cases hr : rightB gs secs p with
      | false => rfl
      | true =>
        simp only [rightB, Bool.and_eq_true, decide_eq_true_eq] at hr
        exact absurd ⟨⟨hr.1.1.1.1.1, hr.1.1.1.1.2⟩, hr.1.1.1.2, hr.1.1.2⟩ hgood
    go_enter Tryz.func75, Tryz.ntmps75
    go_wp2_with fail
    all_goals first | (exfalso; omega) | (go_ret; exact ⟨ret_bool HR.out.symm, hb0⟩)
end Go.Proofs.YtlpbbjjibnbooaaGreatDoor

namespace Go.Proofs.YtlpbbjjibnbooaaGreatDoor
open Go.RowKit
set_option linter.unusedVariables false

theorem ptrZ_ok : ptrZ.Ok := by unfold PtrD.Ok ptrZ; decide
end Go.Proofs.YtlpbbjjibnbooaaGreatDoor

namespace Go.Proofs.YtlpbbjjibnbooaaGreatDoor
set_option linter.unusedVariables false
set_option linter.unusedSimpArgs false
open Go.RowKit

end Go.Proofs.YtlpbbjjibnbooaaGreatDoor
