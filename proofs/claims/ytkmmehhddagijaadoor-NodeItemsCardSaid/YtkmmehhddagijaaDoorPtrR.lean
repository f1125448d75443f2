/-
  Contracts of fletch.Read and ptr.Read.
-/
import Derived.Test.YtkmmehhddagijaaDoorPtrRP
import Derived.Test.YtkmmehhddagijaaDoorBlk
namespace Go.Proofs.YtkmmehhddagijaaDoor
set_option linter.unusedVariables false
set_option linter.unusedSimpArgs false
open Go.RowKit

theorem nb_in {l : List UInt8} {p n : Nat} (h : p + n ≤ l.length) : nbErr l p n = 0 ∧ nbPos l p n = p + n := by
  unfold nbErr nbPos; rw [if_neg (by omega), if_neg (by omega)]; exact ⟨rfl, rfl⟩
theorem RdAt.far2 {w : World} {b p : Nat} {l : List UInt8} (h : RdAt w b l p) {q : Addr} (hq : b ≠ q.block) (u : Value) : RdAt (w.setCell q u) b l p := ⟨(Below.heap_setCell w q u b hq).trans h.1, h.2⟩
theorem RdAt.alloc1 {w : World} {b p : Nat} {l : List UInt8} (h : RdAt w b l p) (o : Obj) : RdAt (w.alloc o) b l p := ⟨(Below.heap_alloc w o b h.lt).trans h.1, h.2⟩
theorem RdAt.alloc2 {w : World} {b p : Nat} {l : List UInt8} (h : RdAt w b l p) (o o' : Obj) : RdAt ((w.alloc o).alloc o') b l p := (h.alloc1 o).alloc1 o'
def sumC (l : List UInt8) (p k : Nat) : Array Value := ((List.range 4).map fun i => if i < k then Value.int .u64 (subN l (p + 8 * i) 8 : Nat) else .int .u64 0).toArray
theorem sumC_put (l : List UInt8) (p : Nat) : ∀ k, k < 4 → (sumC l p k).setIfInBounds k (.int .u64 (subN l (p + 8 * k) 8 : Nat)) = sumC l p (k + 1)
  | 0, _ => rfl
  | 1, _ => rfl
  | 2, _ => rfl
  | 3, _ => rfl
theorem sumC_at (l : List UInt8) (p : Nat) : ∀ k j, k < 4 → ∃ v, (sumC l p j)[k]? = some v := by
  intro k j hk
  exact ⟨_, Array.getElem?_eq_getElem (by simp [sumC]; exact hk)⟩

set_option maxRecDepth 100000 in
set_option maxHeartbeats 1000000 in
theorem fread_any (b p : Nat) (l : List UInt8) (w : World) (h : RdAt w b l p) (hp : p + 32 ≤ l.length) :
    Calls Tryd.prog 37 #[.pointer (some ⟨b, 0, none⟩)] w fun e w' =>
      e = .returned (.tuple #[.agg #[.int .u64 (subN l p 8 : Nat), .int .u64 (subN l (p + 8) 8 : Nat), .int .u64 (subN l (p + 16) 8 : Nat), .int .u64 (subN l (p + 24) 8 : Nat)], .int .i64 0]) ∧ RdAt w' b l (p + 32) ∧ w.grownBy w' (some b) := by
  have hlt := h.lt
  have HR := Lib.hid h
  clear h
  go_enter Tryd.func37, Tryd.ntmps37
  go_wp2_with fail
  go_loopw [8] (fun t wr => ∃ k : Nat, k ≤ 4 ∧ t = .int .i64 k ∧ RdAt wr b l (p + 8 * k) ∧ Blk wr (w.heap.size + 1) 34 (sumC l p k) ∧ Blk wr w.heap.size 34 (sumC l p 0) ∧ w.grownBy wr (some b)) (fun t _ => 4 - (intOf t).toNat)
  case atStart =>
    exact ⟨0, by omega, rfl, HR.out.alloc2 _ _, Blk.new2 w _ _ _, (Blk.new _ _ _).alloc _, only_alloc (only_alloc (World.grownBy.refl _ _) _) _⟩
  case round =>
    obtain ⟨k, hk, rfl, hR, hX, hZ, hG⟩ := hrel
    by_cases hlt4 : k < 4
    · have HN := Lib.hid (nb_in (l := l) (p := p + 8 * k) (n := 8) (by omega))
      have HV := Lib.hid (rdN_sub (s := l) (k := p + 8 * k) (n := 8) (by omega))
      have HG := Lib.hid hG
      have HX := Lib.hid hX
      have HZ := Lib.hid hZ
      have HRR := Lib.hid hR
      clear hR hX hZ hG
      go_wp2_with fail
      refine (rU64_any b _ l _ HRR.out).mono ?_
      rintro e w1 ⟨rfl, hR1, hG1⟩
      rw [HN.out.1, HV.out]
      rw [HN.out.2] at hR1
      have hX1 := HX.out.grown hG1 (by omega)
      have hZ1 := HZ.out.grown hG1 (by omega)
      have hG2 := only_then HG.out hG1 (.inl rfl)
      obtain ⟨v, hv⟩ := sumC_at l p k k hlt4
      have c1 := hX1.at_ hv
      have f1 := hX1.fr k
      have HX1 := Lib.hid hX1
      have HZ1 := Lib.hid hZ1
      have HR1 := Lib.hid hR1
      have i0 : (0 : Int) ≤ k := by omega
      have i1 : (k : Int) < 4 := by omega
      clear hX1 hZ1 hR1 hG1 HX HZ HG HRR hv
      go_wp2_with fail
      go_roundw
      case rel =>
        refine ⟨k + 1, by omega, by go_num, ?_, ?_, HZ1.out.far (by simp) _, only_set hG2 (.inr (by simp)) _⟩
        · exact HR1.out.far2 (by simp; omega) _
        · rw [← sumC_put l p k hlt4]; exact HX1.out.put k _
      case measure => simp [intOf]; omega
    · obtain rfl : k = 4 := by omega
      have HG := Lib.hid hG
      have HX := Lib.hid hX
      have HZ := Lib.hid hZ
      have HRR := Lib.hid hR
      have x0 := hX.at_ (i := 0) (v := .int .u64 (subN l p 8 : Nat)) rfl
      have x1 := hX.at_ (i := 1) (v := .int .u64 (subN l (p + 8) 8 : Nat)) rfl
      have x2 := hX.at_ (i := 2) (v := .int .u64 (subN l (p + 16) 8 : Nat)) rfl
      have x3 := hX.at_ (i := 3) (v := .int .u64 (subN l (p + 24) 8 : Nat)) rfl
      have z0 := hZ.at_ (i := 0) (v := .int .u64 0) rfl
      have z1 := hZ.at_ (i := 1) (v := .int .u64 0) rfl
      have z2 := hZ.at_ (i := 2) (v := .int .u64 0) rfl
      have z3 := hZ.at_ (i := 3) (v := .int .u64 0) rfl
      have f0 := hZ.fr 0
      have f1 := hZ.fr 1
      have f2 := hZ.fr 2
      have f3 := hZ.fr 3
      clear hX hZ hG hR
      go_wp2_with fail
      refine bodyPost_ret (v := .tuple #[.agg (sumC l p 4), .int .i64 0]) (by simp [results, Tryd.results37, go_sem, sumC, z0, z1, z2, z3]) rfl ⟨rfl, ?_, ?_⟩
      · exact (((HRR.out.far2 (by simp; omega) _).far2 (by simp; omega) _).far2 (by simp; omega) _).far2 (by simp; omega) _
      · exact only_set (only_set (only_set (only_set HG.out (.inr (by simp)) _) (.inr (by simp)) _) (.inr (by simp)) _) (.inr (by simp)) _

theorem i64_and255 (n : Int) : bits .and .i64 n 255 = n % 256 := by
  have h : (BitVec.ofInt 64 255).toNat = 2 ^ 8 - 1 := by decide
  have key : (BitVec.ofInt 64 n &&& BitVec.ofInt 64 255).toNat = (n % ((2 ^ 64 : Nat) : Int)).toNat % 2 ^ 8 := by
    rw [BitVec.toNat_and, BitVec.toNat_ofInt, h, Nat.and_two_pow_sub_one_eq_mod]
  show IntKind.i64.wrap ((BitVec.ofInt 64 n &&& BitVec.ofInt 64 255).toNat : Nat) = n % 256
  rw [key, IntKind.wrap_i64]
  · omega
  all_goals omega
def intC (l : List UInt8) (k : Nat) : Array Value := ((List.range 6).map fun i => if i < k then Value.int .i64 (subN l (4 * i) 4 : Nat) else .int .i64 0).toArray
theorem intC_put (l : List UInt8) : ∀ k, k < 6 → (intC l k).setIfInBounds k (.int .i64 (subN l (4 * k) 4 : Nat)) = intC l (k + 1)
  | 0, _ => rfl
  | 1, _ => rfl
  | 2, _ => rfl
  | 3, _ => rfl
  | 4, _ => rfl
  | 5, _ => rfl
theorem intC_at (l : List UInt8) : ∀ k j, k < 6 → ∃ v, (intC l j)[k]? = some v := by
  intro k j hk
  exact ⟨_, Array.getElem?_eq_getElem (by simp [intC]; exact hk)⟩

set_option maxRecDepth 100000 in
set_option maxHeartbeats 2000000 in
theorem pread_any (s : List UInt8) (w : World) (hl : s.length ≤ 140737488351232) :
    Calls Tryd.prog 26 #[str s] w fun e w' => e = .returned (.tuple #[.agg (readV s).cells, .int .i64 (readE s)]) ∧ Below w.heap.size w w' := by
  by_cases h1 : s.length < 64
  · have he : Hid (readE s = 2 ∧ readV s = ptrZ) := by
      have : readE s = 2 := by unfold readE; rw [if_pos h1]
      unfold Hid readV; rw [this]; exact ⟨rfl, rfl⟩
    rw [he.out.1, he.out.2]
    go_enter Tryd.func26, Tryd.ntmps26
    go_wp2_with fail
    refine bodyPost_ret (v := .tuple #[.agg ptrZ.cells, .int .i64 2]) (by simp [results, Tryd.results26, go_sem, PtrD.cells, ptrZ]) rfl ⟨rfl, ?_⟩
    exact (Below.refl _ _).alloc (Nat.le_refl _) _
  · by_cases h2 : 64 < s.length
    · have he : Hid (readE s = 3 ∧ readV s = ptrZ) := by
        have : readE s = 3 := by unfold readE; rw [if_neg h1, if_pos h2]
        unfold Hid readV; rw [this]; exact ⟨rfl, rfl⟩
      rw [he.out.1, he.out.2]
      go_enter Tryd.func26, Tryd.ntmps26
      go_wp2_with fail
      refine bodyPost_ret (v := .tuple #[.agg ptrZ.cells, .int .i64 3]) (by simp [results, Tryd.results26, go_sem, PtrD.cells, ptrZ]) rfl ⟨rfl, ?_⟩
      exact (Below.refl _ _).alloc (Nat.le_refl _) _
    · have h3 : s.length = 64 := by omega
      have HL := Lib.hid h3
      clear h3
      go_enter Tryd.func26, Tryd.ntmps26
      go_wp2_with fail
      refine (new_any s _ hl).mono ?_
      rintro e w1 ⟨rfl, hR, hb⟩
      have hz : w.heap.size < (w.alloc (.cells ptrZ.cells 36)).heap.size := by simp
      have hb1 : Below w.heap.size w (w.alloc (.cells ptrZ.cells 36)) := (Below.refl _ _).alloc (Nat.le_refl _) _
      have hb2 : Below w.heap.size w w1 := hb1.trans (hb.mono hb1.size)
      have hZ : Blk w1 w.heap.size 36 ptrZ.cells := (Blk.new w 36 ptrZ.cells).below hb hz
      have hs : w.heap.size < w1.heap.size := Nat.lt_of_lt_of_le hz hb.size
      rw [World.size_alloc] at hR
      have HR := Lib.hid hR
      have HZ := Lib.hid hZ
      have hrb : w.heap.size + 1 < w1.heap.size := by have := hR.lt; simpa using this
      have HW : Hid (w.heap.size ≤ w1.heap.size) := Lib.hid (by omega)
      clear hR hZ hb hz hb1
      go_wp2_with fail
      go_loopw [21] (fun t wr => ∃ k : Nat, k ≤ 6 ∧ t = .int .i64 k ∧ RdAt wr (w.heap.size + 1) s (4 * k) ∧ Blk wr w1.heap.size 88 (intC s k) ∧ Blk wr w.heap.size 36 ptrZ.cells ∧ w1.grownBy wr (some (w.heap.size + 1))) (fun t _ => 6 - (intOf t).toNat)
      case atStart => exact ⟨0, by omega, rfl, HR.out.alloc1 _, Blk.new _ _ _, HZ.out.alloc _, only_alloc (World.grownBy.refl _ _) _⟩
      case round =>
        obtain ⟨k, hk, rfl, hR, hX, hZ, hG⟩ := hrel
        by_cases hlt6 : k < 6
        · have HN := Lib.hid (nb_in (l := s) (p := 4 * k) (n := 4) (by have := HL.out; omega))
          have HV := Lib.hid (rdN_sub (s := s) (k := 4 * k) (n := 4) (by have := HL.out; omega))
          have HG := Lib.hid hG
          have HX := Lib.hid hX
          have HZ := Lib.hid hZ
          have HRR := Lib.hid hR
          clear hR hX hZ hG
          go_wp2_with fail
          refine (rU32_any _ _ s _ HRR.out).mono ?_
          rintro e w2 ⟨rfl, hR1, hG1⟩
          rw [HN.out.1, HV.out]
          rw [HN.out.2] at hR1
          have hX1 := HX.out.grown hG1 (by omega)
          have hZ1 := HZ.out.grown hG1 (by omega)
          have hG2 := only_then HG.out hG1 (.inl rfl)
          obtain ⟨v, hv⟩ := intC_at s k k hlt6
          have c1 := hX1.at_ hv
          have f1 := hX1.fr k
          have HX1 := Lib.hid hX1
          have HZ1 := Lib.hid hZ1
          have HR1 := Lib.hid hR1
          have i0 : (0 : Int) ≤ k := by omega
          have i1 : (k : Int) < 6 := by omega
          clear hX1 hZ1 hR1 hG1 HX HZ HG HRR hv
          go_wp2_with fail
          go_roundw
          case rel =>
            refine ⟨k + 1, by omega, by go_num, ?_, ?_, HZ1.out.far (by simp; omega) _, only_set hG2 (.inr (by simp)) _⟩
            · exact HR1.out.far2 (by simp; omega) _
            · rw [← intC_put s k hlt6]; exact HX1.out.put k _
          case measure => simp [intOf]; omega
        · obtain rfl : k = 6 := by omega
          have hR24 : RdAt wr (w.heap.size + 1) s 24 := hR
          have HRR := Lib.hid (fread_any (w.heap.size + 1) 24 s wr hR24 (by have := HL.out; omega))
          have HX := Lib.hid hX
          have HZ := Lib.hid hZ
          have HG := Lib.hid hG
          have hsz := hG.size
          clear hR hR24 hX hZ hG
          go_wp2_with fail
          refine HRR.out.mono ?_
          rintro e w3 ⟨rfl, hR3, hG3⟩
          have hX3 := HX.out.grown hG3 (by omega)
          have hZ3 := HZ.out.grown hG3 (by omega)
          have hG4 := only_then HG.out hG3 (.inl rfl)
          have HB : Hid (Below w.heap.size w w3) := Lib.hid (below_only hb2 hG4 (by omega))
          have HXX := Lib.hid hX3
          have HZZ := Lib.hid hZ3
          have HR3 := Lib.hid hR3
          have hs3 : w1.heap.size < w3.heap.size := hX3.lt
          clear hX3 hZ3 hR3 hG3 hG4 HX HZ HG HRR hsz
          have x0 := HXX.out.at_ (i := 0) (v := .int .i64 (subN s 0 4 : Nat)) rfl
          have x1 := HXX.out.at_ (i := 1) (v := .int .i64 (subN s 4 4 : Nat)) rfl
          have x2 := HXX.out.at_ (i := 2) (v := .int .i64 (subN s 8 4 : Nat)) rfl
          have x3 := HXX.out.at_ (i := 3) (v := .int .i64 (subN s 12 4 : Nat)) rfl
          have x4 := HXX.out.at_ (i := 4) (v := .int .i64 (subN s 16 4 : Nat)) rfl
          have x5 := HXX.out.at_ (i := 5) (v := .int .i64 (subN s 20 4 : Nat)) rfl
          have z0 := HZZ.out.at_ (i := 0) (v := .int .i64 0) rfl
          have f0 := HZZ.out.fr 0
          have z1 := HZZ.out.at_ (i := 1) (v := .int .i64 0) rfl
          have f1 := HZZ.out.fr 1
          have z2 := HZZ.out.at_ (i := 2) (v := .int .i64 0) rfl
          have f2 := HZZ.out.fr 2
          have z3 := HZZ.out.at_ (i := 3) (v := .int .i64 0) rfl
          have f3 := HZZ.out.fr 3
          have z4 := HZZ.out.at_ (i := 4) (v := .bool false) rfl
          have f4 := HZZ.out.fr 4
          have z5 := HZZ.out.at_ (i := 5) (v := .int .i64 0) rfl
          have f5 := HZZ.out.fr 5
          have z6 := HZZ.out.at_ (i := 6) (v := .int .i64 0) rfl
          have f6 := HZZ.out.fr 6
          have z7 := HZZ.out.at_ (i := 7) (v := .int .i64 0) rfl
          have f7 := HZZ.out.fr 7
          have z8 := HZZ.out.at_ (i := 8) (v := .int .u64 0) rfl
          have f8 := HZZ.out.fr 8
          have z9 := HZZ.out.at_ (i := 9) (v := .int .u64 0) rfl
          have f9 := HZZ.out.fr 9
          have z10 := HZZ.out.at_ (i := 10) (v := .int .u64 0) rfl
          have f10 := HZZ.out.fr 10
          have z11 := HZZ.out.at_ (i := 11) (v := .int .u64 0) rfl
          have f11 := HZZ.out.fr 11
          have hw3 : w.heap.size < w3.heap.size := by omega
          have n4 := subN_lt s 16 4
          by_cases hbig : 131071 < subN s 16 4
          · have he : Hid (readE s = 3 ∧ readV s = ptrZ) := by
              have : readE s = 3 := by unfold readE; rw [if_neg h1, if_neg h2, if_pos hbig]
              unfold Hid readV; rw [this]; exact ⟨rfl, rfl⟩
            go_wp2_with fail
            refine bodyPost_ret (v := .tuple #[.agg ptrZ.cells, .int .i64 3]) (by simp [results, Tryd.results26, go_sem, PtrD.cells, ptrZ, hw3, z0, z1, z2, z3, z4, z5, z6, z7, z8, z9, z10, z11]) rfl ⟨by rw [he.out.1, he.out.2], ?_⟩
            repeat (first | (with_reducible exact HB.out) | (with_reducible refine keep_alloc ?_ _) | (with_reducible refine below_drewN ?_ _) | (with_reducible refine below_set ?_ _ _ _ (Nat.le_refl _)))
          · have HRA := HR3.out.alloc1 (.cells #[.int .u64 (subN s 24 8 : Nat), .int .u64 (subN s 32 8 : Nat), .int .u64 (subN s 40 8 : Nat), .int .u64 (subN s 48 8 : Nat)] 34)
            have HZR := Lib.hid (rZeros_any _ _ s _ HRA)
            clear HRA
            cases hz : allZ (s.drop 56) with
            | true =>
              have he : Hid (readE s = 0 ∧ readV s = readP s) := by
                have : readE s = 0 := by unfold readE; rw [if_neg h1, if_neg h2, if_neg hbig, if_pos hz]
                unfold Hid readV; rw [this]; exact ⟨rfl, rfl⟩
              have HZ5 := Lib.hid hz
              clear hz
              go_wp2_with fail
              refine HZR.out.mono ?_
              rintro e w4 ⟨rfl, k4, rfl⟩
              rw [HZ5.out]
              go_wp2_with fail
              have ha1 : bits .and .i64 ((subN s 16 4 : Nat) : Int) 255 = ((subN s 16 4 % 256 : Nat) : Int) := by rw [i64_and255]; omega
              have ha2 : bits .and .i64 (((subN s 16 4 : Nat) : Int) / 256) 255 = ((subN s 16 4 / 256 % 256 : Nat) : Int) := by rw [i64_and255]; omega
              have hbt : decide ((0 : Int) < ((subN s 16 4 : Nat) : Int) / 65536) = decide (65536 ≤ subN s 16 4) := decide_eq_decide.2 (by omega)
              rw [ha1, ha2, hbt]
              refine bodyPost_ret (v := .tuple #[.agg (readP s).cells, .int .i64 0]) (by simp [results, Tryd.results26, go_sem, PtrD.cells, readP, hw3, z0, z1, z2, z3, z4, z5, z6, z7, z8, z9, z10, z11]) rfl ⟨by rw [he.out.1, he.out.2], ?_⟩
              repeat (first | (with_reducible exact HB.out) | (with_reducible refine keep_alloc ?_ _) | (with_reducible refine below_drewN ?_ _) | (with_reducible refine below_set ?_ _ _ _ (Nat.le_refl _)))
            | false =>
              have he : Hid (readE s = 3 ∧ readV s = ptrZ) := by
                have : readE s = 3 := by unfold readE; rw [if_neg h1, if_neg h2, if_neg hbig, hz]; rfl
                unfold Hid readV; rw [this]; exact ⟨rfl, rfl⟩
              have HZ5 := Lib.hid hz
              clear hz
              go_wp2_with fail
              refine HZR.out.mono ?_
              rintro e w4 ⟨rfl, k4, rfl⟩
              rw [HZ5.out]
              go_wp2_with fail
              refine bodyPost_ret (v := .tuple #[.agg ptrZ.cells, .int .i64 3]) (by simp [results, Tryd.results26, go_sem, PtrD.cells, ptrZ, hw3, z0, z1, z2, z3, z4, z5, z6, z7, z8, z9, z10, z11]) rfl ⟨by rw [he.out.1, he.out.2], ?_⟩
              repeat (first | (with_reducible exact HB.out) | (with_reducible refine keep_alloc ?_ _) | (with_reducible refine below_drewN ?_ _) | (with_reducible refine below_set ?_ _ _ _ (Nat.le_refl _)))
end Go.Proofs.YtkmmehhddagijaaDoor
