/-
  Contracts of node.index and node.Read.
-/
import Derived.Test.YtkmmehhddagijaaDoorNodeT
namespace Go.Proofs.YtkmmehhddagijaaDoor
set_option linter.unusedVariables false
set_option linter.unusedSimpArgs false
open Go.RowKit

def cutX (s : List UInt8) (k : Nat) : List UInt8 := (s.drop k).take 64
def okTo (s : List UInt8) : Nat → Bool
  | 0 => true
  | 1 => readE ((s.drop 0).take 64) == 0
  | 2 => readE ((s.drop 0).take 64) == 0 && readE ((s.drop 64).take 64) == 0
  | 3 => readE ((s.drop 0).take 64) == 0 && readE ((s.drop 64).take 64) == 0 && readE ((s.drop 128).take 64) == 0
  | _ => readE ((s.drop 0).take 64) == 0 && readE ((s.drop 64).take 64) == 0 && readE ((s.drop 128).take 64) == 0 && readE ((s.drop 192).take 64) == 0
def ixTo (s : List UInt8) : Nat → Array Value
  | 0 => ptrs4 ptrZ ptrZ ptrZ ptrZ
  | 1 => ptrs4 (readP ((s.drop 0).take 64)) ptrZ ptrZ ptrZ
  | 2 => ptrs4 (readP ((s.drop 0).take 64)) (readP ((s.drop 64).take 64)) ptrZ ptrZ
  | 3 => ptrs4 (readP ((s.drop 0).take 64)) (readP ((s.drop 64).take 64)) (readP ((s.drop 128).take 64)) ptrZ
  | _ => ptrs4 (readP ((s.drop 0).take 64)) (readP ((s.drop 64).take 64)) (readP ((s.drop 128).take 64)) (readP ((s.drop 192).take 64))
theorem ixTo_size (s : List UInt8) (k : Nat) : (ixTo s k).size = 48 := by
  match k with
  | 0 => exact ptrs_size4 _ _ _ _
  | 1 => exact ptrs_size4 _ _ _ _
  | 2 => exact ptrs_size4 _ _ _ _
  | 3 => exact ptrs_size4 _ _ _ _
  | k + 4 => exact ptrs_size4 _ _ _ _
theorem wr_0 (x p q r s : PtrD) : wrFrom (ptrs4 p q r s) 0 (Array.toList (#[.int .i64 x.ag, .int .i64 x.aa, .int .i64 x.bg, .int .i64 x.ba, .bool x.two, .int .i64 x.size, .int .i64 x.level, .int .i64 x.birth, .int .u64 x.s0, .int .u64 x.s1, .int .u64 x.s2, .int .u64 x.s3] : Array Value)) = ptrs4 x q r s := by kernel_rfl
theorem wr_1 (x p q r s : PtrD) : wrFrom (ptrs4 p q r s) 12 (Array.toList (#[.int .i64 x.ag, .int .i64 x.aa, .int .i64 x.bg, .int .i64 x.ba, .bool x.two, .int .i64 x.size, .int .i64 x.level, .int .i64 x.birth, .int .u64 x.s0, .int .u64 x.s1, .int .u64 x.s2, .int .u64 x.s3] : Array Value)) = ptrs4 p x r s := by kernel_rfl
theorem wr_2 (x p q r s : PtrD) : wrFrom (ptrs4 p q r s) 24 (Array.toList (#[.int .i64 x.ag, .int .i64 x.aa, .int .i64 x.bg, .int .i64 x.ba, .bool x.two, .int .i64 x.size, .int .i64 x.level, .int .i64 x.birth, .int .u64 x.s0, .int .u64 x.s1, .int .u64 x.s2, .int .u64 x.s3] : Array Value)) = ptrs4 p q x s := by kernel_rfl
theorem wr_3 (x p q r s : PtrD) : wrFrom (ptrs4 p q r s) 36 (Array.toList (#[.int .i64 x.ag, .int .i64 x.aa, .int .i64 x.bg, .int .i64 x.ba, .bool x.two, .int .i64 x.size, .int .i64 x.level, .int .i64 x.birth, .int .u64 x.s0, .int .u64 x.s1, .int .u64 x.s2, .int .u64 x.s3] : Array Value)) = ptrs4 p q r x := by kernel_rfl
def idxE (s : List UInt8) : Int := if readE ((s.drop 0).take 64) ≠ 0 then readE ((s.drop 0).take 64) else if readE ((s.drop 64).take 64) ≠ 0 then readE ((s.drop 64).take 64) else if readE ((s.drop 128).take 64) ≠ 0 then readE ((s.drop 128).take 64) else readE ((s.drop 192).take 64)
def idxV (s : List UInt8) : Value := if okTo s 4 then .iface 43 (.agg (ixTo s 4)) else .nilIface

set_option maxRecDepth 100000 in
set_option maxHeartbeats 8000000 in
theorem index_any (s : List UInt8) (w : World) (hl : s.length = 256) :
    Calls Tryd.prog 16 #[str s] w fun e w' => e = .returned (.tuple #[idxV s, .int .i64 (idxE s)]) ∧ Below w.heap.size w w' := by
  have HL := Lib.hid hl
  have hl1 : s.length ≤ 256 := by omega
  clear hl
  obtain ⟨w1, hw1⟩ : ∃ w1, w1 = w.alloc (.cells (ptrs4 ptrZ ptrZ ptrZ ptrZ) 43) := ⟨_, rfl⟩
  have hd1 : Below w.heap.size w w1 := by rw [hw1]; exact (Below.refl _ _).alloc (Nat.le_refl _) _
  have hs1 : w.heap.size < w1.heap.size := by rw [hw1]; simp
  have hB1 : Blk w1 w.heap.size 43 (ixTo s 0) := by rw [hw1]; exact Blk.new _ _ _
  have hw1' : w1 = w.alloc (.cells #[.int .i64 0, .int .i64 0, .int .i64 0, .int .i64 0, .bool false, .int .i64 0, .int .i64 0, .int .i64 0, .int .u64 0, .int .u64 0, .int .u64 0, .int .u64 0, .int .i64 0, .int .i64 0, .int .i64 0, .int .i64 0, .bool false, .int .i64 0, .int .i64 0, .int .i64 0, .int .u64 0, .int .u64 0, .int .u64 0, .int .u64 0, .int .i64 0, .int .i64 0, .int .i64 0, .int .i64 0, .bool false, .int .i64 0, .int .i64 0, .int .i64 0, .int .u64 0, .int .u64 0, .int .u64 0, .int .u64 0, .int .i64 0, .int .i64 0, .int .i64 0, .int .i64 0, .bool false, .int .i64 0, .int .i64 0, .int .i64 0, .int .u64 0, .int .u64 0, .int .u64 0, .int .u64 0] 43) := hw1
  clear hw1
  go_enter Tryd.func16, Tryd.ntmps16
  go_wp2_with fail
  rw [← hw1']
  clear hw1'
  go_loopw [8] (fun t wr => ∃ k : Nat, k ≤ 4 ∧ t = .int .i64 k ∧ okTo s k = true ∧ Blk wr w.heap.size 43 (ixTo s k) ∧ Below w.heap.size w wr ∧ w.heap.size < wr.heap.size) (fun t _ => 4 - (intOf t).toNat)
  case atStart => exact ⟨0, by omega, rfl, rfl, hB1, hd1, hs1⟩
  case round =>
    obtain ⟨k, hk, rfl, hA, hB, hd, hs⟩ := hrel
    have HA := Lib.hid hA
    have HB := Lib.hid hB
    clear hA hB hB1 hd1 hs1
    have hk4 : k = 0 ∨ k = 1 ∨ k = 2 ∨ k = 3 ∨ k = 4 := by omega
    rcases hk4 with rfl | rfl | rfl | rfl | rfl
    · have hsl := HL.out
      have hX : (ByteArray.mk s.toArray).extract 0 64 = ⟨((s.drop 0).take 64).toArray⟩ := rd_extract s 0 64
      have hcl : ((s.drop 0).take 64).length ≤ 64 := List.length_take_le _ _
      obtain ⟨q, eq, hq, hRD⟩ := pread_vals ((s.drop 0).take 64) (by omega)
      have HQ := Lib.hid hq
      have HRD := Lib.hid hRD
      have hq2 : (64 : Int) ≤ s.length := by omega
      have HEQ : Hid (readE ((s.drop 0).take 64) = eq) := Lib.hid hq.1.symm
      have HVQ : Hid (readE ((s.drop 0).take 64) = 0 → q = readP ((s.drop 0).take 64)) := Lib.hid fun h => by rw [hq.2]; unfold readV; rw [if_pos h]
      clear hq hRD hsl
      generalize hcut : (s.drop 0).take 64 = cut at *
      have HCUT := Lib.hid hcut
      clear hcut
      go_wp2_with fail
      refine (HRD.out _).mono ?_
      rintro e w2 ⟨rfl, hb2⟩
      have hd2 := keep_below hb2 hd
      have HB2 := Lib.hid (HB.out.below hb2 hs)
      have hs2 : w.heap.size < w2.heap.size := keep_size hb2 hs
      clear hb2
      by_cases he0 : eq = 0
      · subst he0
        have hqv := HVQ.out HEQ.out
        have HOK := Lib.hid (show okTo s (0 + 1) = true by simp only [okTo, Nat.reduceAdd]; have h0 := HA.out; simp only [okTo] at h0; rw [HCUT.out, HEQ.out]; simp_all)
        have hBn := HB2.out.alloc (.cells #[.int .i64 q.ag, .int .i64 q.aa, .int .i64 q.bg, .int .i64 q.ba, .bool q.two, .int .i64 q.size, .int .i64 q.level, .int .i64 q.birth, .int .u64 q.s0, .int .u64 q.s1, .int .u64 q.s2, .int .u64 q.s3] 36)
        have hth : (w2.alloc (.cells #[.int .i64 q.ag, .int .i64 q.aa, .int .i64 q.bg, .int .i64 q.ba, .bool q.two, .int .i64 q.size, .int .i64 q.level, .int .i64 q.birth, .int .u64 q.s0, .int .u64 q.s1, .int .u64 q.s2, .int .u64 q.s3] 36)).there w.heap.size 0 (Array.size (#[.int .i64 q.ag, .int .i64 q.aa, .int .i64 q.bg, .int .i64 q.ba, .bool q.two, .int .i64 q.size, .int .i64 q.level, .int .i64 q.birth, .int .u64 q.s0, .int .u64 q.s1, .int .u64 q.s2, .int .u64 q.s3] : Array Value)) := hBn.there (by rw [ixTo_size]; show 0 + 12 ≤ 48; omega)
        have hput := hBn.puts (Array.toList (#[.int .i64 q.ag, .int .i64 q.aa, .int .i64 q.bg, .int .i64 q.ba, .bool q.two, .int .i64 q.size, .int .i64 q.level, .int .i64 q.birth, .int .u64 q.s0, .int .u64 q.s1, .int .u64 q.s2, .int .u64 q.s3] : Array Value)) 0
        have HPUT : Hid (Blk ((w2.alloc (.cells #[.int .i64 q.ag, .int .i64 q.aa, .int .i64 q.bg, .int .i64 q.ba, .bool q.two, .int .i64 q.size, .int .i64 q.level, .int .i64 q.birth, .int .u64 q.s0, .int .u64 q.s1, .int .u64 q.s2, .int .u64 q.s3] 36)).setCells w.heap.size 0 (Array.toList (#[.int .i64 q.ag, .int .i64 q.aa, .int .i64 q.bg, .int .i64 q.ba, .bool q.two, .int .i64 q.size, .int .i64 q.level, .int .i64 q.birth, .int .u64 q.s0, .int .u64 q.s1, .int .u64 q.s2, .int .u64 q.s3] : Array Value))) w.heap.size 43 (ixTo s (0 + 1))) := by
          have e : wrFrom (ixTo s 0) 0 (Array.toList (#[.int .i64 q.ag, .int .i64 q.aa, .int .i64 q.bg, .int .i64 q.ba, .bool q.two, .int .i64 q.size, .int .i64 q.level, .int .i64 q.birth, .int .u64 q.s0, .int .u64 q.s1, .int .u64 q.s2, .int .u64 q.s3] : Array Value)) = ixTo s (0 + 1) := by rw [hqv, ← HCUT.out]; exact wr_0 _ _ _ _ _
          rw [e] at hput
          exact Lib.hid hput
        have HBE := Lib.hid (below_sets (Array.toList (#[.int .i64 q.ag, .int .i64 q.aa, .int .i64 q.bg, .int .i64 q.ba, .bool q.two, .int .i64 q.size, .int .i64 q.level, .int .i64 q.birth, .int .u64 q.s0, .int .u64 q.s1, .int .u64 q.s2, .int .u64 q.s3] : Array Value)) 0 (keep_alloc hd2 (.cells #[.int .i64 q.ag, .int .i64 q.aa, .int .i64 q.bg, .int .i64 q.ba, .bool q.two, .int .i64 q.size, .int .i64 q.level, .int .i64 q.birth, .int .u64 q.s0, .int .u64 q.s1, .int .u64 q.s2, .int .u64 q.s3] 36)) (Nat.le_refl w.heap.size))
        have hsz : w.heap.size < ((w2.alloc (.cells #[.int .i64 q.ag, .int .i64 q.aa, .int .i64 q.bg, .int .i64 q.ba, .bool q.two, .int .i64 q.size, .int .i64 q.level, .int .i64 q.birth, .int .u64 q.s0, .int .u64 q.s1, .int .u64 q.s2, .int .u64 q.s3] 36)).setCells w.heap.size 0 (Array.toList (#[.int .i64 q.ag, .int .i64 q.aa, .int .i64 q.bg, .int .i64 q.ba, .bool q.two, .int .i64 q.size, .int .i64 q.level, .int .i64 q.birth, .int .u64 q.s0, .int .u64 q.s1, .int .u64 q.s2, .int .u64 q.s3] : Array Value))).heap.size := HPUT.out.lt
        have HSZ := Lib.hid hsz
        have hi12 : (Tryd.prog.info? 36).map (·.size) = some (Array.size (#[.int .i64 q.ag, .int .i64 q.aa, .int .i64 q.bg, .int .i64 q.ba, .bool q.two, .int .i64 q.size, .int .i64 q.level, .int .i64 q.birth, .int .u64 q.s0, .int .u64 q.s1, .int .u64 q.s2, .int .u64 q.s3] : Array Value)) := by kernel_rfl
        have h1c : Array.all (#[.int .i64 q.ag, .int .i64 q.aa, .int .i64 q.bg, .int .i64 q.ba, .bool q.two, .int .i64 q.size, .int .i64 q.level, .int .i64 q.birth, .int .u64 q.s0, .int .u64 q.s1, .int .u64 q.s2, .int .u64 q.s3] : Array Value) (·.oneCell') = true := by kernel_rfl
        clear hBn hput hqv hsz hX
        go_wp2_with ((with_reducible refine wpList_store_mid ?a1 36 (.tmp 28) (.tmp 26) ?a2 w.heap.size 0 #[.int .i64 q.ag, .int .i64 q.aa, .int .i64 q.bg, .int .i64 q.ba, .bool q.two, .int .i64 q.size, .int .i64 q.level, .int .i64 q.birth, .int .u64 q.s0, .int .u64 q.s1, .int .u64 q.s2, .int .u64 q.s3] ?a3 ?a4 hth hi12 h1c ?_); (case a1 => rfl); (case a2 => rfl); (case a3 => rfl); (case a4 => rfl))
        go_roundw
        case rel => exact ⟨0 + 1, by omega, rfl, HOK.out, HPUT.out, HBE.out, HSZ.out⟩
        case measure => simp [intOf]
      · have hv : Hid (idxV s = .nilIface ∧ idxE s = eq) := by
          have h0 := HA.out
          have h1 := HEQ.out
          rw [← HCUT.out] at h1
          unfold Hid idxV idxE
          (rw [show okTo s 4 = false by simp only [okTo, h1, show (eq == 0) = false by simpa using he0, Bool.false_and, Bool.and_false], h1, if_pos he0]; exact ⟨rfl, rfl⟩)
        have hne : (eq != 0) = true := by simpa using he0
        clear hX
        go_wp2_with fail
        go_ret2
        exact ⟨by rw [hv.out.1, hv.out.2]; rfl, keep_alloc hd2 _⟩
    · have hsl := HL.out
      have hX : (ByteArray.mk s.toArray).extract 64 128 = ⟨((s.drop 64).take 64).toArray⟩ := rd_extract s 64 64
      have hcl : ((s.drop 64).take 64).length ≤ 64 := List.length_take_le _ _
      obtain ⟨q, eq, hq, hRD⟩ := pread_vals ((s.drop 64).take 64) (by omega)
      have HQ := Lib.hid hq
      have HRD := Lib.hid hRD
      have hq2 : (128 : Int) ≤ s.length := by omega
      have HEQ : Hid (readE ((s.drop 64).take 64) = eq) := Lib.hid hq.1.symm
      have HVQ : Hid (readE ((s.drop 64).take 64) = 0 → q = readP ((s.drop 64).take 64)) := Lib.hid fun h => by rw [hq.2]; unfold readV; rw [if_pos h]
      clear hq hRD hsl
      generalize hcut : (s.drop 64).take 64 = cut at *
      have HCUT := Lib.hid hcut
      clear hcut
      go_wp2_with fail
      refine (HRD.out _).mono ?_
      rintro e w2 ⟨rfl, hb2⟩
      have hd2 := keep_below hb2 hd
      have HB2 := Lib.hid (HB.out.below hb2 hs)
      have hs2 : w.heap.size < w2.heap.size := keep_size hb2 hs
      clear hb2
      by_cases he0 : eq = 0
      · subst he0
        have hqv := HVQ.out HEQ.out
        have HOK := Lib.hid (show okTo s (1 + 1) = true by simp only [okTo, Nat.reduceAdd]; have h0 := HA.out; simp only [okTo] at h0; rw [HCUT.out, HEQ.out]; simp_all)
        have hBn := HB2.out.alloc (.cells #[.int .i64 q.ag, .int .i64 q.aa, .int .i64 q.bg, .int .i64 q.ba, .bool q.two, .int .i64 q.size, .int .i64 q.level, .int .i64 q.birth, .int .u64 q.s0, .int .u64 q.s1, .int .u64 q.s2, .int .u64 q.s3] 36)
        have hth : (w2.alloc (.cells #[.int .i64 q.ag, .int .i64 q.aa, .int .i64 q.bg, .int .i64 q.ba, .bool q.two, .int .i64 q.size, .int .i64 q.level, .int .i64 q.birth, .int .u64 q.s0, .int .u64 q.s1, .int .u64 q.s2, .int .u64 q.s3] 36)).there w.heap.size 12 (Array.size (#[.int .i64 q.ag, .int .i64 q.aa, .int .i64 q.bg, .int .i64 q.ba, .bool q.two, .int .i64 q.size, .int .i64 q.level, .int .i64 q.birth, .int .u64 q.s0, .int .u64 q.s1, .int .u64 q.s2, .int .u64 q.s3] : Array Value)) := hBn.there (by rw [ixTo_size]; show 12 + 12 ≤ 48; omega)
        have hput := hBn.puts (Array.toList (#[.int .i64 q.ag, .int .i64 q.aa, .int .i64 q.bg, .int .i64 q.ba, .bool q.two, .int .i64 q.size, .int .i64 q.level, .int .i64 q.birth, .int .u64 q.s0, .int .u64 q.s1, .int .u64 q.s2, .int .u64 q.s3] : Array Value)) 12
        have HPUT : Hid (Blk ((w2.alloc (.cells #[.int .i64 q.ag, .int .i64 q.aa, .int .i64 q.bg, .int .i64 q.ba, .bool q.two, .int .i64 q.size, .int .i64 q.level, .int .i64 q.birth, .int .u64 q.s0, .int .u64 q.s1, .int .u64 q.s2, .int .u64 q.s3] 36)).setCells w.heap.size 12 (Array.toList (#[.int .i64 q.ag, .int .i64 q.aa, .int .i64 q.bg, .int .i64 q.ba, .bool q.two, .int .i64 q.size, .int .i64 q.level, .int .i64 q.birth, .int .u64 q.s0, .int .u64 q.s1, .int .u64 q.s2, .int .u64 q.s3] : Array Value))) w.heap.size 43 (ixTo s (1 + 1))) := by
          have e : wrFrom (ixTo s 1) 12 (Array.toList (#[.int .i64 q.ag, .int .i64 q.aa, .int .i64 q.bg, .int .i64 q.ba, .bool q.two, .int .i64 q.size, .int .i64 q.level, .int .i64 q.birth, .int .u64 q.s0, .int .u64 q.s1, .int .u64 q.s2, .int .u64 q.s3] : Array Value)) = ixTo s (1 + 1) := by rw [hqv, ← HCUT.out]; exact wr_1 _ _ _ _ _
          rw [e] at hput
          exact Lib.hid hput
        have HBE := Lib.hid (below_sets (Array.toList (#[.int .i64 q.ag, .int .i64 q.aa, .int .i64 q.bg, .int .i64 q.ba, .bool q.two, .int .i64 q.size, .int .i64 q.level, .int .i64 q.birth, .int .u64 q.s0, .int .u64 q.s1, .int .u64 q.s2, .int .u64 q.s3] : Array Value)) 12 (keep_alloc hd2 (.cells #[.int .i64 q.ag, .int .i64 q.aa, .int .i64 q.bg, .int .i64 q.ba, .bool q.two, .int .i64 q.size, .int .i64 q.level, .int .i64 q.birth, .int .u64 q.s0, .int .u64 q.s1, .int .u64 q.s2, .int .u64 q.s3] 36)) (Nat.le_refl w.heap.size))
        have hsz : w.heap.size < ((w2.alloc (.cells #[.int .i64 q.ag, .int .i64 q.aa, .int .i64 q.bg, .int .i64 q.ba, .bool q.two, .int .i64 q.size, .int .i64 q.level, .int .i64 q.birth, .int .u64 q.s0, .int .u64 q.s1, .int .u64 q.s2, .int .u64 q.s3] 36)).setCells w.heap.size 12 (Array.toList (#[.int .i64 q.ag, .int .i64 q.aa, .int .i64 q.bg, .int .i64 q.ba, .bool q.two, .int .i64 q.size, .int .i64 q.level, .int .i64 q.birth, .int .u64 q.s0, .int .u64 q.s1, .int .u64 q.s2, .int .u64 q.s3] : Array Value))).heap.size := HPUT.out.lt
        have HSZ := Lib.hid hsz
        have hi12 : (Tryd.prog.info? 36).map (·.size) = some (Array.size (#[.int .i64 q.ag, .int .i64 q.aa, .int .i64 q.bg, .int .i64 q.ba, .bool q.two, .int .i64 q.size, .int .i64 q.level, .int .i64 q.birth, .int .u64 q.s0, .int .u64 q.s1, .int .u64 q.s2, .int .u64 q.s3] : Array Value)) := by kernel_rfl
        have h1c : Array.all (#[.int .i64 q.ag, .int .i64 q.aa, .int .i64 q.bg, .int .i64 q.ba, .bool q.two, .int .i64 q.size, .int .i64 q.level, .int .i64 q.birth, .int .u64 q.s0, .int .u64 q.s1, .int .u64 q.s2, .int .u64 q.s3] : Array Value) (·.oneCell') = true := by kernel_rfl
        clear hBn hput hqv hsz hX
        go_wp2_with ((with_reducible refine wpList_store_mid ?a1 36 (.tmp 28) (.tmp 26) ?a2 w.heap.size 12 #[.int .i64 q.ag, .int .i64 q.aa, .int .i64 q.bg, .int .i64 q.ba, .bool q.two, .int .i64 q.size, .int .i64 q.level, .int .i64 q.birth, .int .u64 q.s0, .int .u64 q.s1, .int .u64 q.s2, .int .u64 q.s3] ?a3 ?a4 hth hi12 h1c ?_); (case a1 => rfl); (case a2 => rfl); (case a3 => rfl); (case a4 => rfl))
        go_roundw
        case rel => exact ⟨1 + 1, by omega, rfl, HOK.out, HPUT.out, HBE.out, HSZ.out⟩
        case measure => simp [intOf]
      · have hv : Hid (idxV s = .nilIface ∧ idxE s = eq) := by
          have h0 := HA.out
          have h1 := HEQ.out
          rw [← HCUT.out] at h1
          unfold Hid idxV idxE
          (simp only [okTo, beq_iff_eq] at h0; rw [show okTo s 4 = false by simp only [okTo, h1, show (eq == 0) = false by simpa using he0, Bool.false_and, Bool.and_false], h0, if_neg (by simp), h1, if_pos he0]; exact ⟨rfl, rfl⟩)
        have hne : (eq != 0) = true := by simpa using he0
        clear hX
        go_wp2_with fail
        go_ret2
        exact ⟨by rw [hv.out.1, hv.out.2]; rfl, keep_alloc hd2 _⟩
    · have hsl := HL.out
      have hX : (ByteArray.mk s.toArray).extract 128 192 = ⟨((s.drop 128).take 64).toArray⟩ := rd_extract s 128 64
      have hcl : ((s.drop 128).take 64).length ≤ 64 := List.length_take_le _ _
      obtain ⟨q, eq, hq, hRD⟩ := pread_vals ((s.drop 128).take 64) (by omega)
      have HQ := Lib.hid hq
      have HRD := Lib.hid hRD
      have hq2 : (192 : Int) ≤ s.length := by omega
      have HEQ : Hid (readE ((s.drop 128).take 64) = eq) := Lib.hid hq.1.symm
      have HVQ : Hid (readE ((s.drop 128).take 64) = 0 → q = readP ((s.drop 128).take 64)) := Lib.hid fun h => by rw [hq.2]; unfold readV; rw [if_pos h]
      clear hq hRD hsl
      generalize hcut : (s.drop 128).take 64 = cut at *
      have HCUT := Lib.hid hcut
      clear hcut
      go_wp2_with fail
      refine (HRD.out _).mono ?_
      rintro e w2 ⟨rfl, hb2⟩
      have hd2 := keep_below hb2 hd
      have HB2 := Lib.hid (HB.out.below hb2 hs)
      have hs2 : w.heap.size < w2.heap.size := keep_size hb2 hs
      clear hb2
      by_cases he0 : eq = 0
      · subst he0
        have hqv := HVQ.out HEQ.out
        have HOK := Lib.hid (show okTo s (2 + 1) = true by simp only [okTo, Nat.reduceAdd]; have h0 := HA.out; simp only [okTo] at h0; rw [HCUT.out, HEQ.out]; simp_all)
        have hBn := HB2.out.alloc (.cells #[.int .i64 q.ag, .int .i64 q.aa, .int .i64 q.bg, .int .i64 q.ba, .bool q.two, .int .i64 q.size, .int .i64 q.level, .int .i64 q.birth, .int .u64 q.s0, .int .u64 q.s1, .int .u64 q.s2, .int .u64 q.s3] 36)
        have hth : (w2.alloc (.cells #[.int .i64 q.ag, .int .i64 q.aa, .int .i64 q.bg, .int .i64 q.ba, .bool q.two, .int .i64 q.size, .int .i64 q.level, .int .i64 q.birth, .int .u64 q.s0, .int .u64 q.s1, .int .u64 q.s2, .int .u64 q.s3] 36)).there w.heap.size 24 (Array.size (#[.int .i64 q.ag, .int .i64 q.aa, .int .i64 q.bg, .int .i64 q.ba, .bool q.two, .int .i64 q.size, .int .i64 q.level, .int .i64 q.birth, .int .u64 q.s0, .int .u64 q.s1, .int .u64 q.s2, .int .u64 q.s3] : Array Value)) := hBn.there (by rw [ixTo_size]; show 24 + 12 ≤ 48; omega)
        have hput := hBn.puts (Array.toList (#[.int .i64 q.ag, .int .i64 q.aa, .int .i64 q.bg, .int .i64 q.ba, .bool q.two, .int .i64 q.size, .int .i64 q.level, .int .i64 q.birth, .int .u64 q.s0, .int .u64 q.s1, .int .u64 q.s2, .int .u64 q.s3] : Array Value)) 24
        have HPUT : Hid (Blk ((w2.alloc (.cells #[.int .i64 q.ag, .int .i64 q.aa, .int .i64 q.bg, .int .i64 q.ba, .bool q.two, .int .i64 q.size, .int .i64 q.level, .int .i64 q.birth, .int .u64 q.s0, .int .u64 q.s1, .int .u64 q.s2, .int .u64 q.s3] 36)).setCells w.heap.size 24 (Array.toList (#[.int .i64 q.ag, .int .i64 q.aa, .int .i64 q.bg, .int .i64 q.ba, .bool q.two, .int .i64 q.size, .int .i64 q.level, .int .i64 q.birth, .int .u64 q.s0, .int .u64 q.s1, .int .u64 q.s2, .int .u64 q.s3] : Array Value))) w.heap.size 43 (ixTo s (2 + 1))) := by
          have e : wrFrom (ixTo s 2) 24 (Array.toList (#[.int .i64 q.ag, .int .i64 q.aa, .int .i64 q.bg, .int .i64 q.ba, .bool q.two, .int .i64 q.size, .int .i64 q.level, .int .i64 q.birth, .int .u64 q.s0, .int .u64 q.s1, .int .u64 q.s2, .int .u64 q.s3] : Array Value)) = ixTo s (2 + 1) := by rw [hqv, ← HCUT.out]; exact wr_2 _ _ _ _ _
          rw [e] at hput
          exact Lib.hid hput
        have HBE := Lib.hid (below_sets (Array.toList (#[.int .i64 q.ag, .int .i64 q.aa, .int .i64 q.bg, .int .i64 q.ba, .bool q.two, .int .i64 q.size, .int .i64 q.level, .int .i64 q.birth, .int .u64 q.s0, .int .u64 q.s1, .int .u64 q.s2, .int .u64 q.s3] : Array Value)) 24 (keep_alloc hd2 (.cells #[.int .i64 q.ag, .int .i64 q.aa, .int .i64 q.bg, .int .i64 q.ba, .bool q.two, .int .i64 q.size, .int .i64 q.level, .int .i64 q.birth, .int .u64 q.s0, .int .u64 q.s1, .int .u64 q.s2, .int .u64 q.s3] 36)) (Nat.le_refl w.heap.size))
        have hsz : w.heap.size < ((w2.alloc (.cells #[.int .i64 q.ag, .int .i64 q.aa, .int .i64 q.bg, .int .i64 q.ba, .bool q.two, .int .i64 q.size, .int .i64 q.level, .int .i64 q.birth, .int .u64 q.s0, .int .u64 q.s1, .int .u64 q.s2, .int .u64 q.s3] 36)).setCells w.heap.size 24 (Array.toList (#[.int .i64 q.ag, .int .i64 q.aa, .int .i64 q.bg, .int .i64 q.ba, .bool q.two, .int .i64 q.size, .int .i64 q.level, .int .i64 q.birth, .int .u64 q.s0, .int .u64 q.s1, .int .u64 q.s2, .int .u64 q.s3] : Array Value))).heap.size := HPUT.out.lt
        have HSZ := Lib.hid hsz
        have hi12 : (Tryd.prog.info? 36).map (·.size) = some (Array.size (#[.int .i64 q.ag, .int .i64 q.aa, .int .i64 q.bg, .int .i64 q.ba, .bool q.two, .int .i64 q.size, .int .i64 q.level, .int .i64 q.birth, .int .u64 q.s0, .int .u64 q.s1, .int .u64 q.s2, .int .u64 q.s3] : Array Value)) := by kernel_rfl
        have h1c : Array.all (#[.int .i64 q.ag, .int .i64 q.aa, .int .i64 q.bg, .int .i64 q.ba, .bool q.two, .int .i64 q.size, .int .i64 q.level, .int .i64 q.birth, .int .u64 q.s0, .int .u64 q.s1, .int .u64 q.s2, .int .u64 q.s3] : Array Value) (·.oneCell') = true := by kernel_rfl
        clear hBn hput hqv hsz hX
        go_wp2_with ((with_reducible refine wpList_store_mid ?a1 36 (.tmp 28) (.tmp 26) ?a2 w.heap.size 24 #[.int .i64 q.ag, .int .i64 q.aa, .int .i64 q.bg, .int .i64 q.ba, .bool q.two, .int .i64 q.size, .int .i64 q.level, .int .i64 q.birth, .int .u64 q.s0, .int .u64 q.s1, .int .u64 q.s2, .int .u64 q.s3] ?a3 ?a4 hth hi12 h1c ?_); (case a1 => rfl); (case a2 => rfl); (case a3 => rfl); (case a4 => rfl))
        go_roundw
        case rel => exact ⟨2 + 1, by omega, rfl, HOK.out, HPUT.out, HBE.out, HSZ.out⟩
        case measure => simp [intOf]
      · have hv : Hid (idxV s = .nilIface ∧ idxE s = eq) := by
          have h0 := HA.out
          have h1 := HEQ.out
          rw [← HCUT.out] at h1
          unfold Hid idxV idxE
          (simp only [okTo, beq_iff_eq, Bool.and_eq_true] at h0; rw [show okTo s 4 = false by simp only [okTo, h1, show (eq == 0) = false by simpa using he0, Bool.false_and, Bool.and_false], h0.1, if_neg (by simp), h0.2, if_neg (by simp), h1, if_pos he0]; exact ⟨rfl, rfl⟩)
        have hne : (eq != 0) = true := by simpa using he0
        clear hX
        go_wp2_with fail
        go_ret2
        exact ⟨by rw [hv.out.1, hv.out.2]; rfl, keep_alloc hd2 _⟩
    · have hsl := HL.out
      have hX : (ByteArray.mk s.toArray).extract 192 256 = ⟨((s.drop 192).take 64).toArray⟩ := rd_extract s 192 64
      have hcl : ((s.drop 192).take 64).length ≤ 64 := List.length_take_le _ _
      obtain ⟨q, eq, hq, hRD⟩ := pread_vals ((s.drop 192).take 64) (by omega)
      have HQ := Lib.hid hq
      have HRD := Lib.hid hRD
      have hq2 : (256 : Int) ≤ s.length := by omega
      have HEQ : Hid (readE ((s.drop 192).take 64) = eq) := Lib.hid hq.1.symm
      have HVQ : Hid (readE ((s.drop 192).take 64) = 0 → q = readP ((s.drop 192).take 64)) := Lib.hid fun h => by rw [hq.2]; unfold readV; rw [if_pos h]
      clear hq hRD hsl
      generalize hcut : (s.drop 192).take 64 = cut at *
      have HCUT := Lib.hid hcut
      clear hcut
      go_wp2_with fail
      refine (HRD.out _).mono ?_
      rintro e w2 ⟨rfl, hb2⟩
      have hd2 := keep_below hb2 hd
      have HB2 := Lib.hid (HB.out.below hb2 hs)
      have hs2 : w.heap.size < w2.heap.size := keep_size hb2 hs
      clear hb2
      by_cases he0 : eq = 0
      · subst he0
        have hqv := HVQ.out HEQ.out
        have HOK := Lib.hid (show okTo s (3 + 1) = true by simp only [okTo, Nat.reduceAdd]; have h0 := HA.out; simp only [okTo] at h0; rw [HCUT.out, HEQ.out]; simp_all)
        have hBn := HB2.out.alloc (.cells #[.int .i64 q.ag, .int .i64 q.aa, .int .i64 q.bg, .int .i64 q.ba, .bool q.two, .int .i64 q.size, .int .i64 q.level, .int .i64 q.birth, .int .u64 q.s0, .int .u64 q.s1, .int .u64 q.s2, .int .u64 q.s3] 36)
        have hth : (w2.alloc (.cells #[.int .i64 q.ag, .int .i64 q.aa, .int .i64 q.bg, .int .i64 q.ba, .bool q.two, .int .i64 q.size, .int .i64 q.level, .int .i64 q.birth, .int .u64 q.s0, .int .u64 q.s1, .int .u64 q.s2, .int .u64 q.s3] 36)).there w.heap.size 36 (Array.size (#[.int .i64 q.ag, .int .i64 q.aa, .int .i64 q.bg, .int .i64 q.ba, .bool q.two, .int .i64 q.size, .int .i64 q.level, .int .i64 q.birth, .int .u64 q.s0, .int .u64 q.s1, .int .u64 q.s2, .int .u64 q.s3] : Array Value)) := hBn.there (by rw [ixTo_size]; show 36 + 12 ≤ 48; omega)
        have hput := hBn.puts (Array.toList (#[.int .i64 q.ag, .int .i64 q.aa, .int .i64 q.bg, .int .i64 q.ba, .bool q.two, .int .i64 q.size, .int .i64 q.level, .int .i64 q.birth, .int .u64 q.s0, .int .u64 q.s1, .int .u64 q.s2, .int .u64 q.s3] : Array Value)) 36
        have HPUT : Hid (Blk ((w2.alloc (.cells #[.int .i64 q.ag, .int .i64 q.aa, .int .i64 q.bg, .int .i64 q.ba, .bool q.two, .int .i64 q.size, .int .i64 q.level, .int .i64 q.birth, .int .u64 q.s0, .int .u64 q.s1, .int .u64 q.s2, .int .u64 q.s3] 36)).setCells w.heap.size 36 (Array.toList (#[.int .i64 q.ag, .int .i64 q.aa, .int .i64 q.bg, .int .i64 q.ba, .bool q.two, .int .i64 q.size, .int .i64 q.level, .int .i64 q.birth, .int .u64 q.s0, .int .u64 q.s1, .int .u64 q.s2, .int .u64 q.s3] : Array Value))) w.heap.size 43 (ixTo s (3 + 1))) := by
          have e : wrFrom (ixTo s 3) 36 (Array.toList (#[.int .i64 q.ag, .int .i64 q.aa, .int .i64 q.bg, .int .i64 q.ba, .bool q.two, .int .i64 q.size, .int .i64 q.level, .int .i64 q.birth, .int .u64 q.s0, .int .u64 q.s1, .int .u64 q.s2, .int .u64 q.s3] : Array Value)) = ixTo s (3 + 1) := by rw [hqv, ← HCUT.out]; exact wr_3 _ _ _ _ _
          rw [e] at hput
          exact Lib.hid hput
        have HBE := Lib.hid (below_sets (Array.toList (#[.int .i64 q.ag, .int .i64 q.aa, .int .i64 q.bg, .int .i64 q.ba, .bool q.two, .int .i64 q.size, .int .i64 q.level, .int .i64 q.birth, .int .u64 q.s0, .int .u64 q.s1, .int .u64 q.s2, .int .u64 q.s3] : Array Value)) 36 (keep_alloc hd2 (.cells #[.int .i64 q.ag, .int .i64 q.aa, .int .i64 q.bg, .int .i64 q.ba, .bool q.two, .int .i64 q.size, .int .i64 q.level, .int .i64 q.birth, .int .u64 q.s0, .int .u64 q.s1, .int .u64 q.s2, .int .u64 q.s3] 36)) (Nat.le_refl w.heap.size))
        have hsz : w.heap.size < ((w2.alloc (.cells #[.int .i64 q.ag, .int .i64 q.aa, .int .i64 q.bg, .int .i64 q.ba, .bool q.two, .int .i64 q.size, .int .i64 q.level, .int .i64 q.birth, .int .u64 q.s0, .int .u64 q.s1, .int .u64 q.s2, .int .u64 q.s3] 36)).setCells w.heap.size 36 (Array.toList (#[.int .i64 q.ag, .int .i64 q.aa, .int .i64 q.bg, .int .i64 q.ba, .bool q.two, .int .i64 q.size, .int .i64 q.level, .int .i64 q.birth, .int .u64 q.s0, .int .u64 q.s1, .int .u64 q.s2, .int .u64 q.s3] : Array Value))).heap.size := HPUT.out.lt
        have HSZ := Lib.hid hsz
        have hi12 : (Tryd.prog.info? 36).map (·.size) = some (Array.size (#[.int .i64 q.ag, .int .i64 q.aa, .int .i64 q.bg, .int .i64 q.ba, .bool q.two, .int .i64 q.size, .int .i64 q.level, .int .i64 q.birth, .int .u64 q.s0, .int .u64 q.s1, .int .u64 q.s2, .int .u64 q.s3] : Array Value)) := by kernel_rfl
        have h1c : Array.all (#[.int .i64 q.ag, .int .i64 q.aa, .int .i64 q.bg, .int .i64 q.ba, .bool q.two, .int .i64 q.size, .int .i64 q.level, .int .i64 q.birth, .int .u64 q.s0, .int .u64 q.s1, .int .u64 q.s2, .int .u64 q.s3] : Array Value) (·.oneCell') = true := by kernel_rfl
        clear hBn hput hqv hsz hX
        go_wp2_with ((with_reducible refine wpList_store_mid ?a1 36 (.tmp 28) (.tmp 26) ?a2 w.heap.size 36 #[.int .i64 q.ag, .int .i64 q.aa, .int .i64 q.bg, .int .i64 q.ba, .bool q.two, .int .i64 q.size, .int .i64 q.level, .int .i64 q.birth, .int .u64 q.s0, .int .u64 q.s1, .int .u64 q.s2, .int .u64 q.s3] ?a3 ?a4 hth hi12 h1c ?_); (case a1 => rfl); (case a2 => rfl); (case a3 => rfl); (case a4 => rfl))
        go_roundw
        case rel => exact ⟨3 + 1, by omega, rfl, HOK.out, HPUT.out, HBE.out, HSZ.out⟩
        case measure => simp [intOf]
      · have hv : Hid (idxV s = .nilIface ∧ idxE s = eq) := by
          have h0 := HA.out
          have h1 := HEQ.out
          rw [← HCUT.out] at h1
          unfold Hid idxV idxE
          (simp only [okTo, beq_iff_eq, Bool.and_eq_true] at h0; rw [show okTo s 4 = false by simp only [okTo, h1, show (eq == 0) = false by simpa using he0, Bool.false_and, Bool.and_false], h0.1.1, if_neg (by simp), h0.1.2, if_neg (by simp), h0.2, if_neg (by simp), h1]; exact ⟨rfl, rfl⟩)
        have hne : (eq != 0) = true := by simpa using he0
        clear hX
        go_wp2_with fail
        go_ret2
        exact ⟨by rw [hv.out.1, hv.out.2]; rfl, keep_alloc hd2 _⟩
    · have hv : Hid (idxV s = .iface 43 (.agg (ixTo s 4)) ∧ idxE s = 0) := by
        have h0 := HA.out
        unfold Hid idxV idxE
        rw [if_pos h0]
        simp only [okTo, beq_iff_eq, Bool.and_eq_true] at h0
        rw [h0.1.1.1, if_neg (by simp), h0.1.1.2, if_neg (by simp), h0.1.2, if_neg (by simp), h0.2]
        exact ⟨rfl, rfl⟩
      have hi : (Tryd.prog.info? 43).map (·.size) = some (ixTo s 4).size := by rw [ixTo_size]; kernel_rfl
      have hB := HB.out
      generalize ixTo s 4 = cs at *
      go_wp2_with ((with_reducible refine wpList_load_want ?qw 43 (.tmp 4) ?q2 w.heap.size ?q3 43 cs _ hB Tryd.underlying43 rfl hi ?_); (case q2 => rfl); (case q3 => rfl); (case qw => rfl))
      go_ret2
      exact ⟨by rw [hv.out.1, hv.out.2]; rfl, hd⟩
end Go.Proofs.YtkmmehhddagijaaDoor
