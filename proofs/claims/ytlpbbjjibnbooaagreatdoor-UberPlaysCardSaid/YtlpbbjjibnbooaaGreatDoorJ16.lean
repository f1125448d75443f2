/-
  Contracts of node.Bytes and node.ReadNode.
  The contract of node.Bytes; == on nodes.
-/
import Derived.Test.YtlpbbjjibnbooaaGreatDoorJ13
import Derived.Test.YtlpbbjjibnbooaaGreatDoorJ14
import Derived.Test.YtlpbbjjibnbooaaGreatDoorJ15
namespace Go.Proofs.YtlpbbjjibnbooaaGreatDoor
set_option linter.unusedVariables false
set_option linter.unusedSimpArgs false
open Go.RowKit

/-- What bytes are read as a node: size, root, whether there is one, the error. -/
def rnD (s : List UInt8) : Int × PtrD × Bool × Int :=
  if s.length < 128 then (0, ptrZ, false, 2) else if 128 < s.length then (0, ptrZ, false, 3) else if allZ s then (0, ptrZ, false, 0)
  else if 4611686018427387904 ≤ subN s 0 8 then (0, ptrZ, false, 3) else if subN s 8 8 ≠ 1 then (0, ptrZ, false, 3)
  else if readE ((s.drop 16).take 64) ≠ 0 then (0, ptrZ, false, readE ((s.drop 16).take 64)) else if allZ (s.drop 80) then (subN s 0 8, readP ((s.drop 16).take 64), true, 0) else (0, ptrZ, false, 3)
def rnV (x : Int × PtrD × Bool × Int) : Value := .tuple #[.agg #[.int .i64 x.1, .int .i64 x.2.1.ag, .int .i64 x.2.1.aa, .int .i64 x.2.1.bg, .int .i64 x.2.1.ba, .bool x.2.1.two, .int .i64 x.2.1.size, .int .i64 x.2.1.level, .int .i64 x.2.1.birth, .int .u64 x.2.1.s0, .int .u64 x.2.1.s1, .int .u64 x.2.1.s2, .int .u64 x.2.1.s3], .bool x.2.2.1, .int .i64 x.2.2.2]
theorem in_sub {s : List UInt8} {p : Nat} (h : p + 8 ≤ s.length) : inErr s p = (if 4611686018427387904 ≤ subN s p 8 then 3 else 0) ∧ inVal s p = (if 4611686018427387904 ≤ subN s p 8 then 0 else subN s p 8) ∧ inPos s p = (if 4611686018427387904 ≤ subN s p 8 then p else p + 8) := by
  have e : inErr s p = (if 4611686018427387904 ≤ subN s p 8 then 3 else 0) := by unfold inErr; rw [if_neg (by omega)]; rfl
  unfold inVal inPos
  rw [e, rdN_sub h]
  split <;> simp

theorem tk_in {l : List UInt8} {p n : Nat} (h : p + n ≤ l.length) : tkErr l p n = 0 ∧ tkStr l p n = (l.drop p).take n ∧ tkPos l p n = p + n := by
  have e : tkErr l p n = 0 := by unfold tkErr; rw [if_neg (by omega), if_neg (by omega)]
  unfold tkStr tkPos
  rw [e, if_pos rfl, if_pos rfl, Int.toNat_natCast]
  exact ⟨rfl, rfl, rfl⟩
/-- ptr.Read, its values as letters. -/
theorem pread_vals (s : List UInt8) (hl : s.length ≤ 140737488351232) : ∃ (q : PtrD) (es : Int), (es = readE s ∧ q = readV s) ∧
    ∀ w, Calls Tryz.prog 73 #[str s] w fun e' w' => e' = .returned (.tuple #[.agg #[.int .i64 q.ag, .int .i64 q.aa, .int .i64 q.bg, .int .i64 q.ba, .bool q.two, .int .i64 q.size, .int .i64 q.level, .int .i64 q.birth, .int .u64 q.s0, .int .u64 q.s1, .int .u64 q.s2, .int .u64 q.s3], .int .i64 es]) ∧ Below w.heap.size w w' :=
  ⟨readV s, readE s, ⟨rfl, rfl⟩, fun w => pread_any s w hl⟩

set_option maxRecDepth 100000 in
set_option maxHeartbeats 8000000 in
theorem rn_any (s : List UInt8) (w : World) (hl : s.length ≤ 140737488351232) :
    Calls Tryz.prog 34 #[str s] w fun e w' => e = .returned (rnV (rnD s)) ∧ Below w.heap.size w w' := by
  by_cases h1 : s.length < 128
  · have he : Hid (rnV (rnD s) = .tuple #[.agg #[.int .i64 0, .int .i64 0, .int .i64 0, .int .i64 0, .int .i64 0, .bool false, .int .i64 0, .int .i64 0, .int .i64 0, .int .u64 0, .int .u64 0, .int .u64 0, .int .u64 0], .bool false, .int .i64 2]) := by unfold Hid rnD; rw [if_pos h1]; rfl
    have hbw := (Below.refl w.heap.size w).alloc (Nat.le_refl _) (.cells #[.int .i64 0, .int .i64 0, .int .i64 0, .int .i64 0, .int .i64 0, .bool false, .int .i64 0, .int .i64 0, .int .i64 0, .int .u64 0, .int .u64 0, .int .u64 0, .int .u64 0] 33)
    go_enter Tryz.func34, Tryz.ntmps34
    go_wp2_with fail
    refine bodyPost_ret (v := .tuple #[.agg #[.int .i64 0, .int .i64 0, .int .i64 0, .int .i64 0, .int .i64 0, .bool false, .int .i64 0, .int .i64 0, .int .i64 0, .int .u64 0, .int .u64 0, .int .u64 0, .int .u64 0], .bool false, .int .i64 2]) (by simp [results, Tryz.results34, go_sem]) rfl ⟨by rw [he.out], hbw⟩
  · by_cases h2 : 128 < s.length
    · have he : Hid (rnV (rnD s) = .tuple #[.agg #[.int .i64 0, .int .i64 0, .int .i64 0, .int .i64 0, .int .i64 0, .bool false, .int .i64 0, .int .i64 0, .int .i64 0, .int .u64 0, .int .u64 0, .int .u64 0, .int .u64 0], .bool false, .int .i64 3]) := by unfold Hid rnD; rw [if_neg h1, if_pos h2]; rfl
      have hbw := (Below.refl w.heap.size w).alloc (Nat.le_refl _) (.cells #[.int .i64 0, .int .i64 0, .int .i64 0, .int .i64 0, .int .i64 0, .bool false, .int .i64 0, .int .i64 0, .int .i64 0, .int .u64 0, .int .u64 0, .int .u64 0, .int .u64 0] 33)
      go_enter Tryz.func34, Tryz.ntmps34
      go_wp2_with fail
      refine bodyPost_ret (v := .tuple #[.agg #[.int .i64 0, .int .i64 0, .int .i64 0, .int .i64 0, .int .i64 0, .bool false, .int .i64 0, .int .i64 0, .int .i64 0, .int .u64 0, .int .u64 0, .int .u64 0, .int .u64 0], .bool false, .int .i64 3]) (by simp [results, Tryz.results34, go_sem]) rfl ⟨by rw [he.out], hbw⟩
    · have h3 : s.length = 128 := by omega
      have HL := Lib.hid h3
      clear h3
      go_enter Tryz.func34, Tryz.ntmps34
      go_wp2_with fail
      refine (new_any s _ hl).mono ?_
      rintro e w1 ⟨rfl, hR, hb⟩
      have hz : w.heap.size < (w.alloc (.cells #[.int .i64 0, .int .i64 0, .int .i64 0, .int .i64 0, .int .i64 0, .bool false, .int .i64 0, .int .i64 0, .int .i64 0, .int .u64 0, .int .u64 0, .int .u64 0, .int .u64 0] 33)).heap.size := by simp
      have hb1 : Below w.heap.size w (w.alloc (.cells #[.int .i64 0, .int .i64 0, .int .i64 0, .int .i64 0, .int .i64 0, .bool false, .int .i64 0, .int .i64 0, .int .i64 0, .int .u64 0, .int .u64 0, .int .u64 0, .int .u64 0] 33)) := (Below.refl _ _).alloc (Nat.le_refl _) _
      have hbw : Below w.heap.size w w1 := hb1.trans (hb.mono hb1.size)
      have HZ : Hid (Blk w1 w.heap.size 33 #[.int .i64 0, .int .i64 0, .int .i64 0, .int .i64 0, .int .i64 0, .bool false, .int .i64 0, .int .i64 0, .int .i64 0, .int .u64 0, .int .u64 0, .int .u64 0, .int .u64 0]) := Lib.hid ((Blk.new w 33 #[.int .i64 0, .int .i64 0, .int .i64 0, .int .i64 0, .int .i64 0, .bool false, .int .i64 0, .int .i64 0, .int .i64 0, .int .u64 0, .int .u64 0, .int .u64 0, .int .u64 0]).below hb hz)
      rw [World.size_alloc] at hR
      have HR := Lib.hid hR
      have hrb : w.heap.size + 1 < w1.heap.size := by have := hR.lt; simpa using this
      clear hR hb hz hb1
      go_wp2_with fail
      refine (rZeros_any _ _ s _ HR.out).mono ?_
      rintro e w2 ⟨rfl, k2, rfl⟩
      rw [List.drop_zero]
      cases hza : allZ s with
      | true =>
        have he : Hid (rnV (rnD s) = .tuple #[.agg #[.int .i64 0, .int .i64 0, .int .i64 0, .int .i64 0, .int .i64 0, .bool false, .int .i64 0, .int .i64 0, .int .i64 0, .int .u64 0, .int .u64 0, .int .u64 0, .int .u64 0], .bool false, .int .i64 0]) := by unfold Hid rnD; rw [if_neg h1, if_neg h2, if_pos hza]; rfl
        have z0 := HZ.out.at_ (i := 0) (v := .int .i64 0) rfl
        have f0 := HZ.out.fr 0
        have z1 := HZ.out.at_ (i := 1) (v := .int .i64 0) rfl
        have f1 := HZ.out.fr 1
        have z2 := HZ.out.at_ (i := 2) (v := .int .i64 0) rfl
        have f2 := HZ.out.fr 2
        have z3 := HZ.out.at_ (i := 3) (v := .int .i64 0) rfl
        have f3 := HZ.out.fr 3
        have z4 := HZ.out.at_ (i := 4) (v := .int .i64 0) rfl
        have f4 := HZ.out.fr 4
        have z5 := HZ.out.at_ (i := 5) (v := .bool false) rfl
        have f5 := HZ.out.fr 5
        have z6 := HZ.out.at_ (i := 6) (v := .int .i64 0) rfl
        have f6 := HZ.out.fr 6
        have z7 := HZ.out.at_ (i := 7) (v := .int .i64 0) rfl
        have f7 := HZ.out.fr 7
        have z8 := HZ.out.at_ (i := 8) (v := .int .i64 0) rfl
        have f8 := HZ.out.fr 8
        have z9 := HZ.out.at_ (i := 9) (v := .int .u64 0) rfl
        have f9 := HZ.out.fr 9
        have z10 := HZ.out.at_ (i := 10) (v := .int .u64 0) rfl
        have f10 := HZ.out.fr 10
        have z11 := HZ.out.at_ (i := 11) (v := .int .u64 0) rfl
        have f11 := HZ.out.fr 11
        have z12 := HZ.out.at_ (i := 12) (v := .int .u64 0) rfl
        have f12 := HZ.out.fr 12
        have hw3 : w.heap.size < w1.heap.size := by omega
        go_wp2_with fail
        refine bodyPost_ret (v := .tuple #[.agg #[.int .i64 0, .int .i64 0, .int .i64 0, .int .i64 0, .int .i64 0, .bool false, .int .i64 0, .int .i64 0, .int .i64 0, .int .u64 0, .int .u64 0, .int .u64 0, .int .u64 0], .bool false, .int .i64 (0)]) (by simp [results, Tryz.results34, go_sem, hw3, z0, z1, z2, z3, z4, z5, z6, z7, z8, z9, z10, z11, z12]) rfl ⟨by rw [he.out], ?_⟩
        repeat (first | (with_reducible exact hbw) | (with_reducible refine keep_alloc ?_ _) | (with_reducible refine below_drewN ?_ _) | (with_reducible refine below_set ?_ _ _ _ (Nat.le_refl _)))
      | false =>
        have HZA := Lib.hid hza
        clear hza
        have hbw := below_drewN hbw k2
        have HZ : Hid (Blk (w1.drewN k2) w.heap.size 33 #[.int .i64 0, .int .i64 0, .int .i64 0, .int .i64 0, .int .i64 0, .bool false, .int .i64 0, .int .i64 0, .int .i64 0, .int .u64 0, .int .u64 0, .int .u64 0, .int .u64 0]) := Lib.hid HZ.out
        have HR : Hid (RdAt (w1.drewN k2) (w.heap.size + 1) s 0) := Lib.hid HR.out
        have hrb : w.heap.size + 1 < (w1.drewN k2).heap.size := hrb
        generalize w1.drewN k2 = w2 at *
        have hi0 := in_sub (s := s) (p := 0) (by have := HL.out; omega)
        have hi8 := in_sub (s := s) (p := 8) (by have := HL.out; omega)
        have hD : Hid (rnD s = if 4611686018427387904 ≤ subN s 0 8 then ((0, ptrZ, false, 3) : Int × PtrD × Bool × Int) else if subN s 8 8 ≠ 1 then (0, ptrZ, false, 3)
            else if readE ((s.drop 16).take 64) ≠ 0 then (0, ptrZ, false, readE ((s.drop 16).take 64)) else if allZ (s.drop 80) then (subN s 0 8, readP ((s.drop 16).take 64), true, 0) else (0, ptrZ, false, 3)) := by
          unfold Hid rnD; rw [if_neg h1, if_neg h2, if_neg (by rw [HZA.out]; simp)]
        by_cases hg0 : 4611686018427387904 ≤ subN s 0 8
        · have he : Hid (rnV (rnD s) = .tuple #[.agg #[.int .i64 0, .int .i64 0, .int .i64 0, .int .i64 0, .int .i64 0, .bool false, .int .i64 0, .int .i64 0, .int .i64 0, .int .u64 0, .int .u64 0, .int .u64 0, .int .u64 0], .bool false, .int .i64 3]) := by unfold Hid; rw [hD.out, if_pos hg0]; rfl
          rw [if_pos hg0, if_pos hg0, if_pos hg0] at hi0
          have HI := Lib.hid hi0
          clear hi0 hi8 hg0
          go_wp2_with fail
          refine (rInt_any _ 0 s _ HR.out).mono ?_
          rintro e wn ⟨rfl, hRn, hGn⟩
          rw [HI.out.1, HI.out.2.1]
          rw [HI.out.2.2] at hRn
          have hbw := below_only hbw hGn (by omega)
          have HZ := Lib.hid (HZ.out.grown hGn (by omega))
          have HR := Lib.hid hRn
          have hrb : w.heap.size + 1 < wn.heap.size := Nat.lt_of_lt_of_le hrb hGn.size
          clear hRn hGn
          go_wp2_with fail
          refine (rInt_any _ 0 s _ HR.out).mono ?_
          rintro e wn ⟨rfl, hRn, hGn⟩
          rw [HI.out.1, HI.out.2.1]
          rw [HI.out.2.2] at hRn
          have hbw := below_only hbw hGn (by omega)
          have HZ := Lib.hid (HZ.out.grown hGn (by omega))
          have HR := Lib.hid hRn
          have hrb : w.heap.size + 1 < wn.heap.size := Nat.lt_of_lt_of_le hrb hGn.size
          clear hRn hGn
          have z0 := HZ.out.at_ (i := 0) (v := .int .i64 0) rfl
          have f0 := HZ.out.fr 0
          have z1 := HZ.out.at_ (i := 1) (v := .int .i64 0) rfl
          have f1 := HZ.out.fr 1
          have z2 := HZ.out.at_ (i := 2) (v := .int .i64 0) rfl
          have f2 := HZ.out.fr 2
          have z3 := HZ.out.at_ (i := 3) (v := .int .i64 0) rfl
          have f3 := HZ.out.fr 3
          have z4 := HZ.out.at_ (i := 4) (v := .int .i64 0) rfl
          have f4 := HZ.out.fr 4
          have z5 := HZ.out.at_ (i := 5) (v := .bool false) rfl
          have f5 := HZ.out.fr 5
          have z6 := HZ.out.at_ (i := 6) (v := .int .i64 0) rfl
          have f6 := HZ.out.fr 6
          have z7 := HZ.out.at_ (i := 7) (v := .int .i64 0) rfl
          have f7 := HZ.out.fr 7
          have z8 := HZ.out.at_ (i := 8) (v := .int .i64 0) rfl
          have f8 := HZ.out.fr 8
          have z9 := HZ.out.at_ (i := 9) (v := .int .u64 0) rfl
          have f9 := HZ.out.fr 9
          have z10 := HZ.out.at_ (i := 10) (v := .int .u64 0) rfl
          have f10 := HZ.out.fr 10
          have z11 := HZ.out.at_ (i := 11) (v := .int .u64 0) rfl
          have f11 := HZ.out.fr 11
          have z12 := HZ.out.at_ (i := 12) (v := .int .u64 0) rfl
          have f12 := HZ.out.fr 12
          have hw3 : w.heap.size < wn.heap.size := by omega
          go_wp2_with fail
          refine bodyPost_ret (v := .tuple #[.agg #[.int .i64 0, .int .i64 0, .int .i64 0, .int .i64 0, .int .i64 0, .bool false, .int .i64 0, .int .i64 0, .int .i64 0, .int .u64 0, .int .u64 0, .int .u64 0, .int .u64 0], .bool false, .int .i64 (3)]) (by simp [results, Tryz.results34, go_sem, hw3, z0, z1, z2, z3, z4, z5, z6, z7, z8, z9, z10, z11, z12]) rfl ⟨by rw [he.out], ?_⟩
          repeat (first | (with_reducible exact hbw) | (with_reducible refine keep_alloc ?_ _) | (with_reducible refine below_drewN ?_ _) | (with_reducible refine below_set ?_ _ _ _ (Nat.le_refl _)))
        · rw [if_neg hg0, if_neg hg0, if_neg hg0] at hi0
          have HI := Lib.hid hi0
          have hn0 : subN s 0 8 < 4611686018427387904 := by omega
          clear hi0
          by_cases hg8 : 4611686018427387904 ≤ subN s 8 8
          · have he : Hid (rnV (rnD s) = .tuple #[.agg #[.int .i64 0, .int .i64 0, .int .i64 0, .int .i64 0, .int .i64 0, .bool false, .int .i64 0, .int .i64 0, .int .i64 0, .int .u64 0, .int .u64 0, .int .u64 0, .int .u64 0], .bool false, .int .i64 3]) := by unfold Hid; rw [hD.out, if_neg hg0, if_pos (by omega)]; rfl
            rw [if_pos hg8, if_pos hg8, if_pos hg8] at hi8
            have HI8 := Lib.hid hi8
            clear hi8 hg8 hg0
            go_wp2_with fail
            refine (rInt_any _ 0 s _ HR.out).mono ?_
            rintro e wn ⟨rfl, hRn, hGn⟩
            rw [HI.out.1, HI.out.2.1]
            rw [HI.out.2.2] at hRn
            have hbw := below_only hbw hGn (by omega)
            have HZ := Lib.hid (HZ.out.grown hGn (by omega))
            have HR := Lib.hid hRn
            have hrb : w.heap.size + 1 < wn.heap.size := Nat.lt_of_lt_of_le hrb hGn.size
            clear hRn hGn
            go_wp2_with fail
            refine (rInt_any _ 8 s _ HR.out).mono ?_
            rintro e wn ⟨rfl, hRn, hGn⟩
            rw [HI8.out.1, HI8.out.2.1]
            rw [HI8.out.2.2] at hRn
            have hbw := below_only hbw hGn (by omega)
            have HZ := Lib.hid (HZ.out.grown hGn (by omega))
            have HR := Lib.hid hRn
            have hrb : w.heap.size + 1 < wn.heap.size := Nat.lt_of_lt_of_le hrb hGn.size
            clear hRn hGn
            have z0 := HZ.out.at_ (i := 0) (v := .int .i64 0) rfl
            have f0 := HZ.out.fr 0
            have z1 := HZ.out.at_ (i := 1) (v := .int .i64 0) rfl
            have f1 := HZ.out.fr 1
            have z2 := HZ.out.at_ (i := 2) (v := .int .i64 0) rfl
            have f2 := HZ.out.fr 2
            have z3 := HZ.out.at_ (i := 3) (v := .int .i64 0) rfl
            have f3 := HZ.out.fr 3
            have z4 := HZ.out.at_ (i := 4) (v := .int .i64 0) rfl
            have f4 := HZ.out.fr 4
            have z5 := HZ.out.at_ (i := 5) (v := .bool false) rfl
            have f5 := HZ.out.fr 5
            have z6 := HZ.out.at_ (i := 6) (v := .int .i64 0) rfl
            have f6 := HZ.out.fr 6
            have z7 := HZ.out.at_ (i := 7) (v := .int .i64 0) rfl
            have f7 := HZ.out.fr 7
            have z8 := HZ.out.at_ (i := 8) (v := .int .i64 0) rfl
            have f8 := HZ.out.fr 8
            have z9 := HZ.out.at_ (i := 9) (v := .int .u64 0) rfl
            have f9 := HZ.out.fr 9
            have z10 := HZ.out.at_ (i := 10) (v := .int .u64 0) rfl
            have f10 := HZ.out.fr 10
            have z11 := HZ.out.at_ (i := 11) (v := .int .u64 0) rfl
            have f11 := HZ.out.fr 11
            have z12 := HZ.out.at_ (i := 12) (v := .int .u64 0) rfl
            have f12 := HZ.out.fr 12
            have hw3 : w.heap.size < wn.heap.size := by omega
            go_wp2_with fail
            refine bodyPost_ret (v := .tuple #[.agg #[.int .i64 0, .int .i64 0, .int .i64 0, .int .i64 0, .int .i64 0, .bool false, .int .i64 0, .int .i64 0, .int .i64 0, .int .u64 0, .int .u64 0, .int .u64 0, .int .u64 0], .bool false, .int .i64 (3)]) (by simp [results, Tryz.results34, go_sem, hw3, z0, z1, z2, z3, z4, z5, z6, z7, z8, z9, z10, z11, z12]) rfl ⟨by rw [he.out], ?_⟩
            repeat (first | (with_reducible exact hbw) | (with_reducible refine keep_alloc ?_ _) | (with_reducible refine below_drewN ?_ _) | (with_reducible refine below_set ?_ _ _ _ (Nat.le_refl _)))
          · rw [if_neg hg8, if_neg hg8, if_neg hg8] at hi8
            have HI8 := Lib.hid hi8
            clear hi8
            by_cases h81 : subN s 8 8 = 1
            · rw [h81] at HI8
              have HD : Hid (rnD s = if readE ((s.drop 16).take 64) ≠ 0 then ((0, ptrZ, false, readE ((s.drop 16).take 64)) : Int × PtrD × Bool × Int) else if allZ (s.drop 80) then (subN s 0 8, readP ((s.drop 16).take 64), true, 0) else (0, ptrZ, false, 3)) := by
                unfold Hid; rw [hD.out, if_neg hg0, if_neg (by omega)]
              clear hD h81 hg8 hg0
              generalize subN s 0 8 = n0 at *
              go_wp2_with fail
              refine (rInt_any _ 0 s _ HR.out).mono ?_
              rintro e wn ⟨rfl, hRn, hGn⟩
              rw [HI.out.1, HI.out.2.1]
              rw [HI.out.2.2] at hRn
              have hbw := below_only hbw hGn (by omega)
              have HZ := Lib.hid (HZ.out.grown hGn (by omega))
              have HR := Lib.hid hRn
              have hrb : w.heap.size + 1 < wn.heap.size := Nat.lt_of_lt_of_le hrb hGn.size
              clear hRn hGn
              go_wp2_with fail
              refine (rInt_any _ 8 s _ HR.out).mono ?_
              rintro e wn ⟨rfl, hRn, hGn⟩
              rw [HI8.out.1, HI8.out.2.1]
              rw [HI8.out.2.2] at hRn
              have hbw := below_only hbw hGn (by omega)
              have HZ := Lib.hid (HZ.out.grown hGn (by omega))
              have HR := Lib.hid hRn
              have hrb : w.heap.size + 1 < wn.heap.size := Nat.lt_of_lt_of_le hrb hGn.size
              clear hRn hGn
              have hck : tkErr s 16 64 = 0 ∧ tkStr s 16 64 = (s.drop 16).take 64 ∧ tkPos s 16 64 = 80 := tk_in (l := s) (p := 16) (n := 64) (by have := HL.out; omega)
              have HCK := Lib.hid hck
              clear hck
              go_wp2_with fail
              refine (take_any _ 16 s 64 _ HR.out (by omega)).mono ?_
              rintro e wn ⟨rfl, hRn, hGn⟩
              rw [HCK.out.1, HCK.out.2.1]
              rw [HCK.out.2.2] at hRn
              have hbw := below_only hbw hGn (by omega)
              have HZ := Lib.hid (HZ.out.grown hGn (by omega))
              have HR := Lib.hid hRn
              have hrb : w.heap.size + 1 < wn.heap.size := Nat.lt_of_lt_of_le hrb hGn.size
              clear hRn hGn
              have hrl : ((s.drop 16).take 64).length ≤ 64 := List.length_take_le _ _
              obtain ⟨q, eq, hq, hRD⟩ := pread_vals ((s.drop 16).take 64) (by omega)
              have HQ := Lib.hid hq
              have HRD := Lib.hid hRD
              clear hq hRD
              generalize (s.drop 16).take 64 = root at *
              go_wp2_with fail
              refine (HRD.out _).mono ?_
              rintro e wm ⟨rfl, hbm⟩
              have hbw := keep_below hbm hbw
              have HZ := Lib.hid (HZ.out.below hbm (by omega))
              have HR := Lib.hid (HR.out.keep hbm hrb)
              have hrb : w.heap.size + 1 < wm.heap.size := keep_size hbm hrb
              clear hbm
              by_cases heq : eq = 0
              · subst heq
                have hrv : readE root = 0 := HQ.out.1.symm
                have hqv : q = readP root := by rw [HQ.out.2]; unfold readV; rw [if_pos hrv]
                have hHZR := rZeros_any (w.heap.size + 1) 80 s _ (HR.out.alloc1 (.cells #[.int .i64 q.ag, .int .i64 q.aa, .int .i64 q.bg, .int .i64 q.ba, .bool q.two, .int .i64 q.size, .int .i64 q.level, .int .i64 q.birth, .int .u64 q.s0, .int .u64 q.s1, .int .u64 q.s2, .int .u64 q.s3] 31))
                have HZR := Lib.hid hHZR
                clear hHZR
                cases hz8 : allZ (s.drop 80) with
                | true =>
                  have he : Hid (rnV (rnD s) = .tuple #[.agg #[.int .i64 n0, .int .i64 q.ag, .int .i64 q.aa, .int .i64 q.bg, .int .i64 q.ba, .bool q.two, .int .i64 q.size, .int .i64 q.level, .int .i64 q.birth, .int .u64 q.s0, .int .u64 q.s1, .int .u64 q.s2, .int .u64 q.s3], .bool true, .int .i64 0]) := by
                    unfold Hid; rw [HD.out, if_neg (by rw [hrv]; simp), if_pos hz8, hqv]; rfl
                  rw [hz8] at HZR
                  clear hz8 hrv hqv
                  have z0 := HZ.out.at_ (i := 0) (v := .int .i64 0) rfl
                  have f0 := HZ.out.fr 0
                  have z1 := HZ.out.at_ (i := 1) (v := .int .i64 0) rfl
                  have f1 := HZ.out.fr 1
                  have z2 := HZ.out.at_ (i := 2) (v := .int .i64 0) rfl
                  have f2 := HZ.out.fr 2
                  have z3 := HZ.out.at_ (i := 3) (v := .int .i64 0) rfl
                  have f3 := HZ.out.fr 3
                  have z4 := HZ.out.at_ (i := 4) (v := .int .i64 0) rfl
                  have f4 := HZ.out.fr 4
                  have z5 := HZ.out.at_ (i := 5) (v := .bool false) rfl
                  have f5 := HZ.out.fr 5
                  have z6 := HZ.out.at_ (i := 6) (v := .int .i64 0) rfl
                  have f6 := HZ.out.fr 6
                  have z7 := HZ.out.at_ (i := 7) (v := .int .i64 0) rfl
                  have f7 := HZ.out.fr 7
                  have z8 := HZ.out.at_ (i := 8) (v := .int .i64 0) rfl
                  have f8 := HZ.out.fr 8
                  have z9 := HZ.out.at_ (i := 9) (v := .int .u64 0) rfl
                  have f9 := HZ.out.fr 9
                  have z10 := HZ.out.at_ (i := 10) (v := .int .u64 0) rfl
                  have f10 := HZ.out.fr 10
                  have z11 := HZ.out.at_ (i := 11) (v := .int .u64 0) rfl
                  have f11 := HZ.out.fr 11
                  have z12 := HZ.out.at_ (i := 12) (v := .int .u64 0) rfl
                  have f12 := HZ.out.fr 12
                  have hw3 : w.heap.size < wm.heap.size := by omega
                  go_wp2_with fail
                  refine HZR.out.mono ?_
                  rintro e w6 ⟨rfl, k6, rfl⟩
                  go_wp2_with fail
                  refine bodyPost_ret (v := .tuple #[.agg #[.int .i64 n0, .int .i64 q.ag, .int .i64 q.aa, .int .i64 q.bg, .int .i64 q.ba, .bool q.two, .int .i64 q.size, .int .i64 q.level, .int .i64 q.birth, .int .u64 q.s0, .int .u64 q.s1, .int .u64 q.s2, .int .u64 q.s3], .bool true, .int .i64 0]) (by simp [results, Tryz.results34, go_sem, hw3, z0, z1, z2, z3, z4, z5, z6, z7, z8, z9, z10, z11, z12]) rfl ⟨by rw [he.out], ?_⟩
                  repeat (first | (with_reducible exact hbw) | (with_reducible refine keep_alloc ?_ _) | (with_reducible refine below_drewN ?_ _) | (with_reducible refine below_set ?_ _ _ _ (Nat.le_refl _)))
                | false =>
                  have he : Hid (rnV (rnD s) = .tuple #[.agg #[.int .i64 0, .int .i64 0, .int .i64 0, .int .i64 0, .int .i64 0, .bool false, .int .i64 0, .int .i64 0, .int .i64 0, .int .u64 0, .int .u64 0, .int .u64 0, .int .u64 0], .bool false, .int .i64 3]) := by
                    unfold Hid; rw [HD.out, if_neg (by rw [hrv]; simp), if_neg (by rw [hz8]; simp)]; rfl
                  rw [hz8] at HZR
                  clear hz8 hrv hqv
                  have z0 := HZ.out.at_ (i := 0) (v := .int .i64 0) rfl
                  have f0 := HZ.out.fr 0
                  have z1 := HZ.out.at_ (i := 1) (v := .int .i64 0) rfl
                  have f1 := HZ.out.fr 1
                  have z2 := HZ.out.at_ (i := 2) (v := .int .i64 0) rfl
                  have f2 := HZ.out.fr 2
                  have z3 := HZ.out.at_ (i := 3) (v := .int .i64 0) rfl
                  have f3 := HZ.out.fr 3
                  have z4 := HZ.out.at_ (i := 4) (v := .int .i64 0) rfl
                  have f4 := HZ.out.fr 4
                  have z5 := HZ.out.at_ (i := 5) (v := .bool false) rfl
                  have f5 := HZ.out.fr 5
                  have z6 := HZ.out.at_ (i := 6) (v := .int .i64 0) rfl
                  have f6 := HZ.out.fr 6
                  have z7 := HZ.out.at_ (i := 7) (v := .int .i64 0) rfl
                  have f7 := HZ.out.fr 7
                  have z8 := HZ.out.at_ (i := 8) (v := .int .i64 0) rfl
                  have f8 := HZ.out.fr 8
                  have z9 := HZ.out.at_ (i := 9) (v := .int .u64 0) rfl
                  have f9 := HZ.out.fr 9
                  have z10 := HZ.out.at_ (i := 10) (v := .int .u64 0) rfl
                  have f10 := HZ.out.fr 10
                  have z11 := HZ.out.at_ (i := 11) (v := .int .u64 0) rfl
                  have f11 := HZ.out.fr 11
                  have z12 := HZ.out.at_ (i := 12) (v := .int .u64 0) rfl
                  have f12 := HZ.out.fr 12
                  have hw3 : w.heap.size < wm.heap.size := by omega
                  go_wp2_with fail
                  refine HZR.out.mono ?_
                  rintro e w6 ⟨rfl, k6, rfl⟩
                  go_wp2_with fail
                  refine bodyPost_ret (v := .tuple #[.agg #[.int .i64 0, .int .i64 0, .int .i64 0, .int .i64 0, .int .i64 0, .bool false, .int .i64 0, .int .i64 0, .int .i64 0, .int .u64 0, .int .u64 0, .int .u64 0, .int .u64 0], .bool false, .int .i64 3]) (by simp [results, Tryz.results34, go_sem, hw3, z0, z1, z2, z3, z4, z5, z6, z7, z8, z9, z10, z11, z12]) rfl ⟨by rw [he.out], ?_⟩
                  repeat (first | (with_reducible exact hbw) | (with_reducible refine keep_alloc ?_ _) | (with_reducible refine below_drewN ?_ _) | (with_reducible refine below_set ?_ _ _ _ (Nat.le_refl _)))
              · have he : Hid (rnV (rnD s) = .tuple #[.agg #[.int .i64 0, .int .i64 0, .int .i64 0, .int .i64 0, .int .i64 0, .bool false, .int .i64 0, .int .i64 0, .int .i64 0, .int .u64 0, .int .u64 0, .int .u64 0, .int .u64 0], .bool false, .int .i64 eq]) := by
                  unfold Hid; rw [HD.out, if_pos (by rw [← HQ.out.1]; exact heq), ← HQ.out.1]; rfl
                have hqe : (eq != 0) = true := by simpa using heq
                have z0 := HZ.out.at_ (i := 0) (v := .int .i64 0) rfl
                have f0 := HZ.out.fr 0
                have z1 := HZ.out.at_ (i := 1) (v := .int .i64 0) rfl
                have f1 := HZ.out.fr 1
                have z2 := HZ.out.at_ (i := 2) (v := .int .i64 0) rfl
                have f2 := HZ.out.fr 2
                have z3 := HZ.out.at_ (i := 3) (v := .int .i64 0) rfl
                have f3 := HZ.out.fr 3
                have z4 := HZ.out.at_ (i := 4) (v := .int .i64 0) rfl
                have f4 := HZ.out.fr 4
                have z5 := HZ.out.at_ (i := 5) (v := .bool false) rfl
                have f5 := HZ.out.fr 5
                have z6 := HZ.out.at_ (i := 6) (v := .int .i64 0) rfl
                have f6 := HZ.out.fr 6
                have z7 := HZ.out.at_ (i := 7) (v := .int .i64 0) rfl
                have f7 := HZ.out.fr 7
                have z8 := HZ.out.at_ (i := 8) (v := .int .i64 0) rfl
                have f8 := HZ.out.fr 8
                have z9 := HZ.out.at_ (i := 9) (v := .int .u64 0) rfl
                have f9 := HZ.out.fr 9
                have z10 := HZ.out.at_ (i := 10) (v := .int .u64 0) rfl
                have f10 := HZ.out.fr 10
                have z11 := HZ.out.at_ (i := 11) (v := .int .u64 0) rfl
                have f11 := HZ.out.fr 11
                have z12 := HZ.out.at_ (i := 12) (v := .int .u64 0) rfl
                have f12 := HZ.out.fr 12
                have hw3 : w.heap.size < wm.heap.size := by omega
                go_wp2_with fail
                refine bodyPost_ret (v := .tuple #[.agg #[.int .i64 0, .int .i64 0, .int .i64 0, .int .i64 0, .int .i64 0, .bool false, .int .i64 0, .int .i64 0, .int .i64 0, .int .u64 0, .int .u64 0, .int .u64 0, .int .u64 0], .bool false, .int .i64 (eq)]) (by simp [results, Tryz.results34, go_sem, hw3, z0, z1, z2, z3, z4, z5, z6, z7, z8, z9, z10, z11, z12]) rfl ⟨by rw [he.out], ?_⟩
                repeat (first | (with_reducible exact hbw) | (with_reducible refine keep_alloc ?_ _) | (with_reducible refine below_drewN ?_ _) | (with_reducible refine below_set ?_ _ _ _ (Nat.le_refl _)))
            · have he : Hid (rnV (rnD s) = .tuple #[.agg #[.int .i64 0, .int .i64 0, .int .i64 0, .int .i64 0, .int .i64 0, .bool false, .int .i64 0, .int .i64 0, .int .i64 0, .int .u64 0, .int .u64 0, .int .u64 0, .int .u64 0], .bool false, .int .i64 3]) := by unfold Hid; rw [hD.out, if_neg hg0, if_pos h81]; rfl
              have hne : (((subN s 8 8 : Nat) : Int) != 1) = true := by rw [bne_iff_ne]; omega
              clear hD hg8 hg0
              generalize subN s 8 8 = n8 at *
              go_wp2_with fail
              refine (rInt_any _ 0 s _ HR.out).mono ?_
              rintro e wn ⟨rfl, hRn, hGn⟩
              rw [HI.out.1, HI.out.2.1]
              rw [HI.out.2.2] at hRn
              have hbw := below_only hbw hGn (by omega)
              have HZ := Lib.hid (HZ.out.grown hGn (by omega))
              have HR := Lib.hid hRn
              have hrb : w.heap.size + 1 < wn.heap.size := Nat.lt_of_lt_of_le hrb hGn.size
              clear hRn hGn
              go_wp2_with fail
              refine (rInt_any _ 8 s _ HR.out).mono ?_
              rintro e wn ⟨rfl, hRn, hGn⟩
              rw [HI8.out.1, HI8.out.2.1]
              rw [HI8.out.2.2] at hRn
              have hbw := below_only hbw hGn (by omega)
              have HZ := Lib.hid (HZ.out.grown hGn (by omega))
              have HR := Lib.hid hRn
              have hrb : w.heap.size + 1 < wn.heap.size := Nat.lt_of_lt_of_le hrb hGn.size
              clear hRn hGn
              have z0 := HZ.out.at_ (i := 0) (v := .int .i64 0) rfl
              have f0 := HZ.out.fr 0
              have z1 := HZ.out.at_ (i := 1) (v := .int .i64 0) rfl
              have f1 := HZ.out.fr 1
              have z2 := HZ.out.at_ (i := 2) (v := .int .i64 0) rfl
              have f2 := HZ.out.fr 2
              have z3 := HZ.out.at_ (i := 3) (v := .int .i64 0) rfl
              have f3 := HZ.out.fr 3
              have z4 := HZ.out.at_ (i := 4) (v := .int .i64 0) rfl
              have f4 := HZ.out.fr 4
              have z5 := HZ.out.at_ (i := 5) (v := .bool false) rfl
              have f5 := HZ.out.fr 5
              have z6 := HZ.out.at_ (i := 6) (v := .int .i64 0) rfl
              have f6 := HZ.out.fr 6
              have z7 := HZ.out.at_ (i := 7) (v := .int .i64 0) rfl
              have f7 := HZ.out.fr 7
              have z8 := HZ.out.at_ (i := 8) (v := .int .i64 0) rfl
              have f8 := HZ.out.fr 8
              have z9 := HZ.out.at_ (i := 9) (v := .int .u64 0) rfl
              have f9 := HZ.out.fr 9
              have z10 := HZ.out.at_ (i := 10) (v := .int .u64 0) rfl
              have f10 := HZ.out.fr 10
              have z11 := HZ.out.at_ (i := 11) (v := .int .u64 0) rfl
              have f11 := HZ.out.fr 11
              have z12 := HZ.out.at_ (i := 12) (v := .int .u64 0) rfl
              have f12 := HZ.out.fr 12
              have hw3 : w.heap.size < wn.heap.size := by omega
              go_wp2_with fail
              refine bodyPost_ret (v := .tuple #[.agg #[.int .i64 0, .int .i64 0, .int .i64 0, .int .i64 0, .int .i64 0, .bool false, .int .i64 0, .int .i64 0, .int .i64 0, .int .u64 0, .int .u64 0, .int .u64 0, .int .u64 0], .bool false, .int .i64 (3)]) (by simp [results, Tryz.results34, go_sem, hw3, z0, z1, z2, z3, z4, z5, z6, z7, z8, z9, z10, z11, z12]) rfl ⟨by rw [he.out], ?_⟩
              repeat (first | (with_reducible exact hbw) | (with_reducible refine keep_alloc ?_ _) | (with_reducible refine below_drewN ?_ _) | (with_reducible refine below_set ?_ _ _ _ (Nat.le_refl _)))
end Go.Proofs.YtlpbbjjibnbooaaGreatDoor

namespace Go.Proofs.YtlpbbjjibnbooaaGreatDoor
set_option linter.unusedVariables false
set_option linter.unusedSimpArgs false
open Go.RowKit

def nodeOk (n : Int) (p : PtrD) : Bool := decide (0 ≤ n ∧ n ≤ 4611686018427387903) && layOk p
def nodeL (n : Int) (p : PtrD) : List UInt8 := padL (layL n.toNat 8 ++ (layL 1 8 ++ ptrL p)) 128
def nbS (n : Int) (p : PtrD) : List UInt8 := if nodeOk n p then nodeL n p else []
def nbE (n : Int) (p : PtrD) : Int := if nodeOk n p then 0 else 1
theorem nodeAt_new' (w : World) (n : Int) (p : PtrD) (t : TypeId) : PtrAt (w.alloc (.cells #[.int .i64 n, .int .i64 p.ag, .int .i64 p.aa, .int .i64 p.bg, .int .i64 p.ba, .bool p.two, .int .i64 p.size, .int .i64 p.level, .int .i64 p.birth, .int .u64 p.s0, .int .u64 p.s1, .int .u64 p.s2, .int .u64 p.s3] t)) w.heap.size 1 p :=
  ⟨cell_new rfl rfl, cell_new rfl rfl, cell_new rfl rfl, cell_new rfl rfl, cell_new rfl rfl, cell_new rfl rfl, cell_new rfl rfl, cell_new rfl rfl, cell_new rfl rfl, cell_new rfl rfl, cell_new rfl rfl, cell_new rfl rfl⟩
theorem ptrL_len {p : PtrD} (h : layOk p = true) (op : p.Ok) : (ptrL p).length = 64 := (lay_back h op).2.2

set_option maxRecDepth 100000 in
set_option maxHeartbeats 2000000 in
theorem nbytes_any (n : Int) (p : PtrD) (w : World) (op : p.Ok) :
    Calls Tryz.prog 23 #[.agg #[.int .i64 n, .int .i64 p.ag, .int .i64 p.aa, .int .i64 p.bg, .int .i64 p.ba, .bool p.two, .int .i64 p.size, .int .i64 p.level, .int .i64 p.birth, .int .u64 p.s0, .int .u64 p.s1, .int .u64 p.s2, .int .u64 p.s3]] w fun e w' => e = .returned (.tuple #[str (nbS n p), .int .i64 (nbE n p)]) ∧ Below w.heap.size w w' := by
  obtain ⟨w0, hw0⟩ : ∃ w0, w0 = w.alloc (.cells #[.int .i64 n, .int .i64 p.ag, .int .i64 p.aa, .int .i64 p.bg, .int .i64 p.ba, .bool p.two, .int .i64 p.size, .int .i64 p.level, .int .i64 p.birth, .int .u64 p.s0, .int .u64 p.s1, .int .u64 p.s2, .int .u64 p.s3] 33) := ⟨_, rfl⟩
  have hb0 : Below w.heap.size w w0 := by rw [hw0]; exact (Below.refl _ _).alloc (Nat.le_refl _) _
  have hs0 : w.heap.size < w0.heap.size := by rw [hw0]; simp
  have HP0 : Hid (PtrAt w0 w.heap.size 1 p) := by rw [hw0]; exact Lib.hid (nodeAt_new' w n p 33)
  have k0 : w0.cell? ⟨w.heap.size, 0, none⟩ = some (.int .i64 n) := by rw [hw0]; exact cell_new rfl rfl
  by_cases hn : 0 ≤ n ∧ n ≤ 4611686018427387903
  · have hi : intL n = layL n.toNat 8 := by unfold intL; rw [if_pos hn]
    have hi1 : intL 1 = layL 1 8 := by unfold intL; rw [if_pos (by omega)]; rfl
    have HI : Hid (∀ W, Calls Tryz.prog 26 #[.int .i64 n] W fun e w' => e = .returned (str (layL n.toNat 8)) ∧ Below W.heap.size W w') := Lib.hid fun W => by have := int_any n W; rw [hi] at this; exact this
    have HI1 : Hid (∀ W, Calls Tryz.prog 26 #[.int .i64 1] W fun e w' => e = .returned (str (layL 1 8)) ∧ Below W.heap.size W w') := Lib.hid fun W => by have := int_any 1 W; rw [hi1] at this; exact this
    have hx0 : (layL n.toNat 8).isEmpty = false := by rw [List.isEmpty_eq_false_iff]; exact layL_ne (by omega)
    have l0 := layL_len n.toNat 8
    have l1 := layL_len 1 8
    clear hi hi1
    cases hly : layOk p with
    | true =>
      have hok : nodeOk n p = true := by unfold nodeOk; rw [decide_eq_true hn, hly]; rfl
      have hpl := ptrL_len hly op
      have HPB : Hid (∀ W, Calls Tryz.prog 62 #[.agg #[.int .i64 p.ag, .int .i64 p.aa, .int .i64 p.bg, .int .i64 p.ba, .bool p.two, .int .i64 p.size, .int .i64 p.level, .int .i64 p.birth, .int .u64 p.s0, .int .u64 p.s1, .int .u64 p.s2, .int .u64 p.s3]] W fun e w' => e = .returned (.tuple #[str (ptrL p), .int .i64 0]) ∧ Below W.heap.size W w') := Lib.hid fun W => by
        have := pbytes_any p W op; rw [hly] at this; exact this
      have HPD := Lib.hid fun W => pad_any (layL n.toNat 8 ++ layL 1 8 ++ ptrL p) 128 W (by rw [List.length_append, List.length_append]; omega)
      have HR : Hid (str (nbS n p) = str (padL (layL n.toNat 8 ++ (layL 1 8 ++ ptrL p)) 128) ∧ nbE n p = 0) := by
        unfold Hid nbS nbE; rw [hok]; unfold nodeL; exact ⟨rfl, rfl⟩
      clear hok hly hn
      generalize layL n.toNat 8 = x0 at *
      generalize layL 1 8 = x1 at *
      generalize ptrL p = x2 at *
      have k1 : x0.length + x1.length ≤ 9223372036854775807 := by omega
      have k2 : x0.length + x1.length + x2.length ≤ 9223372036854775807 := by omega
      clear l0 l1 hpl
      have hxx : (x0 == []) = false := by cases x0 with | nil => simp at hx0 | cons _ _ => rfl
      go_enter Tryz.func23, Tryz.ntmps23
      go_wp2_with fail
      rw [← hw0]
      clear hw0
      refine (HI.out _).mono ?_
      rintro e w1 ⟨rfl, hb1⟩
      have hd1 := keep_below hb1 hb0
      have hP1 := HP0.out.keep hb1 hs0
      obtain ⟨p0, p1, p2, p3, p4, p5, p6, p7, p8, p9, pa, pb⟩ := hP1
      simp only [Nat.reduceAdd] at p1 p2 p3 p4 p5 p6 p7 p8 p9 pa pb
      go_wp2_with fail
      refine (HPB.out _).mono ?_
      rintro e w2 ⟨rfl, hb2⟩
      have hd2 := keep_below hb2 hd1
      go_wp2_with fail
      refine (HI1.out _).mono ?_
      rintro e w3 ⟨rfl, hb3⟩
      have hd3 := keep_below hb3 hd2
      go_wp2_with fail
      rw [ByteArray.mk_append_mk, ByteArray.mk_append_mk]
      refine (HPD.out _).mono ?_
      rintro e w4 ⟨rfl, hb4⟩
      go_wp2_with fail
      go_ret2
      exact ⟨by rw [HR.out.1, HR.out.2]; rfl, keep_below hb4 hd3⟩
    | false =>
      have hok : nodeOk n p = false := by unfold nodeOk; rw [hly, Bool.and_false]
      have HPB : Hid (∀ W, Calls Tryz.prog 62 #[.agg #[.int .i64 p.ag, .int .i64 p.aa, .int .i64 p.bg, .int .i64 p.ba, .bool p.two, .int .i64 p.size, .int .i64 p.level, .int .i64 p.birth, .int .u64 p.s0, .int .u64 p.s1, .int .u64 p.s2, .int .u64 p.s3]] W fun e w' => e = .returned (.tuple #[str [], .int .i64 1]) ∧ Below W.heap.size W w') := Lib.hid fun W => by
        have := pbytes_any p W op; rw [hly] at this; exact this
      have HR : Hid (str (nbS n p) = str [] ∧ nbE n p = 1) := by
        unfold Hid nbS nbE; rw [hok]; exact ⟨rfl, rfl⟩
      clear hok hly hn l0 l1
      generalize layL n.toNat 8 = x0 at *
      have hxx : (x0 == []) = false := by cases x0 with | nil => simp at hx0 | cons _ _ => rfl
      go_enter Tryz.func23, Tryz.ntmps23
      go_wp2_with fail
      rw [← hw0]
      clear hw0
      refine (HI.out _).mono ?_
      rintro e w1 ⟨rfl, hb1⟩
      have hd1 := keep_below hb1 hb0
      have hP1 := HP0.out.keep hb1 hs0
      obtain ⟨p0, p1, p2, p3, p4, p5, p6, p7, p8, p9, pa, pb⟩ := hP1
      simp only [Nat.reduceAdd] at p1 p2 p3 p4 p5 p6 p7 p8 p9 pa pb
      go_wp2_with fail
      refine (HPB.out _).mono ?_
      rintro e w2 ⟨rfl, hb2⟩
      have hd2 := keep_below hb2 hd1
      go_wp2_with fail
      go_ret2
      exact ⟨by rw [HR.out.1, HR.out.2]; rfl, hd2⟩
  · have hi : intL n = [] := by unfold intL; rw [if_neg hn]
    have HI : Hid (∀ W, Calls Tryz.prog 26 #[.int .i64 n] W fun e w' => e = .returned (str []) ∧ Below W.heap.size W w') := Lib.hid fun W => by have := int_any n W; rw [hi] at this; exact this
    have hok : nodeOk n p = false := by unfold nodeOk; rw [decide_eq_false hn]; rfl
    have HR : Hid (str (nbS n p) = str [] ∧ nbE n p = 1) := by
      unfold Hid nbS nbE; rw [hok]; exact ⟨rfl, rfl⟩
    clear hok hn hi
    go_enter Tryz.func23, Tryz.ntmps23
    go_wp2_with fail
    rw [← hw0]
    clear hw0
    refine (HI.out _).mono ?_
    rintro e w1 ⟨rfl, hb1⟩
    go_wp2_with fail
    go_ret2
    exact ⟨by rw [HR.out.1, HR.out.2]; rfl, keep_below hb1 hb0⟩

theorem Tryz.stoodNode : Tryz.prog.stoodInHeld 33 = false := by kernel_rfl
theorem eqIn_ptr (p q : PtrD) (d : Nat) (w : World) : (Op.equalIn (d + 3) 31 (.agg #[.int .i64 p.ag, .int .i64 p.aa, .int .i64 p.bg, .int .i64 p.ba, .bool p.two, .int .i64 p.size, .int .i64 p.level, .int .i64 p.birth, .int .u64 p.s0, .int .u64 p.s1, .int .u64 p.s2, .int .u64 p.s3]) (.agg #[.int .i64 q.ag, .int .i64 q.aa, .int .i64 q.bg, .int .i64 q.ba, .bool q.two, .int .i64 q.size, .int .i64 q.level, .int .i64 q.birth, .int .u64 q.s0, .int .u64 q.s1, .int .u64 q.s2, .int .u64 q.s3])).run Tryz.prog w = .ok (ptrEq p q) w := by
  obtain ⟨a1, a2, a3, a4, a5, a6, a7, a8, a9, aa, ab, ac⟩ := p
  obtain ⟨b1, b2, b3, b4, b5, b6, b7, b8, b9, ba, bb, bc⟩ := q
  rw [run_equalIn_struct w (d + 2) _ _ _ (by kernel_rfl) Tryz.stoodPtr]
  simp [go_sem, Tryz.underlying31, eqIn_place, eqIn_sum, ptrEq]
  repeat' split
  all_goals (congr 1; try simp_all)
  all_goals grind
end Go.Proofs.YtlpbbjjibnbooaaGreatDoor
