/-
  Contracts: uber.Read.
-/
import Derived.Test.YtlpbbjjibnbooaaGreatDoorJ18
import Derived.Test.YtlpbbjjibnbooaaGreatDoorJ16
import Derived.Deep.DeepCutAuto
namespace Go.Proofs.YtlpbbjjibnbooaaGreatDoor
set_option linter.unusedVariables false
set_option linter.unusedSimpArgs false
open Go.RowKit

structure UbD where
  t : Int
  n : Int
  p : PtrD
abbrev UbD.cells (u : UbD) : Array Value := #[.int .i64 u.t, .int .i64 u.n, .int .i64 u.p.ag, .int .i64 u.p.aa, .int .i64 u.p.bg, .int .i64 u.p.ba, .bool u.p.two, .int .i64 u.p.size, .int .i64 u.p.level, .int .i64 u.p.birth, .int .u64 u.p.s0, .int .u64 u.p.s1, .int .u64 u.p.s2, .int .u64 u.p.s3]
def ubZ : UbD := ⟨0, 0, ptrZ⟩
def sumAt (l : List UInt8) (p : Nat) : Nat × Nat × Nat × Nat := (subN l p 8, subN l (p + 8) 8, subN l (p + 16) 8, subN l (p + 24) 8)
def rnAt (l : List UInt8) (p : Nat) : Int × PtrD × Bool × Int := rnD ((l.drop p).take 128)
/-- Is a head of 224 bytes an uberblock's? -/
def urGood (gs : List (Int × Int)) (secs : Int) (l : List UInt8) : Bool :=
  (l.take 8 == magicL) && (decide (1 ≤ subN l 8 8) && (decide (subN l 8 8 ≤ 4294967295) && ((sumAt l 16 == fsum (gbL gs secs)) && (decide ((rnAt l 48).2.2.2 = 0) && ((rnAt l 48).2.2.1 && (nRightB gs secs (rnAt l 48).1 (rnAt l 48).2.1 && allZ (l.drop 176)))))))
/-- What bytes are read as. -/
def urD (gs : List (Int × Int)) (secs : Int) (s : List UInt8) : UbD × Int :=
  if s.length < 256 then (ubZ, 2) else if 256 < s.length then (ubZ, 3) else if s.drop 224 ≠ sum4 (fsum (s.take 224)) then (ubZ, 4)
  else if urGood gs secs (s.take 224) then (⟨subN (s.take 224) 8 8, (rnAt (s.take 224) 48).1, (rnAt (s.take 224) 48).2.1⟩, 0) else (ubZ, 3)
theorem build_ubZ (W : World) : (Instr.build 35 #[]).run Tryz.prog W = .ok (.agg #[.int .i64 0, .int .i64 0, .int .i64 0, .int .i64 0, .int .i64 0, .int .i64 0, .bool false, .int .i64 0, .int .i64 0, .int .i64 0, .int .u64 0, .int .u64 0, .int .u64 0, .int .u64 0]) W := by kernel_rfl
theorem build_ub (t n : Int) (q : PtrD) (W : World) : (Instr.build 35 #[(0, .int .i64 t), (1, .agg #[.int .i64 n, .int .i64 q.ag, .int .i64 q.aa, .int .i64 q.bg, .int .i64 q.ba, .bool q.two, .int .i64 q.size, .int .i64 q.level, .int .i64 q.birth, .int .u64 q.s0, .int .u64 q.s1, .int .u64 q.s2, .int .u64 q.s3])]).run Tryz.prog W = .ok (.agg #[.int .i64 t, .int .i64 n, .int .i64 q.ag, .int .i64 q.aa, .int .i64 q.bg, .int .i64 q.ba, .bool q.two, .int .i64 q.size, .int .i64 q.level, .int .i64 q.birth, .int .u64 q.s0, .int .u64 q.s1, .int .u64 q.s2, .int .u64 q.s3]) W := by kernel_rfl
theorem neq_sum (x y : Nat × Nat × Nat × Nat) (w : World) : (binOp .neq 29 (.agg (fcells x)) (.agg (fcells y))).run Tryz.prog w = .ok (.bool (x != y)) w := by
  obtain ⟨a0, a1, a2, a3⟩ := x
  obtain ⟨b0, b1, b2, b3⟩ := y
  have h := eqIn_sum w 9998 a0 a1 a2 a3 b0 b1 b2 b3
  simp only [Nat.reduceAdd] at h
  have e : ((a0 : Int) == b0 && ((a1 : Int) == b1 && ((a2 : Int) == b2 && (a3 : Int) == b3))) = ((a0, a1, a2, a3) == (b0, b1, b2, b3)) := by
    rw [Bool.eq_iff_iff]
    simp only [Bool.and_eq_true, beq_iff_eq, Prod.mk.injEq]
    omega
  rw [e] at h
  rw [run_neq_struct]
  simp only [fcells]
  rw [h]
  rfl
theorem cut_from (s : List UInt8) (h : s.length = 256) (W : World) : (Instr.slice 9 (str s) (some (.int .i64 224)) none none).run Tryz.prog W = .ok (str (s.drop 224)) W := by
  have := run_slice_string_l (P := Tryz.prog) (w := W) (t := 9) (ht := Tryz.underlying9) (s := ByteArray.mk s.toArray) .i64 224 (by omega) (by simp [ByteArray.size]; omega)
  rw [this]
  have e : (ByteArray.mk s.toArray).extract (224 : Int).toNat (ByteArray.mk s.toArray).size = ⟨(s.drop 224).toArray⟩ := by
    apply ByteArray.ext
    have h2 : (ByteArray.mk s.toArray).size = 256 := by simp [ByteArray.size, h]
    rw [h2]
    simp only [ByteArray.data_extract, List.extract_toArray, List.extract_eq_take_drop]
    have e2 : (224 : Int).toNat = 224 := rfl
    rw [e2, List.take_of_length_le (by rw [List.length_drop, h]; decide)]
  rw [e]
theorem cut_to (s : List UInt8) (h : s.length = 256) (W : World) : (Instr.slice 9 (str s) none (some (.int .i64 224)) none).run Tryz.prog W = .ok (str (s.take 224)) W := by
  have := run_slice_string_h (P := Tryz.prog) (w := W) (t := 9) (ht := Tryz.underlying9) (s := ByteArray.mk s.toArray) .i64 224 (by omega) (by simp [ByteArray.size]; omega)
  rw [this]
  have e : (ByteArray.mk s.toArray).extract 0 (224 : Int).toNat = ⟨(s.take 224).toArray⟩ := by
    apply ByteArray.ext
    simp only [ByteArray.data_extract, List.extract_toArray, List.extract_eq_take_drop]
    simp
  rw [e]
set_option maxRecDepth 20000 in
set_option maxHeartbeats 4000000 in
theorem uread_any (A : Option Addr) (m c : Nat) (gs : List (Int × Int)) (secs : Int) (s : List UInt8) (w : World) (hg : GeoAt w A m gs) (hl : s.length ≤ 9223372036854775807) :
    Calls Tryz.prog 10 #[.agg #[.slice A m c, .int .i64 secs], str s] w fun e w' => e = .returned (.tuple #[.agg (urD gs secs s).1.cells, .int .i64 (urD gs secs s).2]) ∧ Below w.heap.size w w' := by
  have hbz := build_ubZ
  obtain ⟨w2, hw2⟩ : ∃ z, (w.alloc (.cells #[.slice A m c, .int .i64 secs] 24)).alloc (.cells #[.int .i64 0, .int .i64 0, .int .i64 0, .int .i64 0, .int .i64 0, .int .i64 0, .bool false, .int .i64 0, .int .i64 0, .int .i64 0, .int .u64 0, .int .u64 0, .int .u64 0, .int .u64 0] 35) = z := ⟨_, rfl⟩
  have B1 : Blk w2 w.heap.size 24 #[.slice A m c, .int .i64 secs] := by rw [← hw2]; exact (Blk.new _ _ _).alloc _
  have B2 : Blk w2 (w.heap.size + 1) 35 #[.int .i64 0, .int .i64 0, .int .i64 0, .int .i64 0, .int .i64 0, .int .i64 0, .bool false, .int .i64 0, .int .i64 0, .int .i64 0, .int .u64 0, .int .u64 0, .int .u64 0, .int .u64 0] := by rw [← hw2]; exact Blk.new2 _ _ _ _
  have hbw : Below w.heap.size w w2 := by rw [← hw2]; exact keep_alloc (keep_alloc (Below.refl _ _) _) _
  have HGX := Lib.hid B1
  have HZ := Lib.hid B2
  have HW2 := Lib.hid hw2
  have HG := Lib.hid hg
  clear hg
  by_cases h1 : s.length < 256
  · have HE : Hid (urD gs secs s = (ubZ, 2)) := Lib.hid (by unfold urD; rw [if_pos h1])
    have hd : decide ((s.length : Int) < 256) = true := decide_eq_true (by omega)
    have z0 := (B2).at_ (i := 0) (v := .int .i64 0) rfl
    have z1 := (B2).at_ (i := 1) (v := .int .i64 0) rfl
    have z2 := (B2).at_ (i := 2) (v := .int .i64 0) rfl
    have z3 := (B2).at_ (i := 3) (v := .int .i64 0) rfl
    have z4 := (B2).at_ (i := 4) (v := .int .i64 0) rfl
    have z5 := (B2).at_ (i := 5) (v := .int .i64 0) rfl
    have z6 := (B2).at_ (i := 6) (v := .bool false) rfl
    have z7 := (B2).at_ (i := 7) (v := .int .i64 0) rfl
    have z8 := (B2).at_ (i := 8) (v := .int .i64 0) rfl
    have z9 := (B2).at_ (i := 9) (v := .int .i64 0) rfl
    have z10 := (B2).at_ (i := 10) (v := .int .u64 0) rfl
    have z11 := (B2).at_ (i := 11) (v := .int .u64 0) rfl
    have z12 := (B2).at_ (i := 12) (v := .int .u64 0) rfl
    have z13 := (B2).at_ (i := 13) (v := .int .u64 0) rfl
    have fr0 := (B2).fr 0
    have fr1 := (B2).fr 1
    have fr2 := (B2).fr 2
    have fr3 := (B2).fr 3
    have fr4 := (B2).fr 4
    have fr5 := (B2).fr 5
    have fr6 := (B2).fr 6
    have fr7 := (B2).fr 7
    have fr8 := (B2).fr 8
    have fr9 := (B2).fr 9
    have fr10 := (B2).fr 10
    have fr11 := (B2).fr 11
    have fr12 := (B2).fr 12
    have fr13 := (B2).fr 13
    clear h1 hl B1 B2 HGX HZ
    go_enter Tryz.func10, Tryz.ntmps10
    go_wp2_with fail
    refine bodyPost_ret (v := .tuple #[.agg #[.int .i64 0, .int .i64 0, .int .i64 0, .int .i64 0, .int .i64 0, .int .i64 0, .bool false, .int .i64 0, .int .i64 0, .int .i64 0, .int .u64 0, .int .u64 0, .int .u64 0, .int .u64 0], .int .i64 (2)]) (by simp [results, Tryz.f10, go_sem, z0, z1, z2, z3, z4, z5, z6, z7, z8, z9, z10, z11, z12, z13]) rfl ⟨by rw [HE.out]; rfl, ?_⟩
    repeat (first | (with_reducible exact hbw) | (with_reducible refine keep_alloc ?_ _) | (with_reducible refine below_set ?_ _ _ _ (Nat.le_succ _)))
  · by_cases h2 : 256 < s.length
    · have HE : Hid (urD gs secs s = (ubZ, 3)) := Lib.hid (by unfold urD; rw [if_neg h1, if_pos h2])
      have hd : decide ((s.length : Int) < 256) = false := decide_eq_false (by omega)
      have hd2 : decide ((256 : Int) < s.length) = true := decide_eq_true (by omega)
      have z0 := (B2).at_ (i := 0) (v := .int .i64 0) rfl
      have z1 := (B2).at_ (i := 1) (v := .int .i64 0) rfl
      have z2 := (B2).at_ (i := 2) (v := .int .i64 0) rfl
      have z3 := (B2).at_ (i := 3) (v := .int .i64 0) rfl
      have z4 := (B2).at_ (i := 4) (v := .int .i64 0) rfl
      have z5 := (B2).at_ (i := 5) (v := .int .i64 0) rfl
      have z6 := (B2).at_ (i := 6) (v := .bool false) rfl
      have z7 := (B2).at_ (i := 7) (v := .int .i64 0) rfl
      have z8 := (B2).at_ (i := 8) (v := .int .i64 0) rfl
      have z9 := (B2).at_ (i := 9) (v := .int .i64 0) rfl
      have z10 := (B2).at_ (i := 10) (v := .int .u64 0) rfl
      have z11 := (B2).at_ (i := 11) (v := .int .u64 0) rfl
      have z12 := (B2).at_ (i := 12) (v := .int .u64 0) rfl
      have z13 := (B2).at_ (i := 13) (v := .int .u64 0) rfl
      have fr0 := (B2).fr 0
      have fr1 := (B2).fr 1
      have fr2 := (B2).fr 2
      have fr3 := (B2).fr 3
      have fr4 := (B2).fr 4
      have fr5 := (B2).fr 5
      have fr6 := (B2).fr 6
      have fr7 := (B2).fr 7
      have fr8 := (B2).fr 8
      have fr9 := (B2).fr 9
      have fr10 := (B2).fr 10
      have fr11 := (B2).fr 11
      have fr12 := (B2).fr 12
      have fr13 := (B2).fr 13
      clear h1 h2 hl B1 B2 HGX HZ
      go_enter Tryz.func10, Tryz.ntmps10
      go_wp2_with fail
      refine bodyPost_ret (v := .tuple #[.agg #[.int .i64 0, .int .i64 0, .int .i64 0, .int .i64 0, .int .i64 0, .int .i64 0, .bool false, .int .i64 0, .int .i64 0, .int .i64 0, .int .u64 0, .int .u64 0, .int .u64 0, .int .u64 0], .int .i64 (3)]) (by simp [results, Tryz.f10, go_sem, z0, z1, z2, z3, z4, z5, z6, z7, z8, z9, z10, z11, z12, z13]) rfl ⟨by rw [HE.out]; rfl, ?_⟩
      repeat (first | (with_reducible exact hbw) | (with_reducible refine keep_alloc ?_ _) | (with_reducible refine below_set ?_ _ _ _ (Nat.le_succ _)))
    · have h3 : s.length = 256 := by omega
      have hd : decide ((s.length : Int) < 256) = false := decide_eq_false (by omega)
      have hd2 : decide ((256 : Int) < s.length) = false := decide_eq_false (by omega)
      have hcf := cut_from s h3
      have hct := cut_to s h3
      have hex : (ByteArray.mk s.toArray).extract 0 224 = ⟨(s.take 224).toArray⟩ := by
        apply ByteArray.ext
        simp only [ByteArray.data_extract, List.extract_toArray, List.extract_eq_take_drop]
        simp
      have hll : (s.take 224).length = 224 := by rw [List.length_take]; omega
      have hU : urD gs secs s = if s.drop 224 ≠ sum4 (fsum (s.take 224)) then (ubZ, 4) else if urGood gs secs (s.take 224) then (⟨subN (s.take 224) 8 8, (rnAt (s.take 224) 48).1, (rnAt (s.take 224) 48).2.1⟩, 0) else (ubZ, 3) := by unfold urD; rw [if_neg h1, if_neg h2]
      obtain ⟨l, hle⟩ : ∃ l, s.take 224 = l := ⟨_, rfl⟩
      obtain ⟨sd, hsd⟩ : ∃ sd, s.drop 224 = sd := ⟨_, rfl⟩
      rw [hle] at hll hU hex
      rw [hsd] at hU
      simp only [hle] at hct
      simp only [hsd] at hcf
      obtain ⟨F, hF⟩ : ∃ F, fsum l = F := ⟨_, rfl⟩
      obtain ⟨K, hK⟩ : ∃ K, sum4 F = K := ⟨_, rfl⟩
      have HS1 : Hid (∀ W, Calls Tryz.prog 28 #[str l] W fun e w' => e = .returned (.agg (fcells F)) ∧ Below W.heap.size W w') := Lib.hid fun W => by rw [← hF]; exact fsum_any l (by omega) W
      have HK1 : Hid (∀ W, Calls Tryz.prog 27 #[.agg (fcells F)] W fun e w' => e = .returned (str K) ∧ Below W.heap.size W w') := Lib.hid fun W => by have := sumB_any l W; rwa [hF, hK] at this
      rw [hF, hK] at hU
      obtain ⟨C, hCd, hCw, hCB, hCK, hCD⟩ := cls_below w2
      have HEX := Lib.hid hex
      have HC := Lib.hid hCB
      have HU := Lib.hid hU
      have hs1 : w.heap.size + 1 < w2.heap.size := B2.lt
      clear hex h1 h2 hle hsd hF hK hU hCw hCB hCD B1 B2 hw2
      go_enter Tryz.func10, Tryz.ntmps10
      go_wp2_with fail
      rw [HW2.out]
      by_cases hck : sd = K
      · have hqe : (sd == K) = true := by simp [hck]
        have HU2 : Hid (urD gs secs s = if urGood gs secs l then (⟨subN l 8 8, (rnAt l 48).1, (rnAt l 48).2.1⟩, 0) else (ubZ, 3)) := Lib.hid (by rw [HU.out, if_neg (fun h => h hck)])
        clear hck
        refine wp_region_cls C (by kernel_rfl) (by kernel_rfl) hCd ?_
        repeat (first
          | go_big_quiet_skip
          | (go_big_quiet_want
             go_big_quiet_op
             first
               | go_big_quiet_on
               | (apply Exists.intro
                  refine ⟨fun W hW => ?_, ?_⟩
                  · first
                      | exact rfl
                      | exact ⟨rfl, rfl⟩
                      | (have e0 := hcf W hW; have e1 := hct W hW; simp only [e0, e1, Result.andThen_ok]; done)
                      | (have e0 := hcf W hW; have e1 := hct W hW; simp only [e0, e1, Result.andThen_ok]; first | exact ⟨trivial, rfl⟩ | exact rfl | exact ⟨rfl, rfl⟩)
                      | (first | (with_reducible refine (HS1.out W).mono ?_; rintro e w' ⟨rfl, hb⟩; exact ⟨rfl, hCK _ _ hW hb⟩) | (with_reducible refine (HK1.out W).mono ?_; rintro e w' ⟨rfl, hb⟩; exact ⟨rfl, hCK _ _ hW hb⟩))
                  go_big_quiet_on)))
        refine wpQuiet_nil ?_
        intro w3 hw3
        have hb3 := HC.out w3 hw3
        have hbw := keep_below hb3 hbw
        have HGX := Lib.hid (HGX.out.below hb3 HGX.out.lt)
        have HZ := Lib.hid (HZ.out.below hb3 HZ.out.lt)
        have hs1 : w.heap.size + 1 < w3.heap.size := Nat.lt_of_lt_of_le hs1 hb3.size
        clear hcf hct hqe hCd hCK hw3 hb3 HS1 HK1
        have hex := HEX.out
        go_wp2_with fail
        refine (new_any l w3 (by omega)).mono ?_
        rintro e w4 ⟨rfl, hR, hb4⟩
        have hbw := keep_below hb4 hbw
        have HGX := Lib.hid (HGX.out.below hb4 HGX.out.lt)
        have HZ := Lib.hid (HZ.out.below hb4 HZ.out.lt)
        obtain ⟨B, hB⟩ : ∃ B, w3.heap.size = B := ⟨_, rfl⟩
        rw [hB] at hR hs1
        have HR := Lib.hid hR
        rw [hB]
        clear hR hb4 hex hB
        go_wp2_with fail
        refine (take_any B 0 l 8 w4 HR.out (by omega)).mono ?_
        rintro e w5 ⟨rfl, hR5, hG5⟩
        obtain ⟨t1, t2, t3⟩ : tkErr l 0 8 = 0 ∧ tkStr l 0 8 = (l.drop 0).take 8 ∧ tkPos l 0 8 = 0 + 8 := tk_in (n := 8) (by omega)
        rw [t1, t2]
        rw [t3, Nat.zero_add] at hR5
        rw [List.drop_zero]
        have hbw := below_only hbw hG5 (by omega)
        have HGX := Lib.hid (HGX.out.grown hG5 (by omega))
        have HZ := Lib.hid (HZ.out.grown hG5 (by omega))
        have HR := Lib.hid hR5
        obtain ⟨T, hT⟩ : ∃ T, l.take 8 = T := ⟨_, rfl⟩
        rw [hT]
        have HT := Lib.hid hT
        have hTl : T.length ≤ 8 := by rw [← hT, List.length_take]; omega
        clear hR5 hG5 t1 t2 t3 hT
        go_wp2_with fail
        refine (rInt_any B 8 l w5 HR.out).mono ?_
        rintro e w6 ⟨rfl, hR6, hG6⟩
        have hbw := below_only hbw hG6 (by omega)
        have HGX := Lib.hid (HGX.out.grown hG6 (by omega))
        have HZ := Lib.hid (HZ.out.grown hG6 (by omega))
        obtain ⟨i1, i2, i3⟩ := in_sub (s := l) (p := 8) (by omega)
        obtain ⟨P, hP⟩ : ∃ P, inPos l 8 = P := ⟨_, rfl⟩
        obtain ⟨E, hE⟩ : ∃ E, inErr l 8 = E := ⟨_, rfl⟩
        obtain ⟨V, hV⟩ : ∃ V : Int, ((inVal l 8 : Nat) : Int) = V := ⟨_, rfl⟩
        rw [hE] at i1 ⊢
        have i2 : V = if 4611686018427387904 ≤ subN l 8 8 then 0 else (subN l 8 8 : Int) := by rw [← hV, i2]; split <;> rfl
        rw [hV]
        rw [hP] at i3 hR6
        have hP16 : P = 8 ∨ P = 16 := by rw [i3]; split <;> simp
        have HI := Lib.hid (And.intro i1 (And.intro i2 i3))
        have HR := Lib.hid hR6
        clear hR6 hG6 i1 i2 i3 hP hE hV
        go_wp2_with fail
        refine (fread_any B P l w6 HR.out (by omega)).mono ?_
        rintro e w7 ⟨rfl, hR7, hG7⟩
        have hbw := below_only hbw hG7 (by omega)
        have HGX := Lib.hid (HGX.out.grown hG7 (by omega))
        have HZ := Lib.hid (HZ.out.grown hG7 (by omega))
        obtain ⟨⟨a0, a1, a2, a3⟩, hA⟩ : ∃ x, sumAt l P = x := ⟨_, rfl⟩
        have hAA := hA
        unfold sumAt at hAA
        simp only [Prod.mk.injEq] at hAA
        rw [hAA.1, hAA.2.1, hAA.2.2.1, hAA.2.2.2]
        obtain ⟨w8, hw8⟩ : ∃ z, w7.alloc (.cells #[.int .u64 a0, .int .u64 a1, .int .u64 a2, .int .u64 a3] 29) = z := ⟨_, rfl⟩
        have hb8 : Below w7.heap.size w7 w8 := by rw [← hw8]; exact keep_alloc (Below.refl _ _) _
        have HQ := Lib.hid (show Blk w8 w7.heap.size 29 #[.int .u64 a0, .int .u64 a1, .int .u64 a2, .int .u64 a3] by rw [← hw8]; exact Blk.new _ _ _)
        have hR8 : RdAt w8 B l (P + 32) := ⟨(hb8.block B hR7.lt).trans hR7.1, hR7.2⟩
        have hR7' := hR7
        rw [show w7 = w7 from rfl] at hR7'
        have hBs : B < w7.heap.size := hR7.lt
        have hbw := keep_below hb8 hbw
        have HGX := Lib.hid (HGX.out.below hb8 HGX.out.lt)
        have HZ := Lib.hid (HZ.out.below hb8 HZ.out.lt)
        have HA := Lib.hid hA
        have HR := Lib.hid hR8
        have HW8 := Lib.hid hw8
        clear hR7 hR7' hG7 hA hAA hb8 hR8 hw8
        go_wp2_with fail
        rw [HW8.out]
        refine (take_any B (P + 32) l 128 w8 HR.out (by omega)).mono ?_
        rintro e w9 ⟨rfl, hR9, hG9⟩
        obtain ⟨t1, t2, t3⟩ : tkErr l (P + 32) 128 = 0 ∧ tkStr l (P + 32) 128 = (l.drop (P + 32)).take 128 ∧ tkPos l (P + 32) 128 = P + 32 + 128 := tk_in (n := 128) (by omega)
        rw [t1, t2]
        rw [t3] at hR9
        have hB7 : w7.heap.size ≠ B := by omega
        have hbw := below_only hbw hG9 (by omega)
        have HGX := Lib.hid (HGX.out.grown hG9 (by omega))
        have HZ := Lib.hid (HZ.out.grown hG9 (by omega))
        have HQ := Lib.hid (HQ.out.grown hG9 hB7)
        have HR := Lib.hid hR9
        obtain ⟨raw, hraw⟩ : ∃ raw, (l.drop (P + 32)).take 128 = raw := ⟨_, rfl⟩
        rw [hraw]
        have hrl : raw.length ≤ 128 := by rw [← hraw, List.length_take]; omega
        obtain ⟨⟨n, q, ok, er⟩, hrn⟩ : ∃ x, rnD raw = x := ⟨_, rfl⟩
        have HRN := Lib.hid (rn_any raw w9 (by omega))
        rw [hrn] at HRN
        dsimp only [rnV] at HRN
        have HRA := Lib.hid (show rnAt l (P + 32) = (n, q, ok, er) by unfold rnAt; rw [hraw]; exact hrn)
        clear hR9 hG9 t1 t2 t3 hraw hrn hB7
        go_wp2_with fail
        refine HRN.out.mono ?_
        rintro e w10 ⟨rfl, hb10⟩
        obtain ⟨w11, hw11⟩ : ∃ z, w10.alloc (.cells #[.int .i64 n, .int .i64 q.ag, .int .i64 q.aa, .int .i64 q.bg, .int .i64 q.ba, .bool q.two, .int .i64 q.size, .int .i64 q.level, .int .i64 q.birth, .int .u64 q.s0, .int .u64 q.s1, .int .u64 q.s2, .int .u64 q.s3] 33) = z := ⟨_, rfl⟩
        have hb11 : Below w9.heap.size w9 w11 := by rw [← hw11]; exact keep_alloc hb10 _
        have HN := Lib.hid (show Blk w11 w10.heap.size 33 #[.int .i64 n, .int .i64 q.ag, .int .i64 q.aa, .int .i64 q.bg, .int .i64 q.ba, .bool q.two, .int .i64 q.size, .int .i64 q.level, .int .i64 q.birth, .int .u64 q.s0, .int .u64 q.s1, .int .u64 q.s2, .int .u64 q.s3] by rw [← hw11]; exact Blk.new _ _ _)
        have hR11 : RdAt w11 B l (P + 32 + 128) := ⟨(hb11.block B HR.out.lt).trans HR.out.1, HR.out.2⟩
        have hbw := keep_below hb11 hbw
        have HGX := Lib.hid (HGX.out.below hb11 HGX.out.lt)
        have HZ := Lib.hid (HZ.out.below hb11 HZ.out.lt)
        have HQ := Lib.hid (HQ.out.below hb11 HQ.out.lt)
        have hgg := HG.out.below hbw (Nat.le_refl _)
        obtain ⟨GB, hGB⟩ : ∃ GB, gbL gs secs = GB := ⟨_, rfl⟩
        have hGl := gbL_len gs secs
        rw [hGB] at hGl
        obtain ⟨F2, hF2⟩ : ∃ F, fsum GB = F := ⟨_, rfl⟩
        obtain ⟨nr, hnr⟩ : ∃ nr, nRightB gs secs n q = nr := ⟨_, rfl⟩
        obtain ⟨az, haz⟩ : ∃ az, allZ (l.drop (P + 32 + 128)) = az := ⟨_, rfl⟩
        obtain ⟨C, hCd, hCw, hCB, hCK, hCD⟩ := cls_below w11
        have HGY : Hid (∀ W, C W → Calls Tryz.prog 29 #[.agg #[.slice A m c, .int .i64 secs]] W fun e w' => e = .returned (str GB) ∧ Below W.heap.size W w') := Lib.hid fun W hW => by
          have := gbytes_any A m c gs secs W (hgg.below (hCB W hW) (Nat.le_refl _)); rwa [hGB] at this
        have HSG : Hid (∀ W, Calls Tryz.prog 28 #[str GB] W fun e w' => e = .returned (.agg (fcells F2)) ∧ Below W.heap.size W w') := Lib.hid fun W => by rw [← hF2]; exact fsum_any GB (by omega) W
        have HNR : Hid (∀ W, C W → Calls Tryz.prog 35 #[.agg #[.slice A m c, .int .i64 secs], .agg #[.int .i64 n, .int .i64 q.ag, .int .i64 q.aa, .int .i64 q.bg, .int .i64 q.ba, .bool q.two, .int .i64 q.size, .int .i64 q.level, .int .i64 q.birth, .int .u64 q.s0, .int .u64 q.s1, .int .u64 q.s2, .int .u64 q.s3]] W fun e w' => e = .returned (.bool nr) ∧ Below W.heap.size W w') := Lib.hid fun W hW => by
          have := nright_any A m c gs secs n q W (hgg.below (hCB W hW) (Nat.le_refl _)); rwa [hnr] at this
        have HZE : Hid (∀ W, C W → Calls Tryz.prog 36 #[.pointer (some ⟨B, 0, none⟩)] W fun e w' => e = .returned (.bool az) ∧ ∃ n, w' = W.drewN n) := Lib.hid fun W hW => by
          have := rZeros_any B (P + 32 + 128) l W ⟨((hCB W hW).block B hR11.lt).trans hR11.1, hR11.2⟩; rwa [haz] at this
        have HCX := Lib.hid hCB
        have HCW := Lib.hid fun (W : World) (hW : Below w11.heap.size w11 W) => keep_below hW hbw
        have HZC := Lib.hid fun (W : World) (hW : Below w11.heap.size w11 W) => HZ.out.below hW HZ.out.lt
        have f0 : ∀ W, C W → W.cell? ⟨w.heap.size, 0, none⟩ = some (.slice A m c) := fun W h => keepU (HGX.out.at_ rfl) (hCB W h)
        have f1 : ∀ W, C W → W.cell? ⟨w.heap.size, 1, none⟩ = some (.int .i64 secs) := fun W h => keepU (HGX.out.at_ rfl) (hCB W h)
        have q0 : ∀ W, C W → W.cell? ⟨w7.heap.size, 0, none⟩ = some (.int .u64 a0) := fun W h => keepU (HQ.out.at_ rfl) (hCB W h)
        have q1 : ∀ W, C W → W.cell? ⟨w7.heap.size, 1, none⟩ = some (.int .u64 a1) := fun W h => keepU (HQ.out.at_ rfl) (hCB W h)
        have q2 : ∀ W, C W → W.cell? ⟨w7.heap.size, 2, none⟩ = some (.int .u64 a2) := fun W h => keepU (HQ.out.at_ rfl) (hCB W h)
        have q3 : ∀ W, C W → W.cell? ⟨w7.heap.size, 3, none⟩ = some (.int .u64 a3) := fun W h => keepU (HQ.out.at_ rfl) (hCB W h)
        have n0 : ∀ W, C W → W.cell? ⟨w10.heap.size, 0, none⟩ = some (.int .i64 n) := fun W h => keepU (HN.out.at_ rfl) (hCB W h)
        have n1 : ∀ W, C W → W.cell? ⟨w10.heap.size, 1, none⟩ = some (.int .i64 q.ag) := fun W h => keepU (HN.out.at_ rfl) (hCB W h)
        have n2 : ∀ W, C W → W.cell? ⟨w10.heap.size, 2, none⟩ = some (.int .i64 q.aa) := fun W h => keepU (HN.out.at_ rfl) (hCB W h)
        have n3 : ∀ W, C W → W.cell? ⟨w10.heap.size, 3, none⟩ = some (.int .i64 q.bg) := fun W h => keepU (HN.out.at_ rfl) (hCB W h)
        have n4 : ∀ W, C W → W.cell? ⟨w10.heap.size, 4, none⟩ = some (.int .i64 q.ba) := fun W h => keepU (HN.out.at_ rfl) (hCB W h)
        have n5 : ∀ W, C W → W.cell? ⟨w10.heap.size, 5, none⟩ = some (.bool q.two) := fun W h => keepU (HN.out.at_ rfl) (hCB W h)
        have n6 : ∀ W, C W → W.cell? ⟨w10.heap.size, 6, none⟩ = some (.int .i64 q.size) := fun W h => keepU (HN.out.at_ rfl) (hCB W h)
        have n7 : ∀ W, C W → W.cell? ⟨w10.heap.size, 7, none⟩ = some (.int .i64 q.level) := fun W h => keepU (HN.out.at_ rfl) (hCB W h)
        have n8 : ∀ W, C W → W.cell? ⟨w10.heap.size, 8, none⟩ = some (.int .i64 q.birth) := fun W h => keepU (HN.out.at_ rfl) (hCB W h)
        have n9 : ∀ W, C W → W.cell? ⟨w10.heap.size, 9, none⟩ = some (.int .u64 q.s0) := fun W h => keepU (HN.out.at_ rfl) (hCB W h)
        have n10 : ∀ W, C W → W.cell? ⟨w10.heap.size, 10, none⟩ = some (.int .u64 q.s1) := fun W h => keepU (HN.out.at_ rfl) (hCB W h)
        have n11 : ∀ W, C W → W.cell? ⟨w10.heap.size, 11, none⟩ = some (.int .u64 q.s2) := fun W h => keepU (HN.out.at_ rfl) (hCB W h)
        have n12 : ∀ W, C W → W.cell? ⟨w10.heap.size, 12, none⟩ = some (.int .u64 q.s3) := fun W h => keepU (HN.out.at_ rfl) (hCB W h)
        have HFF := Lib.hid (And.intro hGB (And.intro hF2 (And.intro hnr haz)))
        have HW11 := Lib.hid hw11
        clear hb10 hb11 hR11 hgg hGB hGl hF2 hnr haz hCw hCB hw11 HR HGX HQ hrl
        go_wp2_with fail
        rw [HW11.out]
        go_cut [105] (fun b wx => b = .bool (!urGood gs secs l) ∧ Below w11.heap.size w11 wx)
        case first =>
          by_cases hbig : 4611686018427387904 ≤ subN l 8 8
          · have hE3 : E = 3 := by rw [HI.out.1, if_pos hbig]
            have hbadE : (E != 0) = true := by rw [hE3]; rfl
            have HE : Hid (urGood gs secs l = false) := Lib.hid (by
              unfold urGood
              rw [decide_eq_false (show ¬ subN l 8 8 ≤ 4294967295 by omega)]
              simp)
            clear hE3 hbig
            cases hwq : (T == [112, 111, 108, 100, 101, 114, 48, 49]) with
            | false =>
              refine wp_region_cls C (by kernel_rfl) (by kernel_rfl) hCd ?_
              repeat (first
                | go_big_quiet_skip
                | (go_big_quiet_want
                   go_big_quiet_op
                   first
                     | go_big_quiet_on
                     | (apply Exists.intro
                        refine ⟨fun W hW => ?_, ?_⟩
                        · first
                            | exact rfl
                            | exact ⟨rfl, rfl⟩
                            | (have e0 := f0 W hW; have e1 := f1 W hW; have e2 := q0 W hW; have e3 := q1 W hW; have e4 := q2 W hW; have e5 := q3 W hW; have e6 := n0 W hW; have e7 := n1 W hW; have e8 := n2 W hW; have e9 := n3 W hW; have e10 := n4 W hW; have e11 := n5 W hW; have e12 := n6 W hW; have e13 := n7 W hW; have e14 := n8 W hW; have e15 := n9 W hW; have e16 := n10 W hW; have e17 := n11 W hW; have e18 := n12 W hW; simp only [e0, e1, e2, e3, e4, e5, e6, e7, e8, e9, e10, e11, e12, e13, e14, e15, e16, e17, e18, Result.andThen_ok]; done)
                            | (have e0 := f0 W hW; have e1 := f1 W hW; have e2 := q0 W hW; have e3 := q1 W hW; have e4 := q2 W hW; have e5 := q3 W hW; have e6 := n0 W hW; have e7 := n1 W hW; have e8 := n2 W hW; have e9 := n3 W hW; have e10 := n4 W hW; have e11 := n5 W hW; have e12 := n6 W hW; have e13 := n7 W hW; have e14 := n8 W hW; have e15 := n9 W hW; have e16 := n10 W hW; have e17 := n11 W hW; have e18 := n12 W hW; simp only [e0, e1, e2, e3, e4, e5, e6, e7, e8, e9, e10, e11, e12, e13, e14, e15, e16, e17, e18, Result.andThen_ok]; first | exact ⟨trivial, rfl⟩ | exact rfl | exact ⟨rfl, rfl⟩)
                            | (first | (with_reducible refine (HGY.out W hW).mono ?_; rintro e w' ⟨rfl, hb⟩; exact ⟨rfl, hCK _ _ hW hb⟩) | (with_reducible refine (HSG.out W).mono ?_; rintro e w' ⟨rfl, hb⟩; exact ⟨rfl, hCK _ _ hW hb⟩) | (with_reducible refine (HNR.out W hW).mono ?_; rintro e w' ⟨rfl, hb⟩; exact ⟨rfl, hCK _ _ hW hb⟩) | (with_reducible refine (HZE.out W hW).mono ?_; rintro e w' ⟨rfl, k, rfl⟩; exact ⟨rfl, hCD _ _ hW⟩))
                        go_big_quiet_on)))
              refine wpQuiet_nil ?_
              intro wz hwz
              clear f0 f1 q0 q1 q2 q3 n0 n1 n2 n3 n4 n5 n6 n7 n8 n9 n10 n11 n12 hCd hCK hCD
              have HWZ := Lib.hid (HCX.out wz hwz)
              clear hwz
              go_wp2_with fail
              go_meet
              exact ⟨by rw [HE.out]; rfl, HWZ.out⟩
            | true =>
              refine wp_region_cls C (by kernel_rfl) (by kernel_rfl) hCd ?_
              repeat (first
                | go_big_quiet_skip
                | (go_big_quiet_want
                   go_big_quiet_op
                   first
                     | go_big_quiet_on
                     | (apply Exists.intro
                        refine ⟨fun W hW => ?_, ?_⟩
                        · first
                            | exact rfl
                            | exact ⟨rfl, rfl⟩
                            | (have e0 := f0 W hW; have e1 := f1 W hW; have e2 := q0 W hW; have e3 := q1 W hW; have e4 := q2 W hW; have e5 := q3 W hW; have e6 := n0 W hW; have e7 := n1 W hW; have e8 := n2 W hW; have e9 := n3 W hW; have e10 := n4 W hW; have e11 := n5 W hW; have e12 := n6 W hW; have e13 := n7 W hW; have e14 := n8 W hW; have e15 := n9 W hW; have e16 := n10 W hW; have e17 := n11 W hW; have e18 := n12 W hW; simp only [e0, e1, e2, e3, e4, e5, e6, e7, e8, e9, e10, e11, e12, e13, e14, e15, e16, e17, e18, Result.andThen_ok]; done)
                            | (have e0 := f0 W hW; have e1 := f1 W hW; have e2 := q0 W hW; have e3 := q1 W hW; have e4 := q2 W hW; have e5 := q3 W hW; have e6 := n0 W hW; have e7 := n1 W hW; have e8 := n2 W hW; have e9 := n3 W hW; have e10 := n4 W hW; have e11 := n5 W hW; have e12 := n6 W hW; have e13 := n7 W hW; have e14 := n8 W hW; have e15 := n9 W hW; have e16 := n10 W hW; have e17 := n11 W hW; have e18 := n12 W hW; simp only [e0, e1, e2, e3, e4, e5, e6, e7, e8, e9, e10, e11, e12, e13, e14, e15, e16, e17, e18, Result.andThen_ok]; first | exact ⟨trivial, rfl⟩ | exact rfl | exact ⟨rfl, rfl⟩)
                            | (first | (with_reducible refine (HGY.out W hW).mono ?_; rintro e w' ⟨rfl, hb⟩; exact ⟨rfl, hCK _ _ hW hb⟩) | (with_reducible refine (HSG.out W).mono ?_; rintro e w' ⟨rfl, hb⟩; exact ⟨rfl, hCK _ _ hW hb⟩) | (with_reducible refine (HNR.out W hW).mono ?_; rintro e w' ⟨rfl, hb⟩; exact ⟨rfl, hCK _ _ hW hb⟩) | (with_reducible refine (HZE.out W hW).mono ?_; rintro e w' ⟨rfl, k, rfl⟩; exact ⟨rfl, hCD _ _ hW⟩))
                        go_big_quiet_on)))
              refine wpQuiet_nil ?_
              intro wz hwz
              clear f0 f1 q0 q1 q2 q3 n0 n1 n2 n3 n4 n5 n6 n7 n8 n9 n10 n11 n12 hCd hCK hCD
              have HWZ := Lib.hid (HCX.out wz hwz)
              clear hwz
              go_wp2_with fail
              go_meet
              exact ⟨by rw [HE.out]; rfl, HWZ.out⟩
          · obtain rfl : E = 0 := by rw [HI.out.1, if_neg hbig]
            obtain rfl : P = 16 := by rw [HI.out.2.2, if_neg hbig]
            have hVs : V = (subN l 8 8 : Int) := by rw [HI.out.2.1, if_neg hbig]
            have hUG : urGood gs secs l = ((T == [112, 111, 108, 100, 101, 114, 48, 49]) && (decide (1 ≤ V) && (decide (V ≤ 4294967295) && (((a0, a1, a2, a3) == F2) && (decide (er = 0) && (ok && (nr && az))))))) := by
              unfold urGood
              have hra : rnAt l 48 = (n, q, ok, er) := HRA.out
              have hsa : sumAt l 16 = (a0, a1, a2, a3) := HA.out
              have haz : allZ (l.drop 176) = az := HFF.out.2.2.2
              rw [HT.out, hra, hsa, HFF.out.1, HFF.out.2.1, haz]
              dsimp only
              rw [HFF.out.2.2.1, hVs, show decide (1 ≤ subN l 8 8) = decide ((1 : Int) ≤ (subN l 8 8 : Int)) from decide_eq_decide.2 (by omega), show decide (subN l 8 8 ≤ 4294967295) = decide ((subN l 8 8 : Int) ≤ 4294967295) from decide_eq_decide.2 (by omega)]
              rfl
            have HUG := Lib.hid hUG
            have HVS := Lib.hid hVs
            have HSE := neq_sum (a0, a1, a2, a3) F2
            dsimp only [fcells] at HSE
            clear hUG hVs hbig
            cases hwq : (T == [112, 111, 108, 100, 101, 114, 48, 49]) with
            | false =>
              have HE : Hid (urGood gs secs l = false) := Lib.hid ((by rw [HUG.out, hwq]; rfl))
              refine wp_region_cls C (by kernel_rfl) (by kernel_rfl) hCd ?_
              repeat (first
                | go_big_quiet_skip
                | (go_big_quiet_want
                   go_big_quiet_op
                   first
                     | go_big_quiet_on
                     | (apply Exists.intro
                        refine ⟨fun W hW => ?_, ?_⟩
                        · first
                            | exact rfl
                            | exact ⟨rfl, rfl⟩
                            | (have e0 := f0 W hW; have e1 := f1 W hW; have e2 := q0 W hW; have e3 := q1 W hW; have e4 := q2 W hW; have e5 := q3 W hW; have e6 := n0 W hW; have e7 := n1 W hW; have e8 := n2 W hW; have e9 := n3 W hW; have e10 := n4 W hW; have e11 := n5 W hW; have e12 := n6 W hW; have e13 := n7 W hW; have e14 := n8 W hW; have e15 := n9 W hW; have e16 := n10 W hW; have e17 := n11 W hW; have e18 := n12 W hW; simp only [e0, e1, e2, e3, e4, e5, e6, e7, e8, e9, e10, e11, e12, e13, e14, e15, e16, e17, e18, Result.andThen_ok]; done)
                            | (have e0 := f0 W hW; have e1 := f1 W hW; have e2 := q0 W hW; have e3 := q1 W hW; have e4 := q2 W hW; have e5 := q3 W hW; have e6 := n0 W hW; have e7 := n1 W hW; have e8 := n2 W hW; have e9 := n3 W hW; have e10 := n4 W hW; have e11 := n5 W hW; have e12 := n6 W hW; have e13 := n7 W hW; have e14 := n8 W hW; have e15 := n9 W hW; have e16 := n10 W hW; have e17 := n11 W hW; have e18 := n12 W hW; simp only [e0, e1, e2, e3, e4, e5, e6, e7, e8, e9, e10, e11, e12, e13, e14, e15, e16, e17, e18, Result.andThen_ok]; first | exact ⟨trivial, rfl⟩ | exact rfl | exact ⟨rfl, rfl⟩)
                            | (first | (with_reducible refine (HGY.out W hW).mono ?_; rintro e w' ⟨rfl, hb⟩; exact ⟨rfl, hCK _ _ hW hb⟩) | (with_reducible refine (HSG.out W).mono ?_; rintro e w' ⟨rfl, hb⟩; exact ⟨rfl, hCK _ _ hW hb⟩) | (with_reducible refine (HNR.out W hW).mono ?_; rintro e w' ⟨rfl, hb⟩; exact ⟨rfl, hCK _ _ hW hb⟩) | (with_reducible refine (HZE.out W hW).mono ?_; rintro e w' ⟨rfl, k, rfl⟩; exact ⟨rfl, hCD _ _ hW⟩))
                        go_big_quiet_on)))
              refine wpQuiet_nil ?_
              intro wz hwz
              clear f0 f1 q0 q1 q2 q3 n0 n1 n2 n3 n4 n5 n6 n7 n8 n9 n10 n11 n12 hCd hCK hCD
              have HWZ := Lib.hid (HCX.out wz hwz)
              clear hwz
              go_wp2_with fail
              go_meet
              exact ⟨by rw [HE.out]; rfl, HWZ.out⟩
            | true =>
              by_cases hv1 : 1 ≤ V
              · have hdv1 : decide (V < 1) = false := decide_eq_false (by omega)
                by_cases hv2 : V ≤ 4294967295
                · have hdv2 : decide (4294967295 < V) = false := decide_eq_false (by omega)
                  cases hse : ((a0, a1, a2, a3) != F2) with
                  | true =>
                    have HE : Hid (urGood gs secs l = false) := Lib.hid ((by rw [HUG.out, show ((a0, a1, a2, a3) == F2) = false by rw [← Bool.not_eq_true', ← hse]; rfl]; simp))
                    simp only [hse] at HSE
                    clear hv1 hv2 hse
                    refine wp_region_cls C (by kernel_rfl) (by kernel_rfl) hCd ?_
                    repeat (first
                      | go_big_quiet_skip
                      | (go_big_quiet_want
                         go_big_quiet_op
                         first
                           | go_big_quiet_on
                           | (apply Exists.intro
                              refine ⟨fun W hW => ?_, ?_⟩
                              · first
                                  | exact rfl
                                  | exact ⟨rfl, rfl⟩
                                  | (have e0 := f0 W hW; have e1 := f1 W hW; have e2 := q0 W hW; have e3 := q1 W hW; have e4 := q2 W hW; have e5 := q3 W hW; have e6 := n0 W hW; have e7 := n1 W hW; have e8 := n2 W hW; have e9 := n3 W hW; have e10 := n4 W hW; have e11 := n5 W hW; have e12 := n6 W hW; have e13 := n7 W hW; have e14 := n8 W hW; have e15 := n9 W hW; have e16 := n10 W hW; have e17 := n11 W hW; have e18 := n12 W hW; simp only [e0, e1, e2, e3, e4, e5, e6, e7, e8, e9, e10, e11, e12, e13, e14, e15, e16, e17, e18, Result.andThen_ok]; done)
                                  | (have e0 := f0 W hW; have e1 := f1 W hW; have e2 := q0 W hW; have e3 := q1 W hW; have e4 := q2 W hW; have e5 := q3 W hW; have e6 := n0 W hW; have e7 := n1 W hW; have e8 := n2 W hW; have e9 := n3 W hW; have e10 := n4 W hW; have e11 := n5 W hW; have e12 := n6 W hW; have e13 := n7 W hW; have e14 := n8 W hW; have e15 := n9 W hW; have e16 := n10 W hW; have e17 := n11 W hW; have e18 := n12 W hW; simp only [e0, e1, e2, e3, e4, e5, e6, e7, e8, e9, e10, e11, e12, e13, e14, e15, e16, e17, e18, Result.andThen_ok]; first | exact ⟨trivial, rfl⟩ | exact rfl | exact ⟨rfl, rfl⟩)
                                  | (first | (with_reducible refine (HGY.out W hW).mono ?_; rintro e w' ⟨rfl, hb⟩; exact ⟨rfl, hCK _ _ hW hb⟩) | (with_reducible refine (HSG.out W).mono ?_; rintro e w' ⟨rfl, hb⟩; exact ⟨rfl, hCK _ _ hW hb⟩) | (with_reducible refine (HNR.out W hW).mono ?_; rintro e w' ⟨rfl, hb⟩; exact ⟨rfl, hCK _ _ hW hb⟩) | (with_reducible refine (HZE.out W hW).mono ?_; rintro e w' ⟨rfl, k, rfl⟩; exact ⟨rfl, hCD _ _ hW⟩))
                              go_big_quiet_on)))
                    refine wpQuiet_nil ?_
                    intro wz hwz
                    clear f0 f1 q0 q1 q2 q3 n0 n1 n2 n3 n4 n5 n6 n7 n8 n9 n10 n11 n12 hCd hCK hCD
                    have HWZ := Lib.hid (HCX.out wz hwz)
                    clear hwz
                    go_wp2_with fail
                    go_meet
                    exact ⟨by rw [HE.out]; rfl, HWZ.out⟩
                  | false =>
                    have hse2 : ((a0, a1, a2, a3) == F2) = true := by rw [← Bool.not_eq_false', ← hse]; rfl
                    simp only [hse] at HSE
                    by_cases her : er = 0
                    · subst her
                      cases ok with
                      | false =>
                        have HE : Hid (urGood gs secs l = false) := Lib.hid ((by rw [HUG.out]; simp))
                        clear hv1 hv2 hse hse2
                        refine wp_region_cls C (by kernel_rfl) (by kernel_rfl) hCd ?_
                        repeat (first
                          | go_big_quiet_skip
                          | (go_big_quiet_want
                             go_big_quiet_op
                             first
                               | go_big_quiet_on
                               | (apply Exists.intro
                                  refine ⟨fun W hW => ?_, ?_⟩
                                  · first
                                      | exact rfl
                                      | exact ⟨rfl, rfl⟩
                                      | (have e0 := f0 W hW; have e1 := f1 W hW; have e2 := q0 W hW; have e3 := q1 W hW; have e4 := q2 W hW; have e5 := q3 W hW; have e6 := n0 W hW; have e7 := n1 W hW; have e8 := n2 W hW; have e9 := n3 W hW; have e10 := n4 W hW; have e11 := n5 W hW; have e12 := n6 W hW; have e13 := n7 W hW; have e14 := n8 W hW; have e15 := n9 W hW; have e16 := n10 W hW; have e17 := n11 W hW; have e18 := n12 W hW; simp only [e0, e1, e2, e3, e4, e5, e6, e7, e8, e9, e10, e11, e12, e13, e14, e15, e16, e17, e18, Result.andThen_ok]; done)
                                      | (have e0 := f0 W hW; have e1 := f1 W hW; have e2 := q0 W hW; have e3 := q1 W hW; have e4 := q2 W hW; have e5 := q3 W hW; have e6 := n0 W hW; have e7 := n1 W hW; have e8 := n2 W hW; have e9 := n3 W hW; have e10 := n4 W hW; have e11 := n5 W hW; have e12 := n6 W hW; have e13 := n7 W hW; have e14 := n8 W hW; have e15 := n9 W hW; have e16 := n10 W hW; have e17 := n11 W hW; have e18 := n12 W hW; simp only [e0, e1, e2, e3, e4, e5, e6, e7, e8, e9, e10, e11, e12, e13, e14, e15, e16, e17, e18, Result.andThen_ok]; first | exact ⟨trivial, rfl⟩ | exact rfl | exact ⟨rfl, rfl⟩)
                                      | (first | (with_reducible refine (HGY.out W hW).mono ?_; rintro e w' ⟨rfl, hb⟩; exact ⟨rfl, hCK _ _ hW hb⟩) | (with_reducible refine (HSG.out W).mono ?_; rintro e w' ⟨rfl, hb⟩; exact ⟨rfl, hCK _ _ hW hb⟩) | (with_reducible refine (HNR.out W hW).mono ?_; rintro e w' ⟨rfl, hb⟩; exact ⟨rfl, hCK _ _ hW hb⟩) | (with_reducible refine (HZE.out W hW).mono ?_; rintro e w' ⟨rfl, k, rfl⟩; exact ⟨rfl, hCD _ _ hW⟩))
                                  go_big_quiet_on)))
                        refine wpQuiet_nil ?_
                        intro wz hwz
                        clear f0 f1 q0 q1 q2 q3 n0 n1 n2 n3 n4 n5 n6 n7 n8 n9 n10 n11 n12 hCd hCK hCD
                        have HWZ := Lib.hid (HCX.out wz hwz)
                        clear hwz
                        go_wp2_with fail
                        go_meet
                        exact ⟨by rw [HE.out]; rfl, HWZ.out⟩
                      | true =>
                        cases nr with
                        | false =>
                          have HE : Hid (urGood gs secs l = false) := Lib.hid ((by rw [HUG.out]; simp))
                          clear hv1 hv2 hse hse2
                          refine wp_region_cls C (by kernel_rfl) (by kernel_rfl) hCd ?_
                          repeat (first
                            | go_big_quiet_skip
                            | (go_big_quiet_want
                               go_big_quiet_op
                               first
                                 | go_big_quiet_on
                                 | (apply Exists.intro
                                    refine ⟨fun W hW => ?_, ?_⟩
                                    · first
                                        | exact rfl
                                        | exact ⟨rfl, rfl⟩
                                        | (have e0 := f0 W hW; have e1 := f1 W hW; have e2 := q0 W hW; have e3 := q1 W hW; have e4 := q2 W hW; have e5 := q3 W hW; have e6 := n0 W hW; have e7 := n1 W hW; have e8 := n2 W hW; have e9 := n3 W hW; have e10 := n4 W hW; have e11 := n5 W hW; have e12 := n6 W hW; have e13 := n7 W hW; have e14 := n8 W hW; have e15 := n9 W hW; have e16 := n10 W hW; have e17 := n11 W hW; have e18 := n12 W hW; simp only [e0, e1, e2, e3, e4, e5, e6, e7, e8, e9, e10, e11, e12, e13, e14, e15, e16, e17, e18, Result.andThen_ok]; done)
                                        | (have e0 := f0 W hW; have e1 := f1 W hW; have e2 := q0 W hW; have e3 := q1 W hW; have e4 := q2 W hW; have e5 := q3 W hW; have e6 := n0 W hW; have e7 := n1 W hW; have e8 := n2 W hW; have e9 := n3 W hW; have e10 := n4 W hW; have e11 := n5 W hW; have e12 := n6 W hW; have e13 := n7 W hW; have e14 := n8 W hW; have e15 := n9 W hW; have e16 := n10 W hW; have e17 := n11 W hW; have e18 := n12 W hW; simp only [e0, e1, e2, e3, e4, e5, e6, e7, e8, e9, e10, e11, e12, e13, e14, e15, e16, e17, e18, Result.andThen_ok]; first | exact ⟨trivial, rfl⟩ | exact rfl | exact ⟨rfl, rfl⟩)
                                        | (first | (with_reducible refine (HGY.out W hW).mono ?_; rintro e w' ⟨rfl, hb⟩; exact ⟨rfl, hCK _ _ hW hb⟩) | (with_reducible refine (HSG.out W).mono ?_; rintro e w' ⟨rfl, hb⟩; exact ⟨rfl, hCK _ _ hW hb⟩) | (with_reducible refine (HNR.out W hW).mono ?_; rintro e w' ⟨rfl, hb⟩; exact ⟨rfl, hCK _ _ hW hb⟩) | (with_reducible refine (HZE.out W hW).mono ?_; rintro e w' ⟨rfl, k, rfl⟩; exact ⟨rfl, hCD _ _ hW⟩))
                                    go_big_quiet_on)))
                          refine wpQuiet_nil ?_
                          intro wz hwz
                          clear f0 f1 q0 q1 q2 q3 n0 n1 n2 n3 n4 n5 n6 n7 n8 n9 n10 n11 n12 hCd hCK hCD
                          have HWZ := Lib.hid (HCX.out wz hwz)
                          clear hwz
                          go_wp2_with fail
                          go_meet
                          exact ⟨by rw [HE.out]; rfl, HWZ.out⟩
                        | true =>
                          cases az with
                          | false =>
                            have HE : Hid (urGood gs secs l = false) := Lib.hid ((by rw [HUG.out]; simp))
                            clear hv1 hv2 hse hse2
                            refine wp_region_cls C (by kernel_rfl) (by kernel_rfl) hCd ?_
                            repeat (first
                              | go_big_quiet_skip
                              | (go_big_quiet_want
                                 go_big_quiet_op
                                 first
                                   | go_big_quiet_on
                                   | (apply Exists.intro
                                      refine ⟨fun W hW => ?_, ?_⟩
                                      · first
                                          | exact rfl
                                          | exact ⟨rfl, rfl⟩
                                          | (have e0 := f0 W hW; have e1 := f1 W hW; have e2 := q0 W hW; have e3 := q1 W hW; have e4 := q2 W hW; have e5 := q3 W hW; have e6 := n0 W hW; have e7 := n1 W hW; have e8 := n2 W hW; have e9 := n3 W hW; have e10 := n4 W hW; have e11 := n5 W hW; have e12 := n6 W hW; have e13 := n7 W hW; have e14 := n8 W hW; have e15 := n9 W hW; have e16 := n10 W hW; have e17 := n11 W hW; have e18 := n12 W hW; simp only [e0, e1, e2, e3, e4, e5, e6, e7, e8, e9, e10, e11, e12, e13, e14, e15, e16, e17, e18, Result.andThen_ok]; done)
                                          | (have e0 := f0 W hW; have e1 := f1 W hW; have e2 := q0 W hW; have e3 := q1 W hW; have e4 := q2 W hW; have e5 := q3 W hW; have e6 := n0 W hW; have e7 := n1 W hW; have e8 := n2 W hW; have e9 := n3 W hW; have e10 := n4 W hW; have e11 := n5 W hW; have e12 := n6 W hW; have e13 := n7 W hW; have e14 := n8 W hW; have e15 := n9 W hW; have e16 := n10 W hW; have e17 := n11 W hW; have e18 := n12 W hW; simp only [e0, e1, e2, e3, e4, e5, e6, e7, e8, e9, e10, e11, e12, e13, e14, e15, e16, e17, e18, Result.andThen_ok]; first | exact ⟨trivial, rfl⟩ | exact rfl | exact ⟨rfl, rfl⟩)
                                          | (first | (with_reducible refine (HGY.out W hW).mono ?_; rintro e w' ⟨rfl, hb⟩; exact ⟨rfl, hCK _ _ hW hb⟩) | (with_reducible refine (HSG.out W).mono ?_; rintro e w' ⟨rfl, hb⟩; exact ⟨rfl, hCK _ _ hW hb⟩) | (with_reducible refine (HNR.out W hW).mono ?_; rintro e w' ⟨rfl, hb⟩; exact ⟨rfl, hCK _ _ hW hb⟩) | (with_reducible refine (HZE.out W hW).mono ?_; rintro e w' ⟨rfl, k, rfl⟩; exact ⟨rfl, hCD _ _ hW⟩))
                                      go_big_quiet_on)))
                            refine wpQuiet_nil ?_
                            intro wz hwz
                            clear f0 f1 q0 q1 q2 q3 n0 n1 n2 n3 n4 n5 n6 n7 n8 n9 n10 n11 n12 hCd hCK hCD
                            have HWZ := Lib.hid (HCX.out wz hwz)
                            clear hwz
                            go_wp2_with fail
                            go_meet
                            exact ⟨by rw [HE.out]; rfl, HWZ.out⟩
                          | true =>
                            have hug : urGood gs secs l = true := by rw [HUG.out, hwq, decide_eq_true hv1, decide_eq_true hv2, hse2]; rfl
                            have HE := Lib.hid hug
                            clear hv1 hv2 hse hse2 hug
                            refine wp_region_cls C (by kernel_rfl) (by kernel_rfl) hCd ?_
                            repeat (first
                              | go_big_quiet_skip
                              | (go_big_quiet_want
                                 go_big_quiet_op
                                 first
                                   | go_big_quiet_on
                                   | (apply Exists.intro
                                      refine ⟨fun W hW => ?_, ?_⟩
                                      · first
                                          | exact rfl
                                          | exact ⟨rfl, rfl⟩
                                          | (have e0 := f0 W hW; have e1 := f1 W hW; have e2 := q0 W hW; have e3 := q1 W hW; have e4 := q2 W hW; have e5 := q3 W hW; have e6 := n0 W hW; have e7 := n1 W hW; have e8 := n2 W hW; have e9 := n3 W hW; have e10 := n4 W hW; have e11 := n5 W hW; have e12 := n6 W hW; have e13 := n7 W hW; have e14 := n8 W hW; have e15 := n9 W hW; have e16 := n10 W hW; have e17 := n11 W hW; have e18 := n12 W hW; simp only [e0, e1, e2, e3, e4, e5, e6, e7, e8, e9, e10, e11, e12, e13, e14, e15, e16, e17, e18, Result.andThen_ok]; done)
                                          | (have e0 := f0 W hW; have e1 := f1 W hW; have e2 := q0 W hW; have e3 := q1 W hW; have e4 := q2 W hW; have e5 := q3 W hW; have e6 := n0 W hW; have e7 := n1 W hW; have e8 := n2 W hW; have e9 := n3 W hW; have e10 := n4 W hW; have e11 := n5 W hW; have e12 := n6 W hW; have e13 := n7 W hW; have e14 := n8 W hW; have e15 := n9 W hW; have e16 := n10 W hW; have e17 := n11 W hW; have e18 := n12 W hW; simp only [e0, e1, e2, e3, e4, e5, e6, e7, e8, e9, e10, e11, e12, e13, e14, e15, e16, e17, e18, Result.andThen_ok]; first | exact ⟨trivial, rfl⟩ | exact rfl | exact ⟨rfl, rfl⟩)
                                          | (first | (with_reducible refine (HGY.out W hW).mono ?_; rintro e w' ⟨rfl, hb⟩; exact ⟨rfl, hCK _ _ hW hb⟩) | (with_reducible refine (HSG.out W).mono ?_; rintro e w' ⟨rfl, hb⟩; exact ⟨rfl, hCK _ _ hW hb⟩) | (with_reducible refine (HNR.out W hW).mono ?_; rintro e w' ⟨rfl, hb⟩; exact ⟨rfl, hCK _ _ hW hb⟩) | (with_reducible refine (HZE.out W hW).mono ?_; rintro e w' ⟨rfl, k, rfl⟩; exact ⟨rfl, hCD _ _ hW⟩))
                                      go_big_quiet_on)))
                            refine wpQuiet_nil ?_
                            intro wz hwz
                            clear f0 f1 q0 q1 q2 q3 n0 n1 n2 n3 n4 n5 n6 n7 n8 n9 n10 n11 n12 hCd hCK hCD
                            have HWZ := Lib.hid (HCX.out wz hwz)
                            clear hwz
                            go_wp2_with fail
                            go_meet
                            exact ⟨by rw [HE.out]; rfl, HWZ.out⟩
                    · have hne : (er != 0) = true := bne_iff_ne.2 her
                      have HE : Hid (urGood gs secs l = false) := Lib.hid ((by rw [HUG.out, decide_eq_false her]; simp))
                      clear hv1 hv2 hse hse2 her
                      refine wp_region_cls C (by kernel_rfl) (by kernel_rfl) hCd ?_
                      repeat (first
                        | go_big_quiet_skip
                        | (go_big_quiet_want
                           go_big_quiet_op
                           first
                             | go_big_quiet_on
                             | (apply Exists.intro
                                refine ⟨fun W hW => ?_, ?_⟩
                                · first
                                    | exact rfl
                                    | exact ⟨rfl, rfl⟩
                                    | (have e0 := f0 W hW; have e1 := f1 W hW; have e2 := q0 W hW; have e3 := q1 W hW; have e4 := q2 W hW; have e5 := q3 W hW; have e6 := n0 W hW; have e7 := n1 W hW; have e8 := n2 W hW; have e9 := n3 W hW; have e10 := n4 W hW; have e11 := n5 W hW; have e12 := n6 W hW; have e13 := n7 W hW; have e14 := n8 W hW; have e15 := n9 W hW; have e16 := n10 W hW; have e17 := n11 W hW; have e18 := n12 W hW; simp only [e0, e1, e2, e3, e4, e5, e6, e7, e8, e9, e10, e11, e12, e13, e14, e15, e16, e17, e18, Result.andThen_ok]; done)
                                    | (have e0 := f0 W hW; have e1 := f1 W hW; have e2 := q0 W hW; have e3 := q1 W hW; have e4 := q2 W hW; have e5 := q3 W hW; have e6 := n0 W hW; have e7 := n1 W hW; have e8 := n2 W hW; have e9 := n3 W hW; have e10 := n4 W hW; have e11 := n5 W hW; have e12 := n6 W hW; have e13 := n7 W hW; have e14 := n8 W hW; have e15 := n9 W hW; have e16 := n10 W hW; have e17 := n11 W hW; have e18 := n12 W hW; simp only [e0, e1, e2, e3, e4, e5, e6, e7, e8, e9, e10, e11, e12, e13, e14, e15, e16, e17, e18, Result.andThen_ok]; first | exact ⟨trivial, rfl⟩ | exact rfl | exact ⟨rfl, rfl⟩)
                                    | (first | (with_reducible refine (HGY.out W hW).mono ?_; rintro e w' ⟨rfl, hb⟩; exact ⟨rfl, hCK _ _ hW hb⟩) | (with_reducible refine (HSG.out W).mono ?_; rintro e w' ⟨rfl, hb⟩; exact ⟨rfl, hCK _ _ hW hb⟩) | (with_reducible refine (HNR.out W hW).mono ?_; rintro e w' ⟨rfl, hb⟩; exact ⟨rfl, hCK _ _ hW hb⟩) | (with_reducible refine (HZE.out W hW).mono ?_; rintro e w' ⟨rfl, k, rfl⟩; exact ⟨rfl, hCD _ _ hW⟩))
                                go_big_quiet_on)))
                      refine wpQuiet_nil ?_
                      intro wz hwz
                      clear f0 f1 q0 q1 q2 q3 n0 n1 n2 n3 n4 n5 n6 n7 n8 n9 n10 n11 n12 hCd hCK hCD
                      have HWZ := Lib.hid (HCX.out wz hwz)
                      clear hwz
                      go_wp2_with fail
                      go_meet
                      exact ⟨by rw [HE.out]; rfl, HWZ.out⟩
                · have hdv2 : decide (4294967295 < V) = true := decide_eq_true (by omega)
                  have HE : Hid (urGood gs secs l = false) := Lib.hid ((by rw [HUG.out, decide_eq_false hv2]; simp))
                  clear hv1 hv2
                  refine wp_region_cls C (by kernel_rfl) (by kernel_rfl) hCd ?_
                  repeat (first
                    | go_big_quiet_skip
                    | (go_big_quiet_want
                       go_big_quiet_op
                       first
                         | go_big_quiet_on
                         | (apply Exists.intro
                            refine ⟨fun W hW => ?_, ?_⟩
                            · first
                                | exact rfl
                                | exact ⟨rfl, rfl⟩
                                | (have e0 := f0 W hW; have e1 := f1 W hW; have e2 := q0 W hW; have e3 := q1 W hW; have e4 := q2 W hW; have e5 := q3 W hW; have e6 := n0 W hW; have e7 := n1 W hW; have e8 := n2 W hW; have e9 := n3 W hW; have e10 := n4 W hW; have e11 := n5 W hW; have e12 := n6 W hW; have e13 := n7 W hW; have e14 := n8 W hW; have e15 := n9 W hW; have e16 := n10 W hW; have e17 := n11 W hW; have e18 := n12 W hW; simp only [e0, e1, e2, e3, e4, e5, e6, e7, e8, e9, e10, e11, e12, e13, e14, e15, e16, e17, e18, Result.andThen_ok]; done)
                                | (have e0 := f0 W hW; have e1 := f1 W hW; have e2 := q0 W hW; have e3 := q1 W hW; have e4 := q2 W hW; have e5 := q3 W hW; have e6 := n0 W hW; have e7 := n1 W hW; have e8 := n2 W hW; have e9 := n3 W hW; have e10 := n4 W hW; have e11 := n5 W hW; have e12 := n6 W hW; have e13 := n7 W hW; have e14 := n8 W hW; have e15 := n9 W hW; have e16 := n10 W hW; have e17 := n11 W hW; have e18 := n12 W hW; simp only [e0, e1, e2, e3, e4, e5, e6, e7, e8, e9, e10, e11, e12, e13, e14, e15, e16, e17, e18, Result.andThen_ok]; first | exact ⟨trivial, rfl⟩ | exact rfl | exact ⟨rfl, rfl⟩)
                                | (first | (with_reducible refine (HGY.out W hW).mono ?_; rintro e w' ⟨rfl, hb⟩; exact ⟨rfl, hCK _ _ hW hb⟩) | (with_reducible refine (HSG.out W).mono ?_; rintro e w' ⟨rfl, hb⟩; exact ⟨rfl, hCK _ _ hW hb⟩) | (with_reducible refine (HNR.out W hW).mono ?_; rintro e w' ⟨rfl, hb⟩; exact ⟨rfl, hCK _ _ hW hb⟩) | (with_reducible refine (HZE.out W hW).mono ?_; rintro e w' ⟨rfl, k, rfl⟩; exact ⟨rfl, hCD _ _ hW⟩))
                            go_big_quiet_on)))
                  refine wpQuiet_nil ?_
                  intro wz hwz
                  clear f0 f1 q0 q1 q2 q3 n0 n1 n2 n3 n4 n5 n6 n7 n8 n9 n10 n11 n12 hCd hCK hCD
                  have HWZ := Lib.hid (HCX.out wz hwz)
                  clear hwz
                  go_wp2_with fail
                  go_meet
                  exact ⟨by rw [HE.out]; rfl, HWZ.out⟩
              · have hdv1 : decide (V < 1) = true := decide_eq_true (by omega)
                have HE : Hid (urGood gs secs l = false) := Lib.hid ((by rw [HUG.out, decide_eq_false hv1]; simp))
                clear hv1
                refine wp_region_cls C (by kernel_rfl) (by kernel_rfl) hCd ?_
                repeat (first
                  | go_big_quiet_skip
                  | (go_big_quiet_want
                     go_big_quiet_op
                     first
                       | go_big_quiet_on
                       | (apply Exists.intro
                          refine ⟨fun W hW => ?_, ?_⟩
                          · first
                              | exact rfl
                              | exact ⟨rfl, rfl⟩
                              | (have e0 := f0 W hW; have e1 := f1 W hW; have e2 := q0 W hW; have e3 := q1 W hW; have e4 := q2 W hW; have e5 := q3 W hW; have e6 := n0 W hW; have e7 := n1 W hW; have e8 := n2 W hW; have e9 := n3 W hW; have e10 := n4 W hW; have e11 := n5 W hW; have e12 := n6 W hW; have e13 := n7 W hW; have e14 := n8 W hW; have e15 := n9 W hW; have e16 := n10 W hW; have e17 := n11 W hW; have e18 := n12 W hW; simp only [e0, e1, e2, e3, e4, e5, e6, e7, e8, e9, e10, e11, e12, e13, e14, e15, e16, e17, e18, Result.andThen_ok]; done)
                              | (have e0 := f0 W hW; have e1 := f1 W hW; have e2 := q0 W hW; have e3 := q1 W hW; have e4 := q2 W hW; have e5 := q3 W hW; have e6 := n0 W hW; have e7 := n1 W hW; have e8 := n2 W hW; have e9 := n3 W hW; have e10 := n4 W hW; have e11 := n5 W hW; have e12 := n6 W hW; have e13 := n7 W hW; have e14 := n8 W hW; have e15 := n9 W hW; have e16 := n10 W hW; have e17 := n11 W hW; have e18 := n12 W hW; simp only [e0, e1, e2, e3, e4, e5, e6, e7, e8, e9, e10, e11, e12, e13, e14, e15, e16, e17, e18, Result.andThen_ok]; first | exact ⟨trivial, rfl⟩ | exact rfl | exact ⟨rfl, rfl⟩)
                              | (first | (with_reducible refine (HGY.out W hW).mono ?_; rintro e w' ⟨rfl, hb⟩; exact ⟨rfl, hCK _ _ hW hb⟩) | (with_reducible refine (HSG.out W).mono ?_; rintro e w' ⟨rfl, hb⟩; exact ⟨rfl, hCK _ _ hW hb⟩) | (with_reducible refine (HNR.out W hW).mono ?_; rintro e w' ⟨rfl, hb⟩; exact ⟨rfl, hCK _ _ hW hb⟩) | (with_reducible refine (HZE.out W hW).mono ?_; rintro e w' ⟨rfl, k, rfl⟩; exact ⟨rfl, hCD _ _ hW⟩))
                          go_big_quiet_on)))
                refine wpQuiet_nil ?_
                intro wz hwz
                clear f0 f1 q0 q1 q2 q3 n0 n1 n2 n3 n4 n5 n6 n7 n8 n9 n10 n11 n12 hCd hCK hCD
                have HWZ := Lib.hid (HCX.out wz hwz)
                clear hwz
                go_wp2_with fail
                go_meet
                exact ⟨by rw [HE.out]; rfl, HWZ.out⟩
        case rest =>
          obtain ⟨rfl, hbc⟩ := hcut
          rename World => wc
          have hbw := HCW.out wc hbc
          have HZ := Lib.hid (HZC.out wc hbc)
          clear f0 f1 q0 q1 q2 q3 n0 n1 n2 n3 n4 n5 n6 n7 n8 n9 n10 n11 n12 hCd hCK hCD
          cases hug : urGood gs secs l with
          | false =>
            have HE : Hid (urD gs secs s = (ubZ, 3)) := Lib.hid (by rw [HU2.out, hug]; rfl)
            clear hug hbc
            have z0 := (HZ.out).at_ (i := 0) (v := .int .i64 0) rfl
            have z1 := (HZ.out).at_ (i := 1) (v := .int .i64 0) rfl
            have z2 := (HZ.out).at_ (i := 2) (v := .int .i64 0) rfl
            have z3 := (HZ.out).at_ (i := 3) (v := .int .i64 0) rfl
            have z4 := (HZ.out).at_ (i := 4) (v := .int .i64 0) rfl
            have z5 := (HZ.out).at_ (i := 5) (v := .int .i64 0) rfl
            have z6 := (HZ.out).at_ (i := 6) (v := .bool false) rfl
            have z7 := (HZ.out).at_ (i := 7) (v := .int .i64 0) rfl
            have z8 := (HZ.out).at_ (i := 8) (v := .int .i64 0) rfl
            have z9 := (HZ.out).at_ (i := 9) (v := .int .i64 0) rfl
            have z10 := (HZ.out).at_ (i := 10) (v := .int .u64 0) rfl
            have z11 := (HZ.out).at_ (i := 11) (v := .int .u64 0) rfl
            have z12 := (HZ.out).at_ (i := 12) (v := .int .u64 0) rfl
            have z13 := (HZ.out).at_ (i := 13) (v := .int .u64 0) rfl
            have fr0 := (HZ.out).fr 0
            have fr1 := (HZ.out).fr 1
            have fr2 := (HZ.out).fr 2
            have fr3 := (HZ.out).fr 3
            have fr4 := (HZ.out).fr 4
            have fr5 := (HZ.out).fr 5
            have fr6 := (HZ.out).fr 6
            have fr7 := (HZ.out).fr 7
            have fr8 := (HZ.out).fr 8
            have fr9 := (HZ.out).fr 9
            have fr10 := (HZ.out).fr 10
            have fr11 := (HZ.out).fr 11
            have fr12 := (HZ.out).fr 12
            have fr13 := (HZ.out).fr 13
            go_wp2_with fail
            refine bodyPost_ret (v := .tuple #[.agg #[.int .i64 0, .int .i64 0, .int .i64 0, .int .i64 0, .int .i64 0, .int .i64 0, .bool false, .int .i64 0, .int .i64 0, .int .i64 0, .int .u64 0, .int .u64 0, .int .u64 0, .int .u64 0], .int .i64 (3)]) (by simp [results, Tryz.f10, go_sem, z0, z1, z2, z3, z4, z5, z6, z7, z8, z9, z10, z11, z12, z13]) rfl ⟨by rw [HE.out]; rfl, ?_⟩
            repeat (first | (with_reducible exact hbw) | (with_reducible refine keep_alloc ?_ _) | (with_reducible refine below_set ?_ _ _ _ (Nat.le_succ _)))
          | true =>
            have hsm : ¬ 4611686018427387904 ≤ subN l 8 8 := fun h => by
              unfold urGood at hug
              rw [decide_eq_false (show ¬ subN l 8 8 ≤ 4294967295 by omega)] at hug
              simp at hug
            obtain rfl : E = 0 := by rw [HI.out.1, if_neg hsm]
            obtain rfl : P = 16 := by rw [HI.out.2.2, if_neg hsm]
            have hVs : V = (subN l 8 8 : Int) := by rw [HI.out.2.1, if_neg hsm]
            have hra : rnAt l 48 = (n, q, ok, er) := HRA.out
            have HE : Hid (urD gs secs s = (⟨V, n, q⟩, 0)) := Lib.hid (by rw [HU2.out, if_pos hug, hra, hVs])
            have hbu := build_ub V n q
            have m0 := keepU (HN.out.at_ (i := 0) (v := .int .i64 n) rfl) hbc
            have m1 := keepU (HN.out.at_ (i := 1) (v := .int .i64 q.ag) rfl) hbc
            have m2 := keepU (HN.out.at_ (i := 2) (v := .int .i64 q.aa) rfl) hbc
            have m3 := keepU (HN.out.at_ (i := 3) (v := .int .i64 q.bg) rfl) hbc
            have m4 := keepU (HN.out.at_ (i := 4) (v := .int .i64 q.ba) rfl) hbc
            have m5 := keepU (HN.out.at_ (i := 5) (v := .bool q.two) rfl) hbc
            have m6 := keepU (HN.out.at_ (i := 6) (v := .int .i64 q.size) rfl) hbc
            have m7 := keepU (HN.out.at_ (i := 7) (v := .int .i64 q.level) rfl) hbc
            have m8 := keepU (HN.out.at_ (i := 8) (v := .int .i64 q.birth) rfl) hbc
            have m9 := keepU (HN.out.at_ (i := 9) (v := .int .u64 q.s0) rfl) hbc
            have m10 := keepU (HN.out.at_ (i := 10) (v := .int .u64 q.s1) rfl) hbc
            have m11 := keepU (HN.out.at_ (i := 11) (v := .int .u64 q.s2) rfl) hbc
            have m12 := keepU (HN.out.at_ (i := 12) (v := .int .u64 q.s3) rfl) hbc
            clear hug hsm hVs hra hbc
            have z0 := (HZ.out).at_ (i := 0) (v := .int .i64 0) rfl
            have z1 := (HZ.out).at_ (i := 1) (v := .int .i64 0) rfl
            have z2 := (HZ.out).at_ (i := 2) (v := .int .i64 0) rfl
            have z3 := (HZ.out).at_ (i := 3) (v := .int .i64 0) rfl
            have z4 := (HZ.out).at_ (i := 4) (v := .int .i64 0) rfl
            have z5 := (HZ.out).at_ (i := 5) (v := .int .i64 0) rfl
            have z6 := (HZ.out).at_ (i := 6) (v := .bool false) rfl
            have z7 := (HZ.out).at_ (i := 7) (v := .int .i64 0) rfl
            have z8 := (HZ.out).at_ (i := 8) (v := .int .i64 0) rfl
            have z9 := (HZ.out).at_ (i := 9) (v := .int .i64 0) rfl
            have z10 := (HZ.out).at_ (i := 10) (v := .int .u64 0) rfl
            have z11 := (HZ.out).at_ (i := 11) (v := .int .u64 0) rfl
            have z12 := (HZ.out).at_ (i := 12) (v := .int .u64 0) rfl
            have z13 := (HZ.out).at_ (i := 13) (v := .int .u64 0) rfl
            have fr0 := (HZ.out).fr 0
            have fr1 := (HZ.out).fr 1
            have fr2 := (HZ.out).fr 2
            have fr3 := (HZ.out).fr 3
            have fr4 := (HZ.out).fr 4
            have fr5 := (HZ.out).fr 5
            have fr6 := (HZ.out).fr 6
            have fr7 := (HZ.out).fr 7
            have fr8 := (HZ.out).fr 8
            have fr9 := (HZ.out).fr 9
            have fr10 := (HZ.out).fr 10
            have fr11 := (HZ.out).fr 11
            have fr12 := (HZ.out).fr 12
            have fr13 := (HZ.out).fr 13
            go_wp2_with fail
            refine bodyPost_ret (v := .tuple #[.agg #[.int .i64 V, .int .i64 n, .int .i64 q.ag, .int .i64 q.aa, .int .i64 q.bg, .int .i64 q.ba, .bool q.two, .int .i64 q.size, .int .i64 q.level, .int .i64 q.birth, .int .u64 q.s0, .int .u64 q.s1, .int .u64 q.s2, .int .u64 q.s3], .int .i64 0]) (by simp [results, Tryz.f10, go_sem, z0, z1, z2, z3, z4, z5, z6, z7, z8, z9, z10, z11, z12, z13]) rfl ⟨by rw [HE.out], ?_⟩
            repeat (first | (with_reducible exact hbw) | (with_reducible refine keep_alloc ?_ _) | (with_reducible refine below_set ?_ _ _ _ (Nat.le_succ _)))
      · have hqe : (sd == K) = false := beq_eq_false_iff_ne.2 hck
        have HE : Hid (urD gs secs s = (ubZ, 4)) := Lib.hid (by rw [HU.out, if_pos hck])
        clear hck
        refine wp_region_cls C (by kernel_rfl) (by kernel_rfl) hCd ?_
        repeat (first
          | go_big_quiet_skip
          | (go_big_quiet_want
             go_big_quiet_op
             first
               | go_big_quiet_on
               | (apply Exists.intro
                  refine ⟨fun W hW => ?_, ?_⟩
                  · first
                      | exact rfl
                      | exact ⟨rfl, rfl⟩
                      | (have e0 := hcf W hW; have e1 := hct W hW; simp only [e0, e1, Result.andThen_ok]; done)
                      | (have e0 := hcf W hW; have e1 := hct W hW; simp only [e0, e1, Result.andThen_ok]; first | exact ⟨trivial, rfl⟩ | exact rfl | exact ⟨rfl, rfl⟩)
                      | (first | (with_reducible refine (HS1.out W).mono ?_; rintro e w' ⟨rfl, hb⟩; exact ⟨rfl, hCK _ _ hW hb⟩) | (with_reducible refine (HK1.out W).mono ?_; rintro e w' ⟨rfl, hb⟩; exact ⟨rfl, hCK _ _ hW hb⟩))
                  go_big_quiet_on)))
        refine wpQuiet_nil ?_
        intro w3 hw3
        have hb3 := HC.out w3 hw3
        have hbw := keep_below hb3 hbw
        have HZ := Lib.hid (HZ.out.below hb3 HZ.out.lt)
        clear hcf hct hqe hCd hCK hw3 hb3
        have z0 := (HZ.out).at_ (i := 0) (v := .int .i64 0) rfl
        have z1 := (HZ.out).at_ (i := 1) (v := .int .i64 0) rfl
        have z2 := (HZ.out).at_ (i := 2) (v := .int .i64 0) rfl
        have z3 := (HZ.out).at_ (i := 3) (v := .int .i64 0) rfl
        have z4 := (HZ.out).at_ (i := 4) (v := .int .i64 0) rfl
        have z5 := (HZ.out).at_ (i := 5) (v := .int .i64 0) rfl
        have z6 := (HZ.out).at_ (i := 6) (v := .bool false) rfl
        have z7 := (HZ.out).at_ (i := 7) (v := .int .i64 0) rfl
        have z8 := (HZ.out).at_ (i := 8) (v := .int .i64 0) rfl
        have z9 := (HZ.out).at_ (i := 9) (v := .int .i64 0) rfl
        have z10 := (HZ.out).at_ (i := 10) (v := .int .u64 0) rfl
        have z11 := (HZ.out).at_ (i := 11) (v := .int .u64 0) rfl
        have z12 := (HZ.out).at_ (i := 12) (v := .int .u64 0) rfl
        have z13 := (HZ.out).at_ (i := 13) (v := .int .u64 0) rfl
        have fr0 := (HZ.out).fr 0
        have fr1 := (HZ.out).fr 1
        have fr2 := (HZ.out).fr 2
        have fr3 := (HZ.out).fr 3
        have fr4 := (HZ.out).fr 4
        have fr5 := (HZ.out).fr 5
        have fr6 := (HZ.out).fr 6
        have fr7 := (HZ.out).fr 7
        have fr8 := (HZ.out).fr 8
        have fr9 := (HZ.out).fr 9
        have fr10 := (HZ.out).fr 10
        have fr11 := (HZ.out).fr 11
        have fr12 := (HZ.out).fr 12
        have fr13 := (HZ.out).fr 13
        go_wp2_with fail
        refine bodyPost_ret (v := .tuple #[.agg #[.int .i64 0, .int .i64 0, .int .i64 0, .int .i64 0, .int .i64 0, .int .i64 0, .bool false, .int .i64 0, .int .i64 0, .int .i64 0, .int .u64 0, .int .u64 0, .int .u64 0, .int .u64 0], .int .i64 (4)]) (by simp [results, Tryz.f10, go_sem, z0, z1, z2, z3, z4, z5, z6, z7, z8, z9, z10, z11, z12, z13]) rfl ⟨by rw [HE.out]; rfl, ?_⟩
        repeat (first | (with_reducible exact hbw) | (with_reducible refine keep_alloc ?_ _) | (with_reducible refine below_set ?_ _ _ _ (Nat.le_succ _)))
end Go.Proofs.YtlpbbjjibnbooaaGreatDoor
