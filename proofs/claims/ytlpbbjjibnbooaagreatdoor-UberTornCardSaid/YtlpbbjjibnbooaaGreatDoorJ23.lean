/-
  The walk of NodeNodes.
  What an uberblock's bytes are read as: plain law.
  Uberblocks written one behind the other: plain law.
  An uberblock of which not all sectors stand: plain law.
  A device with an uberblock flushed and one torn: plain law.
  The best uberblock of devices of which the last writing is torn: plain law.
  Contracts: polderlaw18.whole.
-/
import Derived.Test.YtlpbbjjibnbooaaGreatDoorJ06
import Derived.Test.YtlpbbjjibnbooaaGreatDoorJ22
namespace Go.Proofs.YtlpbbjjibnbooaaGreatDoor
set_option linter.unusedVariables false
set_option linter.unusedSimpArgs false
open Go.RowKit

theorem nodeL_eq {n : Int} {p : PtrD} (h : nodeOk n p = true) (op : p.Ok) : nodeL n p = layL n.toNat 8 ++ (layL 1 8 ++ (ptrL p ++ List.replicate 48 0)) := by
  simp only [nodeOk, Bool.and_eq_true] at h
  have hl : (layL n.toNat 8 ++ (layL 1 8 ++ ptrL p)).length = 80 := by simp [layL_len, ptrL_len h.2 op]
  unfold nodeL padL
  rw [if_pos (by decide), hl]
  simp only [List.append_assoc]
  rfl
/-- What is laid is read as it was. -/
theorem rn_back {n : Int} {p : PtrD} (h : nodeOk n p = true) (op : p.Ok) : rnD (nodeL n p) = (n, p, true, 0) ∧ (nodeL n p).length = 128 := by
  have he := nodeL_eq h op
  simp only [nodeOk, Bool.and_eq_true, decide_eq_true_eq] at h
  obtain ⟨⟨hn1, hn2⟩, hly⟩ := h
  obtain ⟨b1, b2, b3⟩ := lay_back hly op
  have hlen : (nodeL n p).length = 128 := by rw [he]; simp [layL_len, b3]
  refine ⟨?_, hlen⟩
  generalize nodeL n p = s at *
  have k0 : s.drop 0 = _ := he
  have k1 := drop_step k0 (layL_len _ _)
  have k2 := drop_step k1 (layL_len _ _)
  have k3 := drop_step k2 b3
  have m0 := subN_of k0 rfl (by omega)
  have m1 := subN_of k1 rfl (by omega)
  simp only [Nat.zero_add, Nat.reduceAdd] at m0 m1 k1 k2 k3
  have hr : (s.drop 16).take 64 = ptrL p := by rw [k2, takeApp b3]
  have hz : allZ s = false := by
    unfold allZ
    rw [List.all_eq_false]
    refine ⟨1, ?_, by decide⟩
    rw [he]
    have : (1 : UInt8) ∈ layL 1 8 := by decide
    simp [this]
  unfold rnD
  rw [if_neg (by omega), if_neg (by omega), if_neg (by rw [hz]; simp), m0, if_neg (by omega), m1, if_neg (by simp), hr, if_neg (by rw [b1]; simp), k3, if_pos (by decide), b2, Int.toNat_of_nonneg hn1]

end Go.Proofs.YtlpbbjjibnbooaaGreatDoor

namespace Go.Proofs.YtlpbbjjibnbooaaGreatDoor
set_option linter.unusedVariables false
set_option linter.unusedSimpArgs false
open Go.RowKit

theorem allZ_rep' (n : Nat) : allZ (List.replicate n 0) = true := by simp [allZ]
theorem sum4_eq (x : Nat × Nat × Nat × Nat) : sum4 x = layL x.1 8 ++ (layL x.2.1 8 ++ (layL x.2.2.1 8 ++ layL x.2.2.2 8)) := by simp [sum4, sumL]
theorem ubH_eq {gs : List (Int × Int)} {secs t n : Int} {p : PtrD} (h : nodeOk n p = true) (op : p.Ok) : ubH gs secs t n p = magicL ++ (layL t.toNat 8 ++ (layL (fsum (gbL gs secs)).1 8 ++ (layL (fsum (gbL gs secs)).2.1 8 ++ (layL (fsum (gbL gs secs)).2.2.1 8 ++ (layL (fsum (gbL gs secs)).2.2.2 8 ++ (nodeL n p ++ List.replicate 48 0)))))) := by
  have hl : (magicL ++ layL t.toNat 8 ++ sum4 (fsum (gbL gs secs)) ++ nodeL n p).length = 176 := by rw [List.length_append, List.length_append, List.length_append, layL_len, sum4_len, nodeL_len h op]; rfl
  unfold ubH padL
  rw [if_pos (by decide), hl, sum4_eq]
  simp only [List.append_assoc]
  rfl
theorem ubH_read {gs : List (Int × Int)} {secs t n : Int} {p : PtrD} (h : nodeOk n p = true) (op : p.Ok) (h1 : 1 ≤ t) (h2 : t ≤ 4294967295) :
    urGood gs secs (ubH gs secs t n p) = nRightB gs secs n p ∧ rnAt (ubH gs secs t n p) 48 = (n, p, true, 0) ∧ ((subN (ubH gs secs t n p) 8 8 : Nat) : Int) = t := by
  have he := ubH_eq (gs := gs) (secs := secs) (t := t) h op
  obtain ⟨l0, l1, l2, l3⟩ := fsum_lt (gbL gs secs)
  obtain ⟨rb, rl⟩ := rn_back h op
  obtain ⟨F, hF⟩ : ∃ F, fsum (gbL gs secs) = F := ⟨_, rfl⟩
  rw [hF] at he l0 l1 l2 l3
  generalize ubH gs secs t n p = s at *
  have k0 : s.drop 0 = _ := he
  have k1 := drop_step k0 (show magicL.length = 8 from rfl)
  have k2 := drop_step k1 (layL_len _ _)
  have k3 := drop_step k2 (layL_len _ _)
  have k4 := drop_step k3 (layL_len _ _)
  have k5 := drop_step k4 (layL_len _ _)
  have k6 := drop_step k5 (layL_len _ _)
  have k7 := drop_step k6 rl
  have m1 := subN_of k1 rfl (by omega)
  have m2 := subN_of k2 rfl (by omega)
  have m3 := subN_of k3 rfl (by omega)
  have m4 := subN_of k4 rfl (by omega)
  have m5 := subN_of k5 rfl (by omega)
  simp only [Nat.zero_add, Nat.reduceAdd] at m1 m2 m3 m4 m5 k6 k7
  have hmag : s.take 8 = magicL := by rw [he]; rfl
  have hrn : rnAt s 48 = (n, p, true, 0) := by unfold rnAt; rw [k6, takeApp rl]; exact rb
  have hsa : sumAt s 16 = F := by unfold sumAt; rw [m2, m3, m4, m5]
  refine ⟨?_, hrn, by rw [m1]; omega⟩
  unfold urGood
  rw [hmag, m1, hsa, hF, hrn, k7]
  have e1 : decide (1 ≤ t.toNat) = true := decide_eq_true (by omega)
  have e2 : decide (t.toNat ≤ 4294967295) = true := decide_eq_true (by omega)
  rw [e1, e2, allZ_rep', beq_self_eq_true, beq_self_eq_true]
  simp
theorem ub_cut {gs : List (Int × Int)} {secs t n : Int} {p : PtrD} (h : nodeOk n p = true) (op : p.Ok) : (ubL gs secs t n p).take 224 = ubH gs secs t n p ∧ (ubL gs secs t n p).drop 224 = sum4 (fsum (ubH gs secs t n p)) := by
  have hl := ubH_len (gs := gs) (secs := secs) (t := t) h op
  unfold ubL
  exact ⟨by rw [← hl, List.take_left], by rw [← hl, List.drop_left]⟩
theorem ubOk_parts {gs : List (Int × Int)} {secs t n : Int} {p : PtrD} (h : ubOk gs secs t n p = true) : gRight gs secs = true ∧ 1 ≤ t ∧ t ≤ 4294967295 ∧ nodeOk n p = true := by
  unfold ubOk at h
  simp only [Bool.and_eq_true, decide_eq_true_eq] at h
  exact h
/-- What is laid is read as it was, if it is right. -/
theorem ur_back {gs : List (Int × Int)} {secs t n : Int} {p : PtrD} (h : ubOk gs secs t n p = true) (op : p.Ok) : urD gs secs (ubL gs secs t n p) = if nRightB gs secs n p then (⟨t, n, p⟩, 0) else (ubZ, 3) := by
  obtain ⟨_, h1, h2, h3⟩ := ubOk_parts h
  obtain ⟨c1, c2⟩ := ub_cut (gs := gs) (secs := secs) (t := t) h3 op
  obtain ⟨r1, r2, r3⟩ := ubH_read (gs := gs) (secs := secs) h3 op h1 h2
  have hl := ubL_len (gs := gs) (secs := secs) (t := t) h3 op
  unfold urD
  rw [if_neg (by omega), if_neg (by omega), c1, c2, if_neg (fun h => h rfl), r1, r2, r3]
theorem zsum : sum4 (fsum (List.replicate 224 0)) = List.replicate 32 0 := by decide +kernel
theorem ur_zero (gs : List (Int × Int)) (secs : Int) : urD gs secs (List.replicate 256 0) = (ubZ, 3) := by
  have e1 : (List.replicate 256 (0 : UInt8)).take 224 = List.replicate 224 0 := by rw [List.take_replicate]; rfl
  have e2 : (List.replicate 256 (0 : UInt8)).drop 224 = List.replicate 32 0 := by rw [List.drop_replicate]
  have hg : urGood gs secs (List.replicate 224 0) = false := by
    unfold urGood
    have : ((List.replicate 224 (0 : UInt8)).take 8 == magicL) = false := by decide +kernel
    rw [this]
    rfl
  unfold urD
  rw [if_neg (by rw [List.length_replicate]; omega), if_neg (by rw [List.length_replicate]; omega), e1, e2, zsum, if_neg (fun h => h rfl), hg]
  rfl
section
variable {aw : List Bool} {secs : Nat} {s : List UInt8}
theorem secs_flat (hs : s.length = 256) : ((List.range 4).map (secAt s)).flatten = s := by
  unfold secAt
  simp only [List.range_succ, List.range_zero, List.nil_append, List.map_append, List.map_cons, List.map_nil, List.flatten_append, List.flatten_cons, List.flatten_nil, List.append_nil, Nat.zero_mul, List.drop_zero, Nat.one_mul]
  have h3 : (s.drop (3 * 64)).take 64 = s.drop 192 := List.take_of_length_le (by rw [List.length_drop]; omega)
  have h2 : (s.drop (2 * 64)).take 64 ++ s.drop 192 = s.drop 128 := by have := List.take_append_drop 64 (s.drop 128); rwa [List.drop_drop] at this
  have h1 : (s.drop 64).take 64 ++ s.drop 128 = s.drop 64 := by have := List.take_append_drop 64 (s.drop 64); rwa [List.drop_drop] at this
  have h0 : s.take 64 ++ s.drop 64 = s := List.take_append_drop 64 s
  rw [h3, List.append_assoc, List.append_assoc, h2, h1, h0]
end
end Go.Proofs.YtlpbbjjibnbooaaGreatDoor

namespace Go.Proofs.YtlpbbjjibnbooaaGreatDoor
set_option linter.unusedVariables false
set_option linter.unusedSimpArgs false
open Go.RowKit

theorem lsT_nil18 {D : DevD} {n : Nat} : lsT [] D n n = List.replicate n D := by
  unfold lsT bAt
  simp [List.map_const']
section
variable {gs : List (Int × Int)} {secs N : Nat} {aw : List Bool} {ds : List DevD}
end
end Go.Proofs.YtlpbbjjibnbooaaGreatDoor

namespace Go.Proofs.YtlpbbjjibnbooaaGreatDoor
set_option linter.unusedVariables false
set_option linter.unusedSimpArgs false
open Go.RowKit

def z64 : List UInt8 := List.replicate 64 0
/-- The sectors of s that were kept, on zero bytes. -/
def mixL (bv : Nat → Bool) (s : List UInt8) : List UInt8 := ((List.range 4).map fun i => if bv i then secAt s i else z64).flatten
def wholeB (bv : Nat → Bool) (s : List UInt8) : Bool := (List.range 4).all fun i => bv i || (secAt s i == z64)
def headX (gs : List (Int × Int)) (secs t n : Int) : List UInt8 := magicL ++ (layL t.toNat 8 ++ (sum4 (fsum (gbL gs secs)) ++ (layL n.toNat 8 ++ layL 1 8)))
theorem ptrL_zero : ptrL ptrZ = List.replicate 64 0 := by decide +kernel
theorem headX_len (gs : List (Int × Int)) (secs t n : Int) : (headX gs secs t n).length = 64 := by
  unfold headX
  simp only [List.length_append, layL_len, sum4_len]
  rfl
theorem ubH_zero (gs : List (Int × Int)) (secs t n : Int) : ubH gs secs t n ptrZ = headX gs secs t n ++ List.replicate 160 0 := by
  have hn : nodeL n ptrZ = layL n.toNat 8 ++ (layL 1 8 ++ (List.replicate 64 0 ++ List.replicate 48 0)) := by
    have h1 : (layL n.toNat 8 ++ (layL 1 8 ++ List.replicate 64 (0 : UInt8))).length = 80 := by simp [layL_len]
    unfold nodeL padL
    rw [if_pos (by decide), ptrL_zero, h1]
    simp only [List.append_assoc]
    rfl
  have hl : (magicL ++ layL t.toNat 8 ++ sum4 (fsum (gbL gs secs)) ++ (layL n.toNat 8 ++ (layL 1 8 ++ (List.replicate 64 (0 : UInt8) ++ List.replicate 48 0)))).length = 176 := by
    simp only [List.length_append, layL_len, sum4_len, List.length_replicate]
    rfl
  unfold ubH padL
  rw [if_pos (by decide), hn, hl]
  unfold headX
  simp only [List.append_assoc]
  rfl
theorem ubL_zero (gs : List (Int × Int)) (secs t n : Int) : ubL gs secs t n ptrZ = headX gs secs t n ++ (z64 ++ (z64 ++ (List.replicate 32 0 ++ sum4 (fsum (ubH gs secs t n ptrZ))))) := by
  unfold ubL
  obtain ⟨F, hF⟩ : ∃ F, fsum (ubH gs secs t n ptrZ) = F := ⟨_, rfl⟩
  rw [hF, ubH_zero]
  simp only [List.append_assoc]
  rfl
section
variable {X Y : List UInt8}
theorem secs_of (hX : X.length = 64) (hY : Y.length = 64) : secAt (X ++ (z64 ++ (z64 ++ Y))) 0 = X ∧ secAt (X ++ (z64 ++ (z64 ++ Y))) 1 = z64 ∧ secAt (X ++ (z64 ++ (z64 ++ Y))) 2 = z64 ∧ secAt (X ++ (z64 ++ (z64 ++ Y))) 3 = Y := by
  have hz : z64.length = 64 := by simp [z64]
  have d1 : (X ++ (z64 ++ (z64 ++ Y))).drop 64 = z64 ++ (z64 ++ Y) := by rw [← hX, List.drop_left]
  have d2 : (X ++ (z64 ++ (z64 ++ Y))).drop 128 = z64 ++ Y := by rw [show 128 = 64 + 64 from rfl, ← List.drop_drop, d1, ← hz, List.drop_left]
  have d3 : (X ++ (z64 ++ (z64 ++ Y))).drop 192 = Y := by rw [show 192 = 128 + 64 from rfl, ← List.drop_drop, d2, ← hz, List.drop_left]
  unfold secAt
  refine ⟨?_, ?_, ?_, ?_⟩
  · rw [Nat.zero_mul, List.drop_zero, List.take_append_of_le_length (by omega), List.take_of_length_le (by omega)]
  · rw [Nat.one_mul, d1, List.take_append_of_le_length (by omega), List.take_of_length_le (by omega)]
  · rw [show 2 * 64 = 128 from rfl, d2, List.take_append_of_le_length (by omega), List.take_of_length_le (by omega)]
  · rw [show 3 * 64 = 192 from rfl, d3, List.take_of_length_le (by omega)]
end
theorem mix_whole {bv : Nat → Bool} {s : List UInt8} (hs : s.length = 256) (h : wholeB bv s = true) : mixL bv s = s := by
  have : (List.range 4).map (fun i => if bv i then secAt s i else z64) = (List.range 4).map (secAt s) := List.map_congr_left fun i hi => by
    unfold wholeB at h
    rw [List.all_eq_true] at h
    have := h i hi
    cases hb : bv i with
    | true => rfl
    | false =>
      rw [hb, Bool.false_or, beq_iff_eq] at this
      rw [this]
      rfl
  unfold mixL
  rw [this, secs_flat hs]
theorem mix_torn {bv : Nat → Bool} {gs : List (Int × Int)} {secs t n : Int} (h : wholeB bv (ubL gs secs t n ptrZ) = false) : (urD gs secs (mixL bv (ubL gs secs t n ptrZ))).2 ≠ 0 := by
  obtain ⟨Y, hY⟩ : ∃ Y, List.replicate 32 0 ++ sum4 (fsum (ubH gs secs t n ptrZ)) = Y := ⟨_, rfl⟩
  have hYl : Y.length = 64 := by rw [← hY, List.length_append, sum4_len]; rfl
  have hXl := headX_len gs secs t n
  have hL := ubL_zero gs secs t n
  rw [hY] at hL
  obtain ⟨s0, s1, s2, s3⟩ := secs_of hXl hYl
  rw [← hL] at s0 s1 s2 s3
  have hz : z64.length = 64 := by simp [z64]
  have hm : mixL bv (ubL gs secs t n ptrZ) = (if bv 0 then headX gs secs t n else z64) ++ (z64 ++ (z64 ++ (if bv 3 then Y else z64))) := by
    unfold mixL
    simp only [List.range_succ, List.range_zero, List.nil_append, List.map_append, List.map_cons, List.map_nil, List.flatten_append, List.flatten_cons, List.flatten_nil, List.append_nil, s0, s1, s2, s3, ite_self, List.append_assoc]
  have hw : wholeB bv (ubL gs secs t n ptrZ) = ((bv 0 || (headX gs secs t n == z64)) && (bv 3 || (Y == z64))) := by
    unfold wholeB
    simp only [List.range_succ, List.range_zero, List.nil_append, List.all_append, List.all_cons, List.all_nil, Bool.and_true, s0, s1, s2, s3, beq_self_eq_true, Bool.or_true, Bool.true_and]
  rw [hw] at h
  rw [hm]
  have hmag : headX gs secs t n ≠ z64 := by
    intro e
    have h1 : (headX gs secs t n).take 8 = magicL := by
      unfold headX
      rw [List.take_append_of_le_length (by decide)]
      rfl
    rw [e] at h1
    exact absurd h1 (by decide)
  cases h0 : bv 0 with
  | false =>
    have htk : ∀ R : List UInt8, ((z64 ++ R).take 224).take 8 = List.replicate 8 0 := fun R => by
      rw [List.take_take, show min 8 224 = 8 from rfl, List.take_append_of_le_length (by omega)]
      rfl
    have hg : ∀ R : List UInt8, urGood gs secs ((z64 ++ R).take 224) = false := fun R => by
      unfold urGood
      rw [htk, show ((List.replicate 8 (0 : UInt8)) == magicL) = false by decide, Bool.false_and]
    have hu : ∀ R : List UInt8, (urD gs secs (z64 ++ R)).2 ≠ 0 := fun R => by
      unfold urD
      rw [hg]
      split
      · decide
      · split
        · decide
        · split
          · decide
          · rw [if_neg Bool.false_ne_true]
            decide
    rw [if_neg Bool.false_ne_true]
    exact hu _
  | true =>
    rw [h0, Bool.true_or, Bool.true_and, Bool.or_eq_false_iff] at h
    obtain ⟨h3, hYz⟩ := h
    rw [beq_eq_false_iff_ne] at hYz
    rw [h3]
    simp only [Bool.false_eq_true, if_false, if_true]
    have e1 : headX gs secs t n ++ (z64 ++ (z64 ++ z64)) = ubH gs secs t n ptrZ ++ List.replicate 32 0 := by
      rw [ubH_zero, List.append_assoc]
      rfl
    have hHl : (ubH gs secs t n ptrZ).length = 224 := by rw [ubH_zero, List.length_append, hXl, List.length_replicate]
    have e2 : (ubH gs secs t n ptrZ ++ List.replicate 32 0).take 224 = ubH gs secs t n ptrZ := by rw [← hHl, List.take_left]
    have e3 : (ubH gs secs t n ptrZ ++ List.replicate 32 0).drop 224 = List.replicate 32 0 := by rw [← hHl, List.drop_left]
    rw [e1]
    unfold urD
    rw [e2, e3, if_neg (by rw [List.length_append, hHl]; decide), if_neg (by rw [List.length_append, hHl]; decide), if_pos (by
      intro e
      apply hYz
      rw [← hY, ← e]
      rfl)]
    decide
end Go.Proofs.YtlpbbjjibnbooaaGreatDoor

namespace Go.Proofs.YtlpbbjjibnbooaaGreatDoor
set_option linter.unusedVariables false
set_option linter.unusedSimpArgs false
open Go.RowKit

/-- A device that is there and has no fuse. -/
def dv (m : List (List UInt8)) (c : Nat → List (List UInt8)) : DevD := ⟨m, c, false, -1⟩
def capD (c : Nat → List (List UInt8)) (base : Nat) (s : List UInt8) (k : Nat) : Nat → List (List UInt8) := fun j => if base ≤ j ∧ j < base + k then c j ++ [secAt s (j - base)] else c j
theorem dv_blank (n : Nat) : DevD.blank n 0 = dv (List.replicate n z64) fun _ => [] := rfl
theorem dv_wr {m : List (List UInt8)} {c : Nat → List (List UInt8)} {a : Nat} {s : List UInt8} (ha : a < m.length) (hs : s.length = 64) : (dv m c).wr (a : Int) s = dv m fun j => if j = a then c j ++ [s] else c j := by
  have hm : (dv m c).mayE (a : Int) = 0 := by
    unfold DevD.mayE dv
    dsimp only
    rw [if_neg (by simp), if_neg (by omega)]
  have hw : (dv m c).wrE (a : Int) s = 0 := by
    unfold DevD.wrE
    rw [hm, if_neg (by omega), if_neg (by omega)]
    rfl
  unfold DevD.wr
  rw [if_pos hw, Int.toNat_natCast]
  rfl
theorem secAt_len4 {s : List UInt8} (hs : s.length = 256) {i : Nat} (hi : i < 4) : (secAt s i).length = 64 := by
  unfold secAt
  rw [List.length_take, List.length_drop]
  omega
theorem capD_step (c : Nat → List (List UInt8)) (base : Nat) (s : List UInt8) (k : Nat) : (fun j => if j = base + k then capD c base s k j ++ [secAt s k] else capD c base s k j) = capD c base s (k + 1) := by
  funext j
  unfold capD
  by_cases h : j = base + k
  · subst h
    rw [if_pos rfl, if_neg (by omega), if_pos (by omega), show base + k - base = k by omega]
  · rw [if_neg h]
    by_cases h2 : base ≤ j ∧ j < base + k
    · rw [if_pos h2, if_pos (by omega)]
    · rw [if_neg h2, if_neg (by omega)]
section
variable {n base : Nat} {s : List UInt8} {m : List (List UInt8)} {c : Nat → List (List UInt8)}
theorem here_of {aw : List Bool} {ds : List DevD} {i : Nat} (ha : aw = List.replicate n false) (hd : ds[i]? = some (dv m c)) : hereD aw ds i = true := by
  unfold hereD
  rw [hd, ha]
  dsimp only
  by_cases hi : i < n
  · rw [List.getD_eq_getElem?_getD, List.getElem?_replicate_of_lt hi]
    rfl
  · rw [List.getD_eq_getElem?_getD, List.getElem?_eq_none (by rw [List.length_replicate]; omega)]
    rfl
theorem ubPut_one (hs : s.length = 256) (hb : base + 4 ≤ m.length) {ds : List DevD} {d : Nat} (hd : ds[d]? = some (dv m c)) : ∀ k, k ≤ 4 → ubPut (List.replicate n false) d base s ds k = ds.set d (dv m (capD c base s k))
  | 0, _ => by
    have : capD c base s 0 = c := by
      funext j
      unfold capD
      rw [if_neg (by omega)]
    rw [this]
    refine (List.ext_getElem? fun i => ?_).symm
    rw [List.getElem?_set]
    split
    · rename_i e
      subst e
      rw [if_pos (List.getElem?_eq_some_iff.1 hd).1]
      exact hd.symm
    · rfl
  | k + 1, h => by
    have hdl := (List.getElem?_eq_some_iff.1 hd).1
    have hg : (ds.set d (dv m (capD c base s k)))[d]? = some (dv m (capD c base s k)) := by rw [List.getElem?_set, if_pos rfl, if_pos hdl]
    rw [ubPut_step, ubPut_one hs hb hd k (by omega)]
    have hh := here_of (aw := List.replicate n false) rfl hg
    have h1 := (putD_yes (c := ubCol d base k) (t := secAt s k) (by unfold ubCol; dsimp only; rw [Int.toNat_natCast]; exact hh) (by unfold ubCol; dsimp only; rw [Int.toNat_natCast]; exact hg)).1
    rw [h1]
    unfold ubCol
    dsimp only
    rw [Int.toNat_natCast, dv_wr (by omega) (secAt_len4 hs (by omega)), capD_step, List.set_set]
theorem turn_rep (f : DevD → DevD) (D : DevD) : ∀ k, k ≤ n → ∀ i, i < n → (turnTo f (List.replicate n D) k)[i]? = some (if i < k then f D else D) := fun k _ i hi => by
  rw [turnTo_at, List.getElem?_replicate_of_lt hi]
  rfl
theorem turn_all (f : DevD → DevD) (D : DevD) : turnTo f (List.replicate n D) n = List.replicate n (f D) := by
  apply List.ext_getElem?
  intro i
  by_cases hi : i < n
  · rw [turn_rep f D n (Nat.le_refl _) i hi, if_pos hi, List.getElem?_replicate_of_lt hi]
  · rw [List.getElem?_eq_none (by rw [turnTo_len, List.length_replicate]; omega), List.getElem?_eq_none (by rw [List.length_replicate]; omega)]
theorem ubAll_turn (hs : s.length = 256) (hb : base + 4 ≤ m.length) : ∀ k, k ≤ n → ubAll (List.replicate n false) base s (List.replicate n (dv m c)) k = turnTo (fun _ => dv m (capD c base s 4)) (List.replicate n (dv m c)) k
  | 0, _ => by rw [turnTo_zero]; rfl
  | k + 1, h => by
    have hd := turn_rep (n := n) (fun _ => dv m (capD c base s 4)) (dv m c) k (by omega) k (by omega)
    rw [if_neg (by omega)] at hd
    rw [ubAll_step, ubAll_turn hs hb k (by omega), ubPut_one hs hb hd 4 (Nat.le_refl _)]
    exact (turnTo_step (f := fun _ => dv m (capD c base s 4)) (List.getElem?_replicate_of_lt (by omega))).symm
theorem ubAll_rep (hs : s.length = 256) (hb : base + 4 ≤ m.length) : ubAll (List.replicate n false) base s (List.replicate n (dv m c)) n = List.replicate n (dv m (capD c base s 4)) := by
  rw [ubAll_turn hs hb n (Nat.le_refl _), turn_all]
end
theorem dv_crash (m : List (List UInt8)) (c : Nat → List (List UInt8)) (keep : List Int) : (dv m c).crash keep = dv ((dv m c).crashMed keep m.length) fun _ => [] := rfl
theorem dv_rd (m : List (List UInt8)) {a : Nat} (ha : a < m.length) : (dv m fun _ => []).rdS (a : Int) = m.getD a [] := by
  unfold DevD.rdS
  rw [if_pos (by unfold DevD.mayE dv; dsimp only; rw [if_neg (by simp), if_neg (by omega)]), Int.toNat_natCast]
  rfl
def keepL (bv : Nat → Bool) : List Int := (List.range 4).map fun i => if bv i then 1 else 0
theorem rank_cap {m : List (List UInt8)} {s : List UInt8} {r i : Nat} (hr : r < 4) (hi : i < 4) : (dv m (capD (fun _ => []) (4 * r) s 4)).rank (4 * r + i) = i := by
  have h1 : (dv m (capD (fun _ => []) (4 * r) s 4)).rank (4 * r + i) = ((List.range (4 * r + i)).filter fun j => decide (4 * r ≤ j ∧ j < 4 * r + 4)).length := by
    unfold DevD.rank
    congr 1
    apply List.filter_congr
    intro j _
    show (!(capD (fun _ => []) (4 * r) s 4 j).isEmpty) = _
    unfold capD
    by_cases h : 4 * r ≤ j ∧ j < 4 * r + 4
    · rw [if_pos h, decide_eq_true h]
      rfl
    · rw [if_neg h, decide_eq_false h]
      rfl
  rw [h1]
  have : ∀ r, r < 4 → ∀ i, i < 4 → ((List.range (4 * r + i)).filter fun j => decide (4 * r ≤ j ∧ j < 4 * r + 4)).length = i := by decide
  exact this r hr i hi
theorem keep_pick (bv : Nat → Bool) {i : Nat} (hi : i < 4) (x s : List UInt8) : DevD.pick (keepL bv) i [x] s = if bv i then x else s := by
  have hk : (keepL bv)[i]? = some (if bv i then 1 else 0) := by
    unfold keepL
    rw [List.getElem?_map, List.getElem?_range hi]
    rfl
  unfold DevD.pick
  have v0 : DevD.vers 0 1 = 0 := by decide
  have v1 : DevD.vers 1 1 = 1 := by decide
  rw [hk]
  cases bv i with
  | false => simp [v0]
  | true => simp [v1]
/-- The medium behind: t's sectors flushed in slot a, those kept of another in slot b. -/
def med2 (secs a b : Nat) (s1 s2 : List UInt8) (bv : Nat → Bool) : List (List UInt8) :=
  (dv ((List.replicate secs z64).mapIdx fun k s => lastOr (capD (fun _ => []) (4 * a) s1 4 k) s) (capD (fun _ => []) (4 * b) s2 4)).crashMed (keepL bv) secs
section
variable {secs a b : Nat} {s1 s2 : List UInt8} {bv : Nat → Bool}
theorem med2_at (hs : 24 ≤ secs) (hb : b < 4) (hab : a ≠ b) {r i : Nat} (hr : r < 4) (hi : i < 4) : (med2 secs a b s1 s2 bv).getD (r * 4 + i) [] = if r = b then (if bv i then secAt s2 i else z64) else if r = a then secAt s1 i else z64 := by
  have hk : r * 4 + i < secs := by omega
  unfold med2 DevD.crashMed
  rw [List.getD_eq_getElem?_getD, List.getElem?_mapIdx]
  show Option.getD (Option.map _ ((List.replicate secs z64).mapIdx _)[r * 4 + i]?) [] = _
  rw [List.getElem?_mapIdx, List.getElem?_replicate_of_lt hk]
  simp only [Option.map_some, Option.getD_some]
  have hc1 : lastOr (capD (fun _ => []) (4 * a) s1 4 (r * 4 + i)) z64 = if r = a then secAt s1 i else z64 := by
    unfold capD
    by_cases h : r = a
    · rw [if_pos (by omega), if_pos h, show r * 4 + i - 4 * a = i by omega]
      rfl
    · rw [if_neg (by omega), if_neg h]
      rfl
  rw [hc1]
  have hcc : (dv ((List.replicate secs z64).mapIdx fun k s => lastOr (capD (fun _ => []) (4 * a) s1 4 k) s) (capD (fun _ => []) (4 * b) s2 4)).cac = capD (fun _ => []) (4 * b) s2 4 := rfl
  rw [hcc]
  by_cases h : r = b
  · subst h
    have hcap : capD (fun _ => []) (4 * r) s2 4 (r * 4 + i) = [secAt s2 i] := by
      unfold capD
      rw [if_pos (by omega), show r * 4 + i - 4 * r = i by omega]
      rfl
    rw [if_pos rfl, show r * 4 + i = 4 * r + i by omega, rank_cap hb hi, show 4 * r + i = r * 4 + i by omega, hcap, if_pos ⟨rfl, by omega⟩, keep_pick bv hi, if_neg (show ¬ r = a from fun e => hab e.symm)]
  · have hcap : capD (fun _ => []) (4 * b) s2 4 (r * 4 + i) = [] := by
      unfold capD
      rw [if_neg (by omega)]
    rw [if_neg h, hcap, if_neg (by simp)]
theorem med2_len : (med2 secs a b s1 s2 bv).length = secs := by simp [med2, DevD.crashMed, dv]
theorem slot_two (hs : 24 ≤ secs) (hb : b < 4) (hab : a ≠ b) (h1 : s1.length = 256) {n e r : Nat} (he : e < n) (hr : r < 4) : slotL (List.replicate n (dv (med2 secs a b s1 s2 bv) fun _ => [])) e (r * 4) 4 = if r = b then mixL bv s2 else if r = a then s1 else List.replicate 256 0 := by
  have hl : ∀ j, j < 4 → look (List.replicate n (dv (med2 secs a b s1 s2 bv) fun _ => [])) (ubCol e (r * 4) j) = if r = b then (if bv j then secAt s2 j else z64) else if r = a then secAt s1 j else z64 := fun j hj => by
    unfold look ubCol
    dsimp only
    rw [Int.toNat_natCast, List.getElem?_replicate_of_lt he]
    dsimp only
    rw [dv_rd _ (by rw [med2_len]; omega), med2_at hs hb hab hr hj]
  unfold slotL
  by_cases c1 : r = b
  · rw [if_pos c1]
    unfold mixL
    congr 1
    exact List.map_congr_left fun j hj => by rw [hl j (List.mem_range.1 hj), if_pos c1]
  · rw [if_neg c1]
    by_cases c2 : r = a
    · rw [if_pos c2, ← secs_flat h1]
      congr 1
      rw [secs_flat h1]
      exact List.map_congr_left fun j hj => by rw [hl j (List.mem_range.1 hj), if_neg c1, if_pos c2]
    · rw [if_neg c2]
      have : (List.range 4).map (fun j => look (List.replicate n (dv (med2 secs a b s1 s2 bv) fun _ => [])) (ubCol e (r * 4) j)) = (List.range 4).map fun _ => List.replicate 64 0 := List.map_congr_left fun j hj => by rw [hl j (List.mem_range.1 hj), if_neg c1, if_neg c2]; rfl
      rw [this]
      decide +kernel
end
end Go.Proofs.YtlpbbjjibnbooaaGreatDoor

namespace Go.Proofs.YtlpbbjjibnbooaaGreatDoor
set_option linter.unusedVariables false
set_option linter.unusedSimpArgs false
open Go.RowKit

theorem node7_ok : nodeOk 7 ptrZ = true := by decide +kernel
theorem node9_ok : nodeOk 9 ptrZ = true := by decide +kernel
theorem right7 (gs : List (Int × Int)) (secs : Int) : nRightB gs secs 7 ptrZ = true := by
  unfold nRightB
  rw [show noneB ptrZ = true by decide +kernel]
  rfl
theorem right9 (gs : List (Int × Int)) (secs : Int) : nRightB gs secs 9 ptrZ = true := by
  unfold nRightB
  rw [show noneB ptrZ = true by decide +kernel]
  rfl
section
variable {gs : List (Int × Int)} {secs n t : Nat} {bv : Nat → Bool}
theorem ub_ok7 (hr : gRight gs secs = true) (h1 : 1 ≤ t) (h2 : t ≤ 300) : ubOk gs secs (t : Int) 7 ptrZ = true := by
  unfold ubOk
  rw [hr, node7_ok, decide_eq_true (show (1 : Int) ≤ (t : Int) by omega), decide_eq_true (show (t : Int) ≤ 4294967295 by omega)]
  rfl
theorem ub_ok9 (hr : gRight gs secs = true) (h1 : 1 ≤ t) (h2 : t ≤ 300) : ubOk gs secs (t : Int) 9 ptrZ = true := by
  unfold ubOk
  rw [hr, node9_ok, decide_eq_true (show (1 : Int) ≤ (t : Int) by omega), decide_eq_true (show (t : Int) ≤ 4294967295 by omega)]
  rfl
def tornM (gs : List (Int × Int)) (secs t : Nat) : List (List UInt8) := (List.replicate secs z64).mapIdx fun k s => lastOr (capD (fun _ => []) (4 * (t % 4)) (ubL gs secs (t : Int) 7 ptrZ) 4 k) s
def torn1 (gs : List (Int × Int)) (secs t : Nat) : DevD := dv (List.replicate secs z64) (capD (fun _ => []) (4 * (t % 4)) (ubL gs secs (t : Int) 7 ptrZ) 4)
def torn2 (gs : List (Int × Int)) (secs t : Nat) : DevD := dv (tornM gs secs t) fun _ => []
def torn3 (gs : List (Int × Int)) (secs t : Nat) : DevD := dv (tornM gs secs t) (capD (fun _ => []) (4 * ((t + 1) % 4)) (ubL gs secs ((t + 1 : Nat) : Int) 9 ptrZ) 4)
def torn4 (gs : List (Int × Int)) (secs t : Nat) (bv : Nat → Bool) : DevD := dv (med2 secs (t % 4) ((t + 1) % 4) (ubL gs secs (t : Int) 7 ptrZ) (ubL gs secs ((t + 1 : Nat) : Int) 9 ptrZ) bv) fun _ => []
theorem tornM_len : (tornM gs secs t).length = secs := by simp [tornM]
theorem torn_one (hr : gRight gs secs = true) (hs : 24 ≤ secs) (h1 : 1 ≤ t) (h2 : t ≤ 200) : uwD gs secs (List.replicate n false) (t : Int) 7 ptrZ (List.replicate n (DevD.blank secs 0)) = List.replicate n (torn1 gs secs t) := by
  unfold uwD
  rw [if_pos (ub_ok7 hr h1 (by omega)), Int.toNat_natCast, List.length_replicate, dv_blank, Nat.mul_comm (t % 4) 4]
  exact ubAll_rep (ubL_len node7_ok ptrZ_ok) (by rw [List.length_replicate]; omega)
theorem torn_two : turnTo DevD.fl (List.replicate n (torn1 gs secs t)) n = List.replicate n (torn2 gs secs t) := turn_all _ _
theorem torn_three (hr : gRight gs secs = true) (hs : 24 ≤ secs) (h2 : t ≤ 200) : uwD gs secs (List.replicate n false) ((t + 1 : Nat) : Int) 9 ptrZ (List.replicate n (torn2 gs secs t)) = List.replicate n (torn3 gs secs t) := by
  unfold uwD
  rw [if_pos (ub_ok9 hr (by omega) (by omega)), Int.toNat_natCast, List.length_replicate, Nat.mul_comm ((t + 1) % 4) 4]
  exact ubAll_rep (ubL_len node9_ok ptrZ_ok) (by rw [tornM_len]; omega)
theorem torn_crash : (torn3 gs secs t).crash (keepL bv) = torn4 gs secs t bv := by
  unfold torn3 torn4
  rw [dv_crash, tornM_len]
  rfl
theorem torn_four : turnTo (fun d => d.crash (keepL bv)) (List.replicate n (torn3 gs secs t)) n = List.replicate n (torn4 gs secs t bv) := by
  rw [turn_all, torn_crash]
theorem torn_read (hr : gRight gs secs = true) (hs : 24 ≤ secs) (h1 : 1 ≤ t) (h2 : t ≤ 200) {e r : Nat} (he : e < n) (hr4 : r < 4) :
    uoD gs secs (List.replicate n false) (List.replicate n (torn4 gs secs t bv)) e r = if r = (t + 1) % 4 then urD gs secs (mixL bv (ubL gs secs ((t + 1 : Nat) : Int) 9 ptrZ)) else if r = t % 4 then (⟨(t : Int), 7, ptrZ⟩, 0) else (ubZ, 3) := by
  have hh : hereD (List.replicate n false) (List.replicate n (torn4 gs secs t bv)) e = true := here_of rfl (List.getElem?_replicate_of_lt he)
  unfold uoD
  rw [hh, if_pos rfl]
  unfold torn4
  rw [slot_two hs (by omega) (by omega) (ubL_len node7_ok ptrZ_ok) he hr4]
  by_cases c1 : r = (t + 1) % 4
  · rw [if_pos c1, if_pos c1]
  · rw [if_neg c1, if_neg c1]
    by_cases c2 : r = t % 4
    · rw [if_pos c2, if_pos c2, ur_back (ub_ok7 hr h1 (by omega)) ptrZ_ok, right7, if_pos rfl]
    · rw [if_neg c2, if_neg c2, ur_zero]
def tornU (gs : List (Int × Int)) (secs t : Nat) (bv : Nat → Bool) : UbD := if wholeB bv (ubL gs secs ((t + 1 : Nat) : Int) 9 ptrZ) then ⟨((t + 1 : Nat) : Int), 9, ptrZ⟩ else ⟨(t : Int), 7, ptrZ⟩
theorem torn_bestD (hr : gRight gs secs = true) (hs : 24 ≤ secs) (h1 : 1 ≤ t) (h2 : t ≤ 200) {e : Nat} (he : e < n) {b : UbD} (hb : b = ubZ ∨ b = tornU gs secs t bv) :
    bestD gs secs (List.replicate n false) (List.replicate n (torn4 gs secs t bv)) e b 4 = tornU gs secs t bv := by
  have hrd := fun r (h : r < 4) => torn_read (bv := bv) hr hs h1 h2 he h
  have f0 := hrd 0 (by omega)
  have f1 := hrd 1 (by omega)
  have f2 := hrd 2 (by omega)
  have f3 := hrd 3 (by omega)
  unfold bestD
  simp only [List.range_succ, List.range_zero, List.nil_append, List.foldl_append, List.foldl_cons, List.foldl_nil, f0, f1, f2, f3]
  have ht0 : ubZ.t = 0 := rfl
  unfold tornU at hb ⊢
  have htz : ¬ (0 : Int) < 0 := by omega
  cases hw : wholeB bv (ubL gs secs ((t + 1 : Nat) : Int) 9 ptrZ) with
  | true =>
    rw [hw] at hb
    rw [mix_whole (ubL_len node9_ok ptrZ_ok) hw, ur_back (ub_ok9 hr (by omega) (by omega)) ptrZ_ok, right9]
    simp only [if_true] at hb ⊢
    unfold bestStep
    have hc : (t % 4 = 0 ∧ (t + 1) % 4 = 1) ∨ (t % 4 = 1 ∧ (t + 1) % 4 = 2) ∨ (t % 4 = 2 ∧ (t + 1) % 4 = 3) ∨ (t % 4 = 3 ∧ (t + 1) % 4 = 0) := by omega
    rcases hb with rfl | rfl <;> rcases hc with ⟨c1, c2⟩ | ⟨c1, c2⟩ | ⟨c1, c2⟩ | ⟨c1, c2⟩ <;>
      simp [c1, c2, ubZ] <;> (repeat' split) <;> first | rfl | (exfalso; omega) | (simp_all; omega) | simp_all
  | false =>
    rw [hw] at hb
    have htn := mix_torn hw
    obtain ⟨X, hX⟩ : ∃ X, urD gs secs (mixL bv (ubL gs secs ((t + 1 : Nat) : Int) 9 ptrZ)) = X := ⟨_, rfl⟩
    rw [hX] at htn ⊢
    simp only [Bool.false_eq_true, if_false] at hb ⊢
    unfold bestStep
    have hc : (t % 4 = 0 ∧ (t + 1) % 4 = 1) ∨ (t % 4 = 1 ∧ (t + 1) % 4 = 2) ∨ (t % 4 = 2 ∧ (t + 1) % 4 = 3) ∨ (t % 4 = 3 ∧ (t + 1) % 4 = 0) := by omega
    rcases hb with rfl | rfl <;> rcases hc with ⟨c1, c2⟩ | ⟨c1, c2⟩ | ⟨c1, c2⟩ | ⟨c1, c2⟩ <;>
      simp [c1, c2, ubZ, htn] <;> (repeat' split) <;> first | rfl | (exfalso; omega) | (simp_all; omega) | simp_all
theorem torn_bestA (hr : gRight gs secs = true) (hs : 24 ≤ secs) (h1 : 1 ≤ t) (h2 : t ≤ 200) : ∀ k, k ≤ n → bestA gs secs (List.replicate n false) (List.replicate n (torn4 gs secs t bv)) k = if k = 0 then ubZ else tornU gs secs t bv
  | 0, _ => rfl
  | k + 1, h => by
    rw [bestA_step, torn_bestA hr hs h1 h2 k (by omega), if_neg (Nat.succ_ne_zero k)]
    by_cases c : k = 0
    · rw [if_pos c]
      exact torn_bestD hr hs h1 h2 (by omega) (.inl rfl)
    · rw [if_neg c]
      exact torn_bestD hr hs h1 h2 (by omega) (.inr rfl)
theorem torn_best (hr : gRight gs secs = true) (hs : 24 ≤ secs) (h1 : 1 ≤ t) (h2 : t ≤ 200) (hn : 0 < n) : bestR gs secs (List.replicate n false) (List.replicate n (torn4 gs secs t bv)) n = (tornU gs secs t bv, 0) := by
  unfold bestR
  rw [torn_bestA hr hs h1 h2 n (Nat.le_refl _), if_neg (show ¬ n = 0 by omega), if_neg]
  unfold tornU
  split
  · show ¬ ((t + 1 : Nat) : Int) = 0
    omega
  · show ¬ (t : Int) = 0
    omega
end
end Go.Proofs.YtlpbbjjibnbooaaGreatDoor

namespace Go.Proofs.YtlpbbjjibnbooaaGreatDoor
set_option linter.unusedVariables false
set_option linter.unusedSimpArgs false
open Go.RowKit

theorem build_nd9 (W : World) : (Instr.build 33 #[(0, .int .i64 9)]).run Tryz.prog W = .ok (.agg #[.int .i64 9, .int .i64 0, .int .i64 0, .int .i64 0, .int .i64 0, .bool false, .int .i64 0, .int .i64 0, .int .i64 0, .int .u64 0, .int .u64 0, .int .u64 0, .int .u64 0]) W := by kernel_rfl
theorem build_nd7 (W : World) : (Instr.build 33 #[(0, .int .i64 7)]).run Tryz.prog W = .ok (.agg #[.int .i64 7, .int .i64 0, .int .i64 0, .int .i64 0, .int .i64 0, .bool false, .int .i64 0, .int .i64 0, .int .i64 0, .int .u64 0, .int .u64 0, .int .u64 0, .int .u64 0]) W := by kernel_rfl
theorem build_ub2 (t n : Int) (W : World) : (Instr.build 35 #[(0, .int .i64 t), (1, .agg #[.int .i64 n, .int .i64 0, .int .i64 0, .int .i64 0, .int .i64 0, .bool false, .int .i64 0, .int .i64 0, .int .i64 0, .int .u64 0, .int .u64 0, .int .u64 0, .int .u64 0])]).run Tryz.prog W = .ok (.agg #[.int .i64 t, .int .i64 n, .int .i64 0, .int .i64 0, .int .i64 0, .int .i64 0, .bool false, .int .i64 0, .int .i64 0, .int .i64 0, .int .u64 0, .int .u64 0, .int .u64 0, .int .u64 0]) W := by kernel_rfl
def bitB (k : Nat) (i : Nat) : Bool := k / 2 ^ i % 2 == 1
theorem bit_and : ∀ q, q < 256 → bits .and .i64 ((q : Nat) : Int) 1 = ((q % 2 : Nat) : Int) := by decide +kernel
theorem bit_div (k i : Nat) : (k : Int) / 2 ^ i = ((k / 2 ^ i : Nat) : Int) := by simp
theorem whole_of {bv : Nat → Bool} {s : List UInt8} (h : ∀ j, j < 4 → (bv j || (secAt s j == z64)) = true) : wholeB bv s = true := by
  unfold wholeB
  rw [List.all_eq_true]
  exact fun j hj => h j (List.mem_range.1 hj)
theorem whole_no {bv : Nat → Bool} {s : List UInt8} {j : Nat} (hj : j < 4) (h : (bv j || (secAt s j == z64)) = false) : wholeB bv s = false := by
  unfold wholeB
  rw [List.all_eq_false]
  exact ⟨j, List.mem_range.2 hj, by rw [h]; decide⟩
set_option maxRecDepth 20000 in
set_option maxHeartbeats 2000000 in
theorem whole18_any (A : Option Addr) (m c : Nat) (gs : List (Int × Int)) (secs t kept : Nat) (hr : gRight gs secs = true) (h1 : 1 ≤ t) (h2 : t ≤ 300) (hk : kept < 256) (w : World) (hg : GeoAt w A m gs) :
    Calls Tryz.prog 22 #[.agg #[.slice A m c, .int .i64 secs], .int .i64 (t : Int), .int .u8 kept] w fun e w' => e = .returned (.bool (wholeB (bitB kept) (ubL gs secs (t : Int) 9 ptrZ))) ∧ Below w.heap.size w w' := by
  have hb9 := build_nd9
  have hb2 := build_ub2
  have hok := ub_ok9 (secs := secs) hr h1 h2
  obtain ⟨w2, hw2⟩ : ∃ z, w.alloc (.cells #[.slice A m c, .int .i64 secs] 24) = z := ⟨_, rfl⟩
  have B1 : Blk w2 w.heap.size 24 #[.slice A m c, .int .i64 secs] := by rw [← hw2]; exact Blk.new _ _ _
  have D2 : Below w.heap.size w w2 := by rw [← hw2]; exact keep_alloc (Below.refl _ _) _
  have hub := ubytes_any A m c gs secs (t : Int) 9 ptrZ w2 (hg.below D2 (Nat.le_refl _)) ptrZ_ok
  have hS : ubS gs secs (t : Int) 9 ptrZ = ubL gs secs (t : Int) 9 ptrZ := by unfold ubS; rw [if_pos hok]
  have hE : ubE gs secs (t : Int) 9 ptrZ = 0 := by unfold ubE; rw [if_pos hok]
  obtain ⟨s, hs⟩ : ∃ s, ubL gs secs (t : Int) 9 ptrZ = s := ⟨_, rfl⟩
  have hsl : s.length = 256 := by rw [← hs]; exact ubL_len node9_ok ptrZ_ok
  rw [hS, hE, hs] at hub
  rw [hs]
  have HUB : Hid (Calls Tryz.prog 9 #[.agg #[.slice A m c, .int .i64 secs], .agg #[.int .i64 (t : Int), .int .i64 9, .int .i64 0, .int .i64 0, .int .i64 0, .int .i64 0, .bool false, .int .i64 0, .int .i64 0, .int .i64 0, .int .u64 0, .int .u64 0, .int .u64 0, .int .u64 0]] w2 _) := Lib.hid hub
  have HD2 := Lib.hid D2
  have HW2 := Lib.hid hw2
  have HSL := Lib.hid hsl
  have g0 := B1.at_ (i := 0) (v := .slice A m c) rfl
  have g1 := B1.at_ (i := 1) (v := .int .i64 secs) rfl
  rw [← hw2] at g0 g1
  clear hok hw2 B1 D2 hub hS hE hs hsl hg
  go_enter Tryz.func22, Tryz.ntmps22
  go_wp2_with fail
  rw [HW2.out]
  refine HUB.out.mono ?_
  rintro e w3 ⟨rfl, hb3⟩
  have HB3 := Lib.hid (keep_below hb3 HD2.out)
  clear hb3 g0 g1
  go_wp2_with fail
  go_loopw [9, 10] (fun i _ wr => ∃ k : Nat, k ≤ 4 ∧ i = .int .i64 k ∧ (∀ j, j < k → (bitB kept j || (secAt s j == z64)) = true) ∧ Below w3.heap.size w3 wr) (fun i _ _ => 4 - (RowKit.intOf i).toNat)
  case atStart => exact ⟨0, by omega, rfl, fun j hj => absurd hj (Nat.not_lt_zero _), Below.refl _ _⟩
  case round =>
    obtain ⟨k, hk4, rfl, hall, hbr⟩ := hrel
    have HALL := Lib.hid hall
    have HBR := Lib.hid hbr
    clear hall hbr
    by_cases hlt : k < 4
    · have hd1 : decide (k < 4) = true := decide_eq_true hlt
      have HLT := Lib.hid hlt
      have hcut := fun W => sec_cut s W k (by have := HSL.out; omega) (64 * (k : Int)) (64 * (k : Int) + 64) (by omega) (by omega)
      obtain ⟨sk, hsk⟩ : ∃ sk, secAt s k = sk := ⟨_, rfl⟩
      rw [hsk] at hcut
      have HSK := Lib.hid hsk
      obtain ⟨q, hq⟩ : ∃ q, kept / 2 ^ k = q := ⟨_, rfl⟩
      have hql : q < 256 := by rw [← hq]; exact Nat.lt_of_le_of_lt (Nat.div_le_self _ _) hk
      have hba := bit_and q hql
      have hdv : (kept : Int) / 2 ^ k = (q : Int) := by rw [bit_div, hq]
      have HBB : Hid (bitB kept k = (q % 2 == 1)) := Lib.hid (by unfold bitB; rw [hq])
      clear hsk hk4 hq
      by_cases hv : q % 2 = 0
      · rw [hv] at hba
        have hbk : bitB kept k = false := by rw [HBB.out, hv]; rfl
        have HBK := Lib.hid hbk
        obtain ⟨w6, r6', k6, s6, d6⟩ := mk_bytes wr 64 (by decide)
        have r6 : (Instr.makeSlice 43 (.int .i64 64) (.int .i64 64)).run Tryz.prog wr = .ok (.slice (some ⟨wr.heap.size, 0, none⟩) 64 64) w6 := r6'
        have hcv : (convert 43 9 (.slice (some ⟨wr.heap.size, 0, none⟩) 64 64)).run Tryz.prog w6 = .ok (str z64) w6 := conv_bytes k6 64 64 (by simp)
        have HB6 := Lib.hid (keep_below d6 HBR.out)
        have HFB := Lib.hid (keep_below HB6.out HB3.out)
        clear hv r6' k6 s6 d6 hbk
        by_cases hz : sk = z64
        · have HZ := Lib.hid hz
          have hnb : (sk == z64) = true := by rw [hz]; simp
          have hnc : (sk != z64) = false := by rw [hz]; simp
          clear hz
          go_wp2_with fail
          go_roundw
          case rel => exact ⟨k + 1, HLT.out, by go_num, fun j hj => by
            by_cases e : j = k
            · subst e
              rw [HSK.out, HZ.out, beq_self_eq_true, Bool.or_true]
            · exact HALL.out j (by omega), HB6.out⟩
          case measure => have := HLT.out; simp [RowKit.intOf]; omega
        · have hnb : (sk == z64) = false := by simp [hz]
          have hnc : (sk != z64) = true := by simp [hz]
          have HNO : Hid (wholeB (bitB kept) s = false) := Lib.hid (whole_no HLT.out (by rw [HBK.out, HSK.out, Bool.false_or, beq_eq_false_iff_ne]; exact hz))
          clear hz
          go_wp2_with fail
          go_ret
          exact ⟨by rw [HNO.out]; rfl, HFB.out⟩
      · have hv1 : q % 2 = 1 := by omega
        rw [hv1] at hba
        have hbk : bitB kept k = true := by rw [HBB.out, hv1]; rfl
        have HBK := Lib.hid hbk
        clear hv hv1 hbk
        go_wp2_with fail
        go_roundw
        case rel => exact ⟨k + 1, HLT.out, by go_num, fun j hj => by
            by_cases e : j = k
            · subst e
              rw [HBK.out]
              rfl
            · exact HALL.out j (by omega), HBR.out⟩
        case measure => have := HLT.out; simp [RowKit.intOf]; omega
    · obtain rfl : k = 4 := by omega
      have hd1 : decide ((4 : Nat) < 4) = false := decide_eq_false (by omega)
      have HW := Lib.hid (whole_of HALL.out)
      have HFB := Lib.hid (keep_below HBR.out HB3.out)
      clear hlt hk4
      go_wp2_with fail
      go_ret
      exact ⟨by rw [HW.out]; rfl, HFB.out⟩
end Go.Proofs.YtlpbbjjibnbooaaGreatDoor
