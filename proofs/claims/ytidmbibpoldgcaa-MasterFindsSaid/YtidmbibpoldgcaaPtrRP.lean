/-
  Plain words on what bytes are read as pointers.
-/
import Derived.Test.YtidmbibpoldgcaaPtrP
import Derived.Test.YtidmbibpoldgcaaLeR3
namespace Go.Proofs.Ytidmbibpoldgcaa
open Go.RowKit

theorem dropApp {a b : List UInt8} {k : Nat} (h : a.length = k) : (a ++ b).drop k = b := by rw [← h, List.drop_left]
theorem takeApp {a b : List UInt8} {k : Nat} (h : a.length = k) : (a ++ b).take k = a := by rw [← h, List.take_left]
theorem layL_cons (x n : Nat) : layL x (n + 1) = UInt8.ofNat x :: layL (x / 256) n := by
  simp [layL, List.range_succ_eq_map, Nat.div_div_eq_div_mul, Nat.pow_succ, Nat.mul_comm]
theorem layL_leNat : ∀ l : List UInt8, layL (leNat l) l.length = l
  | [] => rfl
  | x :: r => by
    have hx := x.toNat_lt
    rw [List.length_cons, layL_cons, leNat]
    have e1 : UInt8.ofNat (x.toNat + 256 * leNat r) = x := by
      apply UInt8.toNat_inj.1
      rw [UInt8.toNat_ofNat']; omega
    have e2 : (x.toNat + 256 * leNat r) / 256 = leNat r := by omega
    rw [e1, e2, layL_leNat r]

/-- The number of the n bytes from k on. -/
def subN (s : List UInt8) (k n : Nat) : Nat := leNat ((s.drop k).take n)
theorem subN_lt (s : List UInt8) (k n : Nat) : subN s k n < 256 ^ n :=
  Nat.lt_of_lt_of_le (leNat_lt _) (pow256_le (by rw [List.length_take]; omega))
theorem rdN_sub {s : List UInt8} {k n : Nat} (h : k + n ≤ s.length) : rdN s k n = subN s k n := by
  unfold rdN subN; rw [if_neg (by omega)]
theorem sub_lay (s : List UInt8) (k n : Nat) (h : k + n ≤ s.length) : layL (subN s k n) n = (s.drop k).take n := by
  have hl : ((s.drop k).take n).length = n := by rw [List.length_take, List.length_drop]; omega
  have := layL_leNat ((s.drop k).take n)
  rw [hl] at this
  exact this

def readP (s : List UInt8) : PtrD := ⟨subN s 0 4, subN s 4 4, subN s 8 4, subN s 12 4, decide (65536 ≤ subN s 16 4), (subN s 16 4 % 256 : Nat), (subN s 16 4 / 256 % 256 : Nat), subN s 20 4, subN s 24 8, subN s 32 8, subN s 40 8, subN s 48 8⟩
def readE (s : List UInt8) : Int := if s.length < 64 then 2 else if 64 < s.length then 3 else if 131071 < subN s 16 4 then 3 else if allZ (s.drop 56) then 0 else 3
def readV (s : List UInt8) : PtrD := if readE s = 0 then readP s else ptrZ

theorem readP_ok (s : List UInt8) : (readP s).Ok := by
  have h1 := subN_lt s 24 8
  have h2 := subN_lt s 32 8
  have h3 := subN_lt s 40 8
  have h4 := subN_lt s 48 8
  have h5 := subN_lt s 20 4
  unfold PtrD.Ok readP
  dsimp only
  omega
theorem ptrZ_Ok : ptrZ.Ok := by unfold PtrD.Ok ptrZ; decide
theorem readV_ok (s : List UInt8) : (readV s).Ok := by
  unfold readV; split
  · exact readP_ok s
  · exact ptrZ_Ok
theorem readP_lay (s : List UInt8) : layOk (readP s) = true := by
  have h0 := subN_lt s 0 4
  have h1 := subN_lt s 4 4
  have h2 := subN_lt s 8 4
  have h3 := subN_lt s 12 4
  have h5 := subN_lt s 20 4
  simp only [layOk, withinL, readP, List.all_cons, List.all_nil, Bool.and_true, Bool.and_eq_true, decide_eq_true_eq]
  omega
theorem readE_zero {s : List UInt8} (h : readE s = 0) : s.length = 64 ∧ subN s 16 4 ≤ 131071 ∧ allZ (s.drop 56) = true := by
  unfold readE at h
  split at h
  · cases h
  · split at h
    · cases h
    · split at h
      · cases h
      · split at h
        · rename_i h4; exact ⟨by omega, by omega, h4⟩
        · cases h
theorem allZ_eq {l : List UInt8} {n : Nat} (h : allZ l = true) (hl : l.length = n) : l = List.replicate n 0 := by
  rw [List.eq_replicate_iff]
  refine ⟨hl, fun x hx => ?_⟩
  simpa using List.all_eq_true.1 h x hx
theorem cutJoin (s : List UInt8) (k n : Nat) : (s.drop k).take n ++ s.drop (k + n) = s.drop k := by
  rw [← List.drop_drop, List.take_append_drop]

/-- What is read is what was laid. -/
theorem read_back {s : List UInt8} (h : readE s = 0) : ptrL (readP s) = s := by
  obtain ⟨hl, h1, hz⟩ := readE_zero h
  have ho : (ptrOne (readP s)).toNat = subN s 16 4 := by
    unfold ptrOne readP
    dsimp only
    by_cases h2 : 65536 ≤ subN s 16 4
    · rw [decide_eq_true h2, if_pos rfl]; omega
    · rw [decide_eq_false h2, if_neg (by simp)]; omega
  have hz' := allZ_eq hz (show (s.drop 56).length = 8 by rw [List.length_drop, hl])
  rw [ptrL_eq (readP_lay s), ho, ← hz']
  simp only [readP, Int.toNat_natCast]
  rw [sub_lay s 0 4 (by omega), sub_lay s 4 4 (by omega), sub_lay s 8 4 (by omega), sub_lay s 12 4 (by omega), sub_lay s 16 4 (by omega), sub_lay s 20 4 (by omega),
    sub_lay s 24 8 (by omega), sub_lay s 32 8 (by omega), sub_lay s 40 8 (by omega), sub_lay s 48 8 (by omega)]
  simp only [List.append_assoc]
  rw [cutJoin s 48 8, cutJoin s 40 8, cutJoin s 32 8, cutJoin s 24 8, cutJoin s 20 4, cutJoin s 16 4, cutJoin s 12 4, cutJoin s 8 4, cutJoin s 4 4, cutJoin s 0 4]
  rfl

theorem subN_of {s a b : List UInt8} {x k n : Nat} (hd : s.drop k = a ++ b) (ha : a = layL x n) (hx : x < 256 ^ n) : subN s k n = x := by
  subst ha
  unfold subN
  rw [hd, takeApp (layL_len x n), leNat_layL, Nat.mod_eq_of_lt hx]
theorem drop_step {s a b : List UInt8} {k n : Nat} (hd : s.drop k = a ++ b) (ha : a.length = n) : s.drop (k + n) = b := by
  rw [← List.drop_drop, hd, dropApp ha]
/-- What is laid is read as it was. -/
theorem lay_back {p : PtrD} (hp : layOk p = true) (op : p.Ok) : readE (ptrL p) = 0 ∧ readP (ptrL p) = p ∧ (ptrL p).length = 64 := by
  obtain ⟨⟨a1, a2⟩, ⟨b1, b2⟩, ⟨c1, c2⟩, ⟨d1, d2⟩, ⟨e1, e2⟩, ⟨f1, f2⟩, ⟨g1, g2⟩⟩ := layOk_bd hp
  obtain ⟨o1, o2⟩ := ptrOne_bd hp
  obtain ⟨p0, p1, p2, p3, _⟩ := op
  have hone : ptrOne p ≤ 131071 := by unfold ptrOne; split <;> omega
  have h := ptrL_eq hp
  simp only [List.append_assoc] at h
  have hlen : (ptrL p).length = 64 := by rw [h]; simp [layL_len]
  generalize ptrL p = s at *
  have k0 : s.drop 0 = _ := h
  have k1 := drop_step k0 (layL_len _ _)
  have k2 := drop_step k1 (layL_len _ _)
  have k3 := drop_step k2 (layL_len _ _)
  have k4 := drop_step k3 (layL_len _ _)
  have k5 := drop_step k4 (layL_len _ _)
  have k6 := drop_step k5 (layL_len _ _)
  have k7 := drop_step k6 (layL_len _ _)
  have k8 := drop_step k7 (layL_len _ _)
  have k9 := drop_step k8 (layL_len _ _)
  have k10 := drop_step k9 (layL_len _ _)
  have m0 := subN_of k0 rfl (by omega)
  have m1 := subN_of k1 rfl (by omega)
  have m2 := subN_of k2 rfl (by omega)
  have m3 := subN_of k3 rfl (by omega)
  have m4 := subN_of k4 rfl (by omega)
  have m5 := subN_of k5 rfl (by omega)
  have m6 := subN_of k6 rfl (by omega)
  have m7 := subN_of k7 rfl (by omega)
  have m8 := subN_of k8 rfl (by omega)
  have m9 := subN_of k9 rfl (by omega)
  simp only [Nat.zero_add, Nat.reduceAdd] at m0 m1 m2 m3 m4 m5 m6 m7 m8 m9 k10
  refine ⟨?_, ?_, hlen⟩
  · unfold readE
    rw [if_neg (by omega), if_neg (by omega), m4, if_neg (by omega), k10, if_pos (by decide)]
  · have t : decide (65536 ≤ (ptrOne p).toNat) = p.two ∧ (((ptrOne p).toNat % 256 : Nat) : Int) = p.size ∧ (((ptrOne p).toNat / 256 % 256 : Nat) : Int) = p.level := by
      clear k0 k1 k2 k3 k4 k5 k6 k7 k8 k9 k10 m0 m1 m2 m3 m4 m5 m6 m7 m8 m9 h
      unfold ptrOne
      cases ht : p.two with
      | true => rw [if_pos rfl]; exact ⟨by simp; omega, by omega, by omega⟩
      | false => rw [if_neg (by simp)]; exact ⟨by simp; omega, by omega, by omega⟩
    unfold readP
    rw [m0, m1, m2, m3, m4, m5, m6, m7, m8, m9, t.1, t.2.1, t.2.2, Int.toNat_of_nonneg a1, Int.toNat_of_nonneg b1, Int.toNat_of_nonneg c1, Int.toNat_of_nonneg d1, Int.toNat_of_nonneg e1]
end Go.Proofs.Ytidmbibpoldgcaa
