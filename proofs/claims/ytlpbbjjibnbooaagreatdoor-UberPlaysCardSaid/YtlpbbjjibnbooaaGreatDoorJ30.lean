/-
  What is written is read: plain law of UberPlays; nodes compared.
-/
import Derived.Test.YtlpbbjjibnbooaaGreatDoorJ24
import Derived.Test.YtlpbbjjibnbooaaGreatDoorJ25
import Derived.Test.YtlpbbjjibnbooaaGreatDoorJ29
namespace Go.Proofs.YtlpbbjjibnbooaaGreatDoor
set_option linter.unusedVariables false
set_option linter.unusedSimpArgs false
open Go.RowKit

theorem neq_node18 (n m : Int) (p q : PtrD) (w : World) : (binOp .neq 33 (.agg #[.int .i64 n, .int .i64 p.ag, .int .i64 p.aa, .int .i64 p.bg, .int .i64 p.ba, .bool p.two, .int .i64 p.size, .int .i64 p.level, .int .i64 p.birth, .int .u64 p.s0, .int .u64 p.s1, .int .u64 p.s2, .int .u64 p.s3]) (.agg #[.int .i64 m, .int .i64 q.ag, .int .i64 q.aa, .int .i64 q.bg, .int .i64 q.ba, .bool q.two, .int .i64 q.size, .int .i64 q.level, .int .i64 q.birth, .int .u64 q.s0, .int .u64 q.s1, .int .u64 q.s2, .int .u64 q.s3])).run Tryz.prog w = .ok (.bool (!(n == m && ptrEq p q))) w := by
  rw [run_neq_struct, eqIn_node18 n m p q 9996]; rfl
theorem uw_out {gs : List (Int × Int)} {secs : Int} {aw : List Bool} {t n : Int} {p : PtrD} {ds : List DevD} (h : ubOk gs secs t n p = false) : uwN gs secs aw t n p ds = 0 ∧ uwE gs secs aw t n p ds = 1 := by
  unfold uwN uwE
  rw [if_neg (by rw [h]; simp), if_neg (by rw [h]; simp)]
  exact ⟨rfl, rfl⟩
theorem uw_in {gs : List (Int × Int)} {secs : Int} {aw : List Bool} {t n : Int} {p : PtrD} {ds : List DevD} {nd : Nat} (hl : ds.length = nd) (h : ubOk gs secs t n p = true) : uwN gs secs aw t n p ds = goneN aw ds nd ∧ uwE gs secs aw t n p ds = if goneN aw ds nd = nd then 6 else 0 := by
  unfold uwN uwE
  rw [if_pos h, if_pos h, hl]
  exact ⟨rfl, rfl⟩
theorem plays_out {gs : List (Int × Int)} {secs : Int} {aw : List Bool} {t n : Int} {p : PtrD} {ds : List DevD} {d j : Nat} (hh : hereD aw ds d = false) : uoD gs secs aw (uwD gs secs aw t n p ds) d j = (ubZ, 6) := by
  unfold uwD
  split
  · exact uoD_out (by rw [ubAll_here]; exact hh)
  · exact uoD_out hh
theorem plays_on {gs : List (Int × Int)} {sn nd : Nat} {al ll : List Bool} {t n : Int} {p : PtrD} {d j : Nat} (hs24 : 24 ≤ sn) (hs : sn ≤ 4096) (h1 : ubOk gs (sn : Int) t n p = true) (op : p.Ok) (hd : d < nd) (hj : j < 4) (hh : hereD (awT al nd nd) (lsT ll (DevD.blank sn 0) nd nd) d = true) :
    uoD gs (sn : Int) (awT al nd nd) (uwD gs (sn : Int) (awT al nd nd) t n p (lsT ll (DevD.blank sn 0) nd nd)) d j = if j = t.toNat % 4 then (if nRightB gs (sn : Int) n p then (⟨t, n, p⟩, 0) else (ubZ, 3)) else (ubZ, 3) := by
  have hlen := ubL_len (gs := gs) (secs := (sn : Int)) (t := t) (ubOk_parts h1).2.2.2 op
  have hll : (lsT ll (DevD.blank sn 0) nd nd).length = nd := lsT_len
  have hhe : hereD (awT al nd nd) (uwD gs (sn : Int) (awT al nd nd) t n p (lsT ll (DevD.blank sn 0) nd nd)) d = true := by
    unfold uwD
    rw [if_pos h1, ubAll_here]
    exact hh
  rw [uoD_in hhe]
  unfold uwD
  rw [if_pos h1, slot_wr hlen (by omega) (by omega) (by omega) (ubls_ok (by omega) hs) hh (by omega)]
  by_cases c : j = t.toNat % 4
  · rw [if_pos c, if_pos (by omega), ur_back h1 op]
  · rw [if_neg c, if_neg (by omega)]
    rw [ubls_here hd] at hh
    have hb : bAt ll d = false := by revert hh; cases bAt ll d <;> simp
    have hdd : (lsT ll (DevD.blank sn 0) nd nd)[d]? = (List.replicate nd (DevD.blank sn 0))[d]? := by
      rw [lsT_at hd, hb, Bool.and_false, if_neg Bool.false_ne_true, List.getElem?_replicate_of_lt hd]
    rw [slotL_congr hdd, slot_blank hd (by omega), ur_zero]
end Go.Proofs.YtlpbbjjibnbooaaGreatDoor
