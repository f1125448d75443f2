/-
  The walk of LePads.
-/
import Derived.Test.YtblmjaenoleaaaaLeLaws
namespace Go.Proofs.Ytblmjaenoleaaaa
open Go.RowKit
set_option linter.unusedVariables false

theorem ba_extract (m : List UInt8) (a b : Nat) : (ByteArray.mk m.toArray).extract a b = ⟨((m.take b).drop a).toArray⟩ := by
  apply ByteArray.ext
  rw [ByteArray.data_extract]
  simp [List.extract_eq_take_drop, List.drop_take]
theorem ba_toList (m : List UInt8) : (ByteArray.mk m.toArray).toList = m := by rw [ByteArray.toList_eq]
theorem allZ_rep (n : Nat) : allZ (List.replicate n 0) = true := by simp [allZ]

theorem padL_in (l : List UInt8) (kk : Nat) (h1 : 1 ≤ kk) (h2 : kk ≤ 4096) : padL l kk = l ++ List.replicate (padN l.length kk) 0 := by
  unfold padL; rw [if_pos (by omega)]; simp
theorem padL_mod (l : List UInt8) (kk : Nat) (h1 : 1 ≤ kk) : (l.length + padN l.length kk) % kk = 0 := (padTo_step l kk _ h1 (Nat.le_refl _)).2 rfl

theorem pads_any (l : List UInt8) (tt : Nat) (w : World) (ht : tt ≤ 65535) (hl : l.length ≤ 9223372036854775807) :
    Calls Try.prog 3 #[str l, .int .u16 tt] w fun e w' => e = .returned (.bool true) ∧ Below w.heap.size w w' := by
  by_cases hlong : 3000 < l.length
  · go_enter Try.func3, Try.ntmps3
    go_wp2_with fail
    refine (awake_any _).mono ?_
    rintro e w1 ⟨rfl, hb1⟩
    go_wp2_with fail
    refine (awake_any _).mono ?_
    rintro e w2 ⟨rfl, hb2⟩
    go_wp2_with fail
    go_ret
    exact ⟨rfl, hb1.trans (hb2.mono hb1.size)⟩
  · have hkk : tt % 4096 < 4096 := Nat.mod_lt _ (by omega)
    have hi : (tt : Int) % 4096 = (tt % 4096 : Nat) := by simp
    generalize tt % 4096 = k0 at *
    go_enter Try.func3, Try.ntmps3
    go_wp2_with fail
    refine (awake_any _).mono ?_
    rintro e w1 ⟨rfl, hb1⟩
    go_wp2_with fail
    refine (pad_any l (1 + (k0 : Int)) _ (by omega)).mono ?_
    rintro e w2 ⟨rfl, hb2⟩
    have hc2 := hb1.trans (hb2.mono hb1.size)
    clear hb1 hb2
    have e1 : padL l (1 + (k0 : Int)) = l ++ List.replicate (padN l.length (k0 + 1)) 0 := by
      have := padL_in l (k0 + 1) (by omega) (by omega)
      rw [show ((k0 + 1 : Nat) : Int) = 1 + (k0 : Int) from by omega] at this
      exact this
    have e2 := padL_mod l (k0 + 1) (by omega)
    have hN := padN_lt (len := l.length) (t := k0 + 1) (by omega)
    rw [e1]
    clear e1
    generalize hn : padN l.length (k0 + 1) = N at *
    have q1 : (((l ++ List.replicate N (0 : UInt8)).length : Int) % (1 + k0) == 0) = true := by
      have : ((l ++ List.replicate N (0 : UInt8)).length : Int) = (l.length + N : Nat) := by simp
      rw [this, show (1 + (k0 : Int)) = ((k0 + 1 : Nat) : Int) from by omega, ← Int.natCast_emod, e2]
      rfl
    have q2 : decide (((l ++ List.replicate N (0 : UInt8)).length : Int) < l.length + (1 + k0)) = true := by
      simp; omega
    have hlen : (l ++ List.replicate N (0 : UInt8)).length = l.length + N := by simp
    have hlenb : (l ++ List.replicate N (0 : UInt8)).length ≤ 8000 := by omega
    have q3 : ((ByteArray.mk (l ++ List.replicate N (0 : UInt8)).toArray).extract 0 l.length).toList = l := by
      rw [ba_extract, ba_toList]; simp
    have q4 : (ByteArray.mk (l ++ List.replicate N (0 : UInt8)).toArray).extract l.length (l ++ List.replicate N (0 : UInt8)).length = ⟨(List.replicate N (0 : UInt8)).toArray⟩ := by
      rw [ba_extract, List.take_length, List.drop_left]
    generalize hm : l ++ List.replicate N (0 : UInt8) = m at *
    have HM := Lib.hid hm
    have HN := Lib.hid hn
    have HL := Lib.hid hlen
    have hle : l.length ≤ m.length := by omega
    clear hm hn e2 hlen
    have Q4 := Lib.hid q4
    have hNb : (List.replicate N (0 : UInt8)).length ≤ 9223372036854775807 := by simp; omega
    clear q4
    go_wp2_with fail
    rw [Q4.out]
    refine (zeros_any (List.replicate N 0) _ hNb).mono ?_
    rintro e w3 ⟨rfl, rfl⟩
    rw [allZ_rep]
    go_wp2_with fail
    refine (pad_any m (1 + (k0 : Int)) _ (by omega)).mono ?_
    rintro e w4 ⟨rfl, hb4⟩
    have hc4 := hc2.trans (hb4.mono hc2.size)
    have e5 : padL m (1 + (k0 : Int)) = m := by
      have h1 := padL_in m (k0 + 1) (by omega) (by omega)
      rw [show ((k0 + 1 : Nat) : Int) = 1 + (k0 : Int) from by omega] at h1
      have h2 : padN m.length (k0 + 1) = 0 := by
        have h3 : m.length % (k0 + 1) = 0 := by
          rw [HL.out, ← HN.out]; exact padL_mod l (k0 + 1) (by omega)
        unfold padN; rw [h3]; simp
      rw [h1, h2]; simp
    rw [e5]
    clear e5 hc2 hb4
    go_wp2_with fail
    refine (pad_any l 1 _ (by omega)).mono ?_
    rintro e w5 ⟨rfl, hb5⟩
    have hc5 := hc4.trans (hb5.mono hc4.size)
    have e6 : padL l 1 = l := by
      have h1 := padL_in l 1 (by omega) (by omega)
      have h2 : padN l.length 1 = 0 := by unfold padN; exact Nat.mod_one _
      rw [h2] at h1
      simpa using h1
    rw [e6]
    clear e6
    go_wp2_with fail
    go_ret
    exact ⟨rfl, hc5⟩
end Go.Proofs.Ytblmjaenoleaaaa
