/-
  The walk of LeStays.
-/
import Derived.Test.YtblmjaenoleaaaaLeR
import Derived.Test.YtblmjaenoleaaaaLeLaws
namespace Go.Proofs.Ytblmjaenoleaaaa
open Go.RowKit
set_option linter.unusedVariables false

theorem RdAt.other {w w' : World} {b c p : Nat} {l : List UInt8} (h : RdAt w c l p) (hG : w.grownBy w' (some b)) (hne : c ≠ b) : RdAt w' c l p :=
  ⟨(hG.block c h.lt (fun e => hne (by injection e))).trans h.1, h.2⟩
theorem Below.only {w a a' : World} {b : Nat} (h : Below w.heap.size w a) (hG : a.grownBy a' (some b)) (hb : w.heap.size ≤ b) : Below w.heap.size w a' :=
  h.grown hG h.size (fun k e => by injection e with e; omega)

theorem stays_any (l : List UInt8) (n : Int) (w : World) (hn1 : -9223372036854775808 ≤ n) (hn : n ≤ 9223372036854775807) (hl : l.length ≤ 9223372036854775807) :
    Calls Try.prog 7 #[str l, .int .i64 n] w fun e w' => e = .returned (.bool true) ∧ Below w.heap.size w w' := by
  by_cases hlong : 3000 < l.length
  · go_enter Try.func7, Try.ntmps7
    go_wp2_with fail
    refine (awake_any _).mono ?_
    rintro e w1 ⟨rfl, hb1⟩
    go_wp2_with fail
    refine (awake_any _).mono ?_
    rintro e w2 ⟨rfl, hb2⟩
    go_wp2_with fail
    go_ret
    exact ⟨rfl, hb1.trans (hb2.mono hb1.size)⟩
  · go_enter Try.func7, Try.ntmps7
    go_wp2_with fail
    refine (awake_any _).mono ?_
    rintro e w1 ⟨rfl, hb1⟩
    go_wp2_with fail
    refine (new_any l _ (by omega)).mono ?_
    rintro e w2 ⟨rfl, hR, hb2⟩
    have hB1 := hb1.size
    have hc2 := hb1.trans (hb2.mono hb1.size)
    generalize w1.heap.size = B at *
    have HR := Lib.hid hR
    clear hR hb1 hb2
    go_wp2_with fail
    refine (take_any B 0 l n _ HR.out hn).mono ?_
    rintro e w3 ⟨rfl, hR3, hG3⟩
    have HR3 := Lib.hid hR3
    have hc3 := Below.only hc2 hG3 hB1
    clear hR3 hG3 hc2
    by_cases h0 : tkErr l 0 n = 0
    · have hp : Hid (tkPos l 0 n = n.toNat ∧ 0 ≤ n ∧ n ≤ l.length) := by
        unfold Hid tkPos
        rw [if_pos h0]
        unfold tkErr at h0
        split at h0
        · omega
        · split at h0
          · omega
          · exact ⟨by omega, by omega, by omega⟩
      rw [h0]
      have HR4 := HR3
      rw [hp.out.1] at HR4
      obtain ⟨_, hp1, hp2⟩ := hp.out
      go_wp2_with fail
      refine (left_any B _ l _ HR4.out).mono ?_
      rintro e w4 ⟨rfl, k, rfl⟩
      have e1 : ((l.length : Int) - max n 0 == l.length - n) = true := by rw [beq_iff_eq]; omega
      go_wp2_with fail
      go_ret
      refine ⟨ret_bool ?_, below_drewN hc3 _⟩
      first | rfl | exact e1
    · have hpos : tkPos l 0 n = 0 := by unfold tkPos; rw [if_neg h0]
      have h0' : (tkErr l 0 n == 0) = false := by simpa using h0
      rw [hpos] at HR3
      clear hpos h0
      go_wp2_with fail
      refine (new_any l _ (by omega)).mono ?_
      rintro e w4 ⟨rfl, hR4, hb4⟩
      have hB3 := hc3.size
      have hlt3 := HR3.out.lt
      have HR4 := Lib.hid hR4
      have HR3' := Lib.hid (HR3.out.keep hb4 hlt3)
      have hc4 := hc3.trans (hb4.mono hc3.size)
      generalize w3.heap.size = B2 at *
      clear hR4 hb4 HR3
      go_wp2_with fail
      refine (rdU64_any B 0 l _ HR3'.out).mono ?_
      rintro e w5 ⟨rfl, hR5, hG5⟩
      have HR5 := Lib.hid hR5
      have HR5' := Lib.hid (HR4.out.other hG5 (by omega))
      have hc5 := Below.only hc4 hG5 hB1
      clear hR5 hG5 hc4 HR3' HR4
      go_wp2_with fail
      refine (rdU64_any B2 0 l _ HR5'.out).mono ?_
      rintro e w6 ⟨rfl, hR6, hG6⟩
      have HR6 := Lib.hid hR6
      have HR6' := Lib.hid (HR5.out.other hG6 (by omega))
      have hc6 := Below.only hc5 hG6 hB3
      clear hR6 hG6 hc5 HR5 HR5'
      go_wp2_with fail
      refine (left_any B _ l _ HR6'.out).mono ?_
      rintro e w7 ⟨rfl, k, rfl⟩
      go_wp2_with fail
      refine (left_any B2 _ l _ (HR6.out.drewN k)).mono ?_
      rintro e w8 ⟨rfl, k2, rfl⟩
      go_wp2_with fail
      go_ret
      exact ⟨ret_bool (by simp), below_drewN hc6 _⟩
end Go.Proofs.Ytblmjaenoleaaaa
