/-
  The walk of ModelBack.
-/
import Derived.Test.YtckicdbiiepngaaMod16
namespace Go.Proofs.Ytckicdbiiepngaa
set_option linter.unusedVariables false
set_option linter.unusedSimpArgs false
open Go.RowKit Go.Maps Go.Lib Go.Shelf

set_option maxRecDepth 20000 in
theorem modelBack_any (v1 v2 : Value) (l r : List MAct) (w : World) (hv1 : MActs w v1 l) (hv2 : MActs w v2 r) : Calls Try.prog 4 #[v1, v2] w fun e w' => e = .returned (.bool true) ∧ Below w.heap.size w w' := by
  have HARG := Lib.hid hv1
  have HARG2 := Lib.hid hv2
  obtain ⟨A, c, rfl⟩ := hv1.form
  obtain ⟨A2, c2, rfl⟩ := hv2.form
  clear hv1 hv2
  go_enter Try.func4, Try.ntmps4
  go_wp2_with fail
  refine (awake_any w).mono ?_
  rintro e w2 ⟨rfl, hb2⟩
  have HB2 := Lib.hid hb2
  clear hb2
  by_cases h40 : 40 < l.length
  · have g1 : decide (40 < l.length) = true := decide_eq_true h40
    go_wp2_with fail
    refine (awake_any w2).mono ?_
    rintro e w3 ⟨rfl, hb3⟩
    have HB3 := Lib.hid (keep_below hb3 HB2.out)
    clear hb3
    go_wp2_with fail
    go_ret
    exact ⟨rfl, HB3.out⟩
  have g1 : decide (40 < l.length) = false := decide_eq_false h40
  by_cases h41 : 40 < r.length
  · have g2 : decide (40 < r.length) = true := decide_eq_true h41
    go_wp2_with fail
    refine (awake_any w2).mono ?_
    rintro e w3 ⟨rfl, hb3⟩
    have HB3 := Lib.hid (keep_below hb3 HB2.out)
    clear hb3
    go_wp2_with fail
    go_ret
    exact ⟨rfl, HB3.out⟩
  have g2 : decide (40 < r.length) = false := decide_eq_false h41
  go_wp2_with fail
  refine (new_l (Mods.nil (w0 := w) HB2.out)).mono ?_
  rintro e w3 ⟨b, rfl, h3⟩
  have H3 := Lib.hid h3
  clear h3
  go_wp2_with fail
  go_loopw [6] (fun t wr => ∃ (k : Nat) (d : ModD), k ≤ l.length ∧ t = .int .i64 k ∧ Mods w wr [(b, d, k)]) (fun t _ => l.length - (intOf t).toNat)
  case atStart => exact ⟨0, _, Nat.zero_le _, rfl, H3.out⟩
  case round =>
    obtain ⟨k, d, hk, rfl, hm⟩ := hrel
    have HM := Lib.hid hm
    clear hm
    by_cases hlt : k < l.length
    · obtain ⟨gb, go, rfl⟩ := HARG.out.some (by omega)
      obtain ⟨x, hx⟩ : ∃ x, l[k]? = some x := ⟨_, List.getElem?_eq_getElem hlt⟩
      obtain ⟨a0, a1, a2, a3, a4, hok⟩ := HARG.out.get hx HM.out.base
      have HDO := Lib.hid (do_l HM.out 0 rfl (by omega) x hok)
      obtain ⟨xd, xi, xo, xn, xf⟩ := x
      simp only at a0 a1 a2 a3 a4 HDO
      have hdc : decide (k < l.length) = true := decide_eq_true hlt
      have HLT := Lib.hid hlt
      clear hx hok hlt
      go_wp2_with fail
      refine HDO.out.mono ?_
      rintro e w4 ⟨er, d', rfl, hm', _⟩
      have HM' : Hid (Mods w w4 [(b, d', k + 1)]) := Lib.hid hm'
      clear hm' a0 a1 a2 a3 a4
      go_wp2_with fail
      go_roundw
      case rel => exact ⟨k + 1, d', HLT.out, by go_num, HM'.out⟩
      case measure => have := HLT.out; simp [intOf]; omega
    · obtain rfl : k = l.length := by omega
      have hdc : decide ((l.length : Int) < l.length) = false := decide_eq_false (by omega)
      go_wp2_with fail
      refine (keep_l HM.out 0 rfl (by omega)).mono ?_
      rintro e w4 ⟨rfl, hm4⟩
      obtain ⟨D, hD⟩ : ∃ D, D = d.now := ⟨_, rfl⟩
      rw [← hD] at hm4
      have HM4 : Hid (Mods w w4 [(b, ⟨D, D⟩, l.length)]) := Lib.hid hm4
      clear hm4 hD
      go_wp2_with fail
      refine (copy_l HM4.out 0 rfl (by omega)).mono ?_
      rintro e w5 ⟨v, rfl, hm5⟩
      have HM5 : Hid (Mods w w5 [(b, ⟨D, D⟩, l.length), (v, ⟨D, D⟩, l.length)]) := Lib.hid hm5
      clear hm5
      go_wp2_with fail
      go_loopw [8] (fun t wr => ∃ (j : Nat) (d : ModD), j ≤ r.length ∧ t = .int .i64 j ∧ d.kept = D ∧ Mods w wr [(b, d, l.length + j), (v, ⟨D, D⟩, l.length)]) (fun t _ => r.length - (intOf t).toNat)
      case atStart => exact ⟨0, _, Nat.zero_le _, rfl, rfl, HM5.out⟩
      case round =>
        obtain ⟨j, d, hj, rfl, hkp, hm⟩ := hrel
        have HM := Lib.hid hm
        have HKP := Lib.hid hkp
        clear hm hkp
        by_cases hlt : j < r.length
        · obtain ⟨gb, go, rfl⟩ := HARG2.out.some (by omega)
          obtain ⟨x, hx⟩ : ∃ x, r[j]? = some x := ⟨_, List.getElem?_eq_getElem hlt⟩
          obtain ⟨a0, a1, a2, a3, a4, hok⟩ := HARG2.out.get hx HM.out.base
          have HDO := Lib.hid (do_l HM.out 0 rfl (by omega) x hok)
          obtain ⟨xd, xi, xo, xn, xf⟩ := x
          simp only at a0 a1 a2 a3 a4 HDO
          have hdc : decide (j < r.length) = true := decide_eq_true hlt
          have HLT := Lib.hid hlt
          clear hx hok hlt
          go_wp2_with fail
          refine HDO.out.mono ?_
          rintro e w4 ⟨er, d', rfl, hm', hkp, _⟩
          have HM' : Hid (Mods w w4 [(b, d', l.length + j + 1), (v, ⟨D, D⟩, l.length)]) := Lib.hid hm'
          have HKP' : Hid (d'.kept = D) := Lib.hid (hkp.trans HKP.out)
          clear hm' hkp a0 a1 a2 a3 a4
          go_wp2_with fail
          go_roundw
          case rel => exact ⟨j + 1, d', HLT.out, by go_num, HKP'.out, HM'.out⟩
          case measure => have := HLT.out; simp [intOf]; omega
        · obtain rfl : j = r.length := by omega
          have hdc : decide ((r.length : Int) < r.length) = false := decide_eq_false (by omega)
          obtain ⟨M, hM⟩ : ∃ M, M = l.length + r.length := ⟨_, rfl⟩
          have hM2 : M ≤ 1000000 := by omega
          have HX : Hid (Mods w wr [(b, d, M), (v, ⟨D, D⟩, l.length)]) := Lib.hid (by rw [hM]; exact HM.out)
          clear hM HM
          go_wp2_with fail
          refine (copy_l HX.out 0 rfl hM2).mono ?_
          rintro e w6 ⟨u, rfl, hm6⟩
          have HM6 : Hid (Mods w w6 [(b, d, M), (v, ⟨D, D⟩, l.length), (u, d, M)]) := Lib.hid hm6
          clear hm6
          go_wp2_with fail
          refine (back_l HM6.out 0 rfl hM2).mono ?_
          rintro e w7 ⟨rfl, hm7⟩
          rw [HKP.out] at hm7
          have HM7 : Hid (Mods w w7 [(b, ⟨D, D⟩, M), (v, ⟨D, D⟩, l.length), (u, d, M)]) := Lib.hid hm7
          clear hm7
          go_wp2_with fail
          refine (back_l HM7.out 2 rfl hM2).mono ?_
          rintro e w8 ⟨rfl, hm8⟩
          rw [HKP.out] at hm8
          have HM8 : Hid (Mods w w8 [(b, ⟨D, D⟩, M), (v, ⟨D, D⟩, l.length), (u, ⟨D, D⟩, M)]) := Lib.hid hm8
          clear hm8
          go_wp2_with fail
          refine (keep_l HM8.out 0 rfl hM2).mono ?_
          rintro e w9 ⟨rfl, hm9⟩
          have HM9 : Hid (Mods w w9 [(b, ⟨D, D⟩, M), (v, ⟨D, D⟩, l.length), (u, ⟨D, D⟩, M)]) := Lib.hid hm9
          clear hm9
          go_wp2_with fail
          refine (same_any (HM9.out.at 0 rfl) (HM9.out.at 1 rfl)).mono ?_
          rintro e w10 ⟨rfl, hb10⟩
          have HM10 := Lib.hid (HM9.out.below hb10)
          clear hb10
          go_wp2_with fail
          refine (same_any (HM10.out.at 2 rfl) (HM10.out.at 1 rfl)).mono ?_
          rintro e w11 ⟨rfl, hb11⟩
          have HM11 := Lib.hid (HM10.out.below hb11)
          clear hb11
          go_wp2_with fail
          refine (back_l HM11.out 0 rfl hM2).mono ?_
          rintro e w12 ⟨rfl, hm12⟩
          have HM12 : Hid (Mods w w12 [(b, ⟨D, D⟩, M), (v, ⟨D, D⟩, l.length), (u, ⟨D, D⟩, M)]) := Lib.hid hm12
          clear hm12
          go_wp2_with fail
          refine (same_any (HM12.out.at 0 rfl) (HM12.out.at 1 rfl)).mono ?_
          rintro e w13 ⟨rfl, hb13⟩
          have HB13 := Lib.hid (HM12.out.below hb13).base
          clear hb13
          go_wp2_with fail
          go_ret
          exact ⟨rfl, HB13.out⟩
end Go.Proofs.Ytckicdbiiepngaa
