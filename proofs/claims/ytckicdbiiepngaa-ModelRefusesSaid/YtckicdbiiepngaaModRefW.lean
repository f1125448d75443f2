/-
  The walk of ModelRefuses.
-/
import Derived.Test.YtckicdbiiepngaaMod16
namespace Go.Proofs.Ytckicdbiiepngaa
set_option linter.unusedVariables false
set_option linter.unusedSimpArgs false
open Go.RowKit Go.Maps Go.Lib Go.Shelf

set_option maxRecDepth 20000 in
theorem modelRefuses_any (v : Value) (l : List MAct) (a : MAct) (w : World) (hv : MActs w v l) (ha : a.Ok) : Calls Try.prog 5 #[v, .agg a.cells] w fun e w' => e = .returned (.bool true) ∧ Below w.heap.size w w' := by
  have HARG := Lib.hid hv
  obtain ⟨A, c, rfl⟩ := hv.form
  have HOK := Lib.hid ha
  obtain ⟨dn, id, off, n, fill⟩ := a
  simp only [MAct.cells]
  clear hv ha
  go_enter Try.func5, Try.ntmps5
  go_wp2_with fail
  obtain ⟨w1, hw1⟩ : ∃ x, x = w.alloc (.cells #[.int .u8 dn, .int .i64 id, .int .i64 off, .int .i64 n, .int .u8 fill.toNat] 37) := ⟨_, rfl⟩
  have hb1 : Below w.heap.size w w1 := by rw [hw1]; exact keep_alloc (Below.refl _ _) _
  have hx1 : Blk w1 w.heap.size 37 #[.int .u8 dn, .int .i64 id, .int .i64 off, .int .i64 n, .int .u8 fill.toNat] := by rw [hw1]; exact Blk.new _ _ _
  have hs1 : w1.heap.size = w.heap.size + 1 := by rw [hw1]; simp
  rw [← hw1]
  have HB1 := Lib.hid hb1
  have HX1 := Lib.hid hx1
  have HS1 := Lib.hid hs1
  clear hw1 hb1 hx1 hs1
  refine (awake_any w1).mono ?_
  rintro e w2 ⟨rfl, hb2⟩
  have HB2 := Lib.hid hb2
  clear hb2
  by_cases h40 : 40 < l.length
  · have g1 : decide (40 < l.length) = true := decide_eq_true h40
    go_wp2_with fail
    refine (awake_any w2).mono ?_
    rintro e w3 ⟨rfl, hb3⟩
    have HB3 := Lib.hid (keep_below hb3 (keep_below HB2.out HB1.out))
    clear hb3
    go_wp2_with fail
    go_ret
    exact ⟨rfl, HB3.out⟩
  have g1 : decide (40 < l.length) = false := decide_eq_false h40
  go_wp2_with fail
  refine (new_l (Mods.nil (w0 := w1) HB2.out)).mono ?_
  rintro e w3 ⟨b, rfl, h3⟩
  have H3 := Lib.hid h3
  clear h3
  go_wp2_with fail
  go_loopw [6] (fun t wr => ∃ (k : Nat) (d : ModD), k ≤ l.length ∧ t = .int .i64 k ∧ Mods w1 wr [(b, d, k)]) (fun t _ => l.length - (intOf t).toNat)
  case atStart => exact ⟨0, _, Nat.zero_le _, rfl, H3.out⟩
  case round =>
    obtain ⟨k, d, hk, rfl, hm⟩ := hrel
    have HM := Lib.hid hm
    clear hm
    by_cases hlt : k < l.length
    · obtain ⟨gb, go, rfl⟩ := HARG.out.some (by omega)
      obtain ⟨x, hx⟩ : ∃ x, l[k]? = some x := ⟨_, List.getElem?_eq_getElem hlt⟩
      obtain ⟨a0, a1, a2, a3, a4, hok⟩ := HARG.out.get hx (HB1.out.trans (HM.out.base.mono HB1.out.size))
      have HDO := Lib.hid (do_l HM.out 0 rfl (by omega) x hok)
      obtain ⟨xd, xi, xo, xn, xf⟩ := x
      simp only at a0 a1 a2 a3 a4 HDO
      have hdc : decide (k < l.length) = true := decide_eq_true hlt
      have HLT := Lib.hid hlt
      clear hx hok hlt
      go_wp2_with fail
      refine HDO.out.mono ?_
      rintro e w4 ⟨er, d', rfl, hm', _⟩
      have HM' : Hid (Mods w1 w4 [(b, d', k + 1)]) := Lib.hid hm'
      clear hm' a0 a1 a2 a3 a4
      go_wp2_with fail
      go_roundw
      case rel => exact ⟨k + 1, d', HLT.out, by go_num, HM'.out⟩
      case measure => have := HLT.out; simp [intOf]; omega
    · obtain rfl : k = l.length := by omega
      have hdc : decide ((l.length : Int) < l.length) = false := decide_eq_false (by omega)
      go_wp2_with fail
      refine (copy_l HM.out 0 rfl (by omega)).mono ?_
      rintro e w4 ⟨u, rfl, hm4⟩
      have HM4 : Hid (Mods w1 w4 [(b, d, l.length), (u, d, l.length)]) := Lib.hid hm4
      have hx4 := HX1.out.below HM4.out.base HX1.out.lt
      have c0 := hx4.at_ (i := 0) rfl
      have c1 := hx4.at_ (i := 1) rfl
      have c2 := hx4.at_ (i := 2) rfl
      have c3 := hx4.at_ (i := 3) rfl
      have c4 := hx4.at_ (i := 4) rfl
      clear hm4 hx4
      have HD4 := Lib.hid (do_l HM4.out 0 rfl (by omega) ⟨dn, id, off, n, fill⟩ HOK.out)
      simp only at HD4
      go_wp2_with fail
      refine HD4.out.mono ?_
      rintro e w5 ⟨er, d', rfl, hm5, hkp, hno⟩
      have HM5 : Hid (Mods w1 w5 [(b, d', l.length + 1), (u, d, l.length)]) := Lib.hid hm5
      have HNO := Lib.hid hno
      clear hm5 hkp hno c0 c1 c2 c3 c4
      by_cases he : er = 0
      · subst he
        go_wp2_with fail
        go_ret
        exact ⟨rfl, keep_below (HM5.out.base.mono (Nat.le_refl _)) HB1.out⟩
      · have hee : (er == 0) = false := by rw [beq_eq_false_iff_ne]; exact he
        have hdd := HNO.out he
        subst hdd
        have HS := Lib.hid (same_any (HM5.out.at 0 rfl) (HM5.out.at 1 rfl))
        clear he
        go_wp2_with fail
        refine HS.out.mono ?_
        rintro e w6 ⟨rfl, hb6⟩
        have HB6 := Lib.hid (keep_below (keep_below hb6 HM5.out.base) HB1.out)
        clear hb6
        go_wp2_with fail
        go_ret
        exact ⟨rfl, HB6.out⟩
end Go.Proofs.Ytckicdbiiepngaa
