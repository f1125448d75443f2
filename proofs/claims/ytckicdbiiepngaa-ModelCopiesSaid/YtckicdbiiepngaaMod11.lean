/-
  The document's example of layer 24.
-/
import Derived.Test.YtckicdbiiepngaaMod10
namespace Go.Proofs.Ytckicdbiiepngaa
set_option linter.unusedVariables false
set_option linter.unusedSimpArgs false
open Go.RowKit Go.Maps Go.Lib Go.Shelf

/-- A world, in blocks that are new since w0. -/
def ModS (w0 w : World) (b : Nat) (d : ModD) (N : Nat) : Prop := ∃ S, ModAt w S b d N ∧ (∀ i, S i → w0.heap.size ≤ i) ∧ Below w0.heap.size w0 w
section
variable {w0 w w' : World} {b : Nat} {d d' : ModD} {N N' : Nat}
theorem ModS.base (h : ModS w0 w b d N) : Below w0.heap.size w0 w := by
  obtain ⟨_, _, _, h⟩ := h
  exact h
theorem ModS.step (h : ModS w0 w b d N) (hs : ∀ S, ModAt w S b d N → ModAt w' (more S w w') b d' N' ∧ Only S w w') : ModS w0 w' b d' N' := by
  obtain ⟨S, h1, h2, h3⟩ := h
  obtain ⟨h4, h5⟩ := hs S h1
  exact ⟨_, h4, fun i hi => by
    rcases hi with hi | hi
    · exact h2 i hi
    · have := h3.size; omega, h3.trans (h5.below h3.size h2)⟩
theorem ModS.below (h : ModS w0 w b d N) (hb : Below w.heap.size w w') : ModS w0 w' b d N := by
  obtain ⟨S, h1, h2, h3⟩ := h
  exact ⟨S, h1.below hb, h2, keep_below hb h3⟩
end
theorem new_s {w0 w : World} (hb : Below w0.heap.size w0 w) : Calls Try.prog 9 #[] w fun e w' => ∃ b, e = .returned (.pointer (some ⟨b, 0, none⟩)) ∧ ModS w0 w' b ⟨emp, emp⟩ 0 :=
  (new_any w).mono fun e w' ⟨b, he, h1, h2⟩ => ⟨b, he, _, h1, fun i hi => Nat.le_trans hb.size hi.1, keep_below h2 hb⟩

/-- A contract of an act on a world whose blocks nobody names. -/
theorem calls_all {P : Program} {f : Nat} {args : Array Value} {w : World} {α : Type} {Q : α → Ending → World → Prop} {R : Ending → World → Prop} (a : α) (h : Calls P f args w (Q a)) (hr : ∀ e w', Q a e w' → R e w') : Calls P f args w R := h.mono hr

def exD : ModD := ⟨⟨.map [(.int .i64 3, .lit (.string [120]))], []⟩, emp⟩
theorem ex_wr : wrD ⟨emp, emp⟩ 3 0 [120] = exD := by kernel_rfl
theorem ex_has : has exD.now.live (.int .i64 3) = true := by kernel_rfl
theorem ex_txt : txt exD.now.live 3 = [120] := by kernel_rfl

set_option maxRecDepth 20000 in
theorem awake_any (w : World) : Calls Try.prog 8 #[] w fun e w' => e = .returned (.bool true) ∧ Below w.heap.size w w' := by
  go_enter Try.func8, Try.ntmps8
  go_wp2_with fail
  refine (new_s (Below.refl _ w)).mono ?_
  rintro e w1 ⟨b, rfl, h1⟩
  obtain ⟨S1, m1, l1, b1⟩ := h1
  have HM1 := Lib.hid m1
  have HB1 := Lib.hid b1
  have HL1 := Lib.hid l1
  clear m1 b1 l1
  go_wp2_with fail
  refine (write_any HM1.out (by omega) 3 0 [120] (by decide) (by omega) (by omega)).mono ?_
  rintro e w2 ⟨rfl, m2, o2⟩
  have hw : wrE 3 0 ([120] : List UInt8).length = 0 := rfl
  rw [hw]
  rw [ex_wr] at m2
  have HM2 := Lib.hid m2
  have HB2 := Lib.hid (HB1.out.trans (o2.below HB1.out.size HL1.out))
  have HL2 : Hid (∀ i, more S1 w1 w2 i → w.heap.size ≤ i) := Lib.hid fun i hi => by
    rcases hi with hi | hi
    · exact HL1.out i hi
    · have := HB1.out.size; omega
  clear m2 o2 hw
  go_wp2_with fail
  refine (keep_any HM2.out (by omega)).mono ?_
  rintro e w3 ⟨rfl, m3, o3⟩
  have HM3 := Lib.hid m3
  have HB3 := Lib.hid (HB2.out.trans (o3.below HB2.out.size HL2.out))
  have HL3 : Hid (∀ i, more (more S1 w1 w2) w2 w3 i → w.heap.size ≤ i) := Lib.hid fun i hi => by
    rcases hi with hi | hi
    · exact HL2.out i hi
    · have := HB2.out.size; omega
  clear m3 o3
  go_wp2_with fail
  refine (remove_any HM3.out 3).mono ?_
  rintro e w4 ⟨rfl, m4, o4⟩
  have hh : hasE (ModD.now ⟨exD.now, exD.now⟩).live 3 = 0 := by kernel_rfl
  rw [hh]
  have hk : (remD ⟨exD.now, exD.now⟩ 3).kept = exD.now := by kernel_rfl
  have HM4 := Lib.hid m4
  have HK := Lib.hid hk
  have HB4 := Lib.hid (HB3.out.trans (o4.below HB3.out.size HL3.out))
  have HL4 : Hid (∀ i, more (more (more S1 w1 w2) w2 w3) w3 w4 i → w.heap.size ≤ i) := Lib.hid fun i hi => by
    rcases hi with hi | hi
    · exact HL3.out i hi
    · have := HB3.out.size; omega
  clear m4 o4 hh hk
  go_wp2_with fail
  refine (back_any HM4.out (by omega)).mono ?_
  rintro e w5 ⟨rfl, m5, o5⟩
  rw [HK.out] at m5
  have HM5 := Lib.hid m5
  have HB5 := Lib.hid (HB4.out.trans (o5.below HB4.out.size HL4.out))
  clear m5 o5
  go_wp2_with fail
  refine (read_x HM5.out ex_has ex_txt).mono ?_
  rintro e w6 ⟨rfl, rfl⟩
  have hq : (binOp .eql 9 (str [120]) (.string ⟨#[120]⟩)).run Try.prog w5 = .ok (.bool true) w5 := by kernel_rfl
  go_wp2_with fail
  go_ret
  exact ⟨rfl, HB5.out⟩
end Go.Proofs.Ytckicdbiiepngaa
