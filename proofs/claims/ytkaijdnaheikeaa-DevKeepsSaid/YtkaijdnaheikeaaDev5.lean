/-
  Contracts of package dev: Fresh, Flush, Spoil.
-/
import Derived.Test.YtkaijdnaheikeaaDev4
namespace Go.Proofs.Ytkaijdnaheikeaa
set_option linter.unusedVariables false
set_option linter.unusedSimpArgs false
open Go.RowKit

set_option maxRecDepth 20000 in
theorem fresh_any {w : World} {S : Nat → Prop} {bd : Nat} {d : DevD} (h : DevAt w S bd d) (b : UInt8) (ok : d.Ok) : Calls Try.prog 21 #[.pointer (some ⟨bd, 0, none⟩), .int .u8 b.toNat] w fun e w' =>
    e = .returned (.tuple #[]) ∧ DevAt w' (more S w w') bd (DevD.blank d.med.length b) ∧ Only S w w' := by
  have hlts := h.lts
  obtain ⟨mb, mcap, cb, g, h⟩ := h
  obtain ⟨c0, c1, c2, c3⟩ := h.cells
  have HB := Lib.hid fun W => blank_any d.med.length b W ok.few
  have HP := Lib.hid ok.pos
  have H := Lib.hid h
  have HL := Lib.hid hlts
  have hmm := @run_makeMap Try.prog
  clear ok h hlts
  go_enter Try.func21, Try.ntmps21
  go_wp2_with fail
  refine (HB.out _).mono ?_
  rintro e w1 ⟨v, rfl, hr, hb1⟩
  have hpos := HP.out
  obtain ⟨mb1, cap, rfl, _, _⟩ := hr.form (by omega)
  have hmb := hr.lt mb1 rfl
  have hb2 : Below w.heap.size w (w1.alloc (.map #[] 0)) := keep_alloc hb1 _
  have h0 := H.out.same hb1.size (fun i hi => hb1.block i (HL.out i hi))
  have h1 := H.out.same hb2.size (fun i hi => hb2.block i (HL.out i hi))
  have f0 : (w1.alloc (.map #[] 0)).frozen? ⟨bd, 0, none⟩ = false := h1.box.fr 0
  have f1 : (w1.alloc (.map #[] 0)).frozen? ⟨bd, 1, none⟩ = false := h1.box.fr 1
  have f2 : (w1.alloc (.map #[] 0)).frozen? ⟨bd, 2, none⟩ = false := h1.box.fr 2
  have f3 : (w1.alloc (.map #[] 0)).frozen? ⟨bd, 3, none⟩ = false := h1.box.fr 3
  obtain ⟨d0, d1, d2, d3⟩ := h1.cells
  have HR := Lib.hid hr
  have H1 := Lib.hid h1
  have HMB := Lib.hid hmb
  have HB1 := Lib.hid hb1
  have HB2 := Lib.hid hb2
  clear hr h1 hmb hb1 hb2 h0 c0 c1 c2 c3 hpos
  go_wp2_with fail
  go_end0
  have hne : ∀ o v i W, i ≠ bd → (World.setCell W ⟨bd, o, none⟩ v).heap[i]? = W.heap[i]? := fun o v i W hi => Below.heap_setCell W _ _ i hi
  have hs2 := HB2.out.size
  have hsc : ∀ W p v, (World.setCell W p v).heap.size = W.heap.size := fun W p v => by simp [World.setCell]
  have hbd := HL.out bd H.out.sd
  have hsz : (w1.alloc (.map #[] 0)).heap.size = w1.heap.size + 1 := by simp
  have hx := HMB.out
  have hs1 := HB1.out.size
  refine ⟨rfl, devIn_new (mb := mb1) (mcap := cap) (cb := w1.heap.size) HP.out ((((H1.out.box.put 0 _).put 1 _).put 2 _).put 3 _) ?_ ?_ (.inl H.out.sd) (.inr ⟨hx.1, ?_⟩) (.inr ⟨hs1, ?_⟩) (fun i hi => ?_),
    (((((Only.of_below HB2.out).set (.inl H.out.sd) _).set (.inl H.out.sd) _).set (.inl H.out.sd) _).set (.inl H.out.sd) _)⟩
  · refine ownsRow_zero (ownsRow_same (HR.out.alloc (.map #[] 0)) (fun b' e => ?_))
    have e : b' = mb1 := by cases e; rfl
    have hb : b' ≠ bd := by omega
    rw [hne _ _ _ _ hb, hne _ _ _ _ hb, hne _ _ _ _ hb, hne _ _ _ _ hb]
  · have hb : w1.heap.size ≠ bd := by omega
    refine (mapAt_made w1 Try.prog 3).same ?_
    rw [hne _ _ _ _ hb, hne _ _ _ _ hb, hne _ _ _ _ hb, hne _ _ _ _ hb]
  · rw [hsc, hsc, hsc, hsc]; omega
  · rw [hsc, hsc, hsc, hsc]; omega
  · rcases hi with hi | hi
    · have := HL.out i hi; rw [hsc, hsc, hsc, hsc]; omega
    · exact hi.2
theorem fresh_nil (b : UInt8) (w : World) : Calls Try.prog 21 #[.pointer none, .int .u8 b.toNat] w fun e w' => e = .returned (.tuple #[]) ∧ w = w' := by
  go_enter Try.func21, Try.ntmps21
  go_wp2_with fail
  go_end0
  exact ⟨rfl, rfl⟩
end Go.Proofs.Ytkaijdnaheikeaa
