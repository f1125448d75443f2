/-
  slices.Clone of groups; a row of truths; contracts of package vdev: New.
-/
import Derived.Test.YtbhkbcpljakmjaaGreatJ08
import Derived.Lib.SliceRun
namespace Go.Proofs.YtbhkbcpljakmjaaGreat
set_option linter.unusedVariables false
set_option linter.unusedSimpArgs false
open Go.RowKit
def grL (x : Int × Int) : List Value := [.int .i64 x.1, .int .i64 x.2]
def grC (gs : List (Int × Int)) : List Value := gs.flatMap grL
theorem grC_len (gs : List (Int × Int)) : (grC gs).length = gs.length * 2 := flat_len' grL 2 (fun _ => rfl) gs
theorem grC_one : ∀ (gs : List (Int × Int)), ∀ u ∈ grC gs, u.oneCell' = true := fun gs u hu => by
 simp only [grC, List.mem_flatMap] at hu
 obtain ⟨x, _, hx⟩ := hu
 simp only [grL, List.mem_cons, List.not_mem_nil, or_false] at hx
 rcases hx with rfl | rfl <;> rfl
theorem grC_at {w : World} {b off : Nat} {gs : List (Int × Int)} (h : GsAt w b off gs) {j : Nat} {u : Value} (hu : (grC gs)[j]? = some u) : w.cell? ⟨b, off + j, none⟩ = some u := by
 have hj := (List.getElem?_eq_some_iff.1 hu).1
 rw [grC_len] at hj
 obtain ⟨x, hx⟩ : ∃ x, gs[j / 2]? = some x := ⟨_, List.getElem?_eq_getElem (by omega)⟩
 obtain ⟨h1, h2⟩ := h.2 _ x hx
 have hr : j % 2 < 2 := Nat.mod_lt _ (by omega)
 have key := flat_at' grL 2 (fun _ => rfl) gs (j / 2) x hx (j % 2) hr
 rw [show j / 2 * 2 + j % 2 = j by omega] at key
 have hu' : (grL x)[j % 2]? = some u := key.symm.trans hu
 by_cases e : j % 2 = 0
 · rw [e] at hu'
   cases hu'
   rw [show off + j = off + j / 2 * 2 by omega]
   exact h1
 · have e1 : j % 2 = 1 := by omega
   rw [e1] at hu'
   cases hu'
   rw [show off + j = off + j / 2 * 2 + 1 by omega]
   exact h2
theorem geo_own {w : World} {base g cap : Nat} {t : TypeId} {gs : List (Int × Int)} (h : w.ownsRow base t 2 (.slice (some ⟨g, 0, none⟩) gs.length cap) gs.length (grC gs)) (hl : gs.length ≤ 1000) (hg : g < w.heap.size) : GeoAt w (some ⟨g, 0, none⟩) gs.length gs := by
 refine ⟨rfl, by omega, fun _ => ⟨g, 0, rfl, hg, fun i x hx => ?_⟩⟩
 have k0 := flat_at' grL 2 (fun _ => rfl) gs i x hx 0 (by omega)
 have k1 := flat_at' grL 2 (fun _ => rfl) gs i x hx 1 (by omega)
 have c0 := h.cells rfl (i * 2 + 0) _ k0
 have c1 := h.cells rfl (i * 2 + 1) _ k1
 rw [Addr.add_mid, Nat.zero_add] at c0 c1
 rw [Nat.zero_add]
 exact ⟨c0, c1⟩
theorem Tryz.infoGroup : (Tryz.prog.info? 53).map (fun i => (i.zero, i.size, i.bytes)) = some (some (.agg #[.int .i64 0, .int .i64 0]), 2, 16) := by kernel_rfl
theorem Tryz.infoBool : (Tryz.prog.info? 4).map (fun i => (i.zero, i.size, i.bytes)) = some (some (.bool false), 1, 1) := by kernel_rfl
set_option maxRecDepth 20000 in
theorem cloneG_any {w : World} {b off m c : Nat} {gs : List (Int × Int)} (h : GeoAt w (some ⟨b, off, none⟩) m gs) (h0 : 0 < m) (f1 : gs.length ≤ 1000) :
 Calls Tryz.prog 54 #[.slice (some ⟨b, off, none⟩) m c] w fun e w' => ∃ g cap, e = .returned (.slice (some ⟨g, 0, none⟩) m cap) ∧ GeoAt w' (some ⟨g, 0, none⟩) m gs ∧ w.heap.size ≤ g ∧ g < w'.heap.size ∧ Below w.heap.size w w' := by
 obtain ⟨i0, hi, hz0, hz1, hz2⟩ := info_parts Tryz.infoGroup
 obtain ⟨rfl, _, hg⟩ := h
 obtain ⟨b', off', e, hgs⟩ := hg h0
 cases e
 have H := Lib.hid hgs
 have hq : ∀ W, (binOp .eql 22 (.slice (some ⟨b, off, none⟩) gs.length c) (.slice none 0 0)).run Tryz.prog W = .ok (.bool false) W := fun W => Lib.run_eql_slice_nil W _ _ (some ⟨b, off, none⟩) _ _ _ _ Tryz.underlying22
 clear hgs hg
 go_enter Tryz.func54, Tryz.ntmps54
 have hown : (w.alloc (.cells #[] 53)).ownsRow w.heap.size 53 2 (.slice (some ⟨w.heap.size, 0, none⟩) 0 0) 0 [] :=
  ⟨rfl, .inr ⟨w.heap.size, 0, #[], rfl, Nat.le_refl _, heap_alloc_new w _, Nat.le_refl _, by unfold maxLen; omega, rfl, rfl⟩⟩
 have hnews : ∀ j u, (grC gs)[j]? = some u → (w.alloc (.cells #[] 53)).cell? ((⟨b, off, none⟩ : Addr).add j) = some u := fun j u hu => by
  rw [Addr.add_mid]
  exact cell_alloc (grC_at H.out hu) _
 go_wp2_with (at_builtin; refine wpList_append_own_at _ rfl _ _ 22 rfl w.heap.size 53 i0 _ 2 16 Tryz.underlying22 hi hz0 hz1 hz2 rfl (by decide) _ _ _ rfl hown ⟨b, off, none⟩ gs.length c (grC gs) rfl (grC_len gs) hnews (grC_one gs) (by unfold maxLen; omega) (by omega) (by simp) ?_)
 intro v' w8 hown' hgrow _ _
 have hown' : w8.ownsRow w.heap.size 53 2 v' gs.length (grC gs) := by simpa using hown'
 obtain ⟨g, cap, rfl, _, _⟩ := hown'.form (by omega)
 have HO := Lib.hid hown'
 have HB : Hid (Below w.heap.size w w8) := Lib.hid ((keep_alloc (Below.refl _ w) _).grown hgrow (by simp) (fun y e => by simp [Value.ownBlock] at e; omega))
 clear hown' hgrow hown hnews
 go_wp2_with fail
 go_ret
 have hl := HO.out.lt g rfl
 exact ⟨g, cap, rfl, geo_own HO.out f1 hl.2, hl.1, hl.2, HB.out⟩
theorem mk_bools (w : World) (n : Nat) (hn : n ≤ 16384) : ∃ w1, (Instr.makeSlice 32 (.int .i64 n) (.int .i64 n)).run Tryz.prog w = .ok (.slice (some ⟨w.heap.size, 0, none⟩) n n) w1 ∧
 Blk w1 w.heap.size 4 ((List.replicate n false).map Value.bool).toArray ∧ w1.heap.size = w.heap.size + 1 ∧ Below w.heap.size w w1 := by
 obtain ⟨i0, hi, hz0, hz1, hz2⟩ := info_parts Tryz.infoBool
 have hrun := run_makeSlice w 32 4 i0 (.bool false) Tryz.underlying32 hi hz0 .i64 .i64 n n (by omega) (Int.le_refl _) (by rw [hz1]; omega) (by rw [hz2]; omega) (by omega)
 have hc : madeCells (Value.bool false).cells ((n : Int).toNat * i0.size) = ((List.replicate n false).map Value.bool).toArray := by
  rw [hz1, Int.toNat_natCast, Nat.mul_one]
  apply Array.ext'
  have : (Value.bool false).cells = #[.bool false] := rfl
  rw [this, toList_madeCells_one]
  simp
 rw [hc, Int.toNat_natCast] at hrun
 exact ⟨_, hrun, Blk.new _ _ _, by simp, keep_alloc (Below.refl _ _) _⟩
end Go.Proofs.YtbhkbcpljakmjaaGreat
