/-
  The document's example (layer 10), walked.
  Bytes that are spoilt, one after the other: plain words; what is read after.
-/
import Derived.Test.YtbhkbcpljakmjaaGreatJ28
import Derived.Test.YtbhkbcpljakmjaaGreatJ16
namespace Go.Proofs.YtbhkbcpljakmjaaGreat
set_option linter.unusedVariables false
set_option linter.unusedSimpArgs false
open Go.RowKit
set_option maxRecDepth 20000 in
set_option maxHeartbeats 2000000 in
theorem awake10_any (w : World) : Calls Tryz.prog 8 #[] w fun e w' => e = .returned (.bool true) ∧ Below w.heap.size w w' := by
 obtain ⟨w1, hw1⟩ : ∃ z, w.alloc (.cells #[.int .i64 0, .int .i64 2] 53) = z := ⟨_, rfl⟩
 have hg : GeoAt w1 (some ⟨w.heap.size, 0, none⟩) 1 [(0, 2)] := by rw [← hw1]; exact geo_ex w
 have hb1 : Below w.heap.size w w1 := by rw [← hw1]; exact keep_alloc (Below.refl _ _) _
 have HN := Lib.hid (vnew_any (c := 1) (secs := 24) hg (by decide) 0 (n := 2) (by decide))
 have HB1 := Lib.hid hb1
 have HW1 := Lib.hid hw1
 clear hg hb1 hw1
 go_enter Tryz.func8, Tryz.ntmps8
 go_wp2_with fail
 rw [HW1.out]
 refine HN.out.mono ?_
 rintro e w3 ⟨y, S, rfl, hys, hysec, hyn, hV, q1, q2, q3, hb3⟩
 obtain ⟨w4, hw4⟩ : ∃ z, w3.alloc (.cells y.cells 37) = z := ⟨_, rfl⟩
 have hX4 : Blk w4 w3.heap.size 37 y.cells := by rw [← hw4]; exact Blk.new _ _ _
 have hb4 : Below w3.heap.size w3 w4 := by rw [← hw4]; exact keep_alloc (Below.refl _ _) _
 obtain ⟨U1, hU1⟩ : ∃ U1, U1 = more (fun b => b < w1.heap.size ∨ b = y.gb ∨ b = y.lb ∨ b = y.ab) w3 w4 := ⟨_, rfl⟩
 have hV4 : VdIn w4 S U1 y [false, false] (List.replicate 2 (DevD.blank 24 0)) := by rw [hU1]; exact hV.more hb4
 have hu : U1 w3.heap.size ∧ ∀ b, b < w1.heap.size → U1 b := by rw [hU1]; exact ⟨.inr ⟨Nat.le_refl _, hX4.lt⟩, fun b hb => .inl (.inl hb)⟩
 obtain ⟨w6, r6', k6, s6, d6⟩ := mk_bytes w4 64 (by decide)
 have r6 : (Instr.makeSlice 79 (.int .i64 64) (.int .i64 64)).run Tryz.prog w4 = .ok (.slice (some ⟨w4.heap.size, 0, none⟩) 64 64) w6 := r6'
 have hcv : (convert 79 9 (.slice (some ⟨w4.heap.size, 0, none⟩) 64 64)).run Tryz.prog w6 = .ok (str zs10) w6 := conv_bytes k6 64 64 (by simp)
 have hV6 := hV4.below d6
 have hX6 := hX4.below d6 hX4.lt
 have hok : DsOk 0 y.secs (List.replicate 2 (DevD.blank 24 0)) := by rw [hysec]; exact blanks_ok (by decide) (by decide)
 have hwr := vwrite_any hV6 hok (by decide) (by omega) 0 0 zs10 (by decide)
 rw [hys, hysec, hyn, ex10.1] at hwr
 have x0 := hX6.at_ (i := 0) (v := .slice (some ⟨y.gb, 0, none⟩) y.m y.cc) rfl
 have x1 := hX6.at_ (i := 1) (v := .int .i64 y.secs) rfl
 have x2 := hX6.at_ (i := 2) (v := .slice (some ⟨y.lb, 0, none⟩) y.bd.length y.lc) rfl
 have x3 := hX6.at_ (i := 3) (v := .slice (some ⟨y.ab, 0, none⟩) y.bd.length y.bd.length) rfl
 have x2' := hX4.at_ (i := 2) (v := .slice (some ⟨y.lb, 0, none⟩) y.bd.length y.lc) rfl
 have hc : ((y.bd.length : Int) != 2) = false := by rw [hyn]; rfl
 have hs4 : w4.heap.size = w3.heap.size + 1 := by rw [← hw4]; simp
 rw [hs4] at r6 hcv
 rw [← hw4] at x2' r6
 have HWR := Lib.hid hwr
 have HW4 := Lib.hid hw4
 have HV4 := Lib.hid (And.intro hV4 (And.intro hu (And.intro hV6 hX6)))
 have HY := Lib.hid (And.intro hys (And.intro hysec hyn))
 have HB := Lib.hid (And.intro hok (And.intro hb3 (And.intro hb4 d6)))
 clear hs4 hys hysec hyn hV q1 q2 q3 hb3 hw4 hX4 hb4 hU1 hV4 hu r6' k6 s6 d6 hV6 hX6 hok hwr HN
 obtain ⟨zs, hzs⟩ : ∃ zs, zs10 = zs := ⟨_, rfl⟩
 rw [hzs] at HWR hcv
 have HZS := Lib.hid hzs
 clear hzs
 go_wp2_with fail
 refine HWR.out.mono ?_
 rintro e w7 ⟨rfl, ⟨S7, hV7⟩, hst7⟩
 clear r6 hcv x2' x0 x1 x2 x3 HWR
 have hX7 : Blk w7 w3.heap.size 37 y.cells := (hst7.heap HV4.out.2.1.1 HV4.out.2.2.2.lt).trans HV4.out.2.2.2
 obtain ⟨b, hb⟩ : ∃ b, y.bd[0]? = some b := ⟨_, List.getElem?_eq_getElem (by rw [HY.out.2.2]; decide)⟩
 have hok7 := wD_ok (gs := [(0, 2)]) (secs := ((24 : Nat) : Int)) (aw := [false, false]) (s := zs) (pg := 0) (pa := 0) HB.out.1
 have hsp := vspoil_any hV7 hok7 (by decide) hb 16 3 (by decide) 9
 have hrow := hV7.row 0 b hb
 have x2 := hX7.at_ (i := 2) (v := .slice (some ⟨y.lb, 0, none⟩) y.bd.length y.lc) rfl
 have hn0 : 0 < y.bd.length := by rw [HY.out.2.2]; decide
 have HSP := Lib.hid hsp
 have HV7 := Lib.hid (And.intro hst7 (And.intro hX7 (And.intro hok7 hV7.us)))
 clear hV7 hst7 hX7 hok7 hsp hb hc
 go_wp2_with fail
 refine HSP.out.mono ?_
 rintro e w8 ⟨⟨r, rfl⟩, hV8, hst8⟩
 have hX8 : Blk w8 w3.heap.size 37 y.cells := (hst8.heap HV4.out.2.1.1 HV7.out.2.1.lt).trans HV7.out.2.1
 have hds : spoilAt (wD [(0, 2)] ((24 : Nat) : Int) 0 0 zs [false, false] (List.replicate 2 (DevD.blank 24 0))) 0 16 3 9 = ds10 := by rw [← HZS.out]; rfl
 rw [hds] at hV8
 have hok8 : DsOk 64 y.secs ds10 := by rw [← hds]; exact spoilAt_ok HV7.out.2.2.1 _ _ _ _
 have hrd := fun (U' : Nat → Prop) (W : World) (hW : VdIn W S7 U' y [false, false] ds10) => read10_any hW (by have := HY.out.2.2; omega) hok8 (by decide) q10
 obtain ⟨e0, e1, e2, e3, e4, e5⟩ := ex10
 obtain ⟨cc, ce, hcc⟩ : ∃ cc ce, lookV [(0, 2)] ((24 : Nat) : Int) q10 (rawP [(0, 2)] ((24 : Nat) : Int) q10.size [false, false] ds10) = (cc, ce) := ⟨_, _, rfl⟩
 rw [hcc] at e1 e2 e3 e4
 obtain ⟨ct, cp, cd, cf⟩ := cc
 dsimp only at e1 e2 e3 e4
 subst e1 e2 e3 e4
 rw [HY.out.1, HY.out.2.1, hcc, e5] at hrd
 obtain ⟨S0, hS0⟩ : ∃ S0 : World → Prop, S0 = fun W => W.heap[w3.heap.size]? = w8.heap[w3.heap.size]? := ⟨_, rfl⟩
 have f0 : ∀ W, S0 W → W.cell? ⟨w3.heap.size, 0, none⟩ = some (.slice (some ⟨y.gb, 0, none⟩) y.m y.cc) := fun W h => by rw [hS0] at h; exact (cell_same' h).trans (hX8.at_ rfl)
 have f1 : ∀ W, S0 W → W.cell? ⟨w3.heap.size, 1, none⟩ = some (.int .i64 y.secs) := fun W h => by rw [hS0] at h; exact (cell_same' h).trans (hX8.at_ rfl)
 have f2 : ∀ W, S0 W → W.cell? ⟨w3.heap.size, 2, none⟩ = some (.slice (some ⟨y.lb, 0, none⟩) y.bd.length y.lc) := fun W h => by rw [hS0] at h; exact (cell_same' h).trans (hX8.at_ rfl)
 have f3 : ∀ W, S0 W → W.cell? ⟨w3.heap.size, 3, none⟩ = some (.slice (some ⟨y.ab, 0, none⟩) y.bd.length y.bd.length) := fun W h => by rw [hS0] at h; exact (cell_same' h).trans (hX8.at_ rfl)
 have hSw : S0 w8.drew := by rw [hS0]; rfl
 have HS0 := Lib.hid hS0
 have HV8 := Lib.hid (And.intro hV8 (And.intro hst8 hX8))
 have HSM := Lib.hid (fun W => fsum_any zs (by rw [← HZS.out]; decide) W)
 have hq10 : #[.int .i64 q10.ag, .int .i64 q10.aa, .int .i64 q10.bg, .int .i64 q10.ba, .bool q10.two, .int .i64 q10.size, .int .i64 q10.level, .int .i64 q10.birth, .int .u64 q10.s0, .int .u64 q10.s1, .int .u64 q10.s2, .int .u64 q10.s3] = (#[.int .i64 0, .int .i64 0, .int .i64 0, .int .i64 0, .bool false, .int .i64 1, .int .i64 0, .int .i64 1, .int .u64 (fsum zs).1, .int .u64 (fsum zs).2.1, .int .u64 (fsum zs).2.2.1, .int .u64 (fsum zs).2.2.2] : Array Value) := by rw [← HZS.out]; rfl
 rw [hq10] at hrd
 obtain ⟨Q, hQ⟩ : ∃ Q, q10 = Q := ⟨_, rfl⟩
 obtain ⟨D, hD⟩ : ∃ D, ds10 = D := ⟨_, rfl⟩
 have hzz := HZS.out
 rw [hQ, hD, hzz] at hrd
 rw [hD] at HV8
 dsimp only [CameD.cells] at hrd
 obtain ⟨F, hF⟩ : ∃ F, fsum zs = F := ⟨_, rfl⟩
 simp only [hF] at HSM hrd
 have HRD := Lib.hid hrd
 clear hQ hD hzz
 clear hV8 hst8 hX8 hds hok8 hrd e0 e5 hcc hS0 hq10 hF hrow x2 hn0 HSP HZS
 go_wp2_with fail
 refine Pl.wp_region_plan S0 [2, 4, 8, 9] (Pl.Plan.seg 0 2 (.two 2 (Pl.Plan.seg 3 1 (.two 4 (Pl.Plan.seg 5 3 (.op 8 (.op 9 (Pl.Plan.seg 10 1 .done)))) 8 (.op 4 (Pl.Plan.seg 5 3 (.op 9 (Pl.Plan.seg 10 1 .done)))))) 8 (.op 2 (Pl.Plan.seg 3 1 (.op 4 (Pl.Plan.seg 5 3 (.op 9 (Pl.Plan.seg 10 1 .done)))))))) (by kernel_rfl) (by kernel_rfl) hSw ?_
 refine Pl.wpPlan_take (k := 0) 2 (by kernel_rfl) (by kernel_rfl) ?_
 simp only [List.take_succ_cons, List.take_zero, List.drop_succ_cons, List.drop_zero]
 repeat (first | go_big_quiet_skip | (go_big_quiet_want; go_big_quiet_op; first | go_big_quiet_on | (apply Exists.intro; refine ⟨fun W hW => ?_, ?_⟩; (focus ((first | exact rfl | exact ⟨rfl, rfl⟩ | (simp only [f0 W hW, f1 W hW, f2 W hW, f3 W hW, Result.andThen_ok]; first | done | exact ⟨trivial, rfl⟩ | exact rfl | exact ⟨rfl, rfl⟩) | (skip)); done)); go_big_quiet_on)))
 refine wpQuiet_nil ?_
 refine ⟨?_, ?_⟩
 · refine Pl.efOp_any rfl rfl ?_
   go_wp2_with fail
   refine (HSM.out _).mono ?_
   rintro e w9 ⟨rfl, hb9'⟩
   have hb9 : Below w8.heap.size w8 w9 := ⟨hb9'.os, hb9'.tape, hb9'.output, hb9'.size, fun i hi => hb9'.block i hi⟩
   have hS9 : S0 w9 := by rw [HS0.out]; exact hb9.block _ HV8.out.2.2.lt
   have HB9 := Lib.hid hb9
   clear hb9 hb9' hSw
   go_wp2_with fail
   refine ⟨rfl, hS9, ?_⟩
   clear hS9
   refine Pl.wpPlan_take (k := 3) 1 (by kernel_rfl) (by kernel_rfl) ?_
   simp only [List.take_succ_cons, List.take_zero, List.drop_succ_cons, List.drop_zero]
   repeat (first | go_big_quiet_skip | (go_big_quiet_want; go_big_quiet_op; first | go_big_quiet_on | (apply Exists.intro; refine ⟨fun W hW => ?_, ?_⟩; (focus ((first | exact rfl | exact ⟨rfl, rfl⟩ | (simp only [f0 W hW, Result.andThen_ok]; first | done | exact ⟨trivial, rfl⟩ | exact rfl | exact ⟨rfl, rfl⟩) | (skip)); done)); go_big_quiet_on)))
   refine wpQuiet_nil ?_
   refine ⟨?_, ?_⟩
   · refine Pl.efOp_any rfl rfl ?_
     obtain ⟨U2, hU2⟩ : ∃ U2, U2 = more U1 w8 (w9) := ⟨_, rfl⟩
     have hVr : VdIn (w9) S7 U2 y [false, false] D := by rw [hU2]; exact HV8.out.1.more HB9.out
     have hu2 : (∀ b, U1 b → U2 b) ∧ ∀ b, w8.heap.size ≤ b → b < (w9).heap.size → U2 b := by rw [hU2]; exact ⟨fun b hb => .inl hb, fun b h1 h2 => .inr ⟨h1, h2⟩⟩
     have HR9 := Lib.hid (HRD.out U2 (w9) hVr)
     have HU2 := Lib.hid hu2
     clear hU2 hVr hu2
     go_wp2_with fail
     refine HR9.out.mono ?_
     rintro e wa ⟨rfl, ⟨Sa, hVa⟩, hsta⟩
     have hsa : Stays U1 w8 wa := (stays_below HB9.out).trans (hsta.mono HU2.out.1)
     have hSa : S0 wa := by rw [HS0.out]; exact hsa.heap HV4.out.2.1.1 HV8.out.2.2.lt
     have hBF : Below w.heap.size w wa := by
      have h1 := HB1.out.size
      have h3 := HB.out.2.1.size
      have h4 := HB.out.2.2.1.size
      have h6 := HB.out.2.2.2.size
      have h7 := HV7.out.1.size
      have h8 := HV8.out.2.1.size
      have b6 : Below w.heap.size w w6 := keep_below HB.out.2.2.2 (keep_below HB.out.2.2.1 (keep_below HB.out.2.1 HB1.out))
      exact ((b6.trans (HV7.out.1.below (by omega) (fun i hi => HV4.out.2.1.2 i (by omega)))).trans (HV8.out.2.1.below (by omega) (fun i hi => HV4.out.2.1.2 i (by omega)))).trans (hsa.below (by omega) (fun i hi => HV4.out.2.1.2 i (by omega)))
     have HA := Lib.hid (And.intro hsta (And.intro hsa HU2.out.2))
     have HBF := Lib.hid hBF
     clear hVa hsta hsa hBF HR9
     go_wp2_with fail
     refine ⟨rfl, hSa, ?_⟩
     clear hSa
     refine Pl.wpPlan_take (k := 5) 3 (by kernel_rfl) (by kernel_rfl) ?_
     simp only [List.take_succ_cons, List.take_zero, List.drop_succ_cons, List.drop_zero]
     repeat (first | go_big_quiet_skip | (go_big_quiet_want; go_big_quiet_op; first | go_big_quiet_on | (apply Exists.intro; refine ⟨fun W hW => ?_, ?_⟩; (focus ((first | exact rfl | exact ⟨rfl, rfl⟩ | (simp only [f0 W hW, Result.andThen_ok]; first | done | exact ⟨trivial, rfl⟩ | exact rfl | exact ⟨rfl, rfl⟩) | (skip)); done)); go_big_quiet_on)))
     refine wpQuiet_nil ?_
     obtain ⟨wb, hwb⟩ : ∃ z, wa.alloc (.cells #[str [], .int .i64 0, .int .i64 0, .int .i64 0] 45) = z := ⟨_, rfl⟩
     have hC : Blk wb wa.heap.size 45 #[str [], .int .i64 0, .int .i64 0, .int .i64 0] := by rw [← hwb]; exact Blk.new _ _ _
     have hbf : Below w.heap.size w wb := by rw [← hwb]; exact keep_alloc HBF.out _
     have hSb : S0 wb := by rw [HS0.out, ← hwb]; exact (Below.heap_alloc _ _ _ (by have := HV8.out.2.2.lt; have := HA.out.2.1.size; omega)).trans (HA.out.2.1.heap HV4.out.2.1.1 HV8.out.2.2.lt)
     have HCB := Lib.hid (And.intro hC (And.intro hbf hSb))
     have HCN : Hid (wa.heap.size ≠ w3.heap.size ∧ w.heap.size ≤ wa.heap.size) := Lib.hid ⟨by have := HV8.out.2.2.lt; have := HA.out.2.1.size; omega, HBF.out.size⟩
     have HWB := Lib.hid hwb
     clear hC hbf hSb hwb
     refine Pl.efOp_any rfl rfl ?_
     go_wp2_with fail
     rw [HWB.out]
     refine ⟨rfl, HCB.out.2.2, ?_⟩
     refine Pl.efOp_any rfl rfl ?_
     have z0 := (HCB.out.1).at_ (i := 0) (v := str []) rfl
     have z1 := (HCB.out.1).at_ (i := 1) (v := .int .i64 0) rfl
     have z2 := (HCB.out.1).at_ (i := 2) (v := .int .i64 0) rfl
     have z3 := (HCB.out.1).at_ (i := 3) (v := .int .i64 0) rfl
     have g0 := (HCB.out.1).fr 0
     have g1 := (HCB.out.1).fr 1
     have g2 := (HCB.out.1).fr 2
     have g3 := (HCB.out.1).fr 3
     obtain ⟨wc, hwc⟩ : ∃ z, ((((wb).setCell ⟨wa.heap.size, 0, none⟩ (str zs)).setCell ⟨wa.heap.size, 1, none⟩ (.int .i64 0)).setCell ⟨wa.heap.size, 2, none⟩ (.int .i64 1)).setCell ⟨wa.heap.size, 3, none⟩ (.int .i64 1) = z := ⟨_, rfl⟩
     have hC2 : Blk wc (wa.heap.size) 45 #[str zs, .int .i64 0, .int .i64 1, .int .i64 1] := by rw [← hwc]; exact (((HCB.out.1.put 0 (str zs)).put 1 (.int .i64 0)).put 2 (.int .i64 1)).put 3 (.int .i64 1)
     have hS2 : S0 wc := by
      have h1 := HCB.out.2.2
      rw [HS0.out] at h1 ⊢
      rw [← hwc]
      have hne : w3.heap.size ≠ wa.heap.size := fun e => HCN.out.1 e.symm
      have hf : ∀ (o : Nat) (u : Value) (W : World), (W.setCell ⟨wa.heap.size, o, none⟩ u).heap[w3.heap.size]? = W.heap[w3.heap.size]? := fun o u W => Below.heap_setCell W _ _ _ hne
      show (World.setCell _ _ _).heap[w3.heap.size]? = _
      rw [hf, hf, hf, hf]
      exact h1
     have hb2 : Below w.heap.size w wc := by rw [← hwc]; exact below_set (below_set (below_set (below_set HCB.out.2.1 _ _ _ HCN.out.2) _ _ _ HCN.out.2) _ _ _ HCN.out.2) _ _ _ HCN.out.2
     have HC2 := Lib.hid (And.intro hC2 hb2)
     have HWC := Lib.hid hwc
     clear hC2 hb2 hwc
     go_wp2_with fail
     rw [HWC.out]
     refine ⟨rfl, hS2, ?_⟩
     clear z0 z1 z2 z3 g0 g1 g2 g3 hS2
     refine Pl.wpPlan_take (k := 10) 1 (by kernel_rfl) (by kernel_rfl) ?_
     simp only [List.take_succ_cons, List.take_zero, List.drop_succ_cons, List.drop_zero]
     repeat (first | go_big_quiet_skip | (go_big_quiet_want; go_big_quiet_op; first | go_big_quiet_on | (apply Exists.intro; refine ⟨fun W hW => ?_, ?_⟩; (focus ((first | exact rfl | exact ⟨rfl, rfl⟩ | (simp only [f0 W hW, Result.andThen_ok]; first | done | exact ⟨trivial, rfl⟩ | exact rfl | exact ⟨rfl, rfl⟩) | (skip)); done)); go_big_quiet_on)))
     refine wpQuiet_nil ?_
     simp only [Pl.wpPlan]
     have c0 := HC2.out.1.at_ (i := 0) (v := str zs) rfl
     have c2 := HC2.out.1.at_ (i := 2) (v := .int .i64 1) rfl
     have c3 := HC2.out.1.at_ (i := 3) (v := .int .i64 1) rfl
     clear f0 f1 f2 f3
     go_wp2_with fail
     go_ret
     exact ⟨rfl, HC2.out.2⟩
   · refine Pl.efOp_any rfl rfl ?_
     obtain ⟨wx, hwx⟩ : ∃ z, ((w9).alloc (.cells #[str [], .int .i64 0, .int .i64 0, .int .i64 0] 45)) = z := ⟨_, rfl⟩
     have hxN : Blk wx (w9).heap.size 45 #[str [], .int .i64 0, .int .i64 0, .int .i64 0] := by rw [← hwx]; exact Blk.new _ _ _
     have hxb : Below w8.heap.size w8 wx := by rw [← hwx]; exact (keep_alloc HB9.out _)
     have hSx : S0 wx := by rw [HS0.out]; exact hxb.block _ HV8.out.2.2.lt
     have HX := Lib.hid (And.intro hxN hxb)
     have HWX := Lib.hid hwx
     clear hxN hxb hwx
     go_wp2_with fail
     rw [HWX.out]
     refine ⟨rfl, hSx, ?_⟩
     clear hSx
     have h89 : w8.heap.size ≤ w9.heap.size := HB9.out.size
     have h3x : w3.heap.size < w8.heap.size := HV8.out.2.2.lt
     refine Pl.efOp_any rfl rfl ?_
     obtain ⟨U2, hU2⟩ : ∃ U2, U2 = more U1 w8 (wx) := ⟨_, rfl⟩
     have hVr : VdIn (wx) S7 U2 y [false, false] D := by rw [hU2]; exact HV8.out.1.more HX.out.2
     have hu2 : (∀ b, U1 b → U2 b) ∧ ∀ b, w8.heap.size ≤ b → b < (wx).heap.size → U2 b := by rw [hU2]; exact ⟨fun b hb => .inl hb, fun b h1 h2 => .inr ⟨h1, h2⟩⟩
     have HR9 := Lib.hid (HRD.out U2 (wx) hVr)
     have HU2 := Lib.hid hu2
     clear hU2 hVr hu2
     go_wp2_with fail
     refine HR9.out.mono ?_
     rintro e wa ⟨rfl, ⟨Sa, hVa⟩, hsta⟩
     have hsa : Stays U1 w8 wa := (stays_below HX.out.2).trans (hsta.mono HU2.out.1)
     have hSa : S0 wa := by rw [HS0.out]; exact hsa.heap HV4.out.2.1.1 HV8.out.2.2.lt
     have hBF : Below w.heap.size w wa := by
      have h1 := HB1.out.size
      have h3 := HB.out.2.1.size
      have h4 := HB.out.2.2.1.size
      have h6 := HB.out.2.2.2.size
      have h7 := HV7.out.1.size
      have h8 := HV8.out.2.1.size
      have b6 : Below w.heap.size w w6 := keep_below HB.out.2.2.2 (keep_below HB.out.2.2.1 (keep_below HB.out.2.1 HB1.out))
      exact ((b6.trans (HV7.out.1.below (by omega) (fun i hi => HV4.out.2.1.2 i (by omega)))).trans (HV8.out.2.1.below (by omega) (fun i hi => HV4.out.2.1.2 i (by omega)))).trans (hsa.below (by omega) (fun i hi => HV4.out.2.1.2 i (by omega)))
     have HA := Lib.hid (And.intro hsta (And.intro hsa HU2.out.2))
     have HBF := Lib.hid hBF
     clear hVa hsta hsa hBF HR9
     go_wp2_with fail
     refine ⟨rfl, hSa, ?_⟩
     clear hSa
     refine Pl.wpPlan_take (k := 5) 3 (by kernel_rfl) (by kernel_rfl) ?_
     simp only [List.take_succ_cons, List.take_zero, List.drop_succ_cons, List.drop_zero]
     repeat (first | go_big_quiet_skip | (go_big_quiet_want; go_big_quiet_op; first | go_big_quiet_on | (apply Exists.intro; refine ⟨fun W hW => ?_, ?_⟩; (focus ((first | exact rfl | exact ⟨rfl, rfl⟩ | (simp only [f0 W hW, Result.andThen_ok]; first | done | exact ⟨trivial, rfl⟩ | exact rfl | exact ⟨rfl, rfl⟩) | (skip)); done)); go_big_quiet_on)))
     refine wpQuiet_nil ?_
     have hcb : Blk wa (w9.heap.size) 45 #[str [], .int .i64 0, .int .i64 0, .int .i64 0] := (HA.out.1.heap (HA.out.2.2 _ (by omega) (Blk.lt HX.out.1)) (Blk.lt HX.out.1)).trans HX.out.1
     have HCB := Lib.hid (And.intro hcb (And.intro HBF.out (show S0 wa by rw [HS0.out]; exact HA.out.2.1.heap HV4.out.2.1.1 HV8.out.2.2.lt)))
     have HCN : Hid (w9.heap.size ≠ w3.heap.size ∧ w.heap.size ≤ w9.heap.size) := Lib.hid ⟨by omega, by have h1 := HB1.out.size; have h3 := HB.out.2.1.size; have h4 := HB.out.2.2.1.size; omega⟩
     clear hcb h89 h3x
     refine Pl.efOp_any rfl rfl ?_
     have z0 := (HCB.out.1).at_ (i := 0) (v := str []) rfl
     have z1 := (HCB.out.1).at_ (i := 1) (v := .int .i64 0) rfl
     have z2 := (HCB.out.1).at_ (i := 2) (v := .int .i64 0) rfl
     have z3 := (HCB.out.1).at_ (i := 3) (v := .int .i64 0) rfl
     have g0 := (HCB.out.1).fr 0
     have g1 := (HCB.out.1).fr 1
     have g2 := (HCB.out.1).fr 2
     have g3 := (HCB.out.1).fr 3
     obtain ⟨wc, hwc⟩ : ∃ z, ((((wa).setCell ⟨w9.heap.size, 0, none⟩ (str zs)).setCell ⟨w9.heap.size, 1, none⟩ (.int .i64 0)).setCell ⟨w9.heap.size, 2, none⟩ (.int .i64 1)).setCell ⟨w9.heap.size, 3, none⟩ (.int .i64 1) = z := ⟨_, rfl⟩
     have hC2 : Blk wc (w9.heap.size) 45 #[str zs, .int .i64 0, .int .i64 1, .int .i64 1] := by rw [← hwc]; exact (((HCB.out.1.put 0 (str zs)).put 1 (.int .i64 0)).put 2 (.int .i64 1)).put 3 (.int .i64 1)
     have hS2 : S0 wc := by
      have h1 := HCB.out.2.2
      rw [HS0.out] at h1 ⊢
      rw [← hwc]
      have hne : w3.heap.size ≠ w9.heap.size := fun e => HCN.out.1 e.symm
      have hf : ∀ (o : Nat) (u : Value) (W : World), (W.setCell ⟨w9.heap.size, o, none⟩ u).heap[w3.heap.size]? = W.heap[w3.heap.size]? := fun o u W => Below.heap_setCell W _ _ _ hne
      show (World.setCell _ _ _).heap[w3.heap.size]? = _
      rw [hf, hf, hf, hf]
      exact h1
     have hb2 : Below w.heap.size w wc := by rw [← hwc]; exact below_set (below_set (below_set (below_set HCB.out.2.1 _ _ _ HCN.out.2) _ _ _ HCN.out.2) _ _ _ HCN.out.2) _ _ _ HCN.out.2
     have HC2 := Lib.hid (And.intro hC2 hb2)
     have HWC := Lib.hid hwc
     clear hC2 hb2 hwc
     go_wp2_with fail
     rw [HWC.out]
     refine ⟨rfl, hS2, ?_⟩
     clear z0 z1 z2 z3 g0 g1 g2 g3 hS2
     refine Pl.wpPlan_take (k := 10) 1 (by kernel_rfl) (by kernel_rfl) ?_
     simp only [List.take_succ_cons, List.take_zero, List.drop_succ_cons, List.drop_zero]
     repeat (first | go_big_quiet_skip | (go_big_quiet_want; go_big_quiet_op; first | go_big_quiet_on | (apply Exists.intro; refine ⟨fun W hW => ?_, ?_⟩; (focus ((first | exact rfl | exact ⟨rfl, rfl⟩ | (simp only [f0 W hW, Result.andThen_ok]; first | done | exact ⟨trivial, rfl⟩ | exact rfl | exact ⟨rfl, rfl⟩) | (skip)); done)); go_big_quiet_on)))
     refine wpQuiet_nil ?_
     simp only [Pl.wpPlan]
     have c0 := HC2.out.1.at_ (i := 0) (v := str zs) rfl
     have c2 := HC2.out.1.at_ (i := 2) (v := .int .i64 1) rfl
     have c3 := HC2.out.1.at_ (i := 3) (v := .int .i64 1) rfl
     clear f0 f1 f2 f3
     go_wp2_with fail
     go_ret
     exact ⟨rfl, HC2.out.2⟩
 · refine Pl.efOp_any rfl rfl ?_
   obtain ⟨wx, hwx⟩ : ∃ z, ((w8).alloc (.cells #[str [], .int .i64 0, .int .i64 0, .int .i64 0] 45)).drew = z := ⟨_, rfl⟩
   have hxN : Blk wx (w8).heap.size 45 #[str [], .int .i64 0, .int .i64 0, .int .i64 0] := by rw [← hwx]; exact Blk.new _ _ _
   have hxb : Below w8.heap.size w8 wx := by rw [← hwx]; exact (keep_alloc (Below.refl w8.heap.size w8) _).drew
   have hSx : S0 wx := by rw [HS0.out]; exact hxb.block _ HV8.out.2.2.lt
   have HX := Lib.hid (And.intro hxN hxb)
   have HWX := Lib.hid hwx
   clear hxN hxb hwx
   go_wp2_with fail
   rw [HWX.out]
   refine ⟨rfl, hSx, ?_⟩
   clear hSx
   have h3x : w3.heap.size < w8.heap.size := HV8.out.2.2.lt
   refine Pl.efOp_any rfl rfl ?_
   go_wp2_with fail
   refine (HSM.out _).mono ?_
   rintro e w9 ⟨rfl, hb9'⟩
   have hb9 : Below w8.heap.size w8 w9 := HX.out.2.trans (hb9'.mono HX.out.2.size)
   have hx9 : Blk w9 w8.heap.size 45 #[str [], .int .i64 0, .int .i64 0, .int .i64 0] := HX.out.1.below hb9' HX.out.1.lt
   have HX9 := Lib.hid hx9
   clear hx9
   have hS9 : S0 w9 := by rw [HS0.out]; exact hb9.block _ HV8.out.2.2.lt
   have HB9 := Lib.hid hb9
   clear hb9 hb9' hSw
   go_wp2_with fail
   refine ⟨rfl, hS9, ?_⟩
   clear hS9
   refine Pl.wpPlan_take (k := 3) 1 (by kernel_rfl) (by kernel_rfl) ?_
   simp only [List.take_succ_cons, List.take_zero, List.drop_succ_cons, List.drop_zero]
   repeat (first | go_big_quiet_skip | (go_big_quiet_want; go_big_quiet_op; first | go_big_quiet_on | (apply Exists.intro; refine ⟨fun W hW => ?_, ?_⟩; (focus ((first | exact rfl | exact ⟨rfl, rfl⟩ | (simp only [f0 W hW, Result.andThen_ok]; first | done | exact ⟨trivial, rfl⟩ | exact rfl | exact ⟨rfl, rfl⟩) | (skip)); done)); go_big_quiet_on)))
   refine wpQuiet_nil ?_
   refine Pl.efOp_any rfl rfl ?_
   obtain ⟨U2, hU2⟩ : ∃ U2, U2 = more U1 w8 (w9) := ⟨_, rfl⟩
   have hVr : VdIn (w9) S7 U2 y [false, false] D := by rw [hU2]; exact HV8.out.1.more HB9.out
   have hu2 : (∀ b, U1 b → U2 b) ∧ ∀ b, w8.heap.size ≤ b → b < (w9).heap.size → U2 b := by rw [hU2]; exact ⟨fun b hb => .inl hb, fun b h1 h2 => .inr ⟨h1, h2⟩⟩
   have HR9 := Lib.hid (HRD.out U2 (w9) hVr)
   have HU2 := Lib.hid hu2
   clear hU2 hVr hu2
   go_wp2_with fail
   refine HR9.out.mono ?_
   rintro e wa ⟨rfl, ⟨Sa, hVa⟩, hsta⟩
   have hsa : Stays U1 w8 wa := (stays_below HB9.out).trans (hsta.mono HU2.out.1)
   have hSa : S0 wa := by rw [HS0.out]; exact hsa.heap HV4.out.2.1.1 HV8.out.2.2.lt
   have hBF : Below w.heap.size w wa := by
    have h1 := HB1.out.size
    have h3 := HB.out.2.1.size
    have h4 := HB.out.2.2.1.size
    have h6 := HB.out.2.2.2.size
    have h7 := HV7.out.1.size
    have h8 := HV8.out.2.1.size
    have b6 : Below w.heap.size w w6 := keep_below HB.out.2.2.2 (keep_below HB.out.2.2.1 (keep_below HB.out.2.1 HB1.out))
    exact ((b6.trans (HV7.out.1.below (by omega) (fun i hi => HV4.out.2.1.2 i (by omega)))).trans (HV8.out.2.1.below (by omega) (fun i hi => HV4.out.2.1.2 i (by omega)))).trans (hsa.below (by omega) (fun i hi => HV4.out.2.1.2 i (by omega)))
   have HA := Lib.hid (And.intro hsta (And.intro hsa HU2.out.2))
   have HBF := Lib.hid hBF
   clear hVa hsta hsa hBF HR9
   go_wp2_with fail
   refine ⟨rfl, hSa, ?_⟩
   clear hSa
   refine Pl.wpPlan_take (k := 5) 3 (by kernel_rfl) (by kernel_rfl) ?_
   simp only [List.take_succ_cons, List.take_zero, List.drop_succ_cons, List.drop_zero]
   repeat (first | go_big_quiet_skip | (go_big_quiet_want; go_big_quiet_op; first | go_big_quiet_on | (apply Exists.intro; refine ⟨fun W hW => ?_, ?_⟩; (focus ((first | exact rfl | exact ⟨rfl, rfl⟩ | (simp only [f0 W hW, Result.andThen_ok]; first | done | exact ⟨trivial, rfl⟩ | exact rfl | exact ⟨rfl, rfl⟩) | (skip)); done)); go_big_quiet_on)))
   refine wpQuiet_nil ?_
   have hcb : Blk wa (w8.heap.size) 45 #[str [], .int .i64 0, .int .i64 0, .int .i64 0] := (HA.out.1.heap (HA.out.2.2 _ (by omega) (Blk.lt HX9.out)) (Blk.lt HX9.out)).trans HX9.out
   have HCB := Lib.hid (And.intro hcb (And.intro HBF.out (show S0 wa by rw [HS0.out]; exact HA.out.2.1.heap HV4.out.2.1.1 HV8.out.2.2.lt)))
   have HCN : Hid (w8.heap.size ≠ w3.heap.size ∧ w.heap.size ≤ w8.heap.size) := Lib.hid ⟨by omega, by have h1 := HB1.out.size; have h3 := HB.out.2.1.size; have h4 := HB.out.2.2.1.size; omega⟩
   clear hcb h3x
   refine Pl.efOp_any rfl rfl ?_
   have z0 := (HCB.out.1).at_ (i := 0) (v := str []) rfl
   have z1 := (HCB.out.1).at_ (i := 1) (v := .int .i64 0) rfl
   have z2 := (HCB.out.1).at_ (i := 2) (v := .int .i64 0) rfl
   have z3 := (HCB.out.1).at_ (i := 3) (v := .int .i64 0) rfl
   have g0 := (HCB.out.1).fr 0
   have g1 := (HCB.out.1).fr 1
   have g2 := (HCB.out.1).fr 2
   have g3 := (HCB.out.1).fr 3
   obtain ⟨wc, hwc⟩ : ∃ z, ((((wa).setCell ⟨w8.heap.size, 0, none⟩ (str zs)).setCell ⟨w8.heap.size, 1, none⟩ (.int .i64 0)).setCell ⟨w8.heap.size, 2, none⟩ (.int .i64 1)).setCell ⟨w8.heap.size, 3, none⟩ (.int .i64 1) = z := ⟨_, rfl⟩
   have hC2 : Blk wc (w8.heap.size) 45 #[str zs, .int .i64 0, .int .i64 1, .int .i64 1] := by rw [← hwc]; exact (((HCB.out.1.put 0 (str zs)).put 1 (.int .i64 0)).put 2 (.int .i64 1)).put 3 (.int .i64 1)
   have hS2 : S0 wc := by
    have h1 := HCB.out.2.2
    rw [HS0.out] at h1 ⊢
    rw [← hwc]
    have hne : w3.heap.size ≠ w8.heap.size := fun e => HCN.out.1 e.symm
    have hf : ∀ (o : Nat) (u : Value) (W : World), (W.setCell ⟨w8.heap.size, o, none⟩ u).heap[w3.heap.size]? = W.heap[w3.heap.size]? := fun o u W => Below.heap_setCell W _ _ _ hne
    show (World.setCell _ _ _).heap[w3.heap.size]? = _
    rw [hf, hf, hf, hf]
    exact h1
   have hb2 : Below w.heap.size w wc := by rw [← hwc]; exact below_set (below_set (below_set (below_set HCB.out.2.1 _ _ _ HCN.out.2) _ _ _ HCN.out.2) _ _ _ HCN.out.2) _ _ _ HCN.out.2
   have HC2 := Lib.hid (And.intro hC2 hb2)
   have HWC := Lib.hid hwc
   clear hC2 hb2 hwc
   go_wp2_with fail
   rw [HWC.out]
   refine ⟨rfl, hS2, ?_⟩
   clear z0 z1 z2 z3 g0 g1 g2 g3 hS2
   refine Pl.wpPlan_take (k := 10) 1 (by kernel_rfl) (by kernel_rfl) ?_
   simp only [List.take_succ_cons, List.take_zero, List.drop_succ_cons, List.drop_zero]
   repeat (first | go_big_quiet_skip | (go_big_quiet_want; go_big_quiet_op; first | go_big_quiet_on | (apply Exists.intro; refine ⟨fun W hW => ?_, ?_⟩; (focus ((first | exact rfl | exact ⟨rfl, rfl⟩ | (simp only [f0 W hW, Result.andThen_ok]; first | done | exact ⟨trivial, rfl⟩ | exact rfl | exact ⟨rfl, rfl⟩) | (skip)); done)); go_big_quiet_on)))
   refine wpQuiet_nil ?_
   simp only [Pl.wpPlan]
   have c0 := HC2.out.1.at_ (i := 0) (v := str zs) rfl
   have c2 := HC2.out.1.at_ (i := 2) (v := .int .i64 1) rfl
   have c3 := HC2.out.1.at_ (i := 3) (v := .int .i64 1) rfl
   clear f0 f1 f2 f3
   go_wp2_with fail
   go_ret
   exact ⟨rfl, HC2.out.2⟩
end Go.Proofs.YtbhkbcpljakmjaaGreat

namespace Go.Proofs.YtbhkbcpljakmjaaGreat
set_option linter.unusedVariables false
set_option linter.unusedSimpArgs false
open Go.RowKit
def hitOne (ds : List DevD) (x : HitD) : List DevD := if 0 ≤ x.dev ∧ x.dev < ds.length then spoilAt ds x.dev.toNat x.at_ x.place x.by_ else ds
def hitAll (ds : List DevD) (l : List HitD) : List DevD := l.foldl hitOne ds
theorem hitAll_snoc (ds : List DevD) (l : List HitD) (x : HitD) : hitAll ds (l ++ [x]) = hitOne (hitAll ds l) x := by
 unfold hitAll
 rw [List.foldl_append]
 rfl
theorem hitOne_ok {N secs : Nat} {ds : List DevD} (h : DsOk N secs ds) (x : HitD) : DsOk N secs (hitOne ds x) := by
 unfold hitOne
 split
 · exact spoilAt_ok h _ _ _ _
 · exact h
theorem hitAll_ok {N secs : Nat} : ∀ (l : List HitD) (ds : List DevD), DsOk N secs ds → DsOk N secs (hitAll ds l)
 | [], _, h => h
 | x :: l, ds, h => hitAll_ok l _ (hitOne_ok h x)
theorem hitAll_hereD {aw : List Bool} (j : Nat) : ∀ (l : List HitD) (ds : List DevD), hereD aw (hitAll ds l) j = hereD aw ds j
 | [], _ => rfl
 | x :: l, ds => by
   show hereD aw (hitAll (hitOne ds x) l) j = _
   rw [hitAll_hereD j l]
   unfold hitOne
   split
   · exact spoilAt_hereD j
   · rfl
theorem look_again {gs : List (Int × Int)} {secs n N : Nat} {aw : List Bool} {ds : List DevD} {q : PtrD} (hr : gRight gs secs = true) (hn : gSum gs = n) (hl : ds.length = n) (ok : DsOk N secs ds) {c : CameD} {e : Int} (h : lookV gs secs q (rawP gs secs q.size aw ds) = (c, e)) :
 ∃ c', lookV gs secs q (rawP gs secs q.size aw (readD false gs secs aw q ds)) = (c', e) ∧ c'.text = c.text := by
 unfold readD
 rw [h]
 by_cases he : e = 0
 · subst he
   rw [if_pos rfl]
   exact look_after ((look_shape h).2 rfl).1 hr hn hl ok h
 · rw [if_neg he]
   exact ⟨c, h, rfl⟩
theorem readD_ok {gs : List (Int × Int)} {secs N : Nat} {aw : List Bool} {ds : List DevD} {q : PtrD} {full : Bool} (ok : DsOk N secs ds) : DsOk (N + 128) secs (readD full gs secs aw q ds) := by
 unfold readD
 split
 · exact (mendAll_ok _ _ ok).mono (by have := plsL_len q; rw [List.length_take]; omega)
 · exact ok.mono (by omega)
end Go.Proofs.YtbhkbcpljakmjaaGreat
