/-
  The document's answer for layer 7: Tries.
-/
import Derived.Test.YtbhkbcpljakmjaaGreatJ33
namespace Go.Proofs.YtbhkbcpljakmjaaGreat
set_option linter.unusedVariables false
set_option linter.unusedSimpArgs false
open Go.RowKit
theorem fits_full {gs : List (Int × Int)} {secs pg pa size : Int} {got : List (List UInt8)} (h : fitsB gs secs pg pa size got = true) : ∀ s ∈ got, s ≠ [] → s.length = 64 := fun s hs hne => by
 unfold fitsB at h
 simp only [Bool.and_eq_true, beq_iff_eq, Bool.not_eq_true', List.any_eq_false] at h
 have h4 := h.2 s hs
 unfold fitP at h4
 cases s with
 | nil => exact absurd rfl hne
 | cons x r =>
  simp only [List.isEmpty_cons, Bool.not_false, Bool.true_and, bne_iff_ne, ne_eq, Decidable.not_not] at h4
  omega
theorem try_new' (w : World) (d : Int) (s : List UInt8) (t : TypeId) : ∀ j v, [Value.int .i64 d, str s][j]? = some v → (w.alloc (.cells #[.int .i64 d, str s] t)).cell? ((⟨w.heap.size, 0, none⟩ : Addr).add j) = some v := by
 intro j v h
 rw [Addr.add_mid, Nat.zero_add]
 refine cell_new rfl ?_
 simpa using h
theorem Tryz.infoTry : (Tryz.prog.info? 108).map (fun i => (i.zero, i.size, i.bytes)) = some (some (.agg #[.int .i64 0, .string ⟨#[]⟩]), 2, 24) := by kernel_rfl
set_option maxRecDepth 20000 in
set_option maxHeartbeats 4000000 in
theorem refTries_any (A : Option Addr) (m cc : Nat) (gs : List (Int × Int)) (secs pg pa size : Int) {gv : Value} {got : List (List UInt8)} {w : World} (hg : GeoAt w A m gs) (hs : SlAt w gv got.length (strC got)) (hf : fitsB gs secs pg pa size got = true) :
 Calls Tryz.prog 46 #[.agg #[.slice A m cc, .int .i64 secs], .agg #[.int .i64 pg, .int .i64 pa], .int .i64 size, gv] w fun e w' => ∃ v, e = .returned v ∧
  SlAt w' v (triesL gs secs pg pa size got).length (trC (triesL gs secs pg pa size got)) ∧ Below w.heap.size w w' := by
 obtain ⟨i0, hi, hz0, hz1, hz2⟩ := info_parts Tryz.infoStr
 obtain ⟨i1, hj, hy0, hy1, hy2⟩ := info_parts Tryz.infoTry
 obtain ⟨w2, hw2⟩ : ∃ z, (w.alloc (.cells #[.slice A m cc, .int .i64 secs] 24)).alloc (.cells #[.int .i64 pg, .int .i64 pa] 26) = z := ⟨_, rfl⟩
 have B1 : Blk w2 w.heap.size 24 #[.slice A m cc, .int .i64 secs] := by rw [← hw2]; exact (Blk.new _ _ _).alloc _
 have B2 : Blk w2 (w.heap.size + 1) 26 #[.int .i64 pg, .int .i64 pa] := by rw [← hw2]; exact Blk.new2 _ _ _ _
 have D2 : Below w.heap.size w w2 := by rw [← hw2]; exact keep_alloc (keep_alloc (Below.refl _ _) _) _
 obtain ⟨hmay, hgl, hle⟩ := fits_parts hf
 have hfull := fits_full hf
 have hres := ref_tries hf
 have hO64 := ofList_le gs secs pg pa size
 rw [ofList_may hmay] at hO64
 have HAG : Hid ((grAt gs pg).1 = 1 → ParL (colsOf gs secs pg pa size) size.toNat) := Lib.hid fun h => parL_of hmay (by rw [h]; decide)
 have hdin := fun i (hi : i < (colsOf gs secs pg pa size).length) => dev_in hmay hi
 have HO := Lib.hid (refOf_any A m cc gs secs pg pa size w2 (hg.below D2 (Nat.le_refl _)) hmay)
 obtain ⟨hhas, hzz1, hzz2, _⟩ := cMay_true hmay
 obtain ⟨gk, gx, hpk, hgk, hl4, hs1, hs2, hgx, hga, ho1⟩ := gHas_true hhas
 subst hpk
 have hFd := (sum_take_bd (gHas_right hhas) gk)
 rw [← gFirst_true hhas] at hFd
 have hRF := fun (W : World) (hb : Below w2.heap.size w2 W) => refFirst_any A m cc gs secs gk W (hg.below (keep_below hb D2) (Nat.le_refl _)) hhas
 rw [hga] at hres hdin HAG
 obtain ⟨Fn, hFn⟩ := Int.eq_ofNat_of_zero_le hFd.1
 rw [hFn] at hRF hFd hres hdin
 obtain ⟨L, hL⟩ : ∃ L, colsOf gs secs gk pa size = L := ⟨_, rfl⟩
 rw [hL] at hres HO HAG hO64 hdin hgl
 obtain ⟨T, hT⟩ : ∃ T, triesL gs secs gk pa size got = T := ⟨_, rfl⟩
 rw [hT] at hres ⊢
 obtain ⟨kd, wd⟩ := gx
 have ho' := gOne_true ho1
 simp only at ho' hres hdin HAG
 obtain ⟨kn, rfl⟩ := Int.eq_ofNat_of_zero_le (show 0 ≤ kd by omega)
 obtain ⟨wn, rfl⟩ := Int.eq_ofNat_of_zero_le (show 0 ≤ wd by omega)
 have hkw : kn ≤ 1 ∧ wn ≤ 8 := by omega
 obtain ⟨hkn, hwn⟩ := hkw
 rw [show ((kn : Int) + (wn : Int)).toNat = kn + wn by omega] at hres
 have hml := hg.1
 obtain ⟨bg, og, rfl, hgc⟩ := hg.2.2 (by omega)
 obtain ⟨cg0, cg1⟩ := hgc.2 gk _ hgx
 have cg0 := keepc cg0 D2
 have cg1 := keepc cg1 D2
 have HB1 := Lib.hid B1
 have HB2 := Lib.hid B2
 have HD2 := Lib.hid D2
 have HW2 := Lib.hid hw2
 have HRES := Lib.hid hres
 have HRF := Lib.hid hRF
 have HSG := Lib.hid (And.intro (hs.below D2) (And.intro hgl (And.intro hle hfull)))
 have HDIN := Lib.hid hdin
 have hgkm : gk < m := by omega
 have hFl : Fn ≤ 32 := by omega
 clear hw2 B1 B2 D2 hmay hgl hle hfull hf hres hhas hzz1 hzz2 hgk hl4 hs1 hs2 hgx hga ho1 hFd hRF ho' hml hgc hL hT hdin hFn hg
 obtain ⟨Ag, cgp, rfl⟩ := hs.form
 clear hs
 go_enter Tryz.func46, Tryz.ntmps46
 go_wp2_with fail
 rw [HW2.out]
 refine HO.out.mono ?_
 rintro e w3 ⟨cv, rfl, hown, hb3⟩
 have HB3 := Lib.hid (keep_below hb3 HD2.out)
 have HC := Lib.hid (slAt_own hown)
 obtain ⟨Ac, c3, rfl⟩ := HC.out.form
 have HF := Lib.hid fun (W : World) (hb : Below w3.heap.size w3 W) => HRF.out W (keep_below hb hb3)
 have x0 := (HB1.out.below hb3 HB1.out.lt).at_ (i := 0) (v := .slice (some ⟨bg, og, none⟩) m cc) rfl
 have x1 := (HB1.out.below hb3 HB1.out.lt).at_ (i := 1) (v := .int .i64 secs) rfl
 have p0 := (HB2.out.below hb3 HB2.out.lt).at_ (i := 0) (v := .int .i64 gk) rfl
 have cg0 := keepc cg0 hb3
 have cg1 := keepc cg1 hb3
 have HSG3 := Lib.hid (And.intro (HSG.out.1.below hb3) HSG.out.2)
 clear hown hb3 HRF HB1 HB2 HO
 have y0 : ∀ X, (w3.alloc X).cell? ⟨w.heap.size, 0, none⟩ = some (.slice (some ⟨bg, og, none⟩) m cc) := fun X => keepc x0 (keep_alloc (Below.refl _ _) X)
 have y1 : ∀ X, (w3.alloc X).cell? ⟨w.heap.size, 1, none⟩ = some (.int .i64 secs) := fun X => keepc x1 (keep_alloc (Below.refl _ _) X)
 have y2 : ∀ X, (w3.alloc X).cell? ⟨w.heap.size + 1, 0, none⟩ = some (.int .i64 gk) := fun X => keepc p0 (keep_alloc (Below.refl _ _) X)
 obtain ⟨w4, hw4⟩ : ∃ z, w3.alloc (.cells #[.int .i64 kn, .int .i64 wn] 53) = z := ⟨_, rfl⟩
 have HW4 := Lib.hid hw4
 have HB4 : Hid (Below w3.heap.size w3 w4) := Lib.hid (by rw [← hw4]; exact keep_alloc (Below.refl _ _) _)
 have HX4 : Hid (Blk w4 w3.heap.size 53 #[.int .i64 kn, .int .i64 wn]) := Lib.hid (by rw [← hw4]; exact Blk.new _ _ _)
 have HF4 := Lib.hid (HF.out w4 HB4.out)
 clear hw4 HF
 go_wp2_with fail
 rw [HW4.out]
 refine HF4.out.mono ?_
 rintro e w5 ⟨rfl, hb5⟩
 have HB5 := Lib.hid (keep_below hb5 HB4.out)
 have HX5 := Lib.hid (HX4.out.below hb5 HX4.out.lt)
 have k0 := HX5.out.at_ (i := 0) (v := .int .i64 kn) rfl
 have k1 := HX5.out.at_ (i := 1) (v := .int .i64 wn) rfl
 have HSG5 := Lib.hid (And.intro (HSG3.out.1.below HB5.out) HSG3.out.2)
 have HC5 := Lib.hid (HC.out.below HB5.out)
 clear hb5 y0 y1 y2 x0 x1 p0 cg0 cg1 HF4 HSG3 HSG HC
 go_wp2_with fail
 go_loopw [10, 13] (fun v t wr => ∃ j : Nat, ∃ D : Int, j ≤ kn + wn ∧ D = Fn - kn + j ∧ t = .int .i64 D ∧ wr.ownsRow w5.heap.size 108 2 v (refTo L got Fn kn j).length (trC (refTo L got Fn kn j)) ∧ Below w5.heap.size w5 wr) (fun _ t _ => ((Fn : Int) + wn + 1 - RowKit.intOf t).toNat)
 case atStart => exact ⟨0, _, Nat.zero_le _, by simp, rfl, World.ownsRow_nil _ _ _ _, Below.refl _ _⟩
 case round =>
  obtain ⟨j, D, hj2, hD, rfl, hown, hb⟩ := hrel
  have HB := Lib.hid hb
  have HOWN := Lib.hid hown
  have k0 := keepc k0 hb
  have k1 := keepc k1 hb
  have HDD := Lib.hid hD
  have hDb : -1 ≤ D ∧ D ≤ 41 := by omega
  obtain ⟨hD1, hD2⟩ := hDb
  rename World => wq
  clear hown hb hD
  by_cases hlt : j < kn + wn
  · have hd1 : decide (D < (Fn : Int) + (wn : Int)) = true := decide_eq_true (by have := HDD.out; omega)
    have HJ := Lib.hid hlt
    clear hlt
    go_wp2_with fail
    go_loopw [14, 15, 16, 17] (fun s wh ow t wr => ∃ i : Nat, ∃ S : List UInt8, ∃ wb ob : Bool, i ≤ L.length ∧ t = .int .i64 i ∧ s = str S ∧ S.length ≤ 64 * i ∧ wh = .bool wb ∧ wb = (!hasE (partsT L got kn D i)) ∧ ow = .bool ob ∧ ob = ownT L Fn kn D i ∧ (wb = true → S = (partsT L got kn D i).flatten) ∧ Below wq.heap.size wq wr) (fun _ _ _ t _ => L.length - (RowKit.intOf t).toNat)
    case atStart => exact ⟨0, [], _, _, Nat.zero_le _, rfl, rfl, Nat.zero_le _, rfl, rfl, rfl, by simp [ownT], fun _ => rfl, Below.refl _ _⟩
    case round =>
     obtain ⟨i, S, wb, ob, hi2, rfl, rfl, hSl, rfl, hwb, rfl, hob, hSf, hb⟩ := hrel
     have HBI := Lib.hid hb
     have HSLN := Lib.hid hSl
     have HST := Lib.hid (And.intro hwb (And.intro hob hSf))
     have k0 := keepc k0 hb
     have k1 := keepc k1 hb
     by_cases hlt : i < L.length
     · have hx := colD_in hlt
       obtain ⟨x, hxd⟩ : ∃ x, L.getD i (0, 0, false, 0) = x := ⟨_, rfl⟩
       rw [hxd] at hx
       obtain ⟨bc, oc, rfl, hbc, hcc⟩ := HC5.out.cells (by omega)
       have hgl := HSG5.out.2.1
       obtain ⟨bs, os, rfl, hbs, hcs⟩ := HSG5.out.1.cells (by omega)
       obtain ⟨cx, hcx⟩ : ∃ c, got.getD i [] = c := ⟨_, rfl⟩
       have hgc : got[i]? = some cx := by rw [← hcx, List.getD_eq_getElem?_getD, List.getElem?_eq_getElem (show i < got.length by omega)]; rfl
       have hc64 := HSG5.out.2.2.1 cx (List.mem_of_getElem? hgc)
       have q0 := keepc (keepc (hcc _ _ (colsCells_at hx).1) HB.out) hb
       have q2 := keepc (keepc (hcc _ _ (colsCells_at hx).2.2.1) HB.out) hb
       have q3 := keepc (hcc _ _ (colsCells_at hx).2.2.2) HB.out
       have q4 := keepc (keepc (hcs _ _ (strC_at hgc)) HB.out) hb
       rw [← Nat.add_assoc] at q2 q3
       have hd2 : decide (i < L.length) = true := decide_eq_true hlt
       have hd3 : i < got.length := by omega
       have HLT := Lib.hid hlt
       have HXD := Lib.hid (And.intro hxd (And.intro hx hcx))
       have HCB := Lib.hid (And.intro hbc (And.intro hcc (And.intro hbs hcs)))
       have hi64 : i ≤ 64 := by omega
       have hpk : pickB L kn D i = !(x.2.2.1 || (((kn : Int) == 0) && (x.1 != D))) := by unfold pickB; rw [hxd]
       have hct : cT L got kn D i = if ((kn : Int) == 1) && (x.1 == D) then againS L got i else cx := by unfold cT; rw [hxd, hcx]
       have HTK : Hid (pickB L kn D i = true → (ob || (x.1 == D)) = ownT L Fn kn D (i + 1) ∧ partsT L got kn D (i + 1) = partsT L got kn D i ++ [cT L got kn D i]) := Lib.hid fun h => ⟨by rw [ownT_take h, hob, hxd], partsT_take h⟩
       have HSK : Hid (pickB L kn D i = false → ob = ownT L Fn kn D (i + 1) ∧ partsT L got kn D (i + 1) = partsT L got kn D i) := Lib.hid fun h => ⟨by rw [ownT_skip h, hob], partsT_skip h⟩
       have HPK := Lib.hid hpk
       have HCT := Lib.hid hct
       clear hx hxd hcc hbc hbs hcs hcx hgc hpk hct hwb hob hSf hb hlt hgl
       cases hpr : x.2.2.1 with
       | true =>
        rw [hpr] at q2
        have HNX := Lib.hid (HSK.out (by rw [HPK.out, hpr]; rfl))
        clear hSl
        go_wp2_with fail
        go_roundw
        case rel => exact ⟨i + 1, S, wb, ob, HLT.out, by go_num, rfl, by have := HSLN.out; omega, rfl, by rw [HNX.out.2]; exact HST.out.1, rfl, HNX.out.1, by rw [HNX.out.2]; exact HST.out.2.2, HBI.out⟩
        case measure => have := HLT.out; simp [RowKit.intOf]; omega
       | false =>
        rw [hpr] at q2
        cases hk0 : ((kn : Int) == 0) with
        | true =>
         have hk1 : ((kn : Int) == 1) = false := by have := eq_of_beq hk0; rw [this]; rfl
         cases hdv : (x.1 == D) with
         | false =>
          have hdw : (x.1 != D) = true := by unfold bne; rw [hdv]; rfl
          have HNX := Lib.hid (HSK.out (by rw [HPK.out, hpr, hk0, hdw]; rfl))
          clear hSl
          go_wp2_with fail
          go_roundw
          case rel => exact ⟨i + 1, S, wb, ob, HLT.out, by go_num, rfl, by have := HSLN.out; omega, rfl, by rw [HNX.out.2]; exact HST.out.1, rfl, HNX.out.1, by rw [HNX.out.2]; exact HST.out.2.2, HBI.out⟩
          case measure => have := HLT.out; simp [RowKit.intOf]; omega
         | true =>
          have hdw : (x.1 != D) = false := by unfold bne; rw [hdv]; rfl
          have HNX := Lib.hid (HTK.out (by rw [HPK.out, hpr, hdw]; simp))
          have HCE : Hid (cT L got kn D i = cx) := Lib.hid (by rw [HCT.out, hk1]; rfl)
          have hP := HNX.out.2
          rw [HCE.out] at hP
          have HOE := Lib.hid HNX.out.1
          have HSN : Hid ((S ++ cx).length ≤ 64 * (i + 1) ∧ (wb && !cx.isEmpty) = (!hasE (partsT L got kn D (i + 1))) ∧ ((wb && !cx.isEmpty) = true → S ++ cx = (partsT L got kn D (i + 1)).flatten)) := Lib.hid (by
           rw [hP, hasE_snoc, Bool.not_or, ← HST.out.1]
           refine ⟨by rw [List.length_append]; omega, rfl, fun h => ?_⟩
           rw [Bool.and_eq_true] at h
           rw [HST.out.2.2 h.1, List.flatten_append]
           simp)
          rw [hdv] at HOE
          clear hP
          cases ob <;> cases wb <;>
          (
            go_wp2_with fail
            go_roundw
            case rel => exact ⟨i + 1, _, _, _, HLT.out, by go_num, rfl, HSN.out.1, rfl, HSN.out.2.1, rfl, HOE.out, HSN.out.2.2, HBI.out⟩
            case measure => have := HLT.out; simp [RowKit.intOf]; omega)
        | false =>
         have hk1 : ((kn : Int) == 1) = true := by have := ne_of_beq_false hk0; rw [beq_iff_eq]; omega
         cases hdv : (x.1 == D) with
         | false =>
          have HNX := Lib.hid (HTK.out (by rw [HPK.out, hpr, hk0]; rfl))
          have HCE : Hid (cT L got kn D i = cx) := Lib.hid (by rw [HCT.out, hdv]; simp)
          have hP := HNX.out.2
          rw [HCE.out] at hP
          have HOE := Lib.hid HNX.out.1
          have HSN : Hid ((S ++ cx).length ≤ 64 * (i + 1) ∧ (wb && !cx.isEmpty) = (!hasE (partsT L got kn D (i + 1))) ∧ ((wb && !cx.isEmpty) = true → S ++ cx = (partsT L got kn D (i + 1)).flatten)) := Lib.hid (by
           rw [hP, hasE_snoc, Bool.not_or, ← HST.out.1]
           refine ⟨by rw [List.length_append]; omega, rfl, fun h => ?_⟩
           rw [Bool.and_eq_true] at h
           rw [HST.out.2.2 h.1, List.flatten_append]
           simp)
          rw [hdv] at HOE
          clear hP
          cases ob <;> cases wb <;>
          (
            go_wp2_with fail
            go_roundw
            case rel => exact ⟨i + 1, _, _, _, HLT.out, by go_num, rfl, HSN.out.1, rfl, HSN.out.2.1, rfl, HOE.out, HSN.out.2.2, HBI.out⟩
            case measure => have := HLT.out; simp [RowKit.intOf]; omega)
         | true =>
          have HNX := Lib.hid (HTK.out (by rw [HPK.out, hpr, hk0]; rfl))
          have HCE : Hid (cT L got kn D i = againS L got i) := Lib.hid (by rw [HCT.out, hk1, hdv]; rfl)
          have HOE : Hid (true = ownT L Fn kn D (i + 1)) := Lib.hid (by rw [← HNX.out.1, hdv, Bool.or_true])
          have HPL := Lib.hid (HAG.out (eq_of_beq hk1))
          have HQ3 := Lib.hid q3
          have HBX := Lib.hid HBI.out
          have hwb0 : wb = (wb && !hasE ((againIx L i 0).map fun i => got.getD i [])) := by rw [show hasE ((againIx L i 0).map fun i => got.getD i []) = false from rfl]; simp
          have HW0 := Lib.hid hwb0
          rename World => wx
          clear hwb0 q3
          cases ob
          · go_wp2_with fail
            go_loopw [15, 19, 20] (fun wh pv t wr => ∃ k : Nat, ∃ wk : Bool, k ≤ L.length ∧ t = .int .i64 k ∧ wh = .bool wk ∧ wk = (wb && !hasE ((againIx L i k).map fun i => got.getD i [])) ∧ wr.ownsRow wx.heap.size 9 1 pv (againIx L i k).length (strC ((againIx L i k).map fun i => got.getD i [])) ∧ Below wx.heap.size wx wr) (fun _ _ t _ => L.length - (RowKit.intOf t).toNat)
            case atStart => exact ⟨0, _, Nat.zero_le _, rfl, rfl, HW0.out, World.ownsRow_nil _ _ _ _, Below.refl _ _⟩
            case round =>
             obtain ⟨k, wk, hk2, rfl, rfl, hwk, hownk, hbk⟩ := hrel
             have HBK := Lib.hid hbk
             have HOK := Lib.hid hownk
             have HWK := Lib.hid hwk
             clear hwk hownk
             by_cases hlk : k < L.length
             · have hd4 : decide (k < L.length) = true := decide_eq_true hlk
               have hy := colD_in hlk
               obtain ⟨y, hyd⟩ : ∃ y, L.getD k (0, 0, false, 0) = y := ⟨_, rfl⟩
               rw [hyd] at hy
               have r3 := keepc (keepc (keepc (HCB.out.2.1 _ _ (colsCells_at hy).2.2.2) HB.out) HBI.out) hbk
               rw [← Nat.add_assoc] at r3
               have r4 := keepc (keepc HQ3.out HBI.out) hbk
               have hst := againIx_step L i k
               rw [hyd, HXD.out.1] at hst
               have HKL := Lib.hid hlk
               have HTS := Lib.hid hst
               clear hst hy hyd hbk
               by_cases hki : k = i
               · have hkb : ((k : Int) != i) = false := by rw [bne_eq_false_iff_eq]; omega
                 have HT : Hid (againIx L i (k + 1) = againIx L i k) := Lib.hid (by rw [HTS.out, hki]; simp)
                 clear hki
                 obtain ⟨C, hCd, hCw, hCB, hCK, hCD⟩ := cls_below wr
                 have f3 : ∀ W, C W → W.cell? ⟨bc, oc + k * 4 + 3, none⟩ = some (.int .i64 y.2.2.2) := fun W h => keepc r3 (hCB W h)
                 have f4 : ∀ W, C W → W.cell? ⟨bc, oc + i * 4 + 3, none⟩ = some (.int .i64 x.2.2.2) := fun W h => keepc r4 (hCB W h)
                 go_wp2_with fail
                 refine wp_region_cls C (by kernel_rfl) (by kernel_rfl) hCd ?_
                 repeat (first | go_big_quiet_skip | (go_big_quiet_want; go_big_quiet_op; first | go_big_quiet_on | (apply Exists.intro; refine ⟨fun W hW => ?_, ?_⟩; (focus ((first | exact rfl | exact ⟨rfl, rfl⟩ | (simp only [f3 W hW, f4 W hW, Result.andThen_ok]; first | done | exact ⟨trivial, rfl⟩ | exact rfl | exact ⟨rfl, rfl⟩) | (skip)); done)); go_big_quiet_on)))
                 refine wpQuiet_nil ?_
                 intro wz hwz
                 have HBZ := Lib.hid (keep_below (hCB wz hwz) HBK.out)
                 have HOZ := Lib.hid (ownsRow_same HOK.out (fun b hb => (hCB wz hwz).block b (HOK.out.lt b hb).2))
                 clear f3 f4 hCd hCB hwz hCw hCK hCD r3 r4
                 go_wp2_with fail
                 go_roundw
                 case rel => exact ⟨k + 1, wk, HKL.out, by go_num, rfl, by rw [HT.out]; exact HWK.out, by rw [HT.out]; exact HOZ.out, HBZ.out⟩
                 case measure => have := HKL.out; simp [RowKit.intOf]; omega
               · have hkb : ((k : Int) != i) = true := by rw [bne_iff_ne]; omega
                 cases hrow : (y.2.2.2 == x.2.2.2) with
                 | false =>
                  have HT : Hid (againIx L i (k + 1) = againIx L i k) := Lib.hid (by rw [HTS.out, hrow]; simp)
                  clear hki
                  obtain ⟨C, hCd, hCw, hCB, hCK, hCD⟩ := cls_below wr
                  have f3 : ∀ W, C W → W.cell? ⟨bc, oc + k * 4 + 3, none⟩ = some (.int .i64 y.2.2.2) := fun W h => keepc r3 (hCB W h)
                  have f4 : ∀ W, C W → W.cell? ⟨bc, oc + i * 4 + 3, none⟩ = some (.int .i64 x.2.2.2) := fun W h => keepc r4 (hCB W h)
                  go_wp2_with fail
                  refine wp_region_cls C (by kernel_rfl) (by kernel_rfl) hCd ?_
                  repeat (first | go_big_quiet_skip | (go_big_quiet_want; go_big_quiet_op; first | go_big_quiet_on | (apply Exists.intro; refine ⟨fun W hW => ?_, ?_⟩; (focus ((first | exact rfl | exact ⟨rfl, rfl⟩ | (simp only [f3 W hW, f4 W hW, Result.andThen_ok]; first | done | exact ⟨trivial, rfl⟩ | exact rfl | exact ⟨rfl, rfl⟩) | (skip)); done)); go_big_quiet_on)))
                  refine wpQuiet_nil ?_
                  intro wz hwz
                  have HBZ := Lib.hid (keep_below (hCB wz hwz) HBK.out)
                  have HOZ := Lib.hid (ownsRow_same HOK.out (fun b hb => (hCB wz hwz).block b (HOK.out.lt b hb).2))
                  clear f3 f4 hCd hCB hwz hCw hCK hCD r3 r4
                  go_wp2_with fail
                  go_roundw
                  case rel => exact ⟨k + 1, wk, HKL.out, by go_num, rfl, by rw [HT.out]; exact HWK.out, by rw [HT.out]; exact HOZ.out, HBZ.out⟩
                  case measure => have := HKL.out; simp [RowKit.intOf]; omega
                 | true =>
                  have HT : Hid (againIx L i (k + 1) = againIx L i k ++ [k]) := Lib.hid (by rw [HTS.out, hrow]; simp [hki])
                  clear hki
                  have hgl := HSG5.out.2.1
                  obtain ⟨ck, hck⟩ : ∃ c, got.getD k [] = c := ⟨_, rfl⟩
                  have hgk : got[k]? = some ck := by rw [← hck, List.getD_eq_getElem?_getD, List.getElem?_eq_getElem (show k < got.length by omega)]; rfl
                  have hkg : k < got.length := by omega
                  have HCK := Lib.hid hck
                  have HGK := Lib.hid hgk
                  clear hck hgk hgl
                  obtain ⟨C, hCd, hCw, hCB, hCK, hCD⟩ := cls_below wr
                  have f3 : ∀ W, C W → W.cell? ⟨bc, oc + k * 4 + 3, none⟩ = some (.int .i64 y.2.2.2) := fun W h => keepc r3 (hCB W h)
                  have f4 : ∀ W, C W → W.cell? ⟨bc, oc + i * 4 + 3, none⟩ = some (.int .i64 x.2.2.2) := fun W h => keepc r4 (hCB W h)
                  go_wp2_with fail
                  refine wp_region_cls C (by kernel_rfl) (by kernel_rfl) hCd ?_
                  repeat (first | go_big_quiet_skip | (go_big_quiet_want; go_big_quiet_op; first | go_big_quiet_on | (apply Exists.intro; refine ⟨fun W hW => ?_, ?_⟩; (focus ((first | exact rfl | exact ⟨rfl, rfl⟩ | (simp only [f3 W hW, f4 W hW, Result.andThen_ok]; first | done | exact ⟨trivial, rfl⟩ | exact rfl | exact ⟨rfl, rfl⟩) | (skip)); done)); go_big_quiet_on)))
                  refine wpQuiet_nil ?_
                  intro wz hwz
                  have HBZ := Lib.hid (keep_below (hCB wz hwz) HBK.out)
                  have HOZ := Lib.hid (ownsRow_same HOK.out (fun b hb => (hCB wz hwz).block b (HOK.out.lt b hb).2))
                  clear f3 f4 hCd hCB hwz hCw hCK hCD r3 r4
                  have q5 := keepc (keepc (keepc (HCB.out.2.2.2 _ _ (strC_at HGK.out)) HB.out) HBI.out) HBZ.out
                  have hal := againIx_len L i k
                  have HMP : Hid ((againIx L i (k + 1)).map (fun i => got.getD i []) = (againIx L i k).map (fun i => got.getD i []) ++ [ck]) := Lib.hid (by rw [HT.out, List.map_append, ← HCK.out]; rfl)
                  obtain ⟨P, hP⟩ : ∃ P, (againIx L i k).map (fun i => got.getD i []) = P := ⟨_, rfl⟩
                  obtain ⟨R, hR⟩ : ∃ R, againIx L i k = R := ⟨_, rfl⟩
                  rw [hP] at HOZ HMP HWK
                  rw [hR] at HOZ HT hal
                  clear hP hR HOK
                  go_wp2_with (at_builtin; refine wpList_append_own _ rfl _ _ 60 rfl wx.heap.size 9 i0 _ 1 16 Tryz.underlying60 hi hz0 hz1 hz2 rfl (by decide) _ _ _ rfl (HOZ.out.alloc _) ⟨wz.heap.size, 0, none⟩ 1 1 [str ck] rfl rfl ?c1a ?c2a (by unfold maxLen; omega) (by omega) ?c5a ?_)
                  try (case c1a => exact one_new' _ _ _)
                  case c2a => first | rfl | (intro u hu; simp at hu; subst hu; rfl)
                  case c5a => have := HBZ.out.size; simp; omega
                  intro v' w8 hown' hgrow _
                  have hown8 : w8.ownsRow wx.heap.size 9 1 v' (againIx L i (k + 1)).length (strC ((againIx L i (k + 1)).map fun i => got.getD i [])) := by
                   rw [HMP.out, HT.out, strC_snoc, List.length_append]
                   exact hown'
                  have hb8 : Below wx.heap.size wx w8 := (HBZ.out.alloc HBZ.out.size _).grown hgrow (by have := HBZ.out.size; simp; omega) (fun k hk => (HOZ.out.lt k hk).1)
                  have q6 := keepc (keepc (keepc (HCB.out.2.2.2 _ _ (strC_at HGK.out)) HB.out) HBI.out) hb8
                  have HO8 := Lib.hid hown8
                  have HB8 := Lib.hid hb8
                  have HWN : Hid ((wk && !ck.isEmpty) = (wb && !hasE ((againIx L i (k + 1)).map fun i => got.getD i []))) := Lib.hid (by rw [HMP.out, hasE_snoc, HWK.out, Bool.not_or, Bool.and_assoc])
                  clear hown' hgrow hown8 hb8 q5
                  cases wk <;>
                  (
                    go_wp2_with fail
                    go_roundw
                    case rel => exact ⟨k + 1, _, HKL.out, by go_num, rfl, HWN.out, HO8.out, HB8.out⟩
                    case measure => have := HKL.out; simp [RowKit.intOf]; omega)
             · obtain rfl : k = L.length := by omega
               have hd4 : decide (L.length < L.length) = false := decide_eq_false (by omega)
               obtain ⟨P, hP⟩ : ∃ P, (againIx L i L.length).map (fun i => got.getD i []) = P := ⟨_, rfl⟩
               have hPl : (againIx L i L.length).length = P.length := by rw [← hP, List.length_map]
               have hsl := slAt_own HOK.out
               rw [hP, hPl] at hsl
               rw [hP] at HWK
               have hne : P ≠ [] := fun e => again_ne HPL.out HLT.out (List.length_eq_zero_iff.1 (by rw [hPl, e]; rfl))
               have hPn : P.length ≤ 64 := by rw [← hPl]; exact Nat.le_trans (againIx_len _ _ _) hO64
               have hPg : ∀ s ∈ P, s ≠ [] → s.length = 64 := fun s hs hn => by
                rw [← hP] at hs
                obtain ⟨j, hj, rfl⟩ := List.mem_map.1 hs
                have hjl := (againIx_mem.1 hj).1
                have hgl := HSG5.out.2.1
                refine HSG5.out.2.2.2 _ (List.mem_of_getElem? (i := j) ?_) hn
                rw [List.getD_eq_getElem?_getD, List.getElem?_eq_getElem (show j < got.length by omega)]
                rfl
               have hag : againS L got i = if hasE P then [] else makeS P := by unfold againS; rw [hP]
               have HBW := Lib.hid (keep_below hbk HBI.out)
               have HAS := Lib.hid hag
               cases wk with
               | false =>
                have hse : hasE (partsT L got kn D (i + 1)) = true := by
                 rw [HNX.out.2, HCE.out, hasE_snoc, hag]
                 have h1 := HWK.out
                 have h2 := HST.out.1
                 cases wb with
                 | false =>
                  rw [show hasE (partsT L got kn D i) = true by revert h2; cases hasE (partsT L got kn D i) <;> simp]
                  rfl
                 | true =>
                  rw [show hasE P = true by revert h1; cases hasE P <;> simp]
                  simp
                have HSN : Hid ((S ++ cx).length ≤ 64 * (i + 1) ∧ false = (!hasE (partsT L got kn D (i + 1))) ∧ (false = true → S ++ cx = (partsT L got kn D (i + 1)).flatten)) := Lib.hid ⟨by rw [List.length_append]; omega, by rw [hse]; rfl, fun h => (by cases h)⟩
                clear hP hPl hsl hne hPn hPg hag hse hbk
                go_wp2_with fail
                go_roundw
                case rel => exact ⟨i + 1, _, _, _, HLT.out, by go_num, rfl, HSN.out.1, rfl, HSN.out.2.1, rfl, HOE.out, HSN.out.2.2, HBW.out⟩
                case measure => have := HLT.out; simp [RowKit.intOf]; omega
               | true =>
                have h1 : wb = true ∧ hasE P = false := by
                 have := HWK.out.symm
                 rw [Bool.and_eq_true] at this
                 exact ⟨this.1, by simpa using this.2⟩
                have hP64 : ∀ s ∈ P, s.length = 64 := fun s hs => hPg s hs fun e => by
                 have := h1.2
                 unfold hasE at this
                 rw [List.any_eq_false] at this
                 exact this s hs (by rw [e]; rfl)
                have HXO := Lib.hid (refXor_any hsl hne hP64 (by omega) (by omega) (by omega))
                obtain ⟨Ap, cp, rfl⟩ := hsl.form
                have hml : (makeS P).length = 64 := (makeS_get (k := 0) (by omega) hne hP64).2
                obtain ⟨mt, hmt⟩ : ∃ mt, makeS P = mt := ⟨_, rfl⟩
                rw [hmt] at HXO hml
                have hme : mt.isEmpty = false := by cases mt with
                 | nil => simp at hml
                 | cons a r => rfl
                have hpn : partsT L got kn D (i + 1) = partsT L got kn D i ++ [mt] := by rw [HNX.out.2, HCE.out, hag, h1.2, hmt]; rfl
                have HSN : Hid ((S ++ mt).length ≤ 64 * (i + 1) ∧ (!mt.isEmpty) = (!hasE (partsT L got kn D (i + 1))) ∧ ((!mt.isEmpty) = true → S ++ mt = (partsT L got kn D (i + 1)).flatten)) := Lib.hid (by
                 have h2 := HST.out.1
                 rw [h1.1] at h2
                 rw [hpn, hasE_snoc, Bool.not_or, ← h2]
                 refine ⟨by rw [List.length_append]; omega, rfl, fun _ => ?_⟩
                 rw [HST.out.2.2 h1.1, List.flatten_append]
                 simp)
                clear hP hPl hne hPn hPg hag hbk h1 hP64 hsl hmt hme hpn
                go_wp2_with fail
                refine HXO.out.mono ?_
                rintro e wy ⟨rfl, hby⟩
                have HBY := Lib.hid (keep_below hby HBW.out)
                clear hby
                go_wp2_with fail
                go_roundw
                case rel => exact ⟨i + 1, _, _, _, HLT.out, by go_num, rfl, HSN.out.1, rfl, HSN.out.2.1, rfl, HOE.out, HSN.out.2.2, HBY.out⟩
                case measure => have := HLT.out; simp [RowKit.intOf]; omega
          · go_wp2_with fail
            go_loopw [15, 19, 20] (fun wh pv t wr => ∃ k : Nat, ∃ wk : Bool, k ≤ L.length ∧ t = .int .i64 k ∧ wh = .bool wk ∧ wk = (wb && !hasE ((againIx L i k).map fun i => got.getD i [])) ∧ wr.ownsRow wx.heap.size 9 1 pv (againIx L i k).length (strC ((againIx L i k).map fun i => got.getD i [])) ∧ Below wx.heap.size wx wr) (fun _ _ t _ => L.length - (RowKit.intOf t).toNat)
            case atStart => exact ⟨0, _, Nat.zero_le _, rfl, rfl, HW0.out, World.ownsRow_nil _ _ _ _, Below.refl _ _⟩
            case round =>
             obtain ⟨k, wk, hk2, rfl, rfl, hwk, hownk, hbk⟩ := hrel
             have HBK := Lib.hid hbk
             have HOK := Lib.hid hownk
             have HWK := Lib.hid hwk
             clear hwk hownk
             by_cases hlk : k < L.length
             · have hd4 : decide (k < L.length) = true := decide_eq_true hlk
               have hy := colD_in hlk
               obtain ⟨y, hyd⟩ : ∃ y, L.getD k (0, 0, false, 0) = y := ⟨_, rfl⟩
               rw [hyd] at hy
               have r3 := keepc (keepc (keepc (HCB.out.2.1 _ _ (colsCells_at hy).2.2.2) HB.out) HBI.out) hbk
               rw [← Nat.add_assoc] at r3
               have r4 := keepc (keepc HQ3.out HBI.out) hbk
               have hst := againIx_step L i k
               rw [hyd, HXD.out.1] at hst
               have HKL := Lib.hid hlk
               have HTS := Lib.hid hst
               clear hst hy hyd hbk
               by_cases hki : k = i
               · have hkb : ((k : Int) != i) = false := by rw [bne_eq_false_iff_eq]; omega
                 have HT : Hid (againIx L i (k + 1) = againIx L i k) := Lib.hid (by rw [HTS.out, hki]; simp)
                 clear hki
                 obtain ⟨C, hCd, hCw, hCB, hCK, hCD⟩ := cls_below wr
                 have f3 : ∀ W, C W → W.cell? ⟨bc, oc + k * 4 + 3, none⟩ = some (.int .i64 y.2.2.2) := fun W h => keepc r3 (hCB W h)
                 have f4 : ∀ W, C W → W.cell? ⟨bc, oc + i * 4 + 3, none⟩ = some (.int .i64 x.2.2.2) := fun W h => keepc r4 (hCB W h)
                 go_wp2_with fail
                 refine wp_region_cls C (by kernel_rfl) (by kernel_rfl) hCd ?_
                 repeat (first | go_big_quiet_skip | (go_big_quiet_want; go_big_quiet_op; first | go_big_quiet_on | (apply Exists.intro; refine ⟨fun W hW => ?_, ?_⟩; (focus ((first | exact rfl | exact ⟨rfl, rfl⟩ | (simp only [f3 W hW, f4 W hW, Result.andThen_ok]; first | done | exact ⟨trivial, rfl⟩ | exact rfl | exact ⟨rfl, rfl⟩) | (skip)); done)); go_big_quiet_on)))
                 refine wpQuiet_nil ?_
                 intro wz hwz
                 have HBZ := Lib.hid (keep_below (hCB wz hwz) HBK.out)
                 have HOZ := Lib.hid (ownsRow_same HOK.out (fun b hb => (hCB wz hwz).block b (HOK.out.lt b hb).2))
                 clear f3 f4 hCd hCB hwz hCw hCK hCD r3 r4
                 go_wp2_with fail
                 go_roundw
                 case rel => exact ⟨k + 1, wk, HKL.out, by go_num, rfl, by rw [HT.out]; exact HWK.out, by rw [HT.out]; exact HOZ.out, HBZ.out⟩
                 case measure => have := HKL.out; simp [RowKit.intOf]; omega
               · have hkb : ((k : Int) != i) = true := by rw [bne_iff_ne]; omega
                 cases hrow : (y.2.2.2 == x.2.2.2) with
                 | false =>
                  have HT : Hid (againIx L i (k + 1) = againIx L i k) := Lib.hid (by rw [HTS.out, hrow]; simp)
                  clear hki
                  obtain ⟨C, hCd, hCw, hCB, hCK, hCD⟩ := cls_below wr
                  have f3 : ∀ W, C W → W.cell? ⟨bc, oc + k * 4 + 3, none⟩ = some (.int .i64 y.2.2.2) := fun W h => keepc r3 (hCB W h)
                  have f4 : ∀ W, C W → W.cell? ⟨bc, oc + i * 4 + 3, none⟩ = some (.int .i64 x.2.2.2) := fun W h => keepc r4 (hCB W h)
                  go_wp2_with fail
                  refine wp_region_cls C (by kernel_rfl) (by kernel_rfl) hCd ?_
                  repeat (first | go_big_quiet_skip | (go_big_quiet_want; go_big_quiet_op; first | go_big_quiet_on | (apply Exists.intro; refine ⟨fun W hW => ?_, ?_⟩; (focus ((first | exact rfl | exact ⟨rfl, rfl⟩ | (simp only [f3 W hW, f4 W hW, Result.andThen_ok]; first | done | exact ⟨trivial, rfl⟩ | exact rfl | exact ⟨rfl, rfl⟩) | (skip)); done)); go_big_quiet_on)))
                  refine wpQuiet_nil ?_
                  intro wz hwz
                  have HBZ := Lib.hid (keep_below (hCB wz hwz) HBK.out)
                  have HOZ := Lib.hid (ownsRow_same HOK.out (fun b hb => (hCB wz hwz).block b (HOK.out.lt b hb).2))
                  clear f3 f4 hCd hCB hwz hCw hCK hCD r3 r4
                  go_wp2_with fail
                  go_roundw
                  case rel => exact ⟨k + 1, wk, HKL.out, by go_num, rfl, by rw [HT.out]; exact HWK.out, by rw [HT.out]; exact HOZ.out, HBZ.out⟩
                  case measure => have := HKL.out; simp [RowKit.intOf]; omega
                 | true =>
                  have HT : Hid (againIx L i (k + 1) = againIx L i k ++ [k]) := Lib.hid (by rw [HTS.out, hrow]; simp [hki])
                  clear hki
                  have hgl := HSG5.out.2.1
                  obtain ⟨ck, hck⟩ : ∃ c, got.getD k [] = c := ⟨_, rfl⟩
                  have hgk : got[k]? = some ck := by rw [← hck, List.getD_eq_getElem?_getD, List.getElem?_eq_getElem (show k < got.length by omega)]; rfl
                  have hkg : k < got.length := by omega
                  have HCK := Lib.hid hck
                  have HGK := Lib.hid hgk
                  clear hck hgk hgl
                  obtain ⟨C, hCd, hCw, hCB, hCK, hCD⟩ := cls_below wr
                  have f3 : ∀ W, C W → W.cell? ⟨bc, oc + k * 4 + 3, none⟩ = some (.int .i64 y.2.2.2) := fun W h => keepc r3 (hCB W h)
                  have f4 : ∀ W, C W → W.cell? ⟨bc, oc + i * 4 + 3, none⟩ = some (.int .i64 x.2.2.2) := fun W h => keepc r4 (hCB W h)
                  go_wp2_with fail
                  refine wp_region_cls C (by kernel_rfl) (by kernel_rfl) hCd ?_
                  repeat (first | go_big_quiet_skip | (go_big_quiet_want; go_big_quiet_op; first | go_big_quiet_on | (apply Exists.intro; refine ⟨fun W hW => ?_, ?_⟩; (focus ((first | exact rfl | exact ⟨rfl, rfl⟩ | (simp only [f3 W hW, f4 W hW, Result.andThen_ok]; first | done | exact ⟨trivial, rfl⟩ | exact rfl | exact ⟨rfl, rfl⟩) | (skip)); done)); go_big_quiet_on)))
                  refine wpQuiet_nil ?_
                  intro wz hwz
                  have HBZ := Lib.hid (keep_below (hCB wz hwz) HBK.out)
                  have HOZ := Lib.hid (ownsRow_same HOK.out (fun b hb => (hCB wz hwz).block b (HOK.out.lt b hb).2))
                  clear f3 f4 hCd hCB hwz hCw hCK hCD r3 r4
                  have q5 := keepc (keepc (keepc (HCB.out.2.2.2 _ _ (strC_at HGK.out)) HB.out) HBI.out) HBZ.out
                  have hal := againIx_len L i k
                  have HMP : Hid ((againIx L i (k + 1)).map (fun i => got.getD i []) = (againIx L i k).map (fun i => got.getD i []) ++ [ck]) := Lib.hid (by rw [HT.out, List.map_append, ← HCK.out]; rfl)
                  obtain ⟨P, hP⟩ : ∃ P, (againIx L i k).map (fun i => got.getD i []) = P := ⟨_, rfl⟩
                  obtain ⟨R, hR⟩ : ∃ R, againIx L i k = R := ⟨_, rfl⟩
                  rw [hP] at HOZ HMP HWK
                  rw [hR] at HOZ HT hal
                  clear hP hR HOK
                  go_wp2_with (at_builtin; refine wpList_append_own _ rfl _ _ 60 rfl wx.heap.size 9 i0 _ 1 16 Tryz.underlying60 hi hz0 hz1 hz2 rfl (by decide) _ _ _ rfl (HOZ.out.alloc _) ⟨wz.heap.size, 0, none⟩ 1 1 [str ck] rfl rfl ?c1b ?c2b (by unfold maxLen; omega) (by omega) ?c5b ?_)
                  try (case c1b => exact one_new' _ _ _)
                  case c2b => first | rfl | (intro u hu; simp at hu; subst hu; rfl)
                  case c5b => have := HBZ.out.size; simp; omega
                  intro v' w8 hown' hgrow _
                  have hown8 : w8.ownsRow wx.heap.size 9 1 v' (againIx L i (k + 1)).length (strC ((againIx L i (k + 1)).map fun i => got.getD i [])) := by
                   rw [HMP.out, HT.out, strC_snoc, List.length_append]
                   exact hown'
                  have hb8 : Below wx.heap.size wx w8 := (HBZ.out.alloc HBZ.out.size _).grown hgrow (by have := HBZ.out.size; simp; omega) (fun k hk => (HOZ.out.lt k hk).1)
                  have q6 := keepc (keepc (keepc (HCB.out.2.2.2 _ _ (strC_at HGK.out)) HB.out) HBI.out) hb8
                  have HO8 := Lib.hid hown8
                  have HB8 := Lib.hid hb8
                  have HWN : Hid ((wk && !ck.isEmpty) = (wb && !hasE ((againIx L i (k + 1)).map fun i => got.getD i []))) := Lib.hid (by rw [HMP.out, hasE_snoc, HWK.out, Bool.not_or, Bool.and_assoc])
                  clear hown' hgrow hown8 hb8 q5
                  cases wk <;>
                  (
                    go_wp2_with fail
                    go_roundw
                    case rel => exact ⟨k + 1, _, HKL.out, by go_num, rfl, HWN.out, HO8.out, HB8.out⟩
                    case measure => have := HKL.out; simp [RowKit.intOf]; omega)
             · obtain rfl : k = L.length := by omega
               have hd4 : decide (L.length < L.length) = false := decide_eq_false (by omega)
               obtain ⟨P, hP⟩ : ∃ P, (againIx L i L.length).map (fun i => got.getD i []) = P := ⟨_, rfl⟩
               have hPl : (againIx L i L.length).length = P.length := by rw [← hP, List.length_map]
               have hsl := slAt_own HOK.out
               rw [hP, hPl] at hsl
               rw [hP] at HWK
               have hne : P ≠ [] := fun e => again_ne HPL.out HLT.out (List.length_eq_zero_iff.1 (by rw [hPl, e]; rfl))
               have hPn : P.length ≤ 64 := by rw [← hPl]; exact Nat.le_trans (againIx_len _ _ _) hO64
               have hPg : ∀ s ∈ P, s ≠ [] → s.length = 64 := fun s hs hn => by
                rw [← hP] at hs
                obtain ⟨j, hj, rfl⟩ := List.mem_map.1 hs
                have hjl := (againIx_mem.1 hj).1
                have hgl := HSG5.out.2.1
                refine HSG5.out.2.2.2 _ (List.mem_of_getElem? (i := j) ?_) hn
                rw [List.getD_eq_getElem?_getD, List.getElem?_eq_getElem (show j < got.length by omega)]
                rfl
               have hag : againS L got i = if hasE P then [] else makeS P := by unfold againS; rw [hP]
               have HBW := Lib.hid (keep_below hbk HBI.out)
               have HAS := Lib.hid hag
               cases wk with
               | false =>
                have hse : hasE (partsT L got kn D (i + 1)) = true := by
                 rw [HNX.out.2, HCE.out, hasE_snoc, hag]
                 have h1 := HWK.out
                 have h2 := HST.out.1
                 cases wb with
                 | false =>
                  rw [show hasE (partsT L got kn D i) = true by revert h2; cases hasE (partsT L got kn D i) <;> simp]
                  rfl
                 | true =>
                  rw [show hasE P = true by revert h1; cases hasE P <;> simp]
                  simp
                have HSN : Hid ((S ++ cx).length ≤ 64 * (i + 1) ∧ false = (!hasE (partsT L got kn D (i + 1))) ∧ (false = true → S ++ cx = (partsT L got kn D (i + 1)).flatten)) := Lib.hid ⟨by rw [List.length_append]; omega, by rw [hse]; rfl, fun h => (by cases h)⟩
                clear hP hPl hsl hne hPn hPg hag hse hbk
                go_wp2_with fail
                go_roundw
                case rel => exact ⟨i + 1, _, _, _, HLT.out, by go_num, rfl, HSN.out.1, rfl, HSN.out.2.1, rfl, HOE.out, HSN.out.2.2, HBW.out⟩
                case measure => have := HLT.out; simp [RowKit.intOf]; omega
               | true =>
                have h1 : wb = true ∧ hasE P = false := by
                 have := HWK.out.symm
                 rw [Bool.and_eq_true] at this
                 exact ⟨this.1, by simpa using this.2⟩
                have hP64 : ∀ s ∈ P, s.length = 64 := fun s hs => hPg s hs fun e => by
                 have := h1.2
                 unfold hasE at this
                 rw [List.any_eq_false] at this
                 exact this s hs (by rw [e]; rfl)
                have HXO := Lib.hid (refXor_any hsl hne hP64 (by omega) (by omega) (by omega))
                obtain ⟨Ap, cp, rfl⟩ := hsl.form
                have hml : (makeS P).length = 64 := (makeS_get (k := 0) (by omega) hne hP64).2
                obtain ⟨mt, hmt⟩ : ∃ mt, makeS P = mt := ⟨_, rfl⟩
                rw [hmt] at HXO hml
                have hme : mt.isEmpty = false := by cases mt with
                 | nil => simp at hml
                 | cons a r => rfl
                have hpn : partsT L got kn D (i + 1) = partsT L got kn D i ++ [mt] := by rw [HNX.out.2, HCE.out, hag, h1.2, hmt]; rfl
                have HSN : Hid ((S ++ mt).length ≤ 64 * (i + 1) ∧ (!mt.isEmpty) = (!hasE (partsT L got kn D (i + 1))) ∧ ((!mt.isEmpty) = true → S ++ mt = (partsT L got kn D (i + 1)).flatten)) := Lib.hid (by
                 have h2 := HST.out.1
                 rw [h1.1] at h2
                 rw [hpn, hasE_snoc, Bool.not_or, ← h2]
                 refine ⟨by rw [List.length_append]; omega, rfl, fun _ => ?_⟩
                 rw [HST.out.2.2 h1.1, List.flatten_append]
                 simp)
                clear hP hPl hne hPn hPg hag hbk h1 hP64 hsl hmt hme hpn
                go_wp2_with fail
                refine HXO.out.mono ?_
                rintro e wy ⟨rfl, hby⟩
                have HBY := Lib.hid (keep_below hby HBW.out)
                clear hby
                go_wp2_with fail
                go_roundw
                case rel => exact ⟨i + 1, _, _, _, HLT.out, by go_num, rfl, HSN.out.1, rfl, HSN.out.2.1, rfl, HOE.out, HSN.out.2.2, HBY.out⟩
                case measure => have := HLT.out; simp [RowKit.intOf]; omega
     · obtain rfl : i = L.length := by omega
       have hd2 : decide (L.length < L.length) = false := decide_eq_false (by omega)
       have hone : refOneT L got Fn kn D = if ob && wb then some (if D < Fn then -1 else D, S) else none := by
        unfold refOneT
        rw [← hob, ← hwb]
        cases ob <;> cases wb <;> simp only [Bool.true_and, Bool.false_and, Bool.and_false, if_true, if_false, Bool.false_eq_true]
        rw [← hSf rfl]
       have hst := refTo_step L got Fn kn j
       rw [← HDD.out, hone] at hst
       have HOZ := Lib.hid (ownsRow_same HOWN.out (fun b hb2 => hb.block b (HOWN.out.lt b hb2).2))
       have HBZ := Lib.hid (keep_below hb HB.out)
       have HSZ := Lib.hid hst
       have hnl := refTo_len L got Fn kn j
       obtain ⟨R, hR⟩ : ∃ R, refTo L got Fn kn j = R := ⟨_, rfl⟩
       rw [hR] at HOZ HSZ hnl
       clear hob hwb hSf hone hst hb hR k0 k1 hi2
       cases ob with
       | false =>
        go_wp2_with fail
        go_roundw
        case rel => exact ⟨j + 1, D + 1, HJ.out, by have := HDD.out; omega, by go_num, by rw [HSZ.out]; simpa using HOZ.out, HBZ.out⟩
        case measure => have := HJ.out; have := HDD.out; simp [RowKit.intOf]; omega
       | true =>
        cases wb with
        | false =>
         go_wp2_with fail
         go_roundw
         case rel => exact ⟨j + 1, D + 1, HJ.out, by have := HDD.out; omega, by go_num, by rw [HSZ.out]; simpa using HOZ.out, HBZ.out⟩
         case measure => have := HJ.out; have := HDD.out; simp [RowKit.intOf]; omega
        | true =>
         by_cases hdF : D < (Fn : Int)
         · have hd3 : decide (D < (Fn : Int)) = true := decide_eq_true hdF
           have HZ : Hid (refTo L got Fn kn (j + 1) = R ++ [(-1, S)]) := Lib.hid (by rw [HSZ.out, if_pos hdF]; rfl)
           clear hdF
           go_wp2_with (at_builtin; go_loud (refine wpList_append_own _ rfl _ _ 105 rfl w5.heap.size 108 i1 _ 2 24 Tryz.underlying105 hj hy0 hy1 hy2 rfl (by decide) _ _ _ rfl (HOZ.out.alloc _) ⟨wr.heap.size, 0, none⟩ 1 1 [.int .i64 (-1), str S] rfl rfl ?e1a ?e2a (by unfold maxLen; omega) (by omega) ?e5a ?_))
           try (case e1a => exact try_new' _ _ _ _)
           case e2a => exact ⟨rfl, rfl⟩
           case e5a => have := HBZ.out.size; simp; omega
           intro v' w9 hown' hgrow _
           have hown9 : w9.ownsRow w5.heap.size 108 2 v' (refTo L got Fn kn (j + 1)).length (trC (refTo L got Fn kn (j + 1))) := by
            rw [HZ.out, trC_snoc, List.length_append]
            exact hown'
           have hb9 : Below w5.heap.size w5 w9 := (HBZ.out.alloc HBZ.out.size _).grown hgrow (by have := HBZ.out.size; simp; omega) (fun k hk => (HOZ.out.lt k hk).1)
           have HO9 := Lib.hid hown9
           have HB9 := Lib.hid hb9
           clear hown' hgrow hown9 hb9
           go_wp2_with fail
           go_roundw
           case rel => exact ⟨j + 1, D + 1, HJ.out, by have := HDD.out; omega, by go_num, HO9.out, HB9.out⟩
           case measure => have := HJ.out; have := HDD.out; simp [RowKit.intOf]; omega
         · have hd3 : decide (D < (Fn : Int)) = false := decide_eq_false hdF
           have HZ : Hid (refTo L got Fn kn (j + 1) = R ++ [(D, S)]) := Lib.hid (by rw [HSZ.out, if_neg hdF]; rfl)
           clear hdF
           go_wp2_with (at_builtin; go_loud (refine wpList_append_own _ rfl _ _ 105 rfl w5.heap.size 108 i1 _ 2 24 Tryz.underlying105 hj hy0 hy1 hy2 rfl (by decide) _ _ _ rfl (HOZ.out.alloc _) ⟨wr.heap.size, 0, none⟩ 1 1 [.int .i64 (D), str S] rfl rfl ?e1b ?e2b (by unfold maxLen; omega) (by omega) ?e5b ?_))
           try (case e1b => exact try_new' _ _ _ _)
           case e2b => exact ⟨rfl, rfl⟩
           case e5b => have := HBZ.out.size; simp; omega
           intro v' w9 hown' hgrow _
           have hown9 : w9.ownsRow w5.heap.size 108 2 v' (refTo L got Fn kn (j + 1)).length (trC (refTo L got Fn kn (j + 1))) := by
            rw [HZ.out, trC_snoc, List.length_append]
            exact hown'
           have hb9 : Below w5.heap.size w5 w9 := (HBZ.out.alloc HBZ.out.size _).grown hgrow (by have := HBZ.out.size; simp; omega) (fun k hk => (HOZ.out.lt k hk).1)
           have HO9 := Lib.hid hown9
           have HB9 := Lib.hid hb9
           clear hown' hgrow hown9 hb9
           go_wp2_with fail
           go_roundw
           case rel => exact ⟨j + 1, D + 1, HJ.out, by have := HDD.out; omega, by go_num, HO9.out, HB9.out⟩
           case measure => have := HJ.out; have := HDD.out; simp [RowKit.intOf]; omega
  · obtain rfl : j = kn + wn := by omega
    have hd1 : decide (D < (Fn : Int) + (wn : Int)) = false := decide_eq_false (by have := HDD.out; omega)
    have HBW := Lib.hid (keep_below HB.out (keep_below HB5.out HB3.out))
    have hsl := slAt_own HOWN.out
    rw [HRES.out] at hsl
    have HS := Lib.hid hsl
    obtain ⟨Av, cv, rfl⟩ := hsl.form
    clear hsl HOWN hlt
    go_wp2_with fail
    go_ret
    exact ⟨_, rfl, HS.out, HBW.out⟩
end Go.Proofs.YtbhkbcpljakmjaaGreat
