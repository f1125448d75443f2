/-
  Contracts of package code: Fits, Bad.
  Plain words on the devices of columns: sorted, each once.
  What columns may come to, in plain words; slices.Contains of the empty text.
  Columns made again: what was encoded comes back. No program stands here.
-/
import Derived.Test.YtbhkbcpljakmjaaGreatJ12
import Derived.Test.YtbhkbcpljakmjaaGreatJ01
import Derived.Lib.RowBridge
import Derived.Test.YtbhkbcpljakmjaaGreatJ11
namespace Go.Proofs.YtbhkbcpljakmjaaGreat
set_option linter.unusedVariables false
set_option linter.unusedSimpArgs false
open Go.RowKit
def fitP (s : List UInt8) : Bool := !s.isEmpty && ((s.length : Int) != 64)
def fitsB (gs : List (Int × Int)) (secs pg pa size : Int) (got : List (List UInt8)) : Bool := cMay gs secs pg pa size && (got.length == (colsOf gs secs pg pa size).length) && !got.any fitP
def badL (gs : List (Int × Int)) (secs pg pa : Int) (s : List UInt8) (got : List (List UInt8)) : List Nat :=
 if decide (encE gs secs pg pa s = 0) && fitsB gs secs pg pa (secN s) got then (List.range (encL gs secs pg pa s).length).filter fun i => (encL gs secs pg pa s).getD i [] != got.getD i [] else []
theorem fitOne_any (s : List UInt8) (w : World) : Calls Tryz.prog 115 #[str s] w fun e w' => e = .returned (.bool (fitP s)) ∧ Below w.heap.size w w' := by
 by_cases h : s = []
 · subst h
   go_enter Tryz.func115, Tryz.ntmps115
   go_wp2_with fail
   go_ret
   exact ⟨rfl, Below.refl _ _⟩
 · have hb : s.isEmpty = false := by simpa using h
   cases h2 : ((s.length : Int) != 64) with
   | false =>
    have HF : Hid (fitP s = false) := Lib.hid (by unfold fitP; rw [hb, h2]; rfl)
    go_enter Tryz.func115, Tryz.ntmps115
    go_wp2_with fail
    go_ret
    exact ⟨by rw [HF.out]; rfl, Below.refl _ _⟩
   | true =>
    have HF : Hid (fitP s = true) := Lib.hid (by unfold fitP; rw [hb, h2]; rfl)
    go_enter Tryz.func115, Tryz.ntmps115
    go_wp2_with fail
    go_ret
    exact ⟨by rw [HF.out]; rfl, Below.refl _ _⟩
theorem goesFit : ∀ (args : Array Value) (w : World), (callFunc 115 args).run Tryz.prog w = .ok (.enter 115 args) w := enters_of Tryz.func115 (by kernel_rfl) (by kernel_rfl)
theorem ofList_bad {gs : List (Int × Int)} {secs pg pa size : Int} (h : ofErr gs secs pg pa size ≠ 0) : cMay gs secs pg pa size = false := by
 unfold ofErr at h
 split at h
 · exact absurd rfl h
 · rename_i h2; simpa using h2
theorem ofErr_ok {gs : List (Int × Int)} {secs pg pa size : Int} (h : ofErr gs secs pg pa size = 0) : cMay gs secs pg pa size = true ∧ ofList gs secs pg pa size = colsOf gs secs pg pa size := by
 unfold ofErr at h
 split at h
 · rename_i h2; exact ⟨h2, by unfold ofList; rw [if_pos h2]⟩
 · cases h
set_option maxRecDepth 20000 in
theorem fits_any (A : Option Addr) (m cc : Nat) (gs : List (Int × Int)) (secs pg pa size : Int) {gv : Value} {got : List (List UInt8)} {w : World} (hg : GeoAt w A m gs) (hs : SlAt w gv got.length (strC got)) :
 Calls Tryz.prog 88 #[.agg #[.slice A m cc, .int .i64 secs], .agg #[.int .i64 pg, .int .i64 pa], .int .i64 size, gv] w fun e w' => e = .returned (.bool (fitsB gs secs pg pa size got)) ∧ Below w.heap.size w w' := by
 obtain ⟨w2, hw2⟩ : ∃ z, (w.alloc (.cells #[.slice A m cc, .int .i64 secs] 24)).alloc (.cells #[.int .i64 pg, .int .i64 pa] 26) = z := ⟨_, rfl⟩
 have D2 : Below w.heap.size w w2 := by rw [← hw2]; exact keep_alloc (keep_alloc (Below.refl _ _) _) _
 have HO := Lib.hid (of_any A m cc gs secs pg pa size w2 (hg.below D2 (Nat.le_refl _)))
 have HSL := Lib.hid (hs.below D2)
 obtain ⟨Ag, cg, rfl⟩ := hs.form
 have HD2 := Lib.hid D2
 have HW2 := Lib.hid hw2
 clear hg hs D2 hw2
 obtain ⟨oe, hoe0⟩ : ∃ oe, ofErr gs secs pg pa size = oe := ⟨_, rfl⟩
 rw [hoe0] at HO
 have HOE := Lib.hid hoe0
 clear hoe0
 go_enter Tryz.func88, Tryz.ntmps88
 go_wp2_with fail
 rw [HW2.out]
 refine HO.out.mono ?_
 rintro e w3 ⟨cv, rfl, hcol, hb3⟩
 have HB3 := Lib.hid (keep_below hb3 HD2.out)
 by_cases hoe : oe = 0
 · subst hoe
   obtain ⟨z1, z2⟩ := ofErr_ok HOE.out
   rw [z2] at hcol
   obtain ⟨Ac, ccap, rfl⟩ := (slAt_own hcol).form
   have hF : fitsB gs secs pg pa size got = ((got.length == (colsOf gs secs pg pa size).length) && !got.any fitP) := by unfold fitsB; rw [z1, Bool.true_and]
   have h64 : (colsOf gs secs pg pa size).length ≤ 64 := by rw [← z2]; exact ofList_le _ _ _ _ _
   obtain ⟨ln, hln⟩ : ∃ ln, (colsOf gs secs pg pa size).length = ln := ⟨_, rfl⟩
   rw [hln] at hF h64
   rw [hln]
   have HF := Lib.hid hF
   have HS3 := Lib.hid (HSL.out.below hb3)
   clear hcol hb3 z1 z2 hF hln
   by_cases hq : got.length = ln
   · have hd : ((got.length : Int) != ln) = false := by rw [bne_eq_false_iff_eq]; omega
     have HQ : Hid ((got.length == ln) = true) := Lib.hid (beq_iff_eq.2 hq)
     have hcon := Lib.hid (conStr_any 115 #[] fitP HS3.out (by omega) goesFit (fun x W _ _ => fitOne_any x W))
     clear hq
     go_wp2_with fail
     refine hcon.out.mono ?_
     rintro e w4 ⟨rfl, hb4⟩
     have HB4 := Lib.hid (keep_below hb4 HB3.out)
     clear hb4
     go_wp2_with fail
     go_ret
     exact ⟨by rw [HF.out, HQ.out]; rfl, HB4.out⟩
   · have hd : ((got.length : Int) != ln) = true := by rw [bne_iff_ne]; omega
     have HQ : Hid ((got.length == ln) = false) := Lib.hid (beq_eq_false_iff_ne.2 hq)
     clear hq
     go_wp2_with fail
     go_ret
     exact ⟨by rw [HF.out, HQ.out]; rfl, HB3.out⟩
 · have hne : (oe != 0) = true := bne_iff_ne.2 hoe
   have hF : fitsB gs secs pg pa size got = false := by unfold fitsB; rw [ofList_bad (by rw [HOE.out]; exact hoe)]; rfl
   have HF := Lib.hid hF
   clear hcol hb3 hoe hF
   go_wp2_with fail
   go_ret
   exact ⟨by rw [HF.out]; rfl, HB3.out⟩
theorem own_base {W : World} {base base' : Nat} {e : TypeId} {size : Nat} {v : Value} {k : Nat} {xs : List Value} (h : W.ownsRow base e size v k xs) (hb : base' ≤ base) : W.ownsRow base' e size v k xs := by
 refine ⟨h.1, ?_⟩
 rcases h.2 with h2 | ⟨g, cap, cur, e1, e2, r⟩
 · exact .inl h2
 · exact .inr ⟨g, cap, cur, e1, Nat.le_trans hb e2, r⟩
def badTo (T got : List (List UInt8)) (k : Nat) : List Nat := (List.range k).filter fun i => T.getD i [] != got.getD i []
theorem badTo_step {T got : List (List UInt8)} {k : Nat} {a b : List UInt8} (ha : T[k]? = some a) (hb : got[k]? = some b) : badTo T got (k + 1) = badTo T got k ++ if a != b then [k] else [] := by
 unfold badTo
 rw [List.range_succ, List.filter_append]
 congr 1
 simp [List.getD_eq_getElem?_getD, ha, hb, List.filter_cons]
theorem badTo_len (T got : List (List UInt8)) (k : Nat) : (badTo T got k).length ≤ k := by
 unfold badTo
 exact Nat.le_trans (List.length_filter_le _ _) (by simp)
set_option maxRecDepth 20000 in
set_option maxHeartbeats 1000000 in
theorem bad_any (A : Option Addr) (m cc : Nat) (gs : List (Int × Int)) (secs pg pa : Int) (s : List UInt8) {gv : Value} {got : List (List UInt8)} {w : World} (hg : GeoAt w A m gs) (hs : SlAt w gv got.length (strC got)) (hl : s.length ≤ 1000) :
 Calls Tryz.prog 69 #[.agg #[.slice A m cc, .int .i64 secs], .agg #[.int .i64 pg, .int .i64 pa], str s, gv] w fun e w' => ∃ v, e = .returned v ∧ w'.ownsRow w.heap.size 3 1 v (badL gs secs pg pa s got).length (ixC (badL gs secs pg pa s got)) ∧ Below w.heap.size w w' := by
 obtain ⟨w2, hw2⟩ : ∃ z, (w.alloc (.cells #[.slice A m cc, .int .i64 secs] 24)).alloc (.cells #[.int .i64 pg, .int .i64 pa] 26) = z := ⟨_, rfl⟩
 have G2 : Blk w2 w.heap.size 24 #[.slice A m cc, .int .i64 secs] := by rw [← hw2]; exact (Blk.new _ _ _).alloc _
 have P2 : Blk w2 (w.heap.size + 1) 26 #[.int .i64 pg, .int .i64 pa] := by rw [← hw2]; exact Blk.new2 w _ _ _
 have D2 : Below w.heap.size w w2 := by rw [← hw2]; exact keep_alloc (keep_alloc (Below.refl _ _) _) _
 have HE := Lib.hid (encode_any A m cc gs secs pg pa s (hg.below D2 (Nat.le_refl _)) (by omega))
 have HSL := Lib.hid (hs.below D2)
 obtain ⟨Ag, cg, rfl⟩ := hs.form
 have HG := Lib.hid hg
 have HG2 := Lib.hid G2
 have HP2 := Lib.hid P2
 have HD2 := Lib.hid D2
 have HW2 := Lib.hid hw2
 have HL := Lib.hid hl
 clear hg hs D2 hw2 G2 P2 hl
 obtain ⟨E, hE⟩ : ∃ E, encE gs secs pg pa s = E := ⟨_, rfl⟩
 rw [hE] at HE
 have HEE := Lib.hid hE
 clear hE
 obtain ⟨i0, hi, hz0, hz1, hz2⟩ := info_parts Tryz.infoIntR
 go_enter Tryz.func69, Tryz.ntmps69
 go_wp2_with fail
 rw [HW2.out]
 refine HE.out.mono ?_
 rintro e w3 ⟨tv, rfl, htv, hb3, hnew⟩
 have HB3 := Lib.hid (keep_below hb3 HD2.out)
 by_cases hz : E = 0
 · subst hz
   obtain ⟨e1, e2, e3⟩ := encE_zero HEE.out
   rw [e3] at htv
   obtain ⟨At, ct, rfl⟩ := htv.form
   have HF := Lib.hid (fits_any A m cc gs secs pg pa (secN s) (HG.out.below HB3.out (Nat.le_refl _)) (HSL.out.below hb3))
   have HT := Lib.hid htv
   have HS3 := Lib.hid (HSL.out.below hb3)
   have g0 := (HG2.out.below hb3 HG2.out.lt).at_ (i := 0) (v := .slice A m cc) rfl
   have g1 := (HG2.out.below hb3 HG2.out.lt).at_ (i := 1) (v := .int .i64 secs) rfl
   have p0 := (HP2.out.below hb3 HP2.out.lt).at_ (i := 0) (v := .int .i64 pg) rfl
   have p1 := (HP2.out.below hb3 HP2.out.lt).at_ (i := 1) (v := .int .i64 pa) rfl
   have hq : Int.tdiv (s.length : Int) 64 = (secN s : Int) := rfl
   have hs15 : secN s ≤ 15 := by have := HL.out; unfold secN; omega
   obtain ⟨fb, hfb⟩ : ∃ fb, fitsB gs secs pg pa (secN s) got = fb := ⟨_, rfl⟩
   rw [hfb] at HF
   have hBL : badL gs secs pg pa s got = if fb then badTo (encL gs secs pg pa s) got (encL gs secs pg pa s).length else [] := by
    unfold badL badTo
    rw [HEE.out, hfb]
    simp
   have hlen : fb = true → got.length = (encL gs secs pg pa s).length ∧ (encL gs secs pg pa s).length ≤ 64 := fun h => by
    rw [h] at hfb
    unfold fitsB at hfb
    simp only [Bool.and_eq_true, beq_iff_eq] at hfb
    rw [encL_len]
    refine ⟨?_, ofList_le _ _ _ _ _⟩
    unfold ofList
    rw [if_pos e2]
    exact hfb.1.2
   have HBL := Lib.hid (And.intro hBL hlen)
   clear hfb hBL hlen e1 e2 e3 htv hb3 hnew
   obtain ⟨T, hT⟩ : ∃ T, encL gs secs pg pa s = T := ⟨_, rfl⟩
   rw [hT] at HT HBL
   rw [hT]
   clear hT
   go_wp2_with fail
   refine HF.out.mono ?_
   rintro e w4 ⟨rfl, hb4⟩
   have HT4 := Lib.hid (HT.out.below hb4)
   have HS4 := Lib.hid (HS3.out.below hb4)
   have HB4 := Lib.hid (keep_below hb4 HB3.out)
   clear g0 g1 p0 p1 hb4
   cases fb with
   | false =>
    go_wp2_with fail
    go_ret
    rw [HBL.out.1]
    exact ⟨_, rfl, World.ownsRow_nil _ _ _ _, HB4.out⟩
   | true =>
    obtain ⟨hl1, hl2⟩ := HBL.out.2 rfl
    have HL1 := Lib.hid hl1
    clear hl1
    go_wp2_with fail
    go_loopw [11, 12, 34] (fun v _ t wr => ∃ k : Nat, k ≤ T.length ∧ t = .int .i64 k ∧ wr.ownsRow w4.heap.size 3 1 v (badTo T got k).length (ixC (badTo T got k)) ∧ Below w4.heap.size w4 wr) (fun _ _ t _ => T.length - (RowKit.intOf t).toNat)
    case atStart => exact ⟨0, Nat.zero_le _, rfl, World.ownsRow_nil _ _ _ _, Below.refl _ _⟩
    case round =>
     obtain ⟨k, hk, rfl, hown, hb⟩ := hrel
     by_cases hlt : k < T.length
     · obtain ⟨a, ha⟩ : ∃ a, T[k]? = some a := ⟨_, List.getElem?_eq_getElem hlt⟩
       obtain ⟨b, hbb⟩ : ∃ b, got[k]? = some b := ⟨_, List.getElem?_eq_getElem (by rw [HL1.out]; exact hlt)⟩
       obtain ⟨b1, o1, rfl, hl3, hc1⟩ := HT4.out.cells (by omega)
       obtain ⟨b2, o2, rfl, hl4, hc2⟩ := HS4.out.cells (by rw [HL1.out]; omega)
       have e1 := hc1 k (str a) (strC_at ha)
       have e2 := hc2 k (str b) (strC_at hbb)
       have hst := badTo_step ha hbb
       have hdc : decide (k < T.length) = true := decide_eq_true hlt
       have hkg : k < got.length := by rw [HL1.out]; exact hlt
       have HB := Lib.hid hb
       have HO := Lib.hid hown
       have HLT := Lib.hid hlt
       have hbl := badTo_len T got k
       obtain ⟨C, hCd, hCw, hCB, hCK, hCD⟩ := cls_below wr
       have f1 : ∀ W, C W → W.cell? ⟨b1, o1 + k, none⟩ = some (str a) := fun W h => keep_cell (hCB W h) (keep_cell hb e1 hl3) (Nat.lt_of_lt_of_le hl3 hb.size)
       have f2 : ∀ W, C W → W.cell? ⟨b2, o2 + k, none⟩ = some (str b) := fun W h => keep_cell (hCB W h) (keep_cell hb e2 hl4) (Nat.lt_of_lt_of_le hl4 hb.size)
       clear hc1 hc2 e1 e2 ha hbb hb hown hCw hCK hCD hl3 hl4
       by_cases hab : a = b
       · have HST : Hid (badTo T got (k + 1) = badTo T got k) := Lib.hid (by rw [hst, hab]; simp)
         subst hab
         clear hst
         go_wp2_with fail
         refine wp_region_cls C (by kernel_rfl) (by kernel_rfl) hCd ?_
         repeat (first | go_big_quiet_skip | (go_big_quiet_want; go_big_quiet_op; first | go_big_quiet_on | (apply Exists.intro; refine ⟨fun W hW => ?_, ?_⟩; (focus ((first | exact rfl | exact ⟨rfl, rfl⟩ | (simp only [f1 W hW, f2 W hW, Result.andThen_ok]; first | done | exact ⟨trivial, rfl⟩ | exact rfl | exact ⟨rfl, rfl⟩) | (skip)); done)); go_big_quiet_on)))
         refine wpQuiet_nil ?_
         intro wz hwz
         have HBZ := Lib.hid (hCB wz hwz)
         clear f1 f2 hCd hCB hwz
         go_wp2_with fail
         go_roundw
         case rel => exact ⟨k + 1, HLT.out, by go_num, by rw [HST.out]; exact ownsRow_same HO.out (fun b hb => HBZ.out.block b (HO.out.lt b hb).2), HB.out.trans (HBZ.out.mono HB.out.size)⟩
         case measure => have := HLT.out; simp [RowKit.intOf]; omega
       · have HST : Hid (badTo T got (k + 1) = badTo T got k ++ [k]) := Lib.hid (by rw [hst]; simp [hab])
         have hab2 : (a == b) = false := beq_eq_false_iff_ne.2 hab
         have hab3 : (a != b) = true := bne_iff_ne.2 hab
         clear hst hab
         go_wp2_with fail
         refine wp_region_cls C (by kernel_rfl) (by kernel_rfl) hCd ?_
         repeat (first | go_big_quiet_skip | (go_big_quiet_want; go_big_quiet_op; first | go_big_quiet_on | (apply Exists.intro; refine ⟨fun W hW => ?_, ?_⟩; (focus ((first | exact rfl | exact ⟨rfl, rfl⟩ | (simp only [f1 W hW, f2 W hW, Result.andThen_ok]; first | done | exact ⟨trivial, rfl⟩ | exact rfl | exact ⟨rfl, rfl⟩) | (skip)); done)); go_big_quiet_on)))
         refine wpQuiet_nil ?_
         intro wz hwz
         have HBZ := Lib.hid (HB.out.trans ((hCB wz hwz).mono HB.out.size))
         have HOZ : Hid (wz.ownsRow w4.heap.size 3 1 u11 (badTo T got k).length (ixC (badTo T got k))) := Lib.hid (ownsRow_same HO.out (fun b hb => (hCB wz hwz).block b (HO.out.lt b hb).2))
         obtain ⟨q, hq'⟩ : ∃ q, badTo T got k = q := ⟨_, rfl⟩
         rw [hq'] at HOZ HST hbl
         clear f1 f2 hCd hCB hwz hq' HO
         go_wp2_with (at_builtin; refine wpList_append_own _ rfl _ _ 74 rfl w4.heap.size 3 i0 _ 1 8 Tryz.underlying74 hi hz0 hz1 hz2 rfl (by decide) _ _ _ rfl (HOZ.out.alloc _) ⟨wz.heap.size, 0, none⟩ 1 1 [.int .i64 k] rfl rfl ?c1 ?c2 (by unfold maxLen; omega) (by omega) ?c5 ?_)
         try (case c1 => exact one_new' _ _ _)
         case c2 => first | rfl | (intro u hu; simp at hu; subst hu; rfl)
         case c5 => have := HBZ.out.size; simp; omega
         intro v' w5 hown' hgrow _
         have hown5 : w5.ownsRow w4.heap.size 3 1 v' (badTo T got (k + 1)).length (ixC (badTo T got (k + 1))) := by
          rw [HST.out, ixC_snoc, List.length_append]
          exact hown'
         have hb5 : Below w4.heap.size w4 w5 := (HBZ.out.alloc HBZ.out.size _).grown hgrow (by have := HBZ.out.size; simp; omega) (fun k hk => (HOZ.out.lt k hk).1)
         have HO5 := Lib.hid hown5
         have HB5 := Lib.hid hb5
         clear hown' hgrow hown5 hb5
         go_wp2_with fail
         go_roundw
         case rel => exact ⟨k + 1, HLT.out, by go_num, HO5.out, HB5.out⟩
         case measure => have := HLT.out; simp [RowKit.intOf]; omega
     · obtain rfl : k = T.length := by omega
       have hdc : decide ((T.length : Int) < T.length) = false := decide_eq_false (by omega)
       have hBL : badL gs secs pg pa s got = badTo T got T.length := by rw [HBL.out.1]; simp
       rw [← hBL] at hown
       have HO := Lib.hid (own_base hown HB4.out.size)
       have HB := Lib.hid (keep_below hb HB4.out)
       clear hown hb hBL
       go_wp2_with fail
       go_ret
       exact ⟨_, rfl, HO.out, HB.out⟩
 · have hne : (E != 0) = true := bne_iff_ne.2 hz
   have hBL : badL gs secs pg pa s got = [] := by unfold badL; rw [decide_eq_false (by rw [HEE.out]; exact hz)]; rfl
   have HBL := Lib.hid hBL
   clear htv hb3 hnew hz hBL
   go_wp2_with fail
   go_ret
   rw [HBL.out]
   exact ⟨_, rfl, World.ownsRow_nil _ _ _ _, HB3.out⟩
end Go.Proofs.YtbhkbcpljakmjaaGreat

namespace Go.Proofs.YtbhkbcpljakmjaaGreat
set_option linter.unusedVariables false
set_option linter.unusedSimpArgs false
open Go.RowKit
theorem compact_inc (d : Array Int) (hs : ∀ i j, i ≤ j → j < d.size → d[i]! ≤ d[j]!) : ∀ m, m ≤ d.size →
 (Lib.compactUpTo d m).Pairwise (· < ·) ∧ ∀ x, x ∈ Lib.compactUpTo d m ↔ ∃ j, j < m ∧ d[j]! = x
 | 0, _ => by simp [Lib.compactUpTo]
 | m + 1, hm => by
   obtain ⟨h1, h2⟩ := compact_inc d hs m (by omega)
   rw [Lib.compactUpTo_succ]
   cases hk : Lib.keeps d m with
   | false =>
    have hk' : m ≠ 0 ∧ d[m]! = d[m - 1]! := by simpa [Lib.keeps] using hk
    simp only [Bool.false_eq_true, if_false, List.append_nil]
    refine ⟨h1, fun x => ?_⟩
    rw [h2]
    constructor
    · rintro ⟨j, hj, e⟩; exact ⟨j, by omega, e⟩
    · rintro ⟨j, hj, e⟩
      by_cases hjm : j = m
      · subst hjm; exact ⟨j - 1, by omega, by rw [← hk'.2]; exact e⟩
      · exact ⟨j, by omega, e⟩
   | true =>
    have hk' : m = 0 ∨ d[m]! ≠ d[m - 1]! := by simpa [Lib.keeps] using hk
    simp only [if_true]
    constructor
    · rw [List.pairwise_append]
      refine ⟨h1, List.pairwise_singleton _ _, fun x hx y hy => ?_⟩
      obtain ⟨j, hj, rfl⟩ := (h2 x).1 hx
      have : y = d[m]! := by simpa using hy
      subst this
      rcases hk' with h0 | h0
      · omega
      · have a1 := hs j (m - 1) (by omega) (by omega)
        have a2 := hs (m - 1) m (by omega) (by omega)
        omega
    · intro x
      rw [List.mem_append, h2, List.mem_singleton]
      constructor
      · rintro (⟨j, hj, e⟩ | e)
        · exact ⟨j, by omega, e⟩
        · exact ⟨m, by omega, e.symm⟩
      · rintro ⟨j, hj, e⟩
        by_cases hjm : j = m
        · subst hjm; exact .inr e.symm
        · exact .inl ⟨j, by omega, e⟩
def devsL (L : List Col) : List Int := Lib.compact ((L.map (·.1)).mergeSort fun x y => decide (x ≤ y))
theorem devsL_spec (L : List Col) : (devsL L).Pairwise (· < ·) ∧ ∀ x, x ∈ devsL L ↔ ∃ c ∈ L, c.1 = x := by
 have hp : ((L.map (·.1)).mergeSort fun x y => decide (x ≤ y)).Pairwise (fun x y => decide (x ≤ y) = true) :=
  List.pairwise_mergeSort (fun a b c h1 h2 => by simp at *; omega) (fun a b => by simp; omega) _
 have hm : ∀ x, x ∈ ((L.map (·.1)).mergeSort fun x y => decide (x ≤ y)) ↔ ∃ c ∈ L, c.1 = x := fun x => by rw [List.mem_mergeSort, List.mem_map]
 unfold devsL Lib.compact
 generalize ((L.map (·.1)).mergeSort fun x y => decide (x ≤ y)) = zs at *
 have hs : ∀ i j, i ≤ j → j < zs.toArray.size → zs.toArray[i]! ≤ zs.toArray[j]! := by
  intro i j hij hj
  have hj' : j < zs.length := by simpa using hj
  rw [getElem!_pos _ i (by simp; omega), getElem!_pos _ j hj]
  rcases Nat.lt_or_ge i j with h | h
  · have := List.pairwise_iff_getElem.1 hp i j (by omega) hj' h
    simpa using this
  · obtain rfl : i = j := by omega
    exact Int.le_refl _
 obtain ⟨h1, h2⟩ := compact_inc zs.toArray hs zs.length (by simp)
 refine ⟨h1, fun x => ?_⟩
 rw [h2, ← hm]
 constructor
 · rintro ⟨j, hj, e⟩
   rw [getElem!_pos _ j (by simpa using hj)] at e
   rw [← e]
   simp
 · intro hx
   obtain ⟨j, hj, e⟩ := List.getElem_of_mem hx
   exact ⟨j, hj, by rw [getElem!_pos _ j (by simpa using hj)]; simpa using e⟩
theorem devsL_len (L : List Col) : (devsL L).length ≤ L.length := by
 unfold devsL
 have := Lib.compact_length_le ((L.map (·.1)).mergeSort fun x y => decide (x ≤ y))
 simpa using this
end Go.Proofs.YtbhkbcpljakmjaaGreat

namespace Go.Proofs.YtbhkbcpljakmjaaGreat
set_option linter.unusedVariables false
set_option linter.unusedSimpArgs false
open Go.RowKit
def hasE (l : List (List UInt8)) : Bool := l.any fun s => s.isEmpty
def againIx (L : List Col) (at_ k : Nat) : List Nat := (List.range k).filter fun i => ((L.getD i (0, 0, false, 0)).2.2.2 == (L.getD at_ (0, 0, false, 0)).2.2.2) && i != at_
def againS (L : List Col) (got : List (List UInt8)) (at_ : Nat) : List UInt8 :=
 let P := (againIx L at_ L.length).map fun i => got.getD i []
 if hasE P then [] else makeS P
def dataIx (L : List Col) (k : Nat) : List Nat := (List.range k).filter fun i => !(L.getD i (0, 0, false, 0)).2.2.1
def colTxt (L : List Col) (got : List (List UInt8)) (dev : Int) (i : Nat) : List UInt8 := if (L.getD i (0, 0, false, 0)).1 == dev then againS L got i else got.getD i []
def withS (L : List Col) (got : List (List UInt8)) (dev : Int) : List UInt8 :=
 let P := (dataIx L L.length).map (colTxt L got dev)
 if hasE P then [] else P.flatten
def parDevs (L : List Col) : List Int := -1 :: devsL (L.filter fun c => !c.2.2.1)
def parOne (L : List Col) (got : List (List UInt8)) (d : Int) : Option (Int × List UInt8) := if (withS L got d).isEmpty then none else some (d, withS L got d)
def parT (L : List Col) (got : List (List UInt8)) : List (Int × List UInt8) := (parDevs L).filterMap (parOne L got)
def mirPart (sz : Nat) (got : List (List UInt8)) (j : Nat) : List (List UInt8) := (got.drop (j * sz)).take sz
def mirOne (L : List Col) (sz : Nat) (got : List (List UInt8)) (j : Nat) : Option (Int × List UInt8) := if hasE (mirPart sz got j) then none else some ((L.getD (j * sz) (0, 0, false, 0)).1, (mirPart sz got j).flatten)
def mirT (L : List Col) (sz : Nat) (got : List (List UInt8)) (k : Nat) : List (Int × List UInt8) := (List.range k).filterMap (mirOne L sz got)
def triesL (gs : List (Int × Int)) (secs pg pa : Int) (size : Int) (got : List (List UInt8)) : List (Int × List UInt8) :=
 if fitsB gs secs pg pa size got then
  (if (grAt gs pg).1 == 0 then mirT (colsOf gs secs pg pa size) size.toNat got (grAt gs pg).2.toNat else parT (colsOf gs secs pg pa size) got)
 else []
theorem hasE_snoc (l : List (List UInt8)) (s : List UInt8) : hasE (l ++ [s]) = (hasE l || s.isEmpty) := by simp [hasE]
theorem againIx_step (L : List Col) (at_ k : Nat) : againIx L at_ (k + 1) = againIx L at_ k ++ if ((L.getD k (0, 0, false, 0)).2.2.2 == (L.getD at_ (0, 0, false, 0)).2.2.2) && k != at_ then [k] else [] := by
 unfold againIx
 rw [List.range_succ, List.filter_append]
 congr 1
 simp only [List.filter_cons, List.filter_nil]
theorem dataIx_step (L : List Col) (k : Nat) : dataIx L (k + 1) = dataIx L k ++ if !(L.getD k (0, 0, false, 0)).2.2.1 then [k] else [] := by
 unfold dataIx
 rw [List.range_succ, List.filter_append]
 congr 1
 simp only [List.filter_cons, List.filter_nil]
theorem againIx_len (L : List Col) (at_ k : Nat) : (againIx L at_ k).length ≤ k := by
 unfold againIx
 exact Nat.le_trans (List.length_filter_le _ _) (by simp)
theorem dataIx_len (L : List Col) (k : Nat) : (dataIx L k).length ≤ k := by
 unfold dataIx
 exact Nat.le_trans (List.length_filter_le _ _) (by simp)
theorem mirT_step (L : List Col) (sz : Nat) (got : List (List UInt8)) (k : Nat) : mirT L sz got (k + 1) = mirT L sz got k ++ (mirOne L sz got k).toList := by
 unfold mirT
 rw [List.range_succ, List.filterMap_append]
 congr 1
def firstE (l : List (List UInt8)) : Int := match l.findIdx? (fun s => s.isEmpty) with
 | some i => i
 | none => -1
theorem firstE_hit {l : List (List UInt8)} {k : Nat} {s : List UInt8} (hs : l[k]? = some s) (he : s.isEmpty = true) (h : ∀ j, j < k → ∀ x, l[j]? = some x → x.isEmpty = false) : firstE l = k := by
 unfold firstE
 have : l.findIdx? (fun s => s.isEmpty) = some k := by
  rw [List.findIdx?_eq_some_iff_getElem]
  refine ⟨(List.getElem?_eq_some_iff.1 hs).1, ?_, fun j hj => ?_⟩
  · rw [(List.getElem?_eq_some_iff.1 hs).2]; exact he
  · have := h j hj _ (List.getElem?_eq_getElem (by have := (List.getElem?_eq_some_iff.1 hs).1; omega))
    simpa using this
 rw [this]
theorem firstE_miss {l : List (List UInt8)} (h : ∀ j, j < l.length → ∀ x, l[j]? = some x → x.isEmpty = false) : firstE l = -1 := by
 unfold firstE
 have : l.findIdx? (fun s => s.isEmpty) = none := by
  rw [List.findIdx?_eq_none_iff]
  intro x hx
  obtain ⟨j, hj⟩ := List.mem_iff_getElem?.1 hx
  exact h j (List.getElem?_eq_some_iff.1 hj).1 x hj
 rw [this]
theorem firstE_has (l : List (List UInt8)) : decide (0 ≤ firstE l) = hasE l := by
 unfold firstE hasE
 cases h : l.findIdx? (fun s => s.isEmpty) with
 | none =>
  rw [List.findIdx?_eq_none_iff] at h
  have : l.any (fun s => s.isEmpty) = false := by rw [List.any_eq_false]; intro x hx; rw [h x hx]; simp
  rw [this]; rfl
 | some i =>
  rw [List.findIdx?_eq_some_iff_getElem] at h
  obtain ⟨h1, h2, _⟩ := h
  have : l.any (fun s => s.isEmpty) = true := by rw [List.any_eq_true]; exact ⟨_, List.getElem_mem h1, h2⟩
  rw [this]
  exact decide_eq_true (by show (0 : Int) ≤ (i : Int); omega)
set_option maxRecDepth 20000 in
theorem idxE_any {w : World} {ss : List (List UInt8)} {sv : Value} (h1 : SlAt w sv ss.length (strC ss)) (f1 : ss.length ≤ 1000000) :
 Calls Tryz.prog 91 #[sv, str []] w fun e w' => e = .returned (.int .i64 (firstE ss)) ∧ Below w.heap.size w w' := by
 obtain ⟨A, c1, rfl⟩ := h1.form
 have H1 := Lib.hid h1
 clear h1
 go_enter Tryz.func91, Tryz.ntmps91
 go_wp2_with fail
 go_loopw [5, 8] (fun _ t wr => ∃ k : Nat, k ≤ ss.length ∧ t = .int .i64 k ∧ Below w.heap.size w wr ∧ ∀ j, j < k → ∀ x, ss[j]? = some x → x.isEmpty = false) (fun _ t _ => ss.length - (RowKit.intOf t).toNat)
 case atStart => exact ⟨0, Nat.zero_le _, rfl, Below.refl _ _, fun j hj => absurd hj (Nat.not_lt_zero _)⟩
 case round =>
  obtain ⟨k, hk, rfl, hb, hal⟩ := hrel
  have HB := Lib.hid hb
  have HAL := Lib.hid hal
  by_cases hlt : k < ss.length
  · obtain ⟨b, oo, rfl, hbl, hcell⟩ := H1.out.cells (by omega)
    obtain ⟨x, hx⟩ : ∃ x, ss[k]? = some x := ⟨_, List.getElem?_eq_getElem hlt⟩
    have f0 : wr.cell? ⟨b, oo + k, none⟩ = some (str x) := (World.cell?_of_block (hb.block b hbl)).trans (hcell _ _ (strC_at hx))
    have hdc : decide (k < ss.length) = true := decide_eq_true hlt
    have HLT := Lib.hid hlt
    have HXX := Lib.hid hx
    clear hcell hx hb hal hbl
    by_cases hxe : x = []
    · subst hxe
      go_wp2_with fail
      go_ret
      exact ⟨ret_int (firstE_hit HXX.out rfl HAL.out).symm, HB.out⟩
    · have hx1 : x.isEmpty = false := by simpa using hxe
      have hx2 : ([] == x) = false := beq_eq_false_iff_ne.2 (fun h => hxe h.symm)
      have HE := Lib.hid hx1
      go_wp2_with fail
      go_roundw
      case rel =>
       refine ⟨k + 1, HLT.out, by go_num, HB.out, fun j hj y hy => ?_⟩
       by_cases e : j < k
       · exact HAL.out j e y hy
       · obtain rfl : j = k := by omega
         have h2 := HXX.out
         rw [hy] at h2
         cases h2
         exact HE.out
      case measure => have := HLT.out; simp [RowKit.intOf]; omega
  · obtain rfl : k = ss.length := by omega
    have hdc : decide ((ss.length : Int) < ss.length) = false := decide_eq_false (by omega)
    clear hb hal
    go_wp2_with fail
    go_ret
    exact ⟨ret_int (firstE_miss HAL.out).symm, HB.out⟩
theorem conE_any {w : World} {ss : List (List UInt8)} {sv : Value} (h1 : SlAt w sv ss.length (strC ss)) (f1 : ss.length ≤ 1000000) :
 Calls Tryz.prog 64 #[sv, str []] w fun e w' => e = .returned (.bool (hasE ss)) ∧ Below w.heap.size w w' := by
 have H := Lib.hid (idxE_any h1 f1)
 clear h1
 go_enter Tryz.func64, Tryz.ntmps64
 go_wp2_with fail
 refine H.out.mono ?_
 rintro e w1 ⟨rfl, hb1⟩
 go_wp2_with fail
 go_ret
 exact ⟨ret_bool (firstE_has _), hb1⟩
end Go.Proofs.YtbhkbcpljakmjaaGreat

namespace Go.Proofs.YtbhkbcpljakmjaaGreat
set_option linter.unusedVariables false
set_option linter.unusedSimpArgs false
theorem xorL_comm (a b : List UInt8) : xorL a b = xorL b a := by
 unfold xorL
 rw [List.zipWith_comm]
 simp [UInt8.xor_comm]
theorem xorL_assoc : ∀ a b c : List UInt8, xorL (xorL a b) c = xorL a (xorL b c)
 | [], _, _ => by simp [xorL]
 | _ :: _, [], _ => by simp [xorL]
 | _ :: _, _ :: _, [] => by simp [xorL]
 | x :: a, y :: b, z :: c => by
   have := xorL_assoc a b c
   simp only [xorL, List.zipWith_cons_cons] at this ⊢
   rw [this, UInt8.xor_assoc]
theorem xorL_self : ∀ a : List UInt8, xorL a a = List.replicate a.length 0
 | [] => rfl
 | x :: a => by
   have := xorL_self a
   simp only [xorL, List.zipWith_cons_cons, List.length_cons, List.replicate_succ] at this ⊢
   rw [this, UInt8.xor_self]
theorem xorL_zero : ∀ a : List UInt8, xorL a (List.replicate a.length 0) = a
 | [] => rfl
 | x :: a => by
   have := xorL_zero a
   simp only [xorL, List.zipWith_cons_cons, List.length_cons, List.replicate_succ] at this ⊢
   rw [this, UInt8.xor_zero]
theorem fold_xor (x : List UInt8) : ∀ (l : List (List UInt8)) (a : List UInt8), l.foldl xorL (xorL x a) = xorL x (l.foldl xorL a)
 | [], _ => rfl
 | y :: l, a => by rw [List.foldl_cons, List.foldl_cons, xorL_assoc, fold_xor x l]
theorem parN_cons (n : Nat) (x : List UInt8) (l : List (List UInt8)) : parN n (x :: l) = xorL x (parN n l) := by
 unfold parN
 rw [List.foldl_cons, xorL_comm, fold_xor]
theorem parN_perm {n : Nat} {l m : List (List UInt8)} (h : l.Perm m) : parN n l = parN n m := by
 induction h with
 | nil => rfl
 | cons x _ ih => rw [parN_cons, parN_cons, ih]
 | swap x y l => rw [parN_cons, parN_cons, parN_cons, parN_cons, ← xorL_assoc, ← xorL_assoc, xorL_comm y x]
 | trans _ _ h1 h2 => rw [h1, h2]
theorem xor_back {a b : List UInt8} {n : Nat} (ha : a.length = n) (hb : b.length = n) (h : xorL a b = List.replicate n 0) : b = a := by
 have : xorL a (xorL a b) = b := by rw [← xorL_assoc, xorL_self, xorL_comm, ha, ← hb]; exact xorL_zero b
 rw [← this, h, ← ha]
 exact xorL_zero a
def rowAll (L : List Col) (r : Int) : List Nat := (List.range L.length).filter fun i => (L.getD i (0, 0, false, 0)).2.2.2 == r
theorem rowAll_mem {L : List Col} {r : Int} {i : Nat} : i ∈ rowAll L r ↔ i < L.length ∧ (L.getD i (0, 0, false, 0)).2.2.2 = r := by
 unfold rowAll
 simp
theorem rowAll_perm {L : List Col} {i : Nat} (hi : i < L.length) : (rowAll L (L.getD i (0, 0, false, 0)).2.2.2).Perm (i :: againIx L i L.length) := by
 have hm : i ∈ rowAll L (L.getD i (0, 0, false, 0)).2.2.2 := rowAll_mem.2 ⟨hi, rfl⟩
 have hnd : (rowAll L (L.getD i (0, 0, false, 0)).2.2.2).Nodup := List.nodup_range.filter _
 have h2 := List.perm_cons_erase hm
 rw [hnd.erase_eq_filter] at h2
 have e : (rowAll L (L.getD i (0, 0, false, 0)).2.2.2).filter (fun x => x != i) = againIx L i L.length := by
  unfold rowAll againIx
  rw [List.filter_filter]
  apply List.filter_congr
  intro x _
  exact Bool.and_comm _ _
 rwa [e] at h2
theorem qpar_count (first wide at_ : Int) (k : Nat) : ((parTo first wide at_ k).filter (fun x => !x.2.2.1)).length = k := by
 induction k with
 | zero => rfl
 | succ k ih =>
  rw [parTo]
  split <;> simp [List.filter_append, pcol, ih]
theorem par_idx : ∀ w ∈ List.range 9, ∀ s ∈ List.range 5, 3 ≤ w → 0 < s → ((List.range 9).all fun i => (((parTo 0 w 0 s).map (·.2.2))[i]?).isNone || (((List.range 9).filter fun j => match ((parTo 0 w 0 s).map (·.2.2))[j]?, ((parTo 0 w 0 s).map (·.2.2))[i]? with
 | some x, some y => x.1 && x.2 == y.2
 | _, _ => false).length == 1)) = true := by decide +kernel
structure ParL (L : List Col) (sz : Nat) : Prop where
 len : L.length ≤ 8
 one : ∀ i, i < L.length → ∃ p, p < L.length ∧ (L.getD p (0, 0, false, 0)).2.2.1 = true ∧ (L.getD p (0, 0, false, 0)).2.2.2 = (L.getD i (0, 0, false, 0)).2.2.2 ∧ ∀ q, q < L.length → (L.getD q (0, 0, false, 0)).2.2.1 = true → (L.getD q (0, 0, false, 0)).2.2.2 = (L.getD i (0, 0, false, 0)).2.2.2 → q = p
 dat : ∀ i, i < L.length → ∃ p, p < L.length ∧ (L.getD p (0, 0, false, 0)).2.2.1 = false ∧ (L.getD p (0, 0, false, 0)).2.2.2 = (L.getD i (0, 0, false, 0)).2.2.2
 cnt : (L.filter fun c => !c.2.2.1).length = sz
theorem colD_in {L : List Col} {i : Nat} (h : i < L.length) : L[i]? = some (L.getD i (0, 0, false, 0)) := by
 rw [List.getD_eq_getElem?_getD, List.getElem?_eq_getElem h]
 rfl
theorem parL_of {gs : List (Int × Int)} {secs pg pa size : Int} (h : cMay gs secs pg pa size = true) (hk : (grAt gs pg).1 ≠ 0) : ParL (colsOf gs secs pg pa size) size.toNat := by
 have hd := fun {c : Col} => data_shape h (c := c)
 obtain ⟨hhas, hz1, hz2, hp1, hp2, _⟩ := cMay_true h
 obtain ⟨sz, rfl⟩ := Int.eq_ofNat_of_zero_le (show 0 ≤ size by omega)
 obtain ⟨g, x, rfl, _, hl4, hs1, hs2, hx, hgx, ho⟩ := gHas_true hhas
 obtain ⟨kd, wd⟩ := x
 rw [hgx] at hk
 have ho' := gOne_true ho
 simp only at ho' hk
 obtain ⟨w, rfl⟩ := Int.eq_ofNat_of_zero_le (show 0 ≤ wd by omega)
 rcases ho' with ⟨rfl, _, _⟩ | ⟨rfl, h1, h2⟩
 · exact absurd rfl hk
 have hL : colsOf gs secs g pa sz = parTo (gFirst gs secs g) w pa sz := by unfold colsOf; rw [hgx]; rfl
 rw [hL] at hd ⊢
 rw [Int.toNat_natCast]
 have hlen := parTo_len (gFirst gs secs g) w pa sz
 have hsh := parTo_shape (gFirst gs secs g) w pa sz
 have key := par_idx w (by simp; omega) sz (by simp; omega) (by omega) (by omega)
 rw [← hsh] at key
 generalize hM : parTo (gFirst gs secs g) w pa sz = L at *
 have hat : ∀ j, j < L.length → (L.map (·.2.2))[j]? = some (L.getD j (0, 0, false, 0)).2.2 := fun j hj => by rw [List.getElem?_map, colD_in hj]; rfl
 have hone : ∀ i, i < L.length → ∃ p, p < L.length ∧ (L.getD p (0, 0, false, 0)).2.2.1 = true ∧ (L.getD p (0, 0, false, 0)).2.2.2 = (L.getD i (0, 0, false, 0)).2.2.2 ∧ ∀ q, q < L.length → (L.getD q (0, 0, false, 0)).2.2.1 = true → (L.getD q (0, 0, false, 0)).2.2.2 = (L.getD i (0, 0, false, 0)).2.2.2 → q = p := by
  intro i hi
  have k1 := List.all_eq_true.1 key i (List.mem_range.2 (by omega))
  rw [hat i hi, Option.isNone_some, Bool.false_or, beq_iff_eq, List.length_eq_one_iff] at k1
  obtain ⟨p, hp⟩ := k1
  have hmem : ∀ q, q < L.length → ((L.getD q (0, 0, false, 0)).2.2.1 = true ∧ (L.getD q (0, 0, false, 0)).2.2.2 = (L.getD i (0, 0, false, 0)).2.2.2 ↔ q = p) := by
   intro q hq
   have : q ∈ [p] ↔ q = p := List.mem_singleton
   rw [← this, ← hp, List.mem_filter, hat q hq]
   simp [show q < 9 by omega]
  have hpin : p ∈ [p] := List.mem_singleton.2 rfl
  rw [← hp] at hpin
  have hpl : p < L.length := by
   have h3 := (List.mem_filter.1 hpin).2
   by_cases h4 : p < L.length
   · exact h4
   · rw [List.getElem?_eq_none (by rw [List.length_map]; omega)] at h3
     cases h3
  have h5 := (hmem p hpl).2 rfl
  exact ⟨p, hpl, h5.1, h5.2, fun q hq h6 h7 => (hmem q hq).1 ⟨h6, h7⟩⟩
 refine ⟨by omega, hone, fun i hi => ?_, by rw [← hM]; exact qpar_count _ _ _ _⟩
 obtain ⟨p, hp, h3, h4, _⟩ := hone i hi
 obtain ⟨e, he, h5, h6⟩ := hd (c := L.getD p (0, 0, false, 0)) (List.mem_of_getElem? (colD_in hp)) h3
 obtain ⟨j, hj⟩ := List.mem_iff_getElem?.1 he
 have hjl := (List.getElem?_eq_some_iff.1 hj).1
 rw [colD_in hjl] at hj
 cases hj
 exact ⟨j, hjl, h5, by rw [h6, h4]⟩
structure EncL (L : List Col) (E : List (List UInt8)) : Prop where
 len : E.length = L.length
 all64 : ∀ i, i < L.length → (E.getD i []).length = 64
 par : ∀ i, i < L.length → (L.getD i (0, 0, false, 0)).2.2.1 = true → E.getD i [] = makeS ((rowIx L (L.getD i (0, 0, false, 0)).2.2.2).map fun j => E.getD j [])
theorem makeS_64 {l : List (List UInt8)} (hne : l ≠ []) (h : ∀ x ∈ l, x.length = 64) : makeS l = parN 64 l := by
 have hh : (l.headD []).length = 64 := by
  cases l with
  | nil => exact absurd rfl hne
  | cons a r => exact h a List.mem_cons_self
 have he : evenB l = true := by
  unfold evenB
  rw [List.all_eq_true]
  intro x hx
  rw [h x hx, hh]
  exact beq_self_eq_true _
 unfold makeS
 rw [if_pos ⟨hne, he⟩, hh]
theorem rowIx_eq {L : List Col} {p : Nat} {sz : Nat} (hL : ParL L sz) (hp : p < L.length) (hpar : (L.getD p (0, 0, false, 0)).2.2.1 = true) : rowIx L (L.getD p (0, 0, false, 0)).2.2.2 = againIx L p L.length := by
 obtain ⟨p', _, _, _, hu⟩ := hL.one p hp
 have hpp := hu p hp hpar rfl
 unfold rowIx againIx
 apply List.filter_congr
 intro i hi
 have hi := List.mem_range.1 hi
 rw [colD_in hi]
 simp only
 by_cases hr : (L.getD i (0, 0, false, 0)).2.2.2 = (L.getD p (0, 0, false, 0)).2.2.2
 · rw [hr]
   cases hc : (L.getD i (0, 0, false, 0)).2.2.1 with
   | true =>
    have := hu i hi hc hr
    simp [this, hpp]
   | false =>
    have : i ≠ p := fun e => by rw [e, hpar] at hc; cases hc
    simp [this]
 · rw [decide_eq_false hr, beq_eq_false_iff_ne.2 hr]
   rfl
theorem againIx_mem {L : List Col} {i j : Nat} : j ∈ againIx L i L.length ↔ j < L.length ∧ (L.getD j (0, 0, false, 0)).2.2.2 = (L.getD i (0, 0, false, 0)).2.2.2 ∧ j ≠ i := by
 unfold againIx
 simp
theorem again_ne {L : List Col} {sz i : Nat} (hL : ParL L sz) (hi : i < L.length) : againIx L i L.length ≠ [] := by
 intro he
 obtain ⟨p, h1, h2, h3, _⟩ := hL.one i hi
 obtain ⟨q, h4, h5, h6⟩ := hL.dat i hi
 have hno : ∀ j, j < L.length → (L.getD j (0, 0, false, 0)).2.2.2 = (L.getD i (0, 0, false, 0)).2.2.2 → j = i := fun j hj hr => by
  refine Decidable.byContradiction fun hne => ?_
  have := againIx_mem.2 ⟨hj, hr, hne⟩
  rw [he] at this
  cases this
 have e1 := hno p h1 h3
 have e2 := hno q h4 h6
 rw [e1] at h2
 rw [e2, h2] at h5
 cases h5
theorem row_zero {L : List Col} {E : List (List UInt8)} {sz i : Nat} (hL : ParL L sz) (hE : EncL L E) (hi : i < L.length) : parN 64 ((rowAll L (L.getD i (0, 0, false, 0)).2.2.2).map fun j => E.getD j []) = List.replicate 64 0 := by
 obtain ⟨p, h1, h2, h3, _⟩ := hL.one i hi
 rw [← h3]
 rw [parN_perm ((rowAll_perm h1).map _), List.map_cons, parN_cons]
 have e := hE.par p h1 h2
 rw [rowIx_eq hL h1 h2, makeS_64 (by simp only [ne_eq, List.map_eq_nil_iff]; exact again_ne hL h1) (fun x hx => by
  obtain ⟨j, hj, rfl⟩ := List.mem_map.1 hx
  exact hE.all64 j (againIx_mem.1 hj).1)] at e
 rw [← e, xorL_self, hE.all64 p h1]
theorem again_back {L : List Col} {E got : List (List UInt8)} {sz i : Nat} (hL : ParL L sz) (hE : EncL L E) (hi : i < L.length)
 (hg : ∀ j, j < L.length → (L.getD j (0, 0, false, 0)).2.2.2 = (L.getD i (0, 0, false, 0)).2.2.2 → j ≠ i → got.getD j [] = E.getD j []) : againS L got i = E.getD i [] := by
 have hmap : ((againIx L i L.length).map fun j => got.getD j []) = (againIx L i L.length).map fun j => E.getD j [] := by
  apply List.map_congr_left
  intro j hj
  obtain ⟨a, b, c⟩ := againIx_mem.1 hj
  exact hg j a b c
 have h64 : ∀ x ∈ (againIx L i L.length).map fun j => E.getD j [], x.length = 64 := fun x hx => by
  obtain ⟨j, hj, rfl⟩ := List.mem_map.1 hx
  exact hE.all64 j (againIx_mem.1 hj).1
 have hne : ((againIx L i L.length).map fun j => E.getD j []) ≠ [] := by simp only [ne_eq, List.map_eq_nil_iff]; exact again_ne hL hi
 have hno : hasE ((againIx L i L.length).map fun j => E.getD j []) = false := by
  unfold hasE
  rw [List.any_eq_false]
  intro x hx hxe
  have := h64 x hx
  rw [List.isEmpty_iff.1 hxe] at this
  cases this
 unfold againS
 simp only
 rw [hmap, hno, makeS_64 hne h64]
 simp only [Bool.false_eq_true, if_false]
 have hz := row_zero hL hE hi
 rw [parN_perm ((rowAll_perm hi).map _), List.map_cons, parN_cons] at hz
 exact xor_back (hE.all64 i hi) (parN_len h64) hz
theorem again_none {L : List Col} {got : List (List UInt8)} {i j : Nat} (hj : j < L.length) (hr : (L.getD j (0, 0, false, 0)).2.2.2 = (L.getD i (0, 0, false, 0)).2.2.2) (hne : j ≠ i) (he : got.getD j [] = []) : againS L got i = [] := by
 have : hasE ((againIx L i L.length).map fun j => got.getD j []) = true := by
  unfold hasE
  rw [List.any_eq_true]
  exact ⟨[], List.mem_map.2 ⟨j, againIx_mem.2 ⟨hj, hr, hne⟩, he⟩, rfl⟩
 unfold againS
 simp only
 rw [this, if_pos rfl]
theorem again_some {L : List Col} {got : List (List UInt8)} {i : Nat} (h : againS L got i ≠ []) : ∀ j, j < L.length → (L.getD j (0, 0, false, 0)).2.2.2 = (L.getD i (0, 0, false, 0)).2.2.2 → j ≠ i → got.getD j [] ≠ [] :=
 fun _ hj hr hne he => h (again_none hj hr hne he)
end Go.Proofs.YtbhkbcpljakmjaaGreat
