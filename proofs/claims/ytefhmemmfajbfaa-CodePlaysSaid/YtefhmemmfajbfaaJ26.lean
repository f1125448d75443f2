/-
  The statement CodePlays, walked.
-/
import Derived.Test.YtefhmemmfajbfaaJ25
namespace Go.Proofs.Ytefhmemmfajbfaa
set_option linter.unusedVariables false
set_option linter.unusedSimpArgs false
open Go.RowKit
attribute [local go_sem] Oper.semAt_some

theorem badTo_prefix (T got : List (List UInt8)) {i k : Nat} (h : i ≤ k) : badTo T got i <+: badTo T got k := by
  obtain ⟨r, rfl⟩ := Nat.exists_eq_add_of_le h
  unfold badTo
  rw [List.range_add, List.filter_append]
  exact List.prefix_append _ _
theorem badTo_at {T got : List (List UInt8)} {i k : Nat} {a b : List UInt8} (hi : i < k) (ha : T[i]? = some a) (hb : got[i]? = some b) (hne : (b == a) = false) : (badTo T got k)[(badTo T got i).length]? = some i := by
  obtain ⟨r, hr⟩ := badTo_prefix T got (show i + 1 ≤ k by omega)
  have h2 : (a != b) = true := bne_iff_ne.2 fun e => by rw [e, beq_self_eq_true] at hne; cases hne
  rw [← hr, badTo_step ha hb, h2, if_pos rfl, List.append_assoc, List.getElem?_append_right (Nat.le_refl _), Nat.sub_self]
  rfl
theorem tries_len8 {gs : List (Int × Int)} {secs pg pa size : Int} {got : List (List UInt8)} : (triesL gs secs pg pa size got).length ≤ 8 ∨ (triesL gs secs pg pa size got).length ≤ (colsOf gs secs pg pa size).length + 1 ∨ (triesL gs secs pg pa size got).length ≤ (grAt gs pg).2.toNat := by
  unfold triesL
  split
  · split
    · exact .inr (.inr (mirT_len _ _ _ _))
    · refine .inr (.inl ?_)
      unfold parT
      refine Nat.le_trans (List.length_filterMap_le _ _) ?_
      unfold parDevs
      rw [List.length_cons]
      have := devsL_len ((colsOf gs secs pg pa size).filter fun c => !c.2.2.1)
      have := List.length_filter_le (fun c : Col => !c.2.2.1) (colsOf gs secs pg pa size)
      omega
  · exact .inl (by simp)
theorem grown_more {w0 W W' : World} {nb B : Nat} {row : Option Nat} (h : w0.grownBy W (some nb)) (hg : W.grownBy W' row) (hr : ∀ r, row = some r → B ≤ r ∧ ∃ o : Obj, W.heap[r]? = some o ∧ o.isCells = false) (hB : w0.heap.size ≤ B) : w0.grownBy W' (some nb) :=
  ⟨hg.os.trans h.os, hg.tape.trans h.tape, hg.output.trans h.output, Nat.le_trans h.size hg.size, fun i hi hne => (hg.block i (Nat.lt_of_lt_of_le hi h.size) (fun e => by
    have := (hr i e.symm).1
    omega)).trans (h.block i hi hne)⟩
theorem encE_cases (gs : List (Int × Int)) (secs pg pa : Int) (s : List UInt8) : encE gs secs pg pa s = 0 ∨ (encE gs secs pg pa s = 1 ∧ encS gs secs pg pa s = [] ∧ (secOk s = false ∨ (secOk s = true ∧ cMay gs secs pg pa (secN s) = false))) := by
  unfold encE encS ofErr
  cases secOk s <;> cases cMay gs secs pg pa (secN s) <;> simp
set_option maxRecDepth 100000 in
set_option maxHeartbeats 4000000 in
theorem codePlays_any (A : Option Addr) (m cc : Nat) (gs : List (Int × Int)) (secs pg pa : Int) (s : List UInt8) (hsl : s.length ≤ 9223372036854775807) (size : Int) {gv : Value} {got : List (List UInt8)} (hgl : got.length ≤ 9223372036854775807) (stop : Nat) (hst : stop < 256) {w : World} (hg : GeoAt w A m gs) (hgo : SlAt w gv got.length (strC got)) :
    Calls Try.prog 7 #[.agg #[.slice A m cc, .int .i64 secs], .agg #[.int .i64 pg, .int .i64 pa], str s, .int .i64 size, gv, .int .u8 stop] w fun e w' => e = .returned (.bool true) ∧ Below w.heap.size w w' := by
  obtain ⟨Ag, cg, rfl⟩ := hgo.form
  obtain ⟨w2, hw2⟩ : ∃ z, (((w.alloc (.cells #[.slice A m cc, .int .i64 secs] 24)).alloc (.cells #[.int .i64 pg, .int .i64 pa] 26)).alloc (.cells #[.int .u8 stop] 5)).alloc (.cells #[.bool false] 4) = z := ⟨_, rfl⟩
  have B1 : Blk w2 w.heap.size 24 #[.slice A m cc, .int .i64 secs] := by rw [← hw2]; exact (((Blk.new _ _ _).alloc _).alloc _).alloc _
  have B2 : Blk w2 (w.heap.size + 1) 26 #[.int .i64 pg, .int .i64 pa] := by rw [← hw2]; exact ((Blk.new2 _ _ _ _).alloc _).alloc _
  have B3 : Blk w2 (w.heap.size + 1 + 1) 5 #[.int .u8 stop] := by rw [← hw2]; exact (blk_new3 _ _ _ _ _).alloc _
  have B4 : Blk w2 (w.heap.size + 1 + 1 + 1) 4 #[.bool false] := by rw [← hw2]; exact blk_new4 _ _ _ _ _ _
  have D2 : Below w.heap.size w w2 := by rw [← hw2]; exact keep_alloc (keep_alloc (keep_alloc (keep_alloc (Below.refl _ _) _) _) _) _
  have HB1 := Lib.hid B1
  have HB2 := Lib.hid B2
  have HBS := Lib.hid B3
  have HBR := Lib.hid B4
  have HD2 := Lib.hid D2
  have HW2 := Lib.hid hw2
  have HG := Lib.hid (hg.below D2 (Nat.le_refl _))
  have HO := Lib.hid (hgo.below D2)
  clear hg hgo B1 B2 B3 B4 D2 hw2
  refine (callsIn_wide (n := 9)).1 ?_
  refine callsIn_of_wp_marks Try.func7 rfl trivial (wpIn_wide.2 ?_) rfl
  simp only [Try.ntmps7, List.size_toArray, List.length_cons, List.length_nil, Nat.reduceAdd, Nat.reduceSub, Array.replicate_succ, Array.replicate_zero, List.push_toArray, List.append_toArray, List.nil_append, List.cons_append]
  go_wp2_with fail
  rw [HW2.out]
  refine (awake07_any w2).mono ?_
  rintro e w3 ⟨rfl, hb3⟩
  have HB3 := Lib.hid hb3
  have x0 := (HB1.out.below hb3 HB1.out.lt).at_ (i := 0) (v := .slice A m cc) rfl
  have x1 := (HB1.out.below hb3 HB1.out.lt).at_ (i := 1) (v := .int .i64 secs) rfl
  have p0 := (HB2.out.below hb3 HB2.out.lt).at_ (i := 0) (v := .int .i64 pg) rfl
  have p1 := (HB2.out.below hb3 HB2.out.lt).at_ (i := 1) (v := .int .i64 pa) rfl
  have r0 := (HBR.out.below hb3 HBR.out.lt).at_ (i := 0) (v := .bool false) rfl
  have rf := (HBR.out.below hb3 HBR.out.lt).fr 0
  clear hb3
  have HFW := Lib.hid (few_any A m cc gs secs (HG.out.below HB3.out (Nat.le_refl _)) (HO.out.below HB3.out) hgl)
  obtain ⟨fb, hfb⟩ : ∃ fb, fewB gs got = fb := ⟨_, rfl⟩
  rw [hfb] at HFW
  have HFB := Lib.hid hfb
  clear hfb
  cases fb with
  | false =>
    go_wp2_with fail
    refine HFW.out.mono ?_
    rintro e w4 ⟨rfl, hb4⟩
    have HB4 := Lib.hid (keep_below hb4 HB3.out)
    clear hb4
    go_wp2_with fail
    refine (awake07_any w4).mono ?_
    rintro e w5 ⟨rfl, hb5⟩
    have HB5 := Lib.hid (keep_below hb5 HB4.out)
    clear hb5 x0 x1 p0 p1 r0 rf
    have x0 := (HB1.out.below HB5.out HB1.out.lt).at_ (i := 0) (v := .slice A m cc) rfl
    have x1 := (HB1.out.below HB5.out HB1.out.lt).at_ (i := 1) (v := .int .i64 secs) rfl
    have p0 := (HB2.out.below HB5.out HB2.out.lt).at_ (i := 0) (v := .int .i64 pg) rfl
    have p1 := (HB2.out.below HB5.out HB2.out.lt).at_ (i := 1) (v := .int .i64 pa) rfl
    have r0 := (HBR.out.below HB5.out HBR.out.lt).at_ (i := 0) (v := .bool false) rfl
    have rf := (HBR.out.below HB5.out HBR.out.lt).fr 0
    go_wp2_with fail
    have hres := ((HBR.out.below HB5.out HBR.out.lt).put 0 (.bool true)).at_ (i := 0) (v := .bool true) rfl
    exact ⟨.bool true, by simp [results, Try.f7, go_sem, hres], rfl, below_set (keep_below HB5.out HD2.out) _ _ _ (by omega)⟩
  | true =>
    by_cases hl : 1000 < s.length
    · have hd : decide ((1000 : Int) < s.length) = true := decide_eq_true (by omega)
      clear hl
      go_wp2_with fail
      refine HFW.out.mono ?_
      rintro e w4 ⟨rfl, hb4⟩
      have HB4 := Lib.hid (keep_below hb4 HB3.out)
      clear hb4 x0 x1 p0 p1 r0 rf
      have x0 := (HB1.out.below HB4.out HB1.out.lt).at_ (i := 0) (v := .slice A m cc) rfl
      have x1 := (HB1.out.below HB4.out HB1.out.lt).at_ (i := 1) (v := .int .i64 secs) rfl
      have p0 := (HB2.out.below HB4.out HB2.out.lt).at_ (i := 0) (v := .int .i64 pg) rfl
      have p1 := (HB2.out.below HB4.out HB2.out.lt).at_ (i := 1) (v := .int .i64 pa) rfl
      have r0 := (HBR.out.below HB4.out HBR.out.lt).at_ (i := 0) (v := .bool false) rfl
      have rf := (HBR.out.below HB4.out HBR.out.lt).fr 0
      go_wp2_with fail
      refine (awake07_any w4).mono ?_
      rintro e w5 ⟨rfl, hb5⟩
      have HB5 := Lib.hid (keep_below hb5 HB4.out)
      clear hb5 x0 x1 p0 p1 r0 rf
      have x0 := (HB1.out.below HB5.out HB1.out.lt).at_ (i := 0) (v := .slice A m cc) rfl
      have x1 := (HB1.out.below HB5.out HB1.out.lt).at_ (i := 1) (v := .int .i64 secs) rfl
      have p0 := (HB2.out.below HB5.out HB2.out.lt).at_ (i := 0) (v := .int .i64 pg) rfl
      have p1 := (HB2.out.below HB5.out HB2.out.lt).at_ (i := 1) (v := .int .i64 pa) rfl
      have r0 := (HBR.out.below HB5.out HBR.out.lt).at_ (i := 0) (v := .bool false) rfl
      have rf := (HBR.out.below HB5.out HBR.out.lt).fr 0
      go_wp2_with fail
      have hres := ((HBR.out.below HB5.out HBR.out.lt).put 0 (.bool true)).at_ (i := 0) (v := .bool true) rfl
      exact ⟨.bool true, by simp [results, Try.f7, go_sem, hres], rfl, below_set (keep_below HB5.out HD2.out) _ _ _ (by omega)⟩
    have hd : decide ((1000 : Int) < s.length) = false := decide_eq_false (by omega)
    have HL := Lib.hid (Nat.le_of_not_lt hl)
    have HGN := Lib.hid (fewB_true HFB.out).1
    have hFA := fun (W : World) (hb : Below w2.heap.size w2 W) => fits_any A m cc gs secs pg pa size (HG.out.below hb (Nat.le_refl _)) (HO.out.below hb)
    have hFR := fun (W : World) (hb : Below w2.heap.size w2 W) => refFits_any A m cc gs secs pg pa size (HG.out.below hb (Nat.le_refl _)) (HO.out.below hb) (by have := HGN.out; omega)
    obtain ⟨ft, hft⟩ : ∃ ft, fitsB gs secs pg pa size got = ft := ⟨_, rfl⟩
    rw [hft] at hFA hFR
    have HFA := Lib.hid hFA
    have HFR := Lib.hid hFR
    have HFT := Lib.hid hft
    clear hFA hFR hft
    clear hl
    go_wp2_with fail
    refine HFW.out.mono ?_
    rintro e w4 ⟨rfl, hb4⟩
    have HB4 := Lib.hid (keep_below hb4 HB3.out)
    clear hb4 x0 x1 p0 p1 r0 rf
    have x0 := (HB1.out.below HB4.out HB1.out.lt).at_ (i := 0) (v := .slice A m cc) rfl
    have x1 := (HB1.out.below HB4.out HB1.out.lt).at_ (i := 1) (v := .int .i64 secs) rfl
    have p0 := (HB2.out.below HB4.out HB2.out.lt).at_ (i := 0) (v := .int .i64 pg) rfl
    have p1 := (HB2.out.below HB4.out HB2.out.lt).at_ (i := 1) (v := .int .i64 pa) rfl
    have r0 := (HBR.out.below HB4.out HBR.out.lt).at_ (i := 0) (v := .bool false) rfl
    have rf := (HBR.out.below HB4.out HBR.out.lt).fr 0
    have HEN := Lib.hid (encode_own A m cc gs secs pg pa s (HG.out.below HB4.out (Nat.le_refl _)) (by have := HL.out; omega))
    obtain ⟨E, hE⟩ : ∃ E, encE gs secs pg pa s = E := ⟨_, rfl⟩
    have hEC := encE_cases gs secs pg pa s
    rw [hE] at HEN hEC
    have HE := Lib.hid hE
    have HEC := Lib.hid hEC
    clear hE hEC
    go_wp2_with fail
    refine HEN.out.mono ?_
    rintro e w5 ⟨v, rfl, hsl5, hb5, hown5⟩
    have HB5 := Lib.hid (keep_below hb5 HB4.out)
    have HS5 := Lib.hid hsl5
    obtain ⟨A5, c5, rfl⟩ := hsl5.form
    have HTX := Lib.hid (refText_any s (by have := HL.out; omega))
    have hgm := fun W => (refMay_any A m cc gs secs pg pa (secN s) W)
    have HMY := Lib.hid hgm
    have hq : Int.tdiv (s.length : Int) 64 = (secN s : Int) := rfl
    have hs15 : secN s ≤ 15 := by have := HL.out; unfold secN; omega
    clear x0 x1 p0 p1 r0 rf hsl5 hb5 hown5 hgm
    go_wp2_with fail
    refine (HTX.out w5).mono ?_
    rintro e w6 ⟨rfl, hb6⟩
    have HB6 := Lib.hid (keep_below hb6 HB5.out)
    have HS6 := Lib.hid (HS5.out.below hb6)
    have x0 := (HB1.out.below HB6.out HB1.out.lt).at_ (i := 0) (v := .slice A m cc) rfl
    have x1 := (HB1.out.below HB6.out HB1.out.lt).at_ (i := 1) (v := .int .i64 secs) rfl
    have p0 := (HB2.out.below HB6.out HB2.out.lt).at_ (i := 0) (v := .int .i64 pg) rfl
    have p1 := (HB2.out.below HB6.out HB2.out.lt).at_ (i := 1) (v := .int .i64 pa) rfl
    have r0 := (HBR.out.below HB6.out HBR.out.lt).at_ (i := 0) (v := .bool false) rfl
    have rf := (HBR.out.below HB6.out HBR.out.lt).fr 0
    clear hb6 HS5 HTX HEN HFW HB3 HB4
    rcases HEC.out with rfl | ⟨rfl, he0, hno⟩
    · obtain ⟨e1, e2, e3⟩ := encE_zero HE.out
      have HM6 := Lib.hid (HMY.out w6 (HG.out.below HB6.out (Nat.le_refl _)))
      rw [e3] at HS6 ⊢
      rw [e2] at HM6
      rw [e1]
      have HE12 := Lib.hid (And.intro e1 e2)
      clear e1 e2 e3
      go_wp2_with fail
      refine HM6.out.mono ?_
      rintro e w7 ⟨rfl, hb7⟩
      have HB7 := Lib.hid (keep_below hb7 HB6.out)
      have HS7 := Lib.hid (HS6.out.below hb7)
      clear x0 x1 p0 p1 r0 rf hb7 HM6
      cases ft with
      | true =>
        have x0 := (HB1.out.below HB7.out HB1.out.lt).at_ (i := 0) (v := .slice A m cc) rfl
        have x1 := (HB1.out.below HB7.out HB1.out.lt).at_ (i := 1) (v := .int .i64 secs) rfl
        have p0 := (HB2.out.below HB7.out HB2.out.lt).at_ (i := 0) (v := .int .i64 pg) rfl
        have p1 := (HB2.out.below HB7.out HB2.out.lt).at_ (i := 1) (v := .int .i64 pa) rfl
        have r0 := (HBR.out.below HB7.out HBR.out.lt).at_ (i := 0) (v := .bool false) rfl
        have rf := (HBR.out.below HB7.out HBR.out.lt).fr 0
        obtain ⟨C, hCd, hCw, hCB, hCK, hCD⟩ := cls_below w7
        have f0 : ∀ W, C W → W.cell? ⟨w.heap.size, 0, none⟩ = some (.slice A m cc) := fun W h => keep_cell' x0 (hCB W h)
        have f1 : ∀ W, C W → W.cell? ⟨w.heap.size, 1, none⟩ = some (.int .i64 secs) := fun W h => keep_cell' x1 (hCB W h)
        have f2 : ∀ W, C W → W.cell? ⟨w.heap.size + 1, 0, none⟩ = some (.int .i64 pg) := fun W h => keep_cell' p0 (hCB W h)
        have f3 : ∀ W, C W → W.cell? ⟨w.heap.size + 1, 1, none⟩ = some (.int .i64 pa) := fun W h => keep_cell' p1 (hCB W h)
        have HCB := Lib.hid fun W h => keep_below (hCB W h) HB7.out
        clear x0 x1 p0 p1 r0 rf hq hs15
        go_wp2_with fail
        refine wp_region_cls C (by kernel_rfl) (by kernel_rfl) hCd ?_
        repeat (first
          | go_big_quiet_skip
          | (go_big_quiet_want
             go_big_quiet_op
             first
               | go_big_quiet_on
               | (apply Exists.intro
                  refine ⟨fun W hW => ?_, ?_⟩
                  · first
                      | exact rfl
                      | exact ⟨rfl, rfl⟩
                      | (have e0 := f0 W hW; have e1 := f1 W hW; have e2 := f2 W hW; have e3 := f3 W hW; simp only [e0, e1, e2, e3, Result.andThen_ok]; done)
                      | (have e0 := f0 W hW; have e1 := f1 W hW; have e2 := f2 W hW; have e3 := f3 W hW; simp only [e0, e1, e2, e3, Result.andThen_ok]; first | exact ⟨trivial, rfl⟩ | exact rfl | exact ⟨rfl, rfl⟩)
                      | (first | (refine (HFA.out W (HCB.out W hW)).mono ?_; rintro e w' ⟨rfl, hb⟩; exact ⟨rfl, hCK _ _ hW hb⟩) | (refine (HFR.out W (HCB.out W hW)).mono ?_; rintro e w' ⟨rfl, hb⟩; exact ⟨rfl, hCK _ _ hW hb⟩))
                  go_big_quiet_on)))
        refine wpQuiet_nil ?_
        intro wt hwt
        have HBT := Lib.hid (HCB.out wt hwt)
        have HBT1 := Lib.hid (hCB wt hwt)
        clear f0 f1 f2 f3 hCd hCB hCK hwt HCB hCw hCD
        have x0 := (HB1.out.below HBT.out HB1.out.lt).at_ (i := 0) (v := .slice A m cc) rfl
        have x1 := (HB1.out.below HBT.out HB1.out.lt).at_ (i := 1) (v := .int .i64 secs) rfl
        have p0 := (HB2.out.below HBT.out HB2.out.lt).at_ (i := 0) (v := .int .i64 pg) rfl
        have p1 := (HB2.out.below HBT.out HB2.out.lt).at_ (i := 1) (v := .int .i64 pa) rfl
        have r0 := (HBR.out.below HBT.out HBR.out.lt).at_ (i := 0) (v := .bool false) rfl
        have rf := (HBR.out.below HBT.out HBR.out.lt).fr 0
        have hFS := fun (W : World) (hb : Below w2.heap.size w2 W) => refFits_any A m cc gs secs pg pa (secN s) (HG.out.below hb (Nat.le_refl _)) (HO.out.below hb) (by have := HGN.out; omega)
        obtain ⟨fs, hfs⟩ : ∃ fs, fitsB gs secs pg pa (secN s) got = fs := ⟨_, rfl⟩
        rw [hfs] at hFS
        have hRE := refEncode_any A m cc gs secs pg pa s (HG.out.below HBT.out (Nat.le_refl _)) HE12.out.2 HE12.out.1
        have hBD := fun (W : World) (hb : Below w2.heap.size w2 W) => bad_any A m cc gs secs pg pa s (HG.out.below hb (Nat.le_refl _)) (HO.out.below hb) HL.out
        have hbl : badL gs secs pg pa s got = if fs then badTo (encL gs secs pg pa s) got (encL gs secs pg pa s).length else [] := by
          unfold badL badTo
          rw [HE.out, hfs]
          cases fs <;> rfl
        have hfl : fs = true → got.length = (encL gs secs pg pa s).length := fun h => by
          rw [h] at hfs
          rw [(fits_parts hfs).2.1, encL_len, ofList_may HE12.out.2]
        have h64 : (encL gs secs pg pa s).length ≤ 64 := by rw [encL_len]; exact ofList_le _ _ _ _ _
        obtain ⟨M, hM⟩ : ∃ M, encL gs secs pg pa s = M := ⟨_, rfl⟩
        obtain ⟨bl, hb0⟩ : ∃ bl, badL gs secs pg pa s got = bl := ⟨_, rfl⟩
        rw [hM] at hRE hbl hfl h64 HS7 ⊢
        rw [hb0] at hBD hbl
        have HRE := Lib.hid hRE
        have HBD := Lib.hid hBD
        have HBL := Lib.hid hbl
        have HFL := Lib.hid hfl
        have HFS := Lib.hid hFS
        have HST := Lib.hid (HS7.out.below HBT1.out)
        clear hRE hBD hbl hfl hFS hM hb0 hfs
        go_wp2_with fail
        refine HRE.out.mono ?_
        rintro e w8 ⟨mv, rfl, hsl8, hb8⟩
        have HB8 := Lib.hid (keep_below hb8 HBT.out)
        have HS8 := Lib.hid hsl8
        have HST8 := Lib.hid (HST.out.below hb8)
        obtain ⟨Am, cm, rfl⟩ := hsl8.form
        clear hsl8 hb8 x0 x1 p0 p1 r0 rf HS7 HST
        have x0 := (HB1.out.below HB8.out HB1.out.lt).at_ (i := 0) (v := .slice A m cc) rfl
        have x1 := (HB1.out.below HB8.out HB1.out.lt).at_ (i := 1) (v := .int .i64 secs) rfl
        have p0 := (HB2.out.below HB8.out HB2.out.lt).at_ (i := 0) (v := .int .i64 pg) rfl
        have p1 := (HB2.out.below HB8.out HB2.out.lt).at_ (i := 1) (v := .int .i64 pa) rfl
        have r0 := (HBR.out.below HB8.out HBR.out.lt).at_ (i := 0) (v := .bool false) rfl
        have rf := (HBR.out.below HB8.out HBR.out.lt).fr 0
        go_wp2_with fail
        refine (HBD.out w8 HB8.out).mono ?_
        rintro e w9 ⟨bv, rfl, hown9, hb9⟩
        have HB9 := Lib.hid (keep_below hb9 HB8.out)
        have hsb := slAt_own hown9
        obtain ⟨Ab, cb, rfl⟩ := hsb.form
        have HSB9 := Lib.hid hsb
        have HSM9 := Lib.hid (HS8.out.below hb9)
        have HST9 := Lib.hid (HST8.out.below hb9)
        clear hsb hown9 hb9 x0 x1 p0 p1 r0 rf HS8 HST8
        go_wp2_with fail
        go_loopw [18, 19] (fun nv t wr => ∃ i : Nat, i ≤ M.length ∧ nv = .int .i64 ((if fs then (badTo M got i).length else 0 : Nat) : Nat) ∧ t = .int .i64 i ∧ Below w9.heap.size w9 wr) (fun _ t _ => M.length - (RowKit.intOf t).toNat)
        case atStart => exact ⟨0, Nat.zero_le _, by cases fs <;> rfl, rfl, Below.refl _ _⟩
        case round =>
          obtain ⟨i, hi, rfl, rfl, hb⟩ := hrel
          have HBI := Lib.hid hb
          have hbt := badTo_len M got i
          obtain ⟨n, hn⟩ : ∃ n, (if fs then (badTo M got i).length else 0 : Nat) = n := ⟨_, rfl⟩
          have hn64 : n ≤ 64 := by rw [← hn]; cases fs <;> simp <;> omega
          rw [hn]
          have HN := Lib.hid hn
          by_cases hlt : i < M.length
          · obtain ⟨ti, hti⟩ : ∃ t, M[i]? = some t := ⟨_, List.getElem?_eq_getElem hlt⟩
            obtain ⟨bt, ot, rfl, hbt1, hct⟩ := HST9.out.cells (by omega)
            obtain ⟨bm, om, rfl, hbm1, hcm⟩ := HSM9.out.cells (by omega)
            have q0 := keepc (hct _ _ (strC_at hti)) hb
            have q1 := keepc (hcm _ _ (strC_at hti)) hb
            have hd1 : decide (i < M.length) = true := decide_eq_true hlt
            have HIL := Lib.hid hlt
            have HTI := Lib.hid hti
            have HQ := Lib.hid (And.intro q0 q1)
            obtain ⟨C, hCd, hCw, hCB, hCK, hCD⟩ := cls_below wr
            have f0 : ∀ W, C W → W.cell? ⟨bt, ot + i, none⟩ = some (str ti) := fun W h => keepc q0 (hCB W h)
            have f1 : ∀ W, C W → W.cell? ⟨bm, om + i, none⟩ = some (str ti) := fun W h => keepc q1 (hCB W h)
            clear hti hct hcm hbt1 hbm1 q0 q1 hCw hCK hCD hb hn hbt
            go_wp2_with fail
            refine wp_region_cls C (by kernel_rfl) (by kernel_rfl) hCd ?_
            repeat (first
              | go_big_quiet_skip
              | (go_big_quiet_want
                 go_big_quiet_op
                 first
                   | go_big_quiet_on
                   | (apply Exists.intro
                      refine ⟨fun W hW => ?_, ?_⟩
                      · first
                          | exact rfl
                          | exact ⟨rfl, rfl⟩
                          | (have e0 := f0 W hW; have e1 := f1 W hW; simp only [e0, e1, Result.andThen_ok]; done)
                          | (have e0 := f0 W hW; have e1 := f1 W hW; simp only [e0, e1, Result.andThen_ok]; first | exact ⟨trivial, rfl⟩ | exact rfl | exact ⟨rfl, rfl⟩)
                          | (skip)
                      go_big_quiet_on)))
            refine wpQuiet_nil ?_
            intro wy hwy
            have HBYR := Lib.hid (hCB wy hwy)
            have HBY := Lib.hid (keep_below (hCB wy hwy) HBI.out)
            clear f0 f1 hCd hCB hwy HBI
            have HBY2 := Lib.hid (keep_below HBY.out HB9.out)
            have x0 := (HB1.out.below HBY2.out HB1.out.lt).at_ (i := 0) (v := .slice A m cc) rfl
            have x1 := (HB1.out.below HBY2.out HB1.out.lt).at_ (i := 1) (v := .int .i64 secs) rfl
            have p0 := (HB2.out.below HBY2.out HB2.out.lt).at_ (i := 0) (v := .int .i64 pg) rfl
            have p1 := (HB2.out.below HBY2.out HB2.out.lt).at_ (i := 1) (v := .int .i64 pa) rfl
            have r0 := (HBR.out.below HBY2.out HBR.out.lt).at_ (i := 0) (v := .bool false) rfl
            have rf := (HBR.out.below HBY2.out HBR.out.lt).fr 0
            obtain ⟨C, hCd, hCw, hCB, hCK, hCD⟩ := cls_below wy
            have f0 : ∀ W, C W → W.cell? ⟨w.heap.size, 0, none⟩ = some (.slice A m cc) := fun W h => keep_cell' x0 (hCB W h)
            have f1 : ∀ W, C W → W.cell? ⟨w.heap.size, 1, none⟩ = some (.int .i64 secs) := fun W h => keep_cell' x1 (hCB W h)
            have f2 : ∀ W, C W → W.cell? ⟨w.heap.size + 1, 0, none⟩ = some (.int .i64 pg) := fun W h => keep_cell' p0 (hCB W h)
            have f3 : ∀ W, C W → W.cell? ⟨w.heap.size + 1, 1, none⟩ = some (.int .i64 pa) := fun W h => keep_cell' p1 (hCB W h)
            have f4 : ∀ W, C W → W.cell? ⟨bm, om + i, none⟩ = some (str ti) := fun W h => keepc HQ.out.2 (HBYR.out.trans ((hCB W h).mono HBYR.out.size))
            have HCB := Lib.hid fun W h => keep_below (hCB W h) HBY2.out
            have hq : Int.tdiv (s.length : Int) 64 = (secN s : Int) := rfl
            have hs15 : secN s ≤ 15 := by have := HL.out; unfold secN; omega
            clear x0 x1 p0 p1 r0 rf hCw hCD
            cases fs with
            | false =>
              have HN1 : Hid ((if false = true then (badTo M got (i + 1)).length else 0 : Nat) = n) := Lib.hid HN.out
              go_wp2_with fail
              refine wp_region_cls C (by kernel_rfl) (by kernel_rfl) hCd ?_
              repeat (first
                | go_big_quiet_skip
                | (go_big_quiet_want
                   go_big_quiet_op
                   first
                     | go_big_quiet_on
                     | (apply Exists.intro
                        refine ⟨fun W hW => ?_, ?_⟩
                        · first
                            | exact rfl
                            | exact ⟨rfl, rfl⟩
                            | (have e0 := f0 W hW; have e1 := f1 W hW; have e2 := f2 W hW; have e3 := f3 W hW; have e4 := f4 W hW; simp only [e0, e1, e2, e3, e4, Result.andThen_ok]; done)
                            | (have e0 := f0 W hW; have e1 := f1 W hW; have e2 := f2 W hW; have e3 := f3 W hW; have e4 := f4 W hW; simp only [e0, e1, e2, e3, e4, Result.andThen_ok]; first | exact ⟨trivial, rfl⟩ | exact rfl | exact ⟨rfl, rfl⟩)
                            | (refine (HFS.out W (HCB.out W hW)).mono ?_; rintro e w' ⟨rfl, hb⟩; exact ⟨rfl, hCK _ _ hW hb⟩)
                        go_big_quiet_on)))
              refine wpQuiet_nil ?_
              intro wz hwz
              have HBI := Lib.hid (keep_below (hCB wz hwz) HBY.out)
              clear f0 f1 f2 f3 f4 hCd hCB hCK hwz HCB hq hs15 hd1
              go_wp2_with fail
              go_roundw
              case rel => exact ⟨i + 1, HIL.out, by rw [HN1.out]; skip, by go_num, HBI.out⟩
              case measure => have := HIL.out; simp [RowKit.intOf]; omega
            | true =>
              have hgl2 := HFL.out rfl
              have HN2 : Hid ((badTo M got i).length = n) := Lib.hid HN.out
              obtain ⟨gi, hgi⟩ : ∃ t, got[i]? = some t := ⟨_, List.getElem?_eq_getElem (by have := HIL.out; omega)⟩
              obtain ⟨bg, og, rfl, hbg1, hcg⟩ := HO.out.cells (by have := HIL.out; omega)
              have q4 := keepc (hcg _ _ (strC_at hgi)) HBY2.out
              have f5 : ∀ W, C W → W.cell? ⟨bg, og + i, none⟩ = some (str gi) := fun W h => keepc q4 (hCB W h)
              have hig : i < got.length := by have := HIL.out; omega
              have hil : i < M.length := HIL.out
              have hstep := badTo_step HTI.out hgi
              have hat := fun h => badTo_at (k := M.length) hil HTI.out hgi h
              rw [HN2.out] at hat
              clear hgi hcg hbg1 q4
              cases hbe : (gi == ti) with
              | true =>
                have hbn : (gi != ti) = false := by unfold bne; rw [hbe]; rfl
                have hbe2 : (ti != gi) = false := by rw [eq_of_beq hbe]; exact bne_self_eq_false _
                rw [hbe2] at hstep
                have HN1 : Hid ((badTo M got (i + 1)).length = n) := Lib.hid (by rw [hstep, ← HN2.out]; simp)
                clear hstep hat hbe2 hgl2
                go_wp2_with fail
                refine wp_region_cls C (by kernel_rfl) (by kernel_rfl) hCd ?_
                repeat (first
                  | go_big_quiet_skip
                  | (go_big_quiet_want
                     go_big_quiet_op
                     first
                       | go_big_quiet_on
                       | (apply Exists.intro
                          refine ⟨fun W hW => ?_, ?_⟩
                          · first
                              | exact rfl
                              | exact ⟨rfl, rfl⟩
                              | (have e0 := f0 W hW; have e1 := f1 W hW; have e2 := f2 W hW; have e3 := f3 W hW; have e4 := f4 W hW; have e5 := f5 W hW; simp only [e0, e1, e2, e3, e4, e5, Result.andThen_ok]; done)
                              | (have e0 := f0 W hW; have e1 := f1 W hW; have e2 := f2 W hW; have e3 := f3 W hW; have e4 := f4 W hW; have e5 := f5 W hW; simp only [e0, e1, e2, e3, e4, e5, Result.andThen_ok]; first | exact ⟨trivial, rfl⟩ | exact rfl | exact ⟨rfl, rfl⟩)
                              | (refine (HFS.out W (HCB.out W hW)).mono ?_; rintro e w' ⟨rfl, hb⟩; exact ⟨rfl, hCK _ _ hW hb⟩)
                          go_big_quiet_on)))
                refine wpQuiet_nil ?_
                intro wz hwz
                have HBI := Lib.hid (keep_below (hCB wz hwz) HBY.out)
                clear f0 f1 f2 f3 f4 f5 hCd hCB hCK hwz HCB hq hs15 hd1
                go_wp2_with fail
                go_roundw
                case rel => exact ⟨i + 1, HIL.out, by rw [HN1.out]; skip, by go_num, HBI.out⟩
                case measure => have := HIL.out; simp [RowKit.intOf]; omega
              | false =>
                have hbn : (gi != ti) = true := by unfold bne; rw [hbe]; rfl
                have hbe2 : (ti != gi) = true := bne_iff_ne.2 fun e => by rw [e, beq_self_eq_true] at hbe; cases hbe
                rw [hbe2] at hstep
                have HN1 : Hid ((badTo M got (i + 1)).length = n + 1) := Lib.hid (by rw [hstep, ← HN2.out]; simp)
                have hbl2 : bl[n]? = some i := by rw [HBL.out, if_pos rfl]; exact hat hbe
                have hnb := (List.getElem?_eq_some_iff.1 hbl2).1
                have HBLN := Lib.hid hbl2
                have HNB := Lib.hid hnb
                clear hstep hat hbe2 hbl2 hgl2 hnb
                go_wp2_with fail
                refine wp_region_cls C (by kernel_rfl) (by kernel_rfl) hCd ?_
                repeat (first
                  | go_big_quiet_skip
                  | (go_big_quiet_want
                     go_big_quiet_op
                     first
                       | go_big_quiet_on
                       | (apply Exists.intro
                          refine ⟨fun W hW => ?_, ?_⟩
                          · first
                              | exact rfl
                              | exact ⟨rfl, rfl⟩
                              | (have e0 := f0 W hW; have e1 := f1 W hW; have e2 := f2 W hW; have e3 := f3 W hW; have e4 := f4 W hW; have e5 := f5 W hW; simp only [e0, e1, e2, e3, e4, e5, Result.andThen_ok]; done)
                              | (have e0 := f0 W hW; have e1 := f1 W hW; have e2 := f2 W hW; have e3 := f3 W hW; have e4 := f4 W hW; have e5 := f5 W hW; simp only [e0, e1, e2, e3, e4, e5, Result.andThen_ok]; first | exact ⟨trivial, rfl⟩ | exact rfl | exact ⟨rfl, rfl⟩)
                              | (refine (HFS.out W (HCB.out W hW)).mono ?_; rintro e w' ⟨rfl, hb⟩; exact ⟨rfl, hCK _ _ hW hb⟩)
                          go_big_quiet_on)))
                refine wpQuiet_nil ?_
                intro wz hwz
                have HBI := Lib.hid (keep_below (hCB wz hwz) HBY.out)
                clear f0 f1 f2 f3 f4 f5 hCd hCB hCK hwz HCB hq hs15 hd1
                obtain ⟨bb, ob, rfl, hbb1, hcb⟩ := HSB9.out.cells (by have := HNB.out; omega)
                have q6 := keepc (hcb _ _ (ixC_at HBLN.out)) HBI.out
                have hd5 : decide (bl.length ≤ n) = false := decide_eq_false (by have := HNB.out; omega)
                have hnl := HNB.out
                clear hbb1 hcb
                go_wp2_with fail
                go_roundw
                case rel => exact ⟨i + 1, HIL.out, by rw [HN1.out]; go_num, by go_num, HBI.out⟩
                case measure => have := HIL.out; simp [RowKit.intOf]; omega
          · obtain rfl : i = M.length := by omega
            have hd1 : decide (M.length < M.length) = false := decide_eq_false (by omega)
            have hbe : n = bl.length := by rw [HBL.out, ← hn]; cases fs <;> rfl
            rw [hbe]
            rename World => wt
            have HBT := Lib.hid (keep_below hb HB9.out)
            clear hn hbe hb hbt HN
            obtain ⟨wn, hwn⟩ : ∃ z, wt.alloc (.cells #[.slice none 0 0] 56) = z := ⟨_, rfl⟩
            have HWN := Lib.hid hwn
            have HBN : Hid (Below w2.heap.size w2 wn) := Lib.hid (by rw [← hwn]; exact keep_alloc HBT.out _)
            have HNB : Hid (Blk wn wt.heap.size 56 #[.slice none 0 0]) := Lib.hid (by rw [← hwn]; exact Blk.new _ _ _)
            have x0 := (HB1.out.below HBN.out HB1.out.lt).at_ (i := 0) (v := .slice A m cc) rfl
            have x1 := (HB1.out.below HBN.out HB1.out.lt).at_ (i := 1) (v := .int .i64 secs) rfl
            have p0 := (HB2.out.below HBN.out HB2.out.lt).at_ (i := 0) (v := .int .i64 pg) rfl
            have p1 := (HB2.out.below HBN.out HB2.out.lt).at_ (i := 1) (v := .int .i64 pa) rfl
            have r0 := (HBR.out.below HBN.out HBR.out.lt).at_ (i := 0) (v := .bool false) rfl
            have rf := (HBR.out.below HBN.out HBR.out.lt).fr 0
            rw [← hwn] at x0 x1 p0 p1 r0 rf
            have HNS : Hid (w2.heap.size ≤ wt.heap.size ∧ w.heap.size + 1 + 1 + 1 < w2.heap.size) := Lib.hid ⟨HBT.out.size, HBR.out.lt⟩
            clear hwn
            go_wp2_with fail
            rw [HWN.out]
            refine (HFR.out wn HBN.out).mono ?_
            rintro e w10 ⟨rfl, hb10⟩
            have HB10 := Lib.hid (keep_below hb10 HBN.out)
            have HN10 := Lib.hid (HNB.out.below hb10 HNB.out.lt)
            clear x0 x1 p0 p1 r0 rf hb10
            have HTR := Lib.hid (refTries_any A m cc gs secs pg pa size (HG.out.below HB10.out (Nat.le_refl _)) (HO.out.below HB10.out) HFT.out)
            have x0 := (HB1.out.below HB10.out HB1.out.lt).at_ (i := 0) (v := .slice A m cc) rfl
            have x1 := (HB1.out.below HB10.out HB1.out.lt).at_ (i := 1) (v := .int .i64 secs) rfl
            have p0 := (HB2.out.below HB10.out HB2.out.lt).at_ (i := 0) (v := .int .i64 pg) rfl
            have p1 := (HB2.out.below HB10.out HB2.out.lt).at_ (i := 1) (v := .int .i64 pa) rfl
            have r0 := (HBR.out.below HB10.out HBR.out.lt).at_ (i := 0) (v := .bool false) rfl
            have rf := (HBR.out.below HB10.out HBR.out.lt).fr 0
            have hTN := tries_len8 (gs := gs) (secs := secs) (pg := pg) (pa := pa) (size := size) (got := got)
            have hO64 := ofList_le gs secs pg pa size
            rw [ofList_may (fits_parts HFT.out).1] at hO64
            have hw8 : (grAt gs pg).2.toNat ≤ 8 := by
              obtain ⟨hhas, _⟩ := cMay_true (fits_parts HFT.out).1
              obtain ⟨g, x, rfl, _, _, _, _, hx, hgx, ho⟩ := gHas_true hhas
              rw [hgx]
              have := gOne_true ho
              omega
            obtain ⟨T, hT⟩ : ∃ T, triesL gs secs pg pa size got = T := ⟨_, rfl⟩
            rw [hT] at HTR hTN
            have HT := Lib.hid hT
            have HTN : Hid (T.length ≤ 100) := Lib.hid (by omega)
            clear hT hTN hO64 hw8
            go_wp2_with fail
            refine HTR.out.mono ?_
            rintro e w11 ⟨wv, rfl, hsl11, hb11⟩
            have HB11 := Lib.hid (keep_below hb11 HB10.out)
            have HN11 := Lib.hid (HN10.out.below hb11 HN10.out.lt)
            obtain ⟨Aw, cw, rfl⟩ := hsl11.form
            have n0 := HN11.out.at_ (i := 0) (v := .slice none 0 0) rfl
            have nf := HN11.out.fr 0
            have HS11 : Hid (0 < T.length → ∃ bw ow, Aw = some ⟨bw, ow, none⟩ ∧ bw < w11.heap.size ∧ bw ≠ wt.heap.size ∧ ∀ j u, (trC T)[j]? = some u → w11.cell? ⟨bw, ow + j, none⟩ = some u) := Lib.hid fun hp => by
              obtain ⟨bw, ow, e1, e2, e3⟩ := hsl11.cells hp
              refine ⟨bw, ow, e1, e2, ?_, e3⟩
              rintro rfl
              have h1 := e3 0 _ (trC_at (i := 0) (List.getElem?_eq_getElem hp)).1
              have h2 : w11.cell? ⟨wt.heap.size, ow + 0, none⟩ = #[Value.slice none 0 0][ow + 0]? := cell_of_row w11 _ _ _ _ _ HN11.out
              rw [h2] at h1
              match ow, h1 with
              | 0, h1 => simp at h1
              | ow + 1, h1 => simp at h1
            obtain ⟨w13, hw13⟩ : ∃ z, (w11.setCell ⟨wt.heap.size, 0, none⟩ (.slice Aw T.length cw)).alloc (.cells #[.int .i64 0] 3) = z := ⟨_, rfl⟩
            have HW13 := Lib.hid hw13
            have HB13 : Hid (Below w2.heap.size w2 w13) := Lib.hid (by rw [← hw13]; exact keep_alloc (below_set HB11.out _ _ _ HNS.out.1) _)
            have HNN13 : Hid (Blk w13 w11.heap.size 3 #[.int .i64 0]) := Lib.hid (by
              rw [← hw13]
              have := Blk.new (w11.setCell ⟨wt.heap.size, 0, none⟩ (.slice Aw T.length cw)) 3 #[.int .i64 0]
              rwa [show (w11.setCell ⟨wt.heap.size, 0, none⟩ (.slice Aw T.length cw)).heap.size = w11.heap.size by simp [World.setCell]] at this)
            have HNW13 : Hid (Blk w13 wt.heap.size 56 #[.slice Aw T.length cw]) := Lib.hid (by
              rw [← hw13]
              have := HN11.out.put 0 (.slice Aw T.length cw)
              exact Blk.alloc this _)
            have HS13 : Hid (0 < T.length → ∃ bw ow, Aw = some ⟨bw, ow, none⟩ ∧ bw < w11.heap.size ∧ ∀ j u, (trC T)[j]? = some u → w13.cell? ⟨bw, ow + j, none⟩ = some u) := Lib.hid fun hp => by
              obtain ⟨bw, ow, e1, e2, e3, e4⟩ := HS11.out hp
              refine ⟨bw, ow, e1, e2, fun j u hu => ?_⟩
              rw [← hw13]
              refine keep_cell' ?_ (keep_alloc (Below.refl _ _) _)
              exact (World.cell?_of_block (Below.heap_setCell w11 _ _ bw e3)).trans (e4 j u hu)
            have HNL : Hid (w11.heap.size < w13.heap.size ∧ wt.heap.size < w11.heap.size) := Lib.hid ⟨HNN13.out.lt, HN11.out.lt⟩
            clear x0 x1 p0 p1 r0 rf hb11 hsl11
            have x0 := (HB1.out.below HB13.out HB1.out.lt).at_ (i := 0) (v := .slice A m cc) rfl
            have x1 := (HB1.out.below HB13.out HB1.out.lt).at_ (i := 1) (v := .int .i64 secs) rfl
            have p0 := (HB2.out.below HB13.out HB2.out.lt).at_ (i := 0) (v := .int .i64 pg) rfl
            have p1 := (HB2.out.below HB13.out HB2.out.lt).at_ (i := 1) (v := .int .i64 pa) rfl
            have r0 := (HBR.out.below HB13.out HBR.out.lt).at_ (i := 0) (v := .bool false) rfl
            have rf := (HBR.out.below HB13.out HBR.out.lt).fr 0
            have HTA := Lib.hid (tries_any (w := w13) A m cc secs pg pa size (.slice Ag got.length cg) ⟨_, _, _, rfl⟩)
            rw [← hw13] at x0 x1 p0 p1 r0 rf
            clear hw13
            go_wp2_with fail
            rw [HW13.out]
            refine HTA.out.mono ?_
            rintro e wc ⟨rfl, hbx, hbc2⟩
            clear x0 x1 p0 p1 r0 rf n0 nf
            have hBC : Below w2.heap.size w2 wc := keep_below hbc2 HB13.out
            have hgxC := HG.out.below hBC (Nat.le_refl _)
            have hNC := HNN13.out.below hbc2 HNN13.out.lt
            have hWC := HNW13.out.below hbc2 HNW13.out.lt
            have hRC := HBR.out.below hBC HBR.out.lt
            have hSC := HBS.out.below hBC HBS.out.lt
            have hsx : SlV wc (fun b => b = w11.heap.size) (.slice Ag got.length cg) got.length (strC got) := by
              obtain ⟨Ag', cg', e, hle, hc⟩ := HO.out
              injection e with e1 _ e2
              subst e1 e2
              refine ⟨_, _, rfl, hle, fun hp => ?_⟩
              obtain ⟨b, o, e1, e2, e3⟩ := hc hp
              refine ⟨b, o, e1, Nat.lt_of_lt_of_le e2 hBC.size, ?_, fun j u hu => (World.cell?_of_block (hBC.block b e2)).trans (e3 j u hu)⟩
              have := HNS.out.1
              have := HNL.out.2
              omega
            have hV : ∀ b, b = w11.heap.size → b < wc.heap.size := fun b h => by rw [h]; exact hNC.lt
            have HIW := Lib.hid (keep_below hBC HD2.out)
            have HBC := Lib.hid hBC
            have HWC := Lib.hid (And.intro hWC (And.intro hRC hSC))
            have HSC : Hid (0 < T.length → ∃ bw ow, Aw = some ⟨bw, ow, none⟩ ∧ bw < w11.heap.size ∧ bw < wc.heap.size ∧ ∀ j u, (trC T)[j]? = some u → wc.cell? ⟨bw, ow + j, none⟩ = some u) := Lib.hid fun hp => by
              obtain ⟨bw, ow, e1, e2, e3⟩ := HS13.out hp
              exact ⟨bw, ow, e1, e2, by have := hNC.lt; omega, fun j u hu => keep_cell' (e3 j u hu) hbc2⟩
            clear hBC hWC hRC hSC
            go_wp2_with fail
            refine (wpIn_wide (n := 9)).1 ?_
            refine wpIn_rangeFunc_ownG rfl (by decide) (gf := 29) (lb := _) rfl trivial (enters_of Try.func29 (by kernel_rfl) rfl)
              (tries_seq (9 - 1) (V := fun b => b = w11.heap.size) hbx hgxC hsx hV) KC.trans (kc_putObj) (Below.refl _ _) (fun _ => rfl)
              (fun pre W => wc.grownBy W (some w11.heap.size) ∧ Blk W w11.heap.size 3 #[.int .i64 (pre.length : Nat)])
              (fun c pre W => c = .ret ∧ (¬ pre <+: T ∨ (Blk W (w.heap.size + 1 + 1 + 1) 4 #[.bool true] ∧ Below w.heap.size w W))) ?hIyc ?hIxyc ?h0yc ?a1yc ?assignyc ?bodyyc ?doneyc ?stopyc
            case hIyc => exact fun s A B row hs hg hr => ⟨grown_more hs.1 hg hr (Nat.le_refl _), blk_kept hs.2 hg hr⟩
            case hIxyc => exact fun c s A B row hs hg hr => ⟨hs.1, hs.2.imp id fun h => ⟨blk_kept h.1 hg hr, ownFrom_below (β := List TryX) (Nat.le_refl _) HIW.out.size s A B row h.2 hg hr⟩⟩
            case h0yc => exact ⟨⟨rfl, rfl, rfl, Nat.le_refl _, fun _ _ _ => rfl⟩, hNC⟩
            case assignyc =>
              intro l x W K hK
              simp only [tryE, List.zip_toArray, List.zip_cons_cons, List.zip_nil_left, List.zip_nil_right, List.foldl_toArray, List.foldl_cons, List.foldl_nil, List.size_toArray, List.length_cons, List.length_nil, List.setIfInBounds_toArray, List.set_cons_succ, List.set_cons_zero]
              gi_wp2
              exact hK
            case bodyyc =>
              rintro l pre ⟨dd, t⟩ W ⟨hgr, k0⟩ hlt
              rw [HT.out] at hlt
              obtain ⟨n, hn⟩ : ∃ n, pre.length = n := ⟨_, rfl⟩
              rw [hn] at k0 hlt
              have hn100 : n ≤ 100 := by have := HTN.out; omega
              have hnl := HNL.out
              have hns := HNS.out
              obtain ⟨bw, ow, rfl, hbw1, hbw2, hbw3⟩ := HSC.out (by omega)
              obtain ⟨⟨dq, tq⟩, hx⟩ : ∃ x, T[n]? = some x := ⟨_, List.getElem?_eq_getElem hlt⟩
              have hfar : ∀ i, i < wc.heap.size → i ≠ w11.heap.size → W.heap[i]? = wc.heap[i]? := fun i h1 h2 => hgr.block i h1 (fun e => by injection e with e; exact h2 e)
              have c0 : W.cell? ⟨w11.heap.size, 0, none⟩ = some (.int .i64 n) := k0.at_ rfl
              have f0 := k0.fr 0
              have hW3 : Blk W wt.heap.size 56 #[.slice (some ⟨bw, ow, none⟩) T.length cw] := (hfar _ HWC.out.1.lt (by omega)).trans HWC.out.1
              have hR3 : Blk W (w.heap.size + 1 + 1 + 1) 4 #[.bool false] := (hfar _ HWC.out.2.1.lt (by omega)).trans HWC.out.2.1
              have hP3 : Blk W (w.heap.size + 1 + 1) 5 #[.int .u8 stop] := (hfar _ HWC.out.2.2.lt (by omega)).trans HWC.out.2.2
              have c1 : W.cell? ⟨wt.heap.size, 0, none⟩ = some (.slice (some ⟨bw, ow, none⟩) T.length cw) := hW3.at_ rfl
              have c2 : W.cell? ⟨w.heap.size + 1 + 1 + 1, 0, none⟩ = some (.bool false) := hR3.at_ rfl
              have f2 := hR3.fr 0
              have c3 : W.cell? ⟨w.heap.size + 1 + 1, 0, none⟩ = some (.int .u8 stop) := hP3.at_ rfl
              have q0 : W.cell? ⟨bw, ow + n * 2, none⟩ = some (.int .i64 dq) := (World.cell?_of_block (hfar bw hbw2 (by omega))).trans (hbw3 _ _ (trC_at hx).1)
              have q1 : W.cell? ⟨bw, ow + n * 2 + 1, none⟩ = some (str tq) := by
                rw [Nat.add_assoc]
                exact (World.cell?_of_block (hfar bw hbw2 (by omega))).trans (hbw3 _ _ (trC_at hx).2)
              have hdl : decide (T.length ≤ n) = false := decide_eq_false (by omega)
              have HK := Lib.hid (And.intro k0 (And.intro hR3 hgr))
              have HX := Lib.hid (And.intro hn (And.intro hx hlt))
              have hBW := below_only HBC.out hgr (by omega)
              have HBW := Lib.hid (keep_below hBW HD2.out)
              clear k0 hgr hn hx hfar hW3 hR3 hP3 hbw1 hbw2 hbw3 hBW
              have HBAD : Hid ((dq, tq) ≠ (dd, t) → ¬ (pre ++ [(dd, t)]) <+: T) := Lib.hid fun hne h => by
                obtain ⟨r, hr⟩ := h
                have h2 := HX.out.2.1
                rw [← hr, List.append_assoc, List.getElem?_append_right (by have := HX.out.1; omega), HX.out.1, Nat.sub_self] at h2
                simp at h2
                exact hne (by rw [h2.1, h2.2])
              by_cases hdd : dq = dd
              · subst hdd
                by_cases htt : tq = t
                · subst htt
                  cases hst2 : ((n : Int) + 1 == (stop : Int)) with
                  | true =>
                    gi_wp2_with fail
                    exact ⟨((KeepsOthers.setCell _ _ _).from _).trans ((KeepsOthers.setCell _ _ _).from _), rfl, .inr ⟨(HK.out.2.1.far (by show _ ≠ w11.heap.size; omega) _).put 0 (.bool true), below_set (below_set HBW.out _ _ _ (by omega)) _ _ _ (by omega)⟩⟩
                  | false =>
                    gi_wp2_with fail
                    refine ⟨(KeepsOthers.setCell _ _ _).from _, kc_set _ _ _ rfl, only_set HK.out.2.2 (.inl rfl) _, ?_⟩
                    have := HK.out.1.put 0 (.int .i64 ((n : Int) + 1))
                    rw [List.length_append, HX.out.1]
                    exact this
                · have ht1 : (tq == t) = false := beq_eq_false_iff_ne.2 htt
                  have ht2 : (tq != t) = true := bne_iff_ne.2 htt
                  have HBD := Lib.hid (HBAD.out fun e => htt (by injection e))
                  clear htt
                  gi_wp2_with fail
                  exact ⟨(KeepsOthers.setCell _ _ _).from _, rfl, .inl HBD.out⟩
              · have hd1 : (dq == dd) = false := beq_eq_false_iff_ne.2 hdd
                have hd2 : (dq != dd) = true := bne_iff_ne.2 hdd
                have HBD := Lib.hid (HBAD.out fun e => hdd (by injection e))
                clear hdd
                gi_wp2_with fail
                exact ⟨(KeepsOthers.setCell _ _ _).from _, rfl, .inl HBD.out⟩
            case doneyc =>
              rintro D xs W hD hS ⟨hgr, k0⟩ hK
              rw [HT.out] at hS
              rw [hS] at k0
              have hnl := HNL.out
              have hns := HNS.out
              have hfar : ∀ i, i < wc.heap.size → i ≠ w11.heap.size → W.heap[i]? = wc.heap[i]? := fun i h1 h2 => hgr.block i h1 (fun e => by injection e with e; exact h2 e)
              have c0 : W.cell? ⟨w11.heap.size, 0, none⟩ = some (.int .i64 T.length) := k0.at_ rfl
              have hW3 : Blk W wt.heap.size 56 #[.slice Aw T.length cw] := (hfar _ HWC.out.1.lt (by omega)).trans HWC.out.1
              have hR3 : Blk W (w.heap.size + 1 + 1 + 1) 4 #[.bool false] := (hfar _ HWC.out.2.1.lt (by omega)).trans HWC.out.2.1
              have c1 : W.cell? ⟨wt.heap.size, 0, none⟩ = some (.slice Aw T.length cw) := hW3.at_ rfl
              have c2 : W.cell? ⟨w.heap.size + 1 + 1 + 1, 0, none⟩ = some (.bool false) := hR3.at_ rfl
              have f2 := hR3.fr 0
              have hBW := keep_below (below_only HBC.out hgr (by omega)) HD2.out
              have hK2 : (W.setCell ⟨w.heap.size + 1 + 1 + 1, 0, none⟩ (.bool true)).heap[D]? = some (.deferred (some [])) := (KeepsOthers.setCell _ _ _).same D _ hK rfl
              have hc := (hR3.put 0 (.bool true)).at_ (i := 0) (v := .bool true) rfl
              have hc2 := cell_kept hc (grownBy_putObj' _ D (.deferred none)) (fun r e => by cases e; exact ⟨_, hK2, rfl⟩)
              have HBW : Hid (Below w.heap.size (W.setCell ⟨w.heap.size + 1 + 1 + 1, 0, none⟩ (.bool true)) ((W.setCell ⟨w.heap.size + 1 + 1 + 1, 0, none⟩ (.bool true)).putObj D (.deferred none)) ∧ Below w.heap.size w (W.setCell ⟨w.heap.size + 1 + 1 + 1, 0, none⟩ (.bool true))) := Lib.hid ⟨belowK_b (w := w) (Nat.le_refl _) _ D _ _ (by have := HIW.out.size; omega) hK2 rfl rfl, below_set hBW _ _ _ (by omega)⟩
              have HK2 := Lib.hid hK2
              have HC2 := Lib.hid hc2
              clear k0 hgr hS hfar hW3 hR3 hBW hK hK2 hc hc2 hD
              go_wp2_with fail
              refine ⟨by simp, .inl ⟨_, _, rfl, run_takeDeferred HK2.out, ?_⟩⟩
              refine ⟨.bool true, ?_, rfl, HBW.out.2.trans HBW.out.1⟩
              simp [results, Try.f7, go_sem, HC2.out]
            case stopyc =>
              rintro D c pre W hD hS ⟨rfl, hh⟩ hK
              rw [HT.out] at hS
              rcases hh with hh | ⟨k2, hb⟩
              · exact absurd hS hh
              refine (wpIn_wide (n := 9)).2 ?_
              have hc2 := cell_kept (k2.at_ (i := 0) (v := .bool true) rfl) (grownBy_putObj' _ D (.deferred none)) (fun r e => by cases e; exact ⟨_, hK, rfl⟩)
              have HKD := Lib.hid hK
              have HDD := Lib.hid hD
              have HBB := Lib.hid hb
              clear hK hb hD k2
              go_wp2_with fail
              refine ⟨by simp, .inl ⟨_, _, rfl, run_takeDeferred HKD.out, ?_⟩⟩
              refine ⟨.bool true, ?_, rfl, HBB.out.trans (belowK_b (w := w) (Nat.le_refl _) _ D _ _ (by have := HDD.out; have := HNL.out; have := HNS.out; have := HIW.out.size; omega) HKD.out rfl rfl)⟩
              simp [results, Try.f7, go_sem, hc2]
      | false =>
        have x0 := (HB1.out.below HB7.out HB1.out.lt).at_ (i := 0) (v := .slice A m cc) rfl
        have x1 := (HB1.out.below HB7.out HB1.out.lt).at_ (i := 1) (v := .int .i64 secs) rfl
        have p0 := (HB2.out.below HB7.out HB2.out.lt).at_ (i := 0) (v := .int .i64 pg) rfl
        have p1 := (HB2.out.below HB7.out HB2.out.lt).at_ (i := 1) (v := .int .i64 pa) rfl
        have r0 := (HBR.out.below HB7.out HBR.out.lt).at_ (i := 0) (v := .bool false) rfl
        have rf := (HBR.out.below HB7.out HBR.out.lt).fr 0
        obtain ⟨C, hCd, hCw, hCB, hCK, hCD⟩ := cls_below w7
        have f0 : ∀ W, C W → W.cell? ⟨w.heap.size, 0, none⟩ = some (.slice A m cc) := fun W h => keep_cell' x0 (hCB W h)
        have f1 : ∀ W, C W → W.cell? ⟨w.heap.size, 1, none⟩ = some (.int .i64 secs) := fun W h => keep_cell' x1 (hCB W h)
        have f2 : ∀ W, C W → W.cell? ⟨w.heap.size + 1, 0, none⟩ = some (.int .i64 pg) := fun W h => keep_cell' p0 (hCB W h)
        have f3 : ∀ W, C W → W.cell? ⟨w.heap.size + 1, 1, none⟩ = some (.int .i64 pa) := fun W h => keep_cell' p1 (hCB W h)
        have HCB := Lib.hid fun W h => keep_below (hCB W h) HB7.out
        clear x0 x1 p0 p1 r0 rf hq hs15
        go_wp2_with fail
        refine wp_region_cls C (by kernel_rfl) (by kernel_rfl) hCd ?_
        repeat (first
          | go_big_quiet_skip
          | (go_big_quiet_want
             go_big_quiet_op
             first
               | go_big_quiet_on
               | (apply Exists.intro
                  refine ⟨fun W hW => ?_, ?_⟩
                  · first
                      | exact rfl
                      | exact ⟨rfl, rfl⟩
                      | (have e0 := f0 W hW; have e1 := f1 W hW; have e2 := f2 W hW; have e3 := f3 W hW; simp only [e0, e1, e2, e3, Result.andThen_ok]; done)
                      | (have e0 := f0 W hW; have e1 := f1 W hW; have e2 := f2 W hW; have e3 := f3 W hW; simp only [e0, e1, e2, e3, Result.andThen_ok]; first | exact ⟨trivial, rfl⟩ | exact rfl | exact ⟨rfl, rfl⟩)
                      | (first | (refine (HFA.out W (HCB.out W hW)).mono ?_; rintro e w' ⟨rfl, hb⟩; exact ⟨rfl, hCK _ _ hW hb⟩) | (refine (HFR.out W (HCB.out W hW)).mono ?_; rintro e w' ⟨rfl, hb⟩; exact ⟨rfl, hCK _ _ hW hb⟩))
                  go_big_quiet_on)))
        refine wpQuiet_nil ?_
        intro wt hwt
        have HBT := Lib.hid (HCB.out wt hwt)
        have HBT1 := Lib.hid (hCB wt hwt)
        clear f0 f1 f2 f3 hCd hCB hCK hwt HCB hCw hCD
        have x0 := (HB1.out.below HBT.out HB1.out.lt).at_ (i := 0) (v := .slice A m cc) rfl
        have x1 := (HB1.out.below HBT.out HB1.out.lt).at_ (i := 1) (v := .int .i64 secs) rfl
        have p0 := (HB2.out.below HBT.out HB2.out.lt).at_ (i := 0) (v := .int .i64 pg) rfl
        have p1 := (HB2.out.below HBT.out HB2.out.lt).at_ (i := 1) (v := .int .i64 pa) rfl
        have r0 := (HBR.out.below HBT.out HBR.out.lt).at_ (i := 0) (v := .bool false) rfl
        have rf := (HBR.out.below HBT.out HBR.out.lt).fr 0
        have hFS := fun (W : World) (hb : Below w2.heap.size w2 W) => refFits_any A m cc gs secs pg pa (secN s) (HG.out.below hb (Nat.le_refl _)) (HO.out.below hb) (by have := HGN.out; omega)
        obtain ⟨fs, hfs⟩ : ∃ fs, fitsB gs secs pg pa (secN s) got = fs := ⟨_, rfl⟩
        rw [hfs] at hFS
        have hRE := refEncode_any A m cc gs secs pg pa s (HG.out.below HBT.out (Nat.le_refl _)) HE12.out.2 HE12.out.1
        have hBD := fun (W : World) (hb : Below w2.heap.size w2 W) => bad_any A m cc gs secs pg pa s (HG.out.below hb (Nat.le_refl _)) (HO.out.below hb) HL.out
        have hbl : badL gs secs pg pa s got = if fs then badTo (encL gs secs pg pa s) got (encL gs secs pg pa s).length else [] := by
          unfold badL badTo
          rw [HE.out, hfs]
          cases fs <;> rfl
        have hfl : fs = true → got.length = (encL gs secs pg pa s).length := fun h => by
          rw [h] at hfs
          rw [(fits_parts hfs).2.1, encL_len, ofList_may HE12.out.2]
        have h64 : (encL gs secs pg pa s).length ≤ 64 := by rw [encL_len]; exact ofList_le _ _ _ _ _
        obtain ⟨M, hM⟩ : ∃ M, encL gs secs pg pa s = M := ⟨_, rfl⟩
        obtain ⟨bl, hb0⟩ : ∃ bl, badL gs secs pg pa s got = bl := ⟨_, rfl⟩
        rw [hM] at hRE hbl hfl h64 HS7 ⊢
        rw [hb0] at hBD hbl
        have HRE := Lib.hid hRE
        have HBD := Lib.hid hBD
        have HBL := Lib.hid hbl
        have HFL := Lib.hid hfl
        have HFS := Lib.hid hFS
        have HST := Lib.hid (HS7.out.below HBT1.out)
        clear hRE hBD hbl hfl hFS hM hb0 hfs
        go_wp2_with fail
        refine HRE.out.mono ?_
        rintro e w8 ⟨mv, rfl, hsl8, hb8⟩
        have HB8 := Lib.hid (keep_below hb8 HBT.out)
        have HS8 := Lib.hid hsl8
        have HST8 := Lib.hid (HST.out.below hb8)
        obtain ⟨Am, cm, rfl⟩ := hsl8.form
        clear hsl8 hb8 x0 x1 p0 p1 r0 rf HS7 HST
        have x0 := (HB1.out.below HB8.out HB1.out.lt).at_ (i := 0) (v := .slice A m cc) rfl
        have x1 := (HB1.out.below HB8.out HB1.out.lt).at_ (i := 1) (v := .int .i64 secs) rfl
        have p0 := (HB2.out.below HB8.out HB2.out.lt).at_ (i := 0) (v := .int .i64 pg) rfl
        have p1 := (HB2.out.below HB8.out HB2.out.lt).at_ (i := 1) (v := .int .i64 pa) rfl
        have r0 := (HBR.out.below HB8.out HBR.out.lt).at_ (i := 0) (v := .bool false) rfl
        have rf := (HBR.out.below HB8.out HBR.out.lt).fr 0
        go_wp2_with fail
        refine (HBD.out w8 HB8.out).mono ?_
        rintro e w9 ⟨bv, rfl, hown9, hb9⟩
        have HB9 := Lib.hid (keep_below hb9 HB8.out)
        have hsb := slAt_own hown9
        obtain ⟨Ab, cb, rfl⟩ := hsb.form
        have HSB9 := Lib.hid hsb
        have HSM9 := Lib.hid (HS8.out.below hb9)
        have HST9 := Lib.hid (HST8.out.below hb9)
        clear hsb hown9 hb9 x0 x1 p0 p1 r0 rf HS8 HST8
        go_wp2_with fail
        go_loopw [18, 19] (fun nv t wr => ∃ i : Nat, i ≤ M.length ∧ nv = .int .i64 ((if fs then (badTo M got i).length else 0 : Nat) : Nat) ∧ t = .int .i64 i ∧ Below w9.heap.size w9 wr) (fun _ t _ => M.length - (RowKit.intOf t).toNat)
        case atStart => exact ⟨0, Nat.zero_le _, by cases fs <;> rfl, rfl, Below.refl _ _⟩
        case round =>
          obtain ⟨i, hi, rfl, rfl, hb⟩ := hrel
          have HBI := Lib.hid hb
          have hbt := badTo_len M got i
          obtain ⟨n, hn⟩ : ∃ n, (if fs then (badTo M got i).length else 0 : Nat) = n := ⟨_, rfl⟩
          have hn64 : n ≤ 64 := by rw [← hn]; cases fs <;> simp <;> omega
          rw [hn]
          have HN := Lib.hid hn
          by_cases hlt : i < M.length
          · obtain ⟨ti, hti⟩ : ∃ t, M[i]? = some t := ⟨_, List.getElem?_eq_getElem hlt⟩
            obtain ⟨bt, ot, rfl, hbt1, hct⟩ := HST9.out.cells (by omega)
            obtain ⟨bm, om, rfl, hbm1, hcm⟩ := HSM9.out.cells (by omega)
            have q0 := keepc (hct _ _ (strC_at hti)) hb
            have q1 := keepc (hcm _ _ (strC_at hti)) hb
            have hd1 : decide (i < M.length) = true := decide_eq_true hlt
            have HIL := Lib.hid hlt
            have HTI := Lib.hid hti
            have HQ := Lib.hid (And.intro q0 q1)
            obtain ⟨C, hCd, hCw, hCB, hCK, hCD⟩ := cls_below wr
            have f0 : ∀ W, C W → W.cell? ⟨bt, ot + i, none⟩ = some (str ti) := fun W h => keepc q0 (hCB W h)
            have f1 : ∀ W, C W → W.cell? ⟨bm, om + i, none⟩ = some (str ti) := fun W h => keepc q1 (hCB W h)
            clear hti hct hcm hbt1 hbm1 q0 q1 hCw hCK hCD hb hn hbt
            go_wp2_with fail
            refine wp_region_cls C (by kernel_rfl) (by kernel_rfl) hCd ?_
            repeat (first
              | go_big_quiet_skip
              | (go_big_quiet_want
                 go_big_quiet_op
                 first
                   | go_big_quiet_on
                   | (apply Exists.intro
                      refine ⟨fun W hW => ?_, ?_⟩
                      · first
                          | exact rfl
                          | exact ⟨rfl, rfl⟩
                          | (have e0 := f0 W hW; have e1 := f1 W hW; simp only [e0, e1, Result.andThen_ok]; done)
                          | (have e0 := f0 W hW; have e1 := f1 W hW; simp only [e0, e1, Result.andThen_ok]; first | exact ⟨trivial, rfl⟩ | exact rfl | exact ⟨rfl, rfl⟩)
                          | (skip)
                      go_big_quiet_on)))
            refine wpQuiet_nil ?_
            intro wy hwy
            have HBYR := Lib.hid (hCB wy hwy)
            have HBY := Lib.hid (keep_below (hCB wy hwy) HBI.out)
            clear f0 f1 hCd hCB hwy HBI
            have HBY2 := Lib.hid (keep_below HBY.out HB9.out)
            have x0 := (HB1.out.below HBY2.out HB1.out.lt).at_ (i := 0) (v := .slice A m cc) rfl
            have x1 := (HB1.out.below HBY2.out HB1.out.lt).at_ (i := 1) (v := .int .i64 secs) rfl
            have p0 := (HB2.out.below HBY2.out HB2.out.lt).at_ (i := 0) (v := .int .i64 pg) rfl
            have p1 := (HB2.out.below HBY2.out HB2.out.lt).at_ (i := 1) (v := .int .i64 pa) rfl
            have r0 := (HBR.out.below HBY2.out HBR.out.lt).at_ (i := 0) (v := .bool false) rfl
            have rf := (HBR.out.below HBY2.out HBR.out.lt).fr 0
            obtain ⟨C, hCd, hCw, hCB, hCK, hCD⟩ := cls_below wy
            have f0 : ∀ W, C W → W.cell? ⟨w.heap.size, 0, none⟩ = some (.slice A m cc) := fun W h => keep_cell' x0 (hCB W h)
            have f1 : ∀ W, C W → W.cell? ⟨w.heap.size, 1, none⟩ = some (.int .i64 secs) := fun W h => keep_cell' x1 (hCB W h)
            have f2 : ∀ W, C W → W.cell? ⟨w.heap.size + 1, 0, none⟩ = some (.int .i64 pg) := fun W h => keep_cell' p0 (hCB W h)
            have f3 : ∀ W, C W → W.cell? ⟨w.heap.size + 1, 1, none⟩ = some (.int .i64 pa) := fun W h => keep_cell' p1 (hCB W h)
            have f4 : ∀ W, C W → W.cell? ⟨bm, om + i, none⟩ = some (str ti) := fun W h => keepc HQ.out.2 (HBYR.out.trans ((hCB W h).mono HBYR.out.size))
            have HCB := Lib.hid fun W h => keep_below (hCB W h) HBY2.out
            have hq : Int.tdiv (s.length : Int) 64 = (secN s : Int) := rfl
            have hs15 : secN s ≤ 15 := by have := HL.out; unfold secN; omega
            clear x0 x1 p0 p1 r0 rf hCw hCD
            cases fs with
            | false =>
              have HN1 : Hid ((if false = true then (badTo M got (i + 1)).length else 0 : Nat) = n) := Lib.hid HN.out
              go_wp2_with fail
              refine wp_region_cls C (by kernel_rfl) (by kernel_rfl) hCd ?_
              repeat (first
                | go_big_quiet_skip
                | (go_big_quiet_want
                   go_big_quiet_op
                   first
                     | go_big_quiet_on
                     | (apply Exists.intro
                        refine ⟨fun W hW => ?_, ?_⟩
                        · first
                            | exact rfl
                            | exact ⟨rfl, rfl⟩
                            | (have e0 := f0 W hW; have e1 := f1 W hW; have e2 := f2 W hW; have e3 := f3 W hW; have e4 := f4 W hW; simp only [e0, e1, e2, e3, e4, Result.andThen_ok]; done)
                            | (have e0 := f0 W hW; have e1 := f1 W hW; have e2 := f2 W hW; have e3 := f3 W hW; have e4 := f4 W hW; simp only [e0, e1, e2, e3, e4, Result.andThen_ok]; first | exact ⟨trivial, rfl⟩ | exact rfl | exact ⟨rfl, rfl⟩)
                            | (refine (HFS.out W (HCB.out W hW)).mono ?_; rintro e w' ⟨rfl, hb⟩; exact ⟨rfl, hCK _ _ hW hb⟩)
                        go_big_quiet_on)))
              refine wpQuiet_nil ?_
              intro wz hwz
              have HBI := Lib.hid (keep_below (hCB wz hwz) HBY.out)
              clear f0 f1 f2 f3 f4 hCd hCB hCK hwz HCB hq hs15 hd1
              go_wp2_with fail
              go_roundw
              case rel => exact ⟨i + 1, HIL.out, by rw [HN1.out]; skip, by go_num, HBI.out⟩
              case measure => have := HIL.out; simp [RowKit.intOf]; omega
            | true =>
              have hgl2 := HFL.out rfl
              have HN2 : Hid ((badTo M got i).length = n) := Lib.hid HN.out
              obtain ⟨gi, hgi⟩ : ∃ t, got[i]? = some t := ⟨_, List.getElem?_eq_getElem (by have := HIL.out; omega)⟩
              obtain ⟨bg, og, rfl, hbg1, hcg⟩ := HO.out.cells (by have := HIL.out; omega)
              have q4 := keepc (hcg _ _ (strC_at hgi)) HBY2.out
              have f5 : ∀ W, C W → W.cell? ⟨bg, og + i, none⟩ = some (str gi) := fun W h => keepc q4 (hCB W h)
              have hig : i < got.length := by have := HIL.out; omega
              have hil : i < M.length := HIL.out
              have hstep := badTo_step HTI.out hgi
              have hat := fun h => badTo_at (k := M.length) hil HTI.out hgi h
              rw [HN2.out] at hat
              clear hgi hcg hbg1 q4
              cases hbe : (gi == ti) with
              | true =>
                have hbn : (gi != ti) = false := by unfold bne; rw [hbe]; rfl
                have hbe2 : (ti != gi) = false := by rw [eq_of_beq hbe]; exact bne_self_eq_false _
                rw [hbe2] at hstep
                have HN1 : Hid ((badTo M got (i + 1)).length = n) := Lib.hid (by rw [hstep, ← HN2.out]; simp)
                clear hstep hat hbe2 hgl2
                go_wp2_with fail
                refine wp_region_cls C (by kernel_rfl) (by kernel_rfl) hCd ?_
                repeat (first
                  | go_big_quiet_skip
                  | (go_big_quiet_want
                     go_big_quiet_op
                     first
                       | go_big_quiet_on
                       | (apply Exists.intro
                          refine ⟨fun W hW => ?_, ?_⟩
                          · first
                              | exact rfl
                              | exact ⟨rfl, rfl⟩
                              | (have e0 := f0 W hW; have e1 := f1 W hW; have e2 := f2 W hW; have e3 := f3 W hW; have e4 := f4 W hW; have e5 := f5 W hW; simp only [e0, e1, e2, e3, e4, e5, Result.andThen_ok]; done)
                              | (have e0 := f0 W hW; have e1 := f1 W hW; have e2 := f2 W hW; have e3 := f3 W hW; have e4 := f4 W hW; have e5 := f5 W hW; simp only [e0, e1, e2, e3, e4, e5, Result.andThen_ok]; first | exact ⟨trivial, rfl⟩ | exact rfl | exact ⟨rfl, rfl⟩)
                              | (refine (HFS.out W (HCB.out W hW)).mono ?_; rintro e w' ⟨rfl, hb⟩; exact ⟨rfl, hCK _ _ hW hb⟩)
                          go_big_quiet_on)))
                refine wpQuiet_nil ?_
                intro wz hwz
                have HBI := Lib.hid (keep_below (hCB wz hwz) HBY.out)
                clear f0 f1 f2 f3 f4 f5 hCd hCB hCK hwz HCB hq hs15 hd1
                go_wp2_with fail
                go_roundw
                case rel => exact ⟨i + 1, HIL.out, by rw [HN1.out]; skip, by go_num, HBI.out⟩
                case measure => have := HIL.out; simp [RowKit.intOf]; omega
              | false =>
                have hbn : (gi != ti) = true := by unfold bne; rw [hbe]; rfl
                have hbe2 : (ti != gi) = true := bne_iff_ne.2 fun e => by rw [e, beq_self_eq_true] at hbe; cases hbe
                rw [hbe2] at hstep
                have HN1 : Hid ((badTo M got (i + 1)).length = n + 1) := Lib.hid (by rw [hstep, ← HN2.out]; simp)
                have hbl2 : bl[n]? = some i := by rw [HBL.out, if_pos rfl]; exact hat hbe
                have hnb := (List.getElem?_eq_some_iff.1 hbl2).1
                have HBLN := Lib.hid hbl2
                have HNB := Lib.hid hnb
                clear hstep hat hbe2 hbl2 hgl2 hnb
                go_wp2_with fail
                refine wp_region_cls C (by kernel_rfl) (by kernel_rfl) hCd ?_
                repeat (first
                  | go_big_quiet_skip
                  | (go_big_quiet_want
                     go_big_quiet_op
                     first
                       | go_big_quiet_on
                       | (apply Exists.intro
                          refine ⟨fun W hW => ?_, ?_⟩
                          · first
                              | exact rfl
                              | exact ⟨rfl, rfl⟩
                              | (have e0 := f0 W hW; have e1 := f1 W hW; have e2 := f2 W hW; have e3 := f3 W hW; have e4 := f4 W hW; have e5 := f5 W hW; simp only [e0, e1, e2, e3, e4, e5, Result.andThen_ok]; done)
                              | (have e0 := f0 W hW; have e1 := f1 W hW; have e2 := f2 W hW; have e3 := f3 W hW; have e4 := f4 W hW; have e5 := f5 W hW; simp only [e0, e1, e2, e3, e4, e5, Result.andThen_ok]; first | exact ⟨trivial, rfl⟩ | exact rfl | exact ⟨rfl, rfl⟩)
                              | (refine (HFS.out W (HCB.out W hW)).mono ?_; rintro e w' ⟨rfl, hb⟩; exact ⟨rfl, hCK _ _ hW hb⟩)
                          go_big_quiet_on)))
                refine wpQuiet_nil ?_
                intro wz hwz
                have HBI := Lib.hid (keep_below (hCB wz hwz) HBY.out)
                clear f0 f1 f2 f3 f4 f5 hCd hCB hCK hwz HCB hq hs15 hd1
                obtain ⟨bb, ob, rfl, hbb1, hcb⟩ := HSB9.out.cells (by have := HNB.out; omega)
                have q6 := keepc (hcb _ _ (ixC_at HBLN.out)) HBI.out
                have hd5 : decide (bl.length ≤ n) = false := decide_eq_false (by have := HNB.out; omega)
                have hnl := HNB.out
                clear hbb1 hcb
                go_wp2_with fail
                go_roundw
                case rel => exact ⟨i + 1, HIL.out, by rw [HN1.out]; go_num, by go_num, HBI.out⟩
                case measure => have := HIL.out; simp [RowKit.intOf]; omega
          · obtain rfl : i = M.length := by omega
            have hd1 : decide (M.length < M.length) = false := decide_eq_false (by omega)
            have hbe : n = bl.length := by rw [HBL.out, ← hn]; cases fs <;> rfl
            rw [hbe]
            rename World => wt
            have HBT := Lib.hid (keep_below hb HB9.out)
            clear hn hbe hb hbt HN
            obtain ⟨wn, hwn⟩ : ∃ z, wt.alloc (.cells #[.slice none 0 0] 56) = z := ⟨_, rfl⟩
            have HWN := Lib.hid hwn
            have HBN : Hid (Below w2.heap.size w2 wn) := Lib.hid (by rw [← hwn]; exact keep_alloc HBT.out _)
            have HNB : Hid (Blk wn wt.heap.size 56 #[.slice none 0 0]) := Lib.hid (by rw [← hwn]; exact Blk.new _ _ _)
            have x0 := (HB1.out.below HBN.out HB1.out.lt).at_ (i := 0) (v := .slice A m cc) rfl
            have x1 := (HB1.out.below HBN.out HB1.out.lt).at_ (i := 1) (v := .int .i64 secs) rfl
            have p0 := (HB2.out.below HBN.out HB2.out.lt).at_ (i := 0) (v := .int .i64 pg) rfl
            have p1 := (HB2.out.below HBN.out HB2.out.lt).at_ (i := 1) (v := .int .i64 pa) rfl
            have r0 := (HBR.out.below HBN.out HBR.out.lt).at_ (i := 0) (v := .bool false) rfl
            have rf := (HBR.out.below HBN.out HBR.out.lt).fr 0
            rw [← hwn] at x0 x1 p0 p1 r0 rf
            have HNS : Hid (w2.heap.size ≤ wt.heap.size ∧ w.heap.size + 1 + 1 + 1 < w2.heap.size) := Lib.hid ⟨HBT.out.size, HBR.out.lt⟩
            clear hwn
            go_wp2_with fail
            rw [HWN.out]
            refine (HFR.out wn HBN.out).mono ?_
            rintro e w10 ⟨rfl, hb10⟩
            have HB10 := Lib.hid (keep_below hb10 HBN.out)
            have HN10 := Lib.hid (HNB.out.below hb10 HNB.out.lt)
            clear x0 x1 p0 p1 r0 rf hb10
            obtain ⟨T, hT⟩ : ∃ T, triesL gs secs pg pa size got = T := ⟨_, rfl⟩
            have hT0 : T = [] := by rw [← hT]; unfold triesL; rw [HFT.out]; rfl
            obtain ⟨Aw, cw, hAw, hcw⟩ : ∃ (Aw : Option Addr) (cw : Nat), Aw = none ∧ cw = 0 := ⟨_, _, rfl, rfl⟩
            have HT := Lib.hid hT
            have HTN : Hid (T.length ≤ 100) := Lib.hid (by rw [hT0]; exact Nat.zero_le _)
            obtain ⟨w13, hw13⟩ : ∃ z, w10.alloc (.cells #[.int .i64 0] 3) = z := ⟨_, rfl⟩
            have HW13 := Lib.hid hw13
            have HB13 : Hid (Below w2.heap.size w2 w13) := Lib.hid (by rw [← hw13]; exact keep_alloc HB10.out _)
            have HNN13 : Hid (Blk w13 w10.heap.size 3 #[.int .i64 0]) := Lib.hid (by rw [← hw13]; exact Blk.new _ _ _)
            have HNW13 : Hid (Blk w13 wt.heap.size 56 #[.slice Aw T.length cw]) := Lib.hid (by rw [hAw, hcw, hT0, ← hw13]; exact HN10.out.alloc _)
            have HS13 : Hid (0 < T.length → ∃ bw ow, Aw = some ⟨bw, ow, none⟩ ∧ bw < w10.heap.size ∧ ∀ j u, (trC T)[j]? = some u → w13.cell? ⟨bw, ow + j, none⟩ = some u) := Lib.hid fun hp => by rw [hT0] at hp; exact absurd hp (by simp)
            have HNL : Hid (w10.heap.size < w13.heap.size ∧ wt.heap.size < w10.heap.size) := Lib.hid ⟨HNN13.out.lt, HN10.out.lt⟩
            clear hT hT0 hAw hcw
            have x0 := (HB1.out.below HB13.out HB1.out.lt).at_ (i := 0) (v := .slice A m cc) rfl
            have x1 := (HB1.out.below HB13.out HB1.out.lt).at_ (i := 1) (v := .int .i64 secs) rfl
            have p0 := (HB2.out.below HB13.out HB2.out.lt).at_ (i := 0) (v := .int .i64 pg) rfl
            have p1 := (HB2.out.below HB13.out HB2.out.lt).at_ (i := 1) (v := .int .i64 pa) rfl
            have r0 := (HBR.out.below HB13.out HBR.out.lt).at_ (i := 0) (v := .bool false) rfl
            have rf := (HBR.out.below HB13.out HBR.out.lt).fr 0
            have HTA := Lib.hid (tries_any (w := w13) A m cc secs pg pa size (.slice Ag got.length cg) ⟨_, _, _, rfl⟩)
            rw [← hw13] at x0 x1 p0 p1 r0 rf
            clear hw13
            go_wp2_with fail
            rw [HW13.out]
            refine HTA.out.mono ?_
            rintro e wc ⟨rfl, hbx, hbc2⟩
            clear x0 x1 p0 p1 r0 rf
            have hBC : Below w2.heap.size w2 wc := keep_below hbc2 HB13.out
            have hgxC := HG.out.below hBC (Nat.le_refl _)
            have hNC := HNN13.out.below hbc2 HNN13.out.lt
            have hWC := HNW13.out.below hbc2 HNW13.out.lt
            have hRC := HBR.out.below hBC HBR.out.lt
            have hSC := HBS.out.below hBC HBS.out.lt
            have hsx : SlV wc (fun b => b = w10.heap.size) (.slice Ag got.length cg) got.length (strC got) := by
              obtain ⟨Ag', cg', e, hle, hc⟩ := HO.out
              injection e with e1 _ e2
              subst e1 e2
              refine ⟨_, _, rfl, hle, fun hp => ?_⟩
              obtain ⟨b, o, e1, e2, e3⟩ := hc hp
              refine ⟨b, o, e1, Nat.lt_of_lt_of_le e2 hBC.size, ?_, fun j u hu => (World.cell?_of_block (hBC.block b e2)).trans (e3 j u hu)⟩
              have := HNS.out.1
              have := HNL.out.2
              omega
            have hV : ∀ b, b = w10.heap.size → b < wc.heap.size := fun b h => by rw [h]; exact hNC.lt
            have HIW := Lib.hid (keep_below hBC HD2.out)
            have HBC := Lib.hid hBC
            have HWC := Lib.hid (And.intro hWC (And.intro hRC hSC))
            have HSC : Hid (0 < T.length → ∃ bw ow, Aw = some ⟨bw, ow, none⟩ ∧ bw < w10.heap.size ∧ bw < wc.heap.size ∧ ∀ j u, (trC T)[j]? = some u → wc.cell? ⟨bw, ow + j, none⟩ = some u) := Lib.hid fun hp => by
              obtain ⟨bw, ow, e1, e2, e3⟩ := HS13.out hp
              exact ⟨bw, ow, e1, e2, by have := hNC.lt; omega, fun j u hu => keep_cell' (e3 j u hu) hbc2⟩
            clear hBC hWC hRC hSC
            go_wp2_with fail
            refine (wpIn_wide (n := 9)).1 ?_
            refine wpIn_rangeFunc_ownG rfl (by decide) (gf := 29) (lb := _) rfl trivial (enters_of Try.func29 (by kernel_rfl) rfl)
              (tries_seq (9 - 1) (V := fun b => b = w10.heap.size) hbx hgxC hsx hV) KC.trans (kc_putObj) (Below.refl _ _) (fun _ => rfl)
              (fun pre W => wc.grownBy W (some w10.heap.size) ∧ Blk W w10.heap.size 3 #[.int .i64 (pre.length : Nat)])
              (fun c pre W => c = .ret ∧ (¬ pre <+: T ∨ (Blk W (w.heap.size + 1 + 1 + 1) 4 #[.bool true] ∧ Below w.heap.size w W))) ?hInd ?hIxnd ?h0nd ?a1nd ?assignnd ?bodynd ?donend ?stopnd
            case hInd => exact fun s A B row hs hg hr => ⟨grown_more hs.1 hg hr (Nat.le_refl _), blk_kept hs.2 hg hr⟩
            case hIxnd => exact fun c s A B row hs hg hr => ⟨hs.1, hs.2.imp id fun h => ⟨blk_kept h.1 hg hr, ownFrom_below (β := List TryX) (Nat.le_refl _) HIW.out.size s A B row h.2 hg hr⟩⟩
            case h0nd => exact ⟨⟨rfl, rfl, rfl, Nat.le_refl _, fun _ _ _ => rfl⟩, hNC⟩
            case assignnd =>
              intro l x W K hK
              simp only [tryE, List.zip_toArray, List.zip_cons_cons, List.zip_nil_left, List.zip_nil_right, List.foldl_toArray, List.foldl_cons, List.foldl_nil, List.size_toArray, List.length_cons, List.length_nil, List.setIfInBounds_toArray, List.set_cons_succ, List.set_cons_zero]
              gi_wp2
              exact hK
            case bodynd =>
              rintro l pre ⟨dd, t⟩ W ⟨hgr, k0⟩ hlt
              rw [HT.out] at hlt
              obtain ⟨n, hn⟩ : ∃ n, pre.length = n := ⟨_, rfl⟩
              rw [hn] at k0 hlt
              have hn100 : n ≤ 100 := by have := HTN.out; omega
              have hnl := HNL.out
              have hns := HNS.out
              obtain ⟨bw, ow, rfl, hbw1, hbw2, hbw3⟩ := HSC.out (by omega)
              obtain ⟨⟨dq, tq⟩, hx⟩ : ∃ x, T[n]? = some x := ⟨_, List.getElem?_eq_getElem hlt⟩
              have hfar : ∀ i, i < wc.heap.size → i ≠ w10.heap.size → W.heap[i]? = wc.heap[i]? := fun i h1 h2 => hgr.block i h1 (fun e => by injection e with e; exact h2 e)
              have c0 : W.cell? ⟨w10.heap.size, 0, none⟩ = some (.int .i64 n) := k0.at_ rfl
              have f0 := k0.fr 0
              have hW3 : Blk W wt.heap.size 56 #[.slice (some ⟨bw, ow, none⟩) T.length cw] := (hfar _ HWC.out.1.lt (by omega)).trans HWC.out.1
              have hR3 : Blk W (w.heap.size + 1 + 1 + 1) 4 #[.bool false] := (hfar _ HWC.out.2.1.lt (by omega)).trans HWC.out.2.1
              have hP3 : Blk W (w.heap.size + 1 + 1) 5 #[.int .u8 stop] := (hfar _ HWC.out.2.2.lt (by omega)).trans HWC.out.2.2
              have c1 : W.cell? ⟨wt.heap.size, 0, none⟩ = some (.slice (some ⟨bw, ow, none⟩) T.length cw) := hW3.at_ rfl
              have c2 : W.cell? ⟨w.heap.size + 1 + 1 + 1, 0, none⟩ = some (.bool false) := hR3.at_ rfl
              have f2 := hR3.fr 0
              have c3 : W.cell? ⟨w.heap.size + 1 + 1, 0, none⟩ = some (.int .u8 stop) := hP3.at_ rfl
              have q0 : W.cell? ⟨bw, ow + n * 2, none⟩ = some (.int .i64 dq) := (World.cell?_of_block (hfar bw hbw2 (by omega))).trans (hbw3 _ _ (trC_at hx).1)
              have q1 : W.cell? ⟨bw, ow + n * 2 + 1, none⟩ = some (str tq) := by
                rw [Nat.add_assoc]
                exact (World.cell?_of_block (hfar bw hbw2 (by omega))).trans (hbw3 _ _ (trC_at hx).2)
              have hdl : decide (T.length ≤ n) = false := decide_eq_false (by omega)
              have HK := Lib.hid (And.intro k0 (And.intro hR3 hgr))
              have HX := Lib.hid (And.intro hn (And.intro hx hlt))
              have hBW := below_only HBC.out hgr (by omega)
              have HBW := Lib.hid (keep_below hBW HD2.out)
              clear k0 hgr hn hx hfar hW3 hR3 hP3 hbw1 hbw2 hbw3 hBW
              have HBAD : Hid ((dq, tq) ≠ (dd, t) → ¬ (pre ++ [(dd, t)]) <+: T) := Lib.hid fun hne h => by
                obtain ⟨r, hr⟩ := h
                have h2 := HX.out.2.1
                rw [← hr, List.append_assoc, List.getElem?_append_right (by have := HX.out.1; omega), HX.out.1, Nat.sub_self] at h2
                simp at h2
                exact hne (by rw [h2.1, h2.2])
              by_cases hdd : dq = dd
              · subst hdd
                by_cases htt : tq = t
                · subst htt
                  cases hst2 : ((n : Int) + 1 == (stop : Int)) with
                  | true =>
                    gi_wp2_with fail
                    exact ⟨((KeepsOthers.setCell _ _ _).from _).trans ((KeepsOthers.setCell _ _ _).from _), rfl, .inr ⟨(HK.out.2.1.far (by show _ ≠ w10.heap.size; omega) _).put 0 (.bool true), below_set (below_set HBW.out _ _ _ (by omega)) _ _ _ (by omega)⟩⟩
                  | false =>
                    gi_wp2_with fail
                    refine ⟨(KeepsOthers.setCell _ _ _).from _, kc_set _ _ _ rfl, only_set HK.out.2.2 (.inl rfl) _, ?_⟩
                    have := HK.out.1.put 0 (.int .i64 ((n : Int) + 1))
                    rw [List.length_append, HX.out.1]
                    exact this
                · have ht1 : (tq == t) = false := beq_eq_false_iff_ne.2 htt
                  have ht2 : (tq != t) = true := bne_iff_ne.2 htt
                  have HBD := Lib.hid (HBAD.out fun e => htt (by injection e))
                  clear htt
                  gi_wp2_with fail
                  exact ⟨(KeepsOthers.setCell _ _ _).from _, rfl, .inl HBD.out⟩
              · have hd1 : (dq == dd) = false := beq_eq_false_iff_ne.2 hdd
                have hd2 : (dq != dd) = true := bne_iff_ne.2 hdd
                have HBD := Lib.hid (HBAD.out fun e => hdd (by injection e))
                clear hdd
                gi_wp2_with fail
                exact ⟨(KeepsOthers.setCell _ _ _).from _, rfl, .inl HBD.out⟩
            case donend =>
              rintro D xs W hD hS ⟨hgr, k0⟩ hK
              rw [HT.out] at hS
              rw [hS] at k0
              have hnl := HNL.out
              have hns := HNS.out
              have hfar : ∀ i, i < wc.heap.size → i ≠ w10.heap.size → W.heap[i]? = wc.heap[i]? := fun i h1 h2 => hgr.block i h1 (fun e => by injection e with e; exact h2 e)
              have c0 : W.cell? ⟨w10.heap.size, 0, none⟩ = some (.int .i64 T.length) := k0.at_ rfl
              have hW3 : Blk W wt.heap.size 56 #[.slice Aw T.length cw] := (hfar _ HWC.out.1.lt (by omega)).trans HWC.out.1
              have hR3 : Blk W (w.heap.size + 1 + 1 + 1) 4 #[.bool false] := (hfar _ HWC.out.2.1.lt (by omega)).trans HWC.out.2.1
              have c1 : W.cell? ⟨wt.heap.size, 0, none⟩ = some (.slice Aw T.length cw) := hW3.at_ rfl
              have c2 : W.cell? ⟨w.heap.size + 1 + 1 + 1, 0, none⟩ = some (.bool false) := hR3.at_ rfl
              have f2 := hR3.fr 0
              have hBW := keep_below (below_only HBC.out hgr (by omega)) HD2.out
              have hK2 : (W.setCell ⟨w.heap.size + 1 + 1 + 1, 0, none⟩ (.bool true)).heap[D]? = some (.deferred (some [])) := (KeepsOthers.setCell _ _ _).same D _ hK rfl
              have hc := (hR3.put 0 (.bool true)).at_ (i := 0) (v := .bool true) rfl
              have hc2 := cell_kept hc (grownBy_putObj' _ D (.deferred none)) (fun r e => by cases e; exact ⟨_, hK2, rfl⟩)
              have HBW : Hid (Below w.heap.size (W.setCell ⟨w.heap.size + 1 + 1 + 1, 0, none⟩ (.bool true)) ((W.setCell ⟨w.heap.size + 1 + 1 + 1, 0, none⟩ (.bool true)).putObj D (.deferred none)) ∧ Below w.heap.size w (W.setCell ⟨w.heap.size + 1 + 1 + 1, 0, none⟩ (.bool true))) := Lib.hid ⟨belowK_b (w := w) (Nat.le_refl _) _ D _ _ (by have := HIW.out.size; omega) hK2 rfl rfl, below_set hBW _ _ _ (by omega)⟩
              have HK2 := Lib.hid hK2
              have HC2 := Lib.hid hc2
              clear k0 hgr hS hfar hW3 hR3 hBW hK hK2 hc hc2 hD
              go_wp2_with fail
              refine ⟨by simp, .inl ⟨_, _, rfl, run_takeDeferred HK2.out, ?_⟩⟩
              refine ⟨.bool true, ?_, rfl, HBW.out.2.trans HBW.out.1⟩
              simp [results, Try.f7, go_sem, HC2.out]
            case stopnd =>
              rintro D c pre W hD hS ⟨rfl, hh⟩ hK
              rw [HT.out] at hS
              rcases hh with hh | ⟨k2, hb⟩
              · exact absurd hS hh
              refine (wpIn_wide (n := 9)).2 ?_
              have hc2 := cell_kept (k2.at_ (i := 0) (v := .bool true) rfl) (grownBy_putObj' _ D (.deferred none)) (fun r e => by cases e; exact ⟨_, hK, rfl⟩)
              have HKD := Lib.hid hK
              have HDD := Lib.hid hD
              have HBB := Lib.hid hb
              clear hK hb hD k2
              go_wp2_with fail
              refine ⟨by simp, .inl ⟨_, _, rfl, run_takeDeferred HKD.out, ?_⟩⟩
              refine ⟨.bool true, ?_, rfl, HBB.out.trans (belowK_b (w := w) (Nat.le_refl _) _ D _ _ (by have := HDD.out; have := HNL.out; have := HNS.out; have := HIW.out.size; omega) HKD.out rfl rfl)⟩
              simp [results, Try.f7, go_sem, hc2]
    · rw [he0] at HS6 ⊢
      rcases hno with hno | ⟨ho, hno⟩
      · rw [hno]
        clear hno he0 x0 x1 p0 p1 r0 rf
        cases ft with
        | true =>
          have x0 := (HB1.out.below HB6.out HB1.out.lt).at_ (i := 0) (v := .slice A m cc) rfl
          have x1 := (HB1.out.below HB6.out HB1.out.lt).at_ (i := 1) (v := .int .i64 secs) rfl
          have p0 := (HB2.out.below HB6.out HB2.out.lt).at_ (i := 0) (v := .int .i64 pg) rfl
          have p1 := (HB2.out.below HB6.out HB2.out.lt).at_ (i := 1) (v := .int .i64 pa) rfl
          have r0 := (HBR.out.below HB6.out HBR.out.lt).at_ (i := 0) (v := .bool false) rfl
          have rf := (HBR.out.below HB6.out HBR.out.lt).fr 0
          obtain ⟨C, hCd, hCw, hCB, hCK, hCD⟩ := cls_below w6
          have f0 : ∀ W, C W → W.cell? ⟨w.heap.size, 0, none⟩ = some (.slice A m cc) := fun W h => keep_cell' x0 (hCB W h)
          have f1 : ∀ W, C W → W.cell? ⟨w.heap.size, 1, none⟩ = some (.int .i64 secs) := fun W h => keep_cell' x1 (hCB W h)
          have f2 : ∀ W, C W → W.cell? ⟨w.heap.size + 1, 0, none⟩ = some (.int .i64 pg) := fun W h => keep_cell' p0 (hCB W h)
          have f3 : ∀ W, C W → W.cell? ⟨w.heap.size + 1, 1, none⟩ = some (.int .i64 pa) := fun W h => keep_cell' p1 (hCB W h)
          have HCB := Lib.hid fun W h => keep_below (hCB W h) HB6.out
          clear x0 x1 p0 p1 r0 rf hq hs15
          go_wp2_with fail
          refine wp_region_cls C (by kernel_rfl) (by kernel_rfl) hCd ?_
          repeat (first
            | go_big_quiet_skip
            | (go_big_quiet_want
               go_big_quiet_op
               first
                 | go_big_quiet_on
                 | (apply Exists.intro
                    refine ⟨fun W hW => ?_, ?_⟩
                    · first
                        | exact rfl
                        | exact ⟨rfl, rfl⟩
                        | (have e0 := f0 W hW; have e1 := f1 W hW; have e2 := f2 W hW; have e3 := f3 W hW; simp only [e0, e1, e2, e3, Result.andThen_ok]; done)
                        | (have e0 := f0 W hW; have e1 := f1 W hW; have e2 := f2 W hW; have e3 := f3 W hW; simp only [e0, e1, e2, e3, Result.andThen_ok]; first | exact ⟨trivial, rfl⟩ | exact rfl | exact ⟨rfl, rfl⟩)
                        | (first | (refine (HFA.out W (HCB.out W hW)).mono ?_; rintro e w' ⟨rfl, hb⟩; exact ⟨rfl, hCK _ _ hW hb⟩) | (refine (HFR.out W (HCB.out W hW)).mono ?_; rintro e w' ⟨rfl, hb⟩; exact ⟨rfl, hCK _ _ hW hb⟩))
                    go_big_quiet_on)))
          refine wpQuiet_nil ?_
          intro wt hwt
          have HBT := Lib.hid (HCB.out wt hwt)
          have HBT1 := Lib.hid (hCB wt hwt)
          clear f0 f1 f2 f3 hCd hCB hCK hwt HCB hCw hCD
          obtain ⟨wn, hwn⟩ : ∃ z, wt.alloc (.cells #[.slice none 0 0] 56) = z := ⟨_, rfl⟩
          have HWN := Lib.hid hwn
          have HBN : Hid (Below w2.heap.size w2 wn) := Lib.hid (by rw [← hwn]; exact keep_alloc HBT.out _)
          have HNB : Hid (Blk wn wt.heap.size 56 #[.slice none 0 0]) := Lib.hid (by rw [← hwn]; exact Blk.new _ _ _)
          have x0 := (HB1.out.below HBN.out HB1.out.lt).at_ (i := 0) (v := .slice A m cc) rfl
          have x1 := (HB1.out.below HBN.out HB1.out.lt).at_ (i := 1) (v := .int .i64 secs) rfl
          have p0 := (HB2.out.below HBN.out HB2.out.lt).at_ (i := 0) (v := .int .i64 pg) rfl
          have p1 := (HB2.out.below HBN.out HB2.out.lt).at_ (i := 1) (v := .int .i64 pa) rfl
          have r0 := (HBR.out.below HBN.out HBR.out.lt).at_ (i := 0) (v := .bool false) rfl
          have rf := (HBR.out.below HBN.out HBR.out.lt).fr 0
          rw [← hwn] at x0 x1 p0 p1 r0 rf
          have HNS : Hid (w2.heap.size ≤ wt.heap.size ∧ w.heap.size + 1 + 1 + 1 < w2.heap.size) := Lib.hid ⟨HBT.out.size, HBR.out.lt⟩
          clear hwn
          go_wp2_with fail
          rw [HWN.out]
          refine (HFR.out wn HBN.out).mono ?_
          rintro e w10 ⟨rfl, hb10⟩
          have HB10 := Lib.hid (keep_below hb10 HBN.out)
          have HN10 := Lib.hid (HNB.out.below hb10 HNB.out.lt)
          clear x0 x1 p0 p1 r0 rf hb10
          have HTR := Lib.hid (refTries_any A m cc gs secs pg pa size (HG.out.below HB10.out (Nat.le_refl _)) (HO.out.below HB10.out) HFT.out)
          have x0 := (HB1.out.below HB10.out HB1.out.lt).at_ (i := 0) (v := .slice A m cc) rfl
          have x1 := (HB1.out.below HB10.out HB1.out.lt).at_ (i := 1) (v := .int .i64 secs) rfl
          have p0 := (HB2.out.below HB10.out HB2.out.lt).at_ (i := 0) (v := .int .i64 pg) rfl
          have p1 := (HB2.out.below HB10.out HB2.out.lt).at_ (i := 1) (v := .int .i64 pa) rfl
          have r0 := (HBR.out.below HB10.out HBR.out.lt).at_ (i := 0) (v := .bool false) rfl
          have rf := (HBR.out.below HB10.out HBR.out.lt).fr 0
          have hTN := tries_len8 (gs := gs) (secs := secs) (pg := pg) (pa := pa) (size := size) (got := got)
          have hO64 := ofList_le gs secs pg pa size
          rw [ofList_may (fits_parts HFT.out).1] at hO64
          have hw8 : (grAt gs pg).2.toNat ≤ 8 := by
            obtain ⟨hhas, _⟩ := cMay_true (fits_parts HFT.out).1
            obtain ⟨g, x, rfl, _, _, _, _, hx, hgx, ho⟩ := gHas_true hhas
            rw [hgx]
            have := gOne_true ho
            omega
          obtain ⟨T, hT⟩ : ∃ T, triesL gs secs pg pa size got = T := ⟨_, rfl⟩
          rw [hT] at HTR hTN
          have HT := Lib.hid hT
          have HTN : Hid (T.length ≤ 100) := Lib.hid (by omega)
          clear hT hTN hO64 hw8
          go_wp2_with fail
          refine HTR.out.mono ?_
          rintro e w11 ⟨wv, rfl, hsl11, hb11⟩
          have HB11 := Lib.hid (keep_below hb11 HB10.out)
          have HN11 := Lib.hid (HN10.out.below hb11 HN10.out.lt)
          obtain ⟨Aw, cw, rfl⟩ := hsl11.form
          have n0 := HN11.out.at_ (i := 0) (v := .slice none 0 0) rfl
          have nf := HN11.out.fr 0
          have HS11 : Hid (0 < T.length → ∃ bw ow, Aw = some ⟨bw, ow, none⟩ ∧ bw < w11.heap.size ∧ bw ≠ wt.heap.size ∧ ∀ j u, (trC T)[j]? = some u → w11.cell? ⟨bw, ow + j, none⟩ = some u) := Lib.hid fun hp => by
            obtain ⟨bw, ow, e1, e2, e3⟩ := hsl11.cells hp
            refine ⟨bw, ow, e1, e2, ?_, e3⟩
            rintro rfl
            have h1 := e3 0 _ (trC_at (i := 0) (List.getElem?_eq_getElem hp)).1
            have h2 : w11.cell? ⟨wt.heap.size, ow + 0, none⟩ = #[Value.slice none 0 0][ow + 0]? := cell_of_row w11 _ _ _ _ _ HN11.out
            rw [h2] at h1
            match ow, h1 with
            | 0, h1 => simp at h1
            | ow + 1, h1 => simp at h1
          obtain ⟨w13, hw13⟩ : ∃ z, (w11.setCell ⟨wt.heap.size, 0, none⟩ (.slice Aw T.length cw)).alloc (.cells #[.int .i64 0] 3) = z := ⟨_, rfl⟩
          have HW13 := Lib.hid hw13
          have HB13 : Hid (Below w2.heap.size w2 w13) := Lib.hid (by rw [← hw13]; exact keep_alloc (below_set HB11.out _ _ _ HNS.out.1) _)
          have HNN13 : Hid (Blk w13 w11.heap.size 3 #[.int .i64 0]) := Lib.hid (by
            rw [← hw13]
            have := Blk.new (w11.setCell ⟨wt.heap.size, 0, none⟩ (.slice Aw T.length cw)) 3 #[.int .i64 0]
            rwa [show (w11.setCell ⟨wt.heap.size, 0, none⟩ (.slice Aw T.length cw)).heap.size = w11.heap.size by simp [World.setCell]] at this)
          have HNW13 : Hid (Blk w13 wt.heap.size 56 #[.slice Aw T.length cw]) := Lib.hid (by
            rw [← hw13]
            have := HN11.out.put 0 (.slice Aw T.length cw)
            exact Blk.alloc this _)
          have HS13 : Hid (0 < T.length → ∃ bw ow, Aw = some ⟨bw, ow, none⟩ ∧ bw < w11.heap.size ∧ ∀ j u, (trC T)[j]? = some u → w13.cell? ⟨bw, ow + j, none⟩ = some u) := Lib.hid fun hp => by
            obtain ⟨bw, ow, e1, e2, e3, e4⟩ := HS11.out hp
            refine ⟨bw, ow, e1, e2, fun j u hu => ?_⟩
            rw [← hw13]
            refine keep_cell' ?_ (keep_alloc (Below.refl _ _) _)
            exact (World.cell?_of_block (Below.heap_setCell w11 _ _ bw e3)).trans (e4 j u hu)
          have HNL : Hid (w11.heap.size < w13.heap.size ∧ wt.heap.size < w11.heap.size) := Lib.hid ⟨HNN13.out.lt, HN11.out.lt⟩
          clear x0 x1 p0 p1 r0 rf hb11 hsl11
          have x0 := (HB1.out.below HB13.out HB1.out.lt).at_ (i := 0) (v := .slice A m cc) rfl
          have x1 := (HB1.out.below HB13.out HB1.out.lt).at_ (i := 1) (v := .int .i64 secs) rfl
          have p0 := (HB2.out.below HB13.out HB2.out.lt).at_ (i := 0) (v := .int .i64 pg) rfl
          have p1 := (HB2.out.below HB13.out HB2.out.lt).at_ (i := 1) (v := .int .i64 pa) rfl
          have r0 := (HBR.out.below HB13.out HBR.out.lt).at_ (i := 0) (v := .bool false) rfl
          have rf := (HBR.out.below HB13.out HBR.out.lt).fr 0
          have HTA := Lib.hid (tries_any (w := w13) A m cc secs pg pa size (.slice Ag got.length cg) ⟨_, _, _, rfl⟩)
          rw [← hw13] at x0 x1 p0 p1 r0 rf
          clear hw13
          go_wp2_with fail
          rw [HW13.out]
          refine HTA.out.mono ?_
          rintro e wc ⟨rfl, hbx, hbc2⟩
          clear x0 x1 p0 p1 r0 rf n0 nf
          have hBC : Below w2.heap.size w2 wc := keep_below hbc2 HB13.out
          have hgxC := HG.out.below hBC (Nat.le_refl _)
          have hNC := HNN13.out.below hbc2 HNN13.out.lt
          have hWC := HNW13.out.below hbc2 HNW13.out.lt
          have hRC := HBR.out.below hBC HBR.out.lt
          have hSC := HBS.out.below hBC HBS.out.lt
          have hsx : SlV wc (fun b => b = w11.heap.size) (.slice Ag got.length cg) got.length (strC got) := by
            obtain ⟨Ag', cg', e, hle, hc⟩ := HO.out
            injection e with e1 _ e2
            subst e1 e2
            refine ⟨_, _, rfl, hle, fun hp => ?_⟩
            obtain ⟨b, o, e1, e2, e3⟩ := hc hp
            refine ⟨b, o, e1, Nat.lt_of_lt_of_le e2 hBC.size, ?_, fun j u hu => (World.cell?_of_block (hBC.block b e2)).trans (e3 j u hu)⟩
            have := HNS.out.1
            have := HNL.out.2
            omega
          have hV : ∀ b, b = w11.heap.size → b < wc.heap.size := fun b h => by rw [h]; exact hNC.lt
          have HIW := Lib.hid (keep_below hBC HD2.out)
          have HBC := Lib.hid hBC
          have HWC := Lib.hid (And.intro hWC (And.intro hRC hSC))
          have HSC : Hid (0 < T.length → ∃ bw ow, Aw = some ⟨bw, ow, none⟩ ∧ bw < w11.heap.size ∧ bw < wc.heap.size ∧ ∀ j u, (trC T)[j]? = some u → wc.cell? ⟨bw, ow + j, none⟩ = some u) := Lib.hid fun hp => by
            obtain ⟨bw, ow, e1, e2, e3⟩ := HS13.out hp
            exact ⟨bw, ow, e1, e2, by have := hNC.lt; omega, fun j u hu => keep_cell' (e3 j u hu) hbc2⟩
          clear hBC hWC hRC hSC
          go_wp2_with fail
          refine (wpIn_wide (n := 9)).1 ?_
          refine wpIn_rangeFunc_ownG rfl (by decide) (gf := 29) (lb := _) rfl trivial (enters_of Try.func29 (by kernel_rfl) rfl)
            (tries_seq (9 - 1) (V := fun b => b = w11.heap.size) hbx hgxC hsx hV) KC.trans (kc_putObj) (Below.refl _ _) (fun _ => rfl)
            (fun pre W => wc.grownBy W (some w11.heap.size) ∧ Blk W w11.heap.size 3 #[.int .i64 (pre.length : Nat)])
            (fun c pre W => c = .ret ∧ (¬ pre <+: T ∨ (Blk W (w.heap.size + 1 + 1 + 1) 4 #[.bool true] ∧ Below w.heap.size w W))) ?hIya ?hIxya ?h0ya ?a1ya ?assignya ?bodyya ?doneya ?stopya
          case hIya => exact fun s A B row hs hg hr => ⟨grown_more hs.1 hg hr (Nat.le_refl _), blk_kept hs.2 hg hr⟩
          case hIxya => exact fun c s A B row hs hg hr => ⟨hs.1, hs.2.imp id fun h => ⟨blk_kept h.1 hg hr, ownFrom_below (β := List TryX) (Nat.le_refl _) HIW.out.size s A B row h.2 hg hr⟩⟩
          case h0ya => exact ⟨⟨rfl, rfl, rfl, Nat.le_refl _, fun _ _ _ => rfl⟩, hNC⟩
          case assignya =>
            intro l x W K hK
            simp only [tryE, List.zip_toArray, List.zip_cons_cons, List.zip_nil_left, List.zip_nil_right, List.foldl_toArray, List.foldl_cons, List.foldl_nil, List.size_toArray, List.length_cons, List.length_nil, List.setIfInBounds_toArray, List.set_cons_succ, List.set_cons_zero]
            gi_wp2
            exact hK
          case bodyya =>
            rintro l pre ⟨dd, t⟩ W ⟨hgr, k0⟩ hlt
            rw [HT.out] at hlt
            obtain ⟨n, hn⟩ : ∃ n, pre.length = n := ⟨_, rfl⟩
            rw [hn] at k0 hlt
            have hn100 : n ≤ 100 := by have := HTN.out; omega
            have hnl := HNL.out
            have hns := HNS.out
            obtain ⟨bw, ow, rfl, hbw1, hbw2, hbw3⟩ := HSC.out (by omega)
            obtain ⟨⟨dq, tq⟩, hx⟩ : ∃ x, T[n]? = some x := ⟨_, List.getElem?_eq_getElem hlt⟩
            have hfar : ∀ i, i < wc.heap.size → i ≠ w11.heap.size → W.heap[i]? = wc.heap[i]? := fun i h1 h2 => hgr.block i h1 (fun e => by injection e with e; exact h2 e)
            have c0 : W.cell? ⟨w11.heap.size, 0, none⟩ = some (.int .i64 n) := k0.at_ rfl
            have f0 := k0.fr 0
            have hW3 : Blk W wt.heap.size 56 #[.slice (some ⟨bw, ow, none⟩) T.length cw] := (hfar _ HWC.out.1.lt (by omega)).trans HWC.out.1
            have hR3 : Blk W (w.heap.size + 1 + 1 + 1) 4 #[.bool false] := (hfar _ HWC.out.2.1.lt (by omega)).trans HWC.out.2.1
            have hP3 : Blk W (w.heap.size + 1 + 1) 5 #[.int .u8 stop] := (hfar _ HWC.out.2.2.lt (by omega)).trans HWC.out.2.2
            have c1 : W.cell? ⟨wt.heap.size, 0, none⟩ = some (.slice (some ⟨bw, ow, none⟩) T.length cw) := hW3.at_ rfl
            have c2 : W.cell? ⟨w.heap.size + 1 + 1 + 1, 0, none⟩ = some (.bool false) := hR3.at_ rfl
            have f2 := hR3.fr 0
            have c3 : W.cell? ⟨w.heap.size + 1 + 1, 0, none⟩ = some (.int .u8 stop) := hP3.at_ rfl
            have q0 : W.cell? ⟨bw, ow + n * 2, none⟩ = some (.int .i64 dq) := (World.cell?_of_block (hfar bw hbw2 (by omega))).trans (hbw3 _ _ (trC_at hx).1)
            have q1 : W.cell? ⟨bw, ow + n * 2 + 1, none⟩ = some (str tq) := by
              rw [Nat.add_assoc]
              exact (World.cell?_of_block (hfar bw hbw2 (by omega))).trans (hbw3 _ _ (trC_at hx).2)
            have hdl : decide (T.length ≤ n) = false := decide_eq_false (by omega)
            have HK := Lib.hid (And.intro k0 (And.intro hR3 hgr))
            have HX := Lib.hid (And.intro hn (And.intro hx hlt))
            have hBW := below_only HBC.out hgr (by omega)
            have HBW := Lib.hid (keep_below hBW HD2.out)
            clear k0 hgr hn hx hfar hW3 hR3 hP3 hbw1 hbw2 hbw3 hBW
            have HBAD : Hid ((dq, tq) ≠ (dd, t) → ¬ (pre ++ [(dd, t)]) <+: T) := Lib.hid fun hne h => by
              obtain ⟨r, hr⟩ := h
              have h2 := HX.out.2.1
              rw [← hr, List.append_assoc, List.getElem?_append_right (by have := HX.out.1; omega), HX.out.1, Nat.sub_self] at h2
              simp at h2
              exact hne (by rw [h2.1, h2.2])
            by_cases hdd : dq = dd
            · subst hdd
              by_cases htt : tq = t
              · subst htt
                cases hst2 : ((n : Int) + 1 == (stop : Int)) with
                | true =>
                  gi_wp2_with fail
                  exact ⟨((KeepsOthers.setCell _ _ _).from _).trans ((KeepsOthers.setCell _ _ _).from _), rfl, .inr ⟨(HK.out.2.1.far (by show _ ≠ w11.heap.size; omega) _).put 0 (.bool true), below_set (below_set HBW.out _ _ _ (by omega)) _ _ _ (by omega)⟩⟩
                | false =>
                  gi_wp2_with fail
                  refine ⟨(KeepsOthers.setCell _ _ _).from _, kc_set _ _ _ rfl, only_set HK.out.2.2 (.inl rfl) _, ?_⟩
                  have := HK.out.1.put 0 (.int .i64 ((n : Int) + 1))
                  rw [List.length_append, HX.out.1]
                  exact this
              · have ht1 : (tq == t) = false := beq_eq_false_iff_ne.2 htt
                have ht2 : (tq != t) = true := bne_iff_ne.2 htt
                have HBD := Lib.hid (HBAD.out fun e => htt (by injection e))
                clear htt
                gi_wp2_with fail
                exact ⟨(KeepsOthers.setCell _ _ _).from _, rfl, .inl HBD.out⟩
            · have hd1 : (dq == dd) = false := beq_eq_false_iff_ne.2 hdd
              have hd2 : (dq != dd) = true := bne_iff_ne.2 hdd
              have HBD := Lib.hid (HBAD.out fun e => hdd (by injection e))
              clear hdd
              gi_wp2_with fail
              exact ⟨(KeepsOthers.setCell _ _ _).from _, rfl, .inl HBD.out⟩
          case doneya =>
            rintro D xs W hD hS ⟨hgr, k0⟩ hK
            rw [HT.out] at hS
            rw [hS] at k0
            have hnl := HNL.out
            have hns := HNS.out
            have hfar : ∀ i, i < wc.heap.size → i ≠ w11.heap.size → W.heap[i]? = wc.heap[i]? := fun i h1 h2 => hgr.block i h1 (fun e => by injection e with e; exact h2 e)
            have c0 : W.cell? ⟨w11.heap.size, 0, none⟩ = some (.int .i64 T.length) := k0.at_ rfl
            have hW3 : Blk W wt.heap.size 56 #[.slice Aw T.length cw] := (hfar _ HWC.out.1.lt (by omega)).trans HWC.out.1
            have hR3 : Blk W (w.heap.size + 1 + 1 + 1) 4 #[.bool false] := (hfar _ HWC.out.2.1.lt (by omega)).trans HWC.out.2.1
            have c1 : W.cell? ⟨wt.heap.size, 0, none⟩ = some (.slice Aw T.length cw) := hW3.at_ rfl
            have c2 : W.cell? ⟨w.heap.size + 1 + 1 + 1, 0, none⟩ = some (.bool false) := hR3.at_ rfl
            have f2 := hR3.fr 0
            have hBW := keep_below (below_only HBC.out hgr (by omega)) HD2.out
            have hK2 : (W.setCell ⟨w.heap.size + 1 + 1 + 1, 0, none⟩ (.bool true)).heap[D]? = some (.deferred (some [])) := (KeepsOthers.setCell _ _ _).same D _ hK rfl
            have hc := (hR3.put 0 (.bool true)).at_ (i := 0) (v := .bool true) rfl
            have hc2 := cell_kept hc (grownBy_putObj' _ D (.deferred none)) (fun r e => by cases e; exact ⟨_, hK2, rfl⟩)
            have HBW : Hid (Below w.heap.size (W.setCell ⟨w.heap.size + 1 + 1 + 1, 0, none⟩ (.bool true)) ((W.setCell ⟨w.heap.size + 1 + 1 + 1, 0, none⟩ (.bool true)).putObj D (.deferred none)) ∧ Below w.heap.size w (W.setCell ⟨w.heap.size + 1 + 1 + 1, 0, none⟩ (.bool true))) := Lib.hid ⟨belowK_b (w := w) (Nat.le_refl _) _ D _ _ (by have := HIW.out.size; omega) hK2 rfl rfl, below_set hBW _ _ _ (by omega)⟩
            have HK2 := Lib.hid hK2
            have HC2 := Lib.hid hc2
            clear k0 hgr hS hfar hW3 hR3 hBW hK hK2 hc hc2 hD
            go_wp2_with fail
            refine ⟨by simp, .inl ⟨_, _, rfl, run_takeDeferred HK2.out, ?_⟩⟩
            refine ⟨.bool true, ?_, rfl, HBW.out.2.trans HBW.out.1⟩
            simp [results, Try.f7, go_sem, HC2.out]
          case stopya =>
            rintro D c pre W hD hS ⟨rfl, hh⟩ hK
            rw [HT.out] at hS
            rcases hh with hh | ⟨k2, hb⟩
            · exact absurd hS hh
            refine (wpIn_wide (n := 9)).2 ?_
            have hc2 := cell_kept (k2.at_ (i := 0) (v := .bool true) rfl) (grownBy_putObj' _ D (.deferred none)) (fun r e => by cases e; exact ⟨_, hK, rfl⟩)
            have HKD := Lib.hid hK
            have HDD := Lib.hid hD
            have HBB := Lib.hid hb
            clear hK hb hD k2
            go_wp2_with fail
            refine ⟨by simp, .inl ⟨_, _, rfl, run_takeDeferred HKD.out, ?_⟩⟩
            refine ⟨.bool true, ?_, rfl, HBB.out.trans (belowK_b (w := w) (Nat.le_refl _) _ D _ _ (by have := HDD.out; have := HNL.out; have := HNS.out; have := HIW.out.size; omega) HKD.out rfl rfl)⟩
            simp [results, Try.f7, go_sem, hc2]
        | false =>
          have x0 := (HB1.out.below HB6.out HB1.out.lt).at_ (i := 0) (v := .slice A m cc) rfl
          have x1 := (HB1.out.below HB6.out HB1.out.lt).at_ (i := 1) (v := .int .i64 secs) rfl
          have p0 := (HB2.out.below HB6.out HB2.out.lt).at_ (i := 0) (v := .int .i64 pg) rfl
          have p1 := (HB2.out.below HB6.out HB2.out.lt).at_ (i := 1) (v := .int .i64 pa) rfl
          have r0 := (HBR.out.below HB6.out HBR.out.lt).at_ (i := 0) (v := .bool false) rfl
          have rf := (HBR.out.below HB6.out HBR.out.lt).fr 0
          obtain ⟨C, hCd, hCw, hCB, hCK, hCD⟩ := cls_below w6
          have f0 : ∀ W, C W → W.cell? ⟨w.heap.size, 0, none⟩ = some (.slice A m cc) := fun W h => keep_cell' x0 (hCB W h)
          have f1 : ∀ W, C W → W.cell? ⟨w.heap.size, 1, none⟩ = some (.int .i64 secs) := fun W h => keep_cell' x1 (hCB W h)
          have f2 : ∀ W, C W → W.cell? ⟨w.heap.size + 1, 0, none⟩ = some (.int .i64 pg) := fun W h => keep_cell' p0 (hCB W h)
          have f3 : ∀ W, C W → W.cell? ⟨w.heap.size + 1, 1, none⟩ = some (.int .i64 pa) := fun W h => keep_cell' p1 (hCB W h)
          have HCB := Lib.hid fun W h => keep_below (hCB W h) HB6.out
          clear x0 x1 p0 p1 r0 rf hq hs15
          go_wp2_with fail
          refine wp_region_cls C (by kernel_rfl) (by kernel_rfl) hCd ?_
          repeat (first
            | go_big_quiet_skip
            | (go_big_quiet_want
               go_big_quiet_op
               first
                 | go_big_quiet_on
                 | (apply Exists.intro
                    refine ⟨fun W hW => ?_, ?_⟩
                    · first
                        | exact rfl
                        | exact ⟨rfl, rfl⟩
                        | (have e0 := f0 W hW; have e1 := f1 W hW; have e2 := f2 W hW; have e3 := f3 W hW; simp only [e0, e1, e2, e3, Result.andThen_ok]; done)
                        | (have e0 := f0 W hW; have e1 := f1 W hW; have e2 := f2 W hW; have e3 := f3 W hW; simp only [e0, e1, e2, e3, Result.andThen_ok]; first | exact ⟨trivial, rfl⟩ | exact rfl | exact ⟨rfl, rfl⟩)
                        | (first | (refine (HFA.out W (HCB.out W hW)).mono ?_; rintro e w' ⟨rfl, hb⟩; exact ⟨rfl, hCK _ _ hW hb⟩) | (refine (HFR.out W (HCB.out W hW)).mono ?_; rintro e w' ⟨rfl, hb⟩; exact ⟨rfl, hCK _ _ hW hb⟩))
                    go_big_quiet_on)))
          refine wpQuiet_nil ?_
          intro wt hwt
          have HBT := Lib.hid (HCB.out wt hwt)
          have HBT1 := Lib.hid (hCB wt hwt)
          clear f0 f1 f2 f3 hCd hCB hCK hwt HCB hCw hCD
          obtain ⟨wn, hwn⟩ : ∃ z, wt.alloc (.cells #[.slice none 0 0] 56) = z := ⟨_, rfl⟩
          have HWN := Lib.hid hwn
          have HBN : Hid (Below w2.heap.size w2 wn) := Lib.hid (by rw [← hwn]; exact keep_alloc HBT.out _)
          have HNB : Hid (Blk wn wt.heap.size 56 #[.slice none 0 0]) := Lib.hid (by rw [← hwn]; exact Blk.new _ _ _)
          have x0 := (HB1.out.below HBN.out HB1.out.lt).at_ (i := 0) (v := .slice A m cc) rfl
          have x1 := (HB1.out.below HBN.out HB1.out.lt).at_ (i := 1) (v := .int .i64 secs) rfl
          have p0 := (HB2.out.below HBN.out HB2.out.lt).at_ (i := 0) (v := .int .i64 pg) rfl
          have p1 := (HB2.out.below HBN.out HB2.out.lt).at_ (i := 1) (v := .int .i64 pa) rfl
          have r0 := (HBR.out.below HBN.out HBR.out.lt).at_ (i := 0) (v := .bool false) rfl
          have rf := (HBR.out.below HBN.out HBR.out.lt).fr 0
          rw [← hwn] at x0 x1 p0 p1 r0 rf
          have HNS : Hid (w2.heap.size ≤ wt.heap.size ∧ w.heap.size + 1 + 1 + 1 < w2.heap.size) := Lib.hid ⟨HBT.out.size, HBR.out.lt⟩
          clear hwn
          go_wp2_with fail
          rw [HWN.out]
          refine (HFR.out wn HBN.out).mono ?_
          rintro e w10 ⟨rfl, hb10⟩
          have HB10 := Lib.hid (keep_below hb10 HBN.out)
          have HN10 := Lib.hid (HNB.out.below hb10 HNB.out.lt)
          clear x0 x1 p0 p1 r0 rf hb10
          obtain ⟨T, hT⟩ : ∃ T, triesL gs secs pg pa size got = T := ⟨_, rfl⟩
          have hT0 : T = [] := by rw [← hT]; unfold triesL; rw [HFT.out]; rfl
          obtain ⟨Aw, cw, hAw, hcw⟩ : ∃ (Aw : Option Addr) (cw : Nat), Aw = none ∧ cw = 0 := ⟨_, _, rfl, rfl⟩
          have HT := Lib.hid hT
          have HTN : Hid (T.length ≤ 100) := Lib.hid (by rw [hT0]; exact Nat.zero_le _)
          obtain ⟨w13, hw13⟩ : ∃ z, w10.alloc (.cells #[.int .i64 0] 3) = z := ⟨_, rfl⟩
          have HW13 := Lib.hid hw13
          have HB13 : Hid (Below w2.heap.size w2 w13) := Lib.hid (by rw [← hw13]; exact keep_alloc HB10.out _)
          have HNN13 : Hid (Blk w13 w10.heap.size 3 #[.int .i64 0]) := Lib.hid (by rw [← hw13]; exact Blk.new _ _ _)
          have HNW13 : Hid (Blk w13 wt.heap.size 56 #[.slice Aw T.length cw]) := Lib.hid (by rw [hAw, hcw, hT0, ← hw13]; exact HN10.out.alloc _)
          have HS13 : Hid (0 < T.length → ∃ bw ow, Aw = some ⟨bw, ow, none⟩ ∧ bw < w10.heap.size ∧ ∀ j u, (trC T)[j]? = some u → w13.cell? ⟨bw, ow + j, none⟩ = some u) := Lib.hid fun hp => by rw [hT0] at hp; exact absurd hp (by simp)
          have HNL : Hid (w10.heap.size < w13.heap.size ∧ wt.heap.size < w10.heap.size) := Lib.hid ⟨HNN13.out.lt, HN10.out.lt⟩
          clear hT hT0 hAw hcw
          have x0 := (HB1.out.below HB13.out HB1.out.lt).at_ (i := 0) (v := .slice A m cc) rfl
          have x1 := (HB1.out.below HB13.out HB1.out.lt).at_ (i := 1) (v := .int .i64 secs) rfl
          have p0 := (HB2.out.below HB13.out HB2.out.lt).at_ (i := 0) (v := .int .i64 pg) rfl
          have p1 := (HB2.out.below HB13.out HB2.out.lt).at_ (i := 1) (v := .int .i64 pa) rfl
          have r0 := (HBR.out.below HB13.out HBR.out.lt).at_ (i := 0) (v := .bool false) rfl
          have rf := (HBR.out.below HB13.out HBR.out.lt).fr 0
          have HTA := Lib.hid (tries_any (w := w13) A m cc secs pg pa size (.slice Ag got.length cg) ⟨_, _, _, rfl⟩)
          rw [← hw13] at x0 x1 p0 p1 r0 rf
          clear hw13
          go_wp2_with fail
          rw [HW13.out]
          refine HTA.out.mono ?_
          rintro e wc ⟨rfl, hbx, hbc2⟩
          clear x0 x1 p0 p1 r0 rf
          have hBC : Below w2.heap.size w2 wc := keep_below hbc2 HB13.out
          have hgxC := HG.out.below hBC (Nat.le_refl _)
          have hNC := HNN13.out.below hbc2 HNN13.out.lt
          have hWC := HNW13.out.below hbc2 HNW13.out.lt
          have hRC := HBR.out.below hBC HBR.out.lt
          have hSC := HBS.out.below hBC HBS.out.lt
          have hsx : SlV wc (fun b => b = w10.heap.size) (.slice Ag got.length cg) got.length (strC got) := by
            obtain ⟨Ag', cg', e, hle, hc⟩ := HO.out
            injection e with e1 _ e2
            subst e1 e2
            refine ⟨_, _, rfl, hle, fun hp => ?_⟩
            obtain ⟨b, o, e1, e2, e3⟩ := hc hp
            refine ⟨b, o, e1, Nat.lt_of_lt_of_le e2 hBC.size, ?_, fun j u hu => (World.cell?_of_block (hBC.block b e2)).trans (e3 j u hu)⟩
            have := HNS.out.1
            have := HNL.out.2
            omega
          have hV : ∀ b, b = w10.heap.size → b < wc.heap.size := fun b h => by rw [h]; exact hNC.lt
          have HIW := Lib.hid (keep_below hBC HD2.out)
          have HBC := Lib.hid hBC
          have HWC := Lib.hid (And.intro hWC (And.intro hRC hSC))
          have HSC : Hid (0 < T.length → ∃ bw ow, Aw = some ⟨bw, ow, none⟩ ∧ bw < w10.heap.size ∧ bw < wc.heap.size ∧ ∀ j u, (trC T)[j]? = some u → wc.cell? ⟨bw, ow + j, none⟩ = some u) := Lib.hid fun hp => by
            obtain ⟨bw, ow, e1, e2, e3⟩ := HS13.out hp
            exact ⟨bw, ow, e1, e2, by have := hNC.lt; omega, fun j u hu => keep_cell' (e3 j u hu) hbc2⟩
          clear hBC hWC hRC hSC
          go_wp2_with fail
          refine (wpIn_wide (n := 9)).1 ?_
          refine wpIn_rangeFunc_ownG rfl (by decide) (gf := 29) (lb := _) rfl trivial (enters_of Try.func29 (by kernel_rfl) rfl)
            (tries_seq (9 - 1) (V := fun b => b = w10.heap.size) hbx hgxC hsx hV) KC.trans (kc_putObj) (Below.refl _ _) (fun _ => rfl)
            (fun pre W => wc.grownBy W (some w10.heap.size) ∧ Blk W w10.heap.size 3 #[.int .i64 (pre.length : Nat)])
            (fun c pre W => c = .ret ∧ (¬ pre <+: T ∨ (Blk W (w.heap.size + 1 + 1 + 1) 4 #[.bool true] ∧ Below w.heap.size w W))) ?hIne ?hIxne ?h0ne ?a1ne ?assignne ?bodyne ?donene ?stopne
          case hIne => exact fun s A B row hs hg hr => ⟨grown_more hs.1 hg hr (Nat.le_refl _), blk_kept hs.2 hg hr⟩
          case hIxne => exact fun c s A B row hs hg hr => ⟨hs.1, hs.2.imp id fun h => ⟨blk_kept h.1 hg hr, ownFrom_below (β := List TryX) (Nat.le_refl _) HIW.out.size s A B row h.2 hg hr⟩⟩
          case h0ne => exact ⟨⟨rfl, rfl, rfl, Nat.le_refl _, fun _ _ _ => rfl⟩, hNC⟩
          case assignne =>
            intro l x W K hK
            simp only [tryE, List.zip_toArray, List.zip_cons_cons, List.zip_nil_left, List.zip_nil_right, List.foldl_toArray, List.foldl_cons, List.foldl_nil, List.size_toArray, List.length_cons, List.length_nil, List.setIfInBounds_toArray, List.set_cons_succ, List.set_cons_zero]
            gi_wp2
            exact hK
          case bodyne =>
            rintro l pre ⟨dd, t⟩ W ⟨hgr, k0⟩ hlt
            rw [HT.out] at hlt
            obtain ⟨n, hn⟩ : ∃ n, pre.length = n := ⟨_, rfl⟩
            rw [hn] at k0 hlt
            have hn100 : n ≤ 100 := by have := HTN.out; omega
            have hnl := HNL.out
            have hns := HNS.out
            obtain ⟨bw, ow, rfl, hbw1, hbw2, hbw3⟩ := HSC.out (by omega)
            obtain ⟨⟨dq, tq⟩, hx⟩ : ∃ x, T[n]? = some x := ⟨_, List.getElem?_eq_getElem hlt⟩
            have hfar : ∀ i, i < wc.heap.size → i ≠ w10.heap.size → W.heap[i]? = wc.heap[i]? := fun i h1 h2 => hgr.block i h1 (fun e => by injection e with e; exact h2 e)
            have c0 : W.cell? ⟨w10.heap.size, 0, none⟩ = some (.int .i64 n) := k0.at_ rfl
            have f0 := k0.fr 0
            have hW3 : Blk W wt.heap.size 56 #[.slice (some ⟨bw, ow, none⟩) T.length cw] := (hfar _ HWC.out.1.lt (by omega)).trans HWC.out.1
            have hR3 : Blk W (w.heap.size + 1 + 1 + 1) 4 #[.bool false] := (hfar _ HWC.out.2.1.lt (by omega)).trans HWC.out.2.1
            have hP3 : Blk W (w.heap.size + 1 + 1) 5 #[.int .u8 stop] := (hfar _ HWC.out.2.2.lt (by omega)).trans HWC.out.2.2
            have c1 : W.cell? ⟨wt.heap.size, 0, none⟩ = some (.slice (some ⟨bw, ow, none⟩) T.length cw) := hW3.at_ rfl
            have c2 : W.cell? ⟨w.heap.size + 1 + 1 + 1, 0, none⟩ = some (.bool false) := hR3.at_ rfl
            have f2 := hR3.fr 0
            have c3 : W.cell? ⟨w.heap.size + 1 + 1, 0, none⟩ = some (.int .u8 stop) := hP3.at_ rfl
            have q0 : W.cell? ⟨bw, ow + n * 2, none⟩ = some (.int .i64 dq) := (World.cell?_of_block (hfar bw hbw2 (by omega))).trans (hbw3 _ _ (trC_at hx).1)
            have q1 : W.cell? ⟨bw, ow + n * 2 + 1, none⟩ = some (str tq) := by
              rw [Nat.add_assoc]
              exact (World.cell?_of_block (hfar bw hbw2 (by omega))).trans (hbw3 _ _ (trC_at hx).2)
            have hdl : decide (T.length ≤ n) = false := decide_eq_false (by omega)
            have HK := Lib.hid (And.intro k0 (And.intro hR3 hgr))
            have HX := Lib.hid (And.intro hn (And.intro hx hlt))
            have hBW := below_only HBC.out hgr (by omega)
            have HBW := Lib.hid (keep_below hBW HD2.out)
            clear k0 hgr hn hx hfar hW3 hR3 hP3 hbw1 hbw2 hbw3 hBW
            have HBAD : Hid ((dq, tq) ≠ (dd, t) → ¬ (pre ++ [(dd, t)]) <+: T) := Lib.hid fun hne h => by
              obtain ⟨r, hr⟩ := h
              have h2 := HX.out.2.1
              rw [← hr, List.append_assoc, List.getElem?_append_right (by have := HX.out.1; omega), HX.out.1, Nat.sub_self] at h2
              simp at h2
              exact hne (by rw [h2.1, h2.2])
            by_cases hdd : dq = dd
            · subst hdd
              by_cases htt : tq = t
              · subst htt
                cases hst2 : ((n : Int) + 1 == (stop : Int)) with
                | true =>
                  gi_wp2_with fail
                  exact ⟨((KeepsOthers.setCell _ _ _).from _).trans ((KeepsOthers.setCell _ _ _).from _), rfl, .inr ⟨(HK.out.2.1.far (by show _ ≠ w10.heap.size; omega) _).put 0 (.bool true), below_set (below_set HBW.out _ _ _ (by omega)) _ _ _ (by omega)⟩⟩
                | false =>
                  gi_wp2_with fail
                  refine ⟨(KeepsOthers.setCell _ _ _).from _, kc_set _ _ _ rfl, only_set HK.out.2.2 (.inl rfl) _, ?_⟩
                  have := HK.out.1.put 0 (.int .i64 ((n : Int) + 1))
                  rw [List.length_append, HX.out.1]
                  exact this
              · have ht1 : (tq == t) = false := beq_eq_false_iff_ne.2 htt
                have ht2 : (tq != t) = true := bne_iff_ne.2 htt
                have HBD := Lib.hid (HBAD.out fun e => htt (by injection e))
                clear htt
                gi_wp2_with fail
                exact ⟨(KeepsOthers.setCell _ _ _).from _, rfl, .inl HBD.out⟩
            · have hd1 : (dq == dd) = false := beq_eq_false_iff_ne.2 hdd
              have hd2 : (dq != dd) = true := bne_iff_ne.2 hdd
              have HBD := Lib.hid (HBAD.out fun e => hdd (by injection e))
              clear hdd
              gi_wp2_with fail
              exact ⟨(KeepsOthers.setCell _ _ _).from _, rfl, .inl HBD.out⟩
          case donene =>
            rintro D xs W hD hS ⟨hgr, k0⟩ hK
            rw [HT.out] at hS
            rw [hS] at k0
            have hnl := HNL.out
            have hns := HNS.out
            have hfar : ∀ i, i < wc.heap.size → i ≠ w10.heap.size → W.heap[i]? = wc.heap[i]? := fun i h1 h2 => hgr.block i h1 (fun e => by injection e with e; exact h2 e)
            have c0 : W.cell? ⟨w10.heap.size, 0, none⟩ = some (.int .i64 T.length) := k0.at_ rfl
            have hW3 : Blk W wt.heap.size 56 #[.slice Aw T.length cw] := (hfar _ HWC.out.1.lt (by omega)).trans HWC.out.1
            have hR3 : Blk W (w.heap.size + 1 + 1 + 1) 4 #[.bool false] := (hfar _ HWC.out.2.1.lt (by omega)).trans HWC.out.2.1
            have c1 : W.cell? ⟨wt.heap.size, 0, none⟩ = some (.slice Aw T.length cw) := hW3.at_ rfl
            have c2 : W.cell? ⟨w.heap.size + 1 + 1 + 1, 0, none⟩ = some (.bool false) := hR3.at_ rfl
            have f2 := hR3.fr 0
            have hBW := keep_below (below_only HBC.out hgr (by omega)) HD2.out
            have hK2 : (W.setCell ⟨w.heap.size + 1 + 1 + 1, 0, none⟩ (.bool true)).heap[D]? = some (.deferred (some [])) := (KeepsOthers.setCell _ _ _).same D _ hK rfl
            have hc := (hR3.put 0 (.bool true)).at_ (i := 0) (v := .bool true) rfl
            have hc2 := cell_kept hc (grownBy_putObj' _ D (.deferred none)) (fun r e => by cases e; exact ⟨_, hK2, rfl⟩)
            have HBW : Hid (Below w.heap.size (W.setCell ⟨w.heap.size + 1 + 1 + 1, 0, none⟩ (.bool true)) ((W.setCell ⟨w.heap.size + 1 + 1 + 1, 0, none⟩ (.bool true)).putObj D (.deferred none)) ∧ Below w.heap.size w (W.setCell ⟨w.heap.size + 1 + 1 + 1, 0, none⟩ (.bool true))) := Lib.hid ⟨belowK_b (w := w) (Nat.le_refl _) _ D _ _ (by have := HIW.out.size; omega) hK2 rfl rfl, below_set hBW _ _ _ (by omega)⟩
            have HK2 := Lib.hid hK2
            have HC2 := Lib.hid hc2
            clear k0 hgr hS hfar hW3 hR3 hBW hK hK2 hc hc2 hD
            go_wp2_with fail
            refine ⟨by simp, .inl ⟨_, _, rfl, run_takeDeferred HK2.out, ?_⟩⟩
            refine ⟨.bool true, ?_, rfl, HBW.out.2.trans HBW.out.1⟩
            simp [results, Try.f7, go_sem, HC2.out]
          case stopne =>
            rintro D c pre W hD hS ⟨rfl, hh⟩ hK
            rw [HT.out] at hS
            rcases hh with hh | ⟨k2, hb⟩
            · exact absurd hS hh
            refine (wpIn_wide (n := 9)).2 ?_
            have hc2 := cell_kept (k2.at_ (i := 0) (v := .bool true) rfl) (grownBy_putObj' _ D (.deferred none)) (fun r e => by cases e; exact ⟨_, hK, rfl⟩)
            have HKD := Lib.hid hK
            have HDD := Lib.hid hD
            have HBB := Lib.hid hb
            clear hK hb hD k2
            go_wp2_with fail
            refine ⟨by simp, .inl ⟨_, _, rfl, run_takeDeferred HKD.out, ?_⟩⟩
            refine ⟨.bool true, ?_, rfl, HBB.out.trans (belowK_b (w := w) (Nat.le_refl _) _ D _ _ (by have := HDD.out; have := HNL.out; have := HNS.out; have := HIW.out.size; omega) HKD.out rfl rfl)⟩
            simp [results, Try.f7, go_sem, hc2]
      · have HM6 := Lib.hid (HMY.out w6 (HG.out.below HB6.out (Nat.le_refl _)))
        rw [hno] at HM6
        rw [ho]
        clear hno he0 ho
        go_wp2_with fail
        refine HM6.out.mono ?_
        rintro e w7 ⟨rfl, hb7⟩
        have HB7 := Lib.hid (keep_below hb7 HB6.out)
        clear x0 x1 p0 p1 r0 rf hb7 HM6
        cases ft with
        | true =>
          have x0 := (HB1.out.below HB7.out HB1.out.lt).at_ (i := 0) (v := .slice A m cc) rfl
          have x1 := (HB1.out.below HB7.out HB1.out.lt).at_ (i := 1) (v := .int .i64 secs) rfl
          have p0 := (HB2.out.below HB7.out HB2.out.lt).at_ (i := 0) (v := .int .i64 pg) rfl
          have p1 := (HB2.out.below HB7.out HB2.out.lt).at_ (i := 1) (v := .int .i64 pa) rfl
          have r0 := (HBR.out.below HB7.out HBR.out.lt).at_ (i := 0) (v := .bool false) rfl
          have rf := (HBR.out.below HB7.out HBR.out.lt).fr 0
          obtain ⟨C, hCd, hCw, hCB, hCK, hCD⟩ := cls_below w7
          have f0 : ∀ W, C W → W.cell? ⟨w.heap.size, 0, none⟩ = some (.slice A m cc) := fun W h => keep_cell' x0 (hCB W h)
          have f1 : ∀ W, C W → W.cell? ⟨w.heap.size, 1, none⟩ = some (.int .i64 secs) := fun W h => keep_cell' x1 (hCB W h)
          have f2 : ∀ W, C W → W.cell? ⟨w.heap.size + 1, 0, none⟩ = some (.int .i64 pg) := fun W h => keep_cell' p0 (hCB W h)
          have f3 : ∀ W, C W → W.cell? ⟨w.heap.size + 1, 1, none⟩ = some (.int .i64 pa) := fun W h => keep_cell' p1 (hCB W h)
          have HCB := Lib.hid fun W h => keep_below (hCB W h) HB7.out
          clear x0 x1 p0 p1 r0 rf hq hs15
          go_wp2_with fail
          refine wp_region_cls C (by kernel_rfl) (by kernel_rfl) hCd ?_
          repeat (first
            | go_big_quiet_skip
            | (go_big_quiet_want
               go_big_quiet_op
               first
                 | go_big_quiet_on
                 | (apply Exists.intro
                    refine ⟨fun W hW => ?_, ?_⟩
                    · first
                        | exact rfl
                        | exact ⟨rfl, rfl⟩
                        | (have e0 := f0 W hW; have e1 := f1 W hW; have e2 := f2 W hW; have e3 := f3 W hW; simp only [e0, e1, e2, e3, Result.andThen_ok]; done)
                        | (have e0 := f0 W hW; have e1 := f1 W hW; have e2 := f2 W hW; have e3 := f3 W hW; simp only [e0, e1, e2, e3, Result.andThen_ok]; first | exact ⟨trivial, rfl⟩ | exact rfl | exact ⟨rfl, rfl⟩)
                        | (first | (refine (HFA.out W (HCB.out W hW)).mono ?_; rintro e w' ⟨rfl, hb⟩; exact ⟨rfl, hCK _ _ hW hb⟩) | (refine (HFR.out W (HCB.out W hW)).mono ?_; rintro e w' ⟨rfl, hb⟩; exact ⟨rfl, hCK _ _ hW hb⟩))
                    go_big_quiet_on)))
          refine wpQuiet_nil ?_
          intro wt hwt
          have HBT := Lib.hid (HCB.out wt hwt)
          have HBT1 := Lib.hid (hCB wt hwt)
          clear f0 f1 f2 f3 hCd hCB hCK hwt HCB hCw hCD
          obtain ⟨wn, hwn⟩ : ∃ z, wt.alloc (.cells #[.slice none 0 0] 56) = z := ⟨_, rfl⟩
          have HWN := Lib.hid hwn
          have HBN : Hid (Below w2.heap.size w2 wn) := Lib.hid (by rw [← hwn]; exact keep_alloc HBT.out _)
          have HNB : Hid (Blk wn wt.heap.size 56 #[.slice none 0 0]) := Lib.hid (by rw [← hwn]; exact Blk.new _ _ _)
          have x0 := (HB1.out.below HBN.out HB1.out.lt).at_ (i := 0) (v := .slice A m cc) rfl
          have x1 := (HB1.out.below HBN.out HB1.out.lt).at_ (i := 1) (v := .int .i64 secs) rfl
          have p0 := (HB2.out.below HBN.out HB2.out.lt).at_ (i := 0) (v := .int .i64 pg) rfl
          have p1 := (HB2.out.below HBN.out HB2.out.lt).at_ (i := 1) (v := .int .i64 pa) rfl
          have r0 := (HBR.out.below HBN.out HBR.out.lt).at_ (i := 0) (v := .bool false) rfl
          have rf := (HBR.out.below HBN.out HBR.out.lt).fr 0
          rw [← hwn] at x0 x1 p0 p1 r0 rf
          have HNS : Hid (w2.heap.size ≤ wt.heap.size ∧ w.heap.size + 1 + 1 + 1 < w2.heap.size) := Lib.hid ⟨HBT.out.size, HBR.out.lt⟩
          clear hwn
          go_wp2_with fail
          rw [HWN.out]
          refine (HFR.out wn HBN.out).mono ?_
          rintro e w10 ⟨rfl, hb10⟩
          have HB10 := Lib.hid (keep_below hb10 HBN.out)
          have HN10 := Lib.hid (HNB.out.below hb10 HNB.out.lt)
          clear x0 x1 p0 p1 r0 rf hb10
          have HTR := Lib.hid (refTries_any A m cc gs secs pg pa size (HG.out.below HB10.out (Nat.le_refl _)) (HO.out.below HB10.out) HFT.out)
          have x0 := (HB1.out.below HB10.out HB1.out.lt).at_ (i := 0) (v := .slice A m cc) rfl
          have x1 := (HB1.out.below HB10.out HB1.out.lt).at_ (i := 1) (v := .int .i64 secs) rfl
          have p0 := (HB2.out.below HB10.out HB2.out.lt).at_ (i := 0) (v := .int .i64 pg) rfl
          have p1 := (HB2.out.below HB10.out HB2.out.lt).at_ (i := 1) (v := .int .i64 pa) rfl
          have r0 := (HBR.out.below HB10.out HBR.out.lt).at_ (i := 0) (v := .bool false) rfl
          have rf := (HBR.out.below HB10.out HBR.out.lt).fr 0
          have hTN := tries_len8 (gs := gs) (secs := secs) (pg := pg) (pa := pa) (size := size) (got := got)
          have hO64 := ofList_le gs secs pg pa size
          rw [ofList_may (fits_parts HFT.out).1] at hO64
          have hw8 : (grAt gs pg).2.toNat ≤ 8 := by
            obtain ⟨hhas, _⟩ := cMay_true (fits_parts HFT.out).1
            obtain ⟨g, x, rfl, _, _, _, _, hx, hgx, ho⟩ := gHas_true hhas
            rw [hgx]
            have := gOne_true ho
            omega
          obtain ⟨T, hT⟩ : ∃ T, triesL gs secs pg pa size got = T := ⟨_, rfl⟩
          rw [hT] at HTR hTN
          have HT := Lib.hid hT
          have HTN : Hid (T.length ≤ 100) := Lib.hid (by omega)
          clear hT hTN hO64 hw8
          go_wp2_with fail
          refine HTR.out.mono ?_
          rintro e w11 ⟨wv, rfl, hsl11, hb11⟩
          have HB11 := Lib.hid (keep_below hb11 HB10.out)
          have HN11 := Lib.hid (HN10.out.below hb11 HN10.out.lt)
          obtain ⟨Aw, cw, rfl⟩ := hsl11.form
          have n0 := HN11.out.at_ (i := 0) (v := .slice none 0 0) rfl
          have nf := HN11.out.fr 0
          have HS11 : Hid (0 < T.length → ∃ bw ow, Aw = some ⟨bw, ow, none⟩ ∧ bw < w11.heap.size ∧ bw ≠ wt.heap.size ∧ ∀ j u, (trC T)[j]? = some u → w11.cell? ⟨bw, ow + j, none⟩ = some u) := Lib.hid fun hp => by
            obtain ⟨bw, ow, e1, e2, e3⟩ := hsl11.cells hp
            refine ⟨bw, ow, e1, e2, ?_, e3⟩
            rintro rfl
            have h1 := e3 0 _ (trC_at (i := 0) (List.getElem?_eq_getElem hp)).1
            have h2 : w11.cell? ⟨wt.heap.size, ow + 0, none⟩ = #[Value.slice none 0 0][ow + 0]? := cell_of_row w11 _ _ _ _ _ HN11.out
            rw [h2] at h1
            match ow, h1 with
            | 0, h1 => simp at h1
            | ow + 1, h1 => simp at h1
          obtain ⟨w13, hw13⟩ : ∃ z, (w11.setCell ⟨wt.heap.size, 0, none⟩ (.slice Aw T.length cw)).alloc (.cells #[.int .i64 0] 3) = z := ⟨_, rfl⟩
          have HW13 := Lib.hid hw13
          have HB13 : Hid (Below w2.heap.size w2 w13) := Lib.hid (by rw [← hw13]; exact keep_alloc (below_set HB11.out _ _ _ HNS.out.1) _)
          have HNN13 : Hid (Blk w13 w11.heap.size 3 #[.int .i64 0]) := Lib.hid (by
            rw [← hw13]
            have := Blk.new (w11.setCell ⟨wt.heap.size, 0, none⟩ (.slice Aw T.length cw)) 3 #[.int .i64 0]
            rwa [show (w11.setCell ⟨wt.heap.size, 0, none⟩ (.slice Aw T.length cw)).heap.size = w11.heap.size by simp [World.setCell]] at this)
          have HNW13 : Hid (Blk w13 wt.heap.size 56 #[.slice Aw T.length cw]) := Lib.hid (by
            rw [← hw13]
            have := HN11.out.put 0 (.slice Aw T.length cw)
            exact Blk.alloc this _)
          have HS13 : Hid (0 < T.length → ∃ bw ow, Aw = some ⟨bw, ow, none⟩ ∧ bw < w11.heap.size ∧ ∀ j u, (trC T)[j]? = some u → w13.cell? ⟨bw, ow + j, none⟩ = some u) := Lib.hid fun hp => by
            obtain ⟨bw, ow, e1, e2, e3, e4⟩ := HS11.out hp
            refine ⟨bw, ow, e1, e2, fun j u hu => ?_⟩
            rw [← hw13]
            refine keep_cell' ?_ (keep_alloc (Below.refl _ _) _)
            exact (World.cell?_of_block (Below.heap_setCell w11 _ _ bw e3)).trans (e4 j u hu)
          have HNL : Hid (w11.heap.size < w13.heap.size ∧ wt.heap.size < w11.heap.size) := Lib.hid ⟨HNN13.out.lt, HN11.out.lt⟩
          clear x0 x1 p0 p1 r0 rf hb11 hsl11
          have x0 := (HB1.out.below HB13.out HB1.out.lt).at_ (i := 0) (v := .slice A m cc) rfl
          have x1 := (HB1.out.below HB13.out HB1.out.lt).at_ (i := 1) (v := .int .i64 secs) rfl
          have p0 := (HB2.out.below HB13.out HB2.out.lt).at_ (i := 0) (v := .int .i64 pg) rfl
          have p1 := (HB2.out.below HB13.out HB2.out.lt).at_ (i := 1) (v := .int .i64 pa) rfl
          have r0 := (HBR.out.below HB13.out HBR.out.lt).at_ (i := 0) (v := .bool false) rfl
          have rf := (HBR.out.below HB13.out HBR.out.lt).fr 0
          have HTA := Lib.hid (tries_any (w := w13) A m cc secs pg pa size (.slice Ag got.length cg) ⟨_, _, _, rfl⟩)
          rw [← hw13] at x0 x1 p0 p1 r0 rf
          clear hw13
          go_wp2_with fail
          rw [HW13.out]
          refine HTA.out.mono ?_
          rintro e wc ⟨rfl, hbx, hbc2⟩
          clear x0 x1 p0 p1 r0 rf n0 nf
          have hBC : Below w2.heap.size w2 wc := keep_below hbc2 HB13.out
          have hgxC := HG.out.below hBC (Nat.le_refl _)
          have hNC := HNN13.out.below hbc2 HNN13.out.lt
          have hWC := HNW13.out.below hbc2 HNW13.out.lt
          have hRC := HBR.out.below hBC HBR.out.lt
          have hSC := HBS.out.below hBC HBS.out.lt
          have hsx : SlV wc (fun b => b = w11.heap.size) (.slice Ag got.length cg) got.length (strC got) := by
            obtain ⟨Ag', cg', e, hle, hc⟩ := HO.out
            injection e with e1 _ e2
            subst e1 e2
            refine ⟨_, _, rfl, hle, fun hp => ?_⟩
            obtain ⟨b, o, e1, e2, e3⟩ := hc hp
            refine ⟨b, o, e1, Nat.lt_of_lt_of_le e2 hBC.size, ?_, fun j u hu => (World.cell?_of_block (hBC.block b e2)).trans (e3 j u hu)⟩
            have := HNS.out.1
            have := HNL.out.2
            omega
          have hV : ∀ b, b = w11.heap.size → b < wc.heap.size := fun b h => by rw [h]; exact hNC.lt
          have HIW := Lib.hid (keep_below hBC HD2.out)
          have HBC := Lib.hid hBC
          have HWC := Lib.hid (And.intro hWC (And.intro hRC hSC))
          have HSC : Hid (0 < T.length → ∃ bw ow, Aw = some ⟨bw, ow, none⟩ ∧ bw < w11.heap.size ∧ bw < wc.heap.size ∧ ∀ j u, (trC T)[j]? = some u → wc.cell? ⟨bw, ow + j, none⟩ = some u) := Lib.hid fun hp => by
            obtain ⟨bw, ow, e1, e2, e3⟩ := HS13.out hp
            exact ⟨bw, ow, e1, e2, by have := hNC.lt; omega, fun j u hu => keep_cell' (e3 j u hu) hbc2⟩
          clear hBC hWC hRC hSC
          go_wp2_with fail
          refine (wpIn_wide (n := 9)).1 ?_
          refine wpIn_rangeFunc_ownG rfl (by decide) (gf := 29) (lb := _) rfl trivial (enters_of Try.func29 (by kernel_rfl) rfl)
            (tries_seq (9 - 1) (V := fun b => b = w11.heap.size) hbx hgxC hsx hV) KC.trans (kc_putObj) (Below.refl _ _) (fun _ => rfl)
            (fun pre W => wc.grownBy W (some w11.heap.size) ∧ Blk W w11.heap.size 3 #[.int .i64 (pre.length : Nat)])
            (fun c pre W => c = .ret ∧ (¬ pre <+: T ∨ (Blk W (w.heap.size + 1 + 1 + 1) 4 #[.bool true] ∧ Below w.heap.size w W))) ?hIyf ?hIxyf ?h0yf ?a1yf ?assignyf ?bodyyf ?doneyf ?stopyf
          case hIyf => exact fun s A B row hs hg hr => ⟨grown_more hs.1 hg hr (Nat.le_refl _), blk_kept hs.2 hg hr⟩
          case hIxyf => exact fun c s A B row hs hg hr => ⟨hs.1, hs.2.imp id fun h => ⟨blk_kept h.1 hg hr, ownFrom_below (β := List TryX) (Nat.le_refl _) HIW.out.size s A B row h.2 hg hr⟩⟩
          case h0yf => exact ⟨⟨rfl, rfl, rfl, Nat.le_refl _, fun _ _ _ => rfl⟩, hNC⟩
          case assignyf =>
            intro l x W K hK
            simp only [tryE, List.zip_toArray, List.zip_cons_cons, List.zip_nil_left, List.zip_nil_right, List.foldl_toArray, List.foldl_cons, List.foldl_nil, List.size_toArray, List.length_cons, List.length_nil, List.setIfInBounds_toArray, List.set_cons_succ, List.set_cons_zero]
            gi_wp2
            exact hK
          case bodyyf =>
            rintro l pre ⟨dd, t⟩ W ⟨hgr, k0⟩ hlt
            rw [HT.out] at hlt
            obtain ⟨n, hn⟩ : ∃ n, pre.length = n := ⟨_, rfl⟩
            rw [hn] at k0 hlt
            have hn100 : n ≤ 100 := by have := HTN.out; omega
            have hnl := HNL.out
            have hns := HNS.out
            obtain ⟨bw, ow, rfl, hbw1, hbw2, hbw3⟩ := HSC.out (by omega)
            obtain ⟨⟨dq, tq⟩, hx⟩ : ∃ x, T[n]? = some x := ⟨_, List.getElem?_eq_getElem hlt⟩
            have hfar : ∀ i, i < wc.heap.size → i ≠ w11.heap.size → W.heap[i]? = wc.heap[i]? := fun i h1 h2 => hgr.block i h1 (fun e => by injection e with e; exact h2 e)
            have c0 : W.cell? ⟨w11.heap.size, 0, none⟩ = some (.int .i64 n) := k0.at_ rfl
            have f0 := k0.fr 0
            have hW3 : Blk W wt.heap.size 56 #[.slice (some ⟨bw, ow, none⟩) T.length cw] := (hfar _ HWC.out.1.lt (by omega)).trans HWC.out.1
            have hR3 : Blk W (w.heap.size + 1 + 1 + 1) 4 #[.bool false] := (hfar _ HWC.out.2.1.lt (by omega)).trans HWC.out.2.1
            have hP3 : Blk W (w.heap.size + 1 + 1) 5 #[.int .u8 stop] := (hfar _ HWC.out.2.2.lt (by omega)).trans HWC.out.2.2
            have c1 : W.cell? ⟨wt.heap.size, 0, none⟩ = some (.slice (some ⟨bw, ow, none⟩) T.length cw) := hW3.at_ rfl
            have c2 : W.cell? ⟨w.heap.size + 1 + 1 + 1, 0, none⟩ = some (.bool false) := hR3.at_ rfl
            have f2 := hR3.fr 0
            have c3 : W.cell? ⟨w.heap.size + 1 + 1, 0, none⟩ = some (.int .u8 stop) := hP3.at_ rfl
            have q0 : W.cell? ⟨bw, ow + n * 2, none⟩ = some (.int .i64 dq) := (World.cell?_of_block (hfar bw hbw2 (by omega))).trans (hbw3 _ _ (trC_at hx).1)
            have q1 : W.cell? ⟨bw, ow + n * 2 + 1, none⟩ = some (str tq) := by
              rw [Nat.add_assoc]
              exact (World.cell?_of_block (hfar bw hbw2 (by omega))).trans (hbw3 _ _ (trC_at hx).2)
            have hdl : decide (T.length ≤ n) = false := decide_eq_false (by omega)
            have HK := Lib.hid (And.intro k0 (And.intro hR3 hgr))
            have HX := Lib.hid (And.intro hn (And.intro hx hlt))
            have hBW := below_only HBC.out hgr (by omega)
            have HBW := Lib.hid (keep_below hBW HD2.out)
            clear k0 hgr hn hx hfar hW3 hR3 hP3 hbw1 hbw2 hbw3 hBW
            have HBAD : Hid ((dq, tq) ≠ (dd, t) → ¬ (pre ++ [(dd, t)]) <+: T) := Lib.hid fun hne h => by
              obtain ⟨r, hr⟩ := h
              have h2 := HX.out.2.1
              rw [← hr, List.append_assoc, List.getElem?_append_right (by have := HX.out.1; omega), HX.out.1, Nat.sub_self] at h2
              simp at h2
              exact hne (by rw [h2.1, h2.2])
            by_cases hdd : dq = dd
            · subst hdd
              by_cases htt : tq = t
              · subst htt
                cases hst2 : ((n : Int) + 1 == (stop : Int)) with
                | true =>
                  gi_wp2_with fail
                  exact ⟨((KeepsOthers.setCell _ _ _).from _).trans ((KeepsOthers.setCell _ _ _).from _), rfl, .inr ⟨(HK.out.2.1.far (by show _ ≠ w11.heap.size; omega) _).put 0 (.bool true), below_set (below_set HBW.out _ _ _ (by omega)) _ _ _ (by omega)⟩⟩
                | false =>
                  gi_wp2_with fail
                  refine ⟨(KeepsOthers.setCell _ _ _).from _, kc_set _ _ _ rfl, only_set HK.out.2.2 (.inl rfl) _, ?_⟩
                  have := HK.out.1.put 0 (.int .i64 ((n : Int) + 1))
                  rw [List.length_append, HX.out.1]
                  exact this
              · have ht1 : (tq == t) = false := beq_eq_false_iff_ne.2 htt
                have ht2 : (tq != t) = true := bne_iff_ne.2 htt
                have HBD := Lib.hid (HBAD.out fun e => htt (by injection e))
                clear htt
                gi_wp2_with fail
                exact ⟨(KeepsOthers.setCell _ _ _).from _, rfl, .inl HBD.out⟩
            · have hd1 : (dq == dd) = false := beq_eq_false_iff_ne.2 hdd
              have hd2 : (dq != dd) = true := bne_iff_ne.2 hdd
              have HBD := Lib.hid (HBAD.out fun e => hdd (by injection e))
              clear hdd
              gi_wp2_with fail
              exact ⟨(KeepsOthers.setCell _ _ _).from _, rfl, .inl HBD.out⟩
          case doneyf =>
            rintro D xs W hD hS ⟨hgr, k0⟩ hK
            rw [HT.out] at hS
            rw [hS] at k0
            have hnl := HNL.out
            have hns := HNS.out
            have hfar : ∀ i, i < wc.heap.size → i ≠ w11.heap.size → W.heap[i]? = wc.heap[i]? := fun i h1 h2 => hgr.block i h1 (fun e => by injection e with e; exact h2 e)
            have c0 : W.cell? ⟨w11.heap.size, 0, none⟩ = some (.int .i64 T.length) := k0.at_ rfl
            have hW3 : Blk W wt.heap.size 56 #[.slice Aw T.length cw] := (hfar _ HWC.out.1.lt (by omega)).trans HWC.out.1
            have hR3 : Blk W (w.heap.size + 1 + 1 + 1) 4 #[.bool false] := (hfar _ HWC.out.2.1.lt (by omega)).trans HWC.out.2.1
            have c1 : W.cell? ⟨wt.heap.size, 0, none⟩ = some (.slice Aw T.length cw) := hW3.at_ rfl
            have c2 : W.cell? ⟨w.heap.size + 1 + 1 + 1, 0, none⟩ = some (.bool false) := hR3.at_ rfl
            have f2 := hR3.fr 0
            have hBW := keep_below (below_only HBC.out hgr (by omega)) HD2.out
            have hK2 : (W.setCell ⟨w.heap.size + 1 + 1 + 1, 0, none⟩ (.bool true)).heap[D]? = some (.deferred (some [])) := (KeepsOthers.setCell _ _ _).same D _ hK rfl
            have hc := (hR3.put 0 (.bool true)).at_ (i := 0) (v := .bool true) rfl
            have hc2 := cell_kept hc (grownBy_putObj' _ D (.deferred none)) (fun r e => by cases e; exact ⟨_, hK2, rfl⟩)
            have HBW : Hid (Below w.heap.size (W.setCell ⟨w.heap.size + 1 + 1 + 1, 0, none⟩ (.bool true)) ((W.setCell ⟨w.heap.size + 1 + 1 + 1, 0, none⟩ (.bool true)).putObj D (.deferred none)) ∧ Below w.heap.size w (W.setCell ⟨w.heap.size + 1 + 1 + 1, 0, none⟩ (.bool true))) := Lib.hid ⟨belowK_b (w := w) (Nat.le_refl _) _ D _ _ (by have := HIW.out.size; omega) hK2 rfl rfl, below_set hBW _ _ _ (by omega)⟩
            have HK2 := Lib.hid hK2
            have HC2 := Lib.hid hc2
            clear k0 hgr hS hfar hW3 hR3 hBW hK hK2 hc hc2 hD
            go_wp2_with fail
            refine ⟨by simp, .inl ⟨_, _, rfl, run_takeDeferred HK2.out, ?_⟩⟩
            refine ⟨.bool true, ?_, rfl, HBW.out.2.trans HBW.out.1⟩
            simp [results, Try.f7, go_sem, HC2.out]
          case stopyf =>
            rintro D c pre W hD hS ⟨rfl, hh⟩ hK
            rw [HT.out] at hS
            rcases hh with hh | ⟨k2, hb⟩
            · exact absurd hS hh
            refine (wpIn_wide (n := 9)).2 ?_
            have hc2 := cell_kept (k2.at_ (i := 0) (v := .bool true) rfl) (grownBy_putObj' _ D (.deferred none)) (fun r e => by cases e; exact ⟨_, hK, rfl⟩)
            have HKD := Lib.hid hK
            have HDD := Lib.hid hD
            have HBB := Lib.hid hb
            clear hK hb hD k2
            go_wp2_with fail
            refine ⟨by simp, .inl ⟨_, _, rfl, run_takeDeferred HKD.out, ?_⟩⟩
            refine ⟨.bool true, ?_, rfl, HBB.out.trans (belowK_b (w := w) (Nat.le_refl _) _ D _ _ (by have := HDD.out; have := HNL.out; have := HNS.out; have := HIW.out.size; omega) HKD.out rfl rfl)⟩
            simp [results, Try.f7, go_sem, hc2]
        | false =>
          have x0 := (HB1.out.below HB7.out HB1.out.lt).at_ (i := 0) (v := .slice A m cc) rfl
          have x1 := (HB1.out.below HB7.out HB1.out.lt).at_ (i := 1) (v := .int .i64 secs) rfl
          have p0 := (HB2.out.below HB7.out HB2.out.lt).at_ (i := 0) (v := .int .i64 pg) rfl
          have p1 := (HB2.out.below HB7.out HB2.out.lt).at_ (i := 1) (v := .int .i64 pa) rfl
          have r0 := (HBR.out.below HB7.out HBR.out.lt).at_ (i := 0) (v := .bool false) rfl
          have rf := (HBR.out.below HB7.out HBR.out.lt).fr 0
          obtain ⟨C, hCd, hCw, hCB, hCK, hCD⟩ := cls_below w7
          have f0 : ∀ W, C W → W.cell? ⟨w.heap.size, 0, none⟩ = some (.slice A m cc) := fun W h => keep_cell' x0 (hCB W h)
          have f1 : ∀ W, C W → W.cell? ⟨w.heap.size, 1, none⟩ = some (.int .i64 secs) := fun W h => keep_cell' x1 (hCB W h)
          have f2 : ∀ W, C W → W.cell? ⟨w.heap.size + 1, 0, none⟩ = some (.int .i64 pg) := fun W h => keep_cell' p0 (hCB W h)
          have f3 : ∀ W, C W → W.cell? ⟨w.heap.size + 1, 1, none⟩ = some (.int .i64 pa) := fun W h => keep_cell' p1 (hCB W h)
          have HCB := Lib.hid fun W h => keep_below (hCB W h) HB7.out
          clear x0 x1 p0 p1 r0 rf hq hs15
          go_wp2_with fail
          refine wp_region_cls C (by kernel_rfl) (by kernel_rfl) hCd ?_
          repeat (first
            | go_big_quiet_skip
            | (go_big_quiet_want
               go_big_quiet_op
               first
                 | go_big_quiet_on
                 | (apply Exists.intro
                    refine ⟨fun W hW => ?_, ?_⟩
                    · first
                        | exact rfl
                        | exact ⟨rfl, rfl⟩
                        | (have e0 := f0 W hW; have e1 := f1 W hW; have e2 := f2 W hW; have e3 := f3 W hW; simp only [e0, e1, e2, e3, Result.andThen_ok]; done)
                        | (have e0 := f0 W hW; have e1 := f1 W hW; have e2 := f2 W hW; have e3 := f3 W hW; simp only [e0, e1, e2, e3, Result.andThen_ok]; first | exact ⟨trivial, rfl⟩ | exact rfl | exact ⟨rfl, rfl⟩)
                        | (first | (refine (HFA.out W (HCB.out W hW)).mono ?_; rintro e w' ⟨rfl, hb⟩; exact ⟨rfl, hCK _ _ hW hb⟩) | (refine (HFR.out W (HCB.out W hW)).mono ?_; rintro e w' ⟨rfl, hb⟩; exact ⟨rfl, hCK _ _ hW hb⟩))
                    go_big_quiet_on)))
          refine wpQuiet_nil ?_
          intro wt hwt
          have HBT := Lib.hid (HCB.out wt hwt)
          have HBT1 := Lib.hid (hCB wt hwt)
          clear f0 f1 f2 f3 hCd hCB hCK hwt HCB hCw hCD
          obtain ⟨wn, hwn⟩ : ∃ z, wt.alloc (.cells #[.slice none 0 0] 56) = z := ⟨_, rfl⟩
          have HWN := Lib.hid hwn
          have HBN : Hid (Below w2.heap.size w2 wn) := Lib.hid (by rw [← hwn]; exact keep_alloc HBT.out _)
          have HNB : Hid (Blk wn wt.heap.size 56 #[.slice none 0 0]) := Lib.hid (by rw [← hwn]; exact Blk.new _ _ _)
          have x0 := (HB1.out.below HBN.out HB1.out.lt).at_ (i := 0) (v := .slice A m cc) rfl
          have x1 := (HB1.out.below HBN.out HB1.out.lt).at_ (i := 1) (v := .int .i64 secs) rfl
          have p0 := (HB2.out.below HBN.out HB2.out.lt).at_ (i := 0) (v := .int .i64 pg) rfl
          have p1 := (HB2.out.below HBN.out HB2.out.lt).at_ (i := 1) (v := .int .i64 pa) rfl
          have r0 := (HBR.out.below HBN.out HBR.out.lt).at_ (i := 0) (v := .bool false) rfl
          have rf := (HBR.out.below HBN.out HBR.out.lt).fr 0
          rw [← hwn] at x0 x1 p0 p1 r0 rf
          have HNS : Hid (w2.heap.size ≤ wt.heap.size ∧ w.heap.size + 1 + 1 + 1 < w2.heap.size) := Lib.hid ⟨HBT.out.size, HBR.out.lt⟩
          clear hwn
          go_wp2_with fail
          rw [HWN.out]
          refine (HFR.out wn HBN.out).mono ?_
          rintro e w10 ⟨rfl, hb10⟩
          have HB10 := Lib.hid (keep_below hb10 HBN.out)
          have HN10 := Lib.hid (HNB.out.below hb10 HNB.out.lt)
          clear x0 x1 p0 p1 r0 rf hb10
          obtain ⟨T, hT⟩ : ∃ T, triesL gs secs pg pa size got = T := ⟨_, rfl⟩
          have hT0 : T = [] := by rw [← hT]; unfold triesL; rw [HFT.out]; rfl
          obtain ⟨Aw, cw, hAw, hcw⟩ : ∃ (Aw : Option Addr) (cw : Nat), Aw = none ∧ cw = 0 := ⟨_, _, rfl, rfl⟩
          have HT := Lib.hid hT
          have HTN : Hid (T.length ≤ 100) := Lib.hid (by rw [hT0]; exact Nat.zero_le _)
          obtain ⟨w13, hw13⟩ : ∃ z, w10.alloc (.cells #[.int .i64 0] 3) = z := ⟨_, rfl⟩
          have HW13 := Lib.hid hw13
          have HB13 : Hid (Below w2.heap.size w2 w13) := Lib.hid (by rw [← hw13]; exact keep_alloc HB10.out _)
          have HNN13 : Hid (Blk w13 w10.heap.size 3 #[.int .i64 0]) := Lib.hid (by rw [← hw13]; exact Blk.new _ _ _)
          have HNW13 : Hid (Blk w13 wt.heap.size 56 #[.slice Aw T.length cw]) := Lib.hid (by rw [hAw, hcw, hT0, ← hw13]; exact HN10.out.alloc _)
          have HS13 : Hid (0 < T.length → ∃ bw ow, Aw = some ⟨bw, ow, none⟩ ∧ bw < w10.heap.size ∧ ∀ j u, (trC T)[j]? = some u → w13.cell? ⟨bw, ow + j, none⟩ = some u) := Lib.hid fun hp => by rw [hT0] at hp; exact absurd hp (by simp)
          have HNL : Hid (w10.heap.size < w13.heap.size ∧ wt.heap.size < w10.heap.size) := Lib.hid ⟨HNN13.out.lt, HN10.out.lt⟩
          clear hT hT0 hAw hcw
          have x0 := (HB1.out.below HB13.out HB1.out.lt).at_ (i := 0) (v := .slice A m cc) rfl
          have x1 := (HB1.out.below HB13.out HB1.out.lt).at_ (i := 1) (v := .int .i64 secs) rfl
          have p0 := (HB2.out.below HB13.out HB2.out.lt).at_ (i := 0) (v := .int .i64 pg) rfl
          have p1 := (HB2.out.below HB13.out HB2.out.lt).at_ (i := 1) (v := .int .i64 pa) rfl
          have r0 := (HBR.out.below HB13.out HBR.out.lt).at_ (i := 0) (v := .bool false) rfl
          have rf := (HBR.out.below HB13.out HBR.out.lt).fr 0
          have HTA := Lib.hid (tries_any (w := w13) A m cc secs pg pa size (.slice Ag got.length cg) ⟨_, _, _, rfl⟩)
          rw [← hw13] at x0 x1 p0 p1 r0 rf
          clear hw13
          go_wp2_with fail
          rw [HW13.out]
          refine HTA.out.mono ?_
          rintro e wc ⟨rfl, hbx, hbc2⟩
          clear x0 x1 p0 p1 r0 rf
          have hBC : Below w2.heap.size w2 wc := keep_below hbc2 HB13.out
          have hgxC := HG.out.below hBC (Nat.le_refl _)
          have hNC := HNN13.out.below hbc2 HNN13.out.lt
          have hWC := HNW13.out.below hbc2 HNW13.out.lt
          have hRC := HBR.out.below hBC HBR.out.lt
          have hSC := HBS.out.below hBC HBS.out.lt
          have hsx : SlV wc (fun b => b = w10.heap.size) (.slice Ag got.length cg) got.length (strC got) := by
            obtain ⟨Ag', cg', e, hle, hc⟩ := HO.out
            injection e with e1 _ e2
            subst e1 e2
            refine ⟨_, _, rfl, hle, fun hp => ?_⟩
            obtain ⟨b, o, e1, e2, e3⟩ := hc hp
            refine ⟨b, o, e1, Nat.lt_of_lt_of_le e2 hBC.size, ?_, fun j u hu => (World.cell?_of_block (hBC.block b e2)).trans (e3 j u hu)⟩
            have := HNS.out.1
            have := HNL.out.2
            omega
          have hV : ∀ b, b = w10.heap.size → b < wc.heap.size := fun b h => by rw [h]; exact hNC.lt
          have HIW := Lib.hid (keep_below hBC HD2.out)
          have HBC := Lib.hid hBC
          have HWC := Lib.hid (And.intro hWC (And.intro hRC hSC))
          have HSC : Hid (0 < T.length → ∃ bw ow, Aw = some ⟨bw, ow, none⟩ ∧ bw < w10.heap.size ∧ bw < wc.heap.size ∧ ∀ j u, (trC T)[j]? = some u → wc.cell? ⟨bw, ow + j, none⟩ = some u) := Lib.hid fun hp => by
            obtain ⟨bw, ow, e1, e2, e3⟩ := HS13.out hp
            exact ⟨bw, ow, e1, e2, by have := hNC.lt; omega, fun j u hu => keep_cell' (e3 j u hu) hbc2⟩
          clear hBC hWC hRC hSC
          go_wp2_with fail
          refine (wpIn_wide (n := 9)).1 ?_
          refine wpIn_rangeFunc_ownG rfl (by decide) (gf := 29) (lb := _) rfl trivial (enters_of Try.func29 (by kernel_rfl) rfl)
            (tries_seq (9 - 1) (V := fun b => b = w10.heap.size) hbx hgxC hsx hV) KC.trans (kc_putObj) (Below.refl _ _) (fun _ => rfl)
            (fun pre W => wc.grownBy W (some w10.heap.size) ∧ Blk W w10.heap.size 3 #[.int .i64 (pre.length : Nat)])
            (fun c pre W => c = .ret ∧ (¬ pre <+: T ∨ (Blk W (w.heap.size + 1 + 1 + 1) 4 #[.bool true] ∧ Below w.heap.size w W))) ?hIng ?hIxng ?h0ng ?a1ng ?assignng ?bodyng ?doneng ?stopng
          case hIng => exact fun s A B row hs hg hr => ⟨grown_more hs.1 hg hr (Nat.le_refl _), blk_kept hs.2 hg hr⟩
          case hIxng => exact fun c s A B row hs hg hr => ⟨hs.1, hs.2.imp id fun h => ⟨blk_kept h.1 hg hr, ownFrom_below (β := List TryX) (Nat.le_refl _) HIW.out.size s A B row h.2 hg hr⟩⟩
          case h0ng => exact ⟨⟨rfl, rfl, rfl, Nat.le_refl _, fun _ _ _ => rfl⟩, hNC⟩
          case assignng =>
            intro l x W K hK
            simp only [tryE, List.zip_toArray, List.zip_cons_cons, List.zip_nil_left, List.zip_nil_right, List.foldl_toArray, List.foldl_cons, List.foldl_nil, List.size_toArray, List.length_cons, List.length_nil, List.setIfInBounds_toArray, List.set_cons_succ, List.set_cons_zero]
            gi_wp2
            exact hK
          case bodyng =>
            rintro l pre ⟨dd, t⟩ W ⟨hgr, k0⟩ hlt
            rw [HT.out] at hlt
            obtain ⟨n, hn⟩ : ∃ n, pre.length = n := ⟨_, rfl⟩
            rw [hn] at k0 hlt
            have hn100 : n ≤ 100 := by have := HTN.out; omega
            have hnl := HNL.out
            have hns := HNS.out
            obtain ⟨bw, ow, rfl, hbw1, hbw2, hbw3⟩ := HSC.out (by omega)
            obtain ⟨⟨dq, tq⟩, hx⟩ : ∃ x, T[n]? = some x := ⟨_, List.getElem?_eq_getElem hlt⟩
            have hfar : ∀ i, i < wc.heap.size → i ≠ w10.heap.size → W.heap[i]? = wc.heap[i]? := fun i h1 h2 => hgr.block i h1 (fun e => by injection e with e; exact h2 e)
            have c0 : W.cell? ⟨w10.heap.size, 0, none⟩ = some (.int .i64 n) := k0.at_ rfl
            have f0 := k0.fr 0
            have hW3 : Blk W wt.heap.size 56 #[.slice (some ⟨bw, ow, none⟩) T.length cw] := (hfar _ HWC.out.1.lt (by omega)).trans HWC.out.1
            have hR3 : Blk W (w.heap.size + 1 + 1 + 1) 4 #[.bool false] := (hfar _ HWC.out.2.1.lt (by omega)).trans HWC.out.2.1
            have hP3 : Blk W (w.heap.size + 1 + 1) 5 #[.int .u8 stop] := (hfar _ HWC.out.2.2.lt (by omega)).trans HWC.out.2.2
            have c1 : W.cell? ⟨wt.heap.size, 0, none⟩ = some (.slice (some ⟨bw, ow, none⟩) T.length cw) := hW3.at_ rfl
            have c2 : W.cell? ⟨w.heap.size + 1 + 1 + 1, 0, none⟩ = some (.bool false) := hR3.at_ rfl
            have f2 := hR3.fr 0
            have c3 : W.cell? ⟨w.heap.size + 1 + 1, 0, none⟩ = some (.int .u8 stop) := hP3.at_ rfl
            have q0 : W.cell? ⟨bw, ow + n * 2, none⟩ = some (.int .i64 dq) := (World.cell?_of_block (hfar bw hbw2 (by omega))).trans (hbw3 _ _ (trC_at hx).1)
            have q1 : W.cell? ⟨bw, ow + n * 2 + 1, none⟩ = some (str tq) := by
              rw [Nat.add_assoc]
              exact (World.cell?_of_block (hfar bw hbw2 (by omega))).trans (hbw3 _ _ (trC_at hx).2)
            have hdl : decide (T.length ≤ n) = false := decide_eq_false (by omega)
            have HK := Lib.hid (And.intro k0 (And.intro hR3 hgr))
            have HX := Lib.hid (And.intro hn (And.intro hx hlt))
            have hBW := below_only HBC.out hgr (by omega)
            have HBW := Lib.hid (keep_below hBW HD2.out)
            clear k0 hgr hn hx hfar hW3 hR3 hP3 hbw1 hbw2 hbw3 hBW
            have HBAD : Hid ((dq, tq) ≠ (dd, t) → ¬ (pre ++ [(dd, t)]) <+: T) := Lib.hid fun hne h => by
              obtain ⟨r, hr⟩ := h
              have h2 := HX.out.2.1
              rw [← hr, List.append_assoc, List.getElem?_append_right (by have := HX.out.1; omega), HX.out.1, Nat.sub_self] at h2
              simp at h2
              exact hne (by rw [h2.1, h2.2])
            by_cases hdd : dq = dd
            · subst hdd
              by_cases htt : tq = t
              · subst htt
                cases hst2 : ((n : Int) + 1 == (stop : Int)) with
                | true =>
                  gi_wp2_with fail
                  exact ⟨((KeepsOthers.setCell _ _ _).from _).trans ((KeepsOthers.setCell _ _ _).from _), rfl, .inr ⟨(HK.out.2.1.far (by show _ ≠ w10.heap.size; omega) _).put 0 (.bool true), below_set (below_set HBW.out _ _ _ (by omega)) _ _ _ (by omega)⟩⟩
                | false =>
                  gi_wp2_with fail
                  refine ⟨(KeepsOthers.setCell _ _ _).from _, kc_set _ _ _ rfl, only_set HK.out.2.2 (.inl rfl) _, ?_⟩
                  have := HK.out.1.put 0 (.int .i64 ((n : Int) + 1))
                  rw [List.length_append, HX.out.1]
                  exact this
              · have ht1 : (tq == t) = false := beq_eq_false_iff_ne.2 htt
                have ht2 : (tq != t) = true := bne_iff_ne.2 htt
                have HBD := Lib.hid (HBAD.out fun e => htt (by injection e))
                clear htt
                gi_wp2_with fail
                exact ⟨(KeepsOthers.setCell _ _ _).from _, rfl, .inl HBD.out⟩
            · have hd1 : (dq == dd) = false := beq_eq_false_iff_ne.2 hdd
              have hd2 : (dq != dd) = true := bne_iff_ne.2 hdd
              have HBD := Lib.hid (HBAD.out fun e => hdd (by injection e))
              clear hdd
              gi_wp2_with fail
              exact ⟨(KeepsOthers.setCell _ _ _).from _, rfl, .inl HBD.out⟩
          case doneng =>
            rintro D xs W hD hS ⟨hgr, k0⟩ hK
            rw [HT.out] at hS
            rw [hS] at k0
            have hnl := HNL.out
            have hns := HNS.out
            have hfar : ∀ i, i < wc.heap.size → i ≠ w10.heap.size → W.heap[i]? = wc.heap[i]? := fun i h1 h2 => hgr.block i h1 (fun e => by injection e with e; exact h2 e)
            have c0 : W.cell? ⟨w10.heap.size, 0, none⟩ = some (.int .i64 T.length) := k0.at_ rfl
            have hW3 : Blk W wt.heap.size 56 #[.slice Aw T.length cw] := (hfar _ HWC.out.1.lt (by omega)).trans HWC.out.1
            have hR3 : Blk W (w.heap.size + 1 + 1 + 1) 4 #[.bool false] := (hfar _ HWC.out.2.1.lt (by omega)).trans HWC.out.2.1
            have c1 : W.cell? ⟨wt.heap.size, 0, none⟩ = some (.slice Aw T.length cw) := hW3.at_ rfl
            have c2 : W.cell? ⟨w.heap.size + 1 + 1 + 1, 0, none⟩ = some (.bool false) := hR3.at_ rfl
            have f2 := hR3.fr 0
            have hBW := keep_below (below_only HBC.out hgr (by omega)) HD2.out
            have hK2 : (W.setCell ⟨w.heap.size + 1 + 1 + 1, 0, none⟩ (.bool true)).heap[D]? = some (.deferred (some [])) := (KeepsOthers.setCell _ _ _).same D _ hK rfl
            have hc := (hR3.put 0 (.bool true)).at_ (i := 0) (v := .bool true) rfl
            have hc2 := cell_kept hc (grownBy_putObj' _ D (.deferred none)) (fun r e => by cases e; exact ⟨_, hK2, rfl⟩)
            have HBW : Hid (Below w.heap.size (W.setCell ⟨w.heap.size + 1 + 1 + 1, 0, none⟩ (.bool true)) ((W.setCell ⟨w.heap.size + 1 + 1 + 1, 0, none⟩ (.bool true)).putObj D (.deferred none)) ∧ Below w.heap.size w (W.setCell ⟨w.heap.size + 1 + 1 + 1, 0, none⟩ (.bool true))) := Lib.hid ⟨belowK_b (w := w) (Nat.le_refl _) _ D _ _ (by have := HIW.out.size; omega) hK2 rfl rfl, below_set hBW _ _ _ (by omega)⟩
            have HK2 := Lib.hid hK2
            have HC2 := Lib.hid hc2
            clear k0 hgr hS hfar hW3 hR3 hBW hK hK2 hc hc2 hD
            go_wp2_with fail
            refine ⟨by simp, .inl ⟨_, _, rfl, run_takeDeferred HK2.out, ?_⟩⟩
            refine ⟨.bool true, ?_, rfl, HBW.out.2.trans HBW.out.1⟩
            simp [results, Try.f7, go_sem, HC2.out]
          case stopng =>
            rintro D c pre W hD hS ⟨rfl, hh⟩ hK
            rw [HT.out] at hS
            rcases hh with hh | ⟨k2, hb⟩
            · exact absurd hS hh
            refine (wpIn_wide (n := 9)).2 ?_
            have hc2 := cell_kept (k2.at_ (i := 0) (v := .bool true) rfl) (grownBy_putObj' _ D (.deferred none)) (fun r e => by cases e; exact ⟨_, hK, rfl⟩)
            have HKD := Lib.hid hK
            have HDD := Lib.hid hD
            have HBB := Lib.hid hb
            clear hK hb hD k2
            go_wp2_with fail
            refine ⟨by simp, .inl ⟨_, _, rfl, run_takeDeferred HKD.out, ?_⟩⟩
            refine ⟨.bool true, ?_, rfl, HBB.out.trans (belowK_b (w := w) (Nat.le_refl _) _ D _ _ (by have := HDD.out; have := HNL.out; have := HNS.out; have := HIW.out.size; omega) HKD.out rfl rfl)⟩
            simp [results, Try.f7, go_sem, hc2]
end Go.Proofs.Ytefhmemmfajbfaa
