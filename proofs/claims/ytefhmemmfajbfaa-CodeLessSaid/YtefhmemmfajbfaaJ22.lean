/-
  The statement CodeLess, walked.
-/
import Derived.Test.YtefhmemmfajbfaaJ21
namespace Go.Proofs.Ytefhmemmfajbfaa
set_option linter.unusedVariables false
set_option linter.unusedSimpArgs false
open Go.RowKit
attribute [local go_sem] Oper.semAt_some

/-- The columns, some of them missing. -/
def missT (T : List (List UInt8)) (ms : List UInt8) (k : Nat) : List (List UInt8) := (ms.take k).foldl (fun t b => t.set (b.toNat % T.length) []) T
theorem missT_step {T : List (List UInt8)} {ms : List UInt8} {k : Nat} {b : UInt8} (h : ms[k]? = some b) : missT T ms (k + 1) = (missT T ms k).set (b.toNat % T.length) [] := by
  unfold missT
  rw [List.take_add_one, h]
  simp [List.foldl_append]
theorem missT_len (T : List (List UInt8)) (ms : List UInt8) (k : Nat) : (missT T ms k).length = T.length := by
  unfold missT
  generalize ms.take k = l
  suffices ∀ (l : List UInt8) (t : List (List UInt8)), (l.foldl (fun t b => t.set (b.toNat % T.length) []) t).length = t.length from this l T
  intro l
  induction l with
  | nil => intro t; rfl
  | cons b l ih => intro t; rw [List.foldl_cons, ih, List.length_set]
theorem missT_get (T : List (List UInt8)) (ms : List UInt8) (k i : Nat) : (missT T ms k).getD i [] = T.getD i [] ∨ (missT T ms k).getD i [] = [] := by
  unfold missT
  generalize ms.take k = l
  suffices ∀ (l : List UInt8) (t : List (List UInt8)), (t.getD i [] = T.getD i [] ∨ t.getD i [] = []) → ((l.foldl (fun t b => t.set (b.toNat % T.length) []) t).getD i [] = T.getD i [] ∨ (l.foldl (fun t b => t.set (b.toNat % T.length) []) t).getD i [] = []) from this l T (.inl rfl)
  intro l
  induction l with
  | nil => intro t h; exact h
  | cons b l ih =>
    intro t h
    rw [List.foldl_cons]
    apply ih
    rw [List.getD_eq_getElem?_getD, List.getElem?_set]
    split
    · right
      split <;> rfl
    · rw [← List.getD_eq_getElem?_getD]
      exact h
section
variable {gs : List (Int × Int)} {secs pg pa : Int} {s : List UInt8}
theorem tries_len {size : Int} {got : List (List UInt8)} : (triesL gs secs pg pa size got).length ≤ 8 ∨ (triesL gs secs pg pa size got).length ≤ (colsOf gs secs pg pa size).length + 1 ∨ (triesL gs secs pg pa size got).length ≤ (grAt gs pg).2.toNat := by
  unfold triesL
  split
  · split
    · exact .inr (.inr (mirT_len _ _ _ _))
    · refine .inr (.inl ?_)
      unfold parT
      refine Nat.le_trans (List.length_filterMap_le _ _) ?_
      unfold parDevs
      rw [List.length_cons]
      have := devsL_len ((colsOf gs secs pg pa size).filter fun c => !c.2.2.1)
      have := List.length_filter_le (fun c : Col => !c.2.2.1) (colsOf gs secs pg pa size)
      omega
  · exact .inl (by simp)
theorem less_fits (h : cMay gs secs pg pa (secN s) = true) {got : List (List UInt8)} (hl : got.length = (colsOf gs secs pg pa (secN s)).length) (hg : ∀ i, got.getD i [] = (encL gs secs pg pa s).getD i [] ∨ got.getD i [] = []) : fitsB gs secs pg pa (secN s) got = true := by
  refine fits_64 h hl fun t ht => ?_
  obtain ⟨i, hi⟩ := List.mem_iff_getElem?.1 ht
  have hil := (List.getElem?_eq_some_iff.1 hi).1
  have e : got.getD i [] = t := by rw [List.getD_eq_getElem?_getD, hi]; rfl
  rcases hg i with h1 | h1
  · right
    rw [← e, h1]
    exact (enc_encL h).all64 i (by omega)
  · left
    rw [← e, h1]
    rfl
/-- Each try is the text; how many there may be. -/
theorem less_tries (h : cMay gs secs pg pa (secN s) = true) (hs : secOk s = true) {got : List (List UInt8)} (hl : got.length = (colsOf gs secs pg pa (secN s)).length) (hg : ∀ i, got.getD i [] = (encL gs secs pg pa s).getD i [] ∨ got.getD i [] = []) :
    (∀ x ∈ triesL gs secs pg pa (secN s) got, x.2 = s) ∧
    ((grAt gs pg).1 = 0 → (0 < (triesL gs secs pg pa (secN s) got).length ↔ 0 < wholeTo (colsOf gs secs pg pa (secN s)) got true (colsOf gs secs pg pa (secN s)).length)) ∧
    ((grAt gs pg).1 ≠ 0 → 2 ≤ worstTo (colsOf gs secs pg pa (secN s)) got false (colsOf gs secs pg pa (secN s)).length → triesL gs secs pg pa (secN s) got = []) := by
  unfold triesL
  rw [less_fits h hl hg, if_pos rfl]
  by_cases hk : (grAt gs pg).1 = 0
  · have hb : ((grAt gs pg).1 == 0) = true := beq_iff_eq.2 hk
    have hM := mirL_of h hk
    rw [Int.toNat_natCast] at hM
    rw [hb, if_pos rfl, Int.toNat_natCast]
    exact ⟨mir_all_back h hk hs hl (fun i _ => hg i), fun _ => mir_whole hM hl, fun hn => absurd hk hn⟩
  · have hb : ((grAt gs pg).1 == 0) = false := beq_eq_false_iff_ne.2 hk
    rw [hb, if_neg Bool.false_ne_true]
    exact ⟨par_all_back h hs hk (fun i _ => hg i), fun hz => absurd hz hk, fun _ hw => par_less (parL_of h hk) hw⟩
end
set_option maxRecDepth 100000 in
set_option maxHeartbeats 4000000 in
theorem codeLess_any (A : Option Addr) (m cc : Nat) (gs : List (Int × Int)) (secs pg pa : Int) (s : List UInt8) (hsl : s.length ≤ 9223372036854775807) {mv : Value} {ms : List UInt8} (hml : ms.length ≤ 9223372036854775807) {w : World} (hg : GeoAt w A m gs) (hms : SlAt w mv ms.length (bytC ms)) :
    Calls Try.prog 4 #[.agg #[.slice A m cc, .int .i64 secs], .agg #[.int .i64 pg, .int .i64 pa], str s, mv] w fun e w' => e = .returned (.bool true) ∧ Below w.heap.size w w' := by
  obtain ⟨Am, cm, rfl⟩ := hms.form
  have HO := Lib.hid hms
  clear hms
  obtain ⟨w2, hw2⟩ : ∃ z, (((w.alloc (.cells #[.slice A m cc, .int .i64 secs] 24)).alloc (.cells #[.int .i64 pg, .int .i64 pa] 26)).alloc (.cells #[str s] 9)).alloc (.cells #[.bool false] 4) = z := ⟨_, rfl⟩
  have B1 : Blk w2 w.heap.size 24 #[.slice A m cc, .int .i64 secs] := by rw [← hw2]; exact (((Blk.new _ _ _).alloc _).alloc _).alloc _
  have B2 : Blk w2 (w.heap.size + 1) 26 #[.int .i64 pg, .int .i64 pa] := by rw [← hw2]; exact ((Blk.new2 _ _ _ _).alloc _).alloc _
  have B3 : Blk w2 (w.heap.size + 1 + 1) 9 #[str s] := by rw [← hw2]; exact (blk_new3 _ _ _ _ _).alloc _
  have B4 : Blk w2 (w.heap.size + 1 + 1 + 1) 4 #[.bool false] := by rw [← hw2]; exact blk_new4 _ _ _ _ _ _
  have D2 : Below w.heap.size w w2 := by rw [← hw2]; exact keep_alloc (keep_alloc (keep_alloc (keep_alloc (Below.refl _ _) _) _) _) _
  have HB1 := Lib.hid B1
  have HB2 := Lib.hid B2
  have HBS := Lib.hid B3
  have HBR := Lib.hid B4
  have HD2 := Lib.hid D2
  have HW2 := Lib.hid hw2
  have HG := Lib.hid hg
  clear hg B1 B2 B3 B4 D2 hw2
  refine (callsIn_wide (n := 9)).1 ?_
  refine callsIn_of_wp_marks Try.func4 rfl trivial (wpIn_wide.2 ?_) rfl
  simp only [Try.ntmps4, List.size_toArray, List.length_cons, List.length_nil, Nat.reduceAdd, Nat.reduceSub, Array.replicate_succ, Array.replicate_zero, List.push_toArray, List.append_toArray, List.nil_append, List.cons_append]
  go_wp2_with fail
  rw [HW2.out]
  refine (awake07_any w2).mono ?_
  rintro e w3 ⟨rfl, hb3⟩
  have HB3 := Lib.hid hb3
  have x0 := (HB1.out.below hb3 HB1.out.lt).at_ (i := 0) (v := .slice A m cc) rfl
  have x1 := (HB1.out.below hb3 HB1.out.lt).at_ (i := 1) (v := .int .i64 secs) rfl
  have p0 := (HB2.out.below hb3 HB2.out.lt).at_ (i := 0) (v := .int .i64 pg) rfl
  have p1 := (HB2.out.below hb3 HB2.out.lt).at_ (i := 1) (v := .int .i64 pa) rfl
  have s0 := (HBS.out.below hb3 HBS.out.lt).at_ (i := 0) (v := str s) rfl
  have r0 := (HBR.out.below hb3 HBR.out.lt).at_ (i := 0) (v := .bool false) rfl
  have rf := (HBR.out.below hb3 HBR.out.lt).fr 0
  clear hb3
  have HFW := Lib.hid (few_any A m cc gs secs ((HG.out.below HD2.out (Nat.le_refl _)).below HB3.out (Nat.le_refl _)) (slAt_nil w3) (Nat.zero_le _))
  obtain ⟨fb, hfb⟩ : ∃ fb, fewB gs [] = fb := ⟨_, rfl⟩
  rw [hfb] at HFW
  clear hfb
  cases fb with
  | false =>
    go_wp2_with fail
    refine HFW.out.mono ?_
    rintro e w4 ⟨rfl, hb4⟩
    have HB4 := Lib.hid (keep_below hb4 HB3.out)
    clear hb4
    go_wp2_with fail
    refine (awake07_any w4).mono ?_
    rintro e w5 ⟨rfl, hb5⟩
    have HB5 := Lib.hid (keep_below hb5 HB4.out)
    clear hb5 x0 x1 p0 p1 s0 r0 rf
    have x0 := (HB1.out.below HB5.out HB1.out.lt).at_ (i := 0) (v := .slice A m cc) rfl
    have x1 := (HB1.out.below HB5.out HB1.out.lt).at_ (i := 1) (v := .int .i64 secs) rfl
    have p0 := (HB2.out.below HB5.out HB2.out.lt).at_ (i := 0) (v := .int .i64 pg) rfl
    have p1 := (HB2.out.below HB5.out HB2.out.lt).at_ (i := 1) (v := .int .i64 pa) rfl
    have s0 := (HBS.out.below HB5.out HBS.out.lt).at_ (i := 0) (v := str s) rfl
    have r0 := (HBR.out.below HB5.out HBR.out.lt).at_ (i := 0) (v := .bool false) rfl
    have rf := (HBR.out.below HB5.out HBR.out.lt).fr 0
    go_wp2_with fail
    have hres := ((HBR.out.below HB5.out HBR.out.lt).put 0 (.bool true)).at_ (i := 0) (v := .bool true) rfl
    exact ⟨.bool true, by simp [results, Try.f4, go_sem, hres], rfl, below_set (keep_below HB5.out HD2.out) _ _ _ (by omega)⟩
  | true =>
    by_cases hl : 1000 < s.length
    · have hd : decide ((1000 : Int) < s.length) = true := decide_eq_true (by omega)
      clear hl
      go_wp2_with fail
      refine HFW.out.mono ?_
      rintro e w4 ⟨rfl, hb4⟩
      have HB4 := Lib.hid (keep_below hb4 HB3.out)
      clear hb4 x0 x1 p0 p1 s0 r0 rf
      have x0 := (HB1.out.below HB4.out HB1.out.lt).at_ (i := 0) (v := .slice A m cc) rfl
      have x1 := (HB1.out.below HB4.out HB1.out.lt).at_ (i := 1) (v := .int .i64 secs) rfl
      have p0 := (HB2.out.below HB4.out HB2.out.lt).at_ (i := 0) (v := .int .i64 pg) rfl
      have p1 := (HB2.out.below HB4.out HB2.out.lt).at_ (i := 1) (v := .int .i64 pa) rfl
      have s0 := (HBS.out.below HB4.out HBS.out.lt).at_ (i := 0) (v := str s) rfl
      have r0 := (HBR.out.below HB4.out HBR.out.lt).at_ (i := 0) (v := .bool false) rfl
      have rf := (HBR.out.below HB4.out HBR.out.lt).fr 0
      go_wp2_with fail
      refine (awake07_any w4).mono ?_
      rintro e w5 ⟨rfl, hb5⟩
      have HB5 := Lib.hid (keep_below hb5 HB4.out)
      clear hb5 x0 x1 p0 p1 s0 r0 rf
      have x0 := (HB1.out.below HB5.out HB1.out.lt).at_ (i := 0) (v := .slice A m cc) rfl
      have x1 := (HB1.out.below HB5.out HB1.out.lt).at_ (i := 1) (v := .int .i64 secs) rfl
      have p0 := (HB2.out.below HB5.out HB2.out.lt).at_ (i := 0) (v := .int .i64 pg) rfl
      have p1 := (HB2.out.below HB5.out HB2.out.lt).at_ (i := 1) (v := .int .i64 pa) rfl
      have s0 := (HBS.out.below HB5.out HBS.out.lt).at_ (i := 0) (v := str s) rfl
      have r0 := (HBR.out.below HB5.out HBR.out.lt).at_ (i := 0) (v := .bool false) rfl
      have rf := (HBR.out.below HB5.out HBR.out.lt).fr 0
      go_wp2_with fail
      have hres := ((HBR.out.below HB5.out HBR.out.lt).put 0 (.bool true)).at_ (i := 0) (v := .bool true) rfl
      exact ⟨.bool true, by simp [results, Try.f4, go_sem, hres], rfl, below_set (keep_below HB5.out HD2.out) _ _ _ (by omega)⟩
    have hd : decide ((1000 : Int) < s.length) = false := decide_eq_false (by omega)
    have HL := Lib.hid (Nat.le_of_not_lt hl)
    clear hl
    by_cases hm5 : 50 < ms.length
    · have hd5 : decide ((50 : Int) < ms.length) = true := decide_eq_true (by omega)
      clear hm5
      go_wp2_with fail
      refine HFW.out.mono ?_
      rintro e w4 ⟨rfl, hb4⟩
      have HB4 := Lib.hid (keep_below hb4 HB3.out)
      clear hb4 x0 x1 p0 p1 s0 r0 rf
      have x0 := (HB1.out.below HB4.out HB1.out.lt).at_ (i := 0) (v := .slice A m cc) rfl
      have x1 := (HB1.out.below HB4.out HB1.out.lt).at_ (i := 1) (v := .int .i64 secs) rfl
      have p0 := (HB2.out.below HB4.out HB2.out.lt).at_ (i := 0) (v := .int .i64 pg) rfl
      have p1 := (HB2.out.below HB4.out HB2.out.lt).at_ (i := 1) (v := .int .i64 pa) rfl
      have s0 := (HBS.out.below HB4.out HBS.out.lt).at_ (i := 0) (v := str s) rfl
      have r0 := (HBR.out.below HB4.out HBR.out.lt).at_ (i := 0) (v := .bool false) rfl
      have rf := (HBR.out.below HB4.out HBR.out.lt).fr 0
      go_wp2_with fail
      refine (awake07_any w4).mono ?_
      rintro e w5 ⟨rfl, hb5⟩
      have HB5 := Lib.hid (keep_below hb5 HB4.out)
      clear hb5 x0 x1 p0 p1 s0 r0 rf
      have x0 := (HB1.out.below HB5.out HB1.out.lt).at_ (i := 0) (v := .slice A m cc) rfl
      have x1 := (HB1.out.below HB5.out HB1.out.lt).at_ (i := 1) (v := .int .i64 secs) rfl
      have p0 := (HB2.out.below HB5.out HB2.out.lt).at_ (i := 0) (v := .int .i64 pg) rfl
      have p1 := (HB2.out.below HB5.out HB2.out.lt).at_ (i := 1) (v := .int .i64 pa) rfl
      have s0 := (HBS.out.below HB5.out HBS.out.lt).at_ (i := 0) (v := str s) rfl
      have r0 := (HBR.out.below HB5.out HBR.out.lt).at_ (i := 0) (v := .bool false) rfl
      have rf := (HBR.out.below HB5.out HBR.out.lt).fr 0
      go_wp2_with fail
      have hres := ((HBR.out.below HB5.out HBR.out.lt).put 0 (.bool true)).at_ (i := 0) (v := .bool true) rfl
      exact ⟨.bool true, by simp [results, Try.f4, go_sem, hres], rfl, below_set (keep_below HB5.out HD2.out) _ _ _ (by omega)⟩
    have hd5 : decide ((50 : Int) < ms.length) = false := decide_eq_false (by omega)
    have HM5 := Lib.hid (Nat.le_of_not_lt hm5)
    clear hm5
    go_wp2_with fail
    refine HFW.out.mono ?_
    rintro e w4 ⟨rfl, hb4⟩
    have HB4 := Lib.hid (keep_below hb4 HB3.out)
    clear hb4 x0 x1 p0 p1 s0 r0 rf
    have x0 := (HB1.out.below HB4.out HB1.out.lt).at_ (i := 0) (v := .slice A m cc) rfl
    have x1 := (HB1.out.below HB4.out HB1.out.lt).at_ (i := 1) (v := .int .i64 secs) rfl
    have p0 := (HB2.out.below HB4.out HB2.out.lt).at_ (i := 0) (v := .int .i64 pg) rfl
    have p1 := (HB2.out.below HB4.out HB2.out.lt).at_ (i := 1) (v := .int .i64 pa) rfl
    have s0 := (HBS.out.below HB4.out HBS.out.lt).at_ (i := 0) (v := str s) rfl
    have r0 := (HBR.out.below HB4.out HBR.out.lt).at_ (i := 0) (v := .bool false) rfl
    have rf := (HBR.out.below HB4.out HBR.out.lt).fr 0
    have HGX := Lib.hid ((HG.out.below HD2.out (Nat.le_refl _)).below HB4.out (Nat.le_refl _))
    have HEN := Lib.hid (encode_own A m cc gs secs pg pa s HGX.out (by have := HL.out; omega))
    obtain ⟨E, hE⟩ : ∃ E, encE gs secs pg pa s = E := ⟨_, rfl⟩
    rw [hE] at HEN
    have HE := Lib.hid hE
    clear hE
    go_wp2_with fail
    refine HEN.out.mono ?_
    rintro e w5 ⟨v, rfl, hsl5, hb5, hown5⟩
    have HB5 := Lib.hid (keep_below hb5 HB4.out)
    have HB45 := Lib.hid hb5
    clear x0 x1 p0 p1 s0 r0 rf
    have x0 := (HB1.out.below HB5.out HB1.out.lt).at_ (i := 0) (v := .slice A m cc) rfl
    have x1 := (HB1.out.below HB5.out HB1.out.lt).at_ (i := 1) (v := .int .i64 secs) rfl
    have p0 := (HB2.out.below HB5.out HB2.out.lt).at_ (i := 0) (v := .int .i64 pg) rfl
    have p1 := (HB2.out.below HB5.out HB2.out.lt).at_ (i := 1) (v := .int .i64 pa) rfl
    have s0 := (HBS.out.below HB5.out HBS.out.lt).at_ (i := 0) (v := str s) rfl
    have r0 := (HBR.out.below HB5.out HBR.out.lt).at_ (i := 0) (v := .bool false) rfl
    have rf := (HBR.out.below HB5.out HBR.out.lt).fr 0
    by_cases hz : E = 0
    · subst hz
      obtain ⟨e1, e2, e3⟩ := encE_zero HE.out
      have hOF := of_any A m cc gs secs pg pa (secN s) w5 (HGX.out.below hb5 (Nat.le_refl _))
      rw [ofList_may e2] at hOF
      rw [show ofErr gs secs pg pa (secN s) = 0 by unfold ofErr; rw [if_pos e2]] at hOF
      have hlenT := (enc_encL (s := s) e2).len
      have hO64 := ofList_le gs secs pg pa (secN s)
      rw [ofList_may e2] at hO64
      have hpos := cols_pos e2
      obtain ⟨hhas, _, _, _⟩ := cMay_true e2
      obtain ⟨gk, gx, hpk, hgk, _, _, _, hgx, hga, ho1⟩ := gHas_true hhas
      have hwx : 1 ≤ gx.2 ∧ gx.2 ≤ 8 := by have := gOne_true ho1; omega
      have hTR := less_tries e2 e1 (got := missT (encL gs secs pg pa s) ms ms.length) (by rw [missT_len, hlenT]) (missT_get _ _ _)
      have hTN := tries_len (gs := gs) (secs := secs) (pg := pg) (pa := pa) (size := (secN s : Int)) (got := missT (encL gs secs pg pa s) ms ms.length)
      rw [e3] at hsl5 hown5
      obtain ⟨T, hT⟩ : ∃ T, encL gs secs pg pa s = T := ⟨_, rfl⟩
      obtain ⟨L, hL⟩ : ∃ L, colsOf gs secs pg pa (secN s) = L := ⟨_, rfl⟩
      rw [hT] at hsl5 hown5 hlenT hTR hTN
      rw [hL] at hOF hlenT hO64 hpos hTR hTN
      rw [hlenT] at hsl5
      obtain ⟨A5, c5, h5, _, hc5⟩ := hsl5
      obtain ⟨g, o5, rfl, _, _⟩ := hc5 hpos
      subst h5
      obtain ⟨hg5, rfl, hcap, hK5⟩ := hown5 g o5 _ _ rfl
      subst hcap
      have hgw := HG.out
      have hm := hgw.1
      obtain ⟨bg, og, rfl, hgc⟩ := hgw.2.2 (by omega)
      have hcg := hgc.2 gk gx hgx
      have hkm : gk < m := by omega
      subst hpk
      rw [hga] at hTR hTN
      have HTR := Lib.hid hTR
      have HTN : Hid ((triesL gs secs gk pa (secN s) (missT T ms ms.length)).length ≤ 100) := Lib.hid (by omega)
      have HCG := Lib.hid hcg.1
      have HK5 := Lib.hid (And.intro hg5 hK5)
      have HLT := Lib.hid hlenT
      have HOF := Lib.hid hOF
      have hq : Int.tdiv (s.length : Int) 64 = (secN s : Int) := rfl
      have hs15 : secN s ≤ 15 := by have := HL.out; unfold secN; omega
      clear hOF hlenT hhas hgk hgx hga ho1 hwx hTR hTN hT hL hc5 hown5 hg5 hK5 hgw hm hgc hcg e1 e2 e3 hb5
      go_wp2_with fail
      refine HOF.out.mono ?_
      rintro e w6 ⟨cv, rfl, hown6, hb6⟩
      have HB6 := Lib.hid (keep_below hb6 HB5.out)
      have HB56 := Lib.hid hb6
      obtain ⟨bc, c6, rfl, _, _⟩ := hown6.form hpos
      have hbc := hown6.lt bc rfl
      have HCC := Lib.hid (And.intro hbc (fun j hj => hown6.cellAt j hj))
      have HGB : Hid (g ≠ bc) := Lib.hid (by have := HK5.out.2.lt; have := hbc.1; omega)
      have HK6 := Lib.hid (HK5.out.2.below hb6 HK5.out.2.lt)
      clear x0 x1 p0 p1 s0 r0 rf hq hs15 hb6 hown6 hbc
      go_wp2_with fail
      go_loopw [13] (fun t wr => ∃ k : Nat, k ≤ ms.length ∧ t = .int .i64 k ∧ Blk wr g 9 (strC (missT T ms k)).toArray ∧ w6.grownBy wr (some g)) (fun t _ => ms.length - (RowKit.intOf t).toNat)
      case atStart => exact ⟨0, Nat.zero_le _, rfl, HK6.out, rfl, rfl, rfl, Nat.le_refl _, fun _ _ _ => rfl⟩
      case round =>
        obtain ⟨k, hk, rfl, hbk, hgr⟩ := hrel
        have HBK := Lib.hid hbk
        have HGR := Lib.hid hgr
        by_cases hlt : k < ms.length
        · obtain ⟨b, hbk1⟩ : ∃ b, ms[k]? = some b := ⟨_, List.getElem?_eq_getElem hlt⟩
          obtain ⟨bo, oo, rfl, hbo, hco⟩ := HO.out.cells (by omega)
          have hgo : bo ≠ g := by have := HK5.out.1; have := HD2.out.size; have := HB4.out.size; omega
          have q1 : wr.cell? ⟨bo, oo + k, none⟩ = some (.int .u8 b.toNat) := by
            have e2 := (World.cell?_of_block ((keep_below HB6.out HD2.out).block bo hbo)).trans (hco k _ (by unfold bytC; rw [List.getElem?_map, hbk1]; rfl))
            exact (World.cell?_of_block (hgr.block bo (Nat.lt_of_lt_of_le hbo (keep_below HB6.out HD2.out).size) (fun e => by injection e with e; exact hgo e))).trans e2
          have hbn256 : b.toNat < 256 := UInt8.toNat_lt b
          have hst := missT_step (T := T) hbk1
          obtain ⟨bn, hbn⟩ : ∃ bn, b.toNat = bn := ⟨_, rfl⟩
          rw [hbn] at q1 hbn256 hst
          obtain ⟨ix, hix⟩ : ∃ ix, bn % L.length = ix := ⟨_, rfl⟩
          have hm1 : (bn : Int) % (L.length : Int) = (ix : Int) := by rw [← hix]; rfl
          have hil : ix < L.length := by rw [← hix]; exact Nat.mod_lt _ hpos
          have hml2 := missT_len T ms k
          obtain ⟨t0, ht0⟩ : ∃ t0, (missT T ms k)[ix]? = some t0 := ⟨_, List.getElem?_eq_getElem (by rw [hml2, HLT.out]; exact hil)⟩
          have q2 : wr.cell? ⟨g, ix, none⟩ = some (str t0) := hbk.at_ (by have := strC_at ht0; simpa using this)
          have q3 := hbk.fr ix
          have hd1 : decide (k < ms.length) = true := decide_eq_true hlt
          have HST : Hid (missT T ms (k + 1) = (missT T ms k).set ix []) := Lib.hid (by rw [hst, HLT.out, hix])
          have HKL := Lib.hid hlt
          clear hbk1 hbo hco hgo hix ht0 hml2 hbk hgr hbn hst
          go_wp2_with fail
          go_roundw
          case rel => exact ⟨k + 1, HKL.out, by go_num, by rw [HST.out, ← strC_put]; exact HBK.out.put ix (str []), only_set HGR.out (.inl rfl) _⟩
          case measure => have := HKL.out; simp [RowKit.intOf]; omega
        · obtain rfl : k = ms.length := by omega
          have hd1 : decide (ms.length < ms.length) = false := decide_eq_false (by omega)
          rename World => wa
          have hb2 : Below w2.heap.size w2 wa := below_only HB6.out hgr (by have := HK5.out.1; have := HB4.out.size; omega)
          have hcells : ∀ j, j < L.length * 4 → wa.cell? ⟨bc, j, none⟩ = (colsCells L)[j]? := fun j hj => (World.cell?_of_block (hgr.block bc HCC.out.1.2 (fun e => by injection e with e; exact HGB.out e.symm))).trans (HCC.out.2 j hj)
          have hbca : bc < wa.heap.size := Nat.lt_of_lt_of_le HCC.out.1.2 hgr.size
          have hGl := missT_len T ms ms.length
          rw [HLT.out] at hGl
          have hTR := HTR.out
          have hTN := HTN.out
          obtain ⟨G, hG⟩ : ∃ G, missT T ms ms.length = G := ⟨_, rfl⟩
          rw [hG] at hbk hGl hTR hTN
          obtain ⟨mb, hmb⟩ : ∃ mb, (gx.1 == 0) = mb := ⟨_, rfl⟩
          have HTRG := Lib.hid (And.intro hTR hTN)
          have HGL := Lib.hid hGl
          have HAG := Lib.hid hbk
          have HAC := Lib.hid (And.intro hbca hcells)
          have HAB := Lib.hid hb2
          have HGA := Lib.hid (HG.out.below (keep_below hb2 HD2.out) (Nat.le_refl _))
          have HMB := Lib.hid hmb
          clear hbk hgr hTR hTN hG hGl hcells hbca hb2 hmb HBK HGR HTR HTN
          go_wp2_with fail
          go_loopw [14, 15, 16] (fun a b t wr => ∃ i : Nat, i ≤ L.length ∧ a = .int .i64 (worstTo L G mb i : Nat) ∧ b = .int .i64 (wholeTo L G mb i : Nat) ∧ t = .int .i64 i ∧ Below wa.heap.size wa wr) (fun _ _ t _ => L.length - (RowKit.intOf t).toNat)
          case atStart => exact ⟨0, Nat.zero_le _, rfl, rfl, rfl, Below.refl _ _⟩
          case round =>
            obtain ⟨i, hi, rfl, rfl, rfl, hb⟩ := hrel
            have HB := Lib.hid hb
            obtain ⟨wo, hwo⟩ : ∃ wo, worstTo L G mb i = wo := ⟨_, rfl⟩
            obtain ⟨wh, hwh⟩ : ∃ wh, wholeTo L G mb i = wh := ⟨_, rfl⟩
            have hwo64 := worstTo_le L G mb i
            have hwh64 := wholeTo_le L G mb i
            rw [hwo] at hwo64
            rw [hwh] at hwh64
            rw [hwo, hwh]
            have HWO := Lib.hid (And.intro hwo hwh)
            by_cases hlt : i < L.length
            · have hd2 : decide (i < L.length) = true := decide_eq_true hlt
              have HIL := Lib.hid hlt
              rename World => wq
              clear hwo hwh hb
              go_wp2_with fail
              go_loopw [17, 18] (fun n t wr => ∃ k : Nat, k ≤ L.length ∧ n = .int .i64 (missTo L G mb i k : Nat) ∧ t = .int .i64 k ∧ Below wq.heap.size wq wr) (fun _ t _ => L.length - (RowKit.intOf t).toNat)
              case atStart => exact ⟨0, Nat.zero_le _, rfl, rfl, Below.refl _ _⟩
              case round =>
                obtain ⟨k, hk, rfl, rfl, hbr⟩ := hrel
                have HBR2 := Lib.hid hbr
                obtain ⟨nn, hnn⟩ : ∃ nn, missTo L G mb i k = nn := ⟨_, rfl⟩
                have hnn64 := missTo_le L G mb i k
                rw [hnn] at hnn64
                rw [hnn]
                have HNN := Lib.hid hnn
                by_cases hkl : k < L.length
                · have hwr : Below wa.heap.size wa wr := keep_below hbr HB.out
                  have hw2r : Below w2.heap.size w2 wr := keep_below hwr HAB.out
                  have x0 := (HB1.out.below hw2r HB1.out.lt).at_ (i := 0) (v := .slice (some ⟨bg, og, none⟩) m cc) rfl
                  have p0 := (HB2.out.below hw2r HB2.out.lt).at_ (i := 0) (v := .int .i64 gk) rfl
                  have cg0 := keep_cell' HCG.out (keep_below hw2r HD2.out)
                  have hxk := colsCells_at (getD_in hkl)
                  have hxi := colsCells_at (getD_in HIL.out)
                  have r0 := keep_cell' ((HAC.out.2 (k * 4) (by omega)).trans hxk.1) hwr
                  have r1 := keep_cell' ((HAC.out.2 (k * 4 + 3) (by omega)).trans hxk.2.2.2) hwr
                  have r2 := keep_cell' ((HAC.out.2 (i * 4) (by omega)).trans hxi.1) hwr
                  have r3 := keep_cell' ((HAC.out.2 (i * 4 + 3) (by omega)).trans hxi.2.2.2) hwr
                  have hGk : G[k]? = some (G.getD k []) := by
                    rw [List.getD_eq_getElem?_getD, List.getElem?_eq_getElem (by rw [HGL.out]; exact hkl)]; rfl
                  have r4 : wr.cell? ⟨g, k, none⟩ = some (str (G.getD k [])) := (HAG.out.below hwr HAG.out.lt).at_ (by have := strC_at hGk; simpa using this)
                  have hmp : missP L G mb i k = ((G.getD k []).isEmpty && if mb then (L.getD k (0, 0, false, 0)).1 == (L.getD i (0, 0, false, 0)).1 else (L.getD k (0, 0, false, 0)).2.2.2 == (L.getD i (0, 0, false, 0)).2.2.2) := rfl
                  have hst := missTo_step L G mb i k
                  rw [HNN.out, hmp] at hst
                  obtain ⟨y, hy⟩ : ∃ y, G.getD k [] = y := ⟨_, rfl⟩
                  obtain ⟨xk, hxkd⟩ : ∃ xk, L.getD k (0, 0, false, 0) = xk := ⟨_, rfl⟩
                  obtain ⟨xi, hxid⟩ : ∃ xi, L.getD i (0, 0, false, 0) = xi := ⟨_, rfl⟩
                  rw [hy] at r4 hst
                  rw [hxkd] at r0 r1 hst
                  rw [hxid] at r2 r3 hst
                  obtain ⟨C, hCd, hCw, hCB, hCK, hCD⟩ := cls_below wr
                  have f0 : ∀ W, C W → W.cell? ⟨g, k, none⟩ = some (str y) := fun W h => keep_cell' r4 (hCB W h)
                  have f1 : ∀ W, C W → W.cell? ⟨bc, k * 4, none⟩ = some (.int .i64 xk.1) := fun W h => keep_cell' r0 (hCB W h)
                  have f2 : ∀ W, C W → W.cell? ⟨bc, k * 4 + 3, none⟩ = some (.int .i64 xk.2.2.2) := fun W h => keep_cell' r1 (hCB W h)
                  have f3 : ∀ W, C W → W.cell? ⟨bc, i * 4, none⟩ = some (.int .i64 xi.1) := fun W h => keep_cell' r2 (hCB W h)
                  have f4 : ∀ W, C W → W.cell? ⟨bc, i * 4 + 3, none⟩ = some (.int .i64 xi.2.2.2) := fun W h => keep_cell' r3 (hCB W h)
                  have hd3 : decide (k < L.length) = true := decide_eq_true hkl
                  have hli := HIL.out
                  have HKL := Lib.hid hkl
                  have HST := Lib.hid hst
                  have hmb := HMB.out
                  clear r0 r1 r2 r3 r4 hxk hxi hGk hmp hst hy hxkd hxid hCw hCK hCD hbr hnn hwr hw2r
                  by_cases hye : y = []
                  · subst hye
                    cases mb with
                    | true =>
                      cases hbb : (xk.1 == xi.1) with
                      | false =>
                        have HN1 : Hid (missTo L G true i (k + 1) = nn) := Lib.hid (by rw [HST.out, hbb]; rfl)
                        go_wp2_with fail
                        refine wp_region_cls C (by kernel_rfl) (by kernel_rfl) hCd ?_
                        repeat (first
                          | go_big_quiet_skip
                          | (go_big_quiet_want
                             go_big_quiet_op
                             first
                               | go_big_quiet_on
                               | (apply Exists.intro
                                  refine ⟨fun W hW => ?_, ?_⟩
                                  · first
                                      | exact rfl
                                      | exact ⟨rfl, rfl⟩
                                      | (have e0 := f0 W hW; have e1 := f1 W hW; have e2 := f2 W hW; have e3 := f3 W hW; have e4 := f4 W hW; simp only [e0, e1, e2, e3, e4, Result.andThen_ok]; done)
                                      | (have e0 := f0 W hW; have e1 := f1 W hW; have e2 := f2 W hW; have e3 := f3 W hW; have e4 := f4 W hW; simp only [e0, e1, e2, e3, e4, Result.andThen_ok]; first | exact ⟨trivial, rfl⟩ | exact rfl | exact ⟨rfl, rfl⟩)
                                      | (skip)
                                  go_big_quiet_on)))
                        refine wpQuiet_nil ?_
                        intro wz hwz
                        have HBZ := Lib.hid (keep_below (hCB wz hwz) HBR2.out)
                        clear f0 f1 f2 f3 f4 hCd hCB hwz
                        go_wp2_with fail
                        go_roundw
                        case rel => exact ⟨k + 1, HKL.out, by rw [HN1.out]; skip, by go_num, HBZ.out⟩
                        case measure => have := HKL.out; simp [RowKit.intOf]; omega
                      | true =>
                        have HN1 : Hid (missTo L G true i (k + 1) = nn + 1) := Lib.hid (by rw [HST.out, hbb]; rfl)
                        go_wp2_with fail
                        refine wp_region_cls C (by kernel_rfl) (by kernel_rfl) hCd ?_
                        repeat (first
                          | go_big_quiet_skip
                          | (go_big_quiet_want
                             go_big_quiet_op
                             first
                               | go_big_quiet_on
                               | (apply Exists.intro
                                  refine ⟨fun W hW => ?_, ?_⟩
                                  · first
                                      | exact rfl
                                      | exact ⟨rfl, rfl⟩
                                      | (have e0 := f0 W hW; have e1 := f1 W hW; have e2 := f2 W hW; have e3 := f3 W hW; have e4 := f4 W hW; simp only [e0, e1, e2, e3, e4, Result.andThen_ok]; done)
                                      | (have e0 := f0 W hW; have e1 := f1 W hW; have e2 := f2 W hW; have e3 := f3 W hW; have e4 := f4 W hW; simp only [e0, e1, e2, e3, e4, Result.andThen_ok]; first | exact ⟨trivial, rfl⟩ | exact rfl | exact ⟨rfl, rfl⟩)
                                      | (skip)
                                  go_big_quiet_on)))
                        refine wpQuiet_nil ?_
                        intro wz hwz
                        have HBZ := Lib.hid (keep_below (hCB wz hwz) HBR2.out)
                        clear f0 f1 f2 f3 f4 hCd hCB hwz
                        go_wp2_with fail
                        go_roundw
                        case rel => exact ⟨k + 1, HKL.out, by rw [HN1.out]; go_num, by go_num, HBZ.out⟩
                        case measure => have := HKL.out; simp [RowKit.intOf]; omega
                    | false =>
                      cases hbb : (xk.2.2.2 == xi.2.2.2) with
                      | false =>
                        have HN1 : Hid (missTo L G false i (k + 1) = nn) := Lib.hid (by rw [HST.out, hbb]; rfl)
                        go_wp2_with fail
                        refine wp_region_cls C (by kernel_rfl) (by kernel_rfl) hCd ?_
                        repeat (first
                          | go_big_quiet_skip
                          | (go_big_quiet_want
                             go_big_quiet_op
                             first
                               | go_big_quiet_on
                               | (apply Exists.intro
                                  refine ⟨fun W hW => ?_, ?_⟩
                                  · first
                                      | exact rfl
                                      | exact ⟨rfl, rfl⟩
                                      | (have e0 := f0 W hW; have e1 := f1 W hW; have e2 := f2 W hW; have e3 := f3 W hW; have e4 := f4 W hW; simp only [e0, e1, e2, e3, e4, Result.andThen_ok]; done)
                                      | (have e0 := f0 W hW; have e1 := f1 W hW; have e2 := f2 W hW; have e3 := f3 W hW; have e4 := f4 W hW; simp only [e0, e1, e2, e3, e4, Result.andThen_ok]; first | exact ⟨trivial, rfl⟩ | exact rfl | exact ⟨rfl, rfl⟩)
                                      | (skip)
                                  go_big_quiet_on)))
                        refine wpQuiet_nil ?_
                        intro wz hwz
                        have HBZ := Lib.hid (keep_below (hCB wz hwz) HBR2.out)
                        clear f0 f1 f2 f3 f4 hCd hCB hwz
                        go_wp2_with fail
                        go_roundw
                        case rel => exact ⟨k + 1, HKL.out, by rw [HN1.out]; skip, by go_num, HBZ.out⟩
                        case measure => have := HKL.out; simp [RowKit.intOf]; omega
                      | true =>
                        have HN1 : Hid (missTo L G false i (k + 1) = nn + 1) := Lib.hid (by rw [HST.out, hbb]; rfl)
                        go_wp2_with fail
                        refine wp_region_cls C (by kernel_rfl) (by kernel_rfl) hCd ?_
                        repeat (first
                          | go_big_quiet_skip
                          | (go_big_quiet_want
                             go_big_quiet_op
                             first
                               | go_big_quiet_on
                               | (apply Exists.intro
                                  refine ⟨fun W hW => ?_, ?_⟩
                                  · first
                                      | exact rfl
                                      | exact ⟨rfl, rfl⟩
                                      | (have e0 := f0 W hW; have e1 := f1 W hW; have e2 := f2 W hW; have e3 := f3 W hW; have e4 := f4 W hW; simp only [e0, e1, e2, e3, e4, Result.andThen_ok]; done)
                                      | (have e0 := f0 W hW; have e1 := f1 W hW; have e2 := f2 W hW; have e3 := f3 W hW; have e4 := f4 W hW; simp only [e0, e1, e2, e3, e4, Result.andThen_ok]; first | exact ⟨trivial, rfl⟩ | exact rfl | exact ⟨rfl, rfl⟩)
                                      | (skip)
                                  go_big_quiet_on)))
                        refine wpQuiet_nil ?_
                        intro wz hwz
                        have HBZ := Lib.hid (keep_below (hCB wz hwz) HBR2.out)
                        clear f0 f1 f2 f3 f4 hCd hCB hwz
                        go_wp2_with fail
                        go_roundw
                        case rel => exact ⟨k + 1, HKL.out, by rw [HN1.out]; go_num, by go_num, HBZ.out⟩
                        case measure => have := HKL.out; simp [RowKit.intOf]; omega
                  · have hye2 : (y == []) = false := beq_eq_false_iff_ne.2 hye
                    have hye3 : y.isEmpty = false := by simpa using hye
                    have HN1 : Hid (missTo L G mb i (k + 1) = nn) := Lib.hid (by rw [HST.out, hye3]; simp)
                    clear hye hye3
                    go_wp2_with fail
                    refine wp_region_cls C (by kernel_rfl) (by kernel_rfl) hCd ?_
                    repeat (first
                      | go_big_quiet_skip
                      | (go_big_quiet_want
                         go_big_quiet_op
                         first
                           | go_big_quiet_on
                           | (apply Exists.intro
                              refine ⟨fun W hW => ?_, ?_⟩
                              · first
                                  | exact rfl
                                  | exact ⟨rfl, rfl⟩
                                  | (have e0 := f0 W hW; have e1 := f1 W hW; have e2 := f2 W hW; have e3 := f3 W hW; have e4 := f4 W hW; simp only [e0, e1, e2, e3, e4, Result.andThen_ok]; done)
                                  | (have e0 := f0 W hW; have e1 := f1 W hW; have e2 := f2 W hW; have e3 := f3 W hW; have e4 := f4 W hW; simp only [e0, e1, e2, e3, e4, Result.andThen_ok]; first | exact ⟨trivial, rfl⟩ | exact rfl | exact ⟨rfl, rfl⟩)
                                  | (skip)
                              go_big_quiet_on)))
                    refine wpQuiet_nil ?_
                    intro wz hwz
                    have HBZ := Lib.hid (keep_below (hCB wz hwz) HBR2.out)
                    clear f0 f1 f2 f3 f4 hCd hCB hwz
                    go_wp2_with fail
                    go_roundw
                    case rel => exact ⟨k + 1, HKL.out, by rw [HN1.out]; skip, by go_num, HBZ.out⟩
                    case measure => have := HKL.out; simp [RowKit.intOf]; omega
                · obtain rfl : k = L.length := by omega
                  have hd3 : decide (L.length < L.length) = false := decide_eq_false (by omega)
                  have HBQ := Lib.hid (keep_below hbr HB.out)
                  have hmx : worstTo L G mb (i + 1) = max wo nn := by show max _ _ = _; rw [HWO.out.1, hnn]
                  have hwl : wholeTo L G mb (i + 1) = wh + if nn == 0 then 1 else 0 := by rw [wholeTo_step, HWO.out.2, hnn]
                  have HMX := Lib.hid hmx
                  have HWL := Lib.hid hwl
                  by_cases hn0 : nn = 0
                  · have hn1 : ((nn : Int) == 0) = true := by rw [hn0]; rfl
                    have HW1 : Hid (wholeTo L G mb (i + 1) = wh + 1) := Lib.hid (by rw [hwl, hn0]; rfl)
                    clear hnn hmx hwl hbr hn0
                    go_wp2_with fail
                    go_roundw
                    case rel => exact ⟨i + 1, HIL.out, by rw [HMX.out]; congr 1; omega, by rw [HW1.out]; go_num, by go_num, HBQ.out⟩
                    case measure => have := HIL.out; simp [RowKit.intOf]; omega
                  · have hn1 : ((nn : Int) == 0) = false := by rw [beq_eq_false_iff_ne]; omega
                    have HW1 : Hid (wholeTo L G mb (i + 1) = wh) := Lib.hid (by rw [hwl, beq_eq_false_iff_ne.2 hn0]; rfl)
                    clear hnn hmx hwl hbr hn0
                    go_wp2_with fail
                    go_roundw
                    case rel => exact ⟨i + 1, HIL.out, by rw [HMX.out]; congr 1; omega, by rw [HW1.out], by go_num, HBQ.out⟩
                    case measure => have := HIL.out; simp [RowKit.intOf]; omega
            · obtain rfl : i = L.length := by omega
              have hd2 : decide (L.length < L.length) = false := decide_eq_false (by omega)
              rename World => wb
              have HWR : Hid (Below w2.heap.size w2 wb) := Lib.hid (keep_below hb HAB.out)
              have HGW2 := Lib.hid (HAG.out.below hb HAG.out.lt)
              obtain ⟨w9, hw9⟩ : ∃ z, wb.alloc (.cells #[.int .i64 0] 3) = z := ⟨_, rfl⟩
              have hN9 : Blk w9 wb.heap.size 3 #[.int .i64 0] := by rw [← hw9]; exact Blk.new _ _ _
              have hb9 : Below w2.heap.size w2 w9 := by rw [← hw9]; exact keep_alloc HWR.out _
              have hG9 : Blk w9 g 9 (strC G).toArray := by rw [← hw9]; exact HGW2.out.alloc _
              have HTA := Lib.hid (tries_any (w := w9) (some ⟨bg, og, none⟩) m cc secs gk pa (secN s) (.slice (some ⟨g, 0, none⟩) L.length L.length) ⟨_, _, _, rfl⟩)
              have x0 := (HB1.out.below hb9 HB1.out.lt).at_ (i := 0) (v := .slice (some ⟨bg, og, none⟩) m cc) rfl
              have x1 := (HB1.out.below hb9 HB1.out.lt).at_ (i := 1) (v := .int .i64 secs) rfl
              have p0 := (HB2.out.below hb9 HB2.out.lt).at_ (i := 0) (v := .int .i64 gk) rfl
              have p1 := (HB2.out.below hb9 HB2.out.lt).at_ (i := 1) (v := .int .i64 pa) rfl
              have s0 := (HBS.out.below hb9 HBS.out.lt).at_ (i := 0) (v := str s) rfl
              have hq : Int.tdiv (s.length : Int) 64 = (secN s : Int) := rfl
              have hs15 : secN s ≤ 15 := by have := HL.out; unfold secN; omega
              have H9 := Lib.hid (And.intro hN9 (And.intro hb9 hG9))
              have HN9 : Hid (wb.heap.size ≠ g ∧ w2.heap.size ≤ wb.heap.size ∧ w.heap.size ≤ w2.heap.size) := Lib.hid ⟨by have := HGW2.out.lt; omega, HWR.out.size, HD2.out.size⟩
              have HW9 := Lib.hid hw9
              rw [← hw9] at x0 x1 p0 p1 s0
              clear hw9 hN9 hb9 hG9 hb hwo hwh
              go_wp2_with fail
              rw [HW9.out]
              refine HTA.out.mono ?_
              rintro e wc ⟨rfl, hbx, hbc2⟩
              clear x0 x1 p0 p1 s0 hq hs15 hd2
              have hBC : Below w2.heap.size w2 wc := keep_below hbc2 H9.out.2.1
              have hgxC := HG.out.below (keep_below hBC HD2.out) (Nat.le_refl _)
              have hGC := H9.out.2.2.below hbc2 H9.out.2.2.lt
              have hNC := H9.out.1.below hbc2 H9.out.1.lt
              have hsx : SlV wc (fun b => b = wb.heap.size) (.slice (some ⟨g, 0, none⟩) L.length L.length) G.length (strC G) := by
                rw [HGL.out]
                exact ⟨_, _, rfl, Nat.le_refl _, fun _ => ⟨g, 0, rfl, hGC.lt, fun h => HN9.out.1 h.symm, fun j u hu => by rw [Nat.zero_add]; exact hGC.at_ (by simpa using hu)⟩⟩
              have hV : ∀ b, b = wb.heap.size → b < wc.heap.size := fun b h => by rw [h]; exact hNC.lt
              have hI1 := HB1.out.below hBC HB1.out.lt
              have hI2 := HB2.out.below hBC HB2.out.lt
              have hIS := HBS.out.below hBC HBS.out.lt
              have hIR := HBR.out.below hBC HBR.out.lt
              have hIW := keep_below hBC HD2.out
              have HLT8 : Hid (w.heap.size + 1 + 1 + 1 < w2.heap.size ∧ w.heap.size ≤ wc.heap.size) := Lib.hid ⟨HBR.out.lt, hIW.size⟩
              clear hBC
              go_wp2_with fail
              refine (wpIn_wide (n := 9)).1 ?_
              refine wpIn_rangeFunc_ownG rfl (by decide) (gf := 29) (lb := _) rfl trivial (enters_of Try.func29 (by kernel_rfl) rfl)
                (tries_seq (9 - 1) (V := fun b => b = wb.heap.size) hbx hgxC hsx hV) KC.trans (kc_putObj) (Below.refl _ _) (fun _ => rfl)
                (fun pre W => Blk W wb.heap.size 3 #[.int .i64 (pre.length : Nat)] ∧ Blk W (w.heap.size + 1 + 1) 9 #[str s] ∧ Blk W (w.heap.size + 1 + 1 + 1) 4 #[.bool false] ∧ Blk W w.heap.size 24 #[.slice (some ⟨bg, og, none⟩) m cc, .int .i64 secs] ∧ Blk W (w.heap.size + 1) 26 #[.int .i64 gk, .int .i64 pa] ∧ Below w.heap.size w W)
                (fun c pre W => c = .ret ∧ ∃ x ∈ pre, x.2 ≠ s) ?hI ?hIx ?h0 ?a1 ?assign ?body ?done ?stop
              case hI => exact fun s A B row hs hg hr => ⟨blk_kept hs.1 hg hr, blk_kept hs.2.1 hg hr, blk_kept hs.2.2.1 hg hr, blk_kept hs.2.2.2.1 hg hr, blk_kept hs.2.2.2.2.1 hg hr, ownFrom_below (β := List TryX) (Nat.le_refl _) HLT8.out.2 s A B row hs.2.2.2.2.2 hg hr⟩
              case hIx => exact fun c s A B row hs hg hr => hs
              case h0 => exact ⟨hNC, hIS, hIR, hI1, hI2, hIW⟩
              case assign =>
                intro l x W K hK
                simp only [tryE, List.zip_toArray, List.zip_cons_cons, List.zip_nil_left, List.zip_nil_right, List.foldl_toArray, List.foldl_cons, List.foldl_nil, List.size_toArray, List.length_cons, List.length_nil, List.setIfInBounds_toArray, List.set_cons_succ, List.set_cons_zero]
                gi_wp2
                exact hK
              case body =>
                rintro l pre ⟨dd, t⟩ W ⟨k0, k1, k2, k3, k4, hb⟩ hlt
                obtain ⟨n, hn⟩ : ∃ n, pre.length = n := ⟨_, rfl⟩
                have hn100 : n ≤ 100 := by have := HTRG.out.2; omega
                rw [hn] at k0
                have c0 : W.cell? ⟨wb.heap.size, 0, none⟩ = some (.int .i64 n) := k0.at_ rfl
                have f0 := k0.fr 0
                have c1 : W.cell? ⟨w.heap.size + 1 + 1, 0, none⟩ = some (str s) := k1.at_ rfl
                have c2 : W.cell? ⟨w.heap.size + 1 + 1 + 1, 0, none⟩ = some (.bool false) := k2.at_ rfl
                have f2 := k2.fr 0
                have HK := Lib.hid (And.intro k0 (And.intro k1 (And.intro k2 (And.intro k3 (And.intro k4 hb)))))
                have HNN := Lib.hid hn
                clear k0 k1 k2 k3 k4 hb hlt hn
                by_cases hx2 : t = s
                · subst hx2
                  gi_wp2_with fail
                  refine ⟨(KeepsOthers.setCell _ _ _).from _, kc_set _ _ _ rfl, ?_, HK.out.2.1.far (by have := HN9.out; have := HLT8.out; show _ ≠ wb.heap.size; omega) _, HK.out.2.2.1.far (by have := HN9.out; have := HLT8.out; show _ ≠ wb.heap.size; omega) _, HK.out.2.2.2.1.far (by have := HN9.out; have := HLT8.out; show _ ≠ wb.heap.size; omega) _, HK.out.2.2.2.2.1.far (by have := HN9.out; have := HLT8.out; show _ ≠ wb.heap.size; omega) _, below_set HK.out.2.2.2.2.2 _ _ _ (by have := HN9.out; omega)⟩
                  have := HK.out.1.put 0 (.int .i64 ((n : Int) + 1))
                  rw [List.length_append, HNN.out]
                  exact this
                · have hx3 : (t == s) = false := beq_eq_false_iff_ne.2 hx2
                  have hx4 : (t != s) = true := bne_iff_ne.2 hx2
                  gi_wp2_with fail
                  exact ⟨(KeepsOthers.setCell _ _ _).from _, rfl, _, List.mem_append_right _ (List.mem_singleton.2 rfl), hx2⟩
              case done =>
                rintro D xs W hD hS ⟨k0, k1, k2, k3, k4, hb⟩ hK
                obtain ⟨n, hn⟩ : ∃ n, xs.length = n := ⟨_, rfl⟩
                rw [hn] at k0
                have hnt : (triesL gs secs gk pa (secN s) G).length = n := by rw [← hS]; exact hn
                have c0 : W.cell? ⟨wb.heap.size, 0, none⟩ = some (.int .i64 n) := k0.at_ rfl
                have c2 : W.cell? ⟨w.heap.size + 1 + 1 + 1, 0, none⟩ = some (.bool false) := k2.at_ rfl
                have f2 := k2.fr 0
                have x0 : W.cell? ⟨w.heap.size, 0, none⟩ = some (.slice (some ⟨bg, og, none⟩) m cc) := k3.at_ rfl
                have p0 : W.cell? ⟨w.heap.size + 1, 0, none⟩ = some (.int .i64 gk) := k4.at_ rfl
                have cg0 := keep_cell' HCG.out hb
                have hK2 : (W.setCell ⟨w.heap.size + 1 + 1 + 1, 0, none⟩ (.bool true)).heap[D]? = some (.deferred (some [])) := (KeepsOthers.setCell _ _ _).same D _ hK rfl
                have hc := (k2.put 0 (.bool true)).at_ (i := 0) (v := .bool true) rfl
                have hc2 := cell_kept hc (grownBy_putObj' _ D (.deferred none)) (fun r e => by cases e; exact ⟨_, hK2, rfl⟩)
                have HBW : Hid (Below w.heap.size (W.setCell ⟨w.heap.size + 1 + 1 + 1, 0, none⟩ (.bool true)) ((W.setCell ⟨w.heap.size + 1 + 1 + 1, 0, none⟩ (.bool true)).putObj D (.deferred none)) ∧ Below w.heap.size w (W.setCell ⟨w.heap.size + 1 + 1 + 1, 0, none⟩ (.bool true))) := Lib.hid ⟨belowK_b (w := w) (Nat.le_refl _) _ D _ _ (by have := HLT8.out; omega) hK2 rfl rfl, below_set hb _ _ _ (by have := HLT8.out; omega)⟩
                have HK2 := Lib.hid hK2
                have HC2 := Lib.hid hc2
                have hmb := HMB.out
                have HXS : Hid (n = 0 ∨ triesL gs secs gk pa (secN s) G ≠ []) := Lib.hid (by
                  rcases Nat.eq_zero_or_pos n with h | h
                  · exact .inl h
                  · refine .inr fun e => ?_
                    rw [e] at hnt
                    exact absurd hnt (by simp; omega))
                cases mb with
                | true =>
                  have hkd : gx.1 = 0 := eq_of_beq hmb
                  have hiff := HTRG.out.1.2.1 hkd
                  rw [hnt, HWO.out.2] at hiff
                  clear k0 k1 k2 k3 k4 hb hS hK hK2 hc hc2 hD hn hnt hkd
                  by_cases h0 : 0 < n
                  · have hb1 : decide (0 < n) = true := decide_eq_true h0
                    have hb2 : decide (0 < wh) = true := decide_eq_true (hiff.1 h0)
                    clear hiff
                    go_wp2_with fail
                    refine ⟨by simp, .inl ⟨_, _, rfl, run_takeDeferred HK2.out, ?_⟩⟩
                    refine ⟨.bool true, ?_, rfl, HBW.out.2.trans HBW.out.1⟩
                    simp [results, Try.f4, go_sem, HC2.out]
                  · have hb1 : decide (0 < n) = false := decide_eq_false h0
                    have hb2 : decide (0 < wh) = false := decide_eq_false (fun h => h0 (hiff.2 h))
                    clear hiff
                    go_wp2_with fail
                    refine ⟨by simp, .inl ⟨_, _, rfl, run_takeDeferred HK2.out, ?_⟩⟩
                    refine ⟨.bool true, ?_, rfl, HBW.out.2.trans HBW.out.1⟩
                    simp [results, Try.f4, go_sem, HC2.out]
                | false =>
                  have hkd : gx.1 ≠ 0 := fun h => by rw [h] at hmb; cases hmb
                  have hno := HTRG.out.1.2.2 hkd
                  rw [HWO.out.1] at hno
                  clear k0 k1 k2 k3 k4 hb hS hK hK2 hc hc2 hD hn hnt hkd
                  by_cases h2 : wo < 2
                  · have hb1 : decide ((wo : Int) < 2) = true := decide_eq_true (by omega)
                    clear hno
                    go_wp2_with fail
                    refine ⟨by simp, .inl ⟨_, _, rfl, run_takeDeferred HK2.out, ?_⟩⟩
                    refine ⟨.bool true, ?_, rfl, HBW.out.2.trans HBW.out.1⟩
                    simp [results, Try.f4, go_sem, HC2.out]
                  · have hb1 : decide ((wo : Int) < 2) = false := decide_eq_false (by omega)
                    obtain rfl : n = 0 := HXS.out.resolve_right (fun h => h (hno (by omega)))
                    clear hno
                    go_wp2_with fail
                    refine ⟨by simp, .inl ⟨_, _, rfl, run_takeDeferred HK2.out, ?_⟩⟩
                    refine ⟨.bool true, ?_, rfl, HBW.out.2.trans HBW.out.1⟩
                    simp [results, Try.f4, go_sem, HC2.out]
              case stop =>
                rintro D c pre W hD hS ⟨rfl, x, hx, hne⟩ hK
                exact absurd (HTRG.out.1.1 x (hS.subset hx)) hne
    · have hne : (E != 0) = true := bne_iff_ne.2 hz
      clear hz hsl5 hb5 hown5
      go_wp2_with fail
      have hres := ((HBR.out.below HB5.out HBR.out.lt).put 0 (.bool true)).at_ (i := 0) (v := .bool true) rfl
      exact ⟨.bool true, by simp [results, Try.f4, go_sem, hres], rfl, below_set (keep_below HB5.out HD2.out) _ _ _ (by omega)⟩
end Go.Proofs.Ytefhmemmfajbfaa
