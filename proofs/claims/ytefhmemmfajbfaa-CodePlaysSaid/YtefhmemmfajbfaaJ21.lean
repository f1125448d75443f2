/-
  The statement CodeOne, walked.
-/
import Derived.Test.YtefhmemmfajbfaaJ19
import Derived.Test.YtefhmemmfajbfaaJ20
namespace Go.Proofs.Ytefhmemmfajbfaa
set_option linter.unusedVariables false
set_option linter.unusedSimpArgs false
open Go.RowKit
attribute [local go_sem] Oper.semAt_some

theorem one_len {o : List UInt8} {b : Bool} (h : ((o.length : Int) == 64) = b) : (o.length == 64) = b := by
  rw [← h]
  by_cases e : o.length = 64
  · rw [e]; rfl
  · rw [beq_eq_false_iff_ne.2 e, beq_eq_false_iff_ne.2 (by omega)]
theorem blk_new3 (w : World) (o1 o2 : Obj) (t : TypeId) (cs : Array Value) : Blk (((w.alloc o1).alloc o2).alloc (.cells cs t)) (w.heap.size + 1 + 1) t cs := by
  have := Blk.new2 (w.alloc o1) o2 t cs
  rwa [World.size_alloc] at this
theorem blk_new4 (w : World) (o1 o2 o3 : Obj) (t : TypeId) (cs : Array Value) : Blk ((((w.alloc o1).alloc o2).alloc o3).alloc (.cells cs t)) (w.heap.size + 1 + 1 + 1) t cs := by
  have := blk_new3 (w.alloc o1) o2 o3 t cs
  rwa [World.size_alloc] at this
/-- Is a column spoilt? -/
def oneP (L : List Col) (mir : Bool) (d : Int) (ot : List (List UInt8)) (i : Nat) : Bool := (((L.getD i (0, 0, false, 0)).1 == d) != mir) && (decide (i < ot.length) && ((ot.getD i []).isEmpty || (ot.getD i []).length == 64))
def oneG (L : List Col) (T : List (List UInt8)) (mir : Bool) (d : Int) (ot : List (List UInt8)) (i : Nat) : List UInt8 := if oneP L mir d ot i then ot.getD i [] else T.getD i []
def oneT (L : List Col) (T : List (List UInt8)) (mir : Bool) (d : Int) (ot : List (List UInt8)) (k : Nat) : List (List UInt8) := stepL L.length (oneG L T mir d ot) (fun i => T.getD i []) k
theorem oneT_end {L : List Col} {T : List (List UInt8)} {mir : Bool} {d : Int} {ot : List (List UInt8)} {k : Nat} (h : ot.length ≤ k) : oneT L T mir d ot k = oneT L T mir d ot L.length := by
  unfold oneT stepL
  apply List.map_congr_left
  intro i hi
  have hi := List.mem_range.1 hi
  rw [if_pos hi]
  split
  · rfl
  · rename_i hk
    unfold oneG oneP
    rw [decide_eq_false (show ¬ i < ot.length by omega)]
    simp
theorem oneT_get {L : List Col} {T : List (List UInt8)} {mir : Bool} {d : Int} {ot : List (List UInt8)} {i : Nat} (hi : i < L.length) : (oneT L T mir d ot L.length).getD i [] = oneG L T mir d ot i := by
  unfold oneT
  rw [List.getD_eq_getElem?_getD, stepL_at hi, if_pos hi]
  rfl
section
variable {gs : List (Int × Int)} {secs pg pa : Int} {s : List UInt8}
theorem one_fits (h : cMay gs secs pg pa (secN s) = true) (mir : Bool) (d : Int) (ot : List (List UInt8)) :
    fitsB gs secs pg pa (secN s) (oneT (colsOf gs secs pg pa (secN s)) (encL gs secs pg pa s) mir d ot (colsOf gs secs pg pa (secN s)).length) = true := by
  refine fits_64 h (stepL_len _ _ _ _) fun t ht => ?_
  obtain ⟨i, hi, rfl⟩ := List.mem_map.1 ht
  have hi := List.mem_range.1 hi
  rw [if_pos hi]
  unfold oneG
  split
  · rename_i hp
    unfold oneP at hp
    simp only [Bool.and_eq_true, Bool.or_eq_true, List.isEmpty_iff, beq_iff_eq] at hp
    rcases hp.2.2 with h1 | h1
    · left; rw [h1]; rfl
    · exact .inr h1
  · exact .inr ((enc_encL h).all64 i hi)
/-- The text is among the tries. -/
theorem one_tries (h : cMay gs secs pg pa (secN s) = true) (hs : secOk s = true) (dv : Nat) (ot : List (List UInt8)) :
    ∃ x ∈ triesL gs secs pg pa (secN s) (oneT (colsOf gs secs pg pa (secN s)) (encL gs secs pg pa s) ((grAt gs pg).1 == 0) (gFirst gs secs pg + (dv : Int) % (grAt gs pg).2) ot (colsOf gs secs pg pa (secN s)).length), x.2 = s := by
  unfold triesL
  rw [one_fits h, if_pos rfl]
  by_cases hk : (grAt gs pg).1 = 0
  · have hb : ((grAt gs pg).1 == 0) = true := beq_iff_eq.2 hk
    rw [hb, if_pos rfl, Int.toNat_natCast]
    have hM := mirL_of h hk
    rw [Int.toNat_natCast] at hM
    have hw : (grAt gs pg).2 = (((grAt gs pg).2.toNat : Nat) : Int) := by have := hM.wpos; omega
    refine mir_one_back h hk hs (j := dv % (grAt gs pg).2.toNat) (stepL_len _ _ _ _) (Nat.mod_lt _ hM.wpos) fun t ht => ?_
    obtain ⟨h1, h2, _, _⟩ := in_part hM.len (Nat.mod_lt dv hM.wpos) ht
    rw [oneT_get h1]
    unfold oneG oneP
    rw [hM.dev _ h1, h2, hw, Int.toNat_natCast, if_neg]
    have : (gFirst gs secs pg + ((dv % (grAt gs pg).2.toNat : Nat) : Int) == gFirst gs secs pg + (dv : Int) % (((grAt gs pg).2.toNat : Nat) : Int)) = true := by rw [beq_iff_eq]; rfl
    rw [this]
    simp
  · have hb : ((grAt gs pg).1 == 0) = false := beq_eq_false_iff_ne.2 hk
    rw [hb, if_neg Bool.false_ne_true]
    refine par_one_back h hs hk (d := gFirst gs secs pg + (dv : Int) % (grAt gs pg).2) fun i hi hne => ?_
    rw [oneT_get hi]
    unfold oneG oneP
    rw [beq_eq_false_iff_ne.2 hne]
    rfl
end
set_option maxRecDepth 100000 in
set_option maxHeartbeats 4000000 in
theorem codeOne_any (A : Option Addr) (m cc : Nat) (gs : List (Int × Int)) (secs pg pa : Int) (s : List UInt8) (hsl : s.length ≤ 9223372036854775807) (dv : Nat) (hdv : dv < 256) {ov : Value} {ot : List (List UInt8)} (hol : ot.length ≤ 9223372036854775807) {w : World} (hg : GeoAt w A m gs) (ho : SlAt w ov ot.length (strC ot)) :
    Calls Try.prog 3 #[.agg #[.slice A m cc, .int .i64 secs], .agg #[.int .i64 pg, .int .i64 pa], str s, .int .u8 dv, ov] w fun e w' => e = .returned (.bool true) ∧ Below w.heap.size w w' := by
  obtain ⟨Ao, co, rfl⟩ := ho.form
  have HO := Lib.hid ho
  clear ho
  obtain ⟨w2, hw2⟩ : ∃ z, (((w.alloc (.cells #[.slice A m cc, .int .i64 secs] 24)).alloc (.cells #[.int .i64 pg, .int .i64 pa] 26)).alloc (.cells #[str s] 9)).alloc (.cells #[.bool false] 4) = z := ⟨_, rfl⟩
  have B1 : Blk w2 w.heap.size 24 #[.slice A m cc, .int .i64 secs] := by rw [← hw2]; exact (((Blk.new _ _ _).alloc _).alloc _).alloc _
  have B2 : Blk w2 (w.heap.size + 1) 26 #[.int .i64 pg, .int .i64 pa] := by rw [← hw2]; exact ((Blk.new2 _ _ _ _).alloc _).alloc _
  have B3 : Blk w2 (w.heap.size + 1 + 1) 9 #[str s] := by rw [← hw2]; exact (blk_new3 _ _ _ _ _).alloc _
  have B4 : Blk w2 (w.heap.size + 1 + 1 + 1) 4 #[.bool false] := by rw [← hw2]; exact blk_new4 _ _ _ _ _ _
  have D2 : Below w.heap.size w w2 := by rw [← hw2]; exact keep_alloc (keep_alloc (keep_alloc (keep_alloc (Below.refl _ _) _) _) _) _
  have HB1 := Lib.hid B1
  have HB2 := Lib.hid B2
  have HBS := Lib.hid B3
  have HBR := Lib.hid B4
  have HD2 := Lib.hid D2
  have HW2 := Lib.hid hw2
  have HG := Lib.hid hg
  clear hg B1 B2 B3 B4 D2 hw2
  refine (callsIn_wide (n := 9)).1 ?_
  refine callsIn_of_wp_marks Try.func3 rfl trivial (wpIn_wide.2 ?_) rfl
  simp only [Try.ntmps3, List.size_toArray, List.length_cons, List.length_nil, Nat.reduceAdd, Nat.reduceSub, Array.replicate_succ, Array.replicate_zero, List.push_toArray, List.append_toArray, List.nil_append, List.cons_append]
  go_wp2_with fail
  rw [HW2.out]
  refine (awake07_any w2).mono ?_
  rintro e w3 ⟨rfl, hb3⟩
  have HB3 := Lib.hid hb3
  have x0 := (HB1.out.below hb3 HB1.out.lt).at_ (i := 0) (v := .slice A m cc) rfl
  have x1 := (HB1.out.below hb3 HB1.out.lt).at_ (i := 1) (v := .int .i64 secs) rfl
  have p0 := (HB2.out.below hb3 HB2.out.lt).at_ (i := 0) (v := .int .i64 pg) rfl
  have p1 := (HB2.out.below hb3 HB2.out.lt).at_ (i := 1) (v := .int .i64 pa) rfl
  have s0 := (HBS.out.below hb3 HBS.out.lt).at_ (i := 0) (v := str s) rfl
  have r0 := (HBR.out.below hb3 HBR.out.lt).at_ (i := 0) (v := .bool false) rfl
  have rf := (HBR.out.below hb3 HBR.out.lt).fr 0
  clear hb3
  have HFW := Lib.hid (few_any A m cc gs secs ((HG.out.below HD2.out (Nat.le_refl _)).below HB3.out (Nat.le_refl _)) ((HO.out.below HD2.out).below HB3.out) hol)
  obtain ⟨fb, hfb⟩ : ∃ fb, fewB gs ot = fb := ⟨_, rfl⟩
  rw [hfb] at HFW
  have HFB := Lib.hid hfb
  clear hfb
  cases fb with
  | false =>
    go_wp2_with fail
    refine HFW.out.mono ?_
    rintro e w4 ⟨rfl, hb4⟩
    have HB4 := Lib.hid (keep_below hb4 HB3.out)
    clear hb4
    go_wp2_with fail
    refine (awake07_any w4).mono ?_
    rintro e w5 ⟨rfl, hb5⟩
    have HB5 := Lib.hid (keep_below hb5 HB4.out)
    clear hb5 x0 x1 p0 p1 s0 r0 rf
    have x0 := (HB1.out.below HB5.out HB1.out.lt).at_ (i := 0) (v := .slice A m cc) rfl
    have x1 := (HB1.out.below HB5.out HB1.out.lt).at_ (i := 1) (v := .int .i64 secs) rfl
    have p0 := (HB2.out.below HB5.out HB2.out.lt).at_ (i := 0) (v := .int .i64 pg) rfl
    have p1 := (HB2.out.below HB5.out HB2.out.lt).at_ (i := 1) (v := .int .i64 pa) rfl
    have s0 := (HBS.out.below HB5.out HBS.out.lt).at_ (i := 0) (v := str s) rfl
    have r0 := (HBR.out.below HB5.out HBR.out.lt).at_ (i := 0) (v := .bool false) rfl
    have rf := (HBR.out.below HB5.out HBR.out.lt).fr 0
    go_wp2_with fail
    have hres := ((HBR.out.below HB5.out HBR.out.lt).put 0 (.bool true)).at_ (i := 0) (v := .bool true) rfl
    exact ⟨.bool true, by simp [results, Try.f3, go_sem, hres], rfl, below_set (keep_below HB5.out HD2.out) _ _ _ (by omega)⟩
  | true =>
    by_cases hl : 1000 < s.length
    · have hd : decide ((1000 : Int) < s.length) = true := decide_eq_true (by omega)
      clear hl
      go_wp2_with fail
      refine HFW.out.mono ?_
      rintro e w4 ⟨rfl, hb4⟩
      have HB4 := Lib.hid (keep_below hb4 HB3.out)
      clear hb4 x0 x1 p0 p1 s0 r0 rf
      have x0 := (HB1.out.below HB4.out HB1.out.lt).at_ (i := 0) (v := .slice A m cc) rfl
      have x1 := (HB1.out.below HB4.out HB1.out.lt).at_ (i := 1) (v := .int .i64 secs) rfl
      have p0 := (HB2.out.below HB4.out HB2.out.lt).at_ (i := 0) (v := .int .i64 pg) rfl
      have p1 := (HB2.out.below HB4.out HB2.out.lt).at_ (i := 1) (v := .int .i64 pa) rfl
      have s0 := (HBS.out.below HB4.out HBS.out.lt).at_ (i := 0) (v := str s) rfl
      have r0 := (HBR.out.below HB4.out HBR.out.lt).at_ (i := 0) (v := .bool false) rfl
      have rf := (HBR.out.below HB4.out HBR.out.lt).fr 0
      go_wp2_with fail
      refine (awake07_any w4).mono ?_
      rintro e w5 ⟨rfl, hb5⟩
      have HB5 := Lib.hid (keep_below hb5 HB4.out)
      clear hb5 x0 x1 p0 p1 s0 r0 rf
      have x0 := (HB1.out.below HB5.out HB1.out.lt).at_ (i := 0) (v := .slice A m cc) rfl
      have x1 := (HB1.out.below HB5.out HB1.out.lt).at_ (i := 1) (v := .int .i64 secs) rfl
      have p0 := (HB2.out.below HB5.out HB2.out.lt).at_ (i := 0) (v := .int .i64 pg) rfl
      have p1 := (HB2.out.below HB5.out HB2.out.lt).at_ (i := 1) (v := .int .i64 pa) rfl
      have s0 := (HBS.out.below HB5.out HBS.out.lt).at_ (i := 0) (v := str s) rfl
      have r0 := (HBR.out.below HB5.out HBR.out.lt).at_ (i := 0) (v := .bool false) rfl
      have rf := (HBR.out.below HB5.out HBR.out.lt).fr 0
      go_wp2_with fail
      have hres := ((HBR.out.below HB5.out HBR.out.lt).put 0 (.bool true)).at_ (i := 0) (v := .bool true) rfl
      exact ⟨.bool true, by simp [results, Try.f3, go_sem, hres], rfl, below_set (keep_below HB5.out HD2.out) _ _ _ (by omega)⟩
    · have hd : decide ((1000 : Int) < s.length) = false := decide_eq_false (by omega)
      have HL := Lib.hid (Nat.le_of_not_lt hl)
      clear hl
      go_wp2_with fail
      refine HFW.out.mono ?_
      rintro e w4 ⟨rfl, hb4⟩
      have HB4 := Lib.hid (keep_below hb4 HB3.out)
      clear hb4 x0 x1 p0 p1 s0 r0 rf
      have x0 := (HB1.out.below HB4.out HB1.out.lt).at_ (i := 0) (v := .slice A m cc) rfl
      have x1 := (HB1.out.below HB4.out HB1.out.lt).at_ (i := 1) (v := .int .i64 secs) rfl
      have p0 := (HB2.out.below HB4.out HB2.out.lt).at_ (i := 0) (v := .int .i64 pg) rfl
      have p1 := (HB2.out.below HB4.out HB2.out.lt).at_ (i := 1) (v := .int .i64 pa) rfl
      have s0 := (HBS.out.below HB4.out HBS.out.lt).at_ (i := 0) (v := str s) rfl
      have r0 := (HBR.out.below HB4.out HBR.out.lt).at_ (i := 0) (v := .bool false) rfl
      have rf := (HBR.out.below HB4.out HBR.out.lt).fr 0
      have HGX := Lib.hid ((HG.out.below HD2.out (Nat.le_refl _)).below HB4.out (Nat.le_refl _))
      have HEN := Lib.hid (encode_own A m cc gs secs pg pa s HGX.out (by have := HL.out; omega))
      obtain ⟨E, hE⟩ : ∃ E, encE gs secs pg pa s = E := ⟨_, rfl⟩
      rw [hE] at HEN
      have HE := Lib.hid hE
      clear hE
      go_wp2_with fail
      refine HEN.out.mono ?_
      rintro e w5 ⟨v, rfl, hsl5, hb5, hown5⟩
      have HB5 := Lib.hid (keep_below hb5 HB4.out)
      have HB45 := Lib.hid hb5
      have HS5 := Lib.hid hsl5
      have HOWN5 := Lib.hid hown5
      clear x0 x1 p0 p1 s0 r0 rf
      have x0 := (HB1.out.below HB5.out HB1.out.lt).at_ (i := 0) (v := .slice A m cc) rfl
      have x1 := (HB1.out.below HB5.out HB1.out.lt).at_ (i := 1) (v := .int .i64 secs) rfl
      have p0 := (HB2.out.below HB5.out HB2.out.lt).at_ (i := 0) (v := .int .i64 pg) rfl
      have p1 := (HB2.out.below HB5.out HB2.out.lt).at_ (i := 1) (v := .int .i64 pa) rfl
      have s0 := (HBS.out.below HB5.out HBS.out.lt).at_ (i := 0) (v := str s) rfl
      have r0 := (HBR.out.below HB5.out HBR.out.lt).at_ (i := 0) (v := .bool false) rfl
      have rf := (HBR.out.below HB5.out HBR.out.lt).fr 0
      have hq : Int.tdiv (s.length : Int) 64 = (secN s : Int) := rfl
      have hs15 : secN s ≤ 15 := by have := HL.out; unfold secN; omega
      have HOF := Lib.hid (of_any A m cc gs secs pg pa (secN s) w5 (HGX.out.below hb5 (Nat.le_refl _)))
      clear hsl5 hb5 hown5
      go_wp2_with fail
      refine HOF.out.mono ?_
      rintro e w6 ⟨cv, rfl, hown6, hb6⟩
      have HB6 := Lib.hid (keep_below hb6 HB5.out)
      have HB56 := Lib.hid hb6
      clear x0 x1 p0 p1 s0 r0 rf hq hs15 hb6
      by_cases hz : E = 0
      · subst hz
        obtain ⟨e1, e2, e3⟩ := encE_zero HE.out
        rw [ofList_may e2] at hown6
        rw [show ofErr gs secs pg pa (secN s) = 0 by unfold ofErr; rw [if_pos e2]]
        have hlenT := (enc_encL (s := s) e2).len
        have h64 := (enc_encL (s := s) e2).all64
        have hO64 := ofList_le gs secs pg pa (secN s)
        rw [ofList_may e2] at hO64
        have hpos := cols_pos e2
        obtain ⟨hhas, _, _, _⟩ := cMay_true e2
        obtain ⟨gk, gx, hpk, hgk, _, _, _, hgx, hga, ho1⟩ := gHas_true hhas
        have hwx : 1 ≤ gx.2 ∧ gx.2 ≤ 8 := by have := gOne_true ho1; omega
        have hTR := one_tries e2 e1 dv ot
        have hHAS := hhas
        rw [hpk] at hHAS hTR
        rw [hga] at hTR
        have hFd : 0 ≤ gFirst gs secs (gk : Int) ∧ gFirst gs secs (gk : Int) ≤ 32 := by
          rw [gFirst_true hHAS]
          exact sum_take_bd (gHas_right hHAS) gk
        have hs5 := HS5.out
        have ho5 := HOWN5.out
        rw [e3] at hs5 ho5
        obtain ⟨T, hT⟩ : ∃ T, encL gs secs pg pa s = T := ⟨_, rfl⟩
        obtain ⟨L, hL⟩ : ∃ L, colsOf gs secs pg pa (secN s) = L := ⟨_, rfl⟩
        rw [hT] at hs5 ho5 hlenT h64
        rw [← hpk, hT, hL] at hTR
        rw [hL] at hown6 hlenT h64 hO64 hpos
        rw [hlenT] at hs5
        obtain ⟨A5, c5, h5, _, hc5⟩ := hs5
        obtain ⟨g, o5, rfl, _, _⟩ := hc5 hpos
        subst h5
        obtain ⟨hg5, rfl, hcap, hK5⟩ := ho5 g o5 _ _ rfl
        subst hcap
        have hK6 := hK5.below HB56.out hK5.lt
        obtain ⟨bc, c6, rfl, _, _⟩ := hown6.form hpos
        have hbc := hown6.lt bc rfl
        have hgbc : g ≠ bc := by have := hK5.lt; have := hbc.1; omega
        have HCC := Lib.hid (And.intro hbc (fun j hj => hown6.cellAt j hj))
        have hgw := HGX.out.below (keep_below HB56.out HB45.out) (Nat.le_refl _)
        have hm := hgw.1
        have x0 := (HB1.out.below HB6.out HB1.out.lt).at_ (i := 0) (v := .slice A m cc) rfl
        have x1 := (HB1.out.below HB6.out HB1.out.lt).at_ (i := 1) (v := .int .i64 secs) rfl
        have p0 := (HB2.out.below HB6.out HB2.out.lt).at_ (i := 0) (v := .int .i64 pg) rfl
        have p1 := (HB2.out.below HB6.out HB2.out.lt).at_ (i := 1) (v := .int .i64 pa) rfl
        have s0 := (HBS.out.below HB6.out HBS.out.lt).at_ (i := 0) (v := str s) rfl
        have r0 := (HBR.out.below HB6.out HBR.out.lt).at_ (i := 0) (v := .bool false) rfl
        have rf := (HBR.out.below HB6.out HBR.out.lt).fr 0
        obtain ⟨bg, og, rfl, hgc⟩ := hgw.2.2 (by omega)
        have hcg := hgc.2 gk gx hgx
        have hkm : gk < m := by omega
        subst hpk
        obtain ⟨wn, hwn⟩ := Int.eq_ofNat_of_zero_le (show 0 ≤ gx.2 by omega)
        obtain ⟨Fn, hFn⟩ := Int.eq_ofNat_of_zero_le hFd.1
        obtain ⟨mb, hmb⟩ : ∃ mb, (gx.1 == 0) = mb := ⟨_, rfl⟩
        obtain ⟨dq, hdq⟩ : ∃ dq, dv % wn = dq := ⟨_, rfl⟩
        have hm1 : (dv : Int) % (wn : Int) = (dq : Int) := by rw [← hdq]; rfl
        have hdl : dq < wn := by rw [← hdq]; exact Nat.mod_lt _ (by omega)
        have hRF := fun (W : World) (hb : Below w6.heap.size w6 W) => refFirst_any (some ⟨bg, og, none⟩) m cc gs secs gk W (hgw.below hb (Nat.le_refl _)) hHAS
        rw [hwn, hm1, hmb, hFn] at hTR
        rw [hFn] at hRF hFd
        rw [hwn] at hcg hwx
        have HTR := Lib.hid hTR
        have HRF := Lib.hid hRF
        have HTT := Lib.hid (And.intro hlenT (And.intro h64 hO64))
        have HK6 := Lib.hid (And.intro hg5 hK6)
        have HGW := Lib.hid hgw
        have hwn1 : 0 < wn ∧ wn ≤ 8 := by omega
        obtain ⟨hwn2, hwn3⟩ := hwn1
        have hFn2 : Fn ≤ 32 := by omega
        obtain ⟨cg0, cg1⟩ := hcg
        have hbe : g ≠ bc := hgbc
        have HGB := Lib.hid hgbc
        obtain ⟨C, hCd, hCw, hCB, hCK, hCD⟩ := cls_below w6
        have f0 : ∀ W, C W → W.cell? ⟨w.heap.size, 0, none⟩ = some (.slice (some ⟨bg, og, none⟩) m cc) := fun W h => keep_cell' x0 (hCB W h)
        have f1 : ∀ W, C W → W.cell? ⟨w.heap.size, 1, none⟩ = some (.int .i64 secs) := fun W h => keep_cell' x1 (hCB W h)
        have f2 : ∀ W, C W → W.cell? ⟨w.heap.size + 1, 0, none⟩ = some (.int .i64 gk) := fun W h => keep_cell' p0 (hCB W h)
        have f3 : ∀ W, C W → W.cell? ⟨bg, og + gk * 2 + 1, none⟩ = some (.int .i64 wn) := fun W h => keep_cell' cg1 (hCB W h)
        clear hTR hRF hlenT h64 hO64 hg5 hK5 hK6 hgw hgbc hgc hgx hga hm hgk hhas hHAS hFn hwn hwx hFd ho1 ho5 hown6 hbc hc5 hT hL hdq e1 e2 e3 hCw hCD hbe HOWN5 HS5 HEN HOF hpos
        go_wp2_with fail
        refine wp_region_cls C (by kernel_rfl) (by kernel_rfl) hCd ?_
        repeat (first
          | go_big_quiet_skip
          | (go_big_quiet_want
             go_big_quiet_op
             first
               | go_big_quiet_on
               | (apply Exists.intro
                  refine ⟨fun W hW => ?_, ?_⟩
                  · first
                      | exact rfl
                      | exact ⟨rfl, rfl⟩
                      | (have e0 := f0 W hW; have e1 := f1 W hW; have e2 := f2 W hW; have e3 := f3 W hW; simp only [e0, e1, e2, e3, Result.andThen_ok]; done)
                      | (have e0 := f0 W hW; have e1 := f1 W hW; have e2 := f2 W hW; have e3 := f3 W hW; simp only [e0, e1, e2, e3, Result.andThen_ok]; first | exact ⟨trivial, rfl⟩ | exact rfl | exact ⟨rfl, rfl⟩)
                      | (refine (HRF.out W (hCB W hW)).mono ?_; rintro e w' ⟨rfl, hb⟩; exact ⟨rfl, hCK _ _ hW hb⟩)
                  go_big_quiet_on)))
        refine wpQuiet_nil ?_
        intro w7 hw7
        have HB67 := Lib.hid (hCB w7 hw7)
        have HK7 := Lib.hid (HK6.out.2.below HB67.out HK6.out.2.lt)
        have HD7 := Lib.hid (keep_below HB67.out HB6.out)
        clear x0 x1 p0 p1 s0 r0 rf f0 f1 f2 f3 cg0 cg1 hCd hCB hCK hw7
        have HO7 := Lib.hid ((HO.out.below HD2.out).below HD7.out)
        go_wp2_with fail
        go_loopw [17] (fun t wr => ∃ k : Nat, k ≤ L.length ∧ t = .int .i64 k ∧ Blk wr g 9 (strC (oneT L T mb (Fn + dq) ot k)).toArray ∧ w7.grownBy wr (some g)) (fun t _ => L.length - (RowKit.intOf t).toNat)
        case atStart =>
          refine ⟨0, Nat.zero_le _, rfl, ?_, rfl, rfl, rfl, Nat.le_refl _, fun _ _ _ => rfl⟩
          have : oneT L T mb (Fn + dq) ot 0 = T := by
            unfold oneT
            rw [stepL_zero]
            apply List.ext_getElem?
            intro i
            rw [List.getElem?_map]
            by_cases hi : i < L.length
            · rw [List.getElem?_range hi, Option.map_some, List.getD_eq_getElem?_getD, List.getElem?_eq_getElem (by rw [HTT.out.1]; exact hi)]
              rfl
            · rw [List.getElem?_eq_none (by simpa using hi), List.getElem?_eq_none (by rw [HTT.out.1]; omega)]
              rfl
          rw [this]
          exact HK7.out
        case round =>
          obtain ⟨k, hk, rfl, hbk, hgr⟩ := hrel
          have HBK := Lib.hid hbk
          have HGR := Lib.hid hgr
          by_cases hlt : k < L.length ∧ k < ot.length
          · obtain ⟨h1, h2⟩ := hlt
            have hx := colD_in h1
            obtain ⟨x, hxd⟩ : ∃ x, L.getD k (0, 0, false, 0) = x := ⟨_, rfl⟩
            rw [hxd] at hx
            obtain ⟨o, hod⟩ : ∃ o, ot.getD k [] = o := ⟨_, rfl⟩
            have hok : ot[k]? = some o := by rw [← hod, List.getD_eq_getElem?_getD, List.getElem?_eq_getElem h2]; rfl
            have q0 : wr.cell? ⟨bc, k * 4, none⟩ = some (.int .i64 x.1) := by
              have e1 : w6.cell? ⟨bc, k * 4, none⟩ = some (.int .i64 x.1) := (HCC.out.2 (k * 4) (by omega)).trans (colsCells_at hx).1
              have e2 := keep_cell' e1 HB67.out
              exact (World.cell?_of_block (hgr.block bc (Nat.lt_of_lt_of_le HCC.out.1.2 HB67.out.size) (fun e => by injection e with e; exact HGB.out e.symm))).trans e2
            obtain ⟨bo, oo, rfl, hbo, hco⟩ := HO.out.cells (by omega)
            have hgo : bo ≠ g := by have := HK6.out.1; have := HD2.out.size; have := HB4.out.size; omega
            have q1 : wr.cell? ⟨bo, oo + k, none⟩ = some (str o) := by
              have e2 := (World.cell?_of_block ((keep_below HD7.out HD2.out).block bo hbo)).trans (hco _ _ (strC_at hok))
              exact (World.cell?_of_block (hgr.block bo (Nat.lt_of_lt_of_le hbo (keep_below HD7.out HD2.out).size) (fun e => by injection e with e; exact hgo e))).trans e2
            have hgk : ∃ t0, (oneT L T mb (Fn + dq) ot k)[k]? = some t0 := ⟨_, stepL_at h1⟩
            obtain ⟨t0, ht0⟩ := hgk
            have q2 : wr.cell? ⟨g, k, none⟩ = some (str t0) := hbk.at_ (by have := strC_at ht0; simpa using this)
            have q3 := hbk.fr k
            have hd1 : decide (k < L.length) = true := decide_eq_true h1
            have hd2 : decide (k < ot.length) = true := decide_eq_true h2
            have H12 := Lib.hid (And.intro h1 h2)
            obtain ⟨b1, hb1⟩ : ∃ b1, (x.1 == (Fn : Int) + dq) = b1 := ⟨_, rfl⟩
            have hP : oneP L mb (Fn + dq) ot k = ((b1 != mb) && (o.isEmpty || o.length == 64)) := by
              unfold oneP
              rw [hxd, hb1, hod, hd2, Bool.true_and]
            have HYES : Hid (oneP L mb (Fn + dq) ot k = true → (oneT L T mb (Fn + dq) ot k).set k o = oneT L T mb (Fn + dq) ot (k + 1)) := Lib.hid (fun h => by
              have := stepL_set (N := L.length) (g := oneG L T mb (Fn + dq) ot) (h := fun i => T.getD i []) (k := k)
              have hG : oneG L T mb (Fn + dq) ot k = o := by unfold oneG; rw [if_pos h, hod]
              rw [hG] at this
              exact this)
            have HNO : Hid (oneP L mb (Fn + dq) ot k = false → oneT L T mb (Fn + dq) ot (k + 1) = oneT L T mb (Fn + dq) ot k) := Lib.hid (fun h => stepL_same (by
              show oneG L T mb (Fn + dq) ot k = T.getD k []
              unfold oneG; rw [h]; rfl))
            have HP := Lib.hid hP
            clear hP hgr hbk ht0 hok hod hxd hx hco hbo hgo
            cases b1 <;> cases mb
            · have HN := Lib.hid (HNO.out (by rw [HP.out]; rfl))
              go_wp2_with fail
              go_roundw
              case rel => exact ⟨k + 1, H12.out.1, by go_num, by rw [HN.out]; exact HBK.out, HGR.out⟩
              case measure => have := H12.out.1; simp [RowKit.intOf]; omega
            · by_cases ho0 : o = []
              · subst ho0
                have HY := Lib.hid (HYES.out (by rw [HP.out]; rfl))
                go_wp2_with fail
                go_roundw
                case rel => exact ⟨k + 1, H12.out.1, by go_num, by rw [← HY.out, ← strC_put]; exact HBK.out.put k _, only_set HGR.out (.inl rfl) _⟩
                case measure => have := H12.out.1; simp [RowKit.intOf]; omega
              · have ho1 : ((o.length : Int) == 0) = false := by have := List.length_pos_iff.2 ho0; rw [beq_eq_false_iff_ne]; omega
                cases ho2 : ((o.length : Int) == 64) with
                | true =>
                  have HY := Lib.hid (HYES.out (by rw [HP.out, one_len ho2]; simp))
                  clear ho0
                  go_wp2_with fail
                  go_roundw
                  case rel => exact ⟨k + 1, H12.out.1, by go_num, by rw [← HY.out, ← strC_put]; exact HBK.out.put k _, only_set HGR.out (.inl rfl) _⟩
                  case measure => have := H12.out.1; simp [RowKit.intOf]; omega
                | false =>
                  have HN := Lib.hid (HNO.out (by rw [HP.out, one_len ho2]; simp [ho0]))
                  clear ho0
                  go_wp2_with fail
                  go_roundw
                  case rel => exact ⟨k + 1, H12.out.1, by go_num, by rw [HN.out]; exact HBK.out, HGR.out⟩
                  case measure => have := H12.out.1; simp [RowKit.intOf]; omega
            · by_cases ho0 : o = []
              · subst ho0
                have HY := Lib.hid (HYES.out (by rw [HP.out]; rfl))
                go_wp2_with fail
                go_roundw
                case rel => exact ⟨k + 1, H12.out.1, by go_num, by rw [← HY.out, ← strC_put]; exact HBK.out.put k _, only_set HGR.out (.inl rfl) _⟩
                case measure => have := H12.out.1; simp [RowKit.intOf]; omega
              · have ho1 : ((o.length : Int) == 0) = false := by have := List.length_pos_iff.2 ho0; rw [beq_eq_false_iff_ne]; omega
                cases ho2 : ((o.length : Int) == 64) with
                | true =>
                  have HY := Lib.hid (HYES.out (by rw [HP.out, one_len ho2]; simp))
                  clear ho0
                  go_wp2_with fail
                  go_roundw
                  case rel => exact ⟨k + 1, H12.out.1, by go_num, by rw [← HY.out, ← strC_put]; exact HBK.out.put k _, only_set HGR.out (.inl rfl) _⟩
                  case measure => have := H12.out.1; simp [RowKit.intOf]; omega
                | false =>
                  have HN := Lib.hid (HNO.out (by rw [HP.out, one_len ho2]; simp [ho0]))
                  clear ho0
                  go_wp2_with fail
                  go_roundw
                  case rel => exact ⟨k + 1, H12.out.1, by go_num, by rw [HN.out]; exact HBK.out, HGR.out⟩
                  case measure => have := H12.out.1; simp [RowKit.intOf]; omega
            · have HN := Lib.hid (HNO.out (by rw [HP.out]; rfl))
              go_wp2_with fail
              go_roundw
              case rel => exact ⟨k + 1, H12.out.1, by go_num, by rw [HN.out]; exact HBK.out, HGR.out⟩
              case measure => have := H12.out.1; simp [RowKit.intOf]; omega
          · have hend : oneT L T mb (Fn + dq) ot k = oneT L T mb (Fn + dq) ot L.length := by
              by_cases h : k < L.length
              · exact oneT_end (by omega)
              · rw [show k = L.length by omega]
            rw [hend] at hbk
            have hgl : (oneT L T mb (Fn + dq) ot L.length).length = L.length := stepL_len _ _ _ _
            obtain ⟨G, hG⟩ : ∃ G, oneT L T mb (Fn + dq) ot L.length = G := ⟨_, rfl⟩
            rw [hG] at hbk hgl
            have hTR := HTR.out
            rw [hG] at hTR
            have hb2 : Below w2.heap.size w2 wr := below_only HD7.out hgr (by have := HK6.out.1; have := HB4.out.size; omega)
            have HGE := Lib.hid (HG.out.below (keep_below hb2 HD2.out) (Nat.le_refl _))
            have HWB := Lib.hid (keep_below hb2 HD2.out)
            have HB2r := Lib.hid hb2
            have HBG := Lib.hid hbk
            have HTRG := Lib.hid hTR
            have HGL := Lib.hid hgl
            have HTA := Lib.hid (tries_any (w := wr) (some ⟨bg, og, none⟩) m cc secs gk pa (secN s) (.slice (some ⟨g, 0, none⟩) L.length L.length) ⟨_, _, _, rfl⟩)
            have x0 := (HB1.out.below hb2 HB1.out.lt).at_ (i := 0) (v := .slice (some ⟨bg, og, none⟩) m cc) rfl
            have x1 := (HB1.out.below hb2 HB1.out.lt).at_ (i := 1) (v := .int .i64 secs) rfl
            have p0 := (HB2.out.below hb2 HB2.out.lt).at_ (i := 0) (v := .int .i64 gk) rfl
            have p1 := (HB2.out.below hb2 HB2.out.lt).at_ (i := 1) (v := .int .i64 pa) rfl
            have s0 := (HBS.out.below hb2 HBS.out.lt).at_ (i := 0) (v := str s) rfl
            have r0 := (HBR.out.below hb2 HBR.out.lt).at_ (i := 0) (v := .bool false) rfl
            have rf := (HBR.out.below hb2 HBR.out.lt).fr 0
            have hq : Int.tdiv (s.length : Int) 64 = (secN s : Int) := rfl
            have hs15 : secN s ≤ 15 := by have := HL.out; unfold secN; omega
            clear hgr hbk hTR hgl hend hb2
            by_cases h1 : k < L.length
            · have hd1 : decide (k < L.length) = true := decide_eq_true h1
              have hd2 : decide (k < ot.length) = false := decide_eq_false (fun h => hlt ⟨h1, h⟩)
              clear h1 hlt
              go_wp2_with fail
              refine HTA.out.mono ?_
              rintro e w8 ⟨rfl, hbx, hb8⟩
              clear hd1 x0 x1 p0 p1 s0 r0 rf hq hs15
              have hgx8 := HGE.out.below hb8 (Nat.le_refl _)
              have hB8 : Below w2.heap.size w2 w8 := keep_below hb8 HB2r.out
              have hsx : SlV w8 (fun _ => False) (.slice (some ⟨g, 0, none⟩) L.length L.length) G.length (strC G) := by
                rw [HGL.out]
                exact ⟨_, _, rfl, Nat.le_refl _, fun _ => ⟨g, 0, rfl, (HBG.out.below hb8 HBG.out.lt).lt, fun h => h, fun j u hu => by rw [Nat.zero_add]; exact (HBG.out.below hb8 HBG.out.lt).at_ (by simpa using hu)⟩⟩
              have hIS := (HBS.out.below hB8 HBS.out.lt)
              have hIR := (HBR.out.below hB8 HBR.out.lt)
              have hIW := keep_below hB8 HD2.out
              have HLT8 : Hid (w.heap.size + 1 + 1 + 1 < w8.heap.size ∧ w.heap.size ≤ w8.heap.size) := Lib.hid ⟨hIR.lt, hIW.size⟩
              go_wp2_with fail
              refine (wpIn_wide (n := 9)).1 ?_
              refine wpIn_rangeFunc_ownG rfl (by decide) (gf := 29) (lb := _) rfl trivial (enters_of Try.func29 (by kernel_rfl) rfl)
                (tries_seq (9 - 1) (V := fun _ => False) hbx hgx8 hsx (fun b h => h.elim)) KC.trans (kc_putObj) (Below.refl _ _) (fun _ => rfl)
                (fun pre W => Blk W (w.heap.size + 1 + 1) 9 #[str s] ∧ Blk W (w.heap.size + 1 + 1 + 1) 4 #[.bool false] ∧ (∀ x ∈ pre, x.2 ≠ s) ∧ Below w.heap.size w W)
                (fun c pre W => c = .ret ∧ Blk W (w.heap.size + 1 + 1 + 1) 4 #[.bool true] ∧ Below w.heap.size w W) ?hIA ?hIxA ?h0A ?a1A ?assignA ?bodyA ?doneA ?stopA
              case hIA => exact fun s A B row hs hg hr => ⟨blk_kept hs.1 hg hr, blk_kept hs.2.1 hg hr, hs.2.2.1, ownFrom_below (β := List TryX) (Nat.le_refl _) HLT8.out.2 s A B row hs.2.2.2 hg hr⟩
              case hIxA => exact fun c s A B row hs hg hr => ⟨hs.1, blk_kept hs.2.1 hg hr, ownFrom_below (β := List TryX) (Nat.le_refl _) HLT8.out.2 s A B row hs.2.2 hg hr⟩
              case h0A => exact ⟨hIS, hIR, fun x hx => (by cases hx), hIW⟩
              case assignA =>
                intro l x W K hK
                simp only [tryE, List.zip_toArray, List.zip_cons_cons, List.zip_nil_left, List.zip_nil_right, List.foldl_toArray, List.foldl_cons, List.foldl_nil, List.size_toArray, List.length_cons, List.length_nil, List.setIfInBounds_toArray, List.set_cons_succ, List.set_cons_zero]
                gi_wp2
                exact hK
              case bodyA =>
                rintro l pre ⟨dd, t⟩ W ⟨k1, k2, hall, hb⟩ hlt
                have c1 : W.cell? ⟨w.heap.size + 1 + 1, 0, none⟩ = some (str s) := k1.at_ rfl
                have c2 : W.cell? ⟨w.heap.size + 1 + 1 + 1, 0, none⟩ = some (.bool false) := k2.at_ rfl
                have f2 := k2.fr 0
                have HK := Lib.hid (And.intro k1 (And.intro k2 (And.intro hall hb)))
                clear k1 k2 hb hlt hall
                by_cases hx2 : t = s
                · subst hx2
                  gi_wp2_with fail
                  refine ⟨(KeepsOthers.setCell _ _ _).from _, rfl, HK.out.2.1.put 0 (.bool true), below_set HK.out.2.2.2 _ _ _ (by omega)⟩
                · have hx3 : (t == s) = false := beq_eq_false_iff_ne.2 hx2
                  gi_wp2_with fail
                  refine ⟨KeepsFrom.refl _ _, KC.refl _ _, HK.out.1, HK.out.2.1, fun x hx => ?_, HK.out.2.2.2⟩
                  rcases List.mem_append.1 hx with h | h
                  · exact HK.out.2.2.1 x h
                  · rw [List.mem_singleton] at h
                    rw [h]
                    exact hx2
              case doneA =>
                rintro D xs W hD hS ⟨_, _, hall, _⟩ hK
                exfalso
                obtain ⟨x, hx, he⟩ := HTRG.out
                rw [← hS] at hx
                exact hall x hx he
              case stopA =>
                rintro D c pre W hD hS ⟨rfl, k2, hb⟩ hK
                refine (wpIn_wide (n := 9)).2 ?_
                have hc2 := cell_kept (k2.at_ (i := 0) (v := .bool true) rfl) (grownBy_putObj' _ D (.deferred none)) (fun r e => by cases e; exact ⟨_, hK, rfl⟩)
                have HKD := Lib.hid hK
                have HDD := Lib.hid hD
                have HBB := Lib.hid hb
                clear hK hb hD k2
                go_wp2_with fail
                refine ⟨by simp, .inl ⟨_, _, rfl, run_takeDeferred HKD.out, ?_⟩⟩
                refine ⟨.bool true, ?_, rfl, HBB.out.trans (belowK_b (w := w) (Nat.le_refl _) _ D _ _ (by have := HDD.out; have := HLT8.out; omega) HKD.out rfl rfl)⟩
                simp [results, Try.f3, go_sem, hc2]
            · have hd1 : decide (k < L.length) = false := decide_eq_false h1
              clear h1 hlt
              go_wp2_with fail
              refine HTA.out.mono ?_
              rintro e w8 ⟨rfl, hbx, hb8⟩
              clear hd1 x0 x1 p0 p1 s0 r0 rf hq hs15
              have hgx8 := HGE.out.below hb8 (Nat.le_refl _)
              have hB8 : Below w2.heap.size w2 w8 := keep_below hb8 HB2r.out
              have hsx : SlV w8 (fun _ => False) (.slice (some ⟨g, 0, none⟩) L.length L.length) G.length (strC G) := by
                rw [HGL.out]
                exact ⟨_, _, rfl, Nat.le_refl _, fun _ => ⟨g, 0, rfl, (HBG.out.below hb8 HBG.out.lt).lt, fun h => h, fun j u hu => by rw [Nat.zero_add]; exact (HBG.out.below hb8 HBG.out.lt).at_ (by simpa using hu)⟩⟩
              have hIS := (HBS.out.below hB8 HBS.out.lt)
              have hIR := (HBR.out.below hB8 HBR.out.lt)
              have hIW := keep_below hB8 HD2.out
              have HLT8 : Hid (w.heap.size + 1 + 1 + 1 < w8.heap.size ∧ w.heap.size ≤ w8.heap.size) := Lib.hid ⟨hIR.lt, hIW.size⟩
              go_wp2_with fail
              refine (wpIn_wide (n := 9)).1 ?_
              refine wpIn_rangeFunc_ownG rfl (by decide) (gf := 29) (lb := _) rfl trivial (enters_of Try.func29 (by kernel_rfl) rfl)
                (tries_seq (9 - 1) (V := fun _ => False) hbx hgx8 hsx (fun b h => h.elim)) KC.trans (kc_putObj) (Below.refl _ _) (fun _ => rfl)
                (fun pre W => Blk W (w.heap.size + 1 + 1) 9 #[str s] ∧ Blk W (w.heap.size + 1 + 1 + 1) 4 #[.bool false] ∧ (∀ x ∈ pre, x.2 ≠ s) ∧ Below w.heap.size w W)
                (fun c pre W => c = .ret ∧ Blk W (w.heap.size + 1 + 1 + 1) 4 #[.bool true] ∧ Below w.heap.size w W) ?hIB ?hIxB ?h0B ?a1B ?assignB ?bodyB ?doneB ?stopB
              case hIB => exact fun s A B row hs hg hr => ⟨blk_kept hs.1 hg hr, blk_kept hs.2.1 hg hr, hs.2.2.1, ownFrom_below (β := List TryX) (Nat.le_refl _) HLT8.out.2 s A B row hs.2.2.2 hg hr⟩
              case hIxB => exact fun c s A B row hs hg hr => ⟨hs.1, blk_kept hs.2.1 hg hr, ownFrom_below (β := List TryX) (Nat.le_refl _) HLT8.out.2 s A B row hs.2.2 hg hr⟩
              case h0B => exact ⟨hIS, hIR, fun x hx => (by cases hx), hIW⟩
              case assignB =>
                intro l x W K hK
                simp only [tryE, List.zip_toArray, List.zip_cons_cons, List.zip_nil_left, List.zip_nil_right, List.foldl_toArray, List.foldl_cons, List.foldl_nil, List.size_toArray, List.length_cons, List.length_nil, List.setIfInBounds_toArray, List.set_cons_succ, List.set_cons_zero]
                gi_wp2
                exact hK
              case bodyB =>
                rintro l pre ⟨dd, t⟩ W ⟨k1, k2, hall, hb⟩ hlt
                have c1 : W.cell? ⟨w.heap.size + 1 + 1, 0, none⟩ = some (str s) := k1.at_ rfl
                have c2 : W.cell? ⟨w.heap.size + 1 + 1 + 1, 0, none⟩ = some (.bool false) := k2.at_ rfl
                have f2 := k2.fr 0
                have HK := Lib.hid (And.intro k1 (And.intro k2 (And.intro hall hb)))
                clear k1 k2 hb hlt hall
                by_cases hx2 : t = s
                · subst hx2
                  gi_wp2_with fail
                  refine ⟨(KeepsOthers.setCell _ _ _).from _, rfl, HK.out.2.1.put 0 (.bool true), below_set HK.out.2.2.2 _ _ _ (by omega)⟩
                · have hx3 : (t == s) = false := beq_eq_false_iff_ne.2 hx2
                  gi_wp2_with fail
                  refine ⟨KeepsFrom.refl _ _, KC.refl _ _, HK.out.1, HK.out.2.1, fun x hx => ?_, HK.out.2.2.2⟩
                  rcases List.mem_append.1 hx with h | h
                  · exact HK.out.2.2.1 x h
                  · rw [List.mem_singleton] at h
                    rw [h]
                    exact hx2
              case doneB =>
                rintro D xs W hD hS ⟨_, _, hall, _⟩ hK
                exfalso
                obtain ⟨x, hx, he⟩ := HTRG.out
                rw [← hS] at hx
                exact hall x hx he
              case stopB =>
                rintro D c pre W hD hS ⟨rfl, k2, hb⟩ hK
                refine (wpIn_wide (n := 9)).2 ?_
                have hc2 := cell_kept (k2.at_ (i := 0) (v := .bool true) rfl) (grownBy_putObj' _ D (.deferred none)) (fun r e => by cases e; exact ⟨_, hK, rfl⟩)
                have HKD := Lib.hid hK
                have HDD := Lib.hid hD
                have HBB := Lib.hid hb
                clear hK hb hD k2
                go_wp2_with fail
                refine ⟨by simp, .inl ⟨_, _, rfl, run_takeDeferred HKD.out, ?_⟩⟩
                refine ⟨.bool true, ?_, rfl, HBB.out.trans (belowK_b (w := w) (Nat.le_refl _) _ D _ _ (by have := HDD.out; have := HLT8.out; omega) HKD.out rfl rfl)⟩
                simp [results, Try.f3, go_sem, hc2]
      · have hne : (E != 0) = true := bne_iff_ne.2 hz
        have hnil : encS gs secs pg pa s = [] := by
          unfold encS
          rw [if_neg]
          intro h
          simp only [Bool.and_eq_true, decide_eq_true_eq] at h
          have := HE.out
          unfold encE at this
          rw [if_pos h.1] at this
          exact hz (this.symm.trans h.2)
        have hs5 := HS5.out
        rw [hnil] at hs5
        obtain ⟨A5, c5, rfl⟩ := hs5.form
        have x0 := (HB1.out.below HB6.out HB1.out.lt).at_ (i := 0) (v := .slice A m cc) rfl
        have x1 := (HB1.out.below HB6.out HB1.out.lt).at_ (i := 1) (v := .int .i64 secs) rfl
        have p0 := (HB2.out.below HB6.out HB2.out.lt).at_ (i := 0) (v := .int .i64 pg) rfl
        have p1 := (HB2.out.below HB6.out HB2.out.lt).at_ (i := 1) (v := .int .i64 pa) rfl
        have s0 := (HBS.out.below HB6.out HBS.out.lt).at_ (i := 0) (v := str s) rfl
        have r0 := (HBR.out.below HB6.out HBR.out.lt).at_ (i := 0) (v := .bool false) rfl
        have rf := (HBR.out.below HB6.out HBR.out.lt).fr 0
        clear hz hs5 hown6 hnil
        go_wp2_with fail
        have hres := ((HBR.out.below HB6.out HBR.out.lt).put 0 (.bool true)).at_ (i := 0) (v := .bool true) rfl
        exact ⟨.bool true, by simp [results, Try.f3, go_sem, hres], rfl, below_set (keep_below HB6.out HD2.out) _ _ _ (by omega)⟩
end Go.Proofs.Ytefhmemmfajbfaa
