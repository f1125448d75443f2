/-
  The statement CodeBad, walked.
-/
import Derived.Test.YtefhmemmfajbfaaJ16
import Derived.Test.YtefhmemmfajbfaaJ17
import Derived.Laws.IdiomStrings
namespace Go.Proofs.Ytefhmemmfajbfaa
set_option linter.unusedVariables false
set_option linter.unusedSimpArgs false
open Go.RowKit

theorem cols_pos {gs : List (Int × Int)} {secs pg pa size : Int} (h : cMay gs secs pg pa size = true) : 0 < (colsOf gs secs pg pa size).length := by
  by_cases hk : (grAt gs pg).1 = 0
  · have hM := mirL_of h hk
    rw [hM.len]
    exact Nat.mul_pos hM.wpos hM.pos
  · have hP := parL_of h hk
    have h1 := hP.cnt
    have := (cMay_true h).2.1
    have h2 := List.length_filter_le (fun c : Col => !c.2.2.1) (colsOf gs secs pg pa size)
    omega
theorem slAt_nil (w : World) : SlAt w (.slice none 0 0) ([] : List (List UInt8)).length (strC []) := ⟨none, 0, rfl, Nat.le_refl _, fun h => absurd h (Nat.lt_irrefl 0)⟩
/-- The bytes of a text in a new block. -/
theorem bytes_new7 (w : World) (s : List UInt8) : ∃ (c : Nat) (w' : World), (convert 9 45 (str s)).run Try.prog w = .ok (.slice (some ⟨w.heap.size, 0, none⟩) s.length c) w' ∧ Below w.heap.size w w' ∧ w'.heap.size = w.heap.size + 1 ∧
    (∀ j u, s[j]? = some u → w'.cell? ⟨w.heap.size, j, none⟩ = some (.int .u8 u.toNat)) ∧ ∀ j, j < s.length → w'.frozen? ⟨w.heap.size, j, none⟩ = false := by
  have h := run_bytes_of_string (P := Try.prog) w 9 45 5 ⟨s.toArray⟩ Try.underlying9 Try.underlying45 Try.underlying5
  have hsz : (⟨s.toArray⟩ : ByteArray).size = s.length := by simp [ByteArray.size]
  rw [hsz] at h
  generalize grownCap w s.length 0 5 = c at h
  have hlen : s.length ≤ (bytesRow ⟨s.toArray⟩ c).size := by simp [bytesRow, ByteArray.size]
  refine ⟨c, _, h, (Below.refl _ w).drew.alloc (Nat.le_refl _) _, by show (w.drew.alloc _).heap.size = w.drew.heap.size + 1; simp, fun j u hu => ?_, fun j hj => ?_⟩
  · obtain ⟨hj, rfl⟩ := List.getElem?_eq_some_iff.1 hu
    have := bytesRow_at ⟨s.toArray⟩ c j (by simpa using hj)
    have h2 : w.drew.heap.size = w.heap.size := rfl
    rw [← h2, cell_of_row _ _ _ _ _ _ (heap_alloc_new w.drew _), this]
    simp
  · have h2 : w.drew.heap.size = w.heap.size := rfl
    rw [← h2]
    simp only [World.frozen?, heap_alloc_new]
    simp only [Bool.and_eq_false_imp, decide_eq_true_eq, decide_eq_false_iff_not]
    omega
theorem bad_enc7 {gs : List (Int × Int)} {secs pg pa : Int} {s : List UInt8} : badL gs secs pg pa s (encL gs secs pg pa s) = [] := by
  unfold badL
  split
  · apply List.filter_eq_nil_iff.2
    intro i _
    simp
  · rfl
theorem fits_64 {gs : List (Int × Int)} {secs pg pa size : Int} {got : List (List UInt8)} (h : cMay gs secs pg pa size = true) (hl : got.length = (colsOf gs secs pg pa size).length) (h64 : ∀ t ∈ got, t.length = 0 ∨ t.length = 64) : fitsB gs secs pg pa size got = true := by
  unfold fitsB
  rw [h, hl]
  simp only [Bool.true_and, beq_self_eq_true, Bool.not_eq_true']
  rw [List.any_eq_false]
  intro t ht
  unfold fitP
  rcases h64 t ht with h0 | h0
  · rw [List.length_eq_zero_iff.1 h0]
    simp
  · simp [h0]
theorem range_one {k : Nat} : ∀ {n : Nat}, k < n → (List.range n).filter (fun i => i == k) = [k]
  | n + 1, h => by
    rw [List.range_succ, List.filter_append]
    by_cases e : k = n
    · subst e
      have : (List.range k).filter (fun i => i == k) = [] := by
        rw [List.filter_eq_nil_iff]
        intro i hi
        have := List.mem_range.1 hi
        simp
        omega
      rw [this]
      simp
    · rw [range_one (show k < n by omega)]
      have : (n == k) = false := beq_eq_false_iff_ne.2 (fun h => e h.symm)
      simp [List.filter_cons, this]
/-- One column spoilt: it alone is bad. -/
theorem bad_one {gs : List (Int × Int)} {secs pg pa : Int} {s : List UInt8} (hE : encE gs secs pg pa s = 0) {k : Nat} {t : List UInt8} (hk : k < (encL gs secs pg pa s).length) (ht : t.length = 64) :
    badL gs secs pg pa s ((encL gs secs pg pa s).set k t) = if (encL gs secs pg pa s).getD k [] = t then [] else [k] := by
  obtain ⟨_, hm, _⟩ := encE_zero hE
  have hf : fitsB gs secs pg pa (secN s) ((encL gs secs pg pa s).set k t) = true := by
    refine fits_64 hm (by rw [List.length_set, encL_len, ofList_may hm]) fun x hx => ?_
    rcases List.mem_or_eq_of_mem_set hx with h | h
    · exact .inr (encL_64 hm x h)
    · rw [h]; exact .inr ht
  unfold badL
  rw [hf, hE]
  simp only [decide_true, Bool.true_and, if_true]
  generalize encL gs secs pg pa s = T at *
  have hg : ∀ i, (T.getD i [] != (T.set k t).getD i []) = if i = k then (T.getD k [] != t) else false := by
    intro i
    rw [List.getD_eq_getElem?_getD, List.getD_eq_getElem?_getD, List.getElem?_set]
    by_cases e : i = k
    · subst e
      rw [if_pos rfl, if_pos rfl, if_pos hk, Option.getD_some, List.getD_eq_getElem?_getD]
    · rw [if_neg e, if_neg (fun h => e h.symm), bne_self_eq_false]
  have hc : (List.range T.length).filter (fun i => T.getD i [] != (T.set k t).getD i []) = (List.range T.length).filter (fun i => if i = k then (T.getD k [] != t) else false) := List.filter_congr fun i _ => hg i
  rw [hc]
  split
  · rename_i he
    rw [List.filter_eq_nil_iff]
    intro i _
    rw [he, bne_self_eq_false]
    split <;> simp
  · rename_i he
    have e2 : (T.getD k [] != t) = true := bne_iff_ne.2 he
    rw [e2]
    have : (fun i : Nat => if i = k then true else false) = fun i => i == k := by funext i; by_cases h : i = k <;> simp [h]
    rw [this, range_one hk]
set_option maxRecDepth 100000 in
set_option maxHeartbeats 4000000 in
theorem codeBad_any (A : Option Addr) (m cc : Nat) (gs : List (Int × Int)) (secs pg pa : Int) (s : List UInt8) (hsl : s.length ≤ 9223372036854775807) (at_ : Nat) (ha : at_ < 256) (q : UInt8) {w : World} (hg : GeoAt w A m gs) :
    Calls Try.prog 6 #[.agg #[.slice A m cc, .int .i64 secs], .agg #[.int .i64 pg, .int .i64 pa], str s, .int .u8 at_, .int .u8 q.toNat] w fun e w' => e = .returned (.bool true) ∧ Below w.heap.size w w' := by
  obtain ⟨w2, hw2⟩ : ∃ z, (w.alloc (.cells #[.slice A m cc, .int .i64 secs] 24)).alloc (.cells #[.int .i64 pg, .int .i64 pa] 26) = z := ⟨_, rfl⟩
  have B1 : Blk w2 w.heap.size 24 #[.slice A m cc, .int .i64 secs] := by rw [← hw2]; exact (Blk.new _ _ _).alloc _
  have B2 : Blk w2 (w.heap.size + 1) 26 #[.int .i64 pg, .int .i64 pa] := by rw [← hw2]; exact Blk.new2 _ _ _ _
  have D2 : Below w.heap.size w w2 := by rw [← hw2]; exact keep_alloc (keep_alloc (Below.refl _ _) _) _
  have HB1 := Lib.hid B1
  have HB2 := Lib.hid B2
  have HD2 := Lib.hid D2
  have HW2 := Lib.hid hw2
  have HG := Lib.hid hg
  clear hg B1 B2 D2 hw2
  go_enter Try.func6, Try.ntmps6
  go_wp2_with fail
  rw [HW2.out]
  refine (awake07_any w2).mono ?_
  rintro e w3 ⟨rfl, hb3⟩
  have HB3 := Lib.hid hb3
  have x0 := (HB1.out.below hb3 HB1.out.lt).at_ (i := 0) (v := .slice A m cc) rfl
  have x1 := (HB1.out.below hb3 HB1.out.lt).at_ (i := 1) (v := .int .i64 secs) rfl
  have p0 := (HB2.out.below hb3 HB2.out.lt).at_ (i := 0) (v := .int .i64 pg) rfl
  have p1 := (HB2.out.below hb3 HB2.out.lt).at_ (i := 1) (v := .int .i64 pa) rfl
  clear hb3
  have HFW := Lib.hid (few_any A m cc gs secs ((HG.out.below HD2.out (Nat.le_refl _)).below HB3.out (Nat.le_refl _)) (slAt_nil w3) (Nat.zero_le _))
  obtain ⟨fb, hfb⟩ : ∃ fb, fewB gs [] = fb := ⟨_, rfl⟩
  rw [hfb] at HFW
  clear hfb
  cases fb with
  | false =>
    go_wp2_with fail
    refine HFW.out.mono ?_
    rintro e w4 ⟨rfl, hb4⟩
    have HB4 := Lib.hid hb4
    clear hb4 x0 x1 p0 p1
    go_wp2_with fail
    refine (awake07_any w4).mono ?_
    rintro e w5 ⟨rfl, hb5⟩
    have HB5 := Lib.hid (keep_below (keep_below (keep_below hb5 HB4.out) HB3.out) HD2.out)
    clear hb5
    go_wp2_with fail
    go_ret
    exact ⟨rfl, HB5.out⟩
  | true =>
    by_cases hl : 1000 < s.length
    · have hd : decide ((1000 : Int) < s.length) = true := decide_eq_true (by omega)
      clear hl
      go_wp2_with fail
      refine HFW.out.mono ?_
      rintro e w4 ⟨rfl, hb4⟩
      have HB4 := Lib.hid hb4
      clear hb4 x0 x1 p0 p1
      go_wp2_with fail
      refine (awake07_any w4).mono ?_
      rintro e w5 ⟨rfl, hb5⟩
      have HB5 := Lib.hid (keep_below (keep_below (keep_below hb5 HB4.out) HB3.out) HD2.out)
      clear hb5
      go_wp2_with fail
      go_ret
      exact ⟨rfl, HB5.out⟩
    · have hd : decide ((1000 : Int) < s.length) = false := decide_eq_false (by omega)
      have HL := Lib.hid (Nat.le_of_not_lt hl)
      clear hl
      go_wp2_with fail
      refine HFW.out.mono ?_
      rintro e w4 ⟨rfl, hb4⟩
      have HB4 := Lib.hid (keep_below hb4 HB3.out)
      clear hb4 x0 x1 p0 p1
      have x0 := (HB1.out.below HB4.out HB1.out.lt).at_ (i := 0) (v := .slice A m cc) rfl
      have x1 := (HB1.out.below HB4.out HB1.out.lt).at_ (i := 1) (v := .int .i64 secs) rfl
      have p0 := (HB2.out.below HB4.out HB2.out.lt).at_ (i := 0) (v := .int .i64 pg) rfl
      have p1 := (HB2.out.below HB4.out HB2.out.lt).at_ (i := 1) (v := .int .i64 pa) rfl
      have HGX := Lib.hid ((HG.out.below HD2.out (Nat.le_refl _)).below HB4.out (Nat.le_refl _))
      have HEN := Lib.hid (encode_own A m cc gs secs pg pa s HGX.out (by have := HL.out; omega))
      obtain ⟨E, hE⟩ : ∃ E, encE gs secs pg pa s = E := ⟨_, rfl⟩
      rw [hE] at HEN
      have HE := Lib.hid hE
      clear hE
      go_wp2_with fail
      refine HEN.out.mono ?_
      rintro e w5 ⟨v, rfl, hsl5, hb5, hown5⟩
      have HB5 := Lib.hid (keep_below hb5 HB4.out)
      clear x0 x1 p0 p1
      by_cases hz : E = 0
      · subst hz
        obtain ⟨e1, e2, e3⟩ := encE_zero HE.out
        rw [e3] at hsl5 hown5
        have hTl : (encL gs secs pg pa s).length ≤ 64 ∧ 0 < (encL gs secs pg pa s).length := by
          rw [encL_len]
          refine ⟨ofList_le _ _ _ _ _, ?_⟩
          rw [ofList_may e2]
          exact cols_pos e2
        have h64 := encL_64 (s := s) e2
        have hBD := bad_any A m cc gs secs pg pa s (HGX.out.below hb5 (Nat.le_refl _)) hsl5 HL.out
        rw [bad_enc7] at hBD
        have hFT := fun (W : World) (hb : Below w5.heap.size w5 W) => fits_any A m cc gs secs pg pa (secN s) ((HGX.out.below hb5 (Nat.le_refl _)).below hb (Nat.le_refl _)) (hsl5.below hb)
        have hfit : fitsB gs secs pg pa (secN s) (encL gs secs pg pa s) = true := fits_64 e2 (by rw [encL_len, ofList_may e2]) (fun t ht => .inr (h64 t ht))
        rw [hfit] at hFT
        have hone := fun (k : Nat) (t : List UInt8) => bad_one (k := k) (t := t) HE.out
        obtain ⟨T, hT⟩ : ∃ T, encL gs secs pg pa s = T := ⟨_, rfl⟩
        rw [hT] at hsl5 hown5 hTl h64 hone
        have hsl := hsl5
        obtain ⟨A5, c5, h5, _, hc5⟩ := hsl
        obtain ⟨g, o5, rfl, _, _⟩ := hc5 hTl.2
        subst h5
        obtain ⟨hg5, rfl, rfl, hK5⟩ := hown5 g o5 _ _ rfl
        have HBD := Lib.hid hBD
        have HFT := Lib.hid hFT
        have HT := Lib.hid (And.intro hTl h64)
        have HONE := Lib.hid hone
        have HK5 := Lib.hid (And.intro hg5 hK5)
        have HSL5 := Lib.hid hsl5
        have x0 := (HB1.out.below HB5.out HB1.out.lt).at_ (i := 0) (v := .slice A m cc) rfl
        have x1 := (HB1.out.below HB5.out HB1.out.lt).at_ (i := 1) (v := .int .i64 secs) rfl
        have p0 := (HB2.out.below HB5.out HB2.out.lt).at_ (i := 0) (v := .int .i64 pg) rfl
        have p1 := (HB2.out.below HB5.out HB2.out.lt).at_ (i := 1) (v := .int .i64 pa) rfl
        clear hT hsl5 hown5 hTl h64 hBD hFT hfit hone hc5 hg5 hK5 e1 e2 e3
        have HB45 := Lib.hid hb5
        clear hb5
        go_wp2_with fail
        refine HBD.out.mono ?_
        rintro e w6 ⟨v6, rfl, hown6, hb6⟩
        obtain ⟨A6, c6, rfl⟩ := (slAt_own hown6).form
        have HB6 := Lib.hid hb6
        have HFT6 := Lib.hid (HFT.out w6 hb6)
        clear x0 x1 p0 p1 hown6 hb6
        have x0 := (HB1.out.below (keep_below HB6.out HB5.out) HB1.out.lt).at_ (i := 0) (v := .slice A m cc) rfl
        have x1 := (HB1.out.below (keep_below HB6.out HB5.out) HB1.out.lt).at_ (i := 1) (v := .int .i64 secs) rfl
        have p0 := (HB2.out.below (keep_below HB6.out HB5.out) HB2.out.lt).at_ (i := 0) (v := .int .i64 pg) rfl
        have p1 := (HB2.out.below (keep_below HB6.out HB5.out) HB2.out.lt).at_ (i := 1) (v := .int .i64 pa) rfl
        have hq : Int.tdiv (s.length : Int) 64 = (secN s : Int) := rfl
        have hs15 : secN s ≤ 15 := by have := HL.out; unfold secN; omega
        go_wp2_with fail
        refine HFT6.out.mono ?_
        rintro e w7 ⟨rfl, hb7⟩
        have HB7 := Lib.hid (keep_below hb7 HB6.out)
        clear hb7 x0 x1 p0 p1 hq hs15
        have hTl := HT.out.1.2
        obtain ⟨kk, hkk⟩ : ∃ kk, at_ % T.length = kk := ⟨_, rfl⟩
        have hkl : kk < T.length := by rw [← hkk]; exact Nat.mod_lt _ hTl
        have hm1 : (at_ : Int) % (T.length : Int) = (kk : Int) := by rw [← hkk]; rfl
        obtain ⟨j, hj⟩ : ∃ j, at_ % 64 = j := ⟨_, rfl⟩
        have hm2 : (at_ : Int) % 64 = (j : Int) := by rw [← hj]; rfl
        obtain ⟨tk, htk⟩ : ∃ tk, T[kk]? = some tk := ⟨_, List.getElem?_eq_getElem hkl⟩
        have htl : tk.length = 64 := HT.out.2 tk (List.mem_of_getElem? htk)
        have hjl : j < 64 := by omega
        obtain ⟨x, hx⟩ : ∃ x, tk[j]? = some x := ⟨_, List.getElem?_eq_getElem (by omega)⟩
        have hK7 := HK5.out.2.below HB7.out HK5.out.2.lt
        have y0 : w7.cell? ⟨g, kk, none⟩ = some (str tk) := hK7.at_ (by have := strC_at htk; simpa using this)
        obtain ⟨c8, w8, r8, hb8, hs8, hc8, hf8⟩ := bytes_new7 w7 tk
        rw [htl] at r8
        have y1 := hc8 j x hx
        have y2 := hf8 j (by omega)
        obtain ⟨t', ht'⟩ : ∃ t', tk.set j (x ^^^ q) = t' := ⟨_, rfl⟩
        have htl' : t'.length = 64 := by rw [← ht', List.length_set, htl]
        have cellw : ∀ i y, t'[i]? = some y → (w8.setCell ⟨w7.heap.size, j, none⟩ (.int .u8 (bits BinOp.xor IntKind.u8 x.toNat q.toNat))).cell? ⟨w7.heap.size, i, none⟩ = some (.int .u8 y.toNat) := by
          intro i y hy
          rw [← ht', List.getElem?_set] at hy
          by_cases e : j = i
          · subst e
            rw [if_pos rfl, if_pos (by omega)] at hy
            cases hy
            rw [World.cell?_setCell_same _ _ _ y1, xor_cell]
          · rw [if_neg e] at hy
            rw [World.cell?_setCell_other _ _ _ _ (by intro h; injection h with _ h; exact e h)]
            exact hc8 i y hy
        have hback := run_convert_bytes_back (P := Try.prog) (w8.setCell ⟨w7.heap.size, j, none⟩ (.int .u8 (bits BinOp.xor IntKind.u8 x.toNat q.toNat))) 45 9 5 ⟨w7.heap.size, 0, none⟩ c8 t' Try.underlying45 Try.underlying5 Try.underlying9
          (fun i hi => by
            have := cellw i _ (List.getElem?_eq_getElem hi)
            rw [Addr.add_mid, Nat.zero_add]; exact this)
        rw [htl'] at hback
        have hgn : g ≠ w7.heap.size := by have := hK7.lt; omega
        have hK8 : Blk (w8.setCell ⟨w7.heap.size, j, none⟩ (.int .u8 (bits BinOp.xor IntKind.u8 x.toNat q.toNat))) g 9 (strC T).toArray := (hK7.below hb8 hK7.lt).far hgn _
        have y3 : (w8.setCell ⟨w7.heap.size, j, none⟩ (.int .u8 (bits BinOp.xor IntKind.u8 x.toNat q.toNat))).cell? ⟨g, kk, none⟩ = some (str tk) := hK8.at_ (by have := strC_at htk; simpa using this)
        have y4 := hK8.fr kk
        obtain ⟨w10, hw10⟩ : ∃ z, (w8.setCell ⟨w7.heap.size, j, none⟩ (.int .u8 (bits BinOp.xor IntKind.u8 x.toNat q.toNat))).setCell ⟨g, kk, none⟩ (str t') = z := ⟨_, rfl⟩
        have hK10 : Blk w10 g 9 (strC (T.set kk t')).toArray := by
          rw [← hw10, ← strC_put]
          exact hK8.put kk _
        have hb10 : Below w4.heap.size w4 w10 := by
          rw [← hw10]
          refine below_set (below_set ?_ _ _ _ ?_) _ _ _ HK5.out.1
          · exact keep_below hb8 (keep_below HB7.out HB45.out)
          · have := HB7.out.size; have := HB45.out.size; omega
        have hlen10 : (T.set kk t').length = T.length := List.length_set
        have hsl10 : SlAt w10 (.slice (some ⟨g, 0, none⟩) T.length T.length) (T.set kk t').length (strC (T.set kk t')) := by
          rw [hlen10]
          exact ⟨_, _, rfl, Nat.le_refl _, fun _ => ⟨g, 0, rfl, hK10.lt, fun i u hu => by rw [Nat.zero_add]; exact hK10.at_ (by simpa using hu)⟩⟩
        have hBD := bad_any A m cc gs secs pg pa s (HGX.out.below hb10 (Nat.le_refl _)) hsl10 HL.out
        rw [HONE.out kk t' hkl htl'] at hBD
        have htd : T.getD kk [] = tk := gotD_at htk
        rw [htd] at hBD
        have hb2 : Below w2.heap.size w2 w10 := keep_below hb10 HB4.out
        have x0 := (HB1.out.below hb2 HB1.out.lt).at_ (i := 0) (v := .slice A m cc) rfl
        have x1 := (HB1.out.below hb2 HB1.out.lt).at_ (i := 1) (v := .int .i64 secs) rfl
        have p0 := (HB2.out.below hb2 HB2.out.lt).at_ (i := 0) (v := .int .i64 pg) rfl
        have p1 := (HB2.out.below hb2 HB2.out.lt).at_ (i := 1) (v := .int .i64 pa) rfl
        rw [← hw10] at x0 x1 p0 p1
        have HW10 := Lib.hid hw10
        have HB10 := Lib.hid (keep_below hb2 HD2.out)
        have HTT := Lib.hid (And.intro ht' (And.intro hx htl))
        have HBX := Lib.hid hBD
        clear hw10 hb10 hb2 hBD hsl10 hlen10 hK10 hK8 hgn cellw hc8 hf8 hb8 hs8 hK7 ht' htd htl' htl hx htk hkk hj
        obtain ⟨BL, hBL⟩ : ∃ BL : List Nat, BL = if tk = t' then [] else [kk] := ⟨_, rfl⟩
        rw [← hBL] at HBX
        have HBL := Lib.hid hBL
        clear hBL
        go_wp2_with fail
        rw [HW10.out]
        refine HBX.out.mono ?_
        rintro e w11 ⟨v11, rfl, hown11, hb11⟩
        have HB11 := Lib.hid (keep_below hb11 HB10.out)
        clear x0 x1 p0 p1 hb11 y0 y1 y2 y3 y4 r8 hback
        by_cases hq0 : q = 0
        · have hqn : ((q.toNat : Int) == 0) = true := by rw [hq0]; rfl
          have he : tk = t' := by
            obtain ⟨h1, h2, _⟩ := HTT.out
            rw [← h1, hq0, UInt8.xor_zero]
            apply List.ext_getElem?
            intro i
            rw [List.getElem?_set]
            by_cases e : j = i
            · subst e
              rw [if_pos rfl, if_pos (List.getElem?_eq_some_iff.1 h2).1, h2]
            · rw [if_neg e]
          obtain rfl : BL = [] := by rw [HBL.out, if_pos he]
          obtain ⟨A11, c11, rfl⟩ := (slAt_own hown11).form
          clear he hq0 hown11
          go_wp2_with fail
          go_ret
          exact ⟨rfl, HB11.out⟩
        · have he : tk ≠ t' := by
            obtain ⟨h1, h2, h3⟩ := HTT.out
            intro e
            have h4 : t'[j]? = some (x ^^^ q) := by rw [← h1, List.getElem?_set, if_pos rfl, if_pos (by omega)]
            rw [← e, h2] at h4
            have h5 : x = x ^^^ q := Option.some.inj h4
            have h6 : x ^^^ x = x ^^^ (x ^^^ q) := congrArg (x ^^^ ·) h5
            rw [UInt8.xor_self, ← UInt8.xor_assoc, UInt8.xor_self, UInt8.zero_xor] at h6
            exact hq0 h6.symm
          obtain rfl : BL = [kk] := by rw [HBL.out, if_neg he]
          have hqn : ((q.toNat : Int) == 0) = false := by
            rw [beq_eq_false_iff_ne]
            intro h
            exact hq0 (UInt8.toNat_inj.1 (by simpa using h))
          have hqm : ((q.toNat : Int) != 0) = true := by rw [bne, hqn]; rfl
          clear he hq0
          obtain ⟨A11, c11, h11, _, hcell11⟩ := slAt_own hown11
          subst h11
          obtain ⟨b11, o11, rfl, _, hc11⟩ := hcell11 (Nat.succ_pos _)
          have z0 : w11.cell? ⟨b11, o11, none⟩ = some (.int .i64 kk) := by simpa using hc11 0 _ rfl
          clear hown11 hc11 hcell11
          go_wp2_with fail
          go_ret
          exact ⟨rfl, HB11.out⟩
      · have hne : (E != 0) = true := bne_iff_ne.2 hz
        clear hz hsl5 hb5 hown5
        go_wp2_with fail
        go_ret
        exact ⟨rfl, keep_below HB5.out HD2.out⟩
theorem codeBad_all (A : Option Addr) (m cc : Nat) (gs : List (Int × Int)) (secs pg pa : Int) (s : List UInt8) (hsl : s.length ≤ 9223372036854775807) (at_ : Nat) (ha : at_ < 256) (q : Nat) (hq : q < 256) {w : World} (hg : GeoAt w A m gs) :
    Calls Try.prog 6 #[.agg #[.slice A m cc, .int .i64 secs], .agg #[.int .i64 pg, .int .i64 pa], str s, .int .u8 at_, .int .u8 q] w fun e w' => e = .returned (.bool true) ∧ Below w.heap.size w w' := by
  have h := codeBad_any A m cc gs secs pg pa s hsl at_ ha (UInt8.ofNat q) hg
  rwa [UInt8.toNat_ofNat_of_lt' (by simpa using hq)] at h
end Go.Proofs.Ytefhmemmfajbfaa
