/-
  Contracts of package code: Encode.
  Arguments that are slices of texts, and of bytes, opened.
  Slices of columns that are read: Same, Rows; the document's example.
-/
import Derived.Test.YtefhmemmfajbfaaJ05
import Derived.Test.YtefhmemmfajbfaaJ01
import Derived.Deep.Strs
namespace Go.Proofs.Ytefhmemmfajbfaa
set_option linter.unusedVariables false
set_option linter.unusedSimpArgs false
open Go.RowKit

theorem ofList_le (gs : List (Int × Int)) (secs pg pa size : Int) : (ofList gs secs pg pa size).length ≤ 64 := by
  unfold ofList
  split
  · rename_i h
    obtain ⟨hhas, hz1, hz2, _⟩ := cMay_true h
    obtain ⟨sz, rfl⟩ := Int.eq_ofNat_of_zero_le (show 0 ≤ size by omega)
    obtain ⟨g, x, rfl, hk, hl4, hs1, hs2, hx, hgx, ho⟩ := gHas_true hhas
    unfold colsOf
    rw [hgx]
    obtain ⟨kd, wd⟩ := x
    split
    · rw [mirror, mirTo_len]
      have : wd.toNat ≤ 8 := by have := gOne_true ho; simp only at this; omega
      have := Nat.mul_le_mul this (show (sz : Int).toNat ≤ 4 by omega)
      simp only at this ⊢
      omega
    · have := parTo_len (gFirst gs secs g) wd pa (sz : Int).toNat
      simp only at this ⊢
      omega
  · simp
/-- A row that is turned from h to g, as far as k. -/
def stepL (N : Nat) (g h : Nat → List UInt8) (k : Nat) : List (List UInt8) := (List.range N).map fun i => if i < k then g i else h i
theorem stepL_len (N : Nat) (g h : Nat → List UInt8) (k : Nat) : (stepL N g h k).length = N := by simp [stepL]
theorem stepL_zero (N : Nat) (g h : Nat → List UInt8) : stepL N g h 0 = (List.range N).map h := by simp [stepL]
theorem stepL_all (N : Nat) (g h : Nat → List UInt8) : stepL N g h N = (List.range N).map g := by
  unfold stepL
  exact List.map_congr_left fun i hi => if_pos (List.mem_range.1 hi)
theorem stepL_at {N : Nat} {g h : Nat → List UInt8} {k i : Nat} (hi : i < N) : (stepL N g h k)[i]? = some (if i < k then g i else h i) := by simp [stepL, hi]
theorem stepL_same {N : Nat} {g h : Nat → List UInt8} {k : Nat} (e : g k = h k) : stepL N g h (k + 1) = stepL N g h k := by
  unfold stepL
  refine List.map_congr_left fun i hi => ?_
  by_cases h1 : i < k
  · rw [if_pos h1, if_pos (by omega)]
  · by_cases h2 : i = k
    · subst h2; rw [if_pos (by omega), if_neg h1, e]
    · rw [if_neg h1, if_neg (by omega)]
theorem stepL_set {N : Nat} {g h : Nat → List UInt8} {k : Nat} : (stepL N g h k).set k (g k) = stepL N g h (k + 1) := by
  apply List.ext_getElem?
  intro i
  by_cases hi : i < N
  · rw [stepL_at hi, List.getElem?_set, stepL_len, stepL_at hi]
    by_cases h2 : k = i
    · subst h2; rw [if_pos rfl, if_pos hi, if_pos (by omega)]
    · rw [if_neg h2]
      by_cases h1 : i < k
      · rw [if_pos h1, if_pos (by omega)]
      · rw [if_neg h1, if_neg (by omega)]
  · rw [List.getElem?_eq_none (by rw [List.length_set, stepL_len]; omega), List.getElem?_eq_none (by rw [stepL_len]; omega)]
theorem strC_map (l : List (List UInt8)) : strC l = l.map fun s => str s := by
  induction l with
  | nil => rfl
  | cons x l ih => rw [List.map_cons, ← ih]; rfl
theorem strC_put (l : List (List UInt8)) (k : Nat) (s : List UInt8) : (strC l).toArray.setIfInBounds k (str s) = (strC (l.set k s)).toArray := by
  rw [strC_map, strC_map]
  simp [List.map_set]
theorem mk_strs (w : World) (n : Nat) (hn : n ≤ 16384) : ∃ w1, (Instr.makeSlice 27 (.int .i64 n) (.int .i64 n)).run Try.prog w = .ok (.slice (some ⟨w.heap.size, 0, none⟩) n n) w1 ∧
    Blk w1 w.heap.size 9 (strC (List.replicate n [])).toArray ∧ w1.heap.size = w.heap.size + 1 ∧ Below w.heap.size w w1 := by
  obtain ⟨i0, hi, hz0, hz1, hz2⟩ := info_parts Try.infoStr
  have hrun := run_makeSlice w 27 9 i0 (.string ⟨#[]⟩) Try.underlying27 hi hz0 .i64 .i64 n n (by omega) (Int.le_refl _) (by rw [hz1]; omega) (by rw [hz2]; omega) (by omega)
  have hc : madeCells (Value.string ⟨#[]⟩).cells ((n : Int).toNat * i0.size) = (strC (List.replicate n [])).toArray := by
    rw [hz1, Int.toNat_natCast, Nat.mul_one]
    apply Array.ext'
    have : (Value.string ⟨#[]⟩).cells = #[.string ⟨#[]⟩] := rfl
    rw [this, toList_madeCells_one, strC_map]
    simp
  rw [hc, Int.toNat_natCast] at hrun
  exact ⟨_, hrun, Blk.new _ _ _, by simp, keep_alloc (Below.refl _ _) _⟩
theorem outE_data {L : List Col} {data : List (List UInt8)} {i : Nat} {c : Col} (h : L[i]? = some c) (hp : c.2.2.1 = false) : outE L data i = outD L data i := by unfold outE; rw [h]; simp [hp]
theorem outE_par {L : List Col} {data : List (List UInt8)} {i : Nat} {c : Col} (h : L[i]? = some c) (hp : c.2.2.1 = true) : outE L data i = makeS ((rowIx L c.2.2.2).map (outD L data)) := by unfold outE; rw [h]; simp [hp]
theorem outD_par {L : List Col} {data : List (List UInt8)} {i : Nat} {c : Col} (h : L[i]? = some c) (hp : c.2.2.1 = true) : outD L data i = [] := by unfold outD; rw [h]; simp [hp]
theorem outD_data {L : List Col} {data : List (List UInt8)} {i : Nat} {c : Col} (h : L[i]? = some c) (hp : c.2.2.1 = false) : outD L data i = data.getD (dataCnt L i % data.length) [] := by unfold outD; rw [h]; simp [hp]
theorem outD_le {L : List Col} {data : List (List UInt8)} (h : ∀ (j : Nat) (y : List UInt8), data[j]? = some y → y.length = 64) (i : Nat) : (outD L data i).length ≤ 64 := by
  unfold outD
  split
  · simp
  · split
    · simp
    · rw [List.getD_eq_getElem?_getD]
      cases hq : data[dataCnt L i % data.length]? with
      | none => simp
      | some y => rw [Option.getD_some, h _ _ hq]; exact Nat.le_refl _
theorem dataCnt_le (L : List Col) (k : Nat) : dataCnt L k ≤ L.length := Nat.le_trans (List.length_filter_le _ _) (by rw [List.length_take]; omega)

set_option maxRecDepth 20000 in
set_option maxHeartbeats 1000000 in
theorem encode_own (A : Option Addr) (m cc : Nat) (gs : List (Int × Int)) (secs pg pa : Int) (s : List UInt8) {w : World} (hg : GeoAt w A m gs) (hl : s.length ≤ 140737488355328) :
    Calls Try.prog 10 #[.agg #[.slice A m cc, .int .i64 secs], .agg #[.int .i64 pg, .int .i64 pa], str s] w fun e w' => ∃ v, e = .returned (.tuple #[v, .int .i64 (encE gs secs pg pa s)]) ∧
      SlAt w' v (encS gs secs pg pa s).length (strC (encS gs secs pg pa s)) ∧ Below w.heap.size w w' ∧ ∀ b o n c, v = .slice (some ⟨b, o, none⟩) n c → w.heap.size ≤ b ∧ o = 0 ∧ n = c ∧ Blk w' b 9 (strC (encS gs secs pg pa s)).toArray := by
  obtain ⟨w1, hw1⟩ : ∃ x, (w.alloc (.cells #[.slice A m cc, .int .i64 secs] 24)).alloc (.cells #[.int .i64 pg, .int .i64 pa] 26) = x := ⟨_, rfl⟩
  have G1 : Blk w1 w.heap.size 24 #[.slice A m cc, .int .i64 secs] := by rw [← hw1]; exact (Blk.new _ _ _).alloc _
  have P1 : Blk w1 (w.heap.size + 1) 26 #[.int .i64 pg, .int .i64 pa] := by rw [← hw1]; exact Blk.new2 w _ _ _
  have D1 : Below w.heap.size w w1 := by rw [← hw1]; exact keep_alloc (keep_alloc (Below.refl _ _) _) _
  have HG1 := Lib.hid G1
  have HP1 := Lib.hid P1
  have HD1 := Lib.hid D1
  have HG := Lib.hid hg
  have HW1 := Lib.hid hw1
  have HS := Lib.hid (codeSectors_any s w1 hl)
  have HV : Hid ((secOk s = false → encS gs secs pg pa s = [] ∧ encE gs secs pg pa s = 1) ∧ (secOk s = true → encE gs secs pg pa s = ofErr gs secs pg pa (secN s) ∧ (ofErr gs secs pg pa (secN s) ≠ 0 → encS gs secs pg pa s = []) ∧ (ofErr gs secs pg pa (secN s) = 0 → encS gs secs pg pa s = encL gs secs pg pa s))) := Lib.hid (by
    unfold encS encE
    refine ⟨fun h => by rw [h]; simp, fun h => ⟨by rw [h]; simp, fun h2 => by rw [h, decide_eq_false h2]; simp, fun h2 => by rw [h, decide_eq_true h2]; simp⟩⟩)
  clear hg hw1 G1 P1 D1 hl
  go_enter Try.func10, Try.ntmps10
  go_wp2_with fail
  rw [HW1.out]
  clear HW1
  refine HS.out.mono ?_
  rintro e w2 ⟨dv, rfl, hrow, hb2⟩
  cases hok : secOk s with
  | false =>
    obtain ⟨v1, v2⟩ := HV.out.1 hok
    have HVV := Lib.hid (And.intro v1 v2)
    have HD2 := Lib.hid (keep_below hb2 HD1.out)
    clear hrow hb2 hok v1 v2 HV HS
    go_wp2_with fail
    go_ret2
    rw [HVV.out.1, HVV.out.2]
    exact ⟨_, rfl, ⟨none, 0, rfl, Nat.le_refl _, fun h => absurd h (Nat.lt_irrefl 0)⟩, HD2.out, fun b o n c e => (by cases e)⟩
  | true =>
    have hrow := hrow hok
    obtain ⟨v1, v2, v3⟩ := HV.out.2 hok
    have hD : 1 ≤ secN s ∧ secN s ≤ 4 := by
      unfold secOk at hok
      simp only [Bool.and_eq_true, decide_eq_true_eq] at hok
      have := List.length_pos_iff.2 hok.1
      unfold secN
      omega
    obtain ⟨D, hDD⟩ : ∃ D, D = secN s := ⟨_, rfl⟩
    have hdl : (secsL s).length = D := by rw [secsL_len, hDD]
    have hdat : ∀ i, i < D → ∃ x, (secsL s)[i]? = some x ∧ x.length = 64 ∧ (secsL s).getD i [] = x := fun i hi => ⟨secAt s i, secsL_at (by omega), secAt_len (by omega), by rw [List.getD_eq_getElem?_getD, secsL_at (by omega)]; rfl⟩
    obtain ⟨L, hL⟩ : ∃ L, L = ofList gs secs pg pa (secN s) := ⟨_, rfl⟩
    have hL64 : L.length ≤ 64 := by rw [hL]; exact ofList_le _ _ _ _ _
    have hEL : encL gs secs pg pa s = (List.range L.length).map (outE L (secsL s)) := by unfold encL; rw [hL]
    rw [← hDD] at hrow v1 v2 v3 hD
    rw [hEL] at v3
    obtain ⟨Ad, cd, rfl⟩ := (slAt_own hrow).form
    obtain ⟨data, hdd⟩ : ∃ d, d = secsL s := ⟨_, rfl⟩
    rw [← hdd] at hrow hdl hdat v3
    have HD2 := Lib.hid (keep_below hb2 HD1.out)
    have HDR := Lib.hid (slAt_own hrow)
    have hg0 := (HG1.out.below hb2 HG1.out.lt).at_ (i := 0) (v := .slice A m cc) rfl
    have hg1 := (HG1.out.below hb2 HG1.out.lt).at_ (i := 1) (v := .int .i64 secs) rfl
    have hp0 := (HP1.out.below hb2 HP1.out.lt).at_ (i := 0) (v := .int .i64 pg) rfl
    have hp1 := (HP1.out.below hb2 HP1.out.lt).at_ (i := 1) (v := .int .i64 pa) rfl
    have HO := Lib.hid (of_any A m cc gs secs pg pa (D : Int) w2 (HG.out.below HD2.out (Nat.le_refl _)))
    rw [show ofList gs secs pg pa (D : Int) = L by rw [hL, hDD]] at HO
    have HVV := Lib.hid (And.intro v1 (And.intro v2 v3))
    have HDAT := Lib.hid (And.intro hdl hdat)
    have HDB := Lib.hid hD
    clear hrow hb2 hok v1 v2 v3 HV HS hDD hL hEL hdd hdl hdat hD
    generalize ofErr gs secs pg pa (D : Int) = oe at *
    go_wp2_with fail
    refine HO.out.mono ?_
    rintro e wC ⟨cv, rfl, hcol, hbC⟩
    have HDC := Lib.hid (keep_below hbC HD2.out)
    by_cases hoe : oe = 0
    · subst hoe
      have hSL := HVV.out.2.2 rfl
      obtain ⟨Ac, ccap, rfl⟩ := (slAt_own hcol).form
      have H := Lib.hid (slAt_own hcol)
      have HDA := Lib.hid (HDR.out.below hbC)
      obtain ⟨wM, rM, hbM, hsM, hdM⟩ := mk_strs wC L.length (by omega)
      have hz : List.replicate L.length [] = stepL L.length (outD L data) (fun _ => []) 0 := by rw [stepL_zero]; simp [List.map_const']
      rw [hz] at hbM
      have HBM := Lib.hid hbM
      have HDM := Lib.hid hdM
      have HSL := Lib.hid hSL
      clear hcol hbC hbM hdM hz hSL hsM hg0 hg1 hp0 hp1 HO
      go_wp2_with fail
      clear rM
      obtain ⟨f, hf⟩ : ∃ f, f = outD L data := ⟨_, rfl⟩
      rw [← hf] at HBM
      have HFF := Lib.hid hf
      clear hf
      go_loopw [13, 14, 15, 44] (fun n _ _ t wr => ∃ k : Nat, k ≤ L.length ∧ t = .int .i64 k ∧ n = .int .i64 (dataCnt L k) ∧ Blk wr wC.heap.size 9 (strC (stepL L.length f (fun _ => []) k)).toArray ∧ Below wC.heap.size wC wr) (fun _ _ _ t _ => L.length - (RowKit.intOf t).toNat)
      case atStart => exact ⟨0, Nat.zero_le _, rfl, rfl, HBM.out, HDM.out⟩
      case round =>
        clear HBM HDM
        obtain ⟨k, hk, rfl, rfl, hblk, hb⟩ := hrel
        have HB := Lib.hid hb
        have HK := Lib.hid hblk
        clear hb hblk
        by_cases hlt : k < L.length
        · obtain ⟨b, o, rfl, hbl, hcell⟩ := H.out.cells (by omega)
          obtain ⟨x, hx⟩ : ∃ x, L[k]? = some x := ⟨_, List.getElem?_eq_getElem hlt⟩
          obtain ⟨q0, q1, q2, q3⟩ := colsCells_at hx
          have hcl : ∀ j u, (colsCells L)[j]? = some u → wr.cell? ⟨b, o + j, none⟩ = some u := fun j u hu => (World.cell?_of_block (HB.out.block b hbl)).trans (hcell j u hu)
          have f0 : wr.cell? ⟨b, o + k * 4, none⟩ = some (.int .i64 x.1) := hcl _ _ q0
          have f1 : wr.cell? ⟨b, o + k * 4 + 1, none⟩ = some (.int .i64 x.2.1) := hcl _ _ q1
          have f2 : wr.cell? ⟨b, o + k * 4 + 2, none⟩ = some (.bool x.2.2.1) := hcl _ _ q2
          have f3 : wr.cell? ⟨b, o + k * 4 + 3, none⟩ = some (.int .i64 x.2.2.2) := hcl _ _ q3
          have hdc : decide (k < L.length) = true := decide_eq_true hlt
          have HLT := Lib.hid hlt
          have HX := Lib.hid hx
          have hi44 : (Try.prog.info? 40).map (·.size) = some (#[.int .i64 x.1, .int .i64 x.2.1, .bool x.2.2.1, .int .i64 x.2.2.2] : Array Value).size := by kernel_rfl
          have h1c : (#[.int .i64 x.1, .int .i64 x.2.1, .bool x.2.2.1, .int .i64 x.2.2.2] : Array Value).all (·.oneCell') = true := by kernel_rfl
          have Z2 : Blk (wr.alloc (.cells colZ 40)) wr.heap.size 40 colZ := Blk.new _ _ _
          have hth : (wr.alloc (.cells colZ 40)).there wr.heap.size 0 (#[.int .i64 x.1, .int .i64 x.2.1, .bool x.2.2.1, .int .i64 x.2.2.2] : Array Value).size := Z2.there (Nat.le_refl _)
          obtain ⟨w2, hw2⟩ : ∃ y, (wr.alloc (.cells colZ 40)).setCells wr.heap.size 0 (#[.int .i64 x.1, .int .i64 x.2.1, .bool x.2.2.1, .int .i64 x.2.2.2] : Array Value).toList = y := ⟨_, rfl⟩
          have X2 : Blk w2 wr.heap.size 40 #[.int .i64 x.1, .int .i64 x.2.1, .bool x.2.2.1, .int .i64 x.2.2.2] := by rw [← hw2]; exact Z2.putAll _ rfl
          have hb2 : Below wr.heap.size wr w2 := by rw [← hw2]; exact below_sets _ _ (keep_alloc (Below.refl _ _) _) (Nat.le_refl _)
          have hs2 : w2.heap.size = wr.heap.size + 1 := by rw [← hw2, sets_size', World.size_alloc]
          have HW2 := Lib.hid hw2
          have HX2 := Lib.hid X2
          have HK2 := Lib.hid hb2
          have HS2 := Lib.hid hs2
          have e2 : w2.cell? ⟨wr.heap.size, 2, none⟩ = some (.bool x.2.2.1) := X2.at_ rfl
          have e3 : w2.cell? ⟨wr.heap.size, 3, none⟩ = some (.int .i64 x.2.2.2) := X2.at_ rfl
          clear q0 q1 q2 q3 hcl hcell hx hbl hw2 X2 hb2 hs2 Z2
          have HK2B := Lib.hid (HK.out.below HK2.out HK.out.lt)
          have HD2B := Lib.hid (HB.out.trans (HK2.out.mono HB.out.size))
          cases hpar : x.2.2.1 with
          | true =>
            rw [hpar] at e2
            have HT : Hid (stepL L.length f (fun _ => []) (k + 1) = stepL L.length f (fun _ => []) k ∧ dataCnt L (k + 1) = dataCnt L k) := Lib.hid ⟨stepL_same (by rw [HFF.out]; exact outD_par HX.out hpar), by rw [dataCnt_succ HX.out, hpar]; rfl⟩
            clear hpar
            go_wp2_with ((with_reducible refine wpList_store_mid ?a1 40 (.tmp 15) (.tmp 48) ?a2 wr.heap.size 0 #[.int .i64 x.1, .int .i64 x.2.1, .bool x.2.2.1, .int .i64 x.2.2.2] ?a3 ?a4 hth hi44 h1c ?_); (case a1 => rfl); (case a2 => rfl); (case a3 => rfl); (case a4 => rfl); simp only [Act.put, List.setIfInBounds_toArray, List.set_cons_zero, List.set_cons_succ]; rw [HW2.out])
            go_roundw
            case rel => exact ⟨k + 1, HLT.out, by go_num, by rw [HT.out.2], by rw [HT.out.1]; exact HK2B.out, HD2B.out⟩
            case measure => have := HLT.out; simp [RowKit.intOf]; omega
          | false =>
            rw [hpar] at e2
            obtain ⟨q, hq⟩ : ∃ q, q = dataCnt L k % D := ⟨_, rfl⟩
            have hqD : q < D := by rw [hq]; exact Nat.mod_lt _ (by have := HDB.out; omega)
            obtain ⟨y, hy, hy64, hyd⟩ := HDAT.out.2 q hqD
            have HT : Hid (f k = y ∧ dataCnt L (k + 1) = dataCnt L k + 1) := Lib.hid ⟨by rw [HFF.out, outD_data HX.out hpar, HDAT.out.1, ← hq]; exact hyd, by rw [dataCnt_succ HX.out, hpar]; rfl⟩
            obtain ⟨bd, od, rfl, hbd, hcd⟩ := HDA.out.cells (by omega)
            have g8 : w2.cell? ⟨bd, od + q, none⟩ = some (str y) := (World.cell?_of_block ((HK2.out.block bd (Nat.lt_of_lt_of_le hbd HB.out.size)).trans (HB.out.block bd hbd))).trans (hcd q _ (strC_at hy))
            have c8 : w2.cell? ⟨wC.heap.size, k, none⟩ = some (str []) := HK2B.out.at_ (by
              have := stepL_at (N := L.length) (g := f) (h := fun _ => []) (k := k) HLT.out
              rw [if_neg (Nat.lt_irrefl k)] at this
              rw [List.getElem?_toArray]
              exact strC_at this)
            have z8 : w2.frozen? ⟨wC.heap.size, k, none⟩ = false := HK2B.out.fr k
            have hnD : ((D : Int) == 0) = false := by rw [beq_eq_false_iff_ne]; have := HDB.out; omega
            have hrem : Int.tmod (dataCnt L k : Int) (D : Int) = (q : Int) := by rw [hq]; rfl
            have hdn := dataCnt_le L k
            clear hpar hq hbd hcd hy hyd
            go_wp2_with ((with_reducible refine wpList_store_mid ?a1 40 (.tmp 15) (.tmp 48) ?a2 wr.heap.size 0 #[.int .i64 x.1, .int .i64 x.2.1, .bool x.2.2.1, .int .i64 x.2.2.2] ?a3 ?a4 hth hi44 h1c ?_); (case a1 => rfl); (case a2 => rfl); (case a3 => rfl); (case a4 => rfl); simp only [Act.put, List.setIfInBounds_toArray, List.set_cons_zero, List.set_cons_succ]; rw [HW2.out])
            go_roundw
            case rel => exact ⟨k + 1, HLT.out, by go_num, by rw [HT.out.2]; rfl, by have h := HK2B.out.put k (str (f k)); rw [strC_put, stepL_set, HT.out.1] at h; exact h, below_set HD2B.out _ _ _ (Nat.le_refl _)⟩
            case measure => have := HLT.out; simp [RowKit.intOf]; omega
        · obtain rfl : k = L.length := by omega
          have hdc : decide ((L.length : Int) < L.length) = false := decide_eq_false (by omega)
          go_wp2_with fail
          obtain ⟨g, hg⟩ : ∃ g, g = outE L data := ⟨_, rfl⟩
          have HK0 : Hid (Blk wr wC.heap.size 9 (strC (stepL L.length g f 0)).toArray) := Lib.hid (by rw [stepL_zero, ← stepL_all L.length f (fun _ => [])]; exact HK.out)
          have HFL : Hid (∀ i, (f i).length ≤ 64) := Lib.hid (fun i => by
            rw [HFF.out]
            exact outD_le (fun j y h => by
              obtain ⟨x, h1, h2, _⟩ := HDAT.out.2 j (by rw [← HDAT.out.1]; exact (List.getElem?_eq_some_iff.1 h).1)
              rw [h1] at h
              cases h
              exact h2) i)
          have HB0 := Lib.hid HB.out
          have HGG := Lib.hid hg
          clear hg HK HB
          obtain ⟨i0, hi, hz0, hz1, hz2⟩ := info_parts Try.infoStr
          go_loopw [16, 17, 18, 20, 67] (fun _ _ _ _ t wr => ∃ k : Nat, k ≤ L.length ∧ t = .int .i64 k ∧ Blk wr wC.heap.size 9 (strC (stepL L.length g f k)).toArray ∧ Below wC.heap.size wC wr) (fun _ _ _ _ t _ => L.length - (RowKit.intOf t).toNat)
          case atStart => exact ⟨0, Nat.zero_le _, rfl, HK0.out, HB0.out⟩
          case round =>
            clear HK0 HB0
            obtain ⟨k, hk, rfl, hblk, hb⟩ := hrel
            have HB := Lib.hid hb
            have HK := Lib.hid hblk
            clear hb hblk
            by_cases hlt : k < L.length
            · obtain ⟨b, o, rfl, hbl, hcell⟩ := H.out.cells (by omega)
              obtain ⟨x, hx⟩ : ∃ x, L[k]? = some x := ⟨_, List.getElem?_eq_getElem hlt⟩
              obtain ⟨q0, q1, q2, q3⟩ := colsCells_at hx
              have hcl : ∀ j u, (colsCells L)[j]? = some u → wr.cell? ⟨b, o + j, none⟩ = some u := fun j u hu => (World.cell?_of_block (HB.out.block b hbl)).trans (hcell j u hu)
              have f0 : wr.cell? ⟨b, o + k * 4, none⟩ = some (.int .i64 x.1) := hcl _ _ q0
              have f1 : wr.cell? ⟨b, o + k * 4 + 1, none⟩ = some (.int .i64 x.2.1) := hcl _ _ q1
              have f2 : wr.cell? ⟨b, o + k * 4 + 2, none⟩ = some (.bool x.2.2.1) := hcl _ _ q2
              have f3 : wr.cell? ⟨b, o + k * 4 + 3, none⟩ = some (.int .i64 x.2.2.2) := hcl _ _ q3
              have hdc : decide (k < L.length) = true := decide_eq_true hlt
              have HLT := Lib.hid hlt
              have HX := Lib.hid hx
              have hi44 : (Try.prog.info? 40).map (·.size) = some (#[.int .i64 x.1, .int .i64 x.2.1, .bool x.2.2.1, .int .i64 x.2.2.2] : Array Value).size := by kernel_rfl
              have h1c : (#[.int .i64 x.1, .int .i64 x.2.1, .bool x.2.2.1, .int .i64 x.2.2.2] : Array Value).all (·.oneCell') = true := by kernel_rfl
              have Z2 : Blk (wr.alloc (.cells colZ 40)) wr.heap.size 40 colZ := Blk.new _ _ _
              have hth : (wr.alloc (.cells colZ 40)).there wr.heap.size 0 (#[.int .i64 x.1, .int .i64 x.2.1, .bool x.2.2.1, .int .i64 x.2.2.2] : Array Value).size := Z2.there (Nat.le_refl _)
              obtain ⟨w2, hw2⟩ : ∃ y, (wr.alloc (.cells colZ 40)).setCells wr.heap.size 0 (#[.int .i64 x.1, .int .i64 x.2.1, .bool x.2.2.1, .int .i64 x.2.2.2] : Array Value).toList = y := ⟨_, rfl⟩
              have X2 : Blk w2 wr.heap.size 40 #[.int .i64 x.1, .int .i64 x.2.1, .bool x.2.2.1, .int .i64 x.2.2.2] := by rw [← hw2]; exact Z2.putAll _ rfl
              have hb2 : Below wr.heap.size wr w2 := by rw [← hw2]; exact below_sets _ _ (keep_alloc (Below.refl _ _) _) (Nat.le_refl _)
              have hs2 : w2.heap.size = wr.heap.size + 1 := by rw [← hw2, sets_size', World.size_alloc]
              have HW2 := Lib.hid hw2
              have HX2 := Lib.hid X2
              have HK2 := Lib.hid hb2
              have HS2 := Lib.hid hs2
              have e2 : w2.cell? ⟨wr.heap.size, 2, none⟩ = some (.bool x.2.2.1) := X2.at_ rfl
              have e3 : w2.cell? ⟨wr.heap.size, 3, none⟩ = some (.int .i64 x.2.2.2) := X2.at_ rfl
              clear q0 q1 q2 q3 hcl hcell hx hbl hw2 X2 hb2 hs2 Z2
              have HK2B := Lib.hid (HK.out.below HK2.out HK.out.lt)
              have HD2B := Lib.hid (HB.out.trans (HK2.out.mono HB.out.size))
              cases hpar : x.2.2.1 with
              | false =>
                rw [hpar] at e2
                have HT : Hid (stepL L.length g f (k + 1) = stepL L.length g f k) := Lib.hid (stepL_same (by rw [HFF.out, HGG.out]; exact outE_data HX.out hpar))
                clear hpar
                go_wp2_with ((with_reducible refine wpList_store_mid ?a1 40 (.tmp 17) (.tmp 71) ?a2 wr.heap.size 0 #[.int .i64 x.1, .int .i64 x.2.1, .bool x.2.2.1, .int .i64 x.2.2.2] ?a3 ?a4 hth hi44 h1c ?_); (case a1 => rfl); (case a2 => rfl); (case a3 => rfl); (case a4 => rfl); simp only [Act.put, List.setIfInBounds_toArray, List.set_cons_zero, List.set_cons_succ]; rw [HW2.out])
                go_roundw
                case rel => exact ⟨k + 1, HLT.out, by go_num, by rw [HT.out]; exact HK2B.out, HD2B.out⟩
                case measure => have := HLT.out; simp [RowKit.intOf]; omega
              | true =>
                rw [hpar] at e2
                obtain ⟨R, hR⟩ : ∃ R, R = rowIx L x.2.2.2 := ⟨_, rfl⟩
                have HT : Hid (g k = makeS (R.map f)) := Lib.hid (by rw [HFF.out, HGG.out, hR]; exact outE_par HX.out hpar)
                have HR := Lib.hid (codeRow_any x.2.2.2 (H.out.below HD2B.out) (by omega))
                have hR64 : R.length ≤ 64 := by
                  rw [hR]
                  unfold rowIx
                  exact Nat.le_trans (List.length_filter_le _ _) (by rw [List.length_range]; exact hL64)
                have HRS : Hid (∀ q ∈ R, q < L.length ∧ g q = f q) := Lib.hid (fun q hq => by
                  rw [hR] at hq
                  obtain ⟨c, h1, _, h3⟩ := rowIx_spec hq
                  exact ⟨(List.getElem?_eq_some_iff.1 h1).1, by rw [HFF.out, HGG.out]; exact outE_data h1 h3⟩)
                rw [← hR] at HR
                clear hpar hR
                go_wp2_with ((with_reducible refine wpList_store_mid ?a1 40 (.tmp 17) (.tmp 71) ?a2 wr.heap.size 0 #[.int .i64 x.1, .int .i64 x.2.1, .bool x.2.2.1, .int .i64 x.2.2.2] ?a3 ?a4 hth hi44 h1c ?_); (case a1 => rfl); (case a2 => rfl); (case a3 => rfl); (case a4 => rfl); simp only [Act.put, List.setIfInBounds_toArray, List.set_cons_zero, List.set_cons_succ]; rw [HW2.out])
                refine HR.out.mono ?_
                rintro e w3 ⟨rv, rfl, hrow, hb3⟩
                obtain ⟨Ar, cr, rfl⟩ := (slAt_own hrow).form
                have HRW := Lib.hid (slAt_own hrow)
                have HK3 := Lib.hid (HK2B.out.below hb3 HK2B.out.lt)
                have HD3 := Lib.hid (HD2B.out.trans (hb3.mono HD2B.out.size))
                clear hrow hb3 f0 f1 f2 f3 hi44 h1c hth HW2 HX2 HK2 HS2 e2 e3
                go_wp2_with fail
                go_loopw [18, 20, 79] (fun v _ t wr => ∃ j : Nat, j ≤ R.length ∧ t = .int .i64 j ∧ wr.ownsRow w3.heap.size 9 1 v j (strC ((R.take j).map f)) ∧ Below w3.heap.size w3 wr) (fun _ _ t _ => R.length - (RowKit.intOf t).toNat)
                case atStart => exact ⟨0, Nat.zero_le _, rfl, World.ownsRow_nil _ _ _ _, Below.refl _ _⟩
                case round =>
                  obtain ⟨j, hj, rfl, hown, hb⟩ := hrel
                  have HO := Lib.hid hown
                  have HBJ := Lib.hid hb
                  clear hown hb
                  by_cases hjt : j < R.length
                  · obtain ⟨br, or, rfl, hbr, hcr⟩ := HRW.out.cells (by omega)
                    obtain ⟨q, hq⟩ : ∃ q, R[j]? = some q := ⟨_, List.getElem?_eq_getElem hjt⟩
                    obtain ⟨hqL, hgf⟩ := HRS.out q (List.mem_of_getElem? hq)
                    have f0 : wr.cell? ⟨br, or + j, none⟩ = some (.int .i64 q) := (World.cell?_of_block (HBJ.out.block br hbr)).trans (hcr j _ (ixC_at hq))
                    have f1 : wr.cell? ⟨wC.heap.size, q, none⟩ = some (str (f q)) := (HK3.out.below HBJ.out HK3.out.lt).at_ (by
                      have := stepL_at (N := L.length) (g := g) (h := f) (k := k) hqL
                      rw [hgf, ite_self] at this
                      rw [List.getElem?_toArray]
                      exact strC_at this)
                    have hdj : decide (j < R.length) = true := decide_eq_true hjt
                    have HJ := Lib.hid (And.intro hjt hq)
                    clear hcr hbr hgf hq
                    go_wp2_with (at_builtin; refine wpList_append_own _ rfl _ _ 27 rfl w3.heap.size 9 i0 _ 1 16 Try.underlying27 hi hz0 hz1 hz2 rfl (by decide) _ _ _ rfl (HO.out.alloc _) ⟨wr.heap.size, 0, none⟩ 1 1 [str (f q)] rfl rfl ?c1 ?c2 (by unfold maxLen; omega) (by omega) ?c5 ?_)
                    try (case c1 => exact one_new' _ _ _)
                    case c2 => first | rfl | (intro u hu; simp at hu; subst hu; rfl)
                    case c5 => have := HBJ.out.size; simp; omega
                    intro v' w4 hown' hgrow _
                    have hown4 : w4.ownsRow w3.heap.size 9 1 v' (j + 1) (strC ((R.take (j + 1)).map f)) := by
                      rw [List.take_add_one, HJ.out.2]
                      show w4.ownsRow _ _ _ _ _ (strC ((R.take j ++ [q]).map f))
                      rw [List.map_append, List.map_cons, List.map_nil, strC_snoc]
                      rw [← List.map_take] at hown'
                      exact hown'
                    have hb4 : Below w3.heap.size w3 w4 := (HBJ.out.alloc HBJ.out.size _).grown hgrow (by have := HBJ.out.size; simp; omega) (fun k hk => (HO.out.lt k hk).1)
                    have HO4 := Lib.hid hown4
                    have HB4 := Lib.hid hb4
                    clear hown' hgrow hown4 hb4
                    go_wp2_with fail
                    go_roundw
                    case rel => exact ⟨j + 1, HJ.out.1, by go_num, HO4.out, HB4.out⟩
                    case measure => have := HJ.out.1; simp [RowKit.intOf]; omega
                  · obtain rfl : j = R.length := by omega
                    have hdj : decide ((R.length : Int) < R.length) = false := decide_eq_false (by omega)
                    have hso := slAt_own HO.out
                    rw [List.take_length] at hso
                    obtain ⟨RF, hRF⟩ : ∃ RF, RF = R.map f := ⟨_, rfl⟩
                    have hRL : R.length = RF.length := by rw [hRF, List.length_map]
                    rw [← hRF, hRL] at hso
                    rw [← hRF] at HT
                    have HM := Lib.hid (parMake_any hso (by
                      rw [hRF]
                      cases R with
                      | nil => exact Nat.zero_le _
                      | cons a r => exact Nat.le_trans (HFL.out a) (by omega)) (by omega))
                    obtain ⟨Ap, cp, rfl⟩ := hso.form
                    have HK5 := Lib.hid (HK3.out.below HBJ.out HK3.out.lt)
                    have HD5 := Lib.hid (HD3.out.trans (HBJ.out.mono HD3.out.size))
                    clear hso hRF hRL HO
                    go_wp2_with fail
                    refine HM.out.mono ?_
                    rintro e w5 ⟨rfl, hb5⟩
                    have HK6 := Lib.hid (HK5.out.below hb5 HK5.out.lt)
                    have HD6 := Lib.hid (HD5.out.trans (hb5.mono HD5.out.size))
                    have c8 : w5.cell? ⟨wC.heap.size, k, none⟩ = some (str (f k)) := HK6.out.at_ (by
                      have := stepL_at (N := L.length) (g := g) (h := f) (k := k) HLT.out
                      rw [if_neg (Nat.lt_irrefl k)] at this
                      rw [List.getElem?_toArray]
                      exact strC_at this)
                    have z8 : w5.frozen? ⟨wC.heap.size, k, none⟩ = false := HK6.out.fr k
                    have hkl := HLT.out
                    rw [← HT.out]
                    clear hb5 HM
                    go_wp2_with fail
                    go_roundw
                    case rel => exact ⟨k + 1, HLT.out, by go_num, by have h := HK6.out.put k (str (g k)); rw [strC_put, stepL_set] at h; exact h, below_set HD6.out _ _ _ (Nat.le_refl _)⟩
                    case measure => have := HLT.out; simp [RowKit.intOf]; omega
            · obtain rfl : k = L.length := by omega
              have hdc : decide ((L.length : Int) < L.length) = false := decide_eq_false (by omega)
              go_wp2_with fail
              go_ret2
              have hk := HK.out
              rw [stepL_all, HGG.out, ← HSL.out] at hk
              rw [show (encS gs secs pg pa s).length = L.length by rw [HSL.out, List.length_map, List.length_range], HVV.out.1]
              exact ⟨_, rfl, ⟨some ⟨wC.heap.size, 0, none⟩, L.length, rfl, Nat.le_refl _, fun _ => ⟨wC.heap.size, 0, rfl, hk.lt, fun j u hu => by
                rw [Nat.zero_add]
                exact hk.at_ (by rw [List.getElem?_toArray]; exact hu)⟩⟩, keep_below HB.out HDC.out, fun b o n c e => (by cases e; exact ⟨HDC.out.size, rfl, rfl, hk⟩)⟩
    · have hne : (oe != 0) = true := bne_iff_ne.2 hoe
      have hSL := HVV.out.2.1 hoe
      have HSL := Lib.hid hSL
      clear hoe hSL hcol hbC
      go_wp2_with fail
      go_ret2
      rw [HSL.out, HVV.out.1]
      exact ⟨_, rfl, ⟨none, 0, rfl, Nat.le_refl _, fun h => absurd h (Nat.lt_irrefl 0)⟩, HDC.out, fun b o n c e => (by cases e)⟩
theorem encode_any (A : Option Addr) (m cc : Nat) (gs : List (Int × Int)) (secs pg pa : Int) (s : List UInt8) {w : World} (hg : GeoAt w A m gs) (hl : s.length ≤ 140737488355328) :
    Calls Try.prog 10 #[.agg #[.slice A m cc, .int .i64 secs], .agg #[.int .i64 pg, .int .i64 pa], str s] w fun e w' => ∃ v, e = .returned (.tuple #[v, .int .i64 (encE gs secs pg pa s)]) ∧
      SlAt w' v (encS gs secs pg pa s).length (strC (encS gs secs pg pa s)) ∧ Below w.heap.size w w' ∧ ∀ b o n c, v = .slice (some ⟨b, o, none⟩) n c → w.heap.size ≤ b :=
  (encode_own A m cc gs secs pg pa s hg hl).mono fun _ _ ⟨v, h1, h2, h3, h4⟩ => ⟨v, h1, h2, h3, fun b o n c e => (h4 b o n c e).1⟩
end Go.Proofs.Ytefhmemmfajbfaa

namespace Go.Proofs.Ytefhmemmfajbfaa
set_option linter.unusedVariables false
set_option linter.unusedSimpArgs false
open Go.ChangeShapes Go.WideShapes Go.ChangeAt Go.RowKit Go.Deep Go.Joins

set_option maxRecDepth 100000 in
theorem open_strsA {H : Type} {enc : TypeId × Value → H} {w : World} {base b0 : Nat} {held : Bool} {v : Value} {d : DataW H} {p : List MemPlace} (hv : Value.okWide Try.prog w .any b0 27 v)
    (h : DataW.Trod enc Try.prog w base (fun _ => true) held 27 v d p) : ∃ l : List (List UInt8), SlAt w v l.length (strC l) ∧ l.length ≤ 9223372036854775807 := by
  obtain ⟨a0, len, cap, rfl⟩ := okWide_slice Try.underlying27 hv
  obtain ⟨fuel, hf⟩ := h
  rcases open_strs Try.underlying27 Try.underlying9 (by kernel_rfl) hf with ⟨hcs, hx⟩ | ⟨a, len', cap', m, Sx, hcs, _, hl, hm, hmm, hx, hcell⟩
  · simp [Value.cells] at hcs
    obtain ⟨rfl, rfl, rfl⟩ := hcs
    exact ⟨[], ⟨none, 0, rfl, Nat.le_refl _, fun h => absurd h (Nat.lt_irrefl _)⟩, by simp⟩
  · simp [Value.cells] at hcs
    obtain ⟨rfl, rfl, rfl⟩ := hcs
    simp only [if_true] at hmm
    subst hmm
    unfold maxLen at hm
    have hlen : ((List.range len).map fun i => (Sx i).data.toList).length = len := by simp
    refine ⟨(List.range len).map fun i => (Sx i).data.toList, ?_, by rw [hlen]; omega⟩
    rw [hlen]
    refine ⟨_, _, rfl, hl, fun hp => ?_⟩
    obtain ⟨b, off, spot⟩ := a
    have h0 := (hcell 0 (by omega)).1
    have hspot : spot = none := by simpa [Addr.add] using World.cell?_spot (by simpa [Addr.add] using h0)
    subst hspot
    refine ⟨b, off, rfl, World.block_lt_of_cell? w _ (by simpa [Addr.add] using h0 : w.cell? ⟨b, off, none⟩ = _), fun j u hu => ?_⟩
    rw [strC_map, List.map_map, List.getElem?_map] at hu
    have hj : j < len := by
      by_cases h : j < len
      · exact h
      · rw [List.getElem?_eq_none (by simpa using h)] at hu
        cases hu
    rw [List.getElem?_range hj] at hu
    have h1 := (hcell j (by omega)).1
    rw [WideShapes.add_plain] at h1
    rw [h1, ← hu]
    show some (Value.string (Sx j)) = some (Value.string ⟨(Sx j).data.toList.toArray⟩)
    rw [← ba_str]
set_option maxRecDepth 100000 in
theorem open_bytesA {H : Type} {enc : TypeId × Value → H} {w : World} {base b0 : Nat} {held : Bool} {v : Value} {d : DataW H} {p : List MemPlace} (hv : Value.okWide Try.prog w .any b0 45 v)
    (h : DataW.Trod enc Try.prog w base (fun _ => true) held 45 v d p) : ∃ l : List UInt8, SlAt w v l.length (bytC l) ∧ l.length ≤ 9223372036854775807 := by
  obtain ⟨a0, len, cap, rfl⟩ := okWide_slice Try.underlying45 hv
  obtain ⟨fuel, hf⟩ := h
  rcases open_ints Try.underlying45 Try.underlying5 (by kernel_rfl) hf with ⟨hcs, hx⟩ | ⟨a, len', cap', zs, hcs, _, hl, hm, hz, hx, hcell, hwz⟩
  · simp [Value.cells] at hcs
    obtain ⟨rfl, rfl, rfl⟩ := hcs
    exact ⟨[], ⟨none, 0, rfl, Nat.le_refl _, fun h => absurd h (Nat.lt_irrefl _)⟩, by simp⟩
  · simp [Value.cells] at hcs
    obtain ⟨rfl, rfl, rfl⟩ := hcs
    simp only [if_true] at hz
    unfold maxLen at hm
    have hlen : ((zs.take len).map fun z => UInt8.ofNat z.toNat).length = len := by simp; omega
    refine ⟨(zs.take len).map fun z => UInt8.ofNat z.toNat, ?_, by rw [hlen]; omega⟩
    rw [hlen]
    refine ⟨_, _, rfl, hl, fun hp => ?_⟩
    obtain ⟨b, off, spot⟩ := a
    have h0 := hcell 0 (by omega)
    have hspot : spot = none := by simpa [Addr.add] using World.cell?_spot (by simpa [Addr.add] using h0)
    subst hspot
    refine ⟨b, off, rfl, World.block_lt_of_cell? w _ (by simpa [Addr.add] using h0 : w.cell? ⟨b, off, none⟩ = _), fun j u hu => ?_⟩
    unfold bytC at hu
    rw [List.getElem?_map, List.getElem?_map, List.getElem?_take] at hu
    have hj : j < len := by
      by_cases h : j < len
      · exact h
      · rw [if_neg h] at hu
        cases hu
    have h1 := hcell j (by omega)
    rw [WideShapes.add_plain] at h1
    have hz2 : zs[j]? = some (zs.getD j 0) := by rw [List.getD_eq_getElem?_getD, List.getElem?_eq_getElem (by omega : j < zs.length)]; rfl
    have hm2 : zs.getD j 0 ∈ zs := List.mem_of_getElem? hz2
    have hb := u8_bd (hwz _ hm2)
    rw [if_pos hj, hz2] at hu
    simp only [Option.map_some, Option.some.injEq] at hu
    rw [h1, ← hu, UInt8.toNat_ofNat', Nat.mod_eq_of_lt (by omega)]
    congr 2
    omega
end Go.Proofs.Ytefhmemmfajbfaa

namespace Go.Proofs.Ytefhmemmfajbfaa
set_option linter.unusedVariables false
set_option linter.unusedSimpArgs false
open Go.RowKit

/-- The columns L lie in memory from b, off on. -/
def CsAt (w : World) (b off : Nat) (L : List Col) : Prop :=
  b < w.heap.size ∧ ∀ (i : Nat) (x : Col), L[i]? = some x → w.cell? ⟨b, off + i * 4, none⟩ = some (.int .i64 x.1) ∧ w.cell? ⟨b, off + i * 4 + 1, none⟩ = some (.int .i64 x.2.1) ∧
    w.cell? ⟨b, off + i * 4 + 2, none⟩ = some (.bool x.2.2.1) ∧ w.cell? ⟨b, off + i * 4 + 3, none⟩ = some (.int .i64 x.2.2.2)

theorem CsAt.below {w w' : World} {b off B : Nat} {L : List Col} (h : CsAt w b off L) (hb : Below B w w') (hB : w.heap.size ≤ B) : CsAt w' b off L := by
  have hlt := h.1
  have hsz := hb.size
  refine ⟨by omega, fun i x hx => ?_⟩
  obtain ⟨h1, h2, h3, h4⟩ := h.2 i x hx
  exact ⟨(hb.cell (p := ⟨b, off + i * 4, none⟩) (by show b < B; omega)).trans h1, (hb.cell (p := ⟨b, off + i * 4 + 1, none⟩) (by show b < B; omega)).trans h2,
    (hb.cell (p := ⟨b, off + i * 4 + 2, none⟩) (by show b < B; omega)).trans h3, (hb.cell (p := ⟨b, off + i * 4 + 3, none⟩) (by show b < B; omega)).trans h4⟩
theorem CsAt.drew {w : World} {b off : Nat} {L : List Col} (h : CsAt w b off L) : CsAt w.drew b off L := h
theorem CsAt.drewN {w : World} {b off : Nat} {L : List Col} (h : CsAt w b off L) (k : Nat) : CsAt (w.drewN k) b off L := h

/-- The slice A of n columns reads as L. -/
def SlC (w : World) (A : Option Addr) (n : Nat) (L : List Col) : Prop := L.length = n ∧ n ≤ 9223372036854775807 ∧ (0 < n → ∃ b off, A = some ⟨b, off, none⟩ ∧ CsAt w b off L)
theorem SlC.below {w w' : World} {A : Option Addr} {n B : Nat} {L : List Col} (h : SlC w A n L) (hb : Below B w w') (hB : w.heap.size ≤ B) : SlC w' A n L :=
  ⟨h.1, h.2.1, fun hn => by
    obtain ⟨b, off, e, hg⟩ := h.2.2 hn
    exact ⟨b, off, e, hg.below hb hB⟩⟩

theorem colsCells_get (L : List Col) : ∀ (i : Nat) (x : Col), L[i]? = some x → (colsCells L)[i * 4]? = some (.int .i64 x.1) ∧ (colsCells L)[i * 4 + 1]? = some (.int .i64 x.2.1) ∧
    (colsCells L)[i * 4 + 2]? = some (.bool x.2.2.1) ∧ (colsCells L)[i * 4 + 3]? = some (.int .i64 x.2.2.2) := by
  induction L with
  | nil => intro i x h; simp at h
  | cons y L ih =>
    intro i x h
    have e : colsCells (y :: L) = .int .i64 y.1 :: .int .i64 y.2.1 :: .bool y.2.2.1 :: .int .i64 y.2.2.2 :: colsCells L := rfl
    match i, h with
    | 0, h => simp at h; subst h; rw [e]; exact ⟨rfl, rfl, rfl, rfl⟩
    | i + 1, h =>
      have h' : L[i]? = some x := by simpa using h
      rw [e, show (i + 1) * 4 = i * 4 + 1 + 1 + 1 + 1 from by omega]
      exact ih i x h'

theorem csAt_of_own {w : World} {base g cap : Nat} {L : List Col} (h : w.ownsRow base 40 4 (.slice (some ⟨g, 0, none⟩) L.length cap) L.length (colsCells L)) (hg : g < w.heap.size) : CsAt w g 0 L := by
  refine ⟨hg, fun i x hx => ?_⟩
  obtain ⟨hi, _⟩ := List.getElem?_eq_some_iff.1 hx
  obtain ⟨h1, h2, h3, h4⟩ := colsCells_get L i x hx
  have hc := fun j (hj : j < L.length * 4) => h.cellAt j hj
  simp only [Nat.zero_add]
  exact ⟨(hc _ (by omega)).trans h1, (hc _ (by omega)).trans h2, (hc _ (by omega)).trans h3, (hc _ (by omega)).trans h4⟩

theorem slC_of_own {w : World} {base : Nat} {v : Value} {L : List Col} (h : w.ownsRow base 40 4 v L.length (colsCells L)) (hl : L.length ≤ 9223372036854775807) :
    ∃ A cp, v = .slice A L.length cp ∧ SlC w A L.length L := by
  rcases h.2 with ⟨rfl, h0⟩ | ⟨g, cap, cur, rfl, hb, hh, _⟩
  · exact ⟨none, 0, by rw [h0], rfl, hl, fun hn => absurd hn (by omega)⟩
  · exact ⟨_, cap, rfl, rfl, hl, fun _ => ⟨g, 0, rfl, csAt_of_own h (lt_of_block hh)⟩⟩

theorem Try.stoodCol : Try.prog.stoodInHeld 40 = false := by kernel_rfl
theorem Try.guardCol : Try.prog.eqGuardType Try.prog.depth 40 = false := by kernel_rfl

def colEq (x y : Col) : Bool := x.1 == y.1 && (x.2.1 == y.2.1 && (x.2.2.1 == y.2.2.1 && x.2.2.2 == y.2.2.2))
theorem colEq_iff (x y : Col) : colEq x y = true ↔ x = y := by
  obtain ⟨a, b, c, d⟩ := x
  obtain ⟨a', b', c', d'⟩ := y
  simp [colEq]
theorem Try.fieldsCol : (Try.prog.fieldsOf 40).toList.map (fun f => (f.name == "_", f.type, f.offset)) = [(false, 3, 0), (false, 3, 1), (false, 4, 2), (false, 3, 3)] := by kernel_rfl
theorem neq_col (x y : Col) (w : World) : (binOp .neq 40 (.agg #[.int .i64 x.1, .int .i64 x.2.1, .bool x.2.2.1, .int .i64 x.2.2.2]) (.agg #[.int .i64 y.1, .int .i64 y.2.1, .bool y.2.2.1, .int .i64 y.2.2.2])).run Try.prog w = .ok (.bool (!colEq x y)) w := by
  rw [run_neq_struct, run_equalIn_agg w _ _ _ _ (by kernel_rfl) Try.stoodCol]
  simp [go_sem, Try.underlying40]
  unfold colEq
  by_cases h1 : x.1 = y.1 <;> by_cases h2 : x.2.1 = y.2.1 <;> by_cases h3 : x.2.2.1 = y.2.2.1 <;> by_cases h4 : x.2.2.2 = y.2.2.2 <;> simp [h1, h2, h3, h4]
def ex1 : List Col := [(1, 16, true, 0), (2, 16, false, 0), (0, 17, false, 0)]

/-- How many rows there are. -/
def rowsTo (L : List Col) (k : Nat) : Int := (L.take k).foldl (fun n c => max n (c.2.2.2 + 1)) 0
theorem rowsTo_step {L : List Col} {k : Nat} {x : Col} (h : L[k]? = some x) : rowsTo L (k + 1) = max (rowsTo L k) (x.2.2.2 + 1) := by
  obtain ⟨hk, e⟩ := List.getElem?_eq_some_iff.1 h
  unfold rowsTo
  rw [List.take_succ_eq_append_getElem hk, List.foldl_append, e]
  rfl

end Go.Proofs.Ytefhmemmfajbfaa
