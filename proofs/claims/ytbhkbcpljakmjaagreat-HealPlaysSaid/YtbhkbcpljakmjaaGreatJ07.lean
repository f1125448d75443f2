/-
  Contracts of package code: Encode.
  A pool's devices in memory.
-/
import Derived.Test.YtbhkbcpljakmjaaGreatJ06
import Derived.Test.YtbhkbcpljakmjaaGreatJ04
namespace Go.Proofs.YtbhkbcpljakmjaaGreat
set_option linter.unusedVariables false
set_option linter.unusedSimpArgs false
open Go.RowKit
theorem ofList_le (gs : List (Int × Int)) (secs pg pa size : Int) : (ofList gs secs pg pa size).length ≤ 64 := by
 unfold ofList
 split
 · rename_i h
   obtain ⟨hhas, hz1, hz2, _⟩ := cMay_true h
   obtain ⟨sz, rfl⟩ := Int.eq_ofNat_of_zero_le (show 0 ≤ size by omega)
   obtain ⟨g, x, rfl, hk, hl4, hs1, hs2, hx, hgx, ho⟩ := gHas_true hhas
   unfold colsOf
   rw [hgx]
   obtain ⟨kd, wd⟩ := x
   split
   · rw [mirror, mirTo_len]
     have : wd.toNat ≤ 8 := by have := gOne_true ho; simp only at this; omega
     have := Nat.mul_le_mul this (show (sz : Int).toNat ≤ 4 by omega)
     simp only at this ⊢
     omega
   · have := parTo_len (gFirst gs secs g) wd pa (sz : Int).toNat
     simp only at this ⊢
     omega
 · simp
def stepL (N : Nat) (g h : Nat → List UInt8) (k : Nat) : List (List UInt8) := (List.range N).map fun i => if i < k then g i else h i
theorem stepL_len (N : Nat) (g h : Nat → List UInt8) (k : Nat) : (stepL N g h k).length = N := by simp [stepL]
theorem stepL_zero (N : Nat) (g h : Nat → List UInt8) : stepL N g h 0 = (List.range N).map h := by simp [stepL]
theorem stepL_all (N : Nat) (g h : Nat → List UInt8) : stepL N g h N = (List.range N).map g := by
 unfold stepL
 exact List.map_congr_left fun i hi => if_pos (List.mem_range.1 hi)
theorem stepL_at {N : Nat} {g h : Nat → List UInt8} {k i : Nat} (hi : i < N) : (stepL N g h k)[i]? = some (if i < k then g i else h i) := by simp [stepL, hi]
theorem stepL_same {N : Nat} {g h : Nat → List UInt8} {k : Nat} (e : g k = h k) : stepL N g h (k + 1) = stepL N g h k := by
 unfold stepL
 refine List.map_congr_left fun i hi => ?_
 by_cases h1 : i < k
 · rw [if_pos h1, if_pos (by omega)]
 · by_cases h2 : i = k
   · subst h2; rw [if_pos (by omega), if_neg h1, e]
   · rw [if_neg h1, if_neg (by omega)]
theorem stepL_set {N : Nat} {g h : Nat → List UInt8} {k : Nat} : (stepL N g h k).set k (g k) = stepL N g h (k + 1) := by
 apply List.ext_getElem?
 intro i
 by_cases hi : i < N
 · rw [stepL_at hi, List.getElem?_set, stepL_len, stepL_at hi]
   by_cases h2 : k = i
   · subst h2; rw [if_pos rfl, if_pos hi, if_pos (by omega)]
   · rw [if_neg h2]
     by_cases h1 : i < k
     · rw [if_pos h1, if_pos (by omega)]
     · rw [if_neg h1, if_neg (by omega)]
 · rw [List.getElem?_eq_none (by rw [List.length_set, stepL_len]; omega), List.getElem?_eq_none (by rw [stepL_len]; omega)]
theorem strC_map (l : List (List UInt8)) : strC l = l.map fun s => str s := by
 induction l with
 | nil => rfl
 | cons x l ih => rw [List.map_cons, ← ih]; rfl
theorem strC_put (l : List (List UInt8)) (k : Nat) (s : List UInt8) : (strC l).toArray.setIfInBounds k (str s) = (strC (l.set k s)).toArray := by
 rw [strC_map, strC_map]
 simp [List.map_set]
theorem mk_strs (w : World) (n : Nat) (hn : n ≤ 16384) : ∃ w1, (Instr.makeSlice 60 (.int .i64 n) (.int .i64 n)).run Tryz.prog w = .ok (.slice (some ⟨w.heap.size, 0, none⟩) n n) w1 ∧
 Blk w1 w.heap.size 9 (strC (List.replicate n [])).toArray ∧ w1.heap.size = w.heap.size + 1 ∧ Below w.heap.size w w1 := by
 obtain ⟨i0, hi, hz0, hz1, hz2⟩ := info_parts Tryz.infoStr
 have hrun := run_makeSlice w 60 9 i0 (.string ⟨#[]⟩) Tryz.underlying60 hi hz0 .i64 .i64 n n (by omega) (Int.le_refl _) (by rw [hz1]; omega) (by rw [hz2]; omega) (by omega)
 have hc : madeCells (Value.string ⟨#[]⟩).cells ((n : Int).toNat * i0.size) = (strC (List.replicate n [])).toArray := by
  rw [hz1, Int.toNat_natCast, Nat.mul_one]
  apply Array.ext'
  have : (Value.string ⟨#[]⟩).cells = #[.string ⟨#[]⟩] := rfl
  rw [this, toList_madeCells_one, strC_map]
  simp
 rw [hc, Int.toNat_natCast] at hrun
 exact ⟨_, hrun, Blk.new _ _ _, by simp, keep_alloc (Below.refl _ _) _⟩
theorem outE_data {L : List Col} {data : List (List UInt8)} {i : Nat} {c : Col} (h : L[i]? = some c) (hp : c.2.2.1 = false) : outE L data i = outD L data i := by unfold outE; rw [h]; simp [hp]
theorem outE_par {L : List Col} {data : List (List UInt8)} {i : Nat} {c : Col} (h : L[i]? = some c) (hp : c.2.2.1 = true) : outE L data i = makeS ((rowIx L c.2.2.2).map (outD L data)) := by unfold outE; rw [h]; simp [hp]
theorem outD_par {L : List Col} {data : List (List UInt8)} {i : Nat} {c : Col} (h : L[i]? = some c) (hp : c.2.2.1 = true) : outD L data i = [] := by unfold outD; rw [h]; simp [hp]
theorem outD_data {L : List Col} {data : List (List UInt8)} {i : Nat} {c : Col} (h : L[i]? = some c) (hp : c.2.2.1 = false) : outD L data i = data.getD (dataCnt L i % data.length) [] := by unfold outD; rw [h]; simp [hp]
theorem outD_le {L : List Col} {data : List (List UInt8)} (h : ∀ (j : Nat) (y : List UInt8), data[j]? = some y → y.length = 64) (i : Nat) : (outD L data i).length ≤ 64 := by
 unfold outD
 split
 · simp
 · split
   · simp
   · rw [List.getD_eq_getElem?_getD]
     cases hq : data[dataCnt L i % data.length]? with
     | none => simp
     | some y => rw [Option.getD_some, h _ _ hq]; exact Nat.le_refl _
theorem dataCnt_le (L : List Col) (k : Nat) : dataCnt L k ≤ L.length := Nat.le_trans (List.length_filter_le _ _) (by rw [List.length_take]; omega)
set_option maxRecDepth 20000 in
set_option maxHeartbeats 1000000 in
theorem encode_own (A : Option Addr) (m cc : Nat) (gs : List (Int × Int)) (secs pg pa : Int) (s : List UInt8) {w : World} (hg : GeoAt w A m gs) (hl : s.length ≤ 140737488355328) :
 Calls Tryz.prog 57 #[.agg #[.slice A m cc, .int .i64 secs], .agg #[.int .i64 pg, .int .i64 pa], str s] w fun e w' => ∃ v, e = .returned (.tuple #[v, .int .i64 (encE gs secs pg pa s)]) ∧
  SlAt w' v (encS gs secs pg pa s).length (strC (encS gs secs pg pa s)) ∧ Below w.heap.size w w' ∧ ∀ b o n c, v = .slice (some ⟨b, o, none⟩) n c → w.heap.size ≤ b ∧ o = 0 ∧ n = c ∧ Blk w' b 9 (strC (encS gs secs pg pa s)).toArray := by
 obtain ⟨w1, hw1⟩ : ∃ x, (w.alloc (.cells #[.slice A m cc, .int .i64 secs] 24)).alloc (.cells #[.int .i64 pg, .int .i64 pa] 26) = x := ⟨_, rfl⟩
 have G1 : Blk w1 w.heap.size 24 #[.slice A m cc, .int .i64 secs] := by rw [← hw1]; exact (Blk.new _ _ _).alloc _
 have P1 : Blk w1 (w.heap.size + 1) 26 #[.int .i64 pg, .int .i64 pa] := by rw [← hw1]; exact Blk.new2 w _ _ _
 have D1 : Below w.heap.size w w1 := by rw [← hw1]; exact keep_alloc (keep_alloc (Below.refl _ _) _) _
 have HG1 := Lib.hid G1
 have HP1 := Lib.hid P1
 have HD1 := Lib.hid D1
 have HG := Lib.hid hg
 have HW1 := Lib.hid hw1
 have HS := Lib.hid (codeSectors_any s w1 hl)
 have HV : Hid ((secOk s = false → encS gs secs pg pa s = [] ∧ encE gs secs pg pa s = 1) ∧ (secOk s = true → encE gs secs pg pa s = ofErr gs secs pg pa (secN s) ∧ (ofErr gs secs pg pa (secN s) ≠ 0 → encS gs secs pg pa s = []) ∧ (ofErr gs secs pg pa (secN s) = 0 → encS gs secs pg pa s = encL gs secs pg pa s))) := Lib.hid (by
  unfold encS encE
  refine ⟨fun h => by rw [h]; simp, fun h => ⟨by rw [h]; simp, fun h2 => by rw [h, decide_eq_false h2]; simp, fun h2 => by rw [h, decide_eq_true h2]; simp⟩⟩)
 clear hg hw1 G1 P1 D1 hl
 go_enter Tryz.func57, Tryz.ntmps57
 go_wp2_with fail
 rw [HW1.out]
 clear HW1
 refine HS.out.mono ?_
 rintro e w2 ⟨dv, rfl, hrow, hb2⟩
 cases hok : secOk s with
 | false =>
  obtain ⟨v1, v2⟩ := HV.out.1 hok
  have HVV := Lib.hid (And.intro v1 v2)
  have HD2 := Lib.hid (keep_below hb2 HD1.out)
  clear hrow hb2 hok v1 v2 HV HS
  go_wp2_with fail
  go_ret2
  rw [HVV.out.1, HVV.out.2]
  exact ⟨_, rfl, ⟨none, 0, rfl, Nat.le_refl _, fun h => absurd h (Nat.lt_irrefl 0)⟩, HD2.out, fun b o n c e => (by cases e)⟩
 | true =>
  have hrow := hrow hok
  obtain ⟨v1, v2, v3⟩ := HV.out.2 hok
  have hD : 1 ≤ secN s ∧ secN s ≤ 4 := by
   unfold secOk at hok
   simp only [Bool.and_eq_true, decide_eq_true_eq] at hok
   have := List.length_pos_iff.2 hok.1
   unfold secN
   omega
  obtain ⟨D, hDD⟩ : ∃ D, D = secN s := ⟨_, rfl⟩
  have hdl : (secsL s).length = D := by rw [secsL_len, hDD]
  have hdat : ∀ i, i < D → ∃ x, (secsL s)[i]? = some x ∧ x.length = 64 ∧ (secsL s).getD i [] = x := fun i hi => ⟨secAt s i, secsL_at (by omega), secAt_len (by omega), by rw [List.getD_eq_getElem?_getD, secsL_at (by omega)]; rfl⟩
  obtain ⟨L, hL⟩ : ∃ L, L = ofList gs secs pg pa (secN s) := ⟨_, rfl⟩
  have hL64 : L.length ≤ 64 := by rw [hL]; exact ofList_le _ _ _ _ _
  have hEL : encL gs secs pg pa s = (List.range L.length).map (outE L (secsL s)) := by unfold encL; rw [hL]
  rw [← hDD] at hrow v1 v2 v3 hD
  rw [hEL] at v3
  obtain ⟨Ad, cd, rfl⟩ := (slAt_own hrow).form
  obtain ⟨data, hdd⟩ : ∃ d, d = secsL s := ⟨_, rfl⟩
  rw [← hdd] at hrow hdl hdat v3
  have HD2 := Lib.hid (keep_below hb2 HD1.out)
  have HDR := Lib.hid (slAt_own hrow)
  have hg0 := (HG1.out.below hb2 HG1.out.lt).at_ (i := 0) (v := .slice A m cc) rfl
  have hg1 := (HG1.out.below hb2 HG1.out.lt).at_ (i := 1) (v := .int .i64 secs) rfl
  have hp0 := (HP1.out.below hb2 HP1.out.lt).at_ (i := 0) (v := .int .i64 pg) rfl
  have hp1 := (HP1.out.below hb2 HP1.out.lt).at_ (i := 1) (v := .int .i64 pa) rfl
  have HO := Lib.hid (of_any A m cc gs secs pg pa (D : Int) w2 (HG.out.below HD2.out (Nat.le_refl _)))
  rw [show ofList gs secs pg pa (D : Int) = L by rw [hL, hDD]] at HO
  have HVV := Lib.hid (And.intro v1 (And.intro v2 v3))
  have HDAT := Lib.hid (And.intro hdl hdat)
  have HDB := Lib.hid hD
  clear hrow hb2 hok v1 v2 v3 HV HS hDD hL hEL hdd hdl hdat hD
  generalize ofErr gs secs pg pa (D : Int) = oe at *
  go_wp2_with fail
  refine HO.out.mono ?_
  rintro e wC ⟨cv, rfl, hcol, hbC⟩
  have HDC := Lib.hid (keep_below hbC HD2.out)
  by_cases hoe : oe = 0
  · subst hoe
    have hSL := HVV.out.2.2 rfl
    obtain ⟨Ac, ccap, rfl⟩ := (slAt_own hcol).form
    have H := Lib.hid (slAt_own hcol)
    have HDA := Lib.hid (HDR.out.below hbC)
    obtain ⟨wM, rM, hbM, hsM, hdM⟩ := mk_strs wC L.length (by omega)
    have hz : List.replicate L.length [] = stepL L.length (outD L data) (fun _ => []) 0 := by rw [stepL_zero]; simp [List.map_const']
    rw [hz] at hbM
    have HBM := Lib.hid hbM
    have HDM := Lib.hid hdM
    have HSL := Lib.hid hSL
    clear hcol hbC hbM hdM hz hSL hsM hg0 hg1 hp0 hp1 HO
    go_wp2_with fail
    clear rM
    obtain ⟨f, hf⟩ : ∃ f, f = outD L data := ⟨_, rfl⟩
    rw [← hf] at HBM
    have HFF := Lib.hid hf
    clear hf
    go_loopw [13, 14, 15, 44] (fun n _ _ t wr => ∃ k : Nat, k ≤ L.length ∧ t = .int .i64 k ∧ n = .int .i64 (dataCnt L k) ∧ Blk wr wC.heap.size 9 (strC (stepL L.length f (fun _ => []) k)).toArray ∧ Below wC.heap.size wC wr) (fun _ _ _ t _ => L.length - (RowKit.intOf t).toNat)
    case atStart => exact ⟨0, Nat.zero_le _, rfl, rfl, HBM.out, HDM.out⟩
    case round =>
     clear HBM HDM
     obtain ⟨k, hk, rfl, rfl, hblk, hb⟩ := hrel
     have HB := Lib.hid hb
     have HK := Lib.hid hblk
     clear hb hblk
     by_cases hlt : k < L.length
     · obtain ⟨b, o, rfl, hbl, hcell⟩ := H.out.cells (by omega)
       obtain ⟨x, hx⟩ : ∃ x, L[k]? = some x := ⟨_, List.getElem?_eq_getElem hlt⟩
       obtain ⟨q0, q1, q2, q3⟩ := colsCells_at hx
       have hcl : ∀ j u, (colsCells L)[j]? = some u → wr.cell? ⟨b, o + j, none⟩ = some u := fun j u hu => (World.cell?_of_block (HB.out.block b hbl)).trans (hcell j u hu)
       have f0 : wr.cell? ⟨b, o + k * 4, none⟩ = some (.int .i64 x.1) := hcl _ _ q0
       have f1 : wr.cell? ⟨b, o + k * 4 + 1, none⟩ = some (.int .i64 x.2.1) := hcl _ _ q1
       have f2 : wr.cell? ⟨b, o + k * 4 + 2, none⟩ = some (.bool x.2.2.1) := hcl _ _ q2
       have f3 : wr.cell? ⟨b, o + k * 4 + 3, none⟩ = some (.int .i64 x.2.2.2) := hcl _ _ q3
       have hdc : decide (k < L.length) = true := decide_eq_true hlt
       have HLT := Lib.hid hlt
       have HX := Lib.hid hx
       have hi44 : (Tryz.prog.info? 71).map (·.size) = some (#[.int .i64 x.1, .int .i64 x.2.1, .bool x.2.2.1, .int .i64 x.2.2.2] : Array Value).size := by kernel_rfl
       have h1c : (#[.int .i64 x.1, .int .i64 x.2.1, .bool x.2.2.1, .int .i64 x.2.2.2] : Array Value).all (·.oneCell') = true := by kernel_rfl
       have Z2 : Blk (wr.alloc (.cells colZ 71)) wr.heap.size 71 colZ := Blk.new _ _ _
       have hth : (wr.alloc (.cells colZ 71)).there wr.heap.size 0 (#[.int .i64 x.1, .int .i64 x.2.1, .bool x.2.2.1, .int .i64 x.2.2.2] : Array Value).size := Z2.there (Nat.le_refl _)
       obtain ⟨w2, hw2⟩ : ∃ y, (wr.alloc (.cells colZ 71)).setCells wr.heap.size 0 (#[.int .i64 x.1, .int .i64 x.2.1, .bool x.2.2.1, .int .i64 x.2.2.2] : Array Value).toList = y := ⟨_, rfl⟩
       have X2 : Blk w2 wr.heap.size 71 #[.int .i64 x.1, .int .i64 x.2.1, .bool x.2.2.1, .int .i64 x.2.2.2] := by rw [← hw2]; exact Z2.putAll _ rfl
       have hb2 : Below wr.heap.size wr w2 := by rw [← hw2]; exact below_sets _ _ (keep_alloc (Below.refl _ _) _) (Nat.le_refl _)
       have hs2 : w2.heap.size = wr.heap.size + 1 := by rw [← hw2, sets_size', World.size_alloc]
       have HW2 := Lib.hid hw2
       have HX2 := Lib.hid X2
       have HK2 := Lib.hid hb2
       have HS2 := Lib.hid hs2
       have e2 : w2.cell? ⟨wr.heap.size, 2, none⟩ = some (.bool x.2.2.1) := X2.at_ rfl
       have e3 : w2.cell? ⟨wr.heap.size, 3, none⟩ = some (.int .i64 x.2.2.2) := X2.at_ rfl
       clear q0 q1 q2 q3 hcl hcell hx hbl hw2 X2 hb2 hs2 Z2
       have HK2B := Lib.hid (HK.out.below HK2.out HK.out.lt)
       have HD2B := Lib.hid (HB.out.trans (HK2.out.mono HB.out.size))
       cases hpar : x.2.2.1 with
       | true =>
        rw [hpar] at e2
        have HT : Hid (stepL L.length f (fun _ => []) (k + 1) = stepL L.length f (fun _ => []) k ∧ dataCnt L (k + 1) = dataCnt L k) := Lib.hid ⟨stepL_same (by rw [HFF.out]; exact outD_par HX.out hpar), by rw [dataCnt_succ HX.out, hpar]; rfl⟩
        clear hpar
        go_wp2_with ((with_reducible refine wpList_store_mid ?a1 71 (.tmp 15) (.tmp 48) ?a2 wr.heap.size 0 #[.int .i64 x.1, .int .i64 x.2.1, .bool x.2.2.1, .int .i64 x.2.2.2] ?a3 ?a4 hth hi44 h1c ?_); (case a1 => rfl); (case a2 => rfl); (case a3 => rfl); (case a4 => rfl); simp only [Act.put, List.setIfInBounds_toArray, List.set_cons_zero, List.set_cons_succ]; rw [HW2.out])
        go_roundw
        case rel => exact ⟨k + 1, HLT.out, by go_num, by rw [HT.out.2], by rw [HT.out.1]; exact HK2B.out, HD2B.out⟩
        case measure => have := HLT.out; simp [RowKit.intOf]; omega
       | false =>
        rw [hpar] at e2
        obtain ⟨q, hq⟩ : ∃ q, q = dataCnt L k % D := ⟨_, rfl⟩
        have hqD : q < D := by rw [hq]; exact Nat.mod_lt _ (by have := HDB.out; omega)
        obtain ⟨y, hy, hy64, hyd⟩ := HDAT.out.2 q hqD
        have HT : Hid (f k = y ∧ dataCnt L (k + 1) = dataCnt L k + 1) := Lib.hid ⟨by rw [HFF.out, outD_data HX.out hpar, HDAT.out.1, ← hq]; exact hyd, by rw [dataCnt_succ HX.out, hpar]; rfl⟩
        obtain ⟨bd, od, rfl, hbd, hcd⟩ := HDA.out.cells (by omega)
        have g8 : w2.cell? ⟨bd, od + q, none⟩ = some (str y) := (World.cell?_of_block ((HK2.out.block bd (Nat.lt_of_lt_of_le hbd HB.out.size)).trans (HB.out.block bd hbd))).trans (hcd q _ (strC_at hy))
        have c8 : w2.cell? ⟨wC.heap.size, k, none⟩ = some (str []) := HK2B.out.at_ (by
         have := stepL_at (N := L.length) (g := f) (h := fun _ => []) (k := k) HLT.out
         rw [if_neg (Nat.lt_irrefl k)] at this
         rw [List.getElem?_toArray]
         exact strC_at this)
        have z8 : w2.frozen? ⟨wC.heap.size, k, none⟩ = false := HK2B.out.fr k
        have hnD : ((D : Int) == 0) = false := by rw [beq_eq_false_iff_ne]; have := HDB.out; omega
        have hrem : Int.tmod (dataCnt L k : Int) (D : Int) = (q : Int) := by rw [hq]; rfl
        have hdn := dataCnt_le L k
        clear hpar hq hbd hcd hy hyd
        go_wp2_with ((with_reducible refine wpList_store_mid ?a1 71 (.tmp 15) (.tmp 48) ?a2 wr.heap.size 0 #[.int .i64 x.1, .int .i64 x.2.1, .bool x.2.2.1, .int .i64 x.2.2.2] ?a3 ?a4 hth hi44 h1c ?_); (case a1 => rfl); (case a2 => rfl); (case a3 => rfl); (case a4 => rfl); simp only [Act.put, List.setIfInBounds_toArray, List.set_cons_zero, List.set_cons_succ]; rw [HW2.out])
        go_roundw
        case rel => exact ⟨k + 1, HLT.out, by go_num, by rw [HT.out.2]; rfl, by have h := HK2B.out.put k (str (f k)); rw [strC_put, stepL_set, HT.out.1] at h; exact h, below_set HD2B.out _ _ _ (Nat.le_refl _)⟩
        case measure => have := HLT.out; simp [RowKit.intOf]; omega
     · obtain rfl : k = L.length := by omega
       have hdc : decide ((L.length : Int) < L.length) = false := decide_eq_false (by omega)
       go_wp2_with fail
       obtain ⟨g, hg⟩ : ∃ g, g = outE L data := ⟨_, rfl⟩
       have HK0 : Hid (Blk wr wC.heap.size 9 (strC (stepL L.length g f 0)).toArray) := Lib.hid (by rw [stepL_zero, ← stepL_all L.length f (fun _ => [])]; exact HK.out)
       have HFL : Hid (∀ i, (f i).length ≤ 64) := Lib.hid (fun i => by
        rw [HFF.out]
        exact outD_le (fun j y h => by
         obtain ⟨x, h1, h2, _⟩ := HDAT.out.2 j (by rw [← HDAT.out.1]; exact (List.getElem?_eq_some_iff.1 h).1)
         rw [h1] at h
         cases h
         exact h2) i)
       have HB0 := Lib.hid HB.out
       have HGG := Lib.hid hg
       clear hg HK HB
       obtain ⟨i0, hi, hz0, hz1, hz2⟩ := info_parts Tryz.infoStr
       go_loopw [16, 17, 18, 20, 67] (fun _ _ _ _ t wr => ∃ k : Nat, k ≤ L.length ∧ t = .int .i64 k ∧ Blk wr wC.heap.size 9 (strC (stepL L.length g f k)).toArray ∧ Below wC.heap.size wC wr) (fun _ _ _ _ t _ => L.length - (RowKit.intOf t).toNat)
       case atStart => exact ⟨0, Nat.zero_le _, rfl, HK0.out, HB0.out⟩
       case round =>
        clear HK0 HB0
        obtain ⟨k, hk, rfl, hblk, hb⟩ := hrel
        have HB := Lib.hid hb
        have HK := Lib.hid hblk
        clear hb hblk
        by_cases hlt : k < L.length
        · obtain ⟨b, o, rfl, hbl, hcell⟩ := H.out.cells (by omega)
          obtain ⟨x, hx⟩ : ∃ x, L[k]? = some x := ⟨_, List.getElem?_eq_getElem hlt⟩
          obtain ⟨q0, q1, q2, q3⟩ := colsCells_at hx
          have hcl : ∀ j u, (colsCells L)[j]? = some u → wr.cell? ⟨b, o + j, none⟩ = some u := fun j u hu => (World.cell?_of_block (HB.out.block b hbl)).trans (hcell j u hu)
          have f0 : wr.cell? ⟨b, o + k * 4, none⟩ = some (.int .i64 x.1) := hcl _ _ q0
          have f1 : wr.cell? ⟨b, o + k * 4 + 1, none⟩ = some (.int .i64 x.2.1) := hcl _ _ q1
          have f2 : wr.cell? ⟨b, o + k * 4 + 2, none⟩ = some (.bool x.2.2.1) := hcl _ _ q2
          have f3 : wr.cell? ⟨b, o + k * 4 + 3, none⟩ = some (.int .i64 x.2.2.2) := hcl _ _ q3
          have hdc : decide (k < L.length) = true := decide_eq_true hlt
          have HLT := Lib.hid hlt
          have HX := Lib.hid hx
          have hi44 : (Tryz.prog.info? 71).map (·.size) = some (#[.int .i64 x.1, .int .i64 x.2.1, .bool x.2.2.1, .int .i64 x.2.2.2] : Array Value).size := by kernel_rfl
          have h1c : (#[.int .i64 x.1, .int .i64 x.2.1, .bool x.2.2.1, .int .i64 x.2.2.2] : Array Value).all (·.oneCell') = true := by kernel_rfl
          have Z2 : Blk (wr.alloc (.cells colZ 71)) wr.heap.size 71 colZ := Blk.new _ _ _
          have hth : (wr.alloc (.cells colZ 71)).there wr.heap.size 0 (#[.int .i64 x.1, .int .i64 x.2.1, .bool x.2.2.1, .int .i64 x.2.2.2] : Array Value).size := Z2.there (Nat.le_refl _)
          obtain ⟨w2, hw2⟩ : ∃ y, (wr.alloc (.cells colZ 71)).setCells wr.heap.size 0 (#[.int .i64 x.1, .int .i64 x.2.1, .bool x.2.2.1, .int .i64 x.2.2.2] : Array Value).toList = y := ⟨_, rfl⟩
          have X2 : Blk w2 wr.heap.size 71 #[.int .i64 x.1, .int .i64 x.2.1, .bool x.2.2.1, .int .i64 x.2.2.2] := by rw [← hw2]; exact Z2.putAll _ rfl
          have hb2 : Below wr.heap.size wr w2 := by rw [← hw2]; exact below_sets _ _ (keep_alloc (Below.refl _ _) _) (Nat.le_refl _)
          have hs2 : w2.heap.size = wr.heap.size + 1 := by rw [← hw2, sets_size', World.size_alloc]
          have HW2 := Lib.hid hw2
          have HX2 := Lib.hid X2
          have HK2 := Lib.hid hb2
          have HS2 := Lib.hid hs2
          have e2 : w2.cell? ⟨wr.heap.size, 2, none⟩ = some (.bool x.2.2.1) := X2.at_ rfl
          have e3 : w2.cell? ⟨wr.heap.size, 3, none⟩ = some (.int .i64 x.2.2.2) := X2.at_ rfl
          clear q0 q1 q2 q3 hcl hcell hx hbl hw2 X2 hb2 hs2 Z2
          have HK2B := Lib.hid (HK.out.below HK2.out HK.out.lt)
          have HD2B := Lib.hid (HB.out.trans (HK2.out.mono HB.out.size))
          cases hpar : x.2.2.1 with
          | false =>
           rw [hpar] at e2
           have HT : Hid (stepL L.length g f (k + 1) = stepL L.length g f k) := Lib.hid (stepL_same (by rw [HFF.out, HGG.out]; exact outE_data HX.out hpar))
           clear hpar
           go_wp2_with ((with_reducible refine wpList_store_mid ?a1 71 (.tmp 17) (.tmp 71) ?a2 wr.heap.size 0 #[.int .i64 x.1, .int .i64 x.2.1, .bool x.2.2.1, .int .i64 x.2.2.2] ?a3 ?a4 hth hi44 h1c ?_); (case a1 => rfl); (case a2 => rfl); (case a3 => rfl); (case a4 => rfl); simp only [Act.put, List.setIfInBounds_toArray, List.set_cons_zero, List.set_cons_succ]; rw [HW2.out])
           go_roundw
           case rel => exact ⟨k + 1, HLT.out, by go_num, by rw [HT.out]; exact HK2B.out, HD2B.out⟩
           case measure => have := HLT.out; simp [RowKit.intOf]; omega
          | true =>
           rw [hpar] at e2
           obtain ⟨R, hR⟩ : ∃ R, R = rowIx L x.2.2.2 := ⟨_, rfl⟩
           have HT : Hid (g k = makeS (R.map f)) := Lib.hid (by rw [HFF.out, HGG.out, hR]; exact outE_par HX.out hpar)
           have HR := Lib.hid (codeRow_any x.2.2.2 (H.out.below HD2B.out) (by omega))
           have hR64 : R.length ≤ 64 := by
            rw [hR]
            unfold rowIx
            exact Nat.le_trans (List.length_filter_le _ _) (by rw [List.length_range]; exact hL64)
           have HRS : Hid (∀ q ∈ R, q < L.length ∧ g q = f q) := Lib.hid (fun q hq => by
            rw [hR] at hq
            obtain ⟨c, h1, _, h3⟩ := rowIx_spec hq
            exact ⟨(List.getElem?_eq_some_iff.1 h1).1, by rw [HFF.out, HGG.out]; exact outE_data h1 h3⟩)
           rw [← hR] at HR
           clear hpar hR
           go_wp2_with ((with_reducible refine wpList_store_mid ?a1 71 (.tmp 17) (.tmp 71) ?a2 wr.heap.size 0 #[.int .i64 x.1, .int .i64 x.2.1, .bool x.2.2.1, .int .i64 x.2.2.2] ?a3 ?a4 hth hi44 h1c ?_); (case a1 => rfl); (case a2 => rfl); (case a3 => rfl); (case a4 => rfl); simp only [Act.put, List.setIfInBounds_toArray, List.set_cons_zero, List.set_cons_succ]; rw [HW2.out])
           refine HR.out.mono ?_
           rintro e w3 ⟨rv, rfl, hrow, hb3⟩
           obtain ⟨Ar, cr, rfl⟩ := (slAt_own hrow).form
           have HRW := Lib.hid (slAt_own hrow)
           have HK3 := Lib.hid (HK2B.out.below hb3 HK2B.out.lt)
           have HD3 := Lib.hid (HD2B.out.trans (hb3.mono HD2B.out.size))
           clear hrow hb3 f0 f1 f2 f3 hi44 h1c hth HW2 HX2 HK2 HS2 e2 e3
           go_wp2_with fail
           go_loopw [18, 20, 79] (fun v _ t wr => ∃ j : Nat, j ≤ R.length ∧ t = .int .i64 j ∧ wr.ownsRow w3.heap.size 9 1 v j (strC ((R.take j).map f)) ∧ Below w3.heap.size w3 wr) (fun _ _ t _ => R.length - (RowKit.intOf t).toNat)
           case atStart => exact ⟨0, Nat.zero_le _, rfl, World.ownsRow_nil _ _ _ _, Below.refl _ _⟩
           case round =>
            obtain ⟨j, hj, rfl, hown, hb⟩ := hrel
            have HO := Lib.hid hown
            have HBJ := Lib.hid hb
            clear hown hb
            by_cases hjt : j < R.length
            · obtain ⟨br, or, rfl, hbr, hcr⟩ := HRW.out.cells (by omega)
              obtain ⟨q, hq⟩ : ∃ q, R[j]? = some q := ⟨_, List.getElem?_eq_getElem hjt⟩
              obtain ⟨hqL, hgf⟩ := HRS.out q (List.mem_of_getElem? hq)
              have f0 : wr.cell? ⟨br, or + j, none⟩ = some (.int .i64 q) := (World.cell?_of_block (HBJ.out.block br hbr)).trans (hcr j _ (ixC_at hq))
              have f1 : wr.cell? ⟨wC.heap.size, q, none⟩ = some (str (f q)) := (HK3.out.below HBJ.out HK3.out.lt).at_ (by
               have := stepL_at (N := L.length) (g := g) (h := f) (k := k) hqL
               rw [hgf, ite_self] at this
               rw [List.getElem?_toArray]
               exact strC_at this)
              have hdj : decide (j < R.length) = true := decide_eq_true hjt
              have HJ := Lib.hid (And.intro hjt hq)
              clear hcr hbr hgf hq
              go_wp2_with (at_builtin; refine wpList_append_own _ rfl _ _ 60 rfl w3.heap.size 9 i0 _ 1 16 Tryz.underlying60 hi hz0 hz1 hz2 rfl (by decide) _ _ _ rfl (HO.out.alloc _) ⟨wr.heap.size, 0, none⟩ 1 1 [str (f q)] rfl rfl ?c1 ?c2 (by unfold maxLen; omega) (by omega) ?c5 ?_)
              try (case c1 => exact one_new' _ _ _)
              case c2 => first | rfl | (intro u hu; simp at hu; subst hu; rfl)
              case c5 => have := HBJ.out.size; simp; omega
              intro v' w4 hown' hgrow _
              have hown4 : w4.ownsRow w3.heap.size 9 1 v' (j + 1) (strC ((R.take (j + 1)).map f)) := by
               rw [List.take_add_one, HJ.out.2]
               show w4.ownsRow _ _ _ _ _ (strC ((R.take j ++ [q]).map f))
               rw [List.map_append, List.map_cons, List.map_nil, strC_snoc]
               rw [← List.map_take] at hown'
               exact hown'
              have hb4 : Below w3.heap.size w3 w4 := (HBJ.out.alloc HBJ.out.size _).grown hgrow (by have := HBJ.out.size; simp; omega) (fun k hk => (HO.out.lt k hk).1)
              have HO4 := Lib.hid hown4
              have HB4 := Lib.hid hb4
              clear hown' hgrow hown4 hb4
              go_wp2_with fail
              go_roundw
              case rel => exact ⟨j + 1, HJ.out.1, by go_num, HO4.out, HB4.out⟩
              case measure => have := HJ.out.1; simp [RowKit.intOf]; omega
            · obtain rfl : j = R.length := by omega
              have hdj : decide ((R.length : Int) < R.length) = false := decide_eq_false (by omega)
              have hso := slAt_own HO.out
              rw [List.take_length] at hso
              obtain ⟨RF, hRF⟩ : ∃ RF, RF = R.map f := ⟨_, rfl⟩
              have hRL : R.length = RF.length := by rw [hRF, List.length_map]
              rw [← hRF, hRL] at hso
              rw [← hRF] at HT
              have HM := Lib.hid (parMake_any hso (by
               rw [hRF]
               cases R with
               | nil => exact Nat.zero_le _
               | cons a r => exact Nat.le_trans (HFL.out a) (by omega)) (by omega))
              obtain ⟨Ap, cp, rfl⟩ := hso.form
              have HK5 := Lib.hid (HK3.out.below HBJ.out HK3.out.lt)
              have HD5 := Lib.hid (HD3.out.trans (HBJ.out.mono HD3.out.size))
              clear hso hRF hRL HO
              go_wp2_with fail
              refine HM.out.mono ?_
              rintro e w5 ⟨rfl, hb5⟩
              have HK6 := Lib.hid (HK5.out.below hb5 HK5.out.lt)
              have HD6 := Lib.hid (HD5.out.trans (hb5.mono HD5.out.size))
              have c8 : w5.cell? ⟨wC.heap.size, k, none⟩ = some (str (f k)) := HK6.out.at_ (by
               have := stepL_at (N := L.length) (g := g) (h := f) (k := k) HLT.out
               rw [if_neg (Nat.lt_irrefl k)] at this
               rw [List.getElem?_toArray]
               exact strC_at this)
              have z8 : w5.frozen? ⟨wC.heap.size, k, none⟩ = false := HK6.out.fr k
              have hkl := HLT.out
              rw [← HT.out]
              clear hb5 HM
              go_wp2_with fail
              go_roundw
              case rel => exact ⟨k + 1, HLT.out, by go_num, by have h := HK6.out.put k (str (g k)); rw [strC_put, stepL_set] at h; exact h, below_set HD6.out _ _ _ (Nat.le_refl _)⟩
              case measure => have := HLT.out; simp [RowKit.intOf]; omega
        · obtain rfl : k = L.length := by omega
          have hdc : decide ((L.length : Int) < L.length) = false := decide_eq_false (by omega)
          go_wp2_with fail
          go_ret2
          have hk := HK.out
          rw [stepL_all, HGG.out, ← HSL.out] at hk
          rw [show (encS gs secs pg pa s).length = L.length by rw [HSL.out, List.length_map, List.length_range], HVV.out.1]
          exact ⟨_, rfl, ⟨some ⟨wC.heap.size, 0, none⟩, L.length, rfl, Nat.le_refl _, fun _ => ⟨wC.heap.size, 0, rfl, hk.lt, fun j u hu => by
           rw [Nat.zero_add]
           exact hk.at_ (by rw [List.getElem?_toArray]; exact hu)⟩⟩, keep_below HB.out HDC.out, fun b o n c e => (by cases e; exact ⟨HDC.out.size, rfl, rfl, hk⟩)⟩
  · have hne : (oe != 0) = true := bne_iff_ne.2 hoe
    have hSL := HVV.out.2.1 hoe
    have HSL := Lib.hid hSL
    clear hoe hSL hcol hbC
    go_wp2_with fail
    go_ret2
    rw [HSL.out, HVV.out.1]
    exact ⟨_, rfl, ⟨none, 0, rfl, Nat.le_refl _, fun h => absurd h (Nat.lt_irrefl 0)⟩, HDC.out, fun b o n c e => (by cases e)⟩
theorem encode_any (A : Option Addr) (m cc : Nat) (gs : List (Int × Int)) (secs pg pa : Int) (s : List UInt8) {w : World} (hg : GeoAt w A m gs) (hl : s.length ≤ 140737488355328) :
 Calls Tryz.prog 57 #[.agg #[.slice A m cc, .int .i64 secs], .agg #[.int .i64 pg, .int .i64 pa], str s] w fun e w' => ∃ v, e = .returned (.tuple #[v, .int .i64 (encE gs secs pg pa s)]) ∧
  SlAt w' v (encS gs secs pg pa s).length (strC (encS gs secs pg pa s)) ∧ Below w.heap.size w w' ∧ ∀ b o n c, v = .slice (some ⟨b, o, none⟩) n c → w.heap.size ≤ b :=
 (encode_own A m cc gs secs pg pa s hg hl).mono fun _ _ ⟨v, h1, h2, h3, h4⟩ => ⟨v, h1, h2, h3, fun b o n c e => (h4 b o n c e).1⟩
end Go.Proofs.YtbhkbcpljakmjaaGreat

namespace Go.Proofs.YtbhkbcpljakmjaaGreat
set_option linter.unusedVariables false
set_option linter.unusedSimpArgs false
open Go.RowKit
structure VX where
 gb : Nat
 m : Nat
 cc : Nat
 gs : List (Int × Int)
 secs : Nat
 lb : Nat
 lc : Nat
 ab : Nat
 bd : List Nat
abbrev VX.val (x : VX) : Value := .agg #[.slice (some ⟨x.gb, 0, none⟩) x.m x.cc, .int .i64 x.secs, .slice (some ⟨x.lb, 0, none⟩) x.bd.length x.lc, .slice (some ⟨x.ab, 0, none⟩) x.bd.length x.bd.length]
abbrev VX.cells (x : VX) : Array Value := #[.slice (some ⟨x.gb, 0, none⟩) x.m x.cc, .int .i64 x.secs, .slice (some ⟨x.lb, 0, none⟩) x.bd.length x.lc, .slice (some ⟨x.ab, 0, none⟩) x.bd.length x.bd.length]
structure VdIn (w : World) (S : Nat → Nat → Prop) (U : Nat → Prop) (x : VX) (aw : List Bool) (ds : List DevD) : Prop where
 geo : GeoAt w (some ⟨x.gb, 0, none⟩) x.m x.gs
 right : gRight x.gs x.secs = true
 nd : gSum x.gs = x.bd.length
 n1 : aw.length = x.bd.length
 n2 : ds.length = x.bd.length
 row : ∀ i b, x.bd[i]? = some b → w.cell? ⟨x.lb, i, none⟩ = some (.pointer (some ⟨b, 0, none⟩))
 box : Blk w x.ab 4 (aw.map Value.bool).toArray
 dev : ∀ i b d, x.bd[i]? = some b → ds[i]? = some d → DevAt w (S i) b d
 sz : ∀ d ∈ ds, d.med.length = x.secs
 lt : ∀ i b, S i b → b < w.heap.size
 fx : ∀ i b, S i b → ¬ U b
 apart : ∀ i j b, S i b → S j b → i = j
 us : ∀ b, U b → b < w.heap.size
 ug : U x.gb
 ul : U x.lb
 ua : U x.ab
 ne : x.gb ≠ x.ab ∧ x.lb ≠ x.ab
theorem cell_same' {w w' : World} {b o : Nat} (h : w'.heap[b]? = w.heap[b]?) : w'.cell? ⟨b, o, none⟩ = w.cell? ⟨b, o, none⟩ := by simp only [World.cell?, h]
theorem sets_far' {w : World} {b g : Nat} (hne : b ≠ g) : ∀ (vs : List Value) (o : Nat) (w : World), (w.setCells g o vs).heap[b]? = w.heap[b]?
 | [], _, _ => rfl
 | v :: r, o, w => by
   rw [World.setCells, sets_far' (w := w) hne r]
   exact Below.heap_setCell w _ _ b hne
theorem GeoAt.same {w w' : World} {g m : Nat} {gs : List (Int × Int)} (h : GeoAt w (some ⟨g, 0, none⟩) m gs) (hs : w.heap.size ≤ w'.heap.size) (hb : w'.heap[g]? = w.heap[g]?) : GeoAt w' (some ⟨g, 0, none⟩) m gs := by
 refine ⟨h.1, h.2.1, fun hn => ?_⟩
 obtain ⟨b, off, e, hg⟩ := h.2.2 hn
 cases e
 exact ⟨g, 0, rfl, Nat.lt_of_lt_of_le hg.1 hs, fun i x hx => ⟨(cell_same' hb).trans (hg.2 i x hx).1, (cell_same' hb).trans (hg.2 i x hx).2⟩⟩
section
variable {w w' : World} {S : Nat → Nat → Prop} {U V : Nat → Prop} {x : VX} {aw : List Bool} {ds : List DevD}
theorem VdIn.same3 (h : VdIn w S U x aw ds) (hs : w.heap.size ≤ w'.heap.size) (h1 : w'.heap[x.gb]? = w.heap[x.gb]?) (h2 : w'.heap[x.lb]? = w.heap[x.lb]?) (h3 : w'.heap[x.ab]? = w.heap[x.ab]?) (hd : ∀ i b, S i b → w'.heap[b]? = w.heap[b]?) : VdIn w' S U x aw ds :=
 ⟨h.geo.same hs h1, h.right, h.nd, h.n1, h.n2, fun i b hb => (cell_same' h2).trans (h.row i b hb), h3.trans h.box, fun i b d hb hdd => by
   obtain ⟨mb, mcap, cb, g, hh⟩ := h.dev i b d hb hdd
   exact ⟨mb, mcap, cb, g, hh.same hs (hd i)⟩, h.sz, fun i b hb => Nat.lt_of_lt_of_le (h.lt i b hb) hs, h.fx, h.apart, fun b hb => Nat.lt_of_lt_of_le (h.us b hb) hs, h.ug, h.ul, h.ua, h.ne⟩
theorem VdIn.same (h : VdIn w S U x aw ds) (hs : w.heap.size ≤ w'.heap.size) (hu : ∀ b, U b → w'.heap[b]? = w.heap[b]?) (hd : ∀ i b, S i b → w'.heap[b]? = w.heap[b]?) : VdIn w' S U x aw ds :=
 h.same3 hs (hu _ h.ug) (hu _ h.ul) (hu _ h.ua) hd
theorem VdIn.below (h : VdIn w S U x aw ds) (hb : Below w.heap.size w w') : VdIn w' S U x aw ds :=
 h.same hb.size (fun b hU => hb.block b (h.us b hU)) (fun i b hS => hb.block b (h.lt i b hS))
theorem VdIn.wide (h : VdIn w S U x aw ds) (h1 : ∀ b, U b → V b) (h2 : ∀ b, V b → b < w.heap.size) (h3 : ∀ i b, S i b → ¬ V b) : VdIn w S V x aw ds :=
 ⟨h.geo, h.right, h.nd, h.n1, h.n2, h.row, h.box, h.dev, h.sz, h.lt, h3, h.apart, h2, h1 _ h.ug, h1 _ h.ul, h1 _ h.ua, h.ne⟩
theorem VdIn.more (h : VdIn w S U x aw ds) (hb : Below w.heap.size w w') : VdIn w' S (Go.Proofs.YtbhkbcpljakmjaaGreat.more U w w') x aw ds :=
 (h.below hb).wide (fun b hU => .inl hU) (fun b hV => hV.elim (fun hU => Nat.lt_of_lt_of_le (h.us b hU) hb.size) (fun hh => hh.2)) (fun i b hS hV => hV.elim (fun hU => h.fx i b hS hU) (fun hh => by have := h.lt i b hS; omega))
theorem VdIn.narrow (h : VdIn w S V x aw ds) (h1 : ∀ b, U b → V b) (ug : U x.gb) (ul : U x.lb) (ua : U x.ab) : VdIn w S U x aw ds :=
 ⟨h.geo, h.right, h.nd, h.n1, h.n2, h.row, h.box, h.dev, h.sz, h.lt, fun i b hS hU => h.fx i b hS (h1 b hU), h.apart, fun b hU => h.us b (h1 b hU), ug, ul, ua, h.ne⟩
theorem VdIn.only {T : Nat → Prop} (h : VdIn w S U x aw ds) (ho : Only T w w') (hT : ∀ g, T g → U g ∧ g ≠ x.gb ∧ g ≠ x.lb ∧ g ≠ x.ab) : VdIn w' S U x aw ds :=
 h.same3 ho.size (ho.block _ (h.us _ h.ug) (fun ht => (hT _ ht).2.1 rfl)) (ho.block _ (h.us _ h.ul) (fun ht => (hT _ ht).2.2.1 rfl)) (ho.block _ (h.us _ h.ua) (fun ht => (hT _ ht).2.2.2 rfl)) (fun i b hS => ho.block b (h.lt i b hS) (fun ht => h.fx i b hS (hT b ht).1))
def setS (S : Nat → Nat → Prop) (i : Nat) (T : Nat → Prop) : Nat → Nat → Prop := fun j b => if j = i then T b else S j b
theorem VdIn.step (h : VdIn w S U x aw ds) {i b : Nat} {d : DevD} (hb : x.bd[i]? = some b) (ho : Only (S i) w w') (hd : DevAt w' (Go.Proofs.YtbhkbcpljakmjaaGreat.more (S i) w w') b d) (hl : d.med.length = x.secs) :
 VdIn w' (setS S i (Go.Proofs.YtbhkbcpljakmjaaGreat.more (S i) w w')) U x aw (ds.set i d) := by
 have hu : ∀ b, U b → w'.heap[b]? = w.heap[b]? := fun b hU => ho.block b (h.us b hU) (fun hS => h.fx i b hS hU)
 have hnew : ∀ j b, setS S i (Go.Proofs.YtbhkbcpljakmjaaGreat.more (S i) w w') j b → S j b ∨ (j = i ∧ w.heap.size ≤ b ∧ b < w'.heap.size) := fun j b hj => by
  unfold setS at hj
  split at hj
  · rename_i e; subst e
    rcases hj with hj | hj
    · exact .inl hj
    · exact .inr ⟨rfl, hj⟩
  · exact .inl hj
 refine ⟨h.geo.same ho.size (hu _ h.ug), h.right, h.nd, h.n1, by rw [List.length_set]; exact h.n2, fun j c hc => (cell_same' (hu _ h.ul)).trans (h.row j c hc), (hu _ h.ua).trans h.box, fun j c e hc he => ?_, fun e he => ?_, fun j c hj => ?_, fun j c hj => ?_, fun j k c hj hk => ?_,
  fun c hc => Nat.lt_of_lt_of_le (h.us c hc) ho.size, h.ug, h.ul, h.ua, h.ne⟩
 · unfold setS
   by_cases hji : j = i
   · subst hji
     rw [hb] at hc; cases hc
     rw [List.getElem?_set, if_pos rfl] at he
     split at he
     · cases he
       rw [show (fun b_1 => if j = j then Go.Proofs.YtbhkbcpljakmjaaGreat.more (S j) w w' b_1 else S j b_1) = Go.Proofs.YtbhkbcpljakmjaaGreat.more (S j) w w' from funext fun _ => if_pos rfl]
       exact hd
     · cases he
   · rw [List.getElem?_set, if_neg (fun e => hji e.symm)] at he
     obtain ⟨mb, mcap, cb, g, hh⟩ := h.dev j c e hc he
     rw [show (fun b_1 => if j = i then Go.Proofs.YtbhkbcpljakmjaaGreat.more (S i) w w' b_1 else S j b_1) = S j from funext fun _ => if_neg hji]
     exact ⟨mb, mcap, cb, g, hh.same ho.size (fun b hS => ho.block b (h.lt j b hS) (fun hS2 => hji (h.apart j i b hS hS2)))⟩
 · rcases List.mem_or_eq_of_mem_set he with he | rfl
   · exact h.sz e he
   · exact hl
 · rcases hnew j c hj with hj | ⟨_, _, h3⟩
   · exact Nat.lt_of_lt_of_le (h.lt j c hj) ho.size
   · exact h3
 · rcases hnew j c hj with hj | ⟨_, h2, _⟩
   · exact h.fx j c hj
   · intro hU; have := h.us c hU; omega
 · rcases hnew j c hj with hj | ⟨e1, h2, _⟩
   · rcases hnew k c hk with hk | ⟨e2, h4, _⟩
     · exact h.apart j k c hj hk
     · have := h.lt j c hj; omega
   · rcases hnew k c hk with hk | ⟨e2, h4, _⟩
     · have := h.lt k c hk; omega
     · omega
theorem VdIn.away (h : VdIn w S U x aw ds) (i : Nat) (v : Bool) : VdIn (w.setCell ⟨x.ab, i, none⟩ (.bool v)) S U x (aw.set i v) ds := by
 have hne : ∀ b, b ≠ x.ab → (w.setCell ⟨x.ab, i, none⟩ (.bool v)).heap[b]? = w.heap[b]? := fun b hb => Below.heap_setCell w _ _ b hb
 have hsz : (w.setCell ⟨x.ab, i, none⟩ (.bool v)).heap.size = w.heap.size := by simp [World.setCell]
 have hna : ∀ j b, S j b → b ≠ x.ab := fun j b hS e => h.fx j b hS (e ▸ h.ua)
 refine ⟨h.geo.same (by omega) (hne _ h.ne.1), h.right, h.nd, by rw [List.length_set]; exact h.n1, h.n2, fun j c hc => (cell_same' (hne _ h.ne.2)).trans (h.row j c hc), ?_, fun j c e hc he => ?_, h.sz, fun j c hj => by rw [hsz]; exact h.lt j c hj, h.fx, h.apart,
  fun c hc => by rw [hsz]; exact h.us c hc, h.ug, h.ul, h.ua, h.ne⟩
 · have := h.box.put i (.bool v)
   rw [show ((aw.set i v).map Value.bool).toArray = (aw.map Value.bool).toArray.setIfInBounds i (.bool v) by simp [List.map_set]]
   exact this
 · obtain ⟨mb, mcap, cb, g, hh⟩ := h.dev j c e hc he
   exact ⟨mb, mcap, cb, g, hh.same (by omega) (fun b hS => hne b (hna j b hS))⟩
end
def SlU (w : World) (U : Nat → Prop) (v : Value) (n : Nat) (cs : List Value) : Prop :=
 ∃ A c, v = .slice A n c ∧ n ≤ c ∧ (0 < n → ∃ b o, A = some ⟨b, o, none⟩ ∧ U b ∧ ∀ j u, cs[j]? = some u → w.cell? ⟨b, o + j, none⟩ = some u)
section
variable {w w' : World} {U V : Nat → Prop} {v : Value} {n : Nat} {cs : List Value}
theorem SlU.to (h : SlU w U v n cs) (hU : ∀ b, U b → b < w.heap.size) : SlAt w v n cs := by
 obtain ⟨A, c, h1, hc, h2⟩ := h
 refine ⟨A, c, h1, hc, fun hp => ?_⟩
 obtain ⟨b, o, e1, e2, e3⟩ := h2 hp
 exact ⟨b, o, e1, hU b e2, e3⟩
theorem SlU.cells {A : Option Addr} {c : Nat} (h : SlU w U (.slice A n c) n cs) (hp : 0 < n) : ∃ b o, A = some ⟨b, o, none⟩ ∧ U b ∧ ∀ j u, cs[j]? = some u → w.cell? ⟨b, o + j, none⟩ = some u := by
 obtain ⟨A', c', h1, _, h2⟩ := h
 cases h1
 exact h2 hp
theorem SlU.form (h : SlU w U v n cs) : ∃ A c, v = .slice A n c := by
 obtain ⟨A, c, h1, _⟩ := h
 exact ⟨A, c, h1⟩
theorem SlU.same (h : SlU w U v n cs) (hs : ∀ b, U b → w'.heap[b]? = w.heap[b]?) : SlU w' U v n cs := by
 obtain ⟨A, c, h1, hc, h2⟩ := h
 refine ⟨A, c, h1, hc, fun hp => ?_⟩
 obtain ⟨b, o, e1, e2, e3⟩ := h2 hp
 exact ⟨b, o, e1, e2, fun j u hu => (cell_same' (hs b e2)).trans (e3 j u hu)⟩
theorem SlU.mono (h : SlU w U v n cs) (hs : ∀ b, U b → V b) : SlU w V v n cs := by
 obtain ⟨A, c, h1, hc, h2⟩ := h
 refine ⟨A, c, h1, hc, fun hp => ?_⟩
 obtain ⟨b, o, e1, e2, e3⟩ := h2 hp
 exact ⟨b, o, e1, hs b e2, e3⟩
def Stays (U : Nat → Prop) (w w' : World) : Prop := Only (fun b => ¬ U b) w w'
theorem Stays.eq (h : Stays U w w') (hU : ∀ b, U b → b < w.heap.size) : ∀ b, U b → w'.heap[b]? = w.heap[b]? := fun b hb => h.block b (hU b hb) (fun hn => hn hb)
theorem SlU.stays (h : SlU w U v n cs) (hs : Stays U w w') (hU : ∀ b, U b → b < w.heap.size) : SlU w' U v n cs := h.same (hs.eq hU)
theorem slU_own {base sz : Nat} {t : TypeId} (h : w.ownsRow base t sz v n cs) (hU : ∀ b, base ≤ b → b < w.heap.size → U b) : SlU w U v n cs := by
 obtain ⟨A, c, h1, hc, h2⟩ := slAt_own h
 refine ⟨A, c, h1, hc, fun hp => ?_⟩
 obtain ⟨b, o, e1, e2, e3⟩ := h2 hp
 subst h1; subst e1
 exact ⟨b, o, rfl, hU b (h.lt b (by
  rcases h.2 with ⟨hn, _⟩ | ⟨g, cap, cur, hv, _⟩
  · cases hn
  · cases hv; rfl)).1 e2, e3⟩
theorem slU_new {base : Nat} (h : SlAt w v n cs) (hn : ∀ b o n c, v = .slice (some ⟨b, o, none⟩) n c → base ≤ b) (hU : ∀ b, base ≤ b → b < w.heap.size → U b) : SlU w U v n cs := by
 obtain ⟨A, c, h1, hc, h2⟩ := h
 refine ⟨A, c, h1, hc, fun hp => ?_⟩
 obtain ⟨b, o, e1, e2, e3⟩ := h2 hp
 subst e1
 exact ⟨b, o, rfl, hU b (hn _ _ _ _ h1) e2, e3⟩
theorem Stays.trans {a b c : World} (h : Stays U a b) (k : Stays U b c) : Stays U a c := Only.trans h k (fun _ hi => .inl hi)
theorem Stays.mono {a b : World} (h : Stays V a b) (hs : ∀ b, U b → V b) : Stays U a b := Only.mono h (fun _ _ hn hU => hn (hs _ hU))
theorem stays_below {a b : World} (h : Below a.heap.size a b) : Stays U a b := Only.of_below h
theorem stays_refl (a : World) : Stays U a a := Only.refl _ a
theorem Stays.below {a b : World} {B : Nat} (h : Stays U a b) (hB : B ≤ a.heap.size) (hU : ∀ i, i < B → U i) : Below B a b := Only.below h hB (fun i hi => by
 by_cases hl : i < B
 · exact absurd (hU i hl) hi
 · omega)
end
end Go.Proofs.YtbhkbcpljakmjaaGreat
