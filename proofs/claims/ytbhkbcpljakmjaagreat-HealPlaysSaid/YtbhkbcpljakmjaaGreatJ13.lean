/-
  What is encoded has whole sectors; the columns of a block. No program stands here.
  Contracts of package vdev: put of a column; Write.
-/
import Derived.Test.YtbhkbcpljakmjaaGreatJ12
import Derived.Test.YtbhkbcpljakmjaaGreatJ11
namespace Go.Proofs.YtbhkbcpljakmjaaGreat
set_option linter.unusedVariables false
set_option linter.unusedSimpArgs false
def lostB (x : Int × Int) (n : Nat) : Bool := (x.1 == 0 && (n : Int) == x.2) || (x.1 == 1 && decide ((1 : Int) < n))
def wN (gs : List (Int × Int)) (secs pg pa : Int) (s : List UInt8) (hs : Nat → Bool) (n : Nat) : Nat := if encE gs secs pg pa s = 0 then failN (ofList gs secs pg pa (secN s)) hs n else 0
def wE (gs : List (Int × Int)) (secs pg pa : Int) (s : List UInt8) (hs : Nat → Bool) (n : Nat) : Int := if encE gs secs pg pa s = 0 then (if lostB (grAt gs pg) (failN (ofList gs secs pg pa (secN s)) hs n) then 6 else 0) else 1
def wD (gs : List (Int × Int)) (secs pg pa : Int) (s : List UInt8) (aw : List Bool) (ds : List DevD) : List DevD := if encE gs secs pg pa s = 0 then wrTo aw (ofList gs secs pg pa (secN s)) (encL gs secs pg pa s) ds (ofList gs secs pg pa (secN s)).length else ds
end Go.Proofs.YtbhkbcpljakmjaaGreat

namespace Go.Proofs.YtbhkbcpljakmjaaGreat
set_option linter.unusedVariables false
set_option linter.unusedSimpArgs false
open Go.RowKit
theorem wrE_all {d : DevD} {N secs : Nat} {ds : List DevD} (ok : DsOk N secs ds) (hd : d ∈ ds) (hl : d.lost = false) {a : Int} (h0 : 0 ≤ a) (h1 : a < secs) {t : List UInt8} (ht : t.length = 64) : d.wrE a t = 0 := by
 obtain ⟨_, h2, h3, _⟩ := ok d hd
 have hm : d.mayE a = 0 := by
  unfold DevD.mayE
  rw [hl]
  simp only [Bool.false_eq_true, if_false]
  rw [if_neg (by omega)]
 unfold DevD.wrE
 rw [hm, if_neg (by simp), if_neg (by omega), if_neg (by omega)]
theorem putc_any {w : World} {S : Nat → Nat → Prop} {U : Nat → Prop} {y : VX} {aw : List Bool} {ds : List DevD} (h : VdIn w S U y aw ds) {N : Nat} (ok : DsOk N y.secs ds) (hN : N ≤ 1000000) {c : Col} {i : Nat} (hi : c.1 = i) {d : DevD} (hd : ds[i]? = some d)
 (h0 : 0 ≤ c.2.1) (h1 : c.2.1 < y.secs) {t : List UInt8} (ht : t.length = 64) :
 Calls Tryz.prog 58 #[y.val, .agg #[.int .i64 c.1, .int .i64 c.2.1, .bool c.2.2.1, .int .i64 c.2.2.2], str t] w fun e w' => e = .returned (.bool (!(aw.getD i false) && !d.lost)) ∧ (∃ S', VdIn w' S' U y aw (putD aw ds c t)) ∧ Stays U w w' := by
 obtain ⟨hil, b, a, _, ha, _, _, _⟩ := h.parts hd
 have hag : aw.getD i false = a := by rw [List.getD_eq_getElem?_getD, ha]; rfl
 have hpd : putD aw ds c t = if (!a && !d.lost) then ds.set i (d.wr c.2.1 t) else ds := by
  unfold putD
  rw [hi, Int.toNat_natCast, hd, hag]
 rw [hag, hpd, hi]
 cases hh : (!a && !d.lost) with
 | false =>
  refine (put_no h ha hd hh _ _ _ _).mono ?_
  rintro e w' ⟨rfl, hb⟩
  exact ⟨rfl, ⟨S, by simpa using h.below hb⟩, stays_below hb⟩
 | true =>
  simp only [Bool.and_eq_true, Bool.not_eq_true'] at hh
  obtain ⟨rfl, hlo⟩ := hh
  obtain ⟨o1, o2, o3, o4⟩ := ok d (List.mem_of_getElem? hd)
  refine (put_yes h ha hd hlo _ _ _ _ o1 (fun k => Nat.le_trans (o4 k) hN) (by omega)).mono ?_
  rintro e w' ⟨rfl, hv, hs⟩
  rw [wrE_all ok (List.mem_of_getElem? hd) hlo h0 h1 ht]
  exact ⟨rfl, by simpa using hv, hs⟩
set_option maxRecDepth 20000 in
set_option maxHeartbeats 1000000 in
theorem vwrite_any {w : World} {S : Nat → Nat → Prop} {U : Nat → Prop} {y : VX} {aw : List Bool} {ds : List DevD} (h : VdIn w S U y aw ds) {N : Nat} (ok : DsOk N y.secs ds) (hN : N ≤ 900000) (few : y.bd.length ≤ 1000) (pg pa : Int) (s : List UInt8) (hl : s.length ≤ 140737488355328) :
 Calls Tryz.prog 28 #[y.val, .agg #[.int .i64 pg, .int .i64 pa], str s] w fun e w' => e = .returned (.tuple #[.int .i64 (wN y.gs y.secs pg pa s (hereD aw ds) y.bd.length), .int .i64 (wE y.gs y.secs pg pa s (hereD aw ds) y.bd.length)]) ∧
  (∃ S', VdIn w' S' U y aw (wD y.gs y.secs pg pa s aw ds)) ∧ Stays U w w' := by
 obtain ⟨w1, hw1⟩ : ∃ z, (w.alloc (.cells y.cells 37)).alloc (.cells #[.int .i64 pg, .int .i64 pa] 26) = z := ⟨_, rfl⟩
 have B1 : Blk w1 w.heap.size 37 y.cells := by rw [← hw1]; exact (Blk.new _ _ _).alloc _
 have B2 : Blk w1 (w.heap.size + 1) 26 #[.int .i64 pg, .int .i64 pa] := by rw [← hw1]; exact Blk.new2 _ _ _ _
 have D1 : Below w.heap.size w w1 := by rw [← hw1]; exact keep_alloc (keep_alloc (Below.refl _ _) _) _
 have HR := Lib.hid (vright_any (h.below D1) few)
 have HE := Lib.hid (fun W (hW : Below w1.heap.size w1 W) => encode_any (some ⟨y.gb, 0, none⟩) y.m y.cc y.gs y.secs pg pa s ((h.below D1).geo.below hW (Nat.le_refl _)) hl)
 have HO := Lib.hid (fun W (hW : Below w1.heap.size w1 W) => of_any (some ⟨y.gb, 0, none⟩) y.m y.cc y.gs y.secs pg pa (secN s) W ((h.below D1).geo.below hW (Nat.le_refl _)))
 have HH := Lib.hid h
 have HOK := Lib.hid ok
 have HB1 := Lib.hid B1
 have HB2 := Lib.hid B2
 have HD1 := Lib.hid D1
 have HW1 := Lib.hid hw1
 have hq : Int.tdiv (s.length : Int) 64 = (secN s : Int) := rfl
 clear h ok B1 B2 D1 hw1 hl
 go_enter Tryz.func28, Tryz.ntmps28
 go_wp2_with fail
 rw [HW1.out]
 clear HW1
 refine HR.out.mono ?_
 rintro e w2 ⟨rfl, hb2⟩
 have HB12 := Lib.hid hb2
 have g0 := keep_cell hb2 (HB1.out.at_ (i := 0) (v := .slice (some ⟨y.gb, 0, none⟩) y.m y.cc) rfl) HB1.out.lt
 have g1 := keep_cell hb2 (HB1.out.at_ (i := 1) (v := .int .i64 y.secs) rfl) HB1.out.lt
 have p0 := keep_cell hb2 (HB2.out.at_ (i := 0) (v := .int .i64 pg) rfl) HB2.out.lt
 have p1 := keep_cell hb2 (HB2.out.at_ (i := 1) (v := .int .i64 pa) rfl) HB2.out.lt
 clear hb2
 go_wp2_with fail
 refine (HE.out _ HB12.out).mono ?_
 rintro e w3 ⟨tv, rfl, hT, hb3, hnew⟩
 have HB13 := Lib.hid (keep_below hb3 HB12.out)
 have HTV := Lib.hid (And.intro hT (And.intro hnew hb3.size))
 clear g0 g1 p0 p1
 by_cases hz : encE y.gs y.secs pg pa s = 0
 · obtain ⟨ATv, cTv, rfl⟩ := hT.form
   obtain ⟨z1, z2, z3⟩ := encE_zero hz
   have HZ := Lib.hid (And.intro hz (And.intro z1 (And.intro z2 z3)))
   rw [hz]
   have g0 := keep_cell HB13.out (HB1.out.at_ (i := 0) (v := .slice (some ⟨y.gb, 0, none⟩) y.m y.cc) rfl) HB1.out.lt
   have g1 := keep_cell HB13.out (HB1.out.at_ (i := 1) (v := .int .i64 y.secs) rfl) HB1.out.lt
   have p0 := keep_cell HB13.out (HB2.out.at_ (i := 0) (v := .int .i64 pg) rfl) HB2.out.lt
   have p1 := keep_cell HB13.out (HB2.out.at_ (i := 1) (v := .int .i64 pa) rfl) HB2.out.lt
   have hs4 : secN s ≤ 4 := by
    unfold secOk at z1
    simp only [Bool.and_eq_true, decide_eq_true_eq] at z1
    unfold secN
    omega
   clear hb3 hnew hT hz z1 z2 z3
   go_wp2_with fail
   refine (HO.out _ HB13.out).mono ?_
   rintro e w4 ⟨cv, rfl, hcol, hb4⟩
   obtain ⟨L, hL⟩ : ∃ L, L = ofList y.gs y.secs pg pa (secN s) := ⟨_, rfl⟩
   obtain ⟨T, hT⟩ : ∃ T, T = encL y.gs y.secs pg pa s := ⟨_, rfl⟩
   rw [← hL] at hcol
   obtain ⟨Ac, ccap, rfl⟩ := (slAt_own hcol).form
   have hL64 : L.length ≤ 64 := by rw [hL]; exact ofList_le _ _ _ _ _
   have hTL : T.length = L.length := by rw [hT, encL_len, hL]
   have HB14 := Lib.hid (keep_below hb4 HB13.out)
   have HD4 := Lib.hid (keep_below HB14.out HD1.out)
   obtain ⟨wM, hwM⟩ : ∃ z, w4.alloc (.map #[] 0) = z := ⟨_, rfl⟩
   have hDM : Below w4.heap.size w4 wM := by rw [← hwM]; exact (Below.refl _ _).alloc (Nat.le_refl _) _
   have hsM : wM.heap.size = w4.heap.size + 1 := by rw [← hwM]; simp
   have hmap : MapAt Tryz.prog 3 wM w4.heap.size 0 (failF L (hereD aw ds) 0) := by rw [← hwM, failF_zero]; exact mapAt_made _ _ _
   obtain ⟨U2, hU2⟩ : ∃ U2, U2 = more U w w4 := ⟨_, rfl⟩
   have hV4 : VdIn w4 S U2 y aw ds := by rw [hU2]; exact HH.out.more HD4.out
   have HUL := Lib.hid hV4.us
   have HUG := Lib.hid (And.intro hV4.ug (And.intro hV4.ul hV4.ua))
   have hVM : VdIn wM S (fun b => U2 b ∨ b = w4.heap.size) y aw ds := (hV4.below hDM).wide (fun b hb => .inl hb) (fun b hb => by rcases hb with hb | rfl; exact Nat.lt_of_lt_of_le (HUL.out b hb) hDM.size; omega) (fun i b hS hb => by rcases hb with hb | rfl; exact hV4.fx i b hS hb; exact absurd (hV4.lt i _ hS) (by omega))
   have H : Hid (SlU wM U2 (.slice Ac L.length ccap) L.length (colsCells L)) := Lib.hid ((slU_own hcol (fun b h1 h2 => by rw [hU2]; exact .inr ⟨by have := HD1.out.size; have := HB13.out.size; omega, h2⟩)).same (fun b hb => hDM.block b (HUL.out b hb)))
   have HTX : Hid (SlU wM U2 (.slice ATv L.length cTv) L.length (strC T)) := Lib.hid (by
    obtain ⟨t1, t2, t3⟩ := HTV.out
    rw [HZ.out.2.2.2, ← hT, hTL] at t1 t2
    exact (slU_new (t1.below hb4) t2 (fun b h1 h2 => by rw [hU2]; exact .inr ⟨by have := HD1.out.size; have := HB12.out.size; omega, h2⟩)).same (fun b hb => hDM.block b (HUL.out b hb)))
   have hel : (encS y.gs y.secs pg pa s).length = L.length := by rw [HZ.out.2.2.2, ← hT, hTL]
   rw [hel]
   have HUB : Hid (U2 w.heap.size ∧ U2 (w.heap.size + 1) ∧ (∀ b, U b → U2 b)) := Lib.hid (by rw [hU2]; exact ⟨.inr ⟨Nat.le_refl _, Nat.lt_of_lt_of_le HB1.out.lt HB14.out.size⟩, .inr ⟨Nat.le_succ _, Nat.lt_of_lt_of_le HB2.out.lt HB14.out.size⟩, fun b hb => .inl hb⟩)
   have HXB : Hid (Blk wM w.heap.size 37 y.cells ∧ Blk wM (w.heap.size + 1) 26 #[.int .i64 pg, .int .i64 pa]) := Lib.hid ⟨(HB1.out.below HB14.out HB1.out.lt).below hDM (Nat.lt_of_lt_of_le HB1.out.lt HB14.out.size), (HB2.out.below HB14.out HB2.out.lt).below hDM (Nat.lt_of_lt_of_le HB2.out.lt HB14.out.size)⟩
   have HCF : Hid (∀ (k : Nat) (x : Col), L[k]? = some x → (∃ i : Nat, x.1 = i ∧ i < y.bd.length) ∧ 0 ≤ x.2.1 ∧ x.2.1 < y.secs ∧ ∃ t, T[k]? = some t ∧ t.length = 64) := Lib.hid (fun k x hx => by
    have hz2 := HZ.out.2.2.1
    have hLc : ofList y.gs y.secs pg pa (secN s) = colsOf y.gs y.secs pg pa (secN s) := by unfold ofList; rw [if_pos hz2]
    rw [hL, hLc] at hx
    obtain ⟨c1, c2, c3, c4⟩ := (apart_pure hz2 hz2).1 k x hx
    have hnd : gDevs y.gs y.secs = y.bd.length := by unfold gDevs; rw [if_pos HH.out.right]; exact HH.out.nd
    refine ⟨⟨x.1.toNat, by omega, by omega⟩, by omega, c4, ?_⟩
    have hk : k < T.length := by rw [hTL, hL, hLc]; exact (List.getElem?_eq_some_iff.1 hx).1
    refine ⟨T[k], List.getElem?_eq_getElem hk, ?_⟩
    exact encL_64 hz2 _ (by rw [← hT]; exact List.getElem_mem hk))
   have HLT0 := Lib.hid (And.intro hL (And.intro hT hTL))
   have HVM := Lib.hid hVM
   have HMM := Lib.hid hmap
   have HSM := Lib.hid hsM
   have HUM : Hid (∀ b, U2 b → b < wM.heap.size) := Lib.hid (fun b hb => by have := HUL.out b hb; omega)
   have HWM := Lib.hid hwM
   have HDM := Lib.hid hDM
   clear hcol hb4 hwM hDM hsM hmap hU2 hV4 hVM hel hL hT hTL g0 g1 p0 p1 HO HE HR HTV
   have hmm := @run_makeMap Tryz.prog
   go_wp2_with fail
   rw [HWM.out]
   clear HWM hmm
   go_loopw [13, 14, 43] (fun _ _ t wr => ∃ (k : Nat) (S' : Nat → Nat → Prop), k ≤ L.length ∧ t = .int .i64 k ∧ VdIn wr S' (fun b => U2 b ∨ b = w4.heap.size) y aw (wrTo aw L T ds k) ∧ (∃ n, n ≤ k ∧ MapAt Tryz.prog 3 wr w4.heap.size n (failF L (hereD aw ds) k)) ∧ Stays U2 wM wr) (fun _ _ t _ => L.length - (RowKit.intOf t).toNat)
   case atStart => exact ⟨0, S, Nat.zero_le _, rfl, HVM.out, ⟨0, Nat.le_refl _, HMM.out⟩, stays_refl _⟩
   case round =>
    clear HVM HMM
    obtain ⟨k, S', hk, rfl, hV, ⟨n, hn, hm⟩, hst⟩ := hrel
    have HV := Lib.hid hV
    have HM := Lib.hid hm
    have HST := Lib.hid hst
    have HEQ := Lib.hid (hst.eq HUM.out)
    clear hV hm hst
    by_cases hlt : k < L.length
    · obtain ⟨b, o, rfl, hbl, hcell⟩ := H.out.cells (by omega)
      obtain ⟨x, hx⟩ : ∃ x, L[k]? = some x := ⟨_, List.getElem?_eq_getElem hlt⟩
      obtain ⟨q0, q1, q2, q3⟩ := colsCells_at hx
      have hcl : ∀ j u, (colsCells L)[j]? = some u → wr.cell? ⟨b, o + j, none⟩ = some u := fun j u hu => (World.cell?_of_block (HEQ.out b hbl)).trans (hcell j u hu)
      have f0 : wr.cell? ⟨b, o + k * 4, none⟩ = some (.int .i64 x.1) := hcl _ _ q0
      have f1 : wr.cell? ⟨b, o + k * 4 + 1, none⟩ = some (.int .i64 x.2.1) := hcl _ _ q1
      have f2 : wr.cell? ⟨b, o + k * 4 + 2, none⟩ = some (.bool x.2.2.1) := hcl _ _ q2
      have f3 : wr.cell? ⟨b, o + k * 4 + 3, none⟩ = some (.int .i64 x.2.2.2) := hcl _ _ q3
      have hdc : decide (k < L.length) = true := decide_eq_true hlt
      have HLT := Lib.hid hlt
      have HX := Lib.hid hx
      have hi44 : (Tryz.prog.info? 71).map (·.size) = some (#[.int .i64 x.1, .int .i64 x.2.1, .bool x.2.2.1, .int .i64 x.2.2.2] : Array Value).size := by kernel_rfl
      have h1c : (#[.int .i64 x.1, .int .i64 x.2.1, .bool x.2.2.1, .int .i64 x.2.2.2] : Array Value).all (·.oneCell') = true := by kernel_rfl
      have Z2 : Blk (wr.alloc (.cells colZ 71)) wr.heap.size 71 colZ := Blk.new _ _ _
      have hth : (wr.alloc (.cells colZ 71)).there wr.heap.size 0 (#[.int .i64 x.1, .int .i64 x.2.1, .bool x.2.2.1, .int .i64 x.2.2.2] : Array Value).size := Z2.there (Nat.le_refl _)
      obtain ⟨w2, hw2⟩ : ∃ y, (wr.alloc (.cells colZ 71)).setCells wr.heap.size 0 (#[.int .i64 x.1, .int .i64 x.2.1, .bool x.2.2.1, .int .i64 x.2.2.2] : Array Value).toList = y := ⟨_, rfl⟩
      have X2 : Blk w2 wr.heap.size 71 #[.int .i64 x.1, .int .i64 x.2.1, .bool x.2.2.1, .int .i64 x.2.2.2] := by rw [← hw2]; exact Z2.putAll _ rfl
      have hb2 : Below wr.heap.size wr w2 := by rw [← hw2]; exact below_sets _ _ (keep_alloc (Below.refl _ _) _) (Nat.le_refl _)
      have hs2 : w2.heap.size = wr.heap.size + 1 := by rw [← hw2, sets_size', World.size_alloc]
      have HW2 := Lib.hid hw2
      have HX2 := Lib.hid X2
      have HK2 := Lib.hid hb2
      have HS2 := Lib.hid hs2
      have e2 : w2.cell? ⟨wr.heap.size, 2, none⟩ = some (.bool x.2.2.1) := X2.at_ rfl
      have e3 : w2.cell? ⟨wr.heap.size, 3, none⟩ = some (.int .i64 x.2.2.2) := X2.at_ rfl
      clear q0 q1 q2 q3 hcl hcell hx hbl hw2 X2 hb2 hs2 Z2
      obtain ⟨⟨i, hxi, hib⟩, hx0, hx1, t, ht, ht64⟩ := HCF.out k x HX.out
      obtain ⟨tb, tof, rfl, htb, htc⟩ := HTX.out.cells (by omega)
      have htk : wr.cell? ⟨tb, tof + k, none⟩ = some (str t) := (cell_same' (HEQ.out tb htb)).trans (htc k _ (strC_at ht))
      have hV2 : VdIn w2.drew S' (more (fun b => U2 b ∨ b = w4.heap.size) wr w2) y aw (wrTo aw L T ds k) := (HV.out.more HK2.out).same (w' := w2.drew) (Nat.le_refl _) (fun _ _ => rfl) (fun _ _ _ => rfl)
      obtain ⟨dk, hdk⟩ : ∃ dk, (wrTo aw L T ds k)[i]? = some dk := ⟨_, List.getElem?_eq_getElem (by rw [HV.out.n2]; exact hib)⟩
      have hput := putc_any hV2 (wrTo_ok HOK.out k) (by omega) hxi hdk hx0 hx1 ht64
      rw [← wrTo_at hdk, show putD aw (wrTo aw L T ds k) x t = wrTo aw L T ds (k + 1) by rw [wrTo, HX.out, ht]] at hput
      have HP := Lib.hid hput
      have HXI := Lib.hid hxi
      clear hxi hput hV2 hdk hx0 hx1 ht ht64 htc e2 e3
      repeat' (first
       | (((with_reducible refine wpList_store_mid ?a1 71 (.tmp 14) (.tmp 47) ?a2 wr.heap.size 0 #[.int .i64 x.1, .int .i64 x.2.1, .bool x.2.2.1, .int .i64 x.2.2.2] ?a3 ?a4 hth hi44 h1c ?_); (case a1 => rfl); (case a2 => rfl); (case a3 => rfl); (case a4 => rfl); simp only [Act.put, List.setIfInBounds_toArray, List.set_cons_zero, List.set_cons_succ]; rw [HW2.out]))
       | go_values
       | go_skip
       | go_guarded
       | ((fail_if_success (with_reducible refine drawn_mark ?_))
          first
           | go_step
           | go_upon
           | go_back
           | (simp only [Int.not_lt, Int.not_le] at *; go_simp)
           | (go_values <;> (try go_simp))
           | (go_ite <;> go_prune <;> (try go_simp))
           | (split <;> (first | (rename_i hx; exact (hx _ rfl).elim) | go_prune))))
      have HUB2 := Lib.hid (And.intro htb htk)
      have hlw : wr.heap.size < w2.heap.size := by have := HS2.out; omega
      obtain ⟨S0, hS0⟩ : ∃ S0 : World → Prop, S0 = fun W => ∀ g, (g = w.heap.size ∨ g = wr.heap.size ∨ g = tb) → W.heap[g]? = w2.heap[g]? := ⟨_, rfl⟩
      have hS1 : ∀ W, Stays (more (fun b => U2 b ∨ b = w4.heap.size) wr w2) w2 W → S0 W := fun W hW => by
       rw [hS0]
       intro g hg
       have hU : more (fun b => U2 b ∨ b = w4.heap.size) wr w2 g := by
        rcases hg with rfl | rfl | rfl
        · exact .inl (.inl HUB.out.1)
        · exact .inr ⟨Nat.le_refl _, hlw⟩
        · exact .inl (.inl HUB2.out.1)
       refine hW.heap hU ?_
       rcases hU with (hU | rfl) | hU
       · exact Nat.lt_of_lt_of_le (Nat.lt_of_lt_of_le (HUM.out g hU) HST.out.size) HK2.out.size
       · exact Nat.lt_of_lt_of_le (Nat.lt_of_lt_of_le (by have := HSM.out; omega) HST.out.size) HK2.out.size
       · exact hU.2
      have hxb : Blk w2 w.heap.size 37 y.cells := (HK2.out.block _ (Nat.lt_of_lt_of_le (HUM.out _ HUB.out.1) HST.out.size)).trans ((HEQ.out _ HUB.out.1).trans HXB.out.1)
      have htb2 : w2.cell? ⟨tb, tof + k, none⟩ = some (str t) := (cell_same' (HK2.out.block tb (Nat.lt_of_lt_of_le (HUM.out _ HUB2.out.1) HST.out.size))).trans HUB2.out.2
      have f0 : ∀ W, S0 W → W.cell? ⟨w.heap.size, 0, none⟩ = some (.slice (some ⟨y.gb, 0, none⟩) y.m y.cc) := fun W h => by rw [hS0] at h; exact (cell_same' (h _ (.inl rfl))).trans (hxb.at_ rfl)
      have f1 : ∀ W, S0 W → W.cell? ⟨w.heap.size, 1, none⟩ = some (.int .i64 y.secs) := fun W h => by rw [hS0] at h; exact (cell_same' (h _ (.inl rfl))).trans (hxb.at_ rfl)
      have f2 : ∀ W, S0 W → W.cell? ⟨w.heap.size, 2, none⟩ = some (.slice (some ⟨y.lb, 0, none⟩) y.bd.length y.lc) := fun W h => by rw [hS0] at h; exact (cell_same' (h _ (.inl rfl))).trans (hxb.at_ rfl)
      have f3 : ∀ W, S0 W → W.cell? ⟨w.heap.size, 3, none⟩ = some (.slice (some ⟨y.ab, 0, none⟩) y.bd.length y.bd.length) := fun W h => by rw [hS0] at h; exact (cell_same' (h _ (.inl rfl))).trans (hxb.at_ rfl)
      have f4 : ∀ W, S0 W → W.cell? ⟨wr.heap.size, 0, none⟩ = some (.int .i64 x.1) := fun W h => by rw [hS0] at h; exact (cell_same' (h _ (.inr (.inl rfl)))).trans (HX2.out.at_ rfl)
      have f5 : ∀ W, S0 W → W.cell? ⟨wr.heap.size, 1, none⟩ = some (.int .i64 x.2.1) := fun W h => by rw [hS0] at h; exact (cell_same' (h _ (.inr (.inl rfl)))).trans (HX2.out.at_ rfl)
      have f6 : ∀ W, S0 W → W.cell? ⟨wr.heap.size, 2, none⟩ = some (.bool x.2.2.1) := fun W h => by rw [hS0] at h; exact (cell_same' (h _ (.inr (.inl rfl)))).trans (HX2.out.at_ rfl)
      have f7 : ∀ W, S0 W → W.cell? ⟨wr.heap.size, 3, none⟩ = some (.int .i64 x.2.2.2) := fun W h => by rw [hS0] at h; exact (cell_same' (h _ (.inr (.inl rfl)))).trans (HX2.out.at_ rfl)
      have f8 : ∀ W, S0 W → W.cell? ⟨tb, tof + k, none⟩ = some (str t) := fun W h => by rw [hS0] at h; exact (cell_same' (h _ (.inr (.inr rfl)))).trans htb2
      have hSw : S0 w2.drew := hS1 _ (Only.drew (stays_refl _))
      have HS1 := Lib.hid hS1
      have hkL := HLT.out
      clear hS0 hS1 hxb htb2 htb htk hlw hth hi44 h1c HXB
      refine G.wp_region_eff S0 [6] 7 (by kernel_rfl) (by kernel_rfl) (by kernel_rfl) hSw ?_
      simp only [List.take_succ_cons, List.take_zero, List.drop_succ_cons, List.drop_zero]
      refine G.wpLexE_take 6 (by kernel_rfl) (by kernel_rfl) ?_
      simp only [List.take_succ_cons, List.take_zero, List.drop_succ_cons, List.drop_zero]
      repeat (first | go_big_quiet_skip | (go_big_quiet_want; go_big_quiet_op; first | go_big_quiet_on | (apply Exists.intro; refine ⟨fun W hW => ?_, ?_⟩; (focus ((first | exact rfl | exact ⟨rfl, rfl⟩ | (simp only [f0 W hW, f1 W hW, f2 W hW, f3 W hW, f4 W hW, f5 W hW, f6 W hW, f7 W hW, f8 W hW, Result.andThen_ok]; first | done | exact ⟨trivial, rfl⟩ | exact rfl | exact ⟨rfl, rfl⟩) | (skip)); done)); go_big_quiet_on)))
      refine wpQuiet_nil ?_
      show G.wpLexE _ _ _ _ _ _ _ _ _
      refine G.wpLexE_eff (by kernel_rfl) rfl ?_
      clear f0 f1 f2 f3 f5 f6 f7 f8
      go_wp2_with fail
      refine HP.out.mono ?_
      rintro e w5 ⟨rfl, ⟨S5, hV5⟩, hst5⟩
      have hst5' : Stays (more (fun b => U2 b ∨ b = w4.heap.size) wr w2) w2 w5 := ⟨hst5.os, hst5.tape, hst5.output, hst5.size, hst5.block⟩
      have hS5 : S0 w5 := HS1.out _ hst5'
      have fc := f4 w5 hS5
      have HV5 := Lib.hid hV5
      have HT5 := Lib.hid hst5'
      clear hst5 hst5' hV5 f4 hSw HS1 HP
      go_wp2_with fail
      refine ⟨rfl, hS5, ?_⟩
      show wpList _ _ _ _ _ _
      clear hS5
      have HV6 := Lib.hid (HV5.out.narrow (U := fun b => U2 b ∨ b = w4.heap.size) (fun b hb => .inl hb) HV.out.ug HV.out.ul HV.out.ua)
      have HT6 := Lib.hid (HST.out.trans ((stays_below HK2.out).trans (HT5.out.mono (fun b hb => .inl (.inl hb)))))
      have hfw : w4.heap.size < wr.heap.size := Nat.lt_of_lt_of_le (by have := HSM.out; omega) HST.out.size
      have HM6 := Lib.hid ((HM.out.same (HK2.out.block _ hfw)).same (HT5.out.heap (.inl (.inr rfl)) (Nat.lt_of_lt_of_le hfw HK2.out.size)))
      clear hfw
      cases hh : hereD aw ds i with
      | true =>
       have HHH : Hid (failF L (hereD aw ds) (k + 1) = failF L (hereD aw ds) k) := Lib.hid (failF_no HX.out (by rw [HXI.out, Int.toNat_natCast]; exact hh))
       go_wp2_with fail
       go_roundw
       case rel => exact ⟨k + 1, S5, HLT.out, by go_num, HV6.out, ⟨n, by omega, by rw [HHH.out]; exact HM6.out⟩, HT6.out⟩
       case measure => have := HLT.out; simp [RowKit.intOf]; omega
      | false =>
       have HHH : Hid (failF L (hereD aw ds) (k + 1) = fun j => if j = x.1 then some (.bool true) else failF L (hereD aw ds) k j) := Lib.hid (failF_yes HX.out (by rw [HXI.out, Int.toNat_natCast]; exact hh))
       have hm6 := HM6.out
       go_wp2_with ((with_reducible refine wpList_map_store ?m1 (.tmp 56) (.tmp 58) (.const (.bool true)) 120 ?m2 3 4 Tryz.underlying3 Tryz.underlying120 w4.heap.size n (failF L (hereD aw ds) k) ?m5 hm6 ?m6 x.1 (.bool true) ?m7 ?m8 ?m9 ?m10); (case m1 => rfl); (case m2 => rfl); (case m5 => rfl); (case m6 => unfold maxLen; omega); (case m7 => rfl); (case m8 => rfl); (case m9 => have := HXI.out; exact wfz_in (by omega) (by omega)))
       intro w6 hm7 hg6 hsz6
       have ho6 := Only.of_grown (S := fun g => g = w4.heap.size) hg6 rfl
       have hne : ∀ g, U2 g → g ≠ w4.heap.size := fun g hg e => by have := HUL.out g hg; omega
       have HV7 := Lib.hid (HV6.out.only ho6 (fun g hg => ⟨.inr hg, fun e => hne _ HUG.out.1 (e.symm.trans hg), fun e => hne _ HUG.out.2.1 (e.symm.trans hg), fun e => hne _ HUG.out.2.2 (e.symm.trans hg)⟩))
       have HT7 := Lib.hid (HT6.out.trans (Only.mono ho6 (fun g _ hg hU => hne g hU hg) : Stays U2 w5 w6))
       have HM7 := Lib.hid hm7
       clear hm7 hg6 hsz6 ho6 hne hm6
       go_wp2_with fail
       go_roundw
       case rel => exact ⟨k + 1, S5, HLT.out, by go_num, HV7.out, ⟨n + 1, by omega, by rw [HHH.out]; exact HM7.out⟩, HT7.out⟩
       case measure => have := HLT.out; simp [RowKit.intOf]; omega
    · obtain rfl : k = L.length := by omega
      have hdc : decide ((L.length : Int) < L.length) = false := decide_eq_false (by omega)
      obtain ⟨g, gx, hpg, hgk, _, _, _, hgx, hgr, hone⟩ := gHas_true (cMay_true HZ.out.2.2.1).1
      obtain ⟨gbk, goff, hge, hgs⟩ := HV.out.geo.2.2 (by rw [← HV.out.geo.1]; omega)
      cases hge
      obtain ⟨k0, k1⟩ := hgs.2 g gx hgx
      rw [Nat.zero_add] at k0 k1
      have hgm : g < y.m := by rw [← HV.out.geo.1]; exact hgk
      obtain ⟨kd, wd⟩ := gx
      have hxb := (HEQ.out _ HUB.out.1).trans HXB.out.1
      have hpb := (HEQ.out _ HUB.out.2.1).trans HXB.out.2
      have g0 : wr.cell? ⟨w.heap.size, 0, none⟩ = some (.slice (some ⟨y.gb, 0, none⟩) y.m y.cc) := (show Blk _ _ _ _ from hxb).at_ rfl
      have p0 : wr.cell? ⟨w.heap.size + 1, 0, none⟩ = some (.int .i64 g) := by rw [← hpg]; exact (show Blk _ _ _ _ from hpb).at_ rfl
      have hi55 : (Tryz.prog.info? 53).map (·.size) = some (#[.int .i64 kd, .int .i64 wd] : Array Value).size := by kernel_rfl
      have h1c : (#[.int .i64 kd, .int .i64 wd] : Array Value).all (·.oneCell') = true := by kernel_rfl
      have Z2 : Blk (wr.alloc (.cells #[.int .i64 0, .int .i64 0] 53)) wr.heap.size 53 #[.int .i64 0, .int .i64 0] := Blk.new _ _ _
      have hth : (wr.alloc (.cells #[.int .i64 0, .int .i64 0] 53)).there wr.heap.size 0 (#[.int .i64 kd, .int .i64 wd] : Array Value).size := Z2.there (Nat.le_refl _)
      obtain ⟨w6, hw6⟩ : ∃ z, (wr.alloc (.cells #[.int .i64 0, .int .i64 0] 53)).setCells wr.heap.size 0 (#[.int .i64 kd, .int .i64 wd] : Array Value).toList = z := ⟨_, rfl⟩
      have X6 : Blk w6 wr.heap.size 53 #[.int .i64 kd, .int .i64 wd] := by rw [← hw6]; exact Z2.putAll _ rfl
      have hb6 : Below wr.heap.size wr w6 := by rw [← hw6]; exact below_sets _ _ (keep_alloc (Below.refl _ _) _) (Nat.le_refl _)
      have e0 : w6.cell? ⟨wr.heap.size, 0, none⟩ = some (.int .i64 kd) := X6.at_ rfl
      have e1 : w6.cell? ⟨wr.heap.size, 1, none⟩ = some (.int .i64 wd) := X6.at_ rfl
      have hfw : w4.heap.size < wr.heap.size := Nat.lt_of_lt_of_le (by have := HSM.out; omega) HST.out.size
      have hm6 := HM.out.same (hb6.block _ hfw)
      obtain ⟨hk1, hk2⟩ := failF_keys (L := L) (hs := hereD aw ds) (n := y.bd.length) (fun c hc => by
       obtain ⟨j, hj⟩ := List.mem_iff_getElem?.1 hc
       obtain ⟨⟨i, h1, h2⟩, _⟩ := HCF.out j c hj
       omega)
      obtain ⟨nf, hnf⟩ : ∃ nf, nf = failN L (hereD aw ds) y.bd.length := ⟨_, rfl⟩
      have hlen : ∀ ty, (Builtin.len_ #[120] ty #[.map (some w4.heap.size)]).run Tryz.prog w6 = .ok (.int .i64 nf) w6 := fun ty => by
       have := hm6.len_eq (ty := ty) Tryz.underlying3 Tryz.underlying120 hk1 hk2
       rw [List.length_map] at this
       rw [hnf]
       exact this
      have HW6 := Lib.hid hw6
      have HB6 := Lib.hid hb6
      have HNF : Hid (wN y.gs y.secs pg pa s (hereD aw ds) y.bd.length = nf ∧ wE y.gs y.secs pg pa s (hereD aw ds) y.bd.length = (if lostB (kd, wd) nf then 6 else 0) ∧ wD y.gs y.secs pg pa s aw ds = wrTo aw L T ds L.length) := Lib.hid (by
       unfold wN wE wD
       rw [if_pos HZ.out.1, if_pos HZ.out.1, if_pos HZ.out.1, ← HLT0.out.1, ← HLT0.out.2.1, ← hnf, hpg, hgr]
       exact ⟨rfl, rfl, rfl⟩)
      have HFIN : Hid ((∃ S', VdIn w6 S' U y aw (wrTo aw L T ds L.length)) ∧ Stays U w w6) := Lib.hid ⟨⟨S', (HV.out.below HB6.out).narrow (fun b hb => .inl (HUB.out.2.2 b hb)) HH.out.ug HH.out.ul HH.out.ua⟩,
       (stays_below HD4.out).trans ((stays_below HDM.out).trans ((HST.out.mono (fun b hb => HUB.out.2.2 b hb)).trans (stays_below HB6.out)))⟩
      have hone' := gOne_true hone
      clear hgs hgx hgr hone hxb hpb X6 Z2 hw6 hb6 hm6 hk1 hk2 hnf hpg hfw hgk
      rcases hone' with ⟨e, _, _⟩ | ⟨e, _, _⟩
      · have hk0 : (kd == 0) = true := by rw [show kd = 0 from e]; rfl
        have hk1 : (kd == 1) = false := by rw [show kd = 0 from e]; rfl
        clear e
        cases hc : ((nf : Int) == wd) with
        | true =>
         have HLB : Hid (lostB (kd, wd) nf = true) := Lib.hid (by unfold lostB; simp only [hk0, hk1, hc]; rfl)
         go_wp2_with ((with_reducible refine wpList_store_mid ?a1 53 (.tmp 15) (.tmp 66) ?a2 wr.heap.size 0 #[.int .i64 kd, .int .i64 wd] ?a3 ?a4 hth hi55 h1c ?_); (case a1 => rfl); (case a2 => rfl); (case a3 => rfl); (case a4 => rfl); simp only [Act.put, List.setIfInBounds_toArray, List.set_cons_zero, List.set_cons_succ]; rw [HW6.out])
         go_ret2
         rw [HNF.out.1, HNF.out.2.1, HNF.out.2.2, HLB.out]
         exact ⟨rfl, HFIN.out⟩
        | false =>
         have HLB : Hid (lostB (kd, wd) nf = false) := Lib.hid (by unfold lostB; simp only [hk0, hk1, hc]; rfl)
         go_wp2_with ((with_reducible refine wpList_store_mid ?a1 53 (.tmp 15) (.tmp 66) ?a2 wr.heap.size 0 #[.int .i64 kd, .int .i64 wd] ?a3 ?a4 hth hi55 h1c ?_); (case a1 => rfl); (case a2 => rfl); (case a3 => rfl); (case a4 => rfl); simp only [Act.put, List.setIfInBounds_toArray, List.set_cons_zero, List.set_cons_succ]; rw [HW6.out])
         go_ret2
         rw [HNF.out.1, HNF.out.2.1, HNF.out.2.2, HLB.out]
         exact ⟨rfl, HFIN.out⟩
      · have hk0 : (kd == 0) = false := by rw [show kd = 1 from e]; rfl
        have hk1 : (kd == 1) = true := by rw [show kd = 1 from e]; rfl
        clear e
        cases hc : decide ((1 : Int) < nf) with
        | true =>
         have HLB : Hid (lostB (kd, wd) nf = true) := Lib.hid (by unfold lostB; simp only [hk0, hk1, hc]; rfl)
         go_wp2_with ((with_reducible refine wpList_store_mid ?a1 53 (.tmp 15) (.tmp 66) ?a2 wr.heap.size 0 #[.int .i64 kd, .int .i64 wd] ?a3 ?a4 hth hi55 h1c ?_); (case a1 => rfl); (case a2 => rfl); (case a3 => rfl); (case a4 => rfl); simp only [Act.put, List.setIfInBounds_toArray, List.set_cons_zero, List.set_cons_succ]; rw [HW6.out])
         go_ret2
         rw [HNF.out.1, HNF.out.2.1, HNF.out.2.2, HLB.out]
         exact ⟨rfl, HFIN.out⟩
        | false =>
         have HLB : Hid (lostB (kd, wd) nf = false) := Lib.hid (by unfold lostB; simp only [hk0, hk1, hc]; rfl)
         go_wp2_with ((with_reducible refine wpList_store_mid ?a1 53 (.tmp 15) (.tmp 66) ?a2 wr.heap.size 0 #[.int .i64 kd, .int .i64 wd] ?a3 ?a4 hth hi55 h1c ?_); (case a1 => rfl); (case a2 => rfl); (case a3 => rfl); (case a4 => rfl); simp only [Act.put, List.setIfInBounds_toArray, List.set_cons_zero, List.set_cons_succ]; rw [HW6.out])
         go_ret2
         rw [HNF.out.1, HNF.out.2.1, HNF.out.2.2, HLB.out]
         exact ⟨rfl, HFIN.out⟩
 · have hone := encE_one hz
   have hz2 : (encE y.gs y.secs pg pa s != 0) = true := bne_iff_ne.2 hz
   have HZ := Lib.hid (And.intro hz hone)
   clear hb3 hnew hT hone hz
   go_wp2_with fail
   go_ret2
   have w1 : wN y.gs y.secs pg pa s (hereD aw ds) y.bd.length = 0 := if_neg HZ.out.1
   have w2 : wE y.gs y.secs pg pa s (hereD aw ds) y.bd.length = encE y.gs y.secs pg pa s := (if_neg HZ.out.1).trans HZ.out.2.symm
   have w3 : wD y.gs y.secs pg pa s aw ds = ds := if_neg HZ.out.1
   rw [w1, w2, w3]
   exact ⟨rfl, ⟨S, HH.out.below (keep_below HB13.out HD1.out)⟩, stays_below (keep_below HB13.out HD1.out)⟩
end Go.Proofs.YtbhkbcpljakmjaaGreat
