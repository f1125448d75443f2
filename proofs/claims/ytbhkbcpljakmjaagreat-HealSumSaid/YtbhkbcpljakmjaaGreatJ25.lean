/-
  Contracts of package code: parity.
  Contracts of package code: Tries.
  Blocks read by their sums, and mended: plain words.
-/
import Derived.Test.YtbhkbcpljakmjaaGreatJ24
import Derived.RangeFuncKeeps
import Derived.Test.YtbhkbcpljakmjaaGreatJ20
import Derived.Test.YtbhkbcpljakmjaaGreatJ21
import Derived.Test.YtbhkbcpljakmjaaGreatJ22
namespace Go.Proofs.YtbhkbcpljakmjaaGreat
set_option linter.unusedVariables false
set_option linter.unusedSimpArgs false
open Go.RowKit
attribute [local go_sem] Oper.semAt_some

def parTk (L : List Col) (got : List (List UInt8)) (k : Nat) : List TryX := ((parDevs L).take k).filterMap (parOne L got)
theorem parTk_step {L : List Col} {got : List (List UInt8)} {k : Nat} {d : Int} (h : (parDevs L)[k]? = some d) : parTk L got (k + 1) = parTk L got k ++ (parOne L got d).toList := by
  unfold parTk
  rw [List.take_add_one, h, List.filterMap_append]
  congr 1
theorem parTk_all (L : List Col) (got : List (List UInt8)) : parTk L got (parDevs L).length = parT L got := by unfold parTk parT; rw [List.take_length]
theorem parTk_prefix (L : List Col) (got : List (List UInt8)) {k m : Nat} (h : k ≤ m) : parTk L got k <+: parTk L got m := by
  unfold parTk
  have : (parDevs L).take k <+: (parDevs L).take m := List.take_prefix_take_left h
  obtain ⟨t, ht⟩ := this
  rw [← ht, List.filterMap_append]
  exact List.prefix_append _ _
theorem devsL_pos {L : List Col} (h : 0 < L.length) : 0 < (devsL L).length := by
  obtain ⟨c, hc⟩ : ∃ c, L[0]? = some c := ⟨_, List.getElem?_eq_getElem h⟩
  have := ((devsL_spec L).2 c.1).2 ⟨c, List.mem_of_getElem? hc, rfl⟩
  exact List.length_pos_of_mem this
theorem intCells_one (l : List Int) : ∀ u ∈ intCells l, u.oneCell' = true := by
  intro u hu
  obtain ⟨d, _, rfl⟩ := List.mem_map.1 hu
  rfl
set_option maxRecDepth 20000 in
set_option maxHeartbeats 2000000 in
theorem parity_in (n : Nat) {L : List Col} {got : List (List UInt8)} {Pn : List TryX → Prop} (l : Nat) {V : Nat → Prop} {J Jx : List TryX → World → Prop} {lv gv : Value} {W : World} (hL : SlV W V lv L.length (colsCells L)) (hG : SlV W V gv got.length (strC got))
    (hgl : got.length = L.length) (hL64 : L.length ≤ 64) (hd : 0 < (L.filter fun c => !c.2.2.1).length) (h64 : ∀ s ∈ got, s.length ≤ 64) (hV : ∀ b, V b → b < W.heap.size) (hJ : AbidesFrom W.heap.size J)
    (hY : ∀ pre x W1, J pre W1 → Pn (pre ++ [x]) → YieldAt Fence.wide (n - 1) Tryz.prog l (tryE x) W1 fun e W' => (e = .returned (.bool true) ∧ J (pre ++ [x]) W' ∧ KC V W1 W') ∨ (e = .returned (.bool false) ∧ Jx (pre ++ [x]) W'))
    (hN : ∀ p, p <+: parT L got → Pn p) (h0 : J [] W) :
    CallsIn Fence.wide n Tryz.prog 90 #[lv, gv, .func (.yield l) #[] #[]] W fun e W' => (∃ v, e = .returned v) ∧ ((∃ xs, xs = parT L got ∧ J xs W') ∨ (∃ pre, pre <+: parT L got ∧ Jx pre W')) := by
  obtain ⟨Al, cl, rfl⟩ := hL.form
  obtain ⟨Ag, cg, rfl⟩ := hG.form
  have hL0 : 0 < L.length := Nat.lt_of_lt_of_le hd (List.length_filter_le _ _)
  obtain ⟨A0, c0, e0, hcl, hcell⟩ := id hL
  cases e0
  obtain ⟨bl, ol, rfl, _⟩ := hcell hL0
  have HCL := Lib.hid (cloneC_any hL.to rfl hL0 (by omega))
  rw [hgl] at hG ⊢
  obtain ⟨D, hD⟩ : ∃ D, D = L.filter fun c => !c.2.2.1 := ⟨_, rfl⟩
  rw [← hD] at hd
  have hDl : D.length ≤ 64 := by rw [hD]; exact Nat.le_trans (List.length_filter_le _ _) hL64
  obtain ⟨dl, hdl⟩ : ∃ dl, dl = devsL D := ⟨_, rfl⟩
  have hdp : 0 < dl.length := by rw [hdl]; exact devsL_pos hd
  have hdle : dl.length ≤ 64 := by rw [hdl]; exact Nat.le_trans (devsL_len D) hDl
  have hpd : parDevs L = -1 :: dl := by unfold parDevs; rw [← hD, ← hdl]
  have HL := Lib.hid hL
  have HG := Lib.hid hG
  have HGL := Lib.hid hgl
  have H64 := Lib.hid h64
  have HV := Lib.hid hV
  have HJ := Lib.hid hJ
  have HY := Lib.hid hY
  have HN := Lib.hid hN
  have HJ0 := Lib.hid h0
  have HD := Lib.hid hD
  have HDL := Lib.hid hdl
  have HPD := Lib.hid hpd
  clear hL hG hgl h64 hV hJ hY hN h0 hD hdl hpd hcell
  refine callsIn_of_wp Tryz.func90 rfl trivial ?_ rfl
  simp only [Tryz.ntmps90, List.size_toArray, List.length_cons, List.length_nil, Nat.reduceAdd, Nat.reduceSub, Array.replicate_succ, Array.replicate_zero, List.push_toArray, List.append_toArray, List.nil_append, List.cons_append]
  gi_wp2_with fail
  refine ⟨trivial, fun h => (by cases h), callsIn_wide.2 (HCL.out.mono ?_)⟩
  rintro e w1 ⟨g, cap, rfl, hown1, hb1⟩
  have HDC := Lib.hid (deleteC_any 119 #[] (fun x => x.2.2.1) W.heap.size g cap L.length L w1 rfl (by omega) hown1 hb1.size goesPar1 (par1_any _ _))
  have HB1 := Lib.hid hb1
  clear hown1 hb1 HCL
  gi_wp2_with fail
  refine ⟨trivial, fun h => (by cases h), callsIn_wide.2 (HDC.out.mono ?_)⟩
  rintro e w2 ⟨rfl, hown2, hb2⟩
  rw [← HD.out] at hown2
  have HB2 : Hid (Below W.heap.size W w2) := Lib.hid (HB1.out.trans hb2)
  have HO2 := Lib.hid hown2
  rw [← HD.out]
  clear hown2 hb2 HDC
  obtain ⟨w3, hw3⟩ : ∃ z, w2.alloc (.cells #[.int .i64 (-1)] 3) = z := ⟨_, rfl⟩
  have HW3 := Lib.hid hw3
  have HB3 : Hid (Below W.heap.size W w3) := Lib.hid (by rw [← hw3]; exact keep_alloc HB2.out _)
  have hown3 : w3.ownsRow w2.heap.size 3 1 (.slice (some ⟨w2.heap.size, 0, none⟩) 1 1) 1 (intCells [-1]) := by
    rw [← hw3]
    exact ⟨rfl, .inr ⟨w2.heap.size, 1, _, rfl, Nat.le_refl _, heap_alloc_new w2 _, Nat.le_refl _, by unfold maxLen; omega, rfl, rfl⟩⟩
  have HS3 : Hid (w2.heap.size < w3.heap.size) := Lib.hid (by rw [← hw3]; simp)
  have HO3 := Lib.hid hown3
  have hO2 : w3.ownsRow W.heap.size 71 4 (.slice (some ⟨g, 0, none⟩) D.length cap) D.length (colsCells D) := by rw [← hw3]; exact own_below HO2.out (keep_alloc (Below.refl _ _) _)
  obtain ⟨A5, c5, e5, hSl⟩ := slC_of_own hO2 (by omega)
  cases e5
  have HDV := Lib.hid (devsC_any (some ⟨g, 0, none⟩) D.length cap D w3 hSl hd (by omega))
  clear hw3 hown3 hO2 hSl
  gi_wp2_with fail
  rw [HW3.out]
  refine ⟨trivial, fun h => (by cases h), callsIn_wide.2 (HDV.out.mono ?_)⟩
  rintro e w4 ⟨v4, rfl, hown4, hb4⟩
  rw [← HDL.out] at hown4
  obtain ⟨g4, cap4, rfl, _, _⟩ := hown4.form (by omega)
  have HB4 : Hid (Below W.heap.size W w4) := Lib.hid (HB3.out.trans (hb4.mono HB3.out.size))
  have hown5 := own_below HO3.out hb4
  have hnews : ∀ j u, (intCells dl)[j]? = some u → w4.cell? ((⟨g4, 0, none⟩ : Addr).add j) = some u := fun j u hu => by
    rw [Addr.add_mid, Nat.zero_add]
    have hj : j < dl.length := by have := (List.getElem?_eq_some_iff.1 hu).1; simpa [intCells] using this
    exact (hown4.cellAt j (by omega)).trans hu
  have HS4 : Hid (w2.heap.size < w4.heap.size) := Lib.hid (Nat.lt_of_lt_of_le HS3.out hb4.size)
  obtain ⟨i0, hi, hz0, hz1, hz2⟩ := info_parts Tryz.infoInt
  clear hown4 hb4
  gi_wp2_with (gi_at_builtin; refine wpListIn_append_own _ rfl _ _ 74 rfl w2.heap.size 3 i0 _ 1 8 Tryz.underlying74 hi hz0 hz1 hz2 rfl (by decide) _ _ _ rfl hown5 ⟨g4, 0, none⟩ dl.length cap4 (intCells dl) rfl (by simp [intCells]) hnews (intCells_one dl) (by unfold maxLen; omega) (by omega) (by have := HS4.out; omega) ?_)
  intro v' w5 hown6 hgrow _
  have hB5 : Below W.heap.size W w5 := HB4.out.grown hgrow HB4.out.size (fun y e => by simp [Value.ownBlock] at e; have := HB2.out.size; omega)
  obtain ⟨m, hm⟩ : ∃ m, m = 1 + dl.length := ⟨_, rfl⟩
  rw [← hm] at hown6
  obtain ⟨g6, cap6, rfl, _, _⟩ := hown6.form (by omega)
  have hcells : ∀ k d, (parDevs L)[k]? = some d → w5.cell? ⟨g6, k, none⟩ = some (.int .i64 d) := fun k d hk => by
    have hj : k < m := by have := (List.getElem?_eq_some_iff.1 hk).1; rw [HPD.out] at this; simp at this; omega
    refine (hown6.cellAt k (by omega)).trans ?_
    rw [HPD.out] at hk
    have := intCells_get hk
    simpa [intCells] using this
  have hg6 : ¬ V g6 := fun h => by
    have := HV.out _ h
    have := (hown6.lt g6 rfl).1
    have := HB2.out.size
    omega
  have HCL := Lib.hid hcells
  have HG6 := Lib.hid hg6
  have HB5 := Lib.hid hB5
  have HM : Hid ((parDevs L).length = m) := Lib.hid (by rw [HPD.out, hm]; simp; omega)
  have hm64 : m ≤ 65 := by omega
  clear hcells hg6 hB5 hown6 hown5 hgrow hnews hm HO3 HO2 HW3
  gi_wp2_with fail
  gi_loopw [8, 9, 18] (fun _ _ t wr => ∃ k : Nat, k ≤ m ∧ t = .int .i64 k ∧ J (parTk L got k) wr ∧ KC V W wr ∧ KC V w5 wr) (fun _ _ t _ => m - (RowKit.intOf t).toNat)
  case atStart => exact ⟨0, Nat.zero_le _, rfl, abides_below HJ.out HJ0.out HB5.out, kc_below HB5.out, KC.refl _ _⟩
  case round =>
    obtain ⟨k, hk, rfl, hJk, hkc, hk5⟩ := hrel
    have HJK := Lib.hid hJk
    have HKC := Lib.hid hkc
    have HK5 := Lib.hid hk5
    clear hJk hkc hk5
    by_cases hlt : k < m
    · have HLT := Lib.hid hlt
      have hdc : decide (k < m) = true := decide_eq_true hlt
      obtain ⟨d, hd'⟩ : ∃ d, (parDevs L)[k]? = some d := ⟨_, List.getElem?_eq_getElem (by rw [HM.out]; exact hlt)⟩
      have hcell : wr.cell? ⟨g6, k, none⟩ = some (.int .i64 d) := HK5.out.2 _ _ _ HG6.out (HCL.out k d hd')
      have hstep := parTk_step (got := got) hd'
      have hwi := without_any (dev := d) (HL.out.kc HKC.out).to (by have := (HG.out.kc HKC.out).to; rw [HGL.out]; exact this) HGL.out hL64 H64.out
      obtain ⟨s, hs⟩ : ∃ s, s = withS L got d := ⟨_, rfl⟩
      have hone : parOne L got d = if s.isEmpty then none else some (d, s) := by unfold parOne; rw [← hs]
      rw [← hs] at hwi
      rw [hone] at hstep
      have HWI := Lib.hid hwi
      have HST := Lib.hid hstep
      clear hlt hd' hstep hone hs hwi
      gi_wp2_with fail
      refine ⟨trivial, fun h => (by cases h), callsIn_wide.2 (HWI.out.mono ?_)⟩
      rintro e w6 ⟨rfl, hb6⟩
      have HKW : Hid (KC V wr w6) := Lib.hid (kc_below hb6)
      have hJ6 : J (parTk L got k) w6 := abides_below HJ.out HJK.out hb6
      have HJ6 := Lib.hid hJ6
      clear hb6 hJ6 HWI
      cases hse : s.isEmpty with
      | true =>
        obtain rfl : s = [] := by simpa using hse
        have HT : Hid (parTk L got (k + 1) = parTk L got k) := Lib.hid (by rw [HST.out]; simp)
        clear hse
        gi_wp2_with fail
        refine ⟨fun f h => (by cases h), ?_⟩
        gi_wp2_with fail
        go_roundw
        case rel => exact ⟨k + 1, HLT.out, by go_num, by rw [HT.out]; exact HJ6.out, HKC.out.trans HKW.out, HK5.out.trans HKW.out⟩
        case measure => have := HLT.out; simp [RowKit.intOf]; omega
      | false =>
        have HT : Hid (parTk L got (k + 1) = parTk L got k ++ [(d, s)]) := Lib.hid (by rw [HST.out, hse]; simp)
        obtain ⟨fn, tmps, assign, body, hy, hR⟩ := HY.out (parTk L got k) (d, s) w6 HJ6.out (HN.out _ (by rw [← HT.out, ← parTk_all]; exact parTk_prefix L got (by rw [HM.out]; exact HLT.out)))
        dsimp only [tryE] at hy
        have HR := Lib.hid hR
        clear hR
        gi_wp2_with fail
        refine ⟨fun h => (by cases h), HR.out.mono ?_⟩
        rintro e w7 (⟨rfl, hJ7, hk7⟩ | ⟨rfl, hJx7⟩)
        · have HKF : Hid (J (parTk L got (k + 1)) w7 ∧ KC V W w7 ∧ KC V w5 w7) := Lib.hid ⟨by rw [HT.out]; exact hJ7, (HKC.out.trans HKW.out).trans hk7, (HK5.out.trans HKW.out).trans hk7⟩
          clear hJ7 hk7 hy
          gi_wp2_with fail
          go_roundw
          case rel => exact ⟨k + 1, HLT.out, by go_num, HKF.out.1, HKF.out.2.1, HKF.out.2.2⟩
          case measure => have := HLT.out; simp [RowKit.intOf]; omega
        · have HJX : Hid (Jx (parTk L got (k + 1)) w7) := Lib.hid (by rw [HT.out]; exact hJx7)
          have HPR : Hid (parTk L got (k + 1) <+: parT L got) := Lib.hid (by rw [← parTk_all]; exact parTk_prefix L got (by rw [HM.out]; exact HLT.out))
          clear hJx7 hy
          gi_wp2_with fail
          refine bodyPost_ret (results_none rfl _ _ _) rfl ?_
          exact ⟨⟨_, rfl⟩, .inr ⟨_, HPR.out, HJX.out⟩⟩
    · obtain rfl : k = m := by omega
      have hdc : decide (k < k) = false := by simp
      gi_wp2_with fail
      go_end0
      exact ⟨⟨_, rfl⟩, .inl ⟨_, rfl, by rw [← parTk_all, HM.out]; exact HJK.out⟩⟩
end Go.Proofs.YtbhkbcpljakmjaaGreat

namespace Go.Proofs.YtbhkbcpljakmjaaGreat
set_option linter.unusedVariables false
set_option linter.unusedSimpArgs false
open Go.RowKit
attribute [local go_sem] Oper.semAt_some

theorem tcolsOf_len {gs : List (Int × Int)} {secs pg pa size : Int} (h : cMay gs secs pg pa size = true) : (colsOf gs secs pg pa size).length ≤ 64 := by
  obtain ⟨hhas, hz1, hz2, _⟩ := cMay_true h
  obtain ⟨sz, rfl⟩ := Int.eq_ofNat_of_zero_le (show 0 ≤ size by omega)
  obtain ⟨g, x, rfl, hk, hl4, hs1, hs2, hx, hgx, ho⟩ := gHas_true hhas
  unfold colsOf
  rw [hgx]
  obtain ⟨kd, wd⟩ := x
  split
  · rw [mirror, mirTo_len]
    have : wd.toNat ≤ 8 := by have := gOne_true ho; simp only at this; omega
    have := Nat.mul_le_mul this (show (sz : Int).toNat ≤ 4 by omega)
    simp only at this ⊢
    omega
  · have := parTo_len (gFirst gs secs g) wd pa (sz : Int).toNat
    simp only at this ⊢
    omega
theorem tpar_count (first wide at_ : Int) (k : Nat) : ((parTo first wide at_ k).filter (fun x => !x.2.2.1)).length = k := by
  induction k with
  | zero => rfl
  | succ k ih =>
    rw [parTo]
    split <;> simp [List.filter_append, pcol, ih]
/-- What is asked of columns that fit. -/
theorem fits_parts {gs : List (Int × Int)} {secs pg pa size : Int} {got : List (List UInt8)} (h : fitsB gs secs pg pa size got = true) :
    cMay gs secs pg pa size = true ∧ got.length = (colsOf gs secs pg pa size).length ∧ ∀ s ∈ got, s.length ≤ 64 := by
  unfold fitsB at h
  simp only [Bool.and_eq_true, beq_iff_eq, Bool.not_eq_true', List.any_eq_false] at h
  obtain ⟨⟨h1, h2⟩, h3⟩ := h
  refine ⟨h1, h2, fun s hs => ?_⟩
  have h4 := h3 s hs
  unfold fitP at h4
  cases s with
  | nil => simp
  | cons x r =>
    simp only [List.isEmpty_cons, Bool.not_false, Bool.true_and, bne_iff_ne, ne_eq, Decidable.not_not] at h4
    omega
/-- The boxes of the closure that Tries answers. -/
structure TryBx (w : World) (b0 b1 b2 b3 : Nat) (A : Option Addr) (m cc : Nat) (secs pg pa size : Int) (gv : Value) : Prop where
  c0 : w.cell? ⟨b0, 0, none⟩ = some (.slice A m cc)
  c1 : w.cell? ⟨b0, 1, none⟩ = some (.int .i64 secs)
  c2 : w.cell? ⟨b1, 0, none⟩ = some (.int .i64 pg)
  c3 : w.cell? ⟨b1, 1, none⟩ = some (.int .i64 pa)
  c4 : w.cell? ⟨b2, 0, none⟩ = some (.int .i64 size)
  c5 : w.cell? ⟨b3, 0, none⟩ = some gv
theorem keep_cell' {W W' : World} {b o : Nat} {v : Value} (h : W.cell? ⟨b, o, none⟩ = some v) (hb : Below W.heap.size W W') : W'.cell? ⟨b, o, none⟩ = some v :=
  (World.cell?_of_block (hb.block b (World.block_lt_of_cell? W _ h))).trans h
theorem TryBx.keep {w w' : World} {b0 b1 b2 b3 : Nat} {A : Option Addr} {m cc : Nat} {secs pg pa size : Int} {gv : Value} (h : TryBx w b0 b1 b2 b3 A m cc secs pg pa size gv) (hb : Below w.heap.size w w') : TryBx w' b0 b1 b2 b3 A m cc secs pg pa size gv :=
  ⟨keep_cell' h.c0 hb, keep_cell' h.c1 hb, keep_cell' h.c2 hb, keep_cell' h.c3 hb, keep_cell' h.c4 hb, keep_cell' h.c5 hb⟩
theorem abidesFrom_mono {β : Type} {B B' : Nat} {J : β → World → Prop} (h : AbidesFrom B J) (hB : B ≤ B') : AbidesFrom B' J := fun s W W' row hs hg hr => h s W W' row hs hg (fun r e => by
  have := hr r e
  exact ⟨Nat.le_trans hB this.1, this.2⟩)
/-- An iterator that gives just these, one after the other, or a part of them. -/
def SeqStopsP {α : Type} (F : Fence) (n : Nat) (P : Program) (g : Nat) (lb : Array Value) (encs : α → Array Value) (Kp : World → World → Prop) (xs : List α) (w : World) : Prop :=
  ∀ (l : Nat) (J Jx : List α → World → Prop) (W : World), Below w.heap.size w W → AbidesFrom W.heap.size J → AbidesFrom W.heap.size Jx →
    (∀ pre x W1, J pre W1 → pre ++ [x] <+: xs → YieldAt F (n - 1) P l (encs x) W1 fun e W' => (e = .returned (.bool true) ∧ J (pre ++ [x]) W' ∧ Kp W1 W') ∨ (e = .returned (.bool false) ∧ Jx (pre ++ [x]) W')) →
    J [] W → CallsIn F n P g (#[.func (.yield l) #[] #[]] ++ lb) W fun e W' => (∃ v, e = .returned v) ∧ ((∃ ys, ys = xs ∧ J ys W') ∨ (∃ pre, pre <+: xs ∧ Jx pre W'))
/-- Only what it gives comes up in a round. -/
theorem SeqStopsP.sub {α : Type} {F : Fence} {n : Nat} {P : Program} {g : Nat} {lb : Array Value} {encs : α → Array Value} {Kp : World → World → Prop} {xs : List α} {w : World} (h : SeqStopsP F n P g lb encs Kp xs w) :
    SeqStopsK F n P g lb (fun x : {x : α // x ∈ xs} => encs x.1) Kp (fun l => l.map (·.1) = xs) (fun l => l.map (·.1) <+: xs) xs.length w := by
  intro l J Jx W hb hJ hJx hY h0
  refine (h l (fun p W => ∃ q : List {x : α // x ∈ xs}, q.map (·.1) = p ∧ J q W) (fun p W => ∃ q : List {x : α // x ∈ xs}, q.map (·.1) = p ∧ Jx q W) W hb ?_ ?_ ?_ ⟨[], rfl, h0⟩).mono ?_
  · rintro s A B row ⟨q, hq, hs⟩ hg hr
    exact ⟨q, hq, hJ q A B row hs hg hr⟩
  · rintro s A B row ⟨q, hq, hs⟩ hg hr
    exact ⟨q, hq, hJx q A B row hs hg hr⟩
  · rintro pre x W1 ⟨q, rfl, hq⟩ hpre
    have hx : x ∈ xs := hpre.subset (List.mem_append_right _ List.mem_cons_self)
    have hl := hpre.length_le
    rw [List.length_append, List.length_map] at hl
    obtain ⟨fn, tmps, assign, body, hy, hR⟩ := hY q ⟨x, hx⟩ W1 hq (by simp at hl; omega)
    refine ⟨fn, tmps, assign, body, hy, hR.mono ?_⟩
    rintro e W' (⟨rfl, k1, k2⟩ | ⟨rfl, k1⟩)
    · exact .inl ⟨rfl, ⟨_, by rw [List.map_append]; rfl, k1⟩, k2⟩
    · exact .inr ⟨rfl, _, by rw [List.map_append]; rfl, k1⟩
  · rintro e W' ⟨hv, h1⟩
    refine ⟨hv, ?_⟩
    rcases h1 with ⟨ys, rfl, q, hq, hj⟩ | ⟨pre, hp, q, hq, hj⟩
    · exact .inl ⟨q, hq, hj⟩
    · exact .inr ⟨q, by show List.map _ q <+: xs; rw [hq]; exact hp, hj⟩
theorem SeqStopsP.all {α : Type} {F : Fence} {n : Nat} {P : Program} {g : Nat} {lb : Array Value} {encs : α → Array Value} {Kp : World → World → Prop} {xs : List α} {w : World} (h : SeqStopsP F n P g lb encs Kp xs w) :
    SeqStopsK F n P g lb encs Kp (fun l => l = xs) (fun l => l <+: xs) xs.length w := fun l J Jx W hb hJ hJx hY h0 =>
  h l J Jx W hb hJ hJx (fun pre x W1 h1 h2 => hY pre x W1 h1 (by have := h2.length_le; simp at this; omega)) h0
set_option maxRecDepth 20000 in
set_option maxHeartbeats 2000000 in
theorem tries_seqP (n : Nat) {w : World} {V : Nat → Prop} {b0 b1 b2 b3 : Nat} {A : Option Addr} {m cc : Nat} {gs : List (Int × Int)} {secs pg pa size : Int} {gv : Value} {got : List (List UInt8)} (hx : TryBx w b0 b1 b2 b3 A m cc secs pg pa size gv)
    (hg : GeoAt w A m gs) (hs : SlV w V gv got.length (strC got)) (hV : ∀ b, V b → b < w.heap.size) :
    SeqStopsP Fence.wide n Tryz.prog 87 #[.pointer (some ⟨b0, 0, none⟩), .pointer (some ⟨b1, 0, none⟩), .pointer (some ⟨b2, 0, none⟩), .pointer (some ⟨b3, 0, none⟩)] tryE (KC V) (triesL gs secs pg pa size got) w := by
  intro l J Jx W hb hJ hJx hY h0
  have hX := hx.keep hb
  obtain ⟨Ag, cg, rfl⟩ := hs.form
  have hF := fits_any A m cc gs secs pg pa size (hg.below hb (Nat.le_refl _)) (hs.kc (kc_below hb)).to
  have HG := Lib.hid (hg.below hb (Nat.le_refl _))
  have HS := Lib.hid (hs.kc (V := V) (kc_below hb))
  have HV : Hid (∀ b, V b → b < W.heap.size) := Lib.hid fun b h => Nat.lt_of_lt_of_le (hV b h) hb.size
  have HJ := Lib.hid hJ
  have HY := Lib.hid hY
  have HJ0 := Lib.hid h0
  have HX := Lib.hid hX
  obtain ⟨x0, x1, x2, x3, x4, x5⟩ := hX
  clear hx hg hs hV hb hJ hJx hY h0
  show CallsIn Fence.wide n Tryz.prog 87 #[.func (.yield l) #[] #[], .pointer (some ⟨b0, 0, none⟩), .pointer (some ⟨b1, 0, none⟩), .pointer (some ⟨b2, 0, none⟩), .pointer (some ⟨b3, 0, none⟩)] W _
  refine callsIn_of_wp Tryz.func87 rfl trivial ?_ rfl
  simp only [Tryz.ntmps87, List.size_toArray, List.length_cons, List.length_nil, Nat.reduceAdd, Nat.reduceSub, Array.replicate_succ, Array.replicate_zero, List.push_toArray, List.append_toArray, List.nil_append, List.cons_append]
  cases hfit : fitsB gs secs pg pa size got with
  | false =>
    rw [hfit] at hF
    have HF := Lib.hid hF
    have HT : Hid (triesL gs secs pg pa size got = []) := Lib.hid (by unfold triesL; rw [hfit]; rfl)
    clear hF hfit
    gi_wp2_with fail
    refine ⟨trivial, fun h => (by cases h), callsIn_wide.2 (HF.out.mono ?_)⟩
    rintro e w1 ⟨rfl, hb1⟩
    have HB1 := Lib.hid hb1
    clear hb1
    gi_wp2_with fail
    refine bodyPost_ret (results_none rfl _ _ _) rfl ?_
    exact ⟨⟨_, rfl⟩, .inl ⟨_, rfl, by rw [HT.out]; exact abides_below HJ.out HJ0.out HB1.out⟩⟩
  | true =>
    obtain ⟨hmay, hgl, h64⟩ := fits_parts hfit
    obtain ⟨L, hL⟩ : ∃ L, L = colsOf gs secs pg pa size := ⟨_, rfl⟩
    have hL64 : L.length ≤ 64 := by rw [hL]; exact tcolsOf_len hmay
    have hTR : triesL gs secs pg pa size got = if (grAt gs pg).1 == 0 then mirT L size.toNat got (grAt gs pg).2.toNat else parT L got := by unfold triesL; rw [hfit, hL]; rfl
    have hOE : ofErr gs secs pg pa size = 0 ∧ ofList gs secs pg pa size = L := by unfold ofErr ofList; rw [if_pos hmay, if_pos hmay, hL]; exact ⟨rfl, rfl⟩
    obtain ⟨hhas, hz1, hz2, _⟩ := cMay_true hmay
    obtain ⟨k, x, hpk, hk, hl4, hs1, hs2, hx, hgx, ho⟩ := gHas_true hhas
    obtain ⟨sz, hsz⟩ := Int.eq_ofNat_of_zero_le (show 0 ≤ size by omega)
    have hLC : (x.1 = 0 ∧ L.length = x.2.toNat * sz ∧ 1 ≤ x.2.toNat) ∨ (x.1 = 1 ∧ 0 < (L.filter fun c => !c.2.2.1).length) := by
      rcases gOne_true ho with ⟨h1, h2, _⟩ | ⟨h1, _, _⟩
      · refine .inl ⟨h1, ?_, by omega⟩
        rw [hL]; unfold colsOf
        rw [hpk, hgx, h1, if_pos (by decide), mirror, mirTo_len, hsz]
        simp
      · refine .inr ⟨h1, ?_⟩
        rw [hL]; unfold colsOf
        rw [hpk, hgx, h1, if_neg (by decide), tpar_count]
        omega
    rw [hpk, hgx, hsz, Int.toNat_natCast] at hTR
    subst hpk hsz
    rw [hfit] at hF
    rw [← hL] at hgl
    have hm := HG.out.1
    obtain ⟨bg, og, rfl, hgc⟩ := HG.out.2.2 (by omega)
    have hcg := (hgc.2 k x hx).1
    have hkm : k < m := by omega
    have HF := Lib.hid hF
    have HGL := Lib.hid hgl
    have H64 := Lib.hid h64
    have HTR := Lib.hid hTR
    have HOE := Lib.hid hOE
    have HLC := Lib.hid hLC
    have HCG := Lib.hid hcg
    have hsz1 : 1 ≤ sz := by omega
    clear hF hgl h64 hTR hOE hLC hfit hmay hL hhas hx hgx ho hcg hgc hm hl4 hs1 hs2
    gi_wp2_with fail
    refine ⟨trivial, fun h => (by cases h), callsIn_wide.2 (HF.out.mono ?_)⟩
    rintro e w1 ⟨rfl, hb1⟩
    have HO := Lib.hid (of_any (some ⟨bg, og, none⟩) m cc gs secs k pa sz w1 (HG.out.below hb1 (Nat.le_refl _)))
    have HB1 := Lib.hid hb1
    obtain ⟨x0, x1, x2, x3, x4, x5⟩ := HX.out.keep hb1
    clear hb1
    gi_wp2_with fail
    refine ⟨trivial, fun h => (by cases h), callsIn_wide.2 (HO.out.mono ?_)⟩
    rintro e w2 ⟨v, rfl, hown, hb2⟩
    rw [HOE.out.2] at hown
    rw [HOE.out.1]
    have hLp : 0 < L.length := by
      rcases HLC.out with ⟨h1, h2, h3⟩ | ⟨h1, h2⟩
      · rw [h2]; exact Nat.mul_pos h3 hsz1
      · exact Nat.lt_of_lt_of_le h2 (List.length_filter_le _ _)
    obtain ⟨g, cap, rfl, _, _⟩ := hown.form (by omega)
    have hcap := (own_cap hown).1
    have HB2 : Hid (Below W.heap.size W w2) := Lib.hid (HB1.out.trans (hb2.mono HB1.out.size))
    have hSL : SlV w2 V (.slice (some ⟨g, 0, none⟩) L.length cap) L.length (colsCells L) := by
      refine ⟨_, _, rfl, hcap, fun _ => ⟨g, 0, rfl, (hown.lt g rfl).2, fun h => ?_, fun j u hu => ?_⟩⟩
      · have := HV.out _ h
        have := (hown.lt g rfl).1
        have := HB1.out.size
        omega
      · have hj : j < (colsCells L).length := (List.getElem?_eq_some_iff.1 hu).1
        rw [colsCells_len] at hj
        rw [Nat.zero_add]
        exact (hown.cellAt j hj).trans hu
    have hSG := HS.out.kc (kc_below HB2.out)
    have hJ2 : J [] w2 := abides_below HJ.out HJ0.out HB2.out
    have hA2 : AbidesFrom w2.heap.size J := abidesFrom_mono HJ.out HB2.out.size
    have HSL := Lib.hid hSL
    have HSG := Lib.hid hSG
    have HJ2 := Lib.hid (And.intro hJ2 hA2)
    have c6 := keep_cell' HCG.out HB2.out
    obtain ⟨x0, x1, x2, x3, x4, x5⟩ := HX.out.keep HB2.out
    clear hown hb2 hSL hSG hJ2 hA2
    rcases HLC.out with ⟨hk0, hlen, _⟩ | ⟨hk1, hdat⟩
    · rw [hk0] at c6
      have HMI := Lib.hid (mirror_in (n - 1) (L := L) (got := got) (sz := sz) (wd := x.2.toNat) (Pn := fun p => p <+: triesL gs secs k pa sz got) l (V := V) (J := J) (Jx := Jx) HSL.out HSG.out hlen HGL.out hsz1 hL64 H64.out HJ2.out.2
        (fun pre x W1 h1 h2 => yield_any rfl _ (HY.out pre x W1 h1 h2)) (fun p hp => by rw [HTR.out, hk0]; simpa using hp) HJ2.out.1)
      have HT : Hid (triesL gs secs k pa sz got = mirT L sz got x.2.toNat) := Lib.hid (by rw [HTR.out, hk0]; rfl)
      clear hlen hk0
      gi_wp2_with fail
      refine ⟨trivial, fun h => (by cases h), CallsIn.mono HMI.out ?_⟩
      rintro e w3 ⟨⟨v, rfl⟩, hres⟩
      have HRES := Lib.hid hres
      clear hres
      gi_wp2_with fail
      go_end0
      refine ⟨⟨_, rfl⟩, ?_⟩
      rcases HRES.out with ⟨xs, h1, h2⟩ | ⟨pre, h1, h2⟩
      · exact .inl ⟨xs, by rw [HT.out]; exact h1, h2⟩
      · exact .inr ⟨pre, by rw [HT.out]; exact h1, h2⟩
    · rw [hk1] at c6
      have HPA := Lib.hid (parity_in (n - 1) (L := L) (got := got) (Pn := fun p => p <+: triesL gs secs k pa sz got) l (V := V) (J := J) (Jx := Jx) HSL.out HSG.out HGL.out hL64 hdat H64.out (fun b h => Nat.lt_of_lt_of_le (HV.out b h) HB2.out.size) HJ2.out.2
        (fun pre x W1 h1 h2 => yield_any rfl _ (HY.out pre x W1 h1 h2)) (fun p hp => by rw [HTR.out, hk1]; simpa using hp) HJ2.out.1)
      have HT : Hid (triesL gs secs k pa sz got = parT L got) := Lib.hid (by rw [HTR.out, hk1]; rfl)
      clear hdat hk1
      gi_wp2_with fail
      refine ⟨trivial, fun h => (by cases h), CallsIn.mono HPA.out ?_⟩
      rintro e w3 ⟨⟨v, rfl⟩, hres⟩
      have HRES := Lib.hid hres
      clear hres
      gi_wp2_with fail
      go_end0
      refine ⟨⟨_, rfl⟩, ?_⟩
      rcases HRES.out with ⟨xs, h1, h2⟩ | ⟨pre, h1, h2⟩
      · exact .inl ⟨xs, by rw [HT.out]; exact h1, h2⟩
      · exact .inr ⟨pre, by rw [HT.out]; exact h1, h2⟩
theorem tries_seq (n : Nat) {w : World} {V : Nat → Prop} {b0 b1 b2 b3 : Nat} {A : Option Addr} {m cc : Nat} {gs : List (Int × Int)} {secs pg pa size : Int} {gv : Value} {got : List (List UInt8)} (hx : TryBx w b0 b1 b2 b3 A m cc secs pg pa size gv)
    (hg : GeoAt w A m gs) (hs : SlV w V gv got.length (strC got)) (hV : ∀ b, V b → b < w.heap.size) :
    SeqStopsK Fence.wide n Tryz.prog 87 #[.pointer (some ⟨b0, 0, none⟩), .pointer (some ⟨b1, 0, none⟩), .pointer (some ⟨b2, 0, none⟩), .pointer (some ⟨b3, 0, none⟩)] tryE (KC V) (fun xs => xs = triesL gs secs pg pa size got) (fun pre => pre <+: triesL gs secs pg pa size got) (triesL gs secs pg pa size got).length w :=
  (tries_seqP n hx hg hs hV).all
theorem tries_any {w : World} (A : Option Addr) (m cc : Nat) (secs pg pa size : Int) (gv : Value) (hgv : ∃ B n c, gv = .slice B n c) :
    Calls Tryz.prog 63 #[.agg #[.slice A m cc, .int .i64 secs], .agg #[.int .i64 pg, .int .i64 pa], .int .i64 size, gv] w fun e w' =>
      e = .returned (.func (.func 87) #[] #[.pointer (some ⟨w.heap.size, 0, none⟩), .pointer (some ⟨w.heap.size + 1, 0, none⟩), .pointer (some ⟨w.heap.size + 1 + 1, 0, none⟩), .pointer (some ⟨w.heap.size + 1 + 1 + 1, 0, none⟩)]) ∧
      TryBx w' w.heap.size (w.heap.size + 1) (w.heap.size + 1 + 1) (w.heap.size + 1 + 1 + 1) A m cc secs pg pa size gv ∧ Below w.heap.size w w' := by
  obtain ⟨B, n, c, rfl⟩ := hgv
  go_enter Tryz.func63, Tryz.ntmps63
  go_wp2_with fail
  go_ret
  refine ⟨rfl, ⟨?_, ?_, ?_, ?_, ?_, ?_⟩, by repeat (first | exact Below.refl _ _ | (with_reducible refine keep_alloc ?_ _))⟩
  all_goals repeat (first | exact cell_new' (by simp) rfl | (with_reducible refine cell_alloc ?_ _))
end Go.Proofs.YtbhkbcpljakmjaaGreat

namespace Go.Proofs.YtbhkbcpljakmjaaGreat
set_option linter.unusedVariables false
set_option linter.unusedSimpArgs false
open Go.RowKit

/-- A text's words, and its sum. -/
def wordsP (P : List UInt8) : List Nat := (List.range (P.length / 4)).map fun k => rdN P (4 * k) 4
def wordsL (s : List UInt8) : List Nat := wordsP (padL s 4)
def M64 : Nat := 18446744073709551616
def fstep (x : Nat × Nat × Nat × Nat) (w : Nat) : Nat × Nat × Nat × Nat :=
  ((x.1 + w) % M64, (x.2.1 + (x.1 + w) % M64) % M64, (x.2.2.1 + (x.2.1 + (x.1 + w) % M64) % M64) % M64, (x.2.2.2 + (x.2.2.1 + (x.2.1 + (x.1 + w) % M64) % M64) % M64) % M64)
def fsum (s : List UInt8) : Nat × Nat × Nat × Nat := (wordsL s).foldl fstep (0, 0, 0, 0)
abbrev fcells (x : Nat × Nat × Nat × Nat) : Array Value := #[.int .u64 x.1, .int .u64 x.2.1, .int .u64 x.2.2.1, .int .u64 x.2.2.2]
def PtrD.sum (p : PtrD) : Nat × Nat × Nat × Nat := (p.s0, p.s1, p.s2, p.s3)
/-- Where a block is. -/
def plsL (p : PtrD) : List (Int × Int) := if noneB p then [] else if p.two then [(p.ag, p.aa), (p.bg, p.ba)] else [(p.ag, p.aa)]
theorem plsL_right {gs : List (Int × Int)} {secs : Int} {p : PtrD} (h : rightB gs secs p = true) : plsL p = if p.two then [(p.ag, p.aa), (p.bg, p.ba)] else [(p.ag, p.aa)] := by
  unfold plsL
  rw [(right_pure h).1]
  rfl
theorem plsL_len (p : PtrD) : (plsL p).length ≤ 2 := by
  unfold plsL
  split
  · simp
  · split <;> simp
theorem pls_may {gs : List (Int × Int)} {secs : Int} {p : PtrD} (h : rightB gs secs p = true) : ∀ pl ∈ plsL p, cMay gs secs pl.1 pl.2 p.size = true := by
  intro pl hpl
  rw [plsL_right h] at hpl
  simp only [rightB, Bool.and_eq_true] at h
  cases ht : p.two with
  | true =>
    rw [ht, if_pos rfl] at hpl h
    simp only [Bool.and_eq_true] at h
    simp only [List.mem_cons, List.not_mem_nil, or_false] at hpl
    rcases hpl with rfl | rfl
    · exact h.1.2
    · exact h.2.1
  | false =>
    rw [ht] at hpl
    simp at hpl
    subst hpl
    exact h.1.2
/-- What is read at a place. -/
def tryAt (gs : List (Int × Int)) (secs : Int) (q : PtrD) (raw : List (List UInt8)) (pl : Int × Int) : Option TryX := (triesL gs secs pl.1 pl.2 q.size raw).find? fun x => fsum x.2 == q.sum
structure CameD where
  text : List UInt8
  place : Nat
  dev : Int
  fixed : Nat
def came0 : CameD := ⟨[], 0, 0, 0⟩
abbrev CameD.cells (c : CameD) : Array Value := #[str c.text, .int .i64 c.place, .int .i64 c.dev, .int .i64 c.fixed]
def lookFrom (gs : List (Int × Int)) (secs : Int) (q : PtrD) (R : Int × Int → List (List UInt8)) : List (Int × Int) → Nat → Bool → CameD × Int
  | [], _, all => (came0, if all then 4 else 6)
  | pl :: r, i, all => match tryAt gs secs q (R pl) pl with
    | some x => (⟨x.2, i, x.1, 0⟩, 0)
    | none => lookFrom gs secs q R r (i + 1) (all && !hasE (R pl))
/-- What a block is read as. -/
def lookV (gs : List (Int × Int)) (secs : Int) (q : PtrD) (R : Int × Int → List (List UInt8)) : CameD × Int := if rightB gs secs q then lookFrom gs secs q R (plsL q) 0 true else (came0, 1)
/-- Some columns are written again. -/
def mendTo (aw : List Bool) (L : List Col) (T : List (List UInt8)) (ds : List DevD) (l : List Nat) : List DevD := l.foldl (fun ds i => putD aw ds (L.getD i (0, 0, false, 0)) (T.getD i [])) ds
def mendN (hs : Nat → Bool) (L : List Col) (l : List Nat) : Nat := (l.filter fun i => hs (L.getD i (0, 0, false, 0)).1.toNat).length
theorem mendTo_snoc (aw : List Bool) (L : List Col) (T : List (List UInt8)) (ds : List DevD) (l : List Nat) (i : Nat) : mendTo aw L T ds (l ++ [i]) = putD aw (mendTo aw L T ds l) (L.getD i (0, 0, false, 0)) (T.getD i []) := by
  unfold mendTo
  rw [List.foldl_append]
  rfl
theorem mendN_snoc (hs : Nat → Bool) (L : List Col) (l : List Nat) (i : Nat) : mendN hs L (l ++ [i]) = mendN hs L l + if hs (L.getD i (0, 0, false, 0)).1.toNat then 1 else 0 := by
  unfold mendN
  rw [List.filter_append, List.length_append, List.filter_cons]
  split <;> rfl
theorem mendN_le (hs : Nat → Bool) (L : List Col) (l : List Nat) : mendN hs L l ≤ l.length := List.length_filter_le _ _
theorem putD_hereD {aw : List Bool} {ds : List DevD} {c : Col} {t : List UInt8} (i : Nat) : hereD aw (putD aw ds c t) i = hereD aw ds i := by
  have h := putD_lost (aw := aw) (ds := ds) (c := c) (t := t) i
  unfold hereD
  cases h1 : (putD aw ds c t)[i]? with
  | none =>
    rw [h1] at h
    cases h2 : ds[i]? with
    | none => rfl
    | some d => rw [h2] at h; cases h
  | some e =>
    rw [h1] at h
    cases h2 : ds[i]? with
    | none => rw [h2] at h; cases h
    | some d =>
      rw [h2] at h
      simp at h
      simp only [h]
theorem mendTo_hereD {aw : List Bool} {L : List Col} {T : List (List UInt8)} (i : Nat) : ∀ (l : List Nat) (ds : List DevD), hereD aw (mendTo aw L T ds l) i = hereD aw ds i
  | [], _ => rfl
  | j :: l, ds => by
    show hereD aw (mendTo aw L T (putD aw ds _ _) l) i = _
    rw [mendTo_hereD i l, putD_hereD]
theorem mendTo_len {aw : List Bool} {L : List Col} {T : List (List UInt8)} : ∀ (l : List Nat) (ds : List DevD), (mendTo aw L T ds l).length = ds.length
  | [], _ => rfl
  | j :: l, ds => by
    show (mendTo aw L T (putD aw ds _ _) l).length = _
    rw [mendTo_len l, putD_len]
theorem mendTo_ok {aw : List Bool} {L : List Col} {T : List (List UInt8)} {secs : Nat} : ∀ (l : List Nat) (ds : List DevD) {N : Nat}, DsOk N secs ds → DsOk (N + l.length) secs (mendTo aw L T ds l)
  | [], _, _, h => h
  | j :: l, ds, N, h => by
    have := mendTo_ok l (putD aw ds (L.getD j (0, 0, false, 0)) (T.getD j [])) (aw := aw) (L := L) (T := T) (putD_ok h)
    rw [List.length_cons, show N + (l.length + 1) = N + 1 + l.length by omega]
    exact this
/-- One column is written: what any column reads as. -/
theorem putD_look {aw : List Bool} {ds : List DevD} {N secs : Nat} (ok : DsOk N secs ds) {c e : Col} {t : List UInt8} (h1 : 0 ≤ c.1) (h2 : c.1 < ds.length) (h3 : 0 ≤ c.2.1) (h4 : c.2.1 < secs) (ht : t.length = 64) (e1 : 0 ≤ e.1) :
    look (putD aw ds c t) e = if (decide (e.1 = c.1) && decide (e.2.1 = c.2.1)) && hereD aw ds c.1.toNat then t else look ds e := by
  obtain ⟨d, hd⟩ : ∃ d, ds[c.1.toNat]? = some d := ⟨_, List.getElem?_eq_getElem (by omega)⟩
  have hh : hereD aw ds c.1.toNat = (!(aw.getD c.1.toNat false) && !d.lost) := by unfold hereD; rw [hd]
  rw [hh]
  unfold putD
  rw [hd]
  simp only
  cases hq : (!(aw.getD c.1.toNat false) && !d.lost) with
  | false => simp
  | true =>
    simp only [if_true, Bool.and_true]
    have hdl : d.lost = false := by simp only [Bool.and_eq_true, Bool.not_eq_true'] at hq; exact hq.2
    have hw := wrE_all ok (List.mem_of_getElem? hd) hdl h3 h4 ht
    have hlt : c.1.toNat < ds.length := (List.getElem?_eq_some_iff.1 hd).1
    unfold look
    rw [List.getElem?_set]
    by_cases hdv : e.1 = c.1
    · rw [hdv, if_pos rfl, if_pos hlt, hd]
      by_cases hat : e.2.1 = c.2.1
      · rw [hat, decide_eq_true rfl, decide_eq_true rfl]
        exact wr_rd_same hw
      · rw [decide_eq_false hat, Bool.and_false, if_neg Bool.false_ne_true]
        exact wr_rd_other h3 (fun h => hat h.symm)
    · rw [decide_eq_false hdv, Bool.false_and, if_neg Bool.false_ne_true, if_neg (by omega)]
/-- Some columns are written again: what those columns, and other ones, read as. -/
theorem mendTo_other {aw : List Bool} {L : List Col} {T : List (List UInt8)} {secs : Nat} {e : Col} (e1 : 0 ≤ e.1) : ∀ (l : List Nat) (ds : List DevD) {N : Nat}, DsOk N secs ds → Cols ds.length secs L T → (∀ i ∈ l, i < L.length) →
    (∀ i ∈ l, ¬ (e.1 = (L.getD i (0, 0, false, 0)).1 ∧ e.2.1 = (L.getD i (0, 0, false, 0)).2.1)) → look (mendTo aw L T ds l) e = look ds e
  | [], _, _, _, _, _, _ => rfl
  | j :: l, ds, N, ok, hc, hl, hne => by
    have hj := hl j List.mem_cons_self
    obtain ⟨c1, c2, c3, c4⟩ := hc.inn j _ (colD_in hj)
    obtain ⟨t, ht, ht64⟩ := hc.txt j hj
    have hT : T.getD j [] = t := by rw [List.getD_eq_getElem?_getD, ht]; rfl
    show look (mendTo aw L T (putD aw ds _ _) l) e = _
    rw [mendTo_other e1 l _ (putD_ok ok) (by rw [putD_len]; exact hc) (fun i hi => hl i (List.mem_cons_of_mem _ hi)) (fun i hi => hne i (List.mem_cons_of_mem _ hi))]
    rw [putD_look ok c1 c2 c3 c4 (by rw [hT]; exact ht64) e1]
    have := hne j List.mem_cons_self
    rw [if_neg]
    intro h
    simp only [Bool.and_eq_true, decide_eq_true_eq] at h
    exact this h.1
theorem mendTo_own {aw : List Bool} {L : List Col} {T : List (List UInt8)} {secs : Nat} {j : Nat} (hjL : j < L.length) : ∀ (l : List Nat) (ds : List DevD) {N : Nat}, DsOk N secs ds → Cols ds.length secs L T → (∀ i ∈ l, i < L.length) →
    look (mendTo aw L T ds l) (L.getD j (0, 0, false, 0)) = if decide (j ∈ l) && hereD aw ds (L.getD j (0, 0, false, 0)).1.toNat then T.getD j [] else look ds (L.getD j (0, 0, false, 0))
  | [], _, _, _, _, _ => by simp [mendTo]
  | k :: l, ds, N, ok, hc, hl => by
    have hk := hl k List.mem_cons_self
    obtain ⟨c1, c2, c3, c4⟩ := hc.inn k _ (colD_in hk)
    obtain ⟨d1, d2, d3, d4⟩ := hc.inn j _ (colD_in hjL)
    obtain ⟨t, ht, ht64⟩ := hc.txt k hk
    have hT : T.getD k [] = t := by rw [List.getD_eq_getElem?_getD, ht]; rfl
    show look (mendTo aw L T (putD aw ds _ _) l) _ = _
    rw [mendTo_own hjL l _ (putD_ok ok) (by rw [putD_len]; exact hc) (fun i hi => hl i (List.mem_cons_of_mem _ hi)), putD_hereD,
      putD_look ok c1 c2 c3 c4 (by rw [hT]; exact ht64) d1]
    by_cases hjk : j = k
    · subst hjk
      rw [decide_eq_true (show j ∈ j :: l from List.mem_cons_self), decide_eq_true rfl, decide_eq_true rfl]
      cases hereD aw ds (L.getD j (0, 0, false, 0)).1.toNat <;> simp
    · have hdis := hc.dis j k _ _ hjk (colD_in hjL) (colD_in hk)
      rw [show decide (j ∈ k :: l) = decide (j ∈ l) from decide_eq_decide.2 ⟨fun h => (List.mem_cons.1 h).resolve_left hjk, List.mem_cons_of_mem _⟩]
      rw [show (decide ((L.getD j (0, 0, false, 0)).1 = (L.getD k (0, 0, false, 0)).1) && decide ((L.getD j (0, 0, false, 0)).2.1 = (L.getD k (0, 0, false, 0)).2.1)) = false by
        rw [Bool.and_eq_false_iff, decide_eq_false_iff_not, decide_eq_false_iff_not]
        by_cases h : (L.getD j (0, 0, false, 0)).1 = (L.getD k (0, 0, false, 0)).1
        · exact .inr fun h2 => hdis ⟨h, h2⟩
        · exact .inl h]
      simp
end Go.Proofs.YtbhkbcpljakmjaaGreat
