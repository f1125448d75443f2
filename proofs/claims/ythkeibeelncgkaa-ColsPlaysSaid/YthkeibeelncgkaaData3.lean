/-
  cols.Data.
-/
import Derived.Test.YthkeibeelncgkaaData2
namespace Go.Proofs.Ythkeibeelncgkaa
open Go.RowKit
set_option linter.unusedVariables false

theorem goesData1 : Goes 26 := enters_of Try.func26 (by kernel_rfl) (by kernel_rfl)
theorem goesData2 : Goes 27 := enters_of Try.func27 (by kernel_rfl) (by kernel_rfl)

theorem data1_any (b B : Nat) (i : Int) (w0 : World) (hb : b < B) (hi : w0.cell? ⟨b, 0, none⟩ = some (.int .i64 i)) : ColPred 26 #[.pointer (some ⟨b, 0, none⟩)] (fun x => x.2.2.2 != i) B w0 := by
  intro x w hw
  have h1 : w.cell? ⟨b, 0, none⟩ = some (.int .i64 i) := (hw.cell (p := ⟨b, 0, none⟩) hb).trans hi
  have hlt := World.block_lt_of_cell? _ _ h1
  go_enter Try.func26, Try.ntmps26
  go_wp2
  all_goals go_ret
  all_goals refine ⟨ret_bool ?_, (Below.refl _ _).alloc (Nat.le_refl _) _⟩
  all_goals first | rfl | simp_all
theorem data2_any (B : Nat) (w0 : World) : ColPred 27 #[] (fun x => x.2.2.1) B w0 := by
  intro x w hw
  go_enter Try.func27, Try.ntmps27
  go_wp2
  all_goals go_ret
  all_goals refine ⟨ret_bool ?_, (Below.refl _ _).alloc (Nat.le_refl _) _⟩
  all_goals first | rfl | simp_all

theorem par_count (first wide at_ : Int) (k : Nat) : ((parTo first wide at_ k).filter (fun x => !x.2.2.1)).length = k := by
  induction k with
  | zero => rfl
  | succ k ih =>
    rw [parTo]
    split <;> simp [List.filter_append, pcol, ih]

def dataOk (gs : List (Int × Int)) (secs pg pa size i : Int) : Bool := cMay gs secs pg pa size && decide (0 ≤ i) && decide (i < size)
def dataOf (gs : List (Int × Int)) (secs pg pa size i : Int) : List Col :=
  if dataOk gs secs pg pa size i then
    (if (grAt gs pg).1 == 0 then (colsOf gs secs pg pa size).filter (fun x => !(x.2.2.2 != i)) else (((colsOf gs secs pg pa size).filter (fun x => !x.2.2.1)).drop i.toNat).take 1)
  else []

theorem cell_new' {w : World} {k i : Nat} {cs : Array Value} {t : TypeId} {v : Value} (hk : k = w.heap.size) (hv : cs[i]? = some v) : (w.alloc (.cells cs t)).cell? ⟨k, i, none⟩ = some v := by subst hk; simp [hv]

theorem cols_bd {gs : List (Int × Int)} {secs pg pa size : Int} (h : cMay gs secs pg pa size = true) : 0 < (colsOf gs secs pg pa size).length ∧ (colsOf gs secs pg pa size).length ≤ 1000 := by
  obtain ⟨hhas, hz1, hz2, hp1, hp2, _⟩ := cMay_true h
  obtain ⟨k, x, rfl, hk, hl4, hs1, hs2, hx, hgx, ho⟩ := gHas_true hhas
  have ho' := gOne_true ho
  unfold colsOf
  rw [hgx]
  split
  · unfold mirror
    rw [mirTo_len]
    have h1 : x.2.toNat * size.toNat ≤ 8 * 4 := Nat.mul_le_mul (by omega) (by omega)
    have h2 : 0 < x.2.toNat * size.toNat := Nat.mul_pos (by omega) (by omega)
    omega
  · have h1 := parTo_len (gFirst gs secs k) x.2 pa size.toNat
    have h2 := par_count (gFirst gs secs k) x.2 pa size.toNat
    have h3 := List.length_filter_le (fun x : Col => !x.2.2.1) (parTo (gFirst gs secs k) x.2 pa size.toNat)
    omega

set_option maxHeartbeats 1600000 in
theorem data_any (A : Option Addr) (n c : Nat) (gs : List (Int × Int)) (secs pg pa size i : Int) (w : World) (hg : GeoAt w A n gs) :
    Calls Try.prog 12 #[.agg #[.slice A n c, .int .i64 secs], .agg #[.int .i64 pg, .int .i64 pa], .int .i64 size, .int .i64 i] w fun e w' =>
      ∃ A' m c', e = .returned (.tuple #[.slice A' m c', .bool (dataOk gs secs pg pa size i)]) ∧ SlC w' A' m (dataOf gs secs pg pa size i) ∧ Below w.heap.size w w' := by
  have hb0 : Below w.heap.size w (((w.alloc (Obj.cells #[Value.slice A n c, Value.int IntKind.i64 secs] 24)).alloc (Obj.cells #[Value.int IntKind.i64 pg, Value.int IntKind.i64 pa] 26)).alloc (Obj.cells #[Value.int IntKind.i64 i] 3)) :=
    (((Below.refl _ _).alloc (Nat.le_refl _) _).alloc (by simp) _).alloc (by simp; omega) _
  have H := Lib.hid (of_any A n c gs secs pg pa size _ (hg.below hb0 (Nat.le_refl _)))
  by_cases hh : cMay gs secs pg pa size = true
  · have hl : ofList gs secs pg pa size = colsOf gs secs pg pa size ∧ ofErr gs secs pg pa size = 0 := by unfold ofList ofErr; rw [hh]; exact ⟨rfl, rfl⟩
    rw [hl.1, hl.2] at H
    obtain ⟨hhas, hz1, hz2, hp1, hp2, _⟩ := cMay_true hh
    obtain ⟨k, x, rfl, hk, hl4, hs1, hs2, hx, hgx, ho⟩ := gHas_true hhas
    obtain ⟨b, off, rfl, hgs⟩ := hg.2.2 (by have := hg.1; omega)
    have hkn : (k : Int) < n := by have := hg.1; omega
    obtain ⟨kd, wd⟩ := x
    by_cases hi : 0 ≤ i ∧ i < size
    · obtain ⟨hi0, hi1⟩ := hi
      have hok : dataOk gs secs k pa size i = true := by simp [dataOk, hh, hi0, hi1]
      have hof : dataOf gs secs k pa size i = if kd == 0 then (colsOf gs secs k pa size).filter (fun x => !(x.2.2.2 != i)) else (((colsOf gs secs k pa size).filter (fun x => !x.2.2.1)).drop i.toNat).take 1 := by
        rw [dataOf, hok, hgx]; rfl
      obtain ⟨hpos, hlen⟩ := cols_bd hh
      obtain ⟨m, rfl⟩ := Int.eq_ofNat_of_zero_le hi0
      have hcnt : (kd == 0) = false → ((colsOf gs secs k pa size).filter (fun x => !x.2.2.1)).length = size.toNat := by
        intro h; unfold colsOf; rw [hgx]; simp only [h, Bool.false_eq_true, if_false]; exact par_count _ _ _ _
      generalize colsOf gs secs k pa size = L at *
      have HO := Lib.hid hof
      have HX := Lib.hid hx
      have HK := Lib.hid hok
      have HH := Lib.hid hh
      have HC := Lib.hid hcnt
      rw [hok]
      clear hof hgx hx hok hh hg hhas hp2 ho hcnt
      go_enter Try.func12, Try.ntmps12
      go_wp2_with fail
      refine H.out.mono ?_
      rintro e w1 ⟨v, rfl, hown, hb1⟩
      have hb2 := hb0.trans (hb1.mono (by simp; omega))
      rcases hown.2 with ⟨_, h0⟩ | ⟨g, cap, cur, rfl, hbg, _⟩
      · omega
      have hB : w.heap.size + 1 + 1 + 1 ≤ w1.heap.size := by have := hb1.size; simp at this; omega
      simp only [World.size_alloc] at hown
      have k1 := keep_cell (b := w.heap.size + 1 + 1) (o := 0) (v := .int .i64 m) hb1 (cell_new' (by simp) rfl) (by simp)
      have k2 := keep_cell (b := w.heap.size) (o := 0) (v := .slice (some ⟨b, off, none⟩) n c) hb1 ((World.cell?_alloc_lt _ _ _ (by simp; omega)).trans ((World.cell?_alloc_lt _ _ _ (by simp)).trans (cell_new' rfl rfl))) (by simp; omega)
      have k3 := keep_cell (b := w.heap.size) (o := 1) (v := .int .i64 secs) hb1 ((World.cell?_alloc_lt _ _ _ (by simp; omega)).trans ((World.cell?_alloc_lt _ _ _ (by simp)).trans (cell_new' rfl rfl))) (by simp; omega)
      have k4 := keep_cell (b := w.heap.size + 1) (o := 0) (v := .int .i64 k) hb1 ((World.cell?_alloc_lt _ _ _ (by simp)).trans (cell_new' (by simp) rfl)) (by simp)
      have k5 := keep_cell (b := w.heap.size + 1) (o := 1) (v := .int .i64 pa) hb1 ((World.cell?_alloc_lt _ _ _ (by simp)).trans (cell_new' (by simp) rfl)) (by simp)
      obtain ⟨k6, k7⟩ := (hgs.below hb2 (Nat.le_refl _)).2 k _ HX.out
      have HD1 := Lib.hid (deleteC_any 26 #[.pointer (some ⟨w.heap.size + 1 + 1, 0, none⟩)] (fun x => x.2.2.2 != m) (w.heap.size + 1 + 1 + 1) g cap L.length L w1 rfl hlen hown hB goesData1 (data1_any _ _ _ _ (by omega) k1))
      have HD2 := Lib.hid (deleteC_any 27 #[] (fun x => x.2.2.1) (w.heap.size + 1 + 1 + 1) g cap L.length L w1 rfl hlen hown hB goesData2 (data2_any _ _))
      clear hown hbg
      cases hkd : (kd == 0) with
      | true =>
        go_wp2_with fail
        refine HD1.out.mono ?_
        rintro e w2 ⟨rfl, hown2, hb3⟩
        go_wp2_with fail
        go_ret2
        rw [HO.out, hkd]
        have hfl := List.length_filter_le (fun x : Col => !(x.2.2.2 != (m : Int))) L
        have hf2 : (L.filter (fun x : Col => !(x.2.2.2 != (m : Int)))).length ≤ 9223372036854775807 := by omega
        exact ⟨_, _, _, rfl, ⟨rfl, hf2, fun _ => ⟨g, 0, rfl, csAt_of_own hown2 (own_cap hown2).2.2.2⟩⟩, hb2.trans (hb3.mono (by omega))⟩
      | false =>
        go_wp2_with fail
        refine HD2.out.mono ?_
        rintro e w2 ⟨rfl, hown2, hb3⟩
        have k8 : w2.cell? ⟨w.heap.size + 1 + 1, 0, none⟩ = some (.int .i64 m) := (hb3.cell (p := ⟨w.heap.size + 1 + 1, 0, none⟩) (by show w.heap.size + 1 + 1 < w.heap.size + 1 + 1 + 1; omega)).trans k1
        have hfl := HC.out hkd
        obtain ⟨hc1, hc2, _, hc3⟩ := own_cap hown2
        have hcs := csAt_of_own hown2 hc3
        unfold maxLen at hc2
        have HO2 := Lib.hid (show dataOf gs secs k pa size m = ((L.filter (fun x => !x.2.2.1)).drop m).take 1 by rw [HO.out, hkd]; rfl)
        clear HO hown2
        generalize L.filter (fun x : Col => !x.2.2.1) = F at *
        have hm : m < F.length := by omega
        have hm2 : m + 1 ≤ cap := by omega
        go_wp2_with fail
        go_ret2
        rw [HO2.out]
        obtain ⟨y, hy⟩ : ∃ y, F[m]? = some y := ⟨_, List.getElem?_eq_getElem hm⟩
        have hd : (F.drop m).take 1 = [y] := by
          rw [List.drop_eq_getElem_cons hm]
          have := List.getElem?_eq_getElem hm ▸ hy
          simp at this
          simp [this]
        rw [hd]
        refine ⟨_, _, _, rfl, ⟨rfl, by simp, fun _ => ⟨g, m * 4, rfl, hc3, fun t x hx => ?_⟩⟩, hb2.trans (hb3.mono (by omega))⟩
        match t, hx with
        | 0, hx =>
          simp at hx
          subst hx
          have := hcs.2 m y hy
          simpa using this
        | t + 1, hx => simp at hx
    · have hok : dataOk gs secs k pa size i = false := by simp [dataOk]; omega
      have hof : dataOf gs secs k pa size i = [] := by rw [dataOf, hok]; rfl
      rw [hok, hof]
      clear hof hok hh hgx hx hg
      go_enter Try.func12, Try.ntmps12
      go_wp2_with fail
      refine H.out.mono ?_
      rintro e w1 ⟨v, rfl, hown, hb1⟩
      have hb2 := hb0.trans (hb1.mono (by simp; omega))
      have k1 := keep_cell (b := w.heap.size + 1 + 1) (o := 0) (v := .int .i64 i) hb1 (cell_new' (by simp) rfl) (by simp)
      rcases Int.lt_or_le i 0 with h1 | h1
      · go_wp2_with fail
        all_goals go_ret2
        all_goals exact ⟨none, 0, 0, rfl, ⟨rfl, by omega, fun h => absurd h (by omega)⟩, hb2⟩
      · have h2 : size ≤ i := by omega
        go_wp2_with fail
        all_goals go_ret2
        all_goals exact ⟨none, 0, 0, rfl, ⟨rfl, by omega, fun h => absurd h (by omega)⟩, hb2⟩
  · have hok : dataOk gs secs pg pa size i = false := by simp [dataOk, hh]
    have hof : dataOf gs secs pg pa size i = [] := by rw [dataOf, hok]; rfl
    have hl : ofList gs secs pg pa size = [] ∧ ofErr gs secs pg pa size = 1 := by unfold ofList ofErr; simp [hh]
    rw [hl.1, hl.2] at H
    rw [hof, hok]
    go_enter Try.func12, Try.ntmps12
    go_wp2_with fail
    refine H.out.mono ?_
    rintro e w1 ⟨v, rfl, hown, hb1⟩
    have hb2 := hb0.trans (hb1.mono (by simp; omega))
    have k1 := keep_cell (b := w.heap.size + 1 + 1) (o := 0) (v := .int .i64 i) hb1 (cell_new' (by simp) rfl) (by simp)
    go_wp2_with fail
    all_goals go_ret2
    all_goals exact ⟨none, 0, 0, rfl, ⟨rfl, by omega, fun h => absurd h (by omega)⟩, hb2⟩
end Go.Proofs.Ythkeibeelncgkaa
