/-
  The walk of ColsRows.
-/
import Derived.Test.YthkeibeelncgkaaApart
import Derived.Test.YthkeibeelncgkaaRowsP
namespace Go.Proofs.Ythkeibeelncgkaa
open Go.RowKit
set_option linter.unusedVariables false

theorem Try.infoInt : (Try.prog.info? 3).map (fun i => (i.zero, i.size, i.bytes)) = some (some (.int .i64 0), 1, 8) := by kernel_rfl
theorem new1 (w : World) (u : Value) (t : TypeId) : ∀ j v, [u][j]? = some v → (w.alloc (.cells #[u] t)).cell? ((⟨w.heap.size, 0, none⟩ : Addr).add j) = some v := by
  intro j v hj
  match j, hj with
  | 0, hj => simp at hj; subst hj; simp [Addr.add]
theorem new1' {w : World} {k : Nat} {u : Value} {t : TypeId} (hk : k = w.heap.size) : ∀ j v, [u][j]? = some v → (w.alloc (.cells #[u] t)).cell? ((⟨k, 0, none⟩ : Addr).add j) = some v := by subst hk; exact new1 w u t
def intCells (l : List Int) : List Value := l.map (Value.int .i64)
theorem intCells_snoc (l : List Int) (d : Int) : intCells (l ++ [d]) = intCells l ++ [.int .i64 d] := by simp [intCells]
theorem intCells_get {l : List Int} {k : Nat} {d : Int} (h : l[k]? = some d) : (intCells l)[k]? = some (.int .i64 d) := by simp [intCells, h]

set_option maxRecDepth 100000 in
set_option maxHeartbeats 8000000 in
theorem rowsLaw_any (A : Option Addr) (n c : Nat) (gs : List (Int × Int)) (secs pg pa size : Int) (w : World) (hg : GeoAt w A n gs) :
    Calls Try.prog 5 #[.agg #[.slice A n c, .int .i64 secs], .agg #[.int .i64 pg, .int .i64 pa], .int .i64 size] w fun e w' =>
      e = .returned (.bool true) ∧ Below w.heap.size w w' := by
  have hb0 : Below w.heap.size w ((w.alloc (Obj.cells #[Value.slice A n c, Value.int IntKind.i64 secs] 24)).alloc (Obj.cells #[Value.int IntKind.i64 pg, Value.int IntKind.i64 pa] 26)) :=
    ((Below.refl _ _).alloc (Nat.le_refl _) _).alloc (by simp) _
  have HO := Lib.hid (of_any A n c gs secs pg pa size _ (hg.below hb0 (Nat.le_refl _)))
  obtain ⟨i0, hi, hz0, hz1, hz2⟩ := info_parts Try.infoInt
  go_enter Try.func5, Try.ntmps5
  go_wp2_with fail
  refine HO.out.mono ?_
  rintro e w1 ⟨v1, rfl, hown1, hb1⟩
  have hb2 := hb0.trans (hb1.mono (by simp; omega))
  have k1 : w1.cell? ⟨w.heap.size, 0, none⟩ = some (.slice A n c) := keep_cell hb1 (cell_alloc (cell_new rfl rfl) _) (by simp; omega)
  have k2 : w1.cell? ⟨w.heap.size, 1, none⟩ = some (.int .i64 secs) := keep_cell hb1 (cell_alloc (cell_new rfl rfl) _) (by simp; omega)
  have k3 : w1.cell? ⟨w.heap.size + 1, 0, none⟩ = some (.int .i64 pg) := keep_cell hb1 (cell_new (by simp) rfl) (by simp)
  have k4 : w1.cell? ⟨w.heap.size + 1, 1, none⟩ = some (.int .i64 pa) := keep_cell hb1 (cell_new (by simp) rfl) (by simp)
  have hsz : w.heap.size + 2 ≤ w1.heap.size := by have := hb1.size; simp at this; omega
  clear hb1 hb0
  go_wp2_with fail
  refine (awake_any _).mono ?_
  rintro e w3 ⟨rfl, hb5⟩
  have hb6 := hb2.trans (hb5.mono hb2.size)
  by_cases hp : cMay gs secs pg pa size = true
  · obtain ⟨e1, e2⟩ := of_good hp
    rw [e2] at hown1
    rw [e1]
    clear e1 e2
    have hl1 := colsOf_len hp
    obtain ⟨A1, cp1, rfl, hL⟩ := slC_of_own hown1 (by omega)
    have hL3 := hL.below hb5 (Nat.le_refl _)
    have HL := Lib.hid hL3
    obtain ⟨kind, s, wd, R, q1, q2, rfl, q4, q5, q6, q7, q8, q9, q10, q11, q12, q13, q14⟩ := rows_pure hp
    have HRW : Hid (∀ W, Below w3.heap.size w3 W → Calls Try.prog 13 #[.slice A1 (colsOf gs secs pg pa s).length cp1] W fun e w' => e = .returned (.int .i64 (R : Int)) ∧ Below W.heap.size W w') :=
      Lib.hid fun W hb => by rw [← q9]; exact rows_any A1 _ cp1 _ W (hL3.below hb (Nat.le_refl _)) (fun x hx => ⟨(q11 x hx).1, (q11 x hx).2.1⟩)
    have HP1 := Lib.hid q12
    have H0 : Hid (dN (colsOf gs secs pg pa s) 0 = 0) := by
      unfold Hid dN
      rw [List.length_eq_zero_iff, List.filter_eq_nil_iff]
      intro x hx; have := (q11 x hx).1; simp; omega
    have HP2 := Lib.hid q13
    have HP3 := Lib.hid q14
    have HP4 : Hid (∀ (j i : Nat) (x y : Col), j < i → (colsOf gs secs pg pa s)[j]? = some x → (colsOf gs secs pg pa s)[i]? = some y → x.2.2.2 = y.2.2.2 → x.1 ≠ y.1) := Lib.hid fun j i x y h1 h2 h3 h4 => row_devs hp h1 h2 h3 h4
    obtain ⟨hhas, _, _, _⟩ := cMay_true hp
    obtain ⟨k, z, rfl, hk, hl4, hs1, hs2, hz, hgz, ho⟩ := gHas_true hhas
    have hg3 := hg.below hb6 (Nat.le_refl _)
    obtain ⟨bg, og, rfl, hgs⟩ := hg3.2.2 (by have := hg.1; omega)
    have hkn : (k : Int) < n := by have := hg.1; omega
    obtain ⟨kd, wd'⟩ := z
    rw [hgz] at q1 q2
    simp only at q1 q2
    subst q1 q2
    have HZ := Lib.hid hz
    have HOK : Hid (∀ i : Int, dataOk gs secs k pa s i = (decide (0 ≤ i) && decide (i < s))) := Lib.hid fun i => by simp [dataOk, hp]
    have HD : Hid (∀ (i : Int) W, Below w3.heap.size w3 W → Calls Try.prog 12 #[.agg #[.slice (some ⟨bg, og, none⟩) n c, .int .i64 secs], .agg #[.int .i64 k, .int .i64 pa], .int .i64 s, .int .i64 i] W fun e w' =>
        ∃ A' m c', e = .returned (.tuple #[.slice A' m c', .bool (decide (0 ≤ i) && decide (i < s))]) ∧ Below W.heap.size W w') :=
      Lib.hid fun i W hb => (data_any (some ⟨bg, og, none⟩) n c gs secs k pa s i W (hg.below (hb6.trans (hb.mono hb6.size)) (Nat.le_refl _))).mono fun e w' ⟨A', m, c', h1, _, h3⟩ => ⟨A', m, c', by rw [h1, HOK.out], h3⟩
    have m1 := keep_cell hb5 k1 (by omega)
    have m2 := keep_cell hb5 k2 (by omega)
    have m3 := keep_cell hb5 k3 (by omega)
    have m4 := keep_cell hb5 k4 (by omega)
    have hsz3 := keep_size hb5 hsz
    have HG : Hid (GsAt w3 bg og gs) := Lib.hid hgs
    generalize colsOf gs secs k pa s = L at *
    clear hL hown1 hhas HO k1 k2 k3 k4 hb2 hb5 hsz hp hg q9 q11 q12 q13 q14 hL3 hz hgz ho hg3 hgs HOK
    go_wp2_with fail
    go_loopw [9, 10] (fun d t wr => ∃ r : Nat, r ≤ R ∧ d = .int .i64 (dN L r : Nat) ∧ t = .int .i64 r ∧ Below w3.heap.size w3 wr) (fun _ t _ => R - (intOf t).toNat)
    case atStart =>
      refine ⟨0, Nat.zero_le _, ?_, rfl, Below.refl _ _⟩
      exact congrArg (fun k : Nat => Value.int .i64 (k : Int)) H0.out.symm
    case round =>
      obtain ⟨r, hr, rfl, rfl, hb⟩ := hrel
      obtain ⟨wo, rfl⟩ : ∃ wo : World, wo = wr := ⟨_, rfl⟩
      have hdl := dN_le L r
      go_wp2_with fail
      refine (HRW.out wo hb).mono ?_
      rintro e w4 ⟨rfl, hb7⟩
      have hb8 := hb.trans (hb7.mono hb.size)
      by_cases hlt : r < R
      · have HDN := Lib.hid (dN_step L r)
        generalize dN L (r : Int) = D0 at *
        go_wp2_with fail
        go_loopw [9, 11, 12, 13] (fun d v p t wr => ∃ i : Nat, i ≤ L.length ∧ d = .int .i64 ((D0 : Int) + (rowData L r i : Nat)) ∧ p = .int .i64 (rowPars L r i : Nat) ∧ t = .int .i64 i ∧
            wr.ownsRow w4.heap.size 3 1 v (rowDevs L r i).length (intCells (rowDevs L r i)) ∧ Below w4.heap.size w4 wr) (fun _ _ _ t _ => L.length - (intOf t).toNat)
        case atStart => exact ⟨0, Nat.zero_le _, by simp [rowData], rfl, rfl, World.ownsRow_nil _ _ _ _, Below.refl _ _⟩
        case round =>
          obtain ⟨i, hi', rfl, rfl, rfl, hown, hb9⟩ := hrel
          obtain ⟨wp, rfl⟩ : ∃ wp : World, wp = wr := ⟨_, rfl⟩
          have hpl := rowPars_le L r i
          have hdl2 := rowData_le L r i
          have hvl := rowDevs_len L r i
          by_cases hlt2 : i < L.length
          · obtain ⟨x, hx⟩ : ∃ x, L[i]? = some x := ⟨_, List.getElem?_eq_getElem hlt2⟩
            obtain ⟨b1, o1, eA, hCL⟩ := HL.out.2.2 (by omega)
            subst eA
            have hb10 := hb8.trans (hb9.mono hb8.size)
            obtain ⟨x1, x2, x3, x4⟩ := (hCL.below hb10 (Nat.le_refl _)).2 i x hx
            have hi0 : (0 : Int) ≤ i := by omega
            have hi1 : (i : Int) < L.length := by omega
            have HN1 := Lib.hid (rowPars_next (r := r) hx)
            have HN2 := Lib.hid (rowData_next (r := r) hx)
            have HX := Lib.hid hx
            cases hq : (x.2.2.2 == (r : Int)) with
            | false =>
              have HN3 := Lib.hid (rowDevs_skip hx hq)
              have hq2 : (x.2.2.2 != (r : Int)) = true := by simpa using hq
              rw [hq] at HN1 HN2
              clear hx
              go_wp2_with fail
              go_roundw
              case rel => exact ⟨i + 1, by omega, by rw [HN2.out]; simp, by rw [HN1.out]; rfl, by go_num, by rw [HN3.out]; exact hown, hb9⟩
              case measure => simp [intOf]; omega
            | true =>
              have hq2 : (x.2.2.2 != (r : Int)) = false := by simpa using hq
              have HN3 := Lib.hid (rowDevs_take hx hq)
              have hrow : x.2.2.2 = (r : Int) := by simpa using hq
              have HDV : Hid (∀ (t : Nat) (d : Int), (rowDevs L r i)[t]? = some d → (d == x.1) = false) := Lib.hid fun t d h => by
                obtain ⟨j, y, h1, h2, h3, h4⟩ := rowDevs_mem h
                have := HP4.out j i y x h1 h2 hx (h3.trans hrow.symm)
                rw [← h4]; simpa using this
              rw [hq] at HN1 HN2
              clear hx hrow
              obtain ⟨ao, cp, rfl⟩ := own_slice hown
              generalize rowDevs L r i = V at *
              have HOWN := Lib.hid hown
              have hvl2 : V.length ≤ 64 := by omega
              clear hown
              go_wp2_with fail
              go_loopw [14] (fun t wr => ∃ q : Nat, q ≤ V.length ∧ t = .int .i64 q ∧ Below wp.heap.size wp wr) (fun t _ => V.length - (intOf t).toNat)
              case atStart => exact ⟨0, Nat.zero_le _, rfl, Below.refl _ _⟩
              case round =>
                obtain ⟨q, hq', rfl, hb11⟩ := hrel
                obtain ⟨wq, rfl⟩ : ∃ wq : World, wq = wr := ⟨_, rfl⟩
                have hb12 := hb9.trans (hb11.mono hb9.size)
                have hb13 := hb8.trans (hb12.mono hb8.size)
                obtain ⟨y1, y2, y3, y4⟩ := (hCL.below hb13 (Nat.le_refl _)).2 i x HX.out
                by_cases hlt3 : q < V.length
                · obtain ⟨d, hd⟩ : ∃ d, V[q]? = some d := ⟨_, List.getElem?_eq_getElem hlt3⟩
                  have hne := HDV.out q d hd
                  obtain ⟨g, cap, e4, _, _⟩ := HOWN.out.form (by omega)
                  injection e4 with e5 e6 e7
                  subst e5 e7
                  have hown2 := own_below HOWN.out hb11
                  have hcq : wq.cell? ⟨g, q, none⟩ = some (.int .i64 d) := by rw [hown2.cellAt q (by omega)]; exact intCells_get hd
                  have hq0 : (0 : Int) ≤ q := by omega
                  have hq1 : (q : Int) < V.length := by omega
                  clear hd hown2 x1 x2 x3 x4
                  go_wp2_with fail
                  go_quiet (fail)
                  go_wp2_with fail
                  go_roundw
                  case rel => exact ⟨q + 1, by omega, by go_num, below_drewN hb11 _⟩
                  case measure => simp [intOf]; omega
                · have hown2 := own_below HOWN.out hb11
                  obtain rfl : q = V.length := by omega
                  go_wp2_with (at_builtin; refine wpList_append_own _ rfl _ _ 41 rfl w4.heap.size 3 i0 _ 1 8 Try.underlying41 hi hz0 hz1 hz2 rfl (by decide) _ _ _ rfl (hown2.alloc _) ⟨wq.heap.size, 0, none⟩ 1 1 [.int .i64 x.1] rfl rfl ?c1 ?c2 (by unfold maxLen; omega) (by omega) ?c5 ?_)
                  case c1 => exact new1 _ _ _
                  case c2 => intro u hu; simp at hu; subst hu; rfl
                  case c5 => have := hb12.size; simp; omega
                  intro v' w5 hown' hgrow _
                  have hown3 : w5.ownsRow w4.heap.size 3 1 v' (V ++ [x.1]).length (intCells (V ++ [x.1])) := by
                    rw [intCells_snoc, List.length_append]; exact hown'
                  have hb14 : Below w4.heap.size w4 w5 := (hb12.alloc hb12.size _).grown hgrow (by have := hb12.size; simp; omega) (fun k hk => (hown2.lt k hk).1)
                  have hb15 := hb8.trans (hb14.mono hb8.size)
                  obtain ⟨z1, z2, z3, z4⟩ := (hCL.below hb15 (Nat.le_refl _)).2 i x HX.out
                  clear hown2 hown' hgrow x1 x2 x3 x4 y1 y2 y3 y4
                  cases hpar : x.2.2.1 with
                  | true =>
                    rw [hpar] at z3 HN1 HN2
                    go_wp2_with fail
                    go_roundw
                    case rel => exact ⟨i + 1, by omega, by rw [HN2.out]; simp, by rw [HN1.out]; go_num, by go_num, by rw [HN3.out]; exact hown3, hb14⟩
                    case measure => simp [intOf]; omega
                  | false =>
                    rw [hpar] at z3 HN1 HN2
                    go_wp2_with fail
                    go_roundw
                    case rel => exact ⟨i + 1, by omega, by rw [HN2.out]; simp; omega, by rw [HN1.out]; rfl, by go_num, by rw [HN3.out]; exact hown3, hb14⟩
                    case measure => simp [intOf]; omega
          · obtain rfl : i = L.length := by omega
            have hb10 := hb8.trans (hb9.mono hb8.size)
            have hpk : rowPars L r L.length = kind := by rw [← HP1.out r hlt, rowPars, List.take_length]
            have hdk : Hid (D0 + rowData L r L.length = dN L (r + 1 : Nat)) := by unfold Hid; rw [rowData, List.take_length, show ((r + 1 : Nat) : Int) = (r : Int) + 1 from rfl, HDN.out]
            rw [hpk] at *
            have n1 := (hb10.cell (p := ⟨w.heap.size, 0, none⟩) (by show w.heap.size < w3.heap.size; omega)).trans m1
            have n3 := (hb10.cell (p := ⟨w.heap.size + 1, 0, none⟩) (by show w.heap.size + 1 < w3.heap.size; omega)).trans m3
            obtain ⟨z1, z2⟩ := (HG.out.below hb10 (Nat.le_refl _)).2 k _ HZ.out
            have hkn0 : (0 : Int) ≤ k := by omega
            have hkk : ((kind : Int) != (kind : Int)) = false := by simp
            clear hpk hown
            go_wp2_with fail
            go_roundw
            case rel => exact ⟨r + 1, by omega, by rw [← hdk.out]; simp, by go_num, hb10⟩
            case measure => simp [intOf]; omega
      · obtain rfl : r = R := by omega
        have HD1 : Hid (dN L r = if kind = 0 then s * wd else s) := HP2
        generalize dN L (r : Int) = D0 at *
        clear HP1 HP2
        go_wp2_with fail
        go_loopw [15] (fun t wr => ∃ i : Nat, i ≤ s ∧ t = .int .i64 i ∧ Below w3.heap.size w3 wr) (fun t _ => s - (intOf t).toNat)
        case atStart => exact ⟨0, Nat.zero_le _, rfl, hb8⟩
        case round =>
          obtain ⟨i, hi', rfl, hb9⟩ := hrel
          obtain ⟨wp, rfl⟩ : ∃ wp : World, wp = wr := ⟨_, rfl⟩
          have n1 := (hb9.cell (p := ⟨w.heap.size, 0, none⟩) (by show w.heap.size < w3.heap.size; omega)).trans m1
          have n2 := (hb9.cell (p := ⟨w.heap.size, 1, none⟩) (by show w.heap.size < w3.heap.size; omega)).trans m2
          have n3 := (hb9.cell (p := ⟨w.heap.size + 1, 0, none⟩) (by show w.heap.size + 1 < w3.heap.size; omega)).trans m3
          have n4 := (hb9.cell (p := ⟨w.heap.size + 1, 1, none⟩) (by show w.heap.size + 1 < w3.heap.size; omega)).trans m4
          by_cases hlt2 : i < s
          · have e1 : (decide (0 ≤ (i : Int)) && decide ((i : Int) < s)) = true := by simp; omega
            have HDi := Lib.hid (HD.out i wp hb9)
            rw [e1] at HDi
            clear e1
            go_wp2_with fail
            refine HDi.out.mono ?_
            rintro e w5 ⟨A', m, c', rfl, hb10⟩
            go_wp2_with fail
            go_roundw
            case rel => exact ⟨i + 1, by omega, by go_num, hb9.trans (hb10.mono hb9.size)⟩
            case measure => simp [intOf]; omega
          · obtain rfl : i = s := by omega
            have e1 : (decide (0 ≤ (i : Int)) && decide ((i : Int) < i)) = false := by simp
            have HDi := Lib.hid (HD.out i wp hb9)
            rw [e1] at HDi
            clear e1
            go_wp2_with fail
            refine HDi.out.mono ?_
            rintro e w5 ⟨A', m, c', rfl, hb10⟩
            have hb11 := hb9.trans (hb10.mono hb9.size)
            have hkn0 : (0 : Int) ≤ k := by omega
            have p1 := (hb11.cell (p := ⟨w.heap.size, 0, none⟩) (by show w.heap.size < w3.heap.size; omega)).trans m1
            have p3 := (hb11.cell (p := ⟨w.heap.size + 1, 0, none⟩) (by show w.heap.size + 1 < w3.heap.size; omega)).trans m3
            obtain ⟨z1, z2⟩ := (HG.out.below hb11 (Nat.le_refl _)).2 k _ HZ.out
            clear n1 n2 n3 n4
            rcases q8 with rfl | rfl
            · obtain rfl : r = i := HP3.out rfl
              have hD : D0 = r * wd := by rw [HD1.out]; rfl
              have hw : IntKind.i64.wrap ((r : Int) * (wd : Int)) = ((D0 : Nat) : Int) := by
                have h4 := Nat.mul_le_mul q7 q5
                rw [hD, IntKind.wrap_i64] <;> push_cast <;> omega
              clear hD HD1
              go_wp2_with fail
              refine (HRW.out w5 hb11).mono ?_
              rintro e w6 ⟨rfl, hb12⟩
              go_wp2_with fail
              go_ret
              exact ⟨rfl, hb6.trans ((hb11.trans (hb12.mono hb11.size)).mono hb6.size)⟩
            · have hD : D0 = i := by rw [HD1.out]; rfl
              subst hD
              go_wp2_with fail
              go_ret
              refine ⟨ret_bool ?_, hb6.trans (hb11.mono hb6.size)⟩
              simp
  · have e1 := of_bad hp
    have hv : ∃ v c, v1 = .slice v 0 c := by
      have : (ofList gs secs pg pa size) = [] := by unfold ofList; rw [if_neg hp]
      rw [this] at hown1
      obtain ⟨a, c', e⟩ := own_slice hown1
      exact ⟨a, c', e⟩
    obtain ⟨v, c', rfl⟩ := hv
    rw [e1]
    clear e1 hown1
    go_wp2_with fail
    refine (awake_any _).mono ?_
    rintro e w4 ⟨rfl, hb7⟩
    go_wp2_with fail
    go_ret
    exact ⟨rfl, hb6.trans (hb7.mono hb6.size)⟩
end Go.Proofs.Ythkeibeelncgkaa
