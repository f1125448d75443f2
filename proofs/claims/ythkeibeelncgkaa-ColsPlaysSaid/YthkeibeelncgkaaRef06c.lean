/-
  polderref06.Data: the columns that hold a sector, as the reference counts them.
-/
import Derived.Test.YthkeibeelncgkaaRef06b
import Derived.Test.YthkeibeelncgkaaData3
namespace Go.Proofs.Ythkeibeelncgkaa
open Go.RowKit
set_option linter.unusedVariables false

/-- What has been collected when k columns are over: of a mirror; of a parity (with how many data columns there were). -/
def mirD (L : List Col) (i : Int) (k : Nat) : List Col := (L.take k).filter (fun x => !(x.2.2.2 != i))
def parN (L : List Col) (k : Nat) : Nat := ((L.take k).filter (fun x => !x.2.2.1)).length
def parD (L : List Col) (i : Int) (k : Nat) : List Col := if 0 ≤ i then (((L.take k).filter (fun x => !x.2.2.1)).drop i.toNat).take 1 else []
theorem mirD_step {L : List Col} {i : Int} {k : Nat} {x : Col} (hx : L[k]? = some x) : mirD L i (k + 1) = mirD L i k ++ if x.2.2.2 == i then [x] else [] := by
  unfold mirD
  rw [List.take_add_one, hx]
  cases h : (x.2.2.2 == i) with
  | true => have h2 : (!(x.2.2.2 != i)) = true := by simpa using h
            simp [List.filter_append, h2]
  | false => have h2 : (!(x.2.2.2 != i)) = false := by simpa using h
             simp [List.filter_append, h2]
theorem parN_step {L : List Col} {k : Nat} {x : Col} (hx : L[k]? = some x) : parN L (k + 1) = parN L k + if x.2.2.1 then 0 else 1 := by
  unfold parN; rw [List.take_add_one, hx]; cases h : x.2.2.1 <;> simp [List.filter_append, h]
theorem parN_le (L : List Col) (k : Nat) : parN L k ≤ k := by
  unfold parN; exact Nat.le_trans (List.length_filter_le _ _) (List.length_take_le _ _)
theorem parD_step {L : List Col} {i : Int} {k : Nat} {x : Col} (hx : L[k]? = some x) :
    parD L i (k + 1) = parD L i k ++ if x.2.2.1 then [] else if (parN L k : Int) == i then [x] else [] := by
  unfold parD parN
  rw [show L.take (k + 1) = L.take k ++ (L[k]?).toList from List.take_add_one, hx]
  by_cases hi : 0 ≤ i
  · rw [if_pos hi, if_pos hi]
    obtain ⟨m, rfl⟩ := Int.eq_ofNat_of_zero_le hi
    cases h : x.2.2.1 with
    | true => simp [List.filter_append, h]
    | false =>
      have hf : List.filter (fun x : Col => !x.2.2.1) (List.take k L ++ (some x).toList) = List.filter (fun x : Col => !x.2.2.1) (List.take k L) ++ [x] := by simp [List.filter_append, h]
      rw [hf]
      generalize List.filter (fun x : Col => !x.2.2.1) (List.take k L) = F
      rw [Int.toNat_natCast]
      rcases Nat.lt_trichotomy F.length m with h1 | h1 | h1
      · have e : ((F.length : Int) == (m : Int)) = false := by simp; omega
        rw [e]
        rw [List.drop_eq_nil_of_le (by simp; omega), List.drop_eq_nil_of_le (by omega)]
        simp
      · subst h1
        simp
      · have e : ((F.length : Int) == (m : Int)) = false := by simp; omega
        rw [e]
        rw [List.drop_append_of_le_length (by omega)]
        rw [List.take_append_of_le_length (by rw [List.length_drop]; omega)]
        simp
  · rw [if_neg hi, if_neg hi]
    have e : (((List.filter (fun x : Col => !x.2.2.1) (List.take k L)).length : Int) == i) = false := by simp; omega
    rw [e]
    simp

set_option maxRecDepth 100000 in
set_option maxHeartbeats 8000000 in
theorem refData_any (A : Option Addr) (n c : Nat) (gs : List (Int × Int)) (secs pg pa size i : Int) (w : World) (hg : GeoAt w A n gs) (hp : cMay gs secs pg pa size = true) :
    Calls Try.prog 19 #[.agg #[.slice A n c, .int .i64 secs], .agg #[.int .i64 pg, .int .i64 pa], .int .i64 size, .int .i64 i] w fun e w' =>
      ∃ v, e = .returned v ∧ w'.ownsRow w.heap.size 34 4 v (dataOf gs secs pg pa size i).length (colsCells (dataOf gs secs pg pa size i)) ∧ Below w.heap.size w w' := by
  have hb0 : Below w.heap.size w ((w.alloc (Obj.cells #[Value.slice A n c, Value.int IntKind.i64 secs] 24)).alloc (Obj.cells #[Value.int IntKind.i64 pg, Value.int IntKind.i64 pa] 26)) :=
    ((Below.refl _ _).alloc (Nat.le_refl _) _).alloc (by simp) _
  obtain ⟨i0, hi, hz0, hz1, hz2⟩ := info_parts Try.infoCol
  have HO := Lib.hid (refOf_any A n c gs secs pg pa size _ (hg.below hb0 (Nat.le_refl _)) hp)
  obtain ⟨hl0, hlen⟩ := cols_bd hp
  obtain ⟨hhas, hzz1, hzz2, _⟩ := cMay_true hp
  obtain ⟨k, x, rfl, hk, hl4, hs1, hs2, hx, hgx, ho⟩ := gHas_true hhas
  have hg0 := hg.below hb0 (Nat.le_refl _)
  obtain ⟨b, off, rfl, hgs⟩ := hg0.2.2 (by have := hg.1; omega)
  have hkn : (k : Int) < n := by have := hg.1; omega
  have hkn0 : (0 : Int) ≤ k := by omega
  have ho' := gOne_true ho
  obtain ⟨kd, wd⟩ := x
  have HX := Lib.hid hx
  have hcnt : kd = 1 → ((colsOf gs secs k pa size).filter (fun x => !x.2.2.1)).length = size.toNat := by
    intro h; unfold colsOf; rw [hgx, h]; exact par_count _ _ _ _
  have hmrow : kd = 0 → ∀ x ∈ colsOf gs secs k pa size, 0 ≤ x.2.2.2 ∧ x.2.2.2 < size := by
    intro h x hx
    have : colsOf gs secs k pa size = mirror (gFirst gs secs k) pa wd.toNat size.toNat := by unfold colsOf; rw [hgx, h]; rfl
    rw [this] at hx
    have := mir_mem hx (Nat.zero_le _)
    omega
  have HD : Hid (dataOf gs secs k pa size i = if kd == 0 then mirD (colsOf gs secs k pa size) i (colsOf gs secs k pa size).length else parD (colsOf gs secs k pa size) i (colsOf gs secs k pa size).length) := by
    unfold Hid dataOf dataOk mirD parD
    rw [hp, hgx, List.take_length]
    simp only at ho'
    by_cases hii : 0 ≤ i ∧ i < size
    · rw [decide_eq_true hii.1, decide_eq_true hii.2, if_pos hii.1]; rfl
    · have e : (true && decide (0 ≤ i) && decide (i < size)) = false := by simp; omega
      rw [e]
      simp only [Bool.false_eq_true, if_false]
      rcases ho' with ⟨e, _⟩ | ⟨e, _⟩
      · rw [e]
        simp only [beq_self_eq_true, if_true]
        symm
        rw [List.filter_eq_nil_iff]
        intro x hx
        have := hmrow e x hx
        simp; omega
      · rw [e]
        simp only [show ((1 : Int) == 0) = false from rfl, Bool.false_eq_true, if_false]
        split
        · rw [List.drop_eq_nil_of_le (by rw [hcnt e]; omega)]; rfl
        · rfl
  clear hx hgx ho hp hhas hg hg0 hcnt hmrow
  generalize colsOf gs secs k pa size = L at *
  generalize dataOf gs secs k pa size i = R at *
  go_enter Try.func19, Try.ntmps19
  go_wp2_with fail
  refine HO.out.mono ?_
  rintro e w1 ⟨v, rfl, hown, hb1⟩
  have hb2 := hb0.trans (hb1.mono (by simp; omega))
  have k1 : w1.cell? ⟨w.heap.size, 0, none⟩ = some (.slice (some ⟨b, off, none⟩) n c) := keep_cell hb1 (cell_alloc (cell_new rfl rfl) _) (by simp; omega)
  have k3 : w1.cell? ⟨w.heap.size + 1, 0, none⟩ = some (.int .i64 k) := keep_cell hb1 (cell_new (by simp) rfl) (by simp)
  have hsz : w.heap.size + 2 ≤ w1.heap.size := by have := hb1.size; simp at this; omega
  have HG : Hid (GsAt w1 b off gs) := Lib.hid (hgs.below hb1 (Nat.le_refl _))
  obtain ⟨A1, cp1, rfl, hL⟩ := slC_of_own hown (by omega)
  obtain ⟨b1, o1, rfl, hCL⟩ := hL.2.2 hl0
  clear hb1 hb0 hown hL hgs
  rcases ho' with ⟨e, hw1, hw2⟩ | ⟨e, hw1, hw2⟩
  · subst e
    have HR : Hid (R = mirD L i L.length) := by unfold Hid; rw [HD.out]; rfl
    clear HD
    go_wp2_with fail
    go_loopw [10, 12] (fun v t wr => ∃ q : Nat, q ≤ L.length ∧ t = .int .i64 q ∧ wr.ownsRow w1.heap.size 34 4 v (mirD L i q).length (colsCells (mirD L i q)) ∧ Below w1.heap.size w1 wr) (fun _ t _ => L.length - (intOf t).toNat)
    case atStart => exact ⟨0, Nat.zero_le _, rfl, World.ownsRow_nil _ _ _ _, Below.refl _ _⟩
    case round =>
      obtain ⟨q, hq, rfl, hown, hb⟩ := hrel
      have m1 := keep_cell hb k1 (by omega)
      have m3 := keep_cell hb k3 (by omega)
      obtain ⟨z1, z2⟩ := (HG.out.below hb (Nat.le_refl _)).2 k _ HX.out
      by_cases hlt : q < L.length
      · obtain ⟨x, hx⟩ : ∃ x, L[q]? = some x := ⟨_, List.getElem?_eq_getElem hlt⟩
        obtain ⟨x1, x2, x3, x4⟩ := (hCL.below hb (Nat.le_refl _)).2 q x hx
        have HS := Lib.hid (mirD_step (i := i) hx)
        have hq0 : (0 : Int) ≤ q := by omega
        have hq1 : (q : Int) < L.length := by omega
        have hml : (mirD L i q).length ≤ 1000 := by unfold mirD; exact Nat.le_trans (List.length_filter_le _ _) (by rw [List.length_take]; omega)
        clear hx
        cases hr : (x.2.2.2 == i) with
        | true =>
          rw [hr, if_pos rfl] at HS
          go_wp2_with (at_builtin; refine wpList_append_own _ rfl _ _ 27 rfl w1.heap.size 34 i0 _ 4 32 Try.underlying27 hi hz0 hz1 hz2 rfl (by decide) _ _ _ rfl (hown.alloc _) ⟨wr.heap.size, 0, none⟩ 1 1 (colCells x) rfl rfl ?c1 (col_one _) (by unfold maxLen; omega) (by omega) ?c5 ?_)
          case c1 => exact fun _ _ hu => hu
          case c5 => have := hb.size; simp; omega
          intro v' w5 hown' hgrow _
          rw [← colsCells_snoc, ← HS.out, show (mirD L i q).length + 1 = (mirD L i (q + 1)).length from by rw [HS.out]; simp] at hown'
          have hb2 : Below w1.heap.size w1 w5 := (hb.alloc hb.size _).grown hgrow (by have := hb.size; simp; omega) (fun k hk => (hown.lt k hk).1)
          clear hown hgrow
          go_wp2_with fail
          go_roundw
          case rel => exact ⟨q + 1, by omega, by go_num, hown', hb2⟩
          case measure => simp [intOf]; omega
        | false =>
          rw [hr, if_neg (by simp), List.append_nil] at HS
          go_wp2_with fail
          go_roundw
          case rel => exact ⟨q + 1, by omega, by go_num, by rw [HS.out]; exact hown, hb⟩
          case measure => simp [intOf]; omega
      · obtain rfl : q = L.length := by omega
        go_wp2_with fail
        go_ret
        rw [HR.out]
        exact ⟨_, rfl, own_mono hown hb2.size, hb2.trans (hb.mono hb2.size)⟩
  · subst e
    have HR : Hid (R = parD L i L.length) := by unfold Hid; rw [HD.out]; rfl
    clear HD
    go_wp2_with fail
    go_loopw [10, 11, 12] (fun v nn t wr => ∃ q : Nat, q ≤ L.length ∧ t = .int .i64 q ∧ nn = .int .i64 (parN L q) ∧ wr.ownsRow w1.heap.size 34 4 v (parD L i q).length (colsCells (parD L i q)) ∧ Below w1.heap.size w1 wr) (fun _ _ t _ => L.length - (intOf t).toNat)
    case atStart => exact ⟨0, Nat.zero_le _, rfl, rfl, by rw [show parD L i 0 = [] from by unfold parD; simp]; exact World.ownsRow_nil _ _ _ _, Below.refl _ _⟩
    case round =>
      obtain ⟨q, hq, rfl, rfl, hown, hb⟩ := hrel
      have m1 := keep_cell hb k1 (by omega)
      have m3 := keep_cell hb k3 (by omega)
      obtain ⟨z1, z2⟩ := (HG.out.below hb (Nat.le_refl _)).2 k _ HX.out
      by_cases hlt : q < L.length
      · obtain ⟨x, hx⟩ : ∃ x, L[q]? = some x := ⟨_, List.getElem?_eq_getElem hlt⟩
        obtain ⟨x1, x2, x3, x4⟩ := (hCL.below hb (Nat.le_refl _)).2 q x hx
        have HS := Lib.hid (parD_step (i := i) hx)
        have HN := Lib.hid (parN_step hx)
        have hnl := parN_le L q
        have hq0 : (0 : Int) ≤ q := by omega
        have hq1 : (q : Int) < L.length := by omega
        have hml : (parD L i q).length ≤ 1 := by unfold parD; split <;> simp; omega
        clear hx
        cases hpar : x.2.2.1 with
        | true =>
          rw [hpar, if_pos rfl, List.append_nil] at HS
          rw [hpar, if_pos rfl] at HN
          rw [hpar] at x3
          go_wp2_with fail
          go_roundw
          case rel => exact ⟨q + 1, by omega, by go_num, by rw [HN.out, Nat.add_zero], by rw [HS.out]; exact hown, hb⟩
          case measure => simp [intOf]; omega
        | false =>
          rw [hpar, if_neg (by simp)] at HS HN
          rw [hpar] at x3
          cases hr : ((parN L q : Int) == i) with
          | true =>
            rw [hr, if_pos rfl] at HS
            go_wp2_with (at_builtin; refine wpList_append_own _ rfl _ _ 27 rfl w1.heap.size 34 i0 _ 4 32 Try.underlying27 hi hz0 hz1 hz2 rfl (by decide) _ _ _ rfl (hown.alloc _) ⟨wr.heap.size, 0, none⟩ 1 1 (colCells x) rfl rfl ?c1 (col_one _) (by unfold maxLen; omega) (by omega) ?c5 ?_)
            case c1 => intro j u hu; unfold colCells at hu; rw [hpar] at hu; exact hu
            case c5 => have := hb.size; simp; omega
            intro v' w5 hown' hgrow _
            rw [← colsCells_snoc, ← HS.out, show (parD L i q).length + 1 = (parD L i (q + 1)).length from by rw [HS.out]; simp] at hown'
            have hb2 : Below w1.heap.size w1 w5 := (hb.alloc hb.size _).grown hgrow (by have := hb.size; simp; omega) (fun k hk => (hown.lt k hk).1)
            clear hown hgrow
            go_wp2_with fail
            go_roundw
            case rel => exact ⟨q + 1, by omega, by go_num, by rw [HN.out]; go_num, hown', hb2⟩
            case measure => simp [intOf]; omega
          | false =>
            rw [hr, if_neg (by simp), List.append_nil] at HS
            go_wp2_with fail
            go_roundw
            case rel => exact ⟨q + 1, by omega, by go_num, by rw [HN.out]; go_num, by rw [HS.out]; exact hown, hb⟩
            case measure => simp [intOf]; omega
      · obtain rfl : q = L.length := by omega
        go_wp2_with fail
        go_ret
        rw [HR.out]
        exact ⟨_, rfl, own_mono hown hb2.size, hb2.trans (hb.mono hb2.size)⟩
end Go.Proofs.Ythkeibeelncgkaa
