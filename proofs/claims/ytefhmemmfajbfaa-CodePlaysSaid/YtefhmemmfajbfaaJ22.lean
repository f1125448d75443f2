/-
  polderref06.Of: the columns of a block, as the reference counts them.
  The document's answer for layer 7: Text, Xor, Fits.
  The document's answer for layer 7: Fits, Encode.
-/
import Derived.Test.YtefhmemmfajbfaaJ20
import Derived.Test.YtefhmemmfajbfaaJ08
import Derived.Deep.RegionHeldLaw
import Derived.Test.YtefhmemmfajbfaaJ21
import Derived.Laws.BitsAllLaws
namespace Go.Proofs.Ytefhmemmfajbfaa
set_option linter.unusedVariables false
set_option linter.unusedSimpArgs false
open Go.RowKit

/-- Columns out of their shape. -/
def layC (first wide at_ : Int) : Nat → List (Bool × Int) → List Col
  | _, [] => []
  | j, c :: r => pcol first wide at_ j c.1 c.2 :: layC first wide at_ (j + 1) r
theorem layC_snoc (first wide at_ : Int) (c : Bool × Int) : ∀ (S : List (Bool × Int)) (j : Nat), layC first wide at_ j (S ++ [c]) = layC first wide at_ j S ++ [pcol first wide at_ (j + S.length) c.1 c.2]
  | [], j => by simp [layC]
  | d :: S, j => by
    simp only [List.cons_append, layC, layC_snoc first wide at_ c S (j + 1), List.length_cons]
    rw [show j + 1 + S.length = j + (S.length + 1) by omega]
theorem layC_len (first wide at_ : Int) : ∀ (S : List (Bool × Int)) (j : Nat), (layC first wide at_ j S).length = S.length
  | [], _ => rfl
  | _ :: S, j => by simp [layC, layC_len first wide at_ S (j + 1)]
theorem layC_get (first wide at_ : Int) : ∀ (S : List (Bool × Int)) (j k : Nat), (layC first wide at_ j S)[k]? = (S[k]?).map fun c => pcol first wide at_ (j + k) c.1 c.2
  | [], _, _ => by simp [layC]
  | c :: S, j, 0 => by simp [layC]
  | c :: S, j, k + 1 => by
    simp only [layC, List.getElem?_cons_succ, layC_get first wide at_ S (j + 1) k]
    rw [show j + 1 + k = j + (k + 1) by omega]
theorem parTo_layC (first wide at_ : Int) (n : Nat) : parTo first wide at_ n = layC first wide at_ 0 ((parTo 0 wide 0 n).map (·.2.2)) := by
  apply List.ext_getElem?
  intro k
  rw [layC_get, ← parTo_shape first wide at_ n, List.getElem?_map]
  cases h : (parTo first wide at_ n)[k]? with
  | none => rfl
  | some x =>
    obtain ⟨p, r, e⟩ := parTo_get _ _ _ _ _ _ h
    simp only [Option.map_some, Nat.zero_add]
    rw [e]
    rfl

/-- A row's shape, up to k; a block's, row by row. -/
def rowS (n : Nat) (r : Int) (k : Nat) : List (Bool × Int) := ((true, r) :: List.replicate n (false, r)).take k
theorem rowS_step {n k : Nat} (r : Int) (h : k ≤ n) : rowS n r (k + 1) = rowS n r k ++ [(((k : Int) == 0), r)] := by
  unfold rowS
  rw [List.take_add_one]
  congr 1
  cases k with
  | zero => rfl
  | succ k =>
    have h0 : ((((k + 1 : Nat) : Int)) == 0) = false := by simp; omega
    rw [h0]
    simp [List.getElem?_replicate]; omega
theorem rowS_len {n k : Nat} (r : Int) (h : k ≤ n + 1) : (rowS n r k).length = k := by
  unfold rowS; rw [List.length_take]; simp; omega
def refS (wide : Nat) : Nat → Nat → Int → List (Bool × Int)
  | 0, _, _ => []
  | f + 1, s, r => if s = 0 then [] else rowS (min s (wide - 1)) r (min s (wide - 1) + 1) ++ refS wide f (s - min s (wide - 1)) (r + 1)
theorem refS_zero (wide f : Nat) (r : Int) : refS wide f 0 r = [] := by cases f <;> simp [refS]
theorem refS_ok : ∀ w ∈ List.range 9, 3 ≤ w → ∀ s ∈ List.range 5, refS w s s 0 = (parTo 0 w 0 s).map (·.2.2) := by decide +kernel

set_option maxRecDepth 100000 in
set_option maxHeartbeats 8000000 in
theorem refOf_any (A : Option Addr) (n c : Nat) (gs : List (Int × Int)) (secs pg pa size : Int) (w : World) (hg : GeoAt w A n gs) (hp : cMay gs secs pg pa size = true) :
    Calls Try.prog 36 #[.agg #[.slice A n c, .int .i64 secs], .agg #[.int .i64 pg, .int .i64 pa], .int .i64 size] w fun e w' =>
      ∃ v, e = .returned v ∧ w'.ownsRow w.heap.size 40 4 v (colsOf gs secs pg pa size).length (colsCells (colsOf gs secs pg pa size)) ∧ Below w.heap.size w w' := by
  have hb0 : Below w.heap.size w ((w.alloc (Obj.cells #[Value.slice A n c, Value.int IntKind.i64 secs] 24)).alloc (Obj.cells #[Value.int IntKind.i64 pg, Value.int IntKind.i64 pa] 26)) :=
    ((Below.refl _ _).alloc (Nat.le_refl _) _).alloc (by simp) _
  obtain ⟨i0, hi, hz0, hz1, hz2⟩ := info_parts Try.infoCol
  obtain ⟨hhas, hzz1, hzz2, hp1, hp2, _⟩ := cMay_true hp
  have hS := gSectors_bd gs secs pg
  have hT := gTakes_bd gs secs pg size
  have hp3 : pa ≤ 100000 := by omega
  obtain ⟨k, x, rfl, hk, hl4, hs1, hs2, hx, hgx, ho⟩ := gHas_true hhas
  have H2 : Hid (∀ w1, Below w.heap.size w w1 → Calls Try.prog 12 #[.agg #[.slice A n c, .int .i64 secs], .int .i64 k] w1 fun e w' => e = .returned (.int .i64 (gFirst gs secs k)) ∧ Below w1.heap.size w1 w') :=
    Lib.hid fun w1 hb => refFirst_any A n c gs secs k w1 (hg.below hb (Nat.le_refl _)) hhas
  have hfirst : 0 ≤ gFirst gs secs k ∧ gFirst gs secs k ≤ 100 := by
    unfold gFirst; rw [hhas]
    have hr : gRight gs secs = true := by simp only [gHas, Bool.and_eq_true] at hhas; exact hhas.1.1
    have := sum_take_bd hr (k : Int).toNat
    simp only [if_true]; omega
  obtain ⟨hF0, hF1⟩ := hfirst
  have HC : Hid (colsOf gs secs k pa size = if x.1 == 0 then mirror (gFirst gs secs k) pa x.2.toNat size.toNat else parTo (gFirst gs secs k) x.2 pa size.toNat) := by
    unfold Hid colsOf; rw [hgx]
  obtain ⟨b, off, rfl, hgs⟩ := hg.2.2 (by have := hg.1; omega)
  have hkn : (k : Int) < n := by have := hg.1; omega
  have hkn0 : (0 : Int) ≤ k := by omega
  have ho' := gOne_true ho
  have HX := Lib.hid hx
  obtain ⟨kd, wd⟩ := x
  obtain ⟨sz, rfl⟩ := Int.eq_ofNat_of_zero_le (show 0 ≤ size by omega)
  obtain ⟨wn, rfl⟩ := Int.eq_ofNat_of_zero_le (show 0 ≤ wd by simp only at ho'; omega)
  simp only [Int.toNat_natCast] at HC
  have hsz4 : sz ≤ 4 := by omega
  have hwn8 : wn ≤ 8 := by simp only at ho'; omega
  clear hx hgx ho hp hhas hS hT hp2 hg
  generalize gFirst gs secs k = F at *
  generalize colsOf gs secs k pa sz = L at *
  have z1 := fun X Y => cell_alloc (cell_alloc (hgs.2 k _ HX.out).1 X) Y
  have z2 := fun X Y => cell_alloc (cell_alloc (hgs.2 k _ HX.out).2 X) Y
  go_enter Try.func36, Try.ntmps36
  go_wp2_with fail
  have x1 := cell_new (W := ((w.alloc (Obj.cells #[Value.slice (some ⟨b, off, none⟩) n c, Value.int IntKind.i64 secs] 24)).alloc (Obj.cells #[Value.int IntKind.i64 k, Value.int IntKind.i64 pa] 26))) (k := w.heap.size + 2) (o := 0) (cs := #[.int .i64 kd, .int .i64 wn]) (t := 37) (by simp) rfl
  have x2 := cell_new (W := ((w.alloc (Obj.cells #[Value.slice (some ⟨b, off, none⟩) n c, Value.int IntKind.i64 secs] 24)).alloc (Obj.cells #[Value.int IntKind.i64 k, Value.int IntKind.i64 pa] 26))) (k := w.heap.size + 2) (o := 1) (cs := #[.int .i64 kd, .int .i64 wn]) (t := 37) (by simp) rfl
  have y4 := cell_alloc (cell_new (W := w.alloc (Obj.cells #[Value.slice (some ⟨b, off, none⟩) n c, Value.int IntKind.i64 secs] 24)) (k := w.heap.size + 1) (o := 1) (cs := #[.int .i64 k, .int .i64 pa]) (t := 26) (by simp) rfl) (.cells #[.int .i64 kd, .int .i64 wn] 37)
  have hb1 := hb0.alloc hb0.size (.cells #[.int .i64 kd, .int .i64 wn] 37)
  have hs1 : w.heap.size + 3 ≤ (((w.alloc (Obj.cells #[Value.slice (some ⟨b, off, none⟩) n c, Value.int IntKind.i64 secs] 24)).alloc (Obj.cells #[Value.int IntKind.i64 k, Value.int IntKind.i64 pa] 26)).alloc (.cells #[.int .i64 kd, .int .i64 wn] 37)).heap.size := by simp
  refine (H2.out _ hb1).mono ?_
  rintro e w3 ⟨rfl, hb3⟩
  have m1 := keep_cell hb3 x1 (by omega)
  have m2 := keep_cell hb3 x2 (by omega)
  have m4 := keep_cell hb3 y4 (by omega)
  have hs3 := keep_size hb3 hs1
  have hb4 := hb1.trans (hb3.mono hb1.size)
  clear x1 x2 y4 z1 z2 hb0 hb1 hb3 hs1 hgs
  rcases ho' with ⟨e, hw1, hw2⟩ | ⟨e, hw1, hw2⟩
  · subst e
    have HCL : Hid (L = mirror F pa wn sz) := by unfold Hid; rw [HC.out]; rfl
    clear HC
    go_wp2_with fail
    go_loopw [7, 10] (fun v t wr => ∃ d : Nat, d ≤ wn ∧ t = .int .i64 d ∧ wr.ownsRow w3.heap.size 40 4 v (mirTo F pa sz d 0).length (colsCells (mirTo F pa sz d 0)) ∧ Below w3.heap.size w3 wr)
      (fun _ t _ => wn - (RowKit.intOf t).toNat)
    case atStart => exact ⟨0, Nat.zero_le _, rfl, World.ownsRow_nil _ _ _ _, Below.refl _ _⟩
    case round =>
      obtain ⟨d, hd, rfl, hown, hb⟩ := hrel
      obtain ⟨wo, rfl⟩ : ∃ wo : World, wo = wr := ⟨_, rfl⟩
      have n2 := keep_cell hb m2 (by omega)
      by_cases hlt : d < wn
      · go_wp2_with fail
        go_loopw [7, 11] (fun v t wr => ∃ i : Nat, i ≤ sz ∧ t = .int .i64 i ∧ wr.ownsRow w3.heap.size 40 4 v (mirTo F pa sz d i).length (colsCells (mirTo F pa sz d i)) ∧ Below w3.heap.size w3 wr)
          (fun _ t _ => sz - (RowKit.intOf t).toNat)
        case atStart => exact ⟨0, Nat.zero_le _, rfl, hown, hb⟩
        case round =>
          obtain ⟨i, hi', rfl, hown1, hb1⟩ := hrel
          clear hown hb n2
          have n4 := keep_cell hb1 m4 (by omega)
          by_cases hlt2 : i < sz
          · have hlen := Lib.hid (mirTo_len F pa sz d i)
            have hlb : (mirTo F pa sz d i).length ≤ 64 := by
              rw [hlen.out]
              have : d * sz ≤ 8 * 4 := Nat.mul_le_mul (by omega) (by omega)
              omega
            go_wp2_with (at_builtin; refine wpList_append_own _ rfl _ _ 33 rfl w3.heap.size 40 i0 _ 4 32 Try.underlying33 hi hz0 hz1 hz2 rfl (by decide) _ _ _ rfl (hown1.alloc _) ⟨wr.heap.size, 0, none⟩ 1 1 (colCells (mcol F pa d i)) rfl rfl ?c1 (col_one _) (by unfold maxLen; omega) (by omega) ?c5 ?_)
            case c1 => exact col_new _ _ _
            case c5 => have := hb1.size; simp; omega
            intro v' w5 hown' hgrow _
            rw [← colsCells_snoc, ← mirTo_step, show (mirTo F pa sz d i).length + 1 = (mirTo F pa sz d (i + 1)).length from by rw [mirTo_len, mirTo_len]; omega] at hown'
            have hb2 : Below w3.heap.size w3 w5 := (hb1.alloc hb1.size _).grown hgrow (by have := hb1.size; simp; omega) (fun k hk => (hown1.lt k hk).1)
            clear hown1 hgrow
            go_wp2_with fail
            go_roundw
            case rel => exact ⟨i + 1, by omega, by go_num, hown', hb2⟩
            case measure => simp [RowKit.intOf]; omega
          · obtain rfl : i = sz := by omega
            rw [← mirTo_row] at hown1
            go_wp2_with fail
            go_roundw
            case rel => exact ⟨d + 1, by omega, by go_num, hown1, hb1⟩
            case measure => simp [RowKit.intOf]; omega
      · obtain rfl : d = wn := by omega
        go_wp2_with fail
        go_ret
        rw [HCL.out]
        exact ⟨_, rfl, own_mono hown hb4.size, hb4.trans (hb.mono hb4.size)⟩
  · subst e
    have HCL : Hid (L = parTo F wn pa sz) := by unfold Hid; rw [HC.out]; rfl
    clear HC
    have hSl : (refS wn sz sz 0).length ≤ 8 := by
      rw [refS_ok wn (by simp; omega) (by omega) sz (by simp; omega), List.length_map]
      have := parTo_len 0 wn 0 sz
      omega
    have HSS : Hid (layC F wn pa 0 (refS wn sz sz 0) = L) := by
      unfold Hid
      rw [HCL.out, parTo_layC, refS_ok wn (by simp; omega) (by omega) sz (by simp; omega)]
    generalize hS0 : refS wn sz sz 0 = S at *
    have HS0 := Lib.hid hS0
    clear hS0
    go_wp2_with fail
    go_loopw [2, 7, 12, 13] (fun s' v a r wr => ∃ (f t rr : Nat) (D : List (Bool × Int)), t ≤ f ∧ f ≤ 4 ∧ s' = .int .i64 t ∧ r = .int .i64 rr ∧ a = .int .i64 (pa + (D.length : Int)) ∧ D ++ refS wn f t rr = S ∧ rr ≤ D.length ∧
        wr.ownsRow w3.heap.size 40 4 v (layC F wn pa 0 D).length (colsCells (layC F wn pa 0 D)) ∧ Below w3.heap.size w3 wr) (fun s' _ _ _ _ => (RowKit.intOf s').toNat)
    case atStart => exact ⟨sz, sz, 0, [], Nat.le_refl _, by omega, rfl, rfl, by simp, by rw [List.nil_append]; exact HS0.out, Nat.le_refl _, World.ownsRow_nil _ _ _ _, Below.refl _ _⟩
    case round =>
      obtain ⟨f, t, rr, D, htf, hf4, rfl, rfl, rfl, hD, hrD, hown, hb⟩ := hrel
      obtain ⟨wo, rfl⟩ : ∃ wo : World, wo = wr := ⟨_, rfl⟩
      have hDl : D.length ≤ 8 := by rw [← hD, List.length_append] at hSl; omega
      have n2 := keep_cell hb m2 (by omega)
      rcases Nat.eq_zero_or_pos t with ht0 | ht0
      · subst ht0
        rw [refS_zero, List.append_nil] at hD
        subst hD
        go_wp2_with fail
        go_ret
        rw [← HSS.out]
        exact ⟨_, rfl, own_mono hown hb4.size, hb4.trans (hb.mono hb4.size)⟩
      · obtain ⟨f, rfl⟩ : ∃ f', f = f' + 1 := ⟨f - 1, by omega⟩
        rw [refS, if_neg (by omega)] at hD
        obtain ⟨m, hm⟩ : ∃ m, m = min t (wn - 1) := ⟨_, rfl⟩
        rw [← hm] at hD
        have hcas : ((wn : Int) - 1 < (t : Int) ∧ (m : Int) ≤ wn - 1 ∧ (wn : Int) - 1 ≤ m) ∨ ((t : Int) ≤ (wn : Int) - 1 ∧ (m : Int) ≤ t ∧ (t : Int) ≤ m) := by omega
        have hm1 : 1 ≤ m := by omega
        have hm2 : m ≤ t := by omega
        have HD := Lib.hid hD
        have hDS := congrArg List.length hD
        rw [List.length_append, List.length_append, rowS_len _ (Nat.le_refl _)] at hDS
        have hDm : D.length + m + 1 ≤ 8 := by omega
        have ht1 : (0 : Int) < (t : Int) := by omega
        clear hD hm hDS
        rcases hcas with ⟨hc1, hc2, hc3⟩ | ⟨hc1, hc2, hc3⟩
        all_goals
          go_wp2_with fail
          go_loopw [7, 12, 15] (fun v a kk wr => ∃ k : Nat, k ≤ m + 1 ∧ kk = .int .i64 k ∧ a = .int .i64 (pa + ((D.length : Int) + k)) ∧
              wr.ownsRow w3.heap.size 40 4 v (layC F wn pa 0 (D ++ rowS m rr k)).length (colsCells (layC F wn pa 0 (D ++ rowS m rr k))) ∧ Below w3.heap.size w3 wr) (fun _ _ kk _ => m + 1 - (RowKit.intOf kk).toNat)
          case atStart => exact ⟨0, Nat.zero_le _, rfl, by simp, by rw [show rowS m (rr : Int) 0 = [] from rfl, List.append_nil]; exact hown, hb⟩
          case round =>
            obtain ⟨k, hk, rfl, rfl, hown1, hb1⟩ := hrel
            clear hown hb n2
            have n4 := keep_cell hb1 m2 (by omega)
            by_cases hlt : k ≤ m
            · have hX0 : 0 ≤ pa + ((D.length : Int) + k) := by omega
              have hX1 : pa + ((D.length : Int) + k) ≤ 100100 := by omega
              have HV : Hid (pcol F wn pa (D.length + k) ((k : Int) == 0) rr = (F + (pa + ((D.length : Int) + k)) % wn, 16 + (pa + ((D.length : Int) + k)) / wn, ((k : Int) == 0), (rr : Int))) := by
                unfold Hid pcol; rw [Int.natCast_add]
              have HST := Lib.hid (rowS_step (n := m) (k := k) (rr : Int) hlt)
              have hDk : (D ++ rowS m rr k).length = D.length + k := by rw [List.length_append, rowS_len _ (by omega)]
              have hlay : layC F wn pa 0 (D ++ rowS m rr (k + 1)) = layC F wn pa 0 (D ++ rowS m rr k) ++ [pcol F wn pa (D.length + k) ((k : Int) == 0) rr] := by
                rw [HST.out, ← List.append_assoc, layC_snoc, hDk, Nat.zero_add]
              have HLY := Lib.hid hlay
              have hll : (layC F wn pa 0 (D ++ rowS m rr k)).length = D.length + k := by rw [layC_len, hDk]
              have HLL := Lib.hid hll
              have hl8 : (layC F wn pa 0 (D ++ rowS m rr k)).length ≤ 8 := by omega
              have r1 : 0 ≤ (pa + ((D.length : Int) + k)) % wn := Int.emod_nonneg _ (by omega)
              have r2 : (pa + ((D.length : Int) + k)) % wn < wn := Int.emod_lt_of_pos _ (by omega)
              have q1 : 0 ≤ (pa + ((D.length : Int) + k)) / wn := Int.ediv_nonneg (by omega) (by omega)
              have q2 : (pa + ((D.length : Int) + k)) / wn ≤ pa + ((D.length : Int) + k) := Int.ediv_le_self _ (by omega)
              have e0 : ¬ (wn : Int) = 0 := by omega
              have e1 : (pa + ((D.length : Int) + k)).tmod wn = (pa + ((D.length : Int) + k)) % wn := Int.tmod_eq_emod_of_nonneg (by omega)
              have e4 : (pa + ((D.length : Int) + k)).tdiv wn = (pa + ((D.length : Int) + k)) / wn := Int.tdiv_eq_ediv_of_nonneg (by omega)
              have e2 : IntKind.i64.wrap ((pa + ((D.length : Int) + k)) % wn) = (pa + ((D.length : Int) + k)) % wn := by rw [IntKind.wrap_i64]; omega
              have e5 : IntKind.i64.wrap ((pa + ((D.length : Int) + k)) / wn) = (pa + ((D.length : Int) + k)) / wn := by rw [IntKind.wrap_i64]; omega
              have e3 : IntKind.i64.wrap (F + (pa + ((D.length : Int) + k)) % wn) = F + (pa + ((D.length : Int) + k)) % wn := by rw [IntKind.wrap_i64]; omega
              have e6 : IntKind.i64.wrap (16 + (pa + ((D.length : Int) + k)) / wn) = 16 + (pa + ((D.length : Int) + k)) / wn := by rw [IntKind.wrap_i64]; omega
              clear hlay hll hDk r1 r2 q1 q2
              go_wp2_with fail
              have F1 := Lib.hid hb1
              have F2 := Lib.hid hl8
              have n5 : wr.cell? ⟨w.heap.size + 1 + 1, 1, none⟩ = some (.int .i64 wn) := n4
              clear n4 hX0 hX1 hl8
              go_region_held_law (fun W => W.cell? ⟨w.heap.size + 1 + 1, 1, none⟩ = some (.int .i64 wn))
                (first | exact n5 | exact cell_alloc (by assumption) _ | exact g2 | assumption)
                ((refine step_append_lies _ (by rfl) (.tmp 70) (.tmp 86) 33 (by rfl) w3.heap.size 40 i0 _ 4 32 Try.underlying33 hi hz0 hz1 hz2 rfl (by decide) _ _ _ (by rfl) (hown1.alloc _) ⟨wr.heap.size, 0, none⟩ 1 1 (colCells (pcol F wn pa (D.length + k) ((k : Int) == 0) rr)) (by rfl) rfl (by rw [HV.out]; exact col_new wr (_, _, _, _) _) (col_one _) (by decide) (by have := F2.out; unfold maxLen; omega) (by have := F2.out; omega) (by have := F1.out.size; simp; omega) _ rfl ?_; intro g cap w5 hown' hgrow hat hlt; have hbw : Below w3.heap.size w3 w5 := (((F1.out).drew).alloc F1.out.size _).grown hgrow (by have := F1.out.size; simp; omega) (fun k hk => (hown1.lt k hk).1); have g2 := keep_cell hbw m2 (by omega)))
              all_goals
                have hown2 : w5.ownsRow w3.heap.size 40 4 (.slice (some ⟨g, 0, none⟩) ((layC F wn pa 0 (D ++ rowS m rr k)).length + 1) cap) (layC F wn pa 0 (D ++ rowS m rr (k + 1))).length (colsCells (layC F wn pa 0 (D ++ rowS m rr (k + 1)))) := by
                  rw [HLY.out, colsCells_snoc, List.length_append]; exact hown'
                clear hown' hgrow hat hlt hown1
                go_wp2_with fail
                go_roundw
                case rel => exact ⟨k + 1, by omega, by go_num, by first | rfl | (congr 1; done) | (congr 1; omega), hown2, hbw⟩
                case measure => first | (simp [RowKit.intOf]; done) | (simp [RowKit.intOf]; omega)
            · obtain rfl : k = m + 1 := by omega
              go_wp2_with fail
              go_roundw
              case rel =>
                refine ⟨f, t - m, rr + 1, D ++ rowS m rr (m + 1), by omega, by omega, by congr 1; omega, by go_num, ?_, ?_, ?_, hown1, hb1⟩
                · rw [List.length_append, rowS_len _ (Nat.le_refl _)]; congr 1
                · rw [List.append_assoc]; exact HD.out
                · rw [List.length_append, rowS_len _ (Nat.le_refl _)]; omega
              case measure => first | (simp [RowKit.intOf]; done) | (simp [RowKit.intOf]; omega)
end Go.Proofs.Ytefhmemmfajbfaa

namespace Go.Proofs.Ytefhmemmfajbfaa
set_option linter.unusedVariables false
set_option linter.unusedSimpArgs false
open Go.RowKit

theorem keepc {W W' : World} {b o : Nat} {v : Value} (h : W.cell? ⟨b, o, none⟩ = some v) (hb : Below W.heap.size W W') : W'.cell? ⟨b, o, none⟩ = some v :=
  (World.cell?_of_block (hb.block b (World.block_lt_of_cell? W _ h))).trans h
set_option maxRecDepth 20000 in
theorem refText_any (s : List UInt8) (hl : s.length ≤ 9223372036854775807) (w : World) : Calls Try.prog 17 #[str s] w fun e w' => e = .returned (.bool (secOk s)) ∧ Below w.heap.size w w' := by
  by_cases h1 : s = []
  · subst h1
    go_enter Try.func17, Try.ntmps17
    go_wp2_with fail
    go_ret
    exact ⟨rfl, Below.refl _ _⟩
  have hp := List.length_pos_iff.2 h1
  have hd0 : decide (0 < s.length) = true := decide_eq_true hp
  have hS : secOk s = (decide (s.length ≤ 256) && decide (s.length % 64 = 0)) := by
    unfold secOk
    rw [decide_eq_true h1, Bool.true_and, Bool.and_comm]
  by_cases h2 : s.length ≤ 256
  · have hd1 : decide ((s.length : Int) ≤ 256) = true := decide_eq_true (by omega)
    by_cases h3 : s.length % 64 = 0
    · have hd2 : ((s.length : Int) % 64 == 0) = true := by rw [beq_iff_eq]; omega
      have HS : Hid (secOk s = true) := Lib.hid (by rw [hS, decide_eq_true h2, decide_eq_true h3]; rfl)
      clear hS h1 h2 h3 hp
      go_enter Try.func17, Try.ntmps17
      go_wp2_with fail
      go_ret
      exact ⟨by rw [HS.out]; rfl, Below.refl _ _⟩
    · have hd2 : ((s.length : Int) % 64 == 0) = false := by rw [beq_eq_false_iff_ne]; omega
      have HS : Hid (secOk s = false) := Lib.hid (by rw [hS, decide_eq_true h2, decide_eq_false h3]; rfl)
      clear hS h1 h2 h3 hp
      go_enter Try.func17, Try.ntmps17
      go_wp2_with fail
      go_ret
      exact ⟨by rw [HS.out]; rfl, Below.refl _ _⟩
  · have hd1 : decide ((s.length : Int) ≤ 256) = false := decide_eq_false (by omega)
    have HS : Hid (secOk s = false) := Lib.hid (by rw [hS, decide_eq_false h2]; rfl)
    clear hS h1 h2 hp
    go_enter Try.func17, Try.ntmps17
    go_wp2_with fail
    go_ret
    exact ⟨by rw [HS.out]; rfl, Below.refl _ _⟩
theorem i64_xor_nat (a b : Nat) (ha : a < 256) (hb : b < 256) : bits .xor .i64 (a : Int) (b : Int) = ((a ^^^ b : Nat) : Int) := by
  have hx : a ^^^ b < 2 ^ 8 := Nat.xor_lt_two_pow (by omega) (by omega)
  show IntKind.i64.wrap ((BitVec.ofInt 64 (a : Int) ^^^ BitVec.ofInt 64 (b : Int)).toNat : Int) = _
  rw [BitVec.toNat_xor, BitVec.toNat_ofInt, BitVec.toNat_ofInt, show ((a : Int) % ((2 ^ 64 : Nat) : Int)).toNat = a by omega, show ((b : Int) % ((2 ^ 64 : Nat) : Int)).toNat = b by omega]
  exact (IntWalk.i64_left _).trans (IntWalk.wrap64_in _ (by omega))
/-- The bytes at one place, together. -/
def xcol (l : List (List UInt8)) (k i : Nat) : UInt8 := (l.take i).foldl (fun b s => b ^^^ s.getD k 0) 0
theorem xcol_step {l : List (List UInt8)} {k i : Nat} {s : List UInt8} (h : l[i]? = some s) : xcol l k (i + 1) = xcol l k i ^^^ s.getD k 0 := by
  unfold xcol
  rw [List.take_add_one, h]
  simp [List.foldl_append]
theorem xcol_get {l : List (List UInt8)} {n k : Nat} (hk : k < n) (h : ∀ s ∈ l, s.length = n) : ∀ i, i ≤ l.length → (parN n (l.take i))[k]? = some (xcol l k i)
  | 0, _ => by simp [parN, xcol, hk]
  | i + 1, hi => by
    have ih := xcol_get hk h i (by omega)
    obtain ⟨s, hs⟩ : ∃ s, l[i]? = some s := ⟨_, List.getElem?_eq_getElem (by omega)⟩
    have hl := h s (List.mem_of_getElem? hs)
    rw [xcol_step hs, List.take_add_one, hs]
    show (parN n (l.take i ++ [s]))[k]? = _
    rw [parN_snoc]
    unfold xorL
    rw [List.getElem?_zipWith, ih, List.getElem?_eq_getElem (by omega : k < s.length), List.getD_eq_getElem?_getD, List.getElem?_eq_getElem (by omega : k < s.length)]
    rfl
theorem makeS_get {l : List (List UInt8)} {n k : Nat} (hk : k < n) (hne : l ≠ []) (h : ∀ s ∈ l, s.length = n) : (makeS l)[k]? = some (xcol l k l.length) ∧ (makeS l).length = n := by
  have hh : (l.headD []).length = n := by
    cases l with
    | nil => exact absurd rfl hne
    | cons a r => exact h a List.mem_cons_self
  have he : evenB l = true := by
    unfold evenB
    rw [List.all_eq_true]
    intro x hx
    rw [h x hx, hh]
    exact beq_self_eq_true _
  unfold makeS
  rw [if_pos ⟨hne, he⟩, hh]
  have := xcol_get hk h l.length (Nat.le_refl _)
  rw [List.take_length] at this
  exact ⟨this, parN_len h⟩
theorem conv_b7 (b : UInt8) (W : World) : (convert 45 9 (.slice (some ⟨W.heap.size, 0, none⟩) 1 1)).run Try.prog (W.alloc (.cells #[.int .u8 b.toNat] 5)) =
    .ok (str [b]) (W.alloc (.cells #[.int .u8 b.toNat] 5)) := by
  refine run_convert_bytes_back (P := Try.prog) (W.alloc (.cells #[.int .u8 b.toNat] 5)) 45 9 5 ⟨W.heap.size, 0, none⟩ 1 [b] Try.underlying45 Try.underlying5 Try.underlying9 (fun j hj => ?_)
  have hj0 : j = 0 := by simpa using hj
  subst hj0
  exact one_new' W (.int .u8 b.toNat) 5 0 _ rfl
set_option maxRecDepth 20000 in
set_option maxHeartbeats 1000000 in
theorem refXor_any {l : List (List UInt8)} {sv : Value} {w : World} {n : Nat} (h : SlAt w sv l.length (strC l)) (hne : l ≠ []) (hn : ∀ s ∈ l, s.length = n) (h0 : 0 < n) (hn64 : n ≤ 1000) (f1 : l.length ≤ 1000) :
    Calls Try.prog 37 #[sv] w fun e w' => e = .returned (str (makeS l)) ∧ Below w.heap.size w w' := by
  obtain ⟨A, c, rfl⟩ := h.form
  have hp := List.length_pos_iff.2 hne
  obtain ⟨b, o, rfl, hbl, hcell⟩ := h.cells hp
  obtain ⟨x0, hx0⟩ : ∃ x, l[0]? = some x := ⟨_, List.getElem?_eq_getElem hp⟩
  have hx0l := hn x0 (List.mem_of_getElem? hx0)
  have c0 := hcell 0 _ (strC_at hx0)
  rw [Nat.add_zero] at c0
  have hmk := fun k (hk : k < n) => makeS_get hk hne hn
  have hml := (hmk 0 h0).2
  have HMK := Lib.hid hmk
  have HML := Lib.hid hml
  have HC := Lib.hid (And.intro hbl (And.intro hcell hn))
  have HX0 := Lib.hid hx0l
  have C0 := Lib.hid c0
  clear h hne hn hcell hbl hx0 hmk hml c0
  go_enter Try.func37, Try.ntmps37
  go_wp2_with fail
  go_loopw [3, 4] (fun s t wr => ∃ k : Nat, k ≤ n ∧ s = str ((makeS l).take k) ∧ t = .int .i64 k ∧ Below w.heap.size w wr) (fun _ t _ => n - (RowKit.intOf t).toNat)
  case atStart => exact ⟨0, Nat.zero_le _, rfl, rfl, Below.refl _ _⟩
  case round =>
    obtain ⟨k, hk, rfl, rfl, hb⟩ := hrel
    have HB := Lib.hid hb
    have q0 := keepc C0.out hb
    have hx0l := HX0.out
    by_cases hlt : k < n
    · have hd1 : decide (k < x0.length) = true := decide_eq_true (by omega)
      have HKN := Lib.hid hlt
      have HST : Hid ((makeS l).take (k + 1) = (makeS l).take k ++ [xcol l k l.length]) := Lib.hid (by rw [List.take_add_one, (HMK.out k hlt).1]; rfl)
      have htl : ((makeS l).take k).length ≤ 1000 := by rw [List.length_take, HML.out]; omega
      obtain ⟨X, hX⟩ : ∃ X, (makeS l).take k = X := ⟨_, rfl⟩
      rw [hX] at htl HST
      rw [hX]
      rename World => wq
      clear hb hX hlt
      go_wp2_with fail
      go_loopw [5, 6] (fun bv t wr => ∃ i : Nat, i ≤ l.length ∧ bv = .int .i64 ((xcol l k i).toNat : Nat) ∧ t = .int .i64 i ∧ wr = wq) (fun _ t _ => l.length - (RowKit.intOf t).toNat)
      case atStart => exact ⟨0, Nat.zero_le _, rfl, rfl, rfl⟩
      case round =>
        obtain ⟨i, hi, rfl, rfl, rfl⟩ := hrel
        by_cases hil : i < l.length
        · obtain ⟨s, hs⟩ : ∃ s, l[i]? = some s := ⟨_, List.getElem?_eq_getElem hil⟩
          have hsl := HC.out.2.2 s (List.mem_of_getElem? hs)
          have hks : k < s.length := by have := HKN.out; omega
          have r0 := keepc (HC.out.2.1 i _ (strC_at hs)) HB.out
          have hst := xcol_step (k := k) hs
          obtain ⟨x, hx⟩ : ∃ x, s[k]'hks = x := ⟨_, rfl⟩
          have hgd : s.getD k 0 = x := by rw [List.getD_eq_getElem?_getD, List.getElem?_eq_getElem hks, ← hx]; rfl
          rw [hgd] at hst
          have hyb : k < (ByteArray.mk s.toArray).size := by simp [ByteArray.size]; exact hks
          have hidx : (ByteArray.mk s.toArray)[k]'hyb = x := by rw [← hx]; rfl
          obtain ⟨B, hB⟩ : ∃ B, xcol l k i = B := ⟨_, rfl⟩
          rw [hB] at hst
          rw [hB]
          have hxr := i64_xor_nat B.toNat x.toNat (UInt8.toNat_lt B) (UInt8.toNat_lt x)
          rw [← UInt8.toNat_xor, ← hst] at hxr
          have hd2 : decide (i < l.length) = true := decide_eq_true hil
          have hx256 := UInt8.toNat_lt x
          have HIL := Lib.hid hil
          have HXR := Lib.hid hxr
          have HIX := Lib.hid hidx
          clear hs hst hx hgd hB hxr hidx
          go_wp2_with fail
          go_roundw
          case rel => exact ⟨i + 1, HIL.out, by rw [HIX.out, IntWalk.wrap64_in _ (by omega), HXR.out], by go_num, trivial⟩
          case measure => have := HIL.out; simp [RowKit.intOf]; omega
        · obtain rfl : i = l.length := by omega
          have hd2 : decide (l.length < l.length) = false := decide_eq_false (by omega)
          obtain ⟨B, hB⟩ : ∃ B, xcol l k l.length = B := ⟨_, rfl⟩
          rw [hB] at HST
          rw [hB]
          have hb256 := UInt8.toNat_lt B
          have hcv := conv_b7 B wr
          have hadd : X.length + [B].length ≤ 9223372036854775807 := by simp; omega
          have hnb : ¬ 9223372036854775807 < (ByteArray.mk X.toArray).size + (ByteArray.mk [B].toArray).size := by simp [ByteArray.size]; omega
          clear hB
          go_wp2_with fail
          go_roundw
          case rel => exact ⟨k + 1, HKN.out, by rw [HST.out]; exact str_cat X [B], by go_num, keep_alloc HB.out _⟩
          case measure => have := HKN.out; simp [RowKit.intOf]; omega
    · obtain rfl : k = n := by omega
      have hd1 : decide (k < x0.length) = false := decide_eq_false (by omega)
      have ht : (makeS l).take k = makeS l := by rw [List.take_of_length_le (by rw [HML.out]; exact Nat.le_refl _)]
      rw [ht]
      clear hb ht
      go_wp2_with fail
      go_ret
      exact ⟨rfl, HB.out⟩
end Go.Proofs.Ytefhmemmfajbfaa

namespace Go.Proofs.Ytefhmemmfajbfaa
set_option linter.unusedVariables false
set_option linter.unusedSimpArgs false
open Go.RowKit

theorem fits_loop {got : List (List UInt8)} (h : ∀ j, j < got.length → ∀ s, got[j]? = some s → fitP s = false) : (!got.any fitP) = true := by
  rw [Bool.not_eq_true', List.any_eq_false]
  intro s hs
  obtain ⟨j, hj⟩ := List.mem_iff_getElem?.1 hs
  rw [h j (List.getElem?_eq_some_iff.1 hj).1 s hj]
  simp
set_option maxRecDepth 20000 in
set_option maxHeartbeats 1000000 in
theorem refFits_any (A : Option Addr) (m cc : Nat) (gs : List (Int × Int)) (secs pg pa size : Int) {gv : Value} {got : List (List UInt8)} {w : World} (hg : GeoAt w A m gs) (hs : SlAt w gv got.length (strC got)) (f1 : got.length ≤ 1000) :
    Calls Try.prog 19 #[.agg #[.slice A m cc, .int .i64 secs], .agg #[.int .i64 pg, .int .i64 pa], .int .i64 size, gv] w fun e w' => e = .returned (.bool (fitsB gs secs pg pa size got)) ∧ Below w.heap.size w w' := by
  obtain ⟨w2, hw2⟩ : ∃ z, (w.alloc (.cells #[.slice A m cc, .int .i64 secs] 24)).alloc (.cells #[.int .i64 pg, .int .i64 pa] 26) = z := ⟨_, rfl⟩
  have B1 : Blk w2 w.heap.size 24 #[.slice A m cc, .int .i64 secs] := by rw [← hw2]; exact (Blk.new _ _ _).alloc _
  have B2 : Blk w2 (w.heap.size + 1) 26 #[.int .i64 pg, .int .i64 pa] := by rw [← hw2]; exact Blk.new2 _ _ _ _
  have D2 : Below w.heap.size w w2 := by rw [← hw2]; exact keep_alloc (keep_alloc (Below.refl _ _) _) _
  have HM := Lib.hid (refMay_any A m cc gs secs pg pa size w2 (hg.below D2 (Nat.le_refl _)))
  have HG := Lib.hid (hg.below D2 (Nat.le_refl _))
  obtain ⟨Ag, cg, rfl⟩ := hs.form
  have HS := Lib.hid (hs.below D2)
  have HB1 := Lib.hid (And.intro B1 B2)
  have HD2 := Lib.hid D2
  have HW2 := Lib.hid hw2
  obtain ⟨mb, hmb⟩ : ∃ mb, cMay gs secs pg pa size = mb := ⟨_, rfl⟩
  rw [hmb] at HM
  have HMB := Lib.hid hmb
  clear hg hs B1 B2 D2 hw2 hmb
  go_enter Try.func19, Try.ntmps19
  go_wp2_with fail
  rw [HW2.out]
  refine HM.out.mono ?_
  rintro e w3 ⟨rfl, hb3⟩
  have HB3 := Lib.hid hb3
  cases mb with
  | false =>
    have HF : Hid (fitsB gs secs pg pa size got = false) := Lib.hid (by unfold fitsB; rw [HMB.out]; rfl)
    have HBW := Lib.hid (keep_below hb3 HD2.out)
    clear hb3
    go_wp2_with fail
    go_ret
    exact ⟨by rw [HF.out]; rfl, HBW.out⟩
  | true =>
    have g0 := (HB1.out.1.below hb3 HB1.out.1.lt).at_ (i := 0) (v := .slice A m cc) rfl
    have g1 := (HB1.out.1.below hb3 HB1.out.1.lt).at_ (i := 1) (v := .int .i64 secs) rfl
    have p0 := (HB1.out.2.below hb3 HB1.out.2.lt).at_ (i := 0) (v := .int .i64 pg) rfl
    have p1 := (HB1.out.2.below hb3 HB1.out.2.lt).at_ (i := 1) (v := .int .i64 pa) rfl
    have HO := Lib.hid (refOf_any A m cc gs secs pg pa size w3 (HG.out.below hb3 (Nat.le_refl _)) HMB.out)
    clear hb3
    go_wp2_with fail
    refine HO.out.mono ?_
    rintro e w4 ⟨cv, rfl, hown, hb4⟩
    obtain ⟨Ac, c4, rfl⟩ := (slAt_own hown).form
    have HB4 := Lib.hid (keep_below hb4 HB3.out)
    have HBW := Lib.hid (keep_below HB4.out HD2.out)
    clear g0 g1 p0 p1 hown hb4
    have hF : fitsB gs secs pg pa size got = ((got.length == (colsOf gs secs pg pa size).length) && !got.any fitP) := by unfold fitsB; rw [HMB.out, Bool.true_and]
    obtain ⟨ln, hln⟩ : ∃ ln, (colsOf gs secs pg pa size).length = ln := ⟨_, rfl⟩
    rw [hln] at hF
    rw [hln]
    clear hln
    by_cases hq : got.length = ln
    · have hd : ((got.length : Int) != ln) = false := by rw [bne_eq_false_iff_eq]; omega
      rw [hq, beq_self_eq_true, Bool.true_and] at hF
      have HF := Lib.hid hF
      clear hq hF
      go_wp2_with fail
      go_loopw [9] (fun t wr => ∃ k : Nat, k ≤ got.length ∧ t = .int .i64 k ∧ Below w4.heap.size w4 wr ∧ ∀ j, j < k → ∀ s, got[j]? = some s → fitP s = false) (fun t _ => got.length - (RowKit.intOf t).toNat)
      case atStart => exact ⟨0, Nat.zero_le _, rfl, Below.refl _ _, fun j hj => absurd hj (Nat.not_lt_zero _)⟩
      case round =>
        obtain ⟨k, hk, rfl, hb, hal⟩ := hrel
        have HB := Lib.hid hb
        have HAL := Lib.hid hal
        have HBR := Lib.hid (keep_below hb HBW.out)
        by_cases hlt : k < got.length
        · obtain ⟨s, hs⟩ : ∃ s, got[k]? = some s := ⟨_, List.getElem?_eq_getElem hlt⟩
          obtain ⟨b, oo, rfl, hbl, hcell⟩ := HS.out.cells (by omega)
          have f0 := keepc (keepc (hcell _ _ (strC_at hs)) HB4.out) hb
          have hd1 : decide (k < got.length) = true := decide_eq_true hlt
          have HX := Lib.hid hs
          have HLT := Lib.hid hlt
          clear hb hal hbl hcell hs
          by_cases hs0 : s = []
          · subst hs0
            go_wp2_with fail
            go_roundw
            case rel => exact ⟨k + 1, HLT.out, by go_num, HB.out, fun j hj t ht => by
              rcases Nat.lt_or_ge j k with h | h
              · exact HAL.out j h t ht
              · obtain rfl : j = k := by omega
                rw [HX.out] at ht
                cases ht
                rfl⟩
            case measure => have := HLT.out; simp [RowKit.intOf]; omega
          · have hs1 : ((s.length : Int) != 0) = true := by have := List.length_pos_iff.2 hs0; rw [bne_iff_ne]; omega
            have hse : s.isEmpty = false := by simpa using hs0
            cases hs2 : ((s.length : Int) != 64) with
            | true =>
              have HR : Hid (fitsB gs secs pg pa size got = false) := Lib.hid (by
                rw [HF.out, Bool.not_eq_false', List.any_eq_true]
                exact ⟨s, List.mem_of_getElem? HX.out, by unfold fitP; rw [hse, hs2]; rfl⟩)
              clear hs0 hse
              go_wp2_with fail
              go_ret
              exact ⟨by rw [HR.out]; rfl, HBR.out⟩
            | false =>
              have HP : Hid (fitP s = false) := Lib.hid (by unfold fitP; rw [hse, hs2]; rfl)
              clear hs0 hse
              go_wp2_with fail
              go_roundw
              case rel => exact ⟨k + 1, HLT.out, by go_num, HB.out, fun j hj t ht => by
                rcases Nat.lt_or_ge j k with h | h
                · exact HAL.out j h t ht
                · obtain rfl : j = k := by omega
                  rw [HX.out] at ht
                  cases ht
                  exact HP.out⟩
              case measure => have := HLT.out; simp [RowKit.intOf]; omega
        · obtain rfl : k = got.length := by omega
          have hd1 : decide (got.length < got.length) = false := decide_eq_false (by omega)
          have HR : Hid (fitsB gs secs pg pa size got = true) := Lib.hid (by rw [HF.out]; exact fits_loop hal)
          clear hb hal
          go_wp2_with fail
          go_ret
          exact ⟨by rw [HR.out]; rfl, HBR.out⟩
    · have hd : ((got.length : Int) != ln) = true := by rw [bne_iff_ne]; omega
      have HF : Hid (fitsB gs secs pg pa size got = false) := Lib.hid (by rw [hF, beq_eq_false_iff_ne.2 hq]; rfl)
      clear hq hF
      go_wp2_with fail
      go_ret
      exact ⟨by rw [HF.out]; rfl, HBW.out⟩
/-- Does a column belong to the run behind a parity? -/
def runC (S : List (Bool × Int)) (i k : Nat) : Bool := match S[i + 1 + k]?, S[i]? with
  | some y, some x => y.2 == x.2 && !y.1
  | _, _ => false
def runLen (S : List (Bool × Int)) (i : Nat) : Nat := ((List.range 9).takeWhile (runC S i)).length
def rowS' (S : List (Bool × Int)) (r : Int) : List Nat := (List.range S.length).filter fun j => match S[j]? with
  | some y => y.2 == r && !y.1
  | none => false
theorem run_ok : ∀ w ∈ List.range 9, ∀ s ∈ List.range 5, 3 ≤ w → 0 < s → ((List.range 9).all fun i => match ((parTo 0 w 0 s).map (·.2.2))[i]? with
    | some x => !x.1 || (decide (0 < runLen ((parTo 0 w 0 s).map (·.2.2)) i) && (rowS' ((parTo 0 w 0 s).map (·.2.2)) x.2 == (List.range (runLen ((parTo 0 w 0 s).map (·.2.2)) i)).map (fun k => i + 1 + k)) && (List.range (runLen ((parTo 0 w 0 s).map (·.2.2)) i)).all (runC ((parTo 0 w 0 s).map (·.2.2)) i) && !runC ((parTo 0 w 0 s).map (·.2.2)) i (runLen ((parTo 0 w 0 s).map (·.2.2)) i))
    | none => true) = true := by decide +kernel
/-- The data behind a parity. -/
theorem run_of {gs : List (Int × Int)} {secs pg pa size : Int} (h : cMay gs secs pg pa size = true) (hk : (grAt gs pg).1 ≠ 0) {i : Nat} (hi : i < (colsOf gs secs pg pa size).length) (hp : ((colsOf gs secs pg pa size).getD i (0, 0, false, 0)).2.2.1 = true) :
    ∃ m : Nat, 0 < m ∧ rowIx (colsOf gs secs pg pa size) ((colsOf gs secs pg pa size).getD i (0, 0, false, 0)).2.2.2 = (List.range m).map (fun k => i + 1 + k) ∧
      (∀ k, k < m → i + 1 + k < (colsOf gs secs pg pa size).length ∧ ((colsOf gs secs pg pa size).getD (i + 1 + k) (0, 0, false, 0)).2.2.2 = ((colsOf gs secs pg pa size).getD i (0, 0, false, 0)).2.2.2 ∧ ((colsOf gs secs pg pa size).getD (i + 1 + k) (0, 0, false, 0)).2.2.1 = false) ∧
      (i + 1 + m < (colsOf gs secs pg pa size).length → ¬ (((colsOf gs secs pg pa size).getD (i + 1 + m) (0, 0, false, 0)).2.2.2 = ((colsOf gs secs pg pa size).getD i (0, 0, false, 0)).2.2.2 ∧ ((colsOf gs secs pg pa size).getD (i + 1 + m) (0, 0, false, 0)).2.2.1 = false)) := by
  obtain ⟨hhas, hz1, hz2, hp1, hp2, _⟩ := cMay_true h
  obtain ⟨sz, rfl⟩ := Int.eq_ofNat_of_zero_le (show 0 ≤ size by omega)
  obtain ⟨g, x, rfl, _, hl4, hs1, hs2, hx, hgx, ho⟩ := gHas_true hhas
  obtain ⟨kd, wd⟩ := x
  rw [hgx] at hk
  have ho' := gOne_true ho
  simp only at ho' hk
  obtain ⟨w, rfl⟩ := Int.eq_ofNat_of_zero_le (show 0 ≤ wd by omega)
  rcases ho' with ⟨rfl, _, _⟩ | ⟨rfl, h1, h2⟩
  · exact absurd rfl hk
  have hL : colsOf gs secs g pa sz = parTo (gFirst gs secs g) w pa sz := by unfold colsOf; rw [hgx]; rfl
  rw [hL] at hi hp ⊢
  have hlen := parTo_len (gFirst gs secs g) w pa sz
  have hsh := parTo_shape (gFirst gs secs g) w pa sz
  have key := run_ok w (by simp; omega) sz (by simp; omega) (by omega) (by omega)
  rw [← hsh] at key
  generalize parTo (gFirst gs secs g) w pa sz = L at *
  have hat : ∀ j, j < L.length → (L.map (·.2.2))[j]? = some (L.getD j (0, 0, false, 0)).2.2 := fun j hj => by rw [List.getElem?_map, colD_in hj]; rfl
  have hrow : ∀ r, rowS' (L.map (·.2.2)) r = rowIx L r := fun r => by
    unfold rowS' rowIx
    rw [List.length_map]
    apply List.filter_congr
    intro j hj
    have hj := List.mem_range.1 hj
    rw [hat j hj, colD_in hj]
    simp only
    congr 1
  have k1 := List.all_eq_true.1 key i (List.mem_range.2 (by omega))
  rw [hat i hi] at k1
  simp only [hp, Bool.not_true, Bool.false_or, Bool.and_eq_true, decide_eq_true_eq, beq_iff_eq, List.all_eq_true, Bool.not_eq_true', hrow] at k1
  obtain ⟨⟨⟨a1, a2⟩, a3⟩, a4⟩ := k1
  refine ⟨_, a1, a2, fun k hk2 => ?_, fun hlt hcon => ?_⟩
  · have := a3 k (List.mem_range.2 hk2)
    unfold runC at this
    rw [hat i hi] at this
    by_cases hl : i + 1 + k < L.length
    · rw [hat _ hl] at this
      simp only [Bool.and_eq_true, beq_iff_eq, Bool.not_eq_true'] at this
      exact ⟨hl, this.1, this.2⟩
    · rw [List.getElem?_eq_none (by rw [List.length_map]; omega)] at this
      cases this
  · unfold runC at a4
    rw [hat i hi, hat _ hlt] at a4
    simp only [Bool.and_eq_false_imp, beq_iff_eq, Bool.not_eq_false'] at a4
    have := a4 hcon.1
    rw [hcon.2] at this
    cases this
end Go.Proofs.Ytefhmemmfajbfaa
