/-
  polderref06.Of: the columns of a block, as the reference counts them.
  Contracts for VdevPlays: Here, the zero Devs; the document's Text, Failed, Lost.
-/
import Derived.Test.YtbhkbcpljakmjaaGreatJ23
import Derived.Test.YtbhkbcpljakmjaaGreatJ12
import Derived.Deep.RegionHeldLaw
import Derived.Test.YtbhkbcpljakmjaaGreatJ19
import Derived.Test.YtbhkbcpljakmjaaGreatJ15
namespace Go.Proofs.YtbhkbcpljakmjaaGreat
set_option linter.unusedVariables false
set_option linter.unusedSimpArgs false
open Go.RowKit
def layC (first wide at_ : Int) : Nat → List (Bool × Int) → List Col
 | _, [] => []
 | j, c :: r => pcol first wide at_ j c.1 c.2 :: layC first wide at_ (j + 1) r
theorem layC_snoc (first wide at_ : Int) (c : Bool × Int) : ∀ (S : List (Bool × Int)) (j : Nat), layC first wide at_ j (S ++ [c]) = layC first wide at_ j S ++ [pcol first wide at_ (j + S.length) c.1 c.2]
 | [], j => by simp [layC]
 | d :: S, j => by
   simp only [List.cons_append, layC, layC_snoc first wide at_ c S (j + 1), List.length_cons]
   rw [show j + 1 + S.length = j + (S.length + 1) by omega]
theorem layC_len (first wide at_ : Int) : ∀ (S : List (Bool × Int)) (j : Nat), (layC first wide at_ j S).length = S.length
 | [], _ => rfl
 | _ :: S, j => by simp [layC, layC_len first wide at_ S (j + 1)]
theorem layC_get (first wide at_ : Int) : ∀ (S : List (Bool × Int)) (j k : Nat), (layC first wide at_ j S)[k]? = (S[k]?).map fun c => pcol first wide at_ (j + k) c.1 c.2
 | [], _, _ => by simp [layC]
 | c :: S, j, 0 => by simp [layC]
 | c :: S, j, k + 1 => by
   simp only [layC, List.getElem?_cons_succ, layC_get first wide at_ S (j + 1) k]
   rw [show j + 1 + k = j + (k + 1) by omega]
theorem parTo_layC (first wide at_ : Int) (n : Nat) : parTo first wide at_ n = layC first wide at_ 0 ((parTo 0 wide 0 n).map (·.2.2)) := by
 apply List.ext_getElem?
 intro k
 rw [layC_get, ← parTo_shape first wide at_ n, List.getElem?_map]
 cases h : (parTo first wide at_ n)[k]? with
 | none => rfl
 | some x =>
  obtain ⟨p, r, e⟩ := parTo_get _ _ _ _ _ _ h
  simp only [Option.map_some, Nat.zero_add]
  rw [e]
  rfl
def rowS (n : Nat) (r : Int) (k : Nat) : List (Bool × Int) := ((true, r) :: List.replicate n (false, r)).take k
theorem rowS_step {n k : Nat} (r : Int) (h : k ≤ n) : rowS n r (k + 1) = rowS n r k ++ [(((k : Int) == 0), r)] := by
 unfold rowS
 rw [List.take_add_one]
 congr 1
 cases k with
 | zero => rfl
 | succ k =>
  have h0 : ((((k + 1 : Nat) : Int)) == 0) = false := by simp; omega
  rw [h0]
  simp [List.getElem?_replicate]; omega
theorem rowS_len {n k : Nat} (r : Int) (h : k ≤ n + 1) : (rowS n r k).length = k := by
 unfold rowS; rw [List.length_take]; simp; omega
def refS (wide : Nat) : Nat → Nat → Int → List (Bool × Int)
 | 0, _, _ => []
 | f + 1, s, r => if s = 0 then [] else rowS (min s (wide - 1)) r (min s (wide - 1) + 1) ++ refS wide f (s - min s (wide - 1)) (r + 1)
theorem refS_zero (wide f : Nat) (r : Int) : refS wide f 0 r = [] := by cases f <;> simp [refS]
theorem refS_ok : ∀ w ∈ List.range 9, 3 ≤ w → ∀ s ∈ List.range 5, refS w s s 0 = (parTo 0 w 0 s).map (·.2.2) := by decide +kernel
set_option maxRecDepth 100000 in
set_option maxHeartbeats 8000000 in
theorem refOf_any (A : Option Addr) (n c : Nat) (gs : List (Int × Int)) (secs pg pa size : Int) (w : World) (hg : GeoAt w A n gs) (hp : cMay gs secs pg pa size = true) :
 Calls Tryz.prog 23 #[.agg #[.slice A n c, .int .i64 secs], .agg #[.int .i64 pg, .int .i64 pa], .int .i64 size] w fun e w' =>
  ∃ v, e = .returned v ∧ w'.ownsRow w.heap.size 71 4 v (colsOf gs secs pg pa size).length (colsCells (colsOf gs secs pg pa size)) ∧ Below w.heap.size w w' := by
 have hb0 : Below w.heap.size w ((w.alloc (Obj.cells #[Value.slice A n c, Value.int IntKind.i64 secs] 24)).alloc (Obj.cells #[Value.int IntKind.i64 pg, Value.int IntKind.i64 pa] 26)) :=
  ((Below.refl _ _).alloc (Nat.le_refl _) _).alloc (by simp) _
 obtain ⟨i0, hi, hz0, hz1, hz2⟩ := info_parts Tryz.infoCol
 obtain ⟨hhas, hzz1, hzz2, hp1, hp2, _⟩ := cMay_true hp
 have hS := gSectors_bd gs secs pg
 have hT := gTakes_bd gs secs pg size
 have hp3 : pa ≤ 100000 := by omega
 obtain ⟨k, x, rfl, hk, hl4, hs1, hs2, hx, hgx, ho⟩ := gHas_true hhas
 have H2 : Hid (∀ w1, Below w.heap.size w w1 → Calls Tryz.prog 15 #[.agg #[.slice A n c, .int .i64 secs], .int .i64 k] w1 fun e w' => e = .returned (.int .i64 (gFirst gs secs k)) ∧ Below w1.heap.size w1 w') :=
  Lib.hid fun w1 hb => refFirst_any A n c gs secs k w1 (hg.below hb (Nat.le_refl _)) hhas
 have hfirst : 0 ≤ gFirst gs secs k ∧ gFirst gs secs k ≤ 100 := by
  unfold gFirst; rw [hhas]
  have hr : gRight gs secs = true := by simp only [gHas, Bool.and_eq_true] at hhas; exact hhas.1.1
  have := sum_take_bd hr (k : Int).toNat
  simp only [if_true]; omega
 obtain ⟨hF0, hF1⟩ := hfirst
 have HC : Hid (colsOf gs secs k pa size = if x.1 == 0 then mirror (gFirst gs secs k) pa x.2.toNat size.toNat else parTo (gFirst gs secs k) x.2 pa size.toNat) := by
  unfold Hid colsOf; rw [hgx]
 obtain ⟨b, off, rfl, hgs⟩ := hg.2.2 (by have := hg.1; omega)
 have hkn : (k : Int) < n := by have := hg.1; omega
 have hkn0 : (0 : Int) ≤ k := by omega
 have ho' := gOne_true ho
 have HX := Lib.hid hx
 obtain ⟨kd, wd⟩ := x
 obtain ⟨sz, rfl⟩ := Int.eq_ofNat_of_zero_le (show 0 ≤ size by omega)
 obtain ⟨wn, rfl⟩ := Int.eq_ofNat_of_zero_le (show 0 ≤ wd by simp only at ho'; omega)
 simp only [Int.toNat_natCast] at HC
 have hsz4 : sz ≤ 4 := by omega
 have hwn8 : wn ≤ 8 := by simp only at ho'; omega
 clear hx hgx ho hp hhas hS hT hp2 hg
 generalize gFirst gs secs k = F at *
 generalize colsOf gs secs k pa sz = L at *
 have z1 := fun X Y => cell_alloc (cell_alloc (hgs.2 k _ HX.out).1 X) Y
 have z2 := fun X Y => cell_alloc (cell_alloc (hgs.2 k _ HX.out).2 X) Y
 go_enter Tryz.func23, Tryz.ntmps23
 go_wp2_with fail
 have x1 := cell_new (W := ((w.alloc (Obj.cells #[Value.slice (some ⟨b, off, none⟩) n c, Value.int IntKind.i64 secs] 24)).alloc (Obj.cells #[Value.int IntKind.i64 k, Value.int IntKind.i64 pa] 26))) (k := w.heap.size + 2) (o := 0) (cs := #[.int .i64 kd, .int .i64 wn]) (t := 53) (by simp) rfl
 have x2 := cell_new (W := ((w.alloc (Obj.cells #[Value.slice (some ⟨b, off, none⟩) n c, Value.int IntKind.i64 secs] 24)).alloc (Obj.cells #[Value.int IntKind.i64 k, Value.int IntKind.i64 pa] 26))) (k := w.heap.size + 2) (o := 1) (cs := #[.int .i64 kd, .int .i64 wn]) (t := 53) (by simp) rfl
 have y4 := cell_alloc (cell_new (W := w.alloc (Obj.cells #[Value.slice (some ⟨b, off, none⟩) n c, Value.int IntKind.i64 secs] 24)) (k := w.heap.size + 1) (o := 1) (cs := #[.int .i64 k, .int .i64 pa]) (t := 26) (by simp) rfl) (.cells #[.int .i64 kd, .int .i64 wn] 53)
 have hb1 := hb0.alloc hb0.size (.cells #[.int .i64 kd, .int .i64 wn] 53)
 have hs1 : w.heap.size + 3 ≤ (((w.alloc (Obj.cells #[Value.slice (some ⟨b, off, none⟩) n c, Value.int IntKind.i64 secs] 24)).alloc (Obj.cells #[Value.int IntKind.i64 k, Value.int IntKind.i64 pa] 26)).alloc (.cells #[.int .i64 kd, .int .i64 wn] 53)).heap.size := by simp
 refine (H2.out _ hb1).mono ?_
 rintro e w3 ⟨rfl, hb3⟩
 have m1 := keep_cell hb3 x1 (by omega)
 have m2 := keep_cell hb3 x2 (by omega)
 have m4 := keep_cell hb3 y4 (by omega)
 have hs3 := keep_size hb3 hs1
 have hb4 := hb1.trans (hb3.mono hb1.size)
 clear x1 x2 y4 z1 z2 hb0 hb1 hb3 hs1 hgs
 rcases ho' with ⟨e, hw1, hw2⟩ | ⟨e, hw1, hw2⟩
 · subst e
   have HCL : Hid (L = mirror F pa wn sz) := by unfold Hid; rw [HC.out]; rfl
   clear HC
   go_wp2_with fail
   go_loopw [7, 10] (fun v t wr => ∃ d : Nat, d ≤ wn ∧ t = .int .i64 d ∧ wr.ownsRow w3.heap.size 71 4 v (mirTo F pa sz d 0).length (colsCells (mirTo F pa sz d 0)) ∧ Below w3.heap.size w3 wr)
    (fun _ t _ => wn - (RowKit.intOf t).toNat)
   case atStart => exact ⟨0, Nat.zero_le _, rfl, World.ownsRow_nil _ _ _ _, Below.refl _ _⟩
   case round =>
    obtain ⟨d, hd, rfl, hown, hb⟩ := hrel
    obtain ⟨wo, rfl⟩ : ∃ wo : World, wo = wr := ⟨_, rfl⟩
    have n2 := keep_cell hb m2 (by omega)
    by_cases hlt : d < wn
    · go_wp2_with fail
      go_loopw [7, 11] (fun v t wr => ∃ i : Nat, i ≤ sz ∧ t = .int .i64 i ∧ wr.ownsRow w3.heap.size 71 4 v (mirTo F pa sz d i).length (colsCells (mirTo F pa sz d i)) ∧ Below w3.heap.size w3 wr)
       (fun _ t _ => sz - (RowKit.intOf t).toNat)
      case atStart => exact ⟨0, Nat.zero_le _, rfl, hown, hb⟩
      case round =>
       obtain ⟨i, hi', rfl, hown1, hb1⟩ := hrel
       clear hown hb n2
       have n4 := keep_cell hb1 m4 (by omega)
       by_cases hlt2 : i < sz
       · have hlen := Lib.hid (mirTo_len F pa sz d i)
         have hlb : (mirTo F pa sz d i).length ≤ 64 := by
          rw [hlen.out]
          have : d * sz ≤ 8 * 4 := Nat.mul_le_mul (by omega) (by omega)
          omega
         go_wp2_with (at_builtin; refine wpList_append_own _ rfl _ _ 66 rfl w3.heap.size 71 i0 _ 4 32 Tryz.underlying66 hi hz0 hz1 hz2 rfl (by decide) _ _ _ rfl (hown1.alloc _) ⟨wr.heap.size, 0, none⟩ 1 1 (colCells (mcol F pa d i)) rfl rfl ?c1 (col_one _) (by unfold maxLen; omega) (by omega) ?c5 ?_)
         case c1 => exact col_new _ _ _
         case c5 => have := hb1.size; simp; omega
         intro v' w5 hown' hgrow _
         rw [← colsCells_snoc, ← mirTo_step, show (mirTo F pa sz d i).length + 1 = (mirTo F pa sz d (i + 1)).length from by rw [mirTo_len, mirTo_len]; omega] at hown'
         have hb2 : Below w3.heap.size w3 w5 := (hb1.alloc hb1.size _).grown hgrow (by have := hb1.size; simp; omega) (fun k hk => (hown1.lt k hk).1)
         clear hown1 hgrow
         go_wp2_with fail
         go_roundw
         case rel => exact ⟨i + 1, by omega, by go_num, hown', hb2⟩
         case measure => simp [RowKit.intOf]; omega
       · obtain rfl : i = sz := by omega
         rw [← mirTo_row] at hown1
         go_wp2_with fail
         go_roundw
         case rel => exact ⟨d + 1, by omega, by go_num, hown1, hb1⟩
         case measure => simp [RowKit.intOf]; omega
    · obtain rfl : d = wn := by omega
      go_wp2_with fail
      go_ret
      rw [HCL.out]
      exact ⟨_, rfl, own_mono hown hb4.size, hb4.trans (hb.mono hb4.size)⟩
 · subst e
   have HCL : Hid (L = parTo F wn pa sz) := by unfold Hid; rw [HC.out]; rfl
   clear HC
   have hSl : (refS wn sz sz 0).length ≤ 8 := by
    rw [refS_ok wn (by simp; omega) (by omega) sz (by simp; omega), List.length_map]
    have := parTo_len 0 wn 0 sz
    omega
   have HSS : Hid (layC F wn pa 0 (refS wn sz sz 0) = L) := by
    unfold Hid
    rw [HCL.out, parTo_layC, refS_ok wn (by simp; omega) (by omega) sz (by simp; omega)]
   generalize hS0 : refS wn sz sz 0 = S at *
   have HS0 := Lib.hid hS0
   clear hS0
   go_wp2_with fail
   go_loopw [2, 7, 12, 13] (fun s' v a r wr => ∃ (f t rr : Nat) (D : List (Bool × Int)), t ≤ f ∧ f ≤ 4 ∧ s' = .int .i64 t ∧ r = .int .i64 rr ∧ a = .int .i64 (pa + (D.length : Int)) ∧ D ++ refS wn f t rr = S ∧ rr ≤ D.length ∧
    wr.ownsRow w3.heap.size 71 4 v (layC F wn pa 0 D).length (colsCells (layC F wn pa 0 D)) ∧ Below w3.heap.size w3 wr) (fun s' _ _ _ _ => (RowKit.intOf s').toNat)
   case atStart => exact ⟨sz, sz, 0, [], Nat.le_refl _, by omega, rfl, rfl, by simp, by rw [List.nil_append]; exact HS0.out, Nat.le_refl _, World.ownsRow_nil _ _ _ _, Below.refl _ _⟩
   case round =>
    obtain ⟨f, t, rr, D, htf, hf4, rfl, rfl, rfl, hD, hrD, hown, hb⟩ := hrel
    obtain ⟨wo, rfl⟩ : ∃ wo : World, wo = wr := ⟨_, rfl⟩
    have hDl : D.length ≤ 8 := by rw [← hD, List.length_append] at hSl; omega
    have n2 := keep_cell hb m2 (by omega)
    rcases Nat.eq_zero_or_pos t with ht0 | ht0
    · subst ht0
      rw [refS_zero, List.append_nil] at hD
      subst hD
      go_wp2_with fail
      go_ret
      rw [← HSS.out]
      exact ⟨_, rfl, own_mono hown hb4.size, hb4.trans (hb.mono hb4.size)⟩
    · obtain ⟨f, rfl⟩ : ∃ f', f = f' + 1 := ⟨f - 1, by omega⟩
      rw [refS, if_neg (by omega)] at hD
      obtain ⟨m, hm⟩ : ∃ m, m = min t (wn - 1) := ⟨_, rfl⟩
      rw [← hm] at hD
      have hcas : ((wn : Int) - 1 < (t : Int) ∧ (m : Int) ≤ wn - 1 ∧ (wn : Int) - 1 ≤ m) ∨ ((t : Int) ≤ (wn : Int) - 1 ∧ (m : Int) ≤ t ∧ (t : Int) ≤ m) := by omega
      have hm1 : 1 ≤ m := by omega
      have hm2 : m ≤ t := by omega
      have HD := Lib.hid hD
      have hDS := congrArg List.length hD
      rw [List.length_append, List.length_append, rowS_len _ (Nat.le_refl _)] at hDS
      have hDm : D.length + m + 1 ≤ 8 := by omega
      have ht1 : (0 : Int) < (t : Int) := by omega
      clear hD hm hDS
      rcases hcas with ⟨hc1, hc2, hc3⟩ | ⟨hc1, hc2, hc3⟩
      all_goals
       go_wp2_with fail
       go_loopw [7, 12, 15] (fun v a kk wr => ∃ k : Nat, k ≤ m + 1 ∧ kk = .int .i64 k ∧ a = .int .i64 (pa + ((D.length : Int) + k)) ∧
        wr.ownsRow w3.heap.size 71 4 v (layC F wn pa 0 (D ++ rowS m rr k)).length (colsCells (layC F wn pa 0 (D ++ rowS m rr k))) ∧ Below w3.heap.size w3 wr) (fun _ _ kk _ => m + 1 - (RowKit.intOf kk).toNat)
       case atStart => exact ⟨0, Nat.zero_le _, rfl, by simp, by rw [show rowS m (rr : Int) 0 = [] from rfl, List.append_nil]; exact hown, hb⟩
       case round =>
        obtain ⟨k, hk, rfl, rfl, hown1, hb1⟩ := hrel
        clear hown hb n2
        have n4 := keep_cell hb1 m2 (by omega)
        by_cases hlt : k ≤ m
        · have hX0 : 0 ≤ pa + ((D.length : Int) + k) := by omega
          have hX1 : pa + ((D.length : Int) + k) ≤ 100100 := by omega
          have HV : Hid (pcol F wn pa (D.length + k) ((k : Int) == 0) rr = (F + (pa + ((D.length : Int) + k)) % wn, 16 + (pa + ((D.length : Int) + k)) / wn, ((k : Int) == 0), (rr : Int))) := by
           unfold Hid pcol; rw [Int.natCast_add]
          have HST := Lib.hid (rowS_step (n := m) (k := k) (rr : Int) hlt)
          have hDk : (D ++ rowS m rr k).length = D.length + k := by rw [List.length_append, rowS_len _ (by omega)]
          have hlay : layC F wn pa 0 (D ++ rowS m rr (k + 1)) = layC F wn pa 0 (D ++ rowS m rr k) ++ [pcol F wn pa (D.length + k) ((k : Int) == 0) rr] := by
           rw [HST.out, ← List.append_assoc, layC_snoc, hDk, Nat.zero_add]
          have HLY := Lib.hid hlay
          have hll : (layC F wn pa 0 (D ++ rowS m rr k)).length = D.length + k := by rw [layC_len, hDk]
          have HLL := Lib.hid hll
          have hl8 : (layC F wn pa 0 (D ++ rowS m rr k)).length ≤ 8 := by omega
          have r1 : 0 ≤ (pa + ((D.length : Int) + k)) % wn := Int.emod_nonneg _ (by omega)
          have r2 : (pa + ((D.length : Int) + k)) % wn < wn := Int.emod_lt_of_pos _ (by omega)
          have q1 : 0 ≤ (pa + ((D.length : Int) + k)) / wn := Int.ediv_nonneg (by omega) (by omega)
          have q2 : (pa + ((D.length : Int) + k)) / wn ≤ pa + ((D.length : Int) + k) := Int.ediv_le_self _ (by omega)
          have e0 : ¬ (wn : Int) = 0 := by omega
          have e1 : (pa + ((D.length : Int) + k)).tmod wn = (pa + ((D.length : Int) + k)) % wn := Int.tmod_eq_emod_of_nonneg (by omega)
          have e4 : (pa + ((D.length : Int) + k)).tdiv wn = (pa + ((D.length : Int) + k)) / wn := Int.tdiv_eq_ediv_of_nonneg (by omega)
          have e2 : IntKind.i64.wrap ((pa + ((D.length : Int) + k)) % wn) = (pa + ((D.length : Int) + k)) % wn := by rw [IntKind.wrap_i64]; omega
          have e5 : IntKind.i64.wrap ((pa + ((D.length : Int) + k)) / wn) = (pa + ((D.length : Int) + k)) / wn := by rw [IntKind.wrap_i64]; omega
          have e3 : IntKind.i64.wrap (F + (pa + ((D.length : Int) + k)) % wn) = F + (pa + ((D.length : Int) + k)) % wn := by rw [IntKind.wrap_i64]; omega
          have e6 : IntKind.i64.wrap (16 + (pa + ((D.length : Int) + k)) / wn) = 16 + (pa + ((D.length : Int) + k)) / wn := by rw [IntKind.wrap_i64]; omega
          clear hlay hll hDk r1 r2 q1 q2
          go_wp2_with fail
          have F1 := Lib.hid hb1
          have F2 := Lib.hid hl8
          have n5 : wr.cell? ⟨w.heap.size + 1 + 1, 1, none⟩ = some (.int .i64 wn) := n4
          clear n4 hX0 hX1 hl8
          go_region_held_law (fun W => W.cell? ⟨w.heap.size + 1 + 1, 1, none⟩ = some (.int .i64 wn))
           (first | exact n5 | exact cell_alloc (by assumption) _ | exact g2 | assumption)
           ((refine step_append_lies _ (by rfl) (.tmp 70) (.tmp 86) 66 (by rfl) w3.heap.size 71 i0 _ 4 32 Tryz.underlying66 hi hz0 hz1 hz2 rfl (by decide) _ _ _ (by rfl) (hown1.alloc _) ⟨wr.heap.size, 0, none⟩ 1 1 (colCells (pcol F wn pa (D.length + k) ((k : Int) == 0) rr)) (by rfl) rfl (by rw [HV.out]; exact col_new wr (_, _, _, _) _) (col_one _) (by decide) (by have := F2.out; unfold maxLen; omega) (by have := F2.out; omega) (by have := F1.out.size; simp; omega) _ rfl ?_; intro g cap w5 hown' hgrow hat hlt; have hbw : Below w3.heap.size w3 w5 := (((F1.out).drew).alloc F1.out.size _).grown hgrow (by have := F1.out.size; simp; omega) (fun k hk => (hown1.lt k hk).1); have g2 := keep_cell hbw m2 (by omega)))
          all_goals
           have hown2 : w5.ownsRow w3.heap.size 71 4 (.slice (some ⟨g, 0, none⟩) ((layC F wn pa 0 (D ++ rowS m rr k)).length + 1) cap) (layC F wn pa 0 (D ++ rowS m rr (k + 1))).length (colsCells (layC F wn pa 0 (D ++ rowS m rr (k + 1)))) := by
            rw [HLY.out, colsCells_snoc, List.length_append]; exact hown'
           clear hown' hgrow hat hlt hown1
           go_wp2_with fail
           go_roundw
           case rel => exact ⟨k + 1, by omega, by go_num, by first | rfl | (congr 1; done) | (congr 1; omega), hown2, hbw⟩
           case measure => first | (simp [RowKit.intOf]; done) | (simp [RowKit.intOf]; omega)
        · obtain rfl : k = m + 1 := by omega
          go_wp2_with fail
          go_roundw
          case rel =>
           refine ⟨f, t - m, rr + 1, D ++ rowS m rr (m + 1), by omega, by omega, by congr 1; omega, by go_num, ?_, ?_, ?_, hown1, hb1⟩
           · rw [List.length_append, rowS_len _ (Nat.le_refl _)]; congr 1
           · rw [List.append_assoc]; exact HD.out
           · rw [List.length_append, rowS_len _ (Nat.le_refl _)]; omega
          case measure => first | (simp [RowKit.intOf]; done) | (simp [RowKit.intOf]; omega)
end Go.Proofs.YtbhkbcpljakmjaaGreat

namespace Go.Proofs.YtbhkbcpljakmjaaGreat
set_option linter.unusedVariables false
set_option linter.unusedSimpArgs false
open Go.RowKit
theorem keepc {W W' : World} {b o : Nat} {v : Value} (h : W.cell? ⟨b, o, none⟩ = some v) (hb : Below W.heap.size W W') : W'.cell? ⟨b, o, none⟩ = some v :=
 (World.cell?_of_block (hb.block b (World.block_lt_of_cell? W _ h))).trans h
set_option maxRecDepth 20000 in
theorem vHere_any {w : World} {S : Nat → Nat → Prop} {U : Nat → Prop} {x : VX} {aw : List Bool} {ds : List DevD} (h : VdIn w S U x aw ds) (few : x.bd.length ≤ 1000) (d : Int) :
 Calls Tryz.prog 31 #[x.val, .int .i64 d] w fun e w' => e = .returned (.bool (decide (0 ≤ d) && (decide (d < x.bd.length) && hereD aw ds d.toNat))) ∧ Below w.heap.size w w' := by
 obtain ⟨w1, hw1⟩ : ∃ y, w.alloc (.cells x.cells 37) = y := ⟨_, rfl⟩
 have B1 : Blk w1 w.heap.size 37 x.cells := by rw [← hw1]; exact Blk.new _ _ _
 have D1 : Below w.heap.size w w1 := by rw [← hw1]; exact keep_alloc (Below.refl _ _) _
 have h1 := h.below D1
 have HR := Lib.hid (vright_any h1 few)
 have HB1 := Lib.hid B1
 have HD1 := Lib.hid D1
 have HW1 := Lib.hid hw1
 have HV := Lib.hid h1
 have x0 := B1.at_ (i := 0) (v := .slice (some ⟨x.gb, 0, none⟩) x.m x.cc) rfl
 have x1 := B1.at_ (i := 1) (v := .int .i64 x.secs) rfl
 have x2 := B1.at_ (i := 2) (v := .slice (some ⟨x.lb, 0, none⟩) x.bd.length x.lc) rfl
 have x3 := B1.at_ (i := 3) (v := .slice (some ⟨x.ab, 0, none⟩) x.bd.length x.bd.length) rfl
 clear h h1 B1 D1 hw1
 go_enter Tryz.func31, Tryz.ntmps31
 by_cases h0 : 0 ≤ d
 · have hd0 : decide (0 ≤ d) = true := decide_eq_true h0
   by_cases hl : d < x.bd.length
   · have hd1 : decide (d < (x.bd.length : Int)) = true := decide_eq_true hl
     obtain ⟨i, rfl⟩ := Int.eq_ofNat_of_zero_le h0
     have hil : i < x.bd.length := by omega
     have HH := Lib.hid (fun (W : World) (hb : Below w1.heap.size w1 W) => hereV_any (HV.out.below hb) hil)
     have hres : (decide ((0 : Int) ≤ (i : Int)) && (decide ((i : Int) < x.bd.length) && hereD aw ds (i : Int).toNat)) = hereD aw ds i := by rw [hd0, hd1, Int.toNat_natCast]; simp
     rw [hres]
     have hd2 : decide (i < x.bd.length) = true := decide_eq_true hil
     clear hres hl hd1 h0 hd0
     go_wp2_with fail
     rw [HW1.out]
     go_wp2_with fail
     refine HR.out.mono ?_
     rintro e w2 ⟨rfl, hb2⟩
     have HB2 := Lib.hid hb2
     have x0 := keepc x0 hb2
     have x1 := keepc x1 hb2
     have x2 := keepc x2 hb2
     have x3 := keepc x3 hb2
     clear hb2
     go_wp2_with fail
     refine (HH.out w2 HB2.out).mono ?_
     rintro e w3 ⟨rfl, hb3⟩
     have HB3 := Lib.hid (keep_below (keep_below hb3 HB2.out) HD1.out)
     clear hb3
     go_wp2_with fail
     go_ret
     exact ⟨rfl, HB3.out⟩
   · have hd1 : decide (d < (x.bd.length : Int)) = false := decide_eq_false hl
     have hres : (decide ((0 : Int) ≤ d) && (decide (d < x.bd.length) && hereD aw ds d.toNat)) = false := by rw [hd1]; simp
     rw [hres]
     clear hres hl h0
     go_wp2_with fail
     rw [HW1.out]
     go_wp2_with fail
     refine HR.out.mono ?_
     rintro e w2 ⟨rfl, hb2⟩
     have HB2 := Lib.hid (keep_below hb2 HD1.out)
     have x2 := keepc x2 hb2
     clear hb2
     go_wp2_with fail
     go_ret
     exact ⟨rfl, HB2.out⟩
 · have hd0 : decide (0 ≤ d) = false := decide_eq_false h0
   have hres : (decide ((0 : Int) ≤ d) && (decide (d < x.bd.length) && hereD aw ds d.toNat)) = false := by rw [hd0]; rfl
   rw [hres]
   clear hres h0
   go_wp2_with fail
   rw [HW1.out]
   go_wp2_with fail
   refine HR.out.mono ?_
   rintro e w2 ⟨rfl, hb2⟩
   have HB2 := Lib.hid (keep_below hb2 HD1.out)
   have x2 := keepc x2 hb2
   clear hb2
   go_wp2_with fail
   go_ret
   exact ⟨rfl, HB2.out⟩
end Go.Proofs.YtbhkbcpljakmjaaGreat
