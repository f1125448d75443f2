/-
  The statements' Devices: a measure's devices, some of them away, some lost.
  An argument that is a slice of Booleans, opened.
-/
import Derived.Test.YtlpbbjjibnbooaaGreatDoorJ10
import Derived.Test.YtlpbbjjibnbooaaGreatDoorJ01
import Derived.Deep.Grids
namespace Go.Proofs.YtlpbbjjibnbooaaGreatDoor
set_option linter.unusedVariables false
set_option linter.unusedSimpArgs false
open Go.RowKit

def boolC (l : List Bool) : List Value := l.map Value.bool
theorem boolC_at {l : List Bool} {i : Nat} {a : Bool} (h : l[i]? = some a) : (boolC l)[i]? = some (.bool a) := by simp [boolC, h]
def bAt (l : List Bool) (i : Nat) : Bool := l.getD i false
theorem bAt_in {l : List Bool} {i : Nat} (h : i < l.length) : l[i]? = some (bAt l i) := by
  unfold bAt
  rw [List.getD_eq_getElem?_getD, List.getElem?_eq_getElem h]
  rfl
theorem bAt_out {l : List Bool} {i : Nat} (h : ¬ i < l.length) : bAt l i = false := by
  unfold bAt
  rw [List.getD_eq_getElem?_getD, List.getElem?_eq_none (by omega)]
  rfl
/-- The devices, as far as k. -/
def awT (al : List Bool) (n k : Nat) : List Bool := (List.range n).map fun i => decide (i < k) && bAt al i
def lsT (ll : List Bool) (D : DevD) (n k : Nat) : List DevD := (List.range n).map fun i => if decide (i < k) && bAt ll i then D.lose else D
def hrT (al ll : List Bool) (k : Nat) : List Bool := (List.range k).map fun i => !bAt al i && !bAt ll i
section
variable {al ll : List Bool} {D : DevD} {n k : Nat}
theorem awT_zero : awT al n 0 = List.replicate n false := by simp [awT, List.map_const']
theorem lsT_zero : lsT ll D n 0 = List.replicate n D := by simp [lsT, List.map_const']
theorem awT_len : (awT al n k).length = n := by simp [awT]
theorem lsT_len : (lsT ll D n k).length = n := by simp [lsT]
theorem awT_at {i : Nat} (hi : i < n) : (awT al n k)[i]? = some (decide (i < k) && bAt al i) := by simp [awT, hi]
theorem lsT_at {i : Nat} (hi : i < n) : (lsT ll D n k)[i]? = some (if decide (i < k) && bAt ll i then D.lose else D) := by simp [lsT, hi]
theorem awT_step (hk : k < n) : awT al n (k + 1) = (awT al n k).set k (bAt al k) := by
  apply List.ext_getElem?
  intro i
  by_cases hi : i < n
  · rw [awT_at hi, List.getElem?_set, awT_len, awT_at hi]
    by_cases e : k = i
    · subst e; simp [hk]
    · rw [if_neg e, show decide (i < k + 1) = decide (i < k) from decide_eq_decide.2 (by omega)]
  · rw [List.getElem?_eq_none (by rw [awT_len]; omega), List.getElem?_eq_none (by rw [List.length_set, awT_len]; omega)]
theorem lsT_no (h : bAt ll k = false) : lsT ll D n (k + 1) = lsT ll D n k := by
  unfold lsT
  refine List.map_congr_left fun i _ => ?_
  by_cases e : i = k
  · subst e; simp [h]
  · rw [show decide (i < k + 1) = decide (i < k) from decide_eq_decide.2 (by omega)]
theorem lsT_yes (hk : k < n) (h : bAt ll k = true) : lsT ll D n (k + 1) = (lsT ll D n k).set k D.lose := by
  apply List.ext_getElem?
  intro i
  by_cases hi : i < n
  · rw [lsT_at hi, List.getElem?_set, lsT_len, lsT_at hi]
    by_cases e : k = i
    · subst e; simp [hk, h]
    · rw [if_neg e, show decide (i < k + 1) = decide (i < k) from decide_eq_decide.2 (by omega)]
  · rw [List.getElem?_eq_none (by rw [lsT_len]; omega), List.getElem?_eq_none (by rw [List.length_set, lsT_len]; omega)]
theorem hrT_step : hrT al ll (k + 1) = hrT al ll k ++ [!bAt al k && !bAt ll k] := by simp [hrT, List.range_succ]
end
theorem setS_same {S : Nat → Nat → Prop} {i : Nat} {w w' : World} (h : w'.heap.size = w.heap.size) : setS S i (more (S i) w w') = S := by
  funext j b
  unfold setS
  split
  · rename_i e
    subst e
    apply propext
    constructor
    · rintro (hb | ⟨h1, h2⟩)
      · exact hb
      · omega
    · exact fun hb => .inl hb
  · rfl
/-- One device has turned, in its own blocks. -/
theorem VdIn.step0 {w w' : World} {S : Nat → Nat → Prop} {U : Nat → Prop} {x : VX} {aw : List Bool} {ds : List DevD} (h : VdIn w S U x aw ds) {i b : Nat} {d : DevD} (hb : x.bd[i]? = some b) (ho : Only (S i) w w') (hs : w'.heap.size = w.heap.size) (hd : DevAt w' (S i) b d) (hl : d.med.length = x.secs) :
    VdIn w' S U x aw (ds.set i d) := by
  have := h.step hb ho (hd.more ho.size (fun b hb => h.lt i b hb)) hl
  rwa [setS_same hs] at this
set_option maxRecDepth 20000 in
theorem devices_bad {w : World} {A : Option Addr} {m c : Nat} {gs : List (Int × Int)} {secs : Int} (hg : GeoAt w A m gs) (hr : (gRight gs secs && decide (secs ≤ 200)) = false) (av lv : Value) :
    Calls Tryz.prog 12 #[.agg #[.slice A m c, .int .i64 secs], av, lv] w fun e w' => e = .returned (.tuple #[.agg vZ, .slice none 0 0, .bool false]) ∧ Below w.heap.size w w' := by
  obtain ⟨w2, hw2⟩ : ∃ z, (w.alloc (.cells #[.slice A m c, .int .i64 secs] 24)).alloc (.cells vZ 50) = z := ⟨_, rfl⟩
  have B1 : Blk w2 w.heap.size 24 #[.slice A m c, .int .i64 secs] := by rw [← hw2]; exact (Blk.new _ _ _).alloc _
  have B2 : Blk w2 (w.heap.size + 1) 50 vZ := by rw [← hw2]; exact Blk.new2 _ _ _ _
  have D2 : Below w.heap.size w w2 := by rw [← hw2]; exact keep_alloc (keep_alloc (Below.refl _ _) _) _
  have hm : gs.length = m := hg.1
  have HB2 := Lib.hid B2
  have HD2 := Lib.hid D2
  have HW2 := Lib.hid hw2
  have HG2 := Lib.hid (hg.below D2 (Nat.le_refl _))
  have g0 := B1.at_ (i := 0) (v := .slice A m c) rfl
  have g1 := B1.at_ (i := 1) (v := .int .i64 secs) rfl
  have HR := Lib.hid hr
  clear hg hr B1 B2 D2 hw2
  rw [← HW2.out] at g0 g1
  go_enter Tryz.func12, Tryz.ntmps12
  by_cases h1 : 100 < m
  · have hd1 : decide ((100 : Int) < m) = true := decide_eq_true (by omega)
    clear h1 HR
    go_wp2_with fail
    exact bodyPost_ret (v := .tuple #[.agg vZ, .slice none 0 0, .bool false]) (results_cell_two rfl _ _ (w.heap.size + 1) 50 vZ (0, 0) _ rfl (Blk.new2 w _ _ _) Tryz.underlying50 rfl (Tryz.infoDevs _ _ _ _) _ _ rfl rfl) rfl ⟨rfl, keep_alloc (keep_alloc (Below.refl _ _) _) _⟩
  · have hd1 : decide ((100 : Int) < m) = false := decide_eq_false (by omega)
    by_cases h2 : 200 < secs
    · have hd2 : decide ((200 : Int) < secs) = true := decide_eq_true h2
      clear h1 h2 HR
      go_wp2_with fail
      exact bodyPost_ret (v := .tuple #[.agg vZ, .slice none 0 0, .bool false]) (results_cell_two rfl _ _ (w.heap.size + 1) 50 vZ (0, 0) _ rfl (Blk.new2 w _ _ _) Tryz.underlying50 rfl (Tryz.infoDevs _ _ _ _) _ _ rfl rfl) rfl ⟨rfl, keep_alloc (keep_alloc (Below.refl _ _) _) _⟩
    · have hd2 : decide ((200 : Int) < secs) = false := decide_eq_false h2
      have hr : gRight gs secs = false := by
        have := HR.out
        rw [show decide (secs ≤ 200) = true from decide_eq_true (by omega), Bool.and_true] at this
        exact this
      have HN := Lib.hid (vnew_bad (c := c) HG2.out hr 0)
      clear h1 h2 HR hr
      go_wp2_with fail
      rw [HW2.out]
      refine HN.out.mono ?_
      rintro e w3 ⟨rfl, hb3⟩
      have z0 := ((HB2.out.below hb3 HB2.out.lt).alloc (.cells vZ 50)).at_ (i := 0) (v := .slice none 0 0) rfl
      have z1 := ((HB2.out.below hb3 HB2.out.lt).alloc (.cells vZ 50)).at_ (i := 1) (v := .int .i64 0) rfl
      have z2 := ((HB2.out.below hb3 HB2.out.lt).alloc (.cells vZ 50)).at_ (i := 2) (v := .slice none 0 0) rfl
      have z3 := ((HB2.out.below hb3 HB2.out.lt).alloc (.cells vZ 50)).at_ (i := 3) (v := .slice none 0 0) rfl
      have y0 := ((HB2.out.below hb3 HB2.out.lt).alloc (.cells vZ 50)).fr 0
      have y1 := ((HB2.out.below hb3 HB2.out.lt).alloc (.cells vZ 50)).fr 1
      have y2 := ((HB2.out.below hb3 HB2.out.lt).alloc (.cells vZ 50)).fr 2
      have y3 := ((HB2.out.below hb3 HB2.out.lt).alloc (.cells vZ 50)).fr 3
      have HX := Lib.hid ((((((HB2.out.below hb3 HB2.out.lt).alloc (.cells vZ 50)).put 0 (.slice none 0 0)).put 1 (.int .i64 0)).put 2 (.slice none 0 0)).put 3 (.slice none 0 0))
      have HBX := Lib.hid (below_set (below_set (below_set (below_set (keep_alloc (keep_below hb3 HD2.out) (.cells vZ 50)) (w.heap.size + 1) 0 (.slice none 0 0) (Nat.le_succ _)) (w.heap.size + 1) 1 (.int .i64 0) (Nat.le_succ _)) (w.heap.size + 1) 2 (.slice none 0 0) (Nat.le_succ _)) (w.heap.size + 1) 3 (.slice none 0 0) (Nat.le_succ _))
      go_wp2_with fail
      exact bodyPost_ret (v := .tuple #[.agg vZ, .slice none 0 0, .bool false]) (results_cell_two rfl _ _ (w.heap.size + 1) 50 vZ (0, 0) _ rfl HX.out Tryz.underlying50 rfl (Tryz.infoDevs _ _ _ _) _ _ rfl rfl) rfl ⟨rfl, HBX.out⟩
set_option maxRecDepth 20000 in
set_option maxHeartbeats 2000000 in
theorem devices_any2 {w : World} {A : Option Addr} {m c : Nat} {gs : List (Int × Int)} {secs : Nat} (hg : GeoAt w A m gs) (hr : gRight gs secs = true) (hsec : secs ≤ 200) {n : Nat} (hn : gSum gs = n) {av lv : Value} {al ll : List Bool} (ha : SlAt w av al.length (boolC al)) (hl : SlAt w lv ll.length (boolC ll)) :
    Calls Tryz.prog 12 #[.agg #[.slice A m c, .int .i64 secs], av, lv] w fun e w' => ∃ (y : VX) (S : Nat → Nat → Prop) (U : Nat → Prop) (hv : Value), e = .returned (.tuple #[y.val, hv, .bool true]) ∧ y.gs = gs ∧ y.secs = secs ∧ y.bd.length = n ∧
      VdIn w' S U y (awT al n n) (lsT ll (DevD.blank secs 0) n n) ∧ (∀ b, b < w.heap.size → U b) ∧ SlU w' U hv n (boolC (hrT al ll n)) ∧ (w.heap.size ≤ y.ab ∧ w.heap.size ≤ y.gb ∧ w.heap.size ≤ y.lb) ∧ Below w.heap.size w w' := by
  obtain ⟨w2, hw2⟩ : ∃ z, (w.alloc (.cells #[.slice A m c, .int .i64 secs] 24)).alloc (.cells vZ 50) = z := ⟨_, rfl⟩
  have B1 : Blk w2 w.heap.size 24 #[.slice A m c, .int .i64 secs] := by rw [← hw2]; exact (Blk.new _ _ _).alloc _
  have B2 : Blk w2 (w.heap.size + 1) 50 vZ := by rw [← hw2]; exact Blk.new2 _ _ _ _
  have D2 : Below w.heap.size w w2 := by rw [← hw2]; exact keep_alloc (keep_alloc (Below.refl _ _) _) _
  have hs2 : w2.heap.size = w.heap.size + 2 := by rw [← hw2]; simp
  obtain ⟨hl1, hl4, hs1, hs24, hone⟩ := gRight_parts hr
  have hnb : n ≤ 32 := by have := (gSum_bd (gs := gs) (fun x hx => by have := gOne_true (hone x hx); omega)).2; omega
  have hd1 : decide ((100 : Int) < m) = false := decide_eq_false (by have := hg.1; omega)
  have hd2 : decide ((200 : Int) < secs) = false := decide_eq_false (by omega)
  have HB2 := Lib.hid B2
  have HD2 := Lib.hid D2
  have HW2 := Lib.hid hw2
  have HS2 := Lib.hid hs2
  have HN := Lib.hid (vnew_any (c := c) (hg.below D2 (Nat.le_refl _)) hr 0 hn)
  have HAL := Lib.hid ha
  have HLL := Lib.hid hl
  have g0 := B1.at_ (i := 0) (v := .slice A m c) rfl
  have g1 := B1.at_ (i := 1) (v := .int .i64 secs) rfl
  have HNB := Lib.hid hnb
  have HP := Lib.hid (And.intro hr hn)
  obtain ⟨Aa, ca, rfl⟩ := ha.form
  obtain ⟨Al, cl, rfl⟩ := hl.form
  clear hg hr B1 B2 D2 hw2 hs2 hone hl1 hl4 hs1 hs24 ha hl hn
  rw [← HW2.out] at g0 g1
  go_enter Tryz.func12, Tryz.ntmps12
  go_wp2_with fail
  rw [HW2.out]
  refine HN.out.mono ?_
  rintro e w3 ⟨y, S, rfl, hys, hysec, hyn, hV, q1, q2, q3, hb3⟩
  subst hys
  subst hysec
  subst hyn
  clear g0 g1 HN
  have x0 : (w3.alloc (.cells y.cells 50)).cell? ⟨w3.heap.size, 2, none⟩ = some (.slice (some ⟨y.lb, 0, none⟩) y.bd.length y.lc) := (Blk.new _ _ _).at_ rfl
  have HV := Lib.hid hV
  have HY := Lib.hid (And.intro q1 (And.intro q2 q3))
  have HB3 := Lib.hid hb3
  clear hV q1 q2 q3 hb3
  go_wp2_with fail
  clear x0
  obtain ⟨w4, hw4⟩ : ∃ z, w3.alloc (.cells y.cells 50) = z := ⟨_, rfl⟩
  have hX4 : Blk w4 w3.heap.size 50 y.cells := by rw [← hw4]; exact Blk.new _ _ _
  have hb4 : Below w3.heap.size w3 w4 := by rw [← hw4]; exact keep_alloc (Below.refl _ _) _
  have hs4 : w4.heap.size = w3.heap.size + 1 := by rw [← hw4]; simp
  have HW4 := Lib.hid hw4
  obtain ⟨U1, hU1⟩ : ∃ U1, U1 = more (fun b => b < w2.heap.size ∨ b = y.gb ∨ b = y.lb ∨ b = y.ab) w3 w4 := ⟨_, rfl⟩
  have HV4 : Hid (VdIn w4 S U1 y (awT al y.bd.length 0) (lsT ll (DevD.blank y.secs 0) y.bd.length 0)) := Lib.hid (by rw [hU1, awT_zero, lsT_zero]; exact HV.out.more hb4)
  have HU1 : Hid (∀ b, b < w2.heap.size → U1 b) := Lib.hid (fun b hb => by rw [hU1]; exact .inl (.inl hb))
  have HUX : Hid (U1 w3.heap.size) := Lib.hid (by rw [hU1]; exact .inr ⟨Nat.le_refl _, by omega⟩)
  have HX4 := Lib.hid hX4
  have HB4 := Lib.hid hb4
  have HS4 := Lib.hid hs4
  have HLTS : Hid (y.ab < w3.heap.size ∧ y.lb < w3.heap.size ∧ y.gb < w3.heap.size) := Lib.hid ⟨HV.out.us _ HV.out.ua, HV.out.us _ HV.out.ul, HV.out.us _ HV.out.ug⟩
  clear hw4 hX4 hb4 hs4 hU1
  rw [HW4.out]
  have HGET : Hid (∀ wx, Only (fun g => g = y.ab ∨ ∃ i, S i g) w4 wx → Blk wx w3.heap.size 50 y.cells ∧ ∀ g, g < w.heap.size → wx.heap[g]? = w.heap[g]? ∧ g ≠ y.ab) := Lib.hid (fun wx honly => by
    refine ⟨(honly.block _ HX4.out.lt (fun hh => by
      rcases hh with hh | ⟨i, hh⟩
      · have := HLTS.out.1; omega
      · exact HV4.out.fx i _ hh HUX.out)).trans HX4.out, fun g hg => ?_⟩
    have e2 : w2.heap[g]? = w.heap[g]? := HD2.out.block g hg
    have l2 : g < w2.heap.size := by have := HD2.out.size; omega
    have e3 : w3.heap[g]? = w2.heap[g]? := HB3.out.block g l2
    have l3 : g < w3.heap.size := by have := HB3.out.size; omega
    have e4 : w4.heap[g]? = w3.heap[g]? := HB4.out.block g l3
    have na : g ≠ y.ab := by have := HY.out.2.2; omega
    refine ⟨((honly.block g (by have := HS4.out; omega) (fun hh => ?_)).trans e4).trans (e3.trans e2), na⟩
    rcases hh with hh | ⟨i, hh⟩
    · exact na hh
    · exact HV4.out.fx i _ hh (HU1.out g l2))
  obtain ⟨i0, hi, hz0, hz1, hz2⟩ := info_parts Tryz.infoBool
  go_loopw [11, 12] (fun v t wr => ∃ k : Nat, k ≤ y.bd.length ∧ t = .int .i64 k ∧ VdIn wr S U1 y (awT al y.bd.length k) (lsT ll (DevD.blank y.secs 0) y.bd.length k) ∧ wr.ownsRow w4.heap.size 4 1 v k (boolC (hrT al ll k)) ∧ Only (fun g => g = y.ab ∨ ∃ i, S i g) w4 wr) (fun _ t _ => y.bd.length - (RowKit.intOf t).toNat)
  case atStart => exact ⟨0, Nat.zero_le _, rfl, HV4.out, World.ownsRow_nil _ _ _ _, Only.refl _ _⟩
  case round =>
    obtain ⟨k, hk, rfl, hV, hown, honly⟩ := hrel
    have hX := (HGET.out wr honly).1
    by_cases hlt : k < y.bd.length
    · have x2 := hX.at_ (i := 2) (v := .slice (some ⟨y.lb, 0, none⟩) y.bd.length y.lc) rfl
      have hdc : decide (k < y.bd.length) = true := decide_eq_true hlt
      have HVK := Lib.hid hV
      have HOWN := Lib.hid hown
      have HON := Lib.hid honly
      have HX := Lib.hid hX
      have HLT := Lib.hid hlt
      have HARG : Hid (∀ g, g < w.heap.size → wr.heap[g]? = w.heap[g]? ∧ g ≠ y.ab) := Lib.hid (HGET.out wr honly).2
      have hkl := hlt
      obtain ⟨bv, hbv⟩ : ∃ bv, bAt al k = bv := ⟨_, rfl⟩
      have HBV := Lib.hid hbv
      clear hV hown honly hX hlt hbv
      go_wp2_with fail
      go_cut [12] (fun t wx => t = .int .i64 k ∧ wx = wr.drew.setCell ⟨y.ab, k, none⟩ (.bool bv))
      case first =>
        obtain ⟨S0, hS0⟩ : ∃ S0 : World → Prop, S0 = fun W => ∀ g : Nat, g ≠ y.ab → W.heap[g]? = wr.heap[g]? := ⟨_, rfl⟩
        have f3 : ∀ W, S0 W → W.cell? ⟨w3.heap.size, 3, none⟩ = some (.slice (some ⟨y.ab, 0, none⟩) y.bd.length y.bd.length) := fun W h => by rw [hS0] at h; exact (cell_same' (h _ (by have := HLTS.out.1; omega))).trans (HX.out.at_ rfl)
        have hSw : S0 wr.drew := by rw [hS0]; exact fun _ _ => rfl
        have hSf : S0 (wr.drew.setCell ⟨y.ab, k, none⟩ (.bool bv)) := by rw [hS0]; exact fun g hg => Below.heap_setCell wr.drew _ _ g hg
        have c8 : wr.drew.cell? ⟨y.ab, k, none⟩ = some (.bool (decide (k < k) && bAt al k)) := HVK.out.box.at_ (by rw [List.getElem?_toArray, List.getElem?_map, awT_at HLT.out]; rfl)
        have z8 : wr.drew.frozen? ⟨y.ab, k, none⟩ = false := HVK.out.box.fr k
        by_cases hka : k < al.length
        · obtain ⟨ba, oa, rfl, hba, hca⟩ := HAL.out.cells (by omega)
          have fa : ∀ W, S0 W → W.cell? ⟨ba, oa + k, none⟩ = some (.bool (bAt al k)) := fun W h => by rw [hS0] at h; exact (cell_same' ((h _ (HARG.out ba hba).2).trans (HARG.out ba hba).1)).trans (hca k _ (boolC_at (bAt_in hka)))
          have hda : decide (k < al.length) = true := decide_eq_true hka
          rw [HBV.out] at fa
          clear hS0 hca
          refine wp_region_effA S0 [14] (by kernel_rfl) (by kernel_rfl) (by kernel_rfl) hSw ?_
          refine wpLexE_take 14 (by kernel_rfl) (by kernel_rfl) ?_
          simp only [List.take_succ_cons, List.take_zero, List.drop_succ_cons, List.drop_zero]
          repeat (first
            | go_big_quiet_skip
            | (go_big_quiet_want
               go_big_quiet_op
               first
                 | go_big_quiet_on
                 | (apply Exists.intro
                    refine ⟨fun W hW => ?_, ?_⟩
                    · first
                        | exact rfl
                        | exact ⟨rfl, rfl⟩
                        | (have e0 := f3 W hW; have e1 := fa W hW; simp only [e0, e1, Result.andThen_ok]; done)
                        | (have e0 := f3 W hW; have e1 := fa W hW; simp only [e0, e1, Result.andThen_ok]; first | exact ⟨trivial, rfl⟩ | exact rfl | exact ⟨rfl, rfl⟩)
                        | (skip)
                    go_big_quiet_on)))
          refine wpQuiet_nil ?_
          show wpLexE _ _ _ _ _ _ _ _ _
          refine wpLexE_eff (by kernel_rfl) rfl ?_
          clear f3 fa
          go_wp2_with fail
          refine ⟨rfl, hSf, ?_⟩
          unfold wpLexE
          go_wp2_with fail
          go_meet
          exact ⟨rfl, rfl⟩
        · have hda : decide (k < al.length) = false := decide_eq_false hka
          have hbf : bv = false := HBV.out.symm.trans (bAt_out hka)
          subst hbf
          clear hS0 hka
          refine wp_region_effA S0 [14] (by kernel_rfl) (by kernel_rfl) (by kernel_rfl) hSw ?_
          refine wpLexE_take 14 (by kernel_rfl) (by kernel_rfl) ?_
          simp only [List.take_succ_cons, List.take_zero, List.drop_succ_cons, List.drop_zero]
          repeat (first
            | go_big_quiet_skip
            | (go_big_quiet_want
               go_big_quiet_op
               first
                 | go_big_quiet_on
                 | (apply Exists.intro
                    refine ⟨fun W hW => ?_, ?_⟩
                    · first
                        | exact rfl
                        | exact ⟨rfl, rfl⟩
                        | (have e0 := f3 W hW; simp only [e0, Result.andThen_ok]; done)
                        | (have e0 := f3 W hW; simp only [e0, Result.andThen_ok]; first | exact ⟨trivial, rfl⟩ | exact rfl | exact ⟨rfl, rfl⟩)
                        | (skip)
                    go_big_quiet_on)))
          refine wpQuiet_nil ?_
          show wpLexE _ _ _ _ _ _ _ _ _
          refine wpLexE_eff (by kernel_rfl) rfl ?_
          clear f3
          go_wp2_with fail
          refine ⟨rfl, hSf, ?_⟩
          unfold wpLexE
          go_wp2_with fail
          go_meet
          exact ⟨rfl, rfl⟩
      case rest =>
        obtain ⟨rfl, hwc⟩ := hcut
        have hVc : VdIn wc S U1 y (awT al y.bd.length (k + 1)) (lsT ll (DevD.blank y.secs 0) y.bd.length k) := by
          have := (HVK.out.same (w' := wr.drew) (Nat.le_refl _) (fun _ _ => rfl) (fun _ _ _ => rfl)).away k bv
          rw [hwc, awT_step HLT.out, HBV.out]
          exact this
        have hoc : Only (fun g => g = y.ab ∨ ∃ i, S i g) w4 wc := by rw [hwc]; exact Only.set (S := fun g => g = y.ab ∨ ∃ i, S i g) HON.out.drew (.inl (.inl rfl)) _
        have howc : wc.ownsRow w4.heap.size 4 1 u11 k (boolC (hrT al ll k)) := by
          rw [hwc]
          exact ownsRow_same (w := wr) HOWN.out (fun b hb => Below.heap_setCell wr.drew _ _ b (fun e => by have e' : b = y.ab := e; have := (HOWN.out.lt b hb).1; have := HLTS.out.1; have := HS4.out; omega))
        have hdk : (lsT ll (DevD.blank y.secs 0) y.bd.length k)[k]? = some (DevD.blank y.secs 0) := by rw [lsT_at HLT.out]; simp
        obtain ⟨_, bk, _, hbk, _, hdev, hrow, _⟩ := hVc.parts hdk
        have x2 := (HGET.out wc hoc).1.at_ (i := 2) (v := .slice (some ⟨y.lb, 0, none⟩) y.bd.length y.lc) rfl
        have HLO := Lib.hid (lose_any hdev)
        have HVC := Lib.hid hVc
        have HOC := Lib.hid hoc
        have HOWC := Lib.hid howc
        have HBK := Lib.hid hbk
        have HARC := Lib.hid (HGET.out wc hoc).2
        clear hVc hoc howc hdk hbk hdev hwc HVK HON HOWN HARG
        obtain ⟨lv, hlv⟩ : ∃ lv, bAt ll k = lv := ⟨_, rfl⟩
        have HLV := Lib.hid hlv
        clear hlv
        go_upto_region 11 with (fail)
        go_cut [12, 61] (fun t t61 wx => t = .int .i64 k ∧ t61 = .bool lv ∧ wx = wc)
        case first =>
          by_cases hkl : k < ll.length
          · obtain ⟨bl, ol, rfl, hbl, hcl⟩ := HLL.out.cells (by omega)
            have fl : wc.cell? ⟨bl, ol + k, none⟩ = some (.bool (bAt ll k)) := (cell_same' (HARC.out bl hbl).1).trans (hcl k _ (boolC_at (bAt_in hkl)))
            have hdl : decide (k < ll.length) = true := decide_eq_true hkl
            rw [HLV.out] at fl
            clear hcl hbl
            go_wp2_with fail
            go_meet
            exact ⟨rfl, rfl, rfl⟩
          · have hdl : decide (k < ll.length) = false := decide_eq_false hkl
            have hbf : lv = false := HLV.out.symm.trans (bAt_out hkl)
            subst hbf
            go_wp2_with fail
            go_meet
            exact ⟨rfl, rfl, rfl⟩
        case rest =>
          obtain ⟨rfl, rfl, rfl⟩ := hcut
          go_upto_if 61 with (fail)
          go_cut [12] (fun t wx => t = .int .i64 k ∧ VdIn wx S U1 y (awT al y.bd.length (k + 1)) (lsT ll (DevD.blank y.secs 0) y.bd.length (k + 1)) ∧ wx.ownsRow w4.heap.size 4 1 u11 k (boolC (hrT al ll k)) ∧ Only (fun g => g = y.ab ∨ ∃ i, S i g) w4 wx)
          case first =>
            cases lv with
            | false =>
              have HT : Hid (lsT ll (DevD.blank y.secs 0) y.bd.length (k + 1) = lsT ll (DevD.blank y.secs 0) y.bd.length k) := Lib.hid (lsT_no HLV.out)
              go_wp2_with fail
              go_meet
              exact ⟨rfl, by rw [HT.out]; exact HVC.out, HOWC.out, HOC.out⟩
            | true =>
              have HT : Hid (lsT ll (DevD.blank y.secs 0) y.bd.length (k + 1) = (lsT ll (DevD.blank y.secs 0) y.bd.length k).set k (DevD.blank y.secs 0).lose) := Lib.hid (lsT_yes HLT.out HLV.out)
              go_wp2_with fail
              refine HLO.out.mono ?_
              rintro e w6 ⟨rfl, hd6, ho6, hs6⟩
              have HV6 := Lib.hid (HVC.out.step0 HBK.out ho6 hs6 hd6 (by simp [DevD.lose, DevD.blank]))
              have HO6 := Lib.hid (HOC.out.trans (Only.mono ho6 (fun g _ hg => .inr ⟨k, hg⟩) : Only (fun g => g = y.ab ∨ ∃ i, S i g) wc w6) (fun g hg => .inl hg))
              have HR6 := Lib.hid (ownsRow_same HOWC.out (fun b hb => ho6.block b (HOWC.out.lt b hb).2 (fun hS => by have := (HOWC.out.lt b hb).1; have := HV4.out.lt k b hS; omega)))
              clear hd6 ho6 hs6 hrow x2
              go_wp2_with fail
              go_meet
              exact ⟨rfl, by rw [HT.out]; exact HV6.out, HR6.out, HO6.out⟩
          case rest =>
            obtain ⟨rfl, hV5, hr5, ho5⟩ := hcut
            have x3 := (HGET.out wc ho5).1.at_ (i := 3) (v := .slice (some ⟨y.ab, 0, none⟩) y.bd.length y.bd.length) rfl
            have xa : wc.cell? ⟨y.ab, k, none⟩ = some (.bool bv) := hV5.box.at_ (by
              rw [List.getElem?_toArray, List.getElem?_map, awT_at HLT.out, HBV.out]
              simp)
            have HARW := Lib.hid (HGET.out wc ho5).2
            have HV5 := Lib.hid hV5
            have HR := Lib.hid hr5
            have HO := Lib.hid ho5
            have hkn := HLT.out
            clear hV5 hr5 ho5 x2 hrow HVC HOC HOWC HARC HLO
            cases bv with
            | true =>
              go_wp2_with (at_builtin; refine wpList_append_own _ rfl _ _ 47 rfl w4.heap.size 4 i0 _ 1 1 Tryz.underlying47 hi hz0 hz1 hz2 rfl (by decide) _ _ _ rfl (HR.out.alloc _) ⟨wc.heap.size, 0, none⟩ 1 1 [.bool false] rfl rfl ?c1 ?c2 (by unfold maxLen; omega) (by omega) ?c5 ?_)
              try (case c1 => exact one_new' _ _ _)
              case c2 => first | rfl | (intro u hu; simp at hu; subst hu; rfl)
              case c5 => have := HO.out.size; simp; omega
              intro v' w5 hown' hgrow _
              have hown5 : w5.ownsRow w4.heap.size 4 1 v' (k + 1) (boolC (hrT al ll (k + 1))) := by
                rw [hrT_step, HBV.out, HLV.out]
                unfold boolC at hown' ⊢
                rw [List.map_append]
                exact hown'
              have ho5 : Only (fun g => u11.ownBlock = some g) wc w5 := (Only.alloc (Only.refl _ wc) _).trans (Only.of_grown' (S := fun g => u11.ownBlock = some g) hgrow (fun b e => e)) (fun g hg => .inl hg)
              have hnb : ∀ g, g < w4.heap.size → u11.ownBlock ≠ some g := fun g hg e => by have := (HR.out.lt g e).1; omega
              have hV5 : VdIn w5 S U1 y (awT al y.bd.length (k + 1)) (lsT ll (DevD.blank y.secs 0) y.bd.length (k + 1)) :=
                HV5.out.same ho5.size (fun b hb => ho5.block b (HV5.out.us b hb) (hnb b (HV4.out.us b hb))) (fun i b hb => ho5.block b (HV5.out.lt i b hb) (hnb b (HV4.out.lt i b hb)))
              have hO5 : Only (fun g => g = y.ab ∨ ∃ i, S i g) w4 w5 := HO.out.trans ho5 (fun g hg => .inr (HR.out.lt g hg).1)
              have HF5 := Lib.hid (And.intro hown5 (And.intro hV5 hO5))
              clear hown' hgrow hown5 ho5 hnb hV5 hO5 x3 xa
              go_wp2_with fail
              go_roundw
              case rel => exact ⟨k + 1, HLT.out, by go_num, HF5.out.2.1, HF5.out.1, HF5.out.2.2⟩
              case measure => have := HLT.out; simp [RowKit.intOf]; omega
            | false =>
              by_cases hkl : k < ll.length
              · obtain ⟨bl, ol, rfl, hbl, hcl⟩ := HLL.out.cells (by omega)
                have fl : wc.cell? ⟨bl, ol + k, none⟩ = some (.bool (bAt ll k)) := (cell_same' (HARW.out bl hbl).1).trans (hcl k _ (boolC_at (bAt_in hkl)))
                have hdl : decide (k < ll.length) = true := decide_eq_true hkl
                rw [HLV.out] at fl
                clear hcl hbl
                cases lv with
                | true =>
                  go_wp2_with (at_builtin; refine wpList_append_own _ rfl _ _ 47 rfl w4.heap.size 4 i0 _ 1 1 Tryz.underlying47 hi hz0 hz1 hz2 rfl (by decide) _ _ _ rfl (HR.out.alloc _) ⟨wc.heap.size, 0, none⟩ 1 1 [.bool false] rfl rfl ?c1 ?c2 (by unfold maxLen; omega) (by omega) ?c5 ?_)
                  try (case c1 => exact one_new' _ _ _)
                  case c2 => first | rfl | (intro u hu; simp at hu; subst hu; rfl)
                  case c5 => have := HO.out.size; simp; omega
                  intro v' w5 hown' hgrow _
                  have hown5 : w5.ownsRow w4.heap.size 4 1 v' (k + 1) (boolC (hrT al ll (k + 1))) := by
                    rw [hrT_step, HBV.out, HLV.out]
                    unfold boolC at hown' ⊢
                    rw [List.map_append]
                    exact hown'
                  have ho5 : Only (fun g => u11.ownBlock = some g) wc w5 := (Only.alloc (Only.refl _ wc) _).trans (Only.of_grown' (S := fun g => u11.ownBlock = some g) hgrow (fun b e => e)) (fun g hg => .inl hg)
                  have hnb : ∀ g, g < w4.heap.size → u11.ownBlock ≠ some g := fun g hg e => by have := (HR.out.lt g e).1; omega
                  have hV5 : VdIn w5 S U1 y (awT al y.bd.length (k + 1)) (lsT ll (DevD.blank y.secs 0) y.bd.length (k + 1)) :=
                    HV5.out.same ho5.size (fun b hb => ho5.block b (HV5.out.us b hb) (hnb b (HV4.out.us b hb))) (fun i b hb => ho5.block b (HV5.out.lt i b hb) (hnb b (HV4.out.lt i b hb)))
                  have hO5 : Only (fun g => g = y.ab ∨ ∃ i, S i g) w4 w5 := HO.out.trans ho5 (fun g hg => .inr (HR.out.lt g hg).1)
                  have HF5 := Lib.hid (And.intro hown5 (And.intro hV5 hO5))
                  clear hown' hgrow hown5 ho5 hnb hV5 hO5 x3 xa
                  go_wp2_with fail
                  go_roundw
                  case rel => exact ⟨k + 1, HLT.out, by go_num, HF5.out.2.1, HF5.out.1, HF5.out.2.2⟩
                  case measure => have := HLT.out; simp [RowKit.intOf]; omega
                | false =>
                  go_wp2_with (at_builtin; refine wpList_append_own _ rfl _ _ 47 rfl w4.heap.size 4 i0 _ 1 1 Tryz.underlying47 hi hz0 hz1 hz2 rfl (by decide) _ _ _ rfl (HR.out.alloc _) ⟨wc.heap.size, 0, none⟩ 1 1 [.bool true] rfl rfl ?c1 ?c2 (by unfold maxLen; omega) (by omega) ?c5 ?_)
                  try (case c1 => exact one_new' _ _ _)
                  case c2 => first | rfl | (intro u hu; simp at hu; subst hu; rfl)
                  case c5 => have := HO.out.size; simp; omega
                  intro v' w5 hown' hgrow _
                  have hown5 : w5.ownsRow w4.heap.size 4 1 v' (k + 1) (boolC (hrT al ll (k + 1))) := by
                    rw [hrT_step, HBV.out, HLV.out]
                    unfold boolC at hown' ⊢
                    rw [List.map_append]
                    exact hown'
                  have ho5 : Only (fun g => u11.ownBlock = some g) wc w5 := (Only.alloc (Only.refl _ wc) _).trans (Only.of_grown' (S := fun g => u11.ownBlock = some g) hgrow (fun b e => e)) (fun g hg => .inl hg)
                  have hnb : ∀ g, g < w4.heap.size → u11.ownBlock ≠ some g := fun g hg e => by have := (HR.out.lt g e).1; omega
                  have hV5 : VdIn w5 S U1 y (awT al y.bd.length (k + 1)) (lsT ll (DevD.blank y.secs 0) y.bd.length (k + 1)) :=
                    HV5.out.same ho5.size (fun b hb => ho5.block b (HV5.out.us b hb) (hnb b (HV4.out.us b hb))) (fun i b hb => ho5.block b (HV5.out.lt i b hb) (hnb b (HV4.out.lt i b hb)))
                  have hO5 : Only (fun g => g = y.ab ∨ ∃ i, S i g) w4 w5 := HO.out.trans ho5 (fun g hg => .inr (HR.out.lt g hg).1)
                  have HF5 := Lib.hid (And.intro hown5 (And.intro hV5 hO5))
                  clear hown' hgrow hown5 ho5 hnb hV5 hO5 x3 xa
                  go_wp2_with fail
                  go_roundw
                  case rel => exact ⟨k + 1, HLT.out, by go_num, HF5.out.2.1, HF5.out.1, HF5.out.2.2⟩
                  case measure => have := HLT.out; simp [RowKit.intOf]; omega
              · have hdl : decide (k < ll.length) = false := decide_eq_false hkl
                have hbf : lv = false := HLV.out.symm.trans (bAt_out hkl)
                subst hbf
                go_wp2_with (at_builtin; refine wpList_append_own _ rfl _ _ 47 rfl w4.heap.size 4 i0 _ 1 1 Tryz.underlying47 hi hz0 hz1 hz2 rfl (by decide) _ _ _ rfl (HR.out.alloc _) ⟨wc.heap.size, 0, none⟩ 1 1 [.bool true] rfl rfl ?c1 ?c2 (by unfold maxLen; omega) (by omega) ?c5 ?_)
                try (case c1 => exact one_new' _ _ _)
                case c2 => first | rfl | (intro u hu; simp at hu; subst hu; rfl)
                case c5 => have := HO.out.size; simp; omega
                intro v' w5 hown' hgrow _
                have hown5 : w5.ownsRow w4.heap.size 4 1 v' (k + 1) (boolC (hrT al ll (k + 1))) := by
                  rw [hrT_step, HBV.out, HLV.out]
                  unfold boolC at hown' ⊢
                  rw [List.map_append]
                  exact hown'
                have ho5 : Only (fun g => u11.ownBlock = some g) wc w5 := (Only.alloc (Only.refl _ wc) _).trans (Only.of_grown' (S := fun g => u11.ownBlock = some g) hgrow (fun b e => e)) (fun g hg => .inl hg)
                have hnb : ∀ g, g < w4.heap.size → u11.ownBlock ≠ some g := fun g hg e => by have := (HR.out.lt g e).1; omega
                have hV5 : VdIn w5 S U1 y (awT al y.bd.length (k + 1)) (lsT ll (DevD.blank y.secs 0) y.bd.length (k + 1)) :=
                  HV5.out.same ho5.size (fun b hb => ho5.block b (HV5.out.us b hb) (hnb b (HV4.out.us b hb))) (fun i b hb => ho5.block b (HV5.out.lt i b hb) (hnb b (HV4.out.lt i b hb)))
                have hO5 : Only (fun g => g = y.ab ∨ ∃ i, S i g) w4 w5 := HO.out.trans ho5 (fun g hg => .inr (HR.out.lt g hg).1)
                have HF5 := Lib.hid (And.intro hown5 (And.intro hV5 hO5))
                clear hown' hgrow hown5 ho5 hnb hV5 hO5 x3 xa
                go_wp2_with fail
                go_roundw
                case rel => exact ⟨k + 1, HLT.out, by go_num, HF5.out.2.1, HF5.out.1, HF5.out.2.2⟩
                case measure => have := HLT.out; simp [RowKit.intOf]; omega
    · obtain rfl : k = y.bd.length := by omega
      have hdc : decide ((y.bd.length : Int) < y.bd.length) = false := decide_eq_false (by omega)
      have x0 := hX.at_ (i := 0) (v := .slice (some ⟨y.gb, 0, none⟩) y.m y.cc) rfl
      have x1 := hX.at_ (i := 1) (v := .int .i64 y.secs) rfl
      have x2 := hX.at_ (i := 2) (v := .slice (some ⟨y.lb, 0, none⟩) y.bd.length y.lc) rfl
      have x3 := hX.at_ (i := 3) (v := .slice (some ⟨y.ab, 0, none⟩) y.bd.length y.bd.length) rfl
      have HV := Lib.hid hV
      have HR := Lib.hid hown
      have HO := Lib.hid honly
      have hB2 : Blk wr (w.heap.size + 1) 50 vZ := by
        have l2 : w.heap.size + 1 < w2.heap.size := by have := HS2.out; omega
        have l3 : w.heap.size + 1 < w3.heap.size := by have := HB3.out.size; omega
        refine (honly.block _ (by have := HS4.out; omega) (fun hh => ?_)).trans ((HB2.out.below HB3.out l2).below HB4.out l3)
        rcases hh with hh | ⟨i, hh⟩
        · have := HY.out.2.2; omega
        · exact HV4.out.fx i _ hh (HU1.out _ l2)
      have z0 := hB2.at_ (i := 0) (v := .slice none 0 0) rfl
      have z1 := hB2.at_ (i := 1) (v := .int .i64 0) rfl
      have z2 := hB2.at_ (i := 2) (v := .slice none 0 0) rfl
      have z3 := hB2.at_ (i := 3) (v := .slice none 0 0) rfl
      have y0 := hB2.fr 0
      have y1 := hB2.fr 1
      have y2 := hB2.fr 2
      have y3 := hB2.fr 3
      have HX := Lib.hid ((((hB2.put 0 (.slice (some ⟨y.gb, 0, none⟩) y.m y.cc)).put 1 (.int .i64 y.secs)).put 2 (.slice (some ⟨y.lb, 0, none⟩) y.bd.length y.lc)).put 3 (.slice (some ⟨y.ab, 0, none⟩) y.bd.length y.bd.length))
      clear hV hown honly hX hB2
      go_wp2_with fail
      have hof : ∀ (W : World) (o : Nat) (u : Value) (g : Nat), g ≠ w.heap.size + 1 → (W.setCell ⟨w.heap.size + 1, o, none⟩ u).heap[g]? = W.heap[g]? := fun W o u g hg => Below.heap_setCell W _ _ g hg
      have hsz : ∀ (W : World) (o : Nat) (u : Value), (W.setCell ⟨w.heap.size + 1, o, none⟩ u).heap.size = W.heap.size := fun W o u => by simp [World.setCell]
      refine bodyPost_ret (v := .tuple #[y.val, u11, .bool true]) (results_cell_two rfl _ _ (w.heap.size + 1) 50 _ (0, 0) _ rfl HX.out Tryz.underlying50 rfl (Tryz.infoDevs _ _ _ _) _ _ rfl rfl) rfl ?_
      obtain ⟨wf, hwf⟩ : ∃ z, (((wr.setCell ⟨w.heap.size + 1, 0, none⟩ (.slice (some ⟨y.gb, 0, none⟩) y.m y.cc)).setCell ⟨w.heap.size + 1, 1, none⟩ (.int .i64 y.secs)).setCell ⟨w.heap.size + 1, 2, none⟩ (.slice (some ⟨y.lb, 0, none⟩) y.bd.length y.lc)).setCell ⟨w.heap.size + 1, 3, none⟩ (.slice (some ⟨y.ab, 0, none⟩) y.bd.length y.bd.length) = z := ⟨_, rfl⟩
      rw [hwf]
      have hbf : ∀ g, g ≠ w.heap.size + 1 → wf.heap[g]? = wr.heap[g]? := fun g hg => by rw [← hwf, hof _ _ _ _ hg, hof _ _ _ _ hg, hof _ _ _ _ hg, hof _ _ _ _ hg]
      have hzf : wf.heap.size = wr.heap.size := by rw [← hwf, hsz, hsz, hsz, hsz]
      have h2 := HS2.out
      have h3 := HB3.out.size
      have h4 := HS4.out
      have h5 := HO.out.size
      have hSU : ∀ i b, S i b → w2.heap.size ≤ b := fun i b hS => by
        by_cases hb : b < w2.heap.size
        · exact absurd (HU1.out b hb) (HV4.out.fx i b hS)
        · omega
      have hVf : VdIn wf S U1 y (awT al y.bd.length y.bd.length) (lsT ll (DevD.blank y.secs 0) y.bd.length y.bd.length) :=
        HV.out.same3 (by omega) (hbf _ (by have := HY.out.1; omega)) (hbf _ (by have := HY.out.2.1; omega)) (hbf _ (by have := HY.out.2.2; omega)) (fun i b hS => hbf b (by have := hSU i b hS; omega))
      refine ⟨y, S, fun b => U1 b ∨ (w4.heap.size ≤ b ∧ b < wr.heap.size), u11, rfl, rfl, rfl, rfl, hVf.wide (fun b hb => .inl hb) (fun b hb => ?_) (fun i b hS hb => ?_), fun b hb => .inl (HU1.out b (by omega)), ?_, ⟨by have := HY.out.2.2; omega, by have := HY.out.1; omega, by have := HY.out.2.1; omega⟩, ?_⟩
      · rcases hb with hb | hb
        · exact hVf.us b hb
        · omega
      · rcases hb with hb | hb
        · exact hVf.fx i b hS hb
        · have := HV4.out.lt i b hS; omega
      · have hrf : wf.ownsRow w4.heap.size 4 1 u11 y.bd.length (boolC (hrT al ll y.bd.length)) := ownsRow_same HR.out (fun b hb => hbf b (by have := (HR.out.lt b hb).1; omega))
        exact slU_own hrf (fun b h6 h7 => .inr ⟨h6, by omega⟩)
      · have b1 : Below w.heap.size w w4 := HD2.out.trans ((HB3.out.trans (HB4.out.mono h3)).mono (by omega))
        have b2 : Below w.heap.size w4 wr := HO.out.below (by omega) (fun g hg => by
          rcases hg with hg | ⟨i, hg⟩
          · have := HY.out.2.2; omega
          · have := hSU i g hg; omega)
        have b3 : Below w.heap.size w wr := b1.trans b2
        rw [← hwf]
        exact below_set (below_set (below_set (below_set b3 _ _ _ (Nat.le_succ _)) _ _ _ (Nat.le_succ _)) _ _ _ (Nat.le_succ _)) _ _ _ (Nat.le_succ _)
end Go.Proofs.YtlpbbjjibnbooaaGreatDoor

namespace Go.Proofs.YtlpbbjjibnbooaaGreatDoor
set_option linter.unusedVariables false
set_option linter.unusedSimpArgs false
open Go.ChangeShapes Go.WideShapes Go.ChangeAt Go.RowKit Go.Deep Go.Joins

set_option maxRecDepth 100000 in
theorem open_boolsA {H : Type} {enc : TypeId × Value → H} {w : World} {base b0 : Nat} {held : Bool} {v : Value} {d : DataW H} {p : List MemPlace} (hv : Value.okWide Tryz.prog w .any b0 47 v)
    (h : DataW.Trod enc Tryz.prog w base (fun _ => true) held 47 v d p) : ∃ l : List Bool, SlAt w v l.length (boolC l) ∧ l.length ≤ 9223372036854775807 := by
  obtain ⟨a0, len, cap, rfl⟩ := okWide_slice Tryz.underlying47 hv
  obtain ⟨fuel, hf⟩ := h
  rcases open_bools Tryz.underlying47 Tryz.underlying4 (by kernel_rfl) hf with ⟨hcs, hx⟩ | ⟨a, len', cap', B, hcs, _, hl, hm, hx, hcell⟩
  · simp [Value.cells] at hcs
    obtain ⟨rfl, rfl, rfl⟩ := hcs
    exact ⟨[], ⟨none, 0, rfl, Nat.le_refl _, fun h => absurd h (Nat.lt_irrefl _)⟩, by simp⟩
  · simp [Value.cells] at hcs
    obtain ⟨rfl, rfl, rfl⟩ := hcs
    unfold maxLen at hm
    have hlen : ((List.range len).map B).length = len := by simp
    refine ⟨(List.range len).map B, ?_, by rw [hlen]; omega⟩
    rw [hlen]
    refine ⟨_, _, rfl, hl, fun hp => ?_⟩
    obtain ⟨b, off, spot⟩ := a
    have h0 := hcell 0 (by omega)
    have hspot : spot = none := by simpa [Addr.add] using World.cell?_spot (by simpa [Addr.add] using h0)
    subst hspot
    refine ⟨b, off, rfl, World.block_lt_of_cell? w _ (by simpa [Addr.add] using h0 : w.cell? ⟨b, off, none⟩ = _), fun j u hu => ?_⟩
    unfold boolC at hu
    rw [List.map_map, List.getElem?_map] at hu
    have hj : j < len := by
      by_cases h : j < len
      · exact h
      · rw [List.getElem?_eq_none (by simpa using h)] at hu
        cases hu
    rw [List.getElem?_range hj] at hu
    have h1 := hcell j (by omega)
    rw [WideShapes.add_plain] at h1
    rw [h1, ← hu]
    rfl
end Go.Proofs.YtlpbbjjibnbooaaGreatDoor
