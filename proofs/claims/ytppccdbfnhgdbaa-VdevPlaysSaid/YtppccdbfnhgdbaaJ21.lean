/-
  Contracts for VdevPlays: Here, the zero Devs; the document's Text, Failed, Lost.
  Contracts of package code: Fits, Bad.
-/
import Derived.Test.YtppccdbfnhgdbaaJ19
import Derived.Test.YtppccdbfnhgdbaaJ18
import Derived.Test.YtppccdbfnhgdbaaJ20
import Derived.Test.YtppccdbfnhgdbaaJ14
import Derived.Test.YtppccdbfnhgdbaaJ01
namespace Go.Proofs.Ytppccdbfnhgdbaa
set_option linter.unusedVariables false
set_option linter.unusedSimpArgs false
open Go.RowKit

theorem keepc {W W' : World} {b o : Nat} {v : Value} (h : W.cell? ⟨b, o, none⟩ = some v) (hb : Below W.heap.size W W') : W'.cell? ⟨b, o, none⟩ = some v :=
  (World.cell?_of_block (hb.block b (World.block_lt_of_cell? W _ h))).trans h
set_option maxRecDepth 20000 in
theorem refText_any (s : List UInt8) (hl : s.length ≤ 9223372036854775807) (w : World) : Calls Try.prog 16 #[str s] w fun e w' => e = .returned (.bool (secOk s)) ∧ Below w.heap.size w w' := by
  by_cases h1 : s = []
  · subst h1
    go_enter Try.func16, Try.ntmps16
    go_wp2_with fail
    go_ret
    exact ⟨rfl, Below.refl _ _⟩
  have hp := List.length_pos_iff.2 h1
  have hd0 : decide (0 < s.length) = true := decide_eq_true hp
  have hS : secOk s = (decide (s.length ≤ 256) && decide (s.length % 64 = 0)) := by
    unfold secOk
    rw [decide_eq_true h1, Bool.true_and, Bool.and_comm]
  by_cases h2 : s.length ≤ 256
  · have hd1 : decide ((s.length : Int) ≤ 256) = true := decide_eq_true (by omega)
    by_cases h3 : s.length % 64 = 0
    · have hd2 : ((s.length : Int) % 64 == 0) = true := by rw [beq_iff_eq]; omega
      have HS : Hid (secOk s = true) := Lib.hid (by rw [hS, decide_eq_true h2, decide_eq_true h3]; rfl)
      clear hS h1 h2 h3 hp
      go_enter Try.func16, Try.ntmps16
      go_wp2_with fail
      go_ret
      exact ⟨by rw [HS.out]; rfl, Below.refl _ _⟩
    · have hd2 : ((s.length : Int) % 64 == 0) = false := by rw [beq_eq_false_iff_ne]; omega
      have HS : Hid (secOk s = false) := Lib.hid (by rw [hS, decide_eq_true h2, decide_eq_false h3]; rfl)
      clear hS h1 h2 h3 hp
      go_enter Try.func16, Try.ntmps16
      go_wp2_with fail
      go_ret
      exact ⟨by rw [HS.out]; rfl, Below.refl _ _⟩
  · have hd1 : decide ((s.length : Int) ≤ 256) = false := decide_eq_false (by omega)
    have HS : Hid (secOk s = false) := Lib.hid (by rw [hS, decide_eq_false h2]; rfl)
    clear hS h1 h2 hp
    go_enter Try.func16, Try.ntmps16
    go_wp2_with fail
    go_ret
    exact ⟨by rw [HS.out]; rfl, Below.refl _ _⟩
set_option maxRecDepth 20000 in
theorem refLost_any (x : Int × Int) (n : Nat) (ho : gOne x = true) (w : World) : Calls Try.prog 19 #[.agg #[.int .i64 x.1, .int .i64 x.2], .int .i64 n] w fun e w' => e = .returned (.bool (lostB x n)) ∧ Below w.heap.size w w' := by
  rcases gOne_true ho with ⟨h1, _, _⟩ | ⟨h1, _, _⟩
  · have HL : Hid (lostB x n = ((n : Int) == x.2)) := Lib.hid (by unfold lostB; rw [h1]; simp)
    rw [h1]
    clear h1 ho
    go_enter Try.func19, Try.ntmps19
    go_wp2_with fail
    go_ret
    exact ⟨by rw [HL.out]; rfl, keep_alloc (Below.refl _ _) _⟩
  · have HL : Hid (lostB x n = decide ((1 : Int) < n)) := Lib.hid (by unfold lostB; rw [h1]; simp)
    rw [h1]
    clear h1 ho
    go_enter Try.func19, Try.ntmps19
    go_wp2_with fail
    go_ret
    exact ⟨by rw [HL.out]; rfl, keep_alloc (Below.refl _ _) _⟩
/-- Has a column this device? -/
def devIn (L : List Col) (d : Nat) (k : Nat) : Bool := (L.take k).any fun c => c.1 == (d : Int)
theorem devIn_step {L : List Col} {d k : Nat} {x : Col} (h : L[k]? = some x) : devIn L d (k + 1) = (devIn L d k || x.1 == (d : Int)) := by
  unfold devIn
  rw [List.take_add_one, h]
  simp [List.any_append]
theorem devIn_all (L : List Col) (d : Nat) : devIn L d L.length = L.any fun c => c.1 == (d : Int) := by unfold devIn; rw [List.take_length]
theorem failN_step (L : List Col) (hs : Nat → Bool) (n : Nat) : failN L hs (n + 1) = failN L hs n + if (L.any fun c => c.1 == (n : Int)) && !hs n then 1 else 0 := by
  unfold failN failL
  rw [List.range_succ, List.filter_append, List.length_append]
  cases h : ((L.any fun c => c.1 == (n : Int)) && !hs n) <;> simp [h]
theorem failN_le (L : List Col) (hs : Nat → Bool) (n : Nat) : failN L hs n ≤ n := by
  unfold failN failL
  exact Nat.le_trans (List.length_filter_le _ _) (by simp)
theorem failN_same {L : List Col} {f g : Nat → Bool} {n : Nat} (h : ∀ i, i < n → f i = g i) : failN L f n = failN L g n := by
  unfold failN failL
  congr 1
  apply List.filter_congr
  intro i hi
  rw [h i (List.mem_range.1 hi)]
set_option maxRecDepth 20000 in
set_option maxHeartbeats 1000000 in
theorem refFailed_any (A : Option Addr) (m c : Nat) (gs : List (Int × Int)) (secs pg pa size : Int) {hv : Value} {hr : List Bool} {w : World} (hg : GeoAt w A m gs) (hp : cMay gs secs pg pa size = true) (hh : SlAt w hv hr.length (boolC hr)) (f1 : hr.length ≤ 1000) :
    Calls Try.prog 18 #[.agg #[.slice A m c, .int .i64 secs], .agg #[.int .i64 pg, .int .i64 pa], .int .i64 size, hv] w fun e w' => e = .returned (.int .i64 (failN (colsOf gs secs pg pa size) (bAt hr) hr.length)) ∧ Below w.heap.size w w' := by
  obtain ⟨w2, hw2⟩ : ∃ z, (w.alloc (.cells #[.slice A m c, .int .i64 secs] 24)).alloc (.cells #[.int .i64 pg, .int .i64 pa] 26) = z := ⟨_, rfl⟩
  have D2 : Below w.heap.size w w2 := by rw [← hw2]; exact keep_alloc (keep_alloc (Below.refl _ _) _) _
  have HO := Lib.hid (refOf_any A m c gs secs pg pa size w2 (hg.below D2 (Nat.le_refl _)) hp)
  have h64 : (colsOf gs secs pg pa size).length ≤ 64 := by have := ofList_le gs secs pg pa size; unfold ofList at this; rwa [if_pos hp] at this
  have hh2 := hh.below D2
  obtain ⟨Ah, ch, rfl⟩ := hh.form
  have HH := Lib.hid hh2
  have HD2 := Lib.hid D2
  have HW2 := Lib.hid hw2
  clear hg hp hh hh2 D2 hw2
  obtain ⟨L, hL⟩ : ∃ L, colsOf gs secs pg pa size = L := ⟨_, rfl⟩
  rw [hL] at HO h64
  rw [hL]
  clear hL
  go_enter Try.func18, Try.ntmps18
  go_wp2_with fail
  rw [HW2.out]
  refine HO.out.mono ?_
  rintro e w3 ⟨cv, rfl, hown, hb3⟩
  have HB3 := Lib.hid (keep_below hb3 HD2.out)
  have HC := Lib.hid (slAt_own hown)
  obtain ⟨Ac, cc, rfl⟩ := HC.out.form
  have HH3 := Lib.hid (HH.out.below hb3)
  clear hown hb3
  go_wp2_with fail
  go_loopw [10, 11] (fun n t wr => ∃ d : Nat, d ≤ hr.length ∧ n = .int .i64 (failN L (bAt hr) d : Nat) ∧ t = .int .i64 d ∧ Below w3.heap.size w3 wr) (fun _ t _ => hr.length - (RowKit.intOf t).toNat)
  case atStart => exact ⟨0, Nat.zero_le _, rfl, rfl, Below.refl _ _⟩
  case round =>
    obtain ⟨d, hd, rfl, rfl, hb⟩ := hrel
    have HB := Lib.hid hb
    obtain ⟨nn, hnn⟩ : ∃ nn, failN L (bAt hr) d = nn := ⟨_, rfl⟩
    have hn1 := failN_le L (bAt hr) d
    rw [hnn] at hn1
    rw [hnn]
    have HNN := Lib.hid hnn
    by_cases hlt : d < hr.length
    · have hd1 : decide (d < hr.length) = true := decide_eq_true hlt
      have HDL := Lib.hid hlt
      rename World => wq
      clear hnn hb
      go_wp2_with fail
      go_loopw [12, 13] (fun h t wr => ∃ k : Nat, k ≤ L.length ∧ h = .bool (devIn L d k) ∧ t = .int .i64 k ∧ Below wq.heap.size wq wr) (fun _ t _ => L.length - (RowKit.intOf t).toNat)
      case atStart => exact ⟨0, Nat.zero_le _, rfl, rfl, Below.refl _ _⟩
      case round =>
        obtain ⟨k, hk, rfl, rfl, hbr⟩ := hrel
        have HBR := Lib.hid (keep_below hbr HB.out)
        have HBQ := Lib.hid hbr
        obtain ⟨hs, hhs⟩ : ∃ hs, devIn L d k = hs := ⟨_, rfl⟩
        rw [hhs]
        by_cases hkl : k < L.length
        · obtain ⟨x, hx⟩ : ∃ x, L[k]? = some x := ⟨_, List.getElem?_eq_getElem hkl⟩
          have hst := devIn_step (d := d) hx
          rw [hhs] at hst
          obtain ⟨bc, oc, rfl, hbc, hcc⟩ := HC.out.cells (by omega)
          have q0 : wr.cell? ⟨bc, oc + k * 4, none⟩ = some (.int .i64 x.1) := (World.cell?_of_block (HBR.out.block bc hbc)).trans (hcc _ _ (colsCells_at hx).1)
          have hd2 : decide (k < L.length) = true := decide_eq_true hkl
          have HKL := Lib.hid hkl
          cases hs with
          | true =>
            have HST : Hid (devIn L d (k + 1) = true) := Lib.hid (by rw [hst]; rfl)
            clear hst hhs hbr hcc hbc hx
            go_wp2_with fail
            go_roundw
            case rel => exact ⟨k + 1, HKL.out, by rw [HST.out], by go_num, HBQ.out⟩
            case measure => have := HKL.out; simp [RowKit.intOf]; omega
          | false =>
            have HST : Hid (devIn L d (k + 1) = (x.1 == (d : Int))) := Lib.hid (by rw [hst]; rfl)
            clear hst hhs hbr hcc hbc hx
            go_wp2_with fail
            go_roundw
            case rel => exact ⟨k + 1, HKL.out, by rw [HST.out], by go_num, HBQ.out⟩
            case measure => have := HKL.out; simp [RowKit.intOf]; omega
        · obtain rfl : k = L.length := by omega
          have hd2 : decide (L.length < L.length) = false := decide_eq_false (by omega)
          obtain ⟨b, hb1⟩ : ∃ b, hr[d]? = some b := ⟨_, List.getElem?_eq_getElem HDL.out⟩
          have hbat : bAt hr d = b := by unfold bAt; rw [List.getD_eq_getElem?_getD, hb1]; rfl
          obtain ⟨bh, oh, rfl, hbh, hch⟩ := HH3.out.cells (by have := HDL.out; omega)
          have q1 : wr.cell? ⟨bh, oh + d, none⟩ = some (.bool b) := (World.cell?_of_block (HBR.out.block bh hbh)).trans (hch _ _ (boolC_at hb1))
          have hst := failN_step L (bAt hr) d
          rw [HNN.out, hbat, ← devIn_all, hhs] at hst
          have hdl := HDL.out
          clear hhs hbat hb1 hch hbh hbr
          cases hs with
          | false =>
            have HST : Hid (failN L (bAt hr) (d + 1) = nn) := Lib.hid hst
            clear hst
            go_wp2_with fail
            go_roundw
            case rel => exact ⟨d + 1, HDL.out, by rw [HST.out], by go_num, HBR.out⟩
            case measure => have := HDL.out; simp [RowKit.intOf]; omega
          | true =>
            cases b with
            | true =>
              have HST : Hid (failN L (bAt hr) (d + 1) = nn) := Lib.hid hst
              clear hst
              go_wp2_with fail
              go_roundw
              case rel => exact ⟨d + 1, HDL.out, by rw [HST.out], by go_num, HBR.out⟩
              case measure => have := HDL.out; simp [RowKit.intOf]; omega
            | false =>
              have HST : Hid (failN L (bAt hr) (d + 1) = nn + 1) := Lib.hid hst
              clear hst
              go_wp2_with fail
              go_roundw
              case rel => exact ⟨d + 1, HDL.out, by rw [HST.out]; go_num, by go_num, HBR.out⟩
              case measure => have := HDL.out; simp [RowKit.intOf]; omega
    · obtain rfl : d = hr.length := by omega
      have hd1 : decide (hr.length < hr.length) = false := decide_eq_false (by omega)
      have HBW := Lib.hid (keep_below hb HB3.out)
      clear hb hnn
      go_wp2_with fail
      go_ret
      exact ⟨by rw [HNN.out]; rfl, HBW.out⟩
set_option maxRecDepth 20000 in
theorem vHere_any {w : World} {S : Nat → Nat → Prop} {U : Nat → Prop} {x : VX} {aw : List Bool} {ds : List DevD} (h : VdIn w S U x aw ds) (few : x.bd.length ≤ 1000) (d : Int) :
    Calls Try.prog 14 #[x.val, .int .i64 d] w fun e w' => e = .returned (.bool (decide (0 ≤ d) && (decide (d < x.bd.length) && hereD aw ds d.toNat))) ∧ Below w.heap.size w w' := by
  obtain ⟨w1, hw1⟩ : ∃ y, w.alloc (.cells x.cells 31) = y := ⟨_, rfl⟩
  have B1 : Blk w1 w.heap.size 31 x.cells := by rw [← hw1]; exact Blk.new _ _ _
  have D1 : Below w.heap.size w w1 := by rw [← hw1]; exact keep_alloc (Below.refl _ _) _
  have h1 := h.below D1
  have HR := Lib.hid (vright_any h1 few)
  have HB1 := Lib.hid B1
  have HD1 := Lib.hid D1
  have HW1 := Lib.hid hw1
  have HV := Lib.hid h1
  have x0 := B1.at_ (i := 0) (v := .slice (some ⟨x.gb, 0, none⟩) x.m x.cc) rfl
  have x1 := B1.at_ (i := 1) (v := .int .i64 x.secs) rfl
  have x2 := B1.at_ (i := 2) (v := .slice (some ⟨x.lb, 0, none⟩) x.bd.length x.lc) rfl
  have x3 := B1.at_ (i := 3) (v := .slice (some ⟨x.ab, 0, none⟩) x.bd.length x.bd.length) rfl
  clear h h1 B1 D1 hw1
  go_enter Try.func14, Try.ntmps14
  by_cases h0 : 0 ≤ d
  · have hd0 : decide (0 ≤ d) = true := decide_eq_true h0
    by_cases hl : d < x.bd.length
    · have hd1 : decide (d < (x.bd.length : Int)) = true := decide_eq_true hl
      obtain ⟨i, rfl⟩ := Int.eq_ofNat_of_zero_le h0
      have hil : i < x.bd.length := by omega
      have HH := Lib.hid (fun (W : World) (hb : Below w1.heap.size w1 W) => hereV_any (HV.out.below hb) hil)
      have hres : (decide ((0 : Int) ≤ (i : Int)) && (decide ((i : Int) < x.bd.length) && hereD aw ds (i : Int).toNat)) = hereD aw ds i := by rw [hd0, hd1, Int.toNat_natCast]; simp
      rw [hres]
      have hd2 : decide (i < x.bd.length) = true := decide_eq_true hil
      clear hres hl hd1 h0 hd0
      go_wp2_with fail
      rw [HW1.out]
      go_wp2_with fail
      refine HR.out.mono ?_
      rintro e w2 ⟨rfl, hb2⟩
      have HB2 := Lib.hid hb2
      have x0 := keepc x0 hb2
      have x1 := keepc x1 hb2
      have x2 := keepc x2 hb2
      have x3 := keepc x3 hb2
      clear hb2
      go_wp2_with fail
      refine (HH.out w2 HB2.out).mono ?_
      rintro e w3 ⟨rfl, hb3⟩
      have HB3 := Lib.hid (keep_below (keep_below hb3 HB2.out) HD1.out)
      clear hb3
      go_wp2_with fail
      go_ret
      exact ⟨rfl, HB3.out⟩
    · have hd1 : decide (d < (x.bd.length : Int)) = false := decide_eq_false hl
      have hres : (decide ((0 : Int) ≤ d) && (decide (d < x.bd.length) && hereD aw ds d.toNat)) = false := by rw [hd1]; simp
      rw [hres]
      clear hres hl h0
      go_wp2_with fail
      rw [HW1.out]
      go_wp2_with fail
      refine HR.out.mono ?_
      rintro e w2 ⟨rfl, hb2⟩
      have HB2 := Lib.hid (keep_below hb2 HD1.out)
      have x2 := keepc x2 hb2
      clear hb2
      go_wp2_with fail
      go_ret
      exact ⟨rfl, HB2.out⟩
  · have hd0 : decide (0 ≤ d) = false := decide_eq_false h0
    have hres : (decide ((0 : Int) ≤ d) && (decide (d < x.bd.length) && hereD aw ds d.toNat)) = false := by rw [hd0]; rfl
    rw [hres]
    clear hres h0
    go_wp2_with fail
    rw [HW1.out]
    go_wp2_with fail
    refine HR.out.mono ?_
    rintro e w2 ⟨rfl, hb2⟩
    have HB2 := Lib.hid (keep_below hb2 HD1.out)
    have x2 := keepc x2 hb2
    clear hb2
    go_wp2_with fail
    go_ret
    exact ⟨rfl, HB2.out⟩
/-- The zero Devs are no measure's. -/
theorem vrightZ (w : World) : Calls Try.prog 13 #[.agg vZ] w fun e w' => e = .returned (.bool false) ∧ Below w.heap.size w w' := by
  obtain ⟨w1, hw1⟩ : ∃ y, w.alloc (.cells vZ 31) = y := ⟨_, rfl⟩
  have B1 : Blk w1 w.heap.size 31 vZ := by rw [← hw1]; exact Blk.new _ _ _
  have D1 : Below w.heap.size w w1 := by rw [← hw1]; exact keep_alloc (Below.refl _ _) _
  have HG : Hid (∀ W, Below w1.heap.size w1 W → Calls Try.prog 33 #[.agg #[.slice none 0 0, .int .i64 0]] W fun e w' => e = .returned (.bool false) ∧ Below W.heap.size W w') := Lib.hid (fun W _ => by
    exact right_any none 0 0 [] 0 W ⟨rfl, by decide, fun h => absurd h (Nat.lt_irrefl 0)⟩)
  have HD1 := Lib.hid D1
  have HB1 := Lib.hid B1
  have HW1 := Lib.hid hw1
  clear D1 B1 hw1
  go_enter Try.func13, Try.ntmps13
  repeat' (first
    | go_values
    | go_skip
    | go_guarded
    | ((fail_if_success (with_reducible refine drawn_mark ?_))
       first
         | go_step
         | go_upon
         | go_back
         | (simp only [Int.not_lt, Int.not_le] at *; go_simp)
         | (go_values <;> (try go_simp))
         | (go_ite <;> go_prune <;> (try go_simp))
         | (split <;> (first | (rename_i hx; exact (hx _ rfl).elim) | go_prune))))
  rw [HW1.out]
  obtain ⟨C, hCd, hCw, hCB, hCK, hCD⟩ := cls_below w1
  have f0 : ∀ W, C W → W.cell? ⟨w.heap.size, 0, none⟩ = some (.slice none 0 0) := fun W h => keep_cell (hCB W h) (HB1.out.at_ rfl) HB1.out.lt
  have f1 : ∀ W, C W → W.cell? ⟨w.heap.size, 1, none⟩ = some (.int .i64 0) := fun W h => keep_cell (hCB W h) (HB1.out.at_ rfl) HB1.out.lt
  refine wp_region_cls C (by kernel_rfl) (by kernel_rfl) hCd ?_
  repeat (first
    | go_big_quiet_skip
    | (go_big_quiet_want
       go_big_quiet_op
       first
         | go_big_quiet_on
         | (apply Exists.intro
            refine ⟨fun W hW => ?_, ?_⟩
            · first
                | exact rfl
                | exact ⟨rfl, rfl⟩
                | (have e0 := f0 W hW; have e1 := f1 W hW; simp only [e0, e1, Result.andThen_ok]; done)
                | (have e0 := f0 W hW; have e1 := f1 W hW; simp only [e0, e1, Result.andThen_ok]; first | exact ⟨trivial, rfl⟩ | exact rfl | exact ⟨rfl, rfl⟩)
                | (with_reducible refine (HG.out W (hCB W hW)).mono ?_; rintro e w' ⟨rfl, hb⟩; exact ⟨rfl, hCK _ _ hW hb⟩)
            go_big_quiet_on)))
  refine wpQuiet_nil ?_
  intro w2 hw2
  have HC2 := Lib.hid (keep_below (hCB w2 hw2) HD1.out)
  clear hCd hCw hCB hCK hCD f0 f1 hw2
  go_wp2_with fail
  go_ret
  exact ⟨rfl, HC2.out⟩
theorem vhereZ (d : Int) (w : World) : Calls Try.prog 14 #[.agg vZ, .int .i64 d] w fun e w' => e = .returned (.bool false) ∧ Below w.heap.size w w' := by
  obtain ⟨w1, hw1⟩ : ∃ y, w.alloc (.cells vZ 31) = y := ⟨_, rfl⟩
  have B1 : Blk w1 w.heap.size 31 vZ := by rw [← hw1]; exact Blk.new _ _ _
  have D1 : Below w.heap.size w w1 := by rw [← hw1]; exact keep_alloc (Below.refl _ _) _
  have x0 := B1.at_ (i := 0) (v := .slice none 0 0) rfl
  have x1 := B1.at_ (i := 1) (v := .int .i64 0) rfl
  have x2 := B1.at_ (i := 2) (v := .slice none 0 0) rfl
  have x3 := B1.at_ (i := 3) (v := .slice none 0 0) rfl
  have HD1 := Lib.hid D1
  have HW1 := Lib.hid hw1
  clear D1 B1 hw1
  go_enter Try.func14, Try.ntmps14
  go_wp2_with fail
  rw [HW1.out]
  go_wp2_with fail
  refine (vrightZ w1).mono ?_
  rintro e w2 ⟨rfl, hb2⟩
  have HB2 := Lib.hid (keep_below hb2 HD1.out)
  clear hb2
  go_wp2_with fail
  go_ret
  exact ⟨rfl, HB2.out⟩
/-- Devices, some of them lost. -/
theorem lsT_ok {ll : List Bool} {n k secs : Nat} (h1 : 1 ≤ secs) (h2 : secs ≤ 4096) : DsOk 0 secs (lsT ll (DevD.blank secs 0) n k) := fun d hd => by
  unfold lsT at hd
  obtain ⟨i, _, rfl⟩ := List.mem_map.1 hd
  split
  · exact ⟨(blank_ok h1 h2).lose, by simp [DevD.blank, DevD.lose], rfl, fun k => Nat.zero_le _⟩
  · exact ⟨blank_ok h1 h2, by simp [DevD.blank], rfl, fun k => Nat.zero_le _⟩
theorem lsT_here {al ll : List Bool} {n secs i : Nat} (hi : i < n) : hereD (awT al n n) (lsT ll (DevD.blank secs 0) n n) i = (!bAt al i && !bAt ll i) := by
  rw [hereD_at (awT_at hi) (lsT_at hi), decide_eq_true hi, Bool.true_and, Bool.true_and]
  cases bAt ll i <;> rfl
theorem hrT_bAt {al ll : List Bool} {n i : Nat} (hi : i < n) : bAt (hrT al ll n) i = (!bAt al i && !bAt ll i) := by
  unfold bAt hrT
  rw [List.getD_eq_getElem?_getD, List.getElem?_map, List.getElem?_range hi]
  rfl
/-- How many are not here. -/
def outN (hr : List Bool) (k : Nat) : Nat := ((List.range k).filter fun i => !bAt hr i).length
theorem outN_step {hr : List Bool} {k : Nat} : outN hr (k + 1) = outN hr k + if bAt hr k then 0 else 1 := by
  unfold outN
  rw [List.range_succ, List.filter_append, List.length_append]
  cases h : bAt hr k <;> simp [h]
theorem outN_le (hr : List Bool) (k : Nat) : outN hr k ≤ k := by
  unfold outN
  exact Nat.le_trans (List.length_filter_le _ _) (by simp)
theorem goneN_same {aw : List Bool} {ds : List DevD} {hr : List Bool} {n : Nat} (h : ∀ i, i < n → hereD aw ds i = bAt hr i) : goneN aw ds n = outN hr n := by
  unfold goneN outN
  congr 1
  apply List.filter_congr
  intro i hi
  rw [h i (List.mem_range.1 hi)]
theorem refFailed_n (A : Option Addr) (m c : Nat) (gs : List (Int × Int)) (secs pg pa size : Int) {hv : Value} {hr : List Bool} {n : Nat} (hn : hr.length = n) {w : World} (hg : GeoAt w A m gs) (hp : cMay gs secs pg pa size = true) (hh : SlAt w hv n (boolC hr)) (f1 : n ≤ 1000) :
    Calls Try.prog 18 #[.agg #[.slice A m c, .int .i64 secs], .agg #[.int .i64 pg, .int .i64 pa], .int .i64 size, hv] w fun e w' => e = .returned (.int .i64 (failN (colsOf gs secs pg pa size) (bAt hr) n)) ∧ Below w.heap.size w w' := by
  subst hn
  exact refFailed_any A m c gs secs pg pa size hg hp hh f1
end Go.Proofs.Ytppccdbfnhgdbaa

namespace Go.Proofs.Ytppccdbfnhgdbaa
set_option linter.unusedVariables false
set_option linter.unusedSimpArgs false
open Go.RowKit

def fitP (s : List UInt8) : Bool := !s.isEmpty && ((s.length : Int) != 64)
def fitsB (gs : List (Int × Int)) (secs pg pa size : Int) (got : List (List UInt8)) : Bool := cMay gs secs pg pa size && (got.length == (colsOf gs secs pg pa size).length) && !got.any fitP
def badL (gs : List (Int × Int)) (secs pg pa : Int) (s : List UInt8) (got : List (List UInt8)) : List Nat :=
  if decide (encE gs secs pg pa s = 0) && fitsB gs secs pg pa (secN s) got then (List.range (encL gs secs pg pa s).length).filter fun i => (encL gs secs pg pa s).getD i [] != got.getD i [] else []
theorem fitOne_any (s : List UInt8) (w : World) : Calls Try.prog 43 #[str s] w fun e w' => e = .returned (.bool (fitP s)) ∧ Below w.heap.size w w' := by
  by_cases h : s = []
  · subst h
    go_enter Try.func43, Try.ntmps43
    go_wp2_with fail
    go_ret
    exact ⟨rfl, Below.refl _ _⟩
  · have hb : s.isEmpty = false := by simpa using h
    cases h2 : ((s.length : Int) != 64) with
    | false =>
      have HF : Hid (fitP s = false) := Lib.hid (by unfold fitP; rw [hb, h2]; rfl)
      go_enter Try.func43, Try.ntmps43
      go_wp2_with fail
      go_ret
      exact ⟨by rw [HF.out]; rfl, Below.refl _ _⟩
    | true =>
      have HF : Hid (fitP s = true) := Lib.hid (by unfold fitP; rw [hb, h2]; rfl)
      go_enter Try.func43, Try.ntmps43
      go_wp2_with fail
      go_ret
      exact ⟨by rw [HF.out]; rfl, Below.refl _ _⟩
theorem goesFit : ∀ (args : Array Value) (w : World), (callFunc 43 args).run Try.prog w = .ok (.enter 43 args) w := enters_of Try.func43 (by kernel_rfl) (by kernel_rfl)
theorem ofList_bad {gs : List (Int × Int)} {secs pg pa size : Int} (h : ofErr gs secs pg pa size ≠ 0) : cMay gs secs pg pa size = false := by
  unfold ofErr at h
  split at h
  · exact absurd rfl h
  · rename_i h2; simpa using h2
theorem ofErr_ok {gs : List (Int × Int)} {secs pg pa size : Int} (h : ofErr gs secs pg pa size = 0) : cMay gs secs pg pa size = true ∧ ofList gs secs pg pa size = colsOf gs secs pg pa size := by
  unfold ofErr at h
  split at h
  · rename_i h2; exact ⟨h2, by unfold ofList; rw [if_pos h2]⟩
  · cases h
set_option maxRecDepth 20000 in
theorem fits_any (A : Option Addr) (m cc : Nat) (gs : List (Int × Int)) (secs pg pa size : Int) {gv : Value} {got : List (List UInt8)} {w : World} (hg : GeoAt w A m gs) (hs : SlAt w gv got.length (strC got)) :
    Calls Try.prog 22 #[.agg #[.slice A m cc, .int .i64 secs], .agg #[.int .i64 pg, .int .i64 pa], .int .i64 size, gv] w fun e w' => e = .returned (.bool (fitsB gs secs pg pa size got)) ∧ Below w.heap.size w w' := by
  obtain ⟨w2, hw2⟩ : ∃ z, (w.alloc (.cells #[.slice A m cc, .int .i64 secs] 24)).alloc (.cells #[.int .i64 pg, .int .i64 pa] 26) = z := ⟨_, rfl⟩
  have D2 : Below w.heap.size w w2 := by rw [← hw2]; exact keep_alloc (keep_alloc (Below.refl _ _) _) _
  have HO := Lib.hid (of_any A m cc gs secs pg pa size w2 (hg.below D2 (Nat.le_refl _)))
  have HSL := Lib.hid (hs.below D2)
  obtain ⟨Ag, cg, rfl⟩ := hs.form
  have HD2 := Lib.hid D2
  have HW2 := Lib.hid hw2
  clear hg hs D2 hw2
  obtain ⟨oe, hoe0⟩ : ∃ oe, ofErr gs secs pg pa size = oe := ⟨_, rfl⟩
  rw [hoe0] at HO
  have HOE := Lib.hid hoe0
  clear hoe0
  go_enter Try.func22, Try.ntmps22
  go_wp2_with fail
  rw [HW2.out]
  refine HO.out.mono ?_
  rintro e w3 ⟨cv, rfl, hcol, hb3⟩
  have HB3 := Lib.hid (keep_below hb3 HD2.out)
  by_cases hoe : oe = 0
  · subst hoe
    obtain ⟨z1, z2⟩ := ofErr_ok HOE.out
    rw [z2] at hcol
    obtain ⟨Ac, ccap, rfl⟩ := (slAt_own hcol).form
    have hF : fitsB gs secs pg pa size got = ((got.length == (colsOf gs secs pg pa size).length) && !got.any fitP) := by unfold fitsB; rw [z1, Bool.true_and]
    have h64 : (colsOf gs secs pg pa size).length ≤ 64 := by rw [← z2]; exact ofList_le _ _ _ _ _
    obtain ⟨ln, hln⟩ : ∃ ln, (colsOf gs secs pg pa size).length = ln := ⟨_, rfl⟩
    rw [hln] at hF h64
    rw [hln]
    have HF := Lib.hid hF
    have HS3 := Lib.hid (HSL.out.below hb3)
    clear hcol hb3 z1 z2 hF hln
    by_cases hq : got.length = ln
    · have hd : ((got.length : Int) != ln) = false := by rw [bne_eq_false_iff_eq]; omega
      have HQ : Hid ((got.length == ln) = true) := Lib.hid (beq_iff_eq.2 hq)
      have hcon := Lib.hid (conStr_any 43 #[] fitP HS3.out (by omega) goesFit (fun x W _ _ => fitOne_any x W))
      clear hq
      go_wp2_with fail
      refine hcon.out.mono ?_
      rintro e w4 ⟨rfl, hb4⟩
      have HB4 := Lib.hid (keep_below hb4 HB3.out)
      clear hb4
      go_wp2_with fail
      go_ret
      exact ⟨by rw [HF.out, HQ.out]; rfl, HB4.out⟩
    · have hd : ((got.length : Int) != ln) = true := by rw [bne_iff_ne]; omega
      have HQ : Hid ((got.length == ln) = false) := Lib.hid (beq_eq_false_iff_ne.2 hq)
      clear hq
      go_wp2_with fail
      go_ret
      exact ⟨by rw [HF.out, HQ.out]; rfl, HB3.out⟩
  · have hne : (oe != 0) = true := bne_iff_ne.2 hoe
    have hF : fitsB gs secs pg pa size got = false := by unfold fitsB; rw [ofList_bad (by rw [HOE.out]; exact hoe)]; rfl
    have HF := Lib.hid hF
    clear hcol hb3 hoe hF
    go_wp2_with fail
    go_ret
    exact ⟨by rw [HF.out]; rfl, HB3.out⟩
theorem own_base {W : World} {base base' : Nat} {e : TypeId} {size : Nat} {v : Value} {k : Nat} {xs : List Value} (h : W.ownsRow base e size v k xs) (hb : base' ≤ base) : W.ownsRow base' e size v k xs := by
  refine ⟨h.1, ?_⟩
  rcases h.2 with h2 | ⟨g, cap, cur, e1, e2, r⟩
  · exact .inl h2
  · exact .inr ⟨g, cap, cur, e1, Nat.le_trans hb e2, r⟩
/-- The bad ones, as far as k. -/
def badTo (T got : List (List UInt8)) (k : Nat) : List Nat := (List.range k).filter fun i => T.getD i [] != got.getD i []
theorem badTo_step {T got : List (List UInt8)} {k : Nat} {a b : List UInt8} (ha : T[k]? = some a) (hb : got[k]? = some b) : badTo T got (k + 1) = badTo T got k ++ if a != b then [k] else [] := by
  unfold badTo
  rw [List.range_succ, List.filter_append]
  congr 1
  simp [List.getD_eq_getElem?_getD, ha, hb, List.filter_cons]
theorem badTo_len (T got : List (List UInt8)) (k : Nat) : (badTo T got k).length ≤ k := by
  unfold badTo
  exact Nat.le_trans (List.length_filter_le _ _) (by simp)
set_option maxRecDepth 20000 in
set_option maxHeartbeats 1000000 in
theorem bad_any (A : Option Addr) (m cc : Nat) (gs : List (Int × Int)) (secs pg pa : Int) (s : List UInt8) {gv : Value} {got : List (List UInt8)} {w : World} (hg : GeoAt w A m gs) (hs : SlAt w gv got.length (strC got)) (hl : s.length ≤ 1000) :
    Calls Try.prog 21 #[.agg #[.slice A m cc, .int .i64 secs], .agg #[.int .i64 pg, .int .i64 pa], str s, gv] w fun e w' => ∃ v, e = .returned v ∧ w'.ownsRow w.heap.size 3 1 v (badL gs secs pg pa s got).length (ixC (badL gs secs pg pa s got)) ∧ Below w.heap.size w w' := by
  obtain ⟨w2, hw2⟩ : ∃ z, (w.alloc (.cells #[.slice A m cc, .int .i64 secs] 24)).alloc (.cells #[.int .i64 pg, .int .i64 pa] 26) = z := ⟨_, rfl⟩
  have G2 : Blk w2 w.heap.size 24 #[.slice A m cc, .int .i64 secs] := by rw [← hw2]; exact (Blk.new _ _ _).alloc _
  have P2 : Blk w2 (w.heap.size + 1) 26 #[.int .i64 pg, .int .i64 pa] := by rw [← hw2]; exact Blk.new2 w _ _ _
  have D2 : Below w.heap.size w w2 := by rw [← hw2]; exact keep_alloc (keep_alloc (Below.refl _ _) _) _
  have HE := Lib.hid (encode_any A m cc gs secs pg pa s (hg.below D2 (Nat.le_refl _)) (by omega))
  have HSL := Lib.hid (hs.below D2)
  obtain ⟨Ag, cg, rfl⟩ := hs.form
  have HG := Lib.hid hg
  have HG2 := Lib.hid G2
  have HP2 := Lib.hid P2
  have HD2 := Lib.hid D2
  have HW2 := Lib.hid hw2
  have HL := Lib.hid hl
  clear hg hs D2 hw2 G2 P2 hl
  obtain ⟨E, hE⟩ : ∃ E, encE gs secs pg pa s = E := ⟨_, rfl⟩
  rw [hE] at HE
  have HEE := Lib.hid hE
  clear hE
  obtain ⟨i0, hi, hz0, hz1, hz2⟩ := info_parts Try.infoIntR
  go_enter Try.func21, Try.ntmps21
  go_wp2_with fail
  rw [HW2.out]
  refine HE.out.mono ?_
  rintro e w3 ⟨tv, rfl, htv, hb3, hnew⟩
  have HB3 := Lib.hid (keep_below hb3 HD2.out)
  by_cases hz : E = 0
  · subst hz
    obtain ⟨e1, e2, e3⟩ := encE_zero HEE.out
    rw [e3] at htv
    obtain ⟨At, ct, rfl⟩ := htv.form
    have HF := Lib.hid (fits_any A m cc gs secs pg pa (secN s) (HG.out.below HB3.out (Nat.le_refl _)) (HSL.out.below hb3))
    have HT := Lib.hid htv
    have HS3 := Lib.hid (HSL.out.below hb3)
    have g0 := (HG2.out.below hb3 HG2.out.lt).at_ (i := 0) (v := .slice A m cc) rfl
    have g1 := (HG2.out.below hb3 HG2.out.lt).at_ (i := 1) (v := .int .i64 secs) rfl
    have p0 := (HP2.out.below hb3 HP2.out.lt).at_ (i := 0) (v := .int .i64 pg) rfl
    have p1 := (HP2.out.below hb3 HP2.out.lt).at_ (i := 1) (v := .int .i64 pa) rfl
    have hq : Int.tdiv (s.length : Int) 64 = (secN s : Int) := rfl
    have hs15 : secN s ≤ 15 := by have := HL.out; unfold secN; omega
    obtain ⟨fb, hfb⟩ : ∃ fb, fitsB gs secs pg pa (secN s) got = fb := ⟨_, rfl⟩
    rw [hfb] at HF
    have hBL : badL gs secs pg pa s got = if fb then badTo (encL gs secs pg pa s) got (encL gs secs pg pa s).length else [] := by
      unfold badL badTo
      rw [HEE.out, hfb]
      simp
    have hlen : fb = true → got.length = (encL gs secs pg pa s).length ∧ (encL gs secs pg pa s).length ≤ 64 := fun h => by
      rw [h] at hfb
      unfold fitsB at hfb
      simp only [Bool.and_eq_true, beq_iff_eq] at hfb
      rw [encL_len]
      refine ⟨?_, ofList_le _ _ _ _ _⟩
      unfold ofList
      rw [if_pos e2]
      exact hfb.1.2
    have HBL := Lib.hid (And.intro hBL hlen)
    clear hfb hBL hlen e1 e2 e3 htv hb3 hnew
    obtain ⟨T, hT⟩ : ∃ T, encL gs secs pg pa s = T := ⟨_, rfl⟩
    rw [hT] at HT HBL
    rw [hT]
    clear hT
    go_wp2_with fail
    refine HF.out.mono ?_
    rintro e w4 ⟨rfl, hb4⟩
    have HT4 := Lib.hid (HT.out.below hb4)
    have HS4 := Lib.hid (HS3.out.below hb4)
    have HB4 := Lib.hid (keep_below hb4 HB3.out)
    clear g0 g1 p0 p1 hb4
    cases fb with
    | false =>
      go_wp2_with fail
      go_ret
      rw [HBL.out.1]
      exact ⟨_, rfl, World.ownsRow_nil _ _ _ _, HB4.out⟩
    | true =>
      obtain ⟨hl1, hl2⟩ := HBL.out.2 rfl
      have HL1 := Lib.hid hl1
      clear hl1
      go_wp2_with fail
      go_loopw [11, 12, 34] (fun v _ t wr => ∃ k : Nat, k ≤ T.length ∧ t = .int .i64 k ∧ wr.ownsRow w4.heap.size 3 1 v (badTo T got k).length (ixC (badTo T got k)) ∧ Below w4.heap.size w4 wr) (fun _ _ t _ => T.length - (RowKit.intOf t).toNat)
      case atStart => exact ⟨0, Nat.zero_le _, rfl, World.ownsRow_nil _ _ _ _, Below.refl _ _⟩
      case round =>
        obtain ⟨k, hk, rfl, hown, hb⟩ := hrel
        by_cases hlt : k < T.length
        · obtain ⟨a, ha⟩ : ∃ a, T[k]? = some a := ⟨_, List.getElem?_eq_getElem hlt⟩
          obtain ⟨b, hbb⟩ : ∃ b, got[k]? = some b := ⟨_, List.getElem?_eq_getElem (by rw [HL1.out]; exact hlt)⟩
          obtain ⟨b1, o1, rfl, hl3, hc1⟩ := HT4.out.cells (by omega)
          obtain ⟨b2, o2, rfl, hl4, hc2⟩ := HS4.out.cells (by rw [HL1.out]; omega)
          have e1 := hc1 k (str a) (strC_at ha)
          have e2 := hc2 k (str b) (strC_at hbb)
          have hst := badTo_step ha hbb
          have hdc : decide (k < T.length) = true := decide_eq_true hlt
          have hkg : k < got.length := by rw [HL1.out]; exact hlt
          have HB := Lib.hid hb
          have HO := Lib.hid hown
          have HLT := Lib.hid hlt
          have hbl := badTo_len T got k
          obtain ⟨C, hCd, hCw, hCB, hCK, hCD⟩ := cls_below wr
          have f1 : ∀ W, C W → W.cell? ⟨b1, o1 + k, none⟩ = some (str a) := fun W h => keep_cell (hCB W h) (keep_cell hb e1 hl3) (Nat.lt_of_lt_of_le hl3 hb.size)
          have f2 : ∀ W, C W → W.cell? ⟨b2, o2 + k, none⟩ = some (str b) := fun W h => keep_cell (hCB W h) (keep_cell hb e2 hl4) (Nat.lt_of_lt_of_le hl4 hb.size)
          clear hc1 hc2 e1 e2 ha hbb hb hown hCw hCK hCD hl3 hl4
          by_cases hab : a = b
          · have HST : Hid (badTo T got (k + 1) = badTo T got k) := Lib.hid (by rw [hst, hab]; simp)
            subst hab
            clear hst
            go_wp2_with fail
            refine wp_region_cls C (by kernel_rfl) (by kernel_rfl) hCd ?_
            repeat (first
              | go_big_quiet_skip
              | (go_big_quiet_want
                 go_big_quiet_op
                 first
                   | go_big_quiet_on
                   | (apply Exists.intro
                      refine ⟨fun W hW => ?_, ?_⟩
                      · first
                          | exact rfl
                          | exact ⟨rfl, rfl⟩
                          | (have e0 := f1 W hW; have e1 := f2 W hW; simp only [e0, e1, Result.andThen_ok]; done)
                          | (have e0 := f1 W hW; have e1 := f2 W hW; simp only [e0, e1, Result.andThen_ok]; first | exact ⟨trivial, rfl⟩ | exact rfl | exact ⟨rfl, rfl⟩)
                          | (skip)
                      go_big_quiet_on)))
            refine wpQuiet_nil ?_
            intro wz hwz
            have HBZ := Lib.hid (hCB wz hwz)
            clear f1 f2 hCd hCB hwz
            go_wp2_with fail
            go_roundw
            case rel => exact ⟨k + 1, HLT.out, by go_num, by rw [HST.out]; exact ownsRow_same HO.out (fun b hb => HBZ.out.block b (HO.out.lt b hb).2), HB.out.trans (HBZ.out.mono HB.out.size)⟩
            case measure => have := HLT.out; simp [RowKit.intOf]; omega
          · have HST : Hid (badTo T got (k + 1) = badTo T got k ++ [k]) := Lib.hid (by rw [hst]; simp [hab])
            have hab2 : (a == b) = false := beq_eq_false_iff_ne.2 hab
            have hab3 : (a != b) = true := bne_iff_ne.2 hab
            clear hst hab
            go_wp2_with fail
            refine wp_region_cls C (by kernel_rfl) (by kernel_rfl) hCd ?_
            repeat (first
              | go_big_quiet_skip
              | (go_big_quiet_want
                 go_big_quiet_op
                 first
                   | go_big_quiet_on
                   | (apply Exists.intro
                      refine ⟨fun W hW => ?_, ?_⟩
                      · first
                          | exact rfl
                          | exact ⟨rfl, rfl⟩
                          | (have e0 := f1 W hW; have e1 := f2 W hW; simp only [e0, e1, Result.andThen_ok]; done)
                          | (have e0 := f1 W hW; have e1 := f2 W hW; simp only [e0, e1, Result.andThen_ok]; first | exact ⟨trivial, rfl⟩ | exact rfl | exact ⟨rfl, rfl⟩)
                          | (skip)
                      go_big_quiet_on)))
            refine wpQuiet_nil ?_
            intro wz hwz
            have HBZ := Lib.hid (HB.out.trans ((hCB wz hwz).mono HB.out.size))
            have HOZ : Hid (wz.ownsRow w4.heap.size 3 1 u11 (badTo T got k).length (ixC (badTo T got k))) := Lib.hid (ownsRow_same HO.out (fun b hb => (hCB wz hwz).block b (HO.out.lt b hb).2))
            obtain ⟨q, hq'⟩ : ∃ q, badTo T got k = q := ⟨_, rfl⟩
            rw [hq'] at HOZ HST hbl
            clear f1 f2 hCd hCB hwz hq' HO
            go_wp2_with (at_builtin; refine wpList_append_own _ rfl _ _ 59 rfl w4.heap.size 3 i0 _ 1 8 Try.underlying59 hi hz0 hz1 hz2 rfl (by decide) _ _ _ rfl (HOZ.out.alloc _) ⟨wz.heap.size, 0, none⟩ 1 1 [.int .i64 k] rfl rfl ?c1 ?c2 (by unfold maxLen; omega) (by omega) ?c5 ?_)
            try (case c1 => exact one_new' _ _ _)
            case c2 => first | rfl | (intro u hu; simp at hu; subst hu; rfl)
            case c5 => have := HBZ.out.size; simp; omega
            intro v' w5 hown' hgrow _
            have hown5 : w5.ownsRow w4.heap.size 3 1 v' (badTo T got (k + 1)).length (ixC (badTo T got (k + 1))) := by
              rw [HST.out, ixC_snoc, List.length_append]
              exact hown'
            have hb5 : Below w4.heap.size w4 w5 := (HBZ.out.alloc HBZ.out.size _).grown hgrow (by have := HBZ.out.size; simp; omega) (fun k hk => (HOZ.out.lt k hk).1)
            have HO5 := Lib.hid hown5
            have HB5 := Lib.hid hb5
            clear hown' hgrow hown5 hb5
            go_wp2_with fail
            go_roundw
            case rel => exact ⟨k + 1, HLT.out, by go_num, HO5.out, HB5.out⟩
            case measure => have := HLT.out; simp [RowKit.intOf]; omega
        · obtain rfl : k = T.length := by omega
          have hdc : decide ((T.length : Int) < T.length) = false := decide_eq_false (by omega)
          have hBL : badL gs secs pg pa s got = badTo T got T.length := by rw [HBL.out.1]; simp
          rw [← hBL] at hown
          have HO := Lib.hid (own_base hown HB4.out.size)
          have HB := Lib.hid (keep_below hb HB4.out)
          clear hown hb hBL
          go_wp2_with fail
          go_ret
          exact ⟨_, rfl, HO.out, HB.out⟩
  · have hne : (E != 0) = true := bne_iff_ne.2 hz
    have hBL : badL gs secs pg pa s got = [] := by unfold badL; rw [decide_eq_false (by rw [HEE.out]; exact hz)]; rfl
    have HBL := Lib.hid hBL
    clear htv hb3 hnew hz hBL
    go_wp2_with fail
    go_ret
    rw [HBL.out]
    exact ⟨_, rfl, World.ownsRow_nil _ _ _ _, HB3.out⟩
end Go.Proofs.Ytppccdbfnhgdbaa
