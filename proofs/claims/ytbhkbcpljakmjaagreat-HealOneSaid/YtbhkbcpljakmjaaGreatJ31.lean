/-
  Contracts of package heal: Whole.
  Bytes that are spoilt, one after the other: plain words; what is read after.
  Blocks all columns of which are as they are to be: plain laws of heal.
  All columns of one place are spoilt: plain law of HealTwo.
  All columns of one of two places are spoilt: plain law.
  One device is out of order: plain law of HealOne.
  One device of an array: lost, fresh.
-/
import Derived.Test.YtbhkbcpljakmjaaGreatJ28
import Derived.Test.YtbhkbcpljakmjaaGreatJ29
import Derived.Test.YtbhkbcpljakmjaaGreatJ17
import Derived.Test.YtbhkbcpljakmjaaGreatJ20
namespace Go.Proofs.YtbhkbcpljakmjaaGreat
set_option linter.unusedVariables false
set_option linter.unusedSimpArgs false
open Go.RowKit

/-- What a predicate on places answers, wherever it is called. -/
def PlPred (fn : FuncId) (caps : Array Value) (p : Int × Int → Bool) (l : List (Int × Int)) (w0 : World) : Prop :=
  ∀ (x : Int × Int) (w : World), x ∈ l → Below w0.heap.size w0 w → Calls Tryz.prog fn (#[.agg #[.int .i64 x.1, .int .i64 x.2]] ++ caps) w fun e w' => e = .returned (.bool (p x)) ∧ Below w.heap.size w w'
set_option maxRecDepth 20000 in
theorem idxPl_any (fn : FuncId) (caps : Array Value) {w : World} {ss : List (Int × Int)} {sv : Value} (p : Int × Int → Bool) (h1 : SlAt w sv ss.length (grC ss)) (f1 : ss.length ≤ 1000000) (hgo : Goes fn) (hp : PlPred fn caps p ss w) :
    Calls Tryz.prog 68 #[sv, .func (.func fn) #[] caps] w fun e w' => e = .returned (.int .i64 (firstAt p ss)) ∧ Below w.heap.size w w' := by
  obtain ⟨A, c1, rfl⟩ := h1.form
  have H1 := Lib.hid h1
  have HP := Lib.hid hp
  clear h1 hp
  unfold Goes at hgo
  go_enter Tryz.func68, Tryz.ntmps68
  go_wp2_with fail
  go_loopw [8] (fun t wr => ∃ k : Nat, k ≤ ss.length ∧ t = .int .i64 k ∧ Below w.heap.size w wr ∧ ∀ j, j < k → ∀ x, ss[j]? = some x → p x = false) (fun t _ => ss.length - (RowKit.intOf t).toNat)
  case atStart => exact ⟨0, Nat.zero_le _, rfl, Below.refl _ _, fun j hj => absurd hj (Nat.not_lt_zero _)⟩
  case round =>
    obtain ⟨k, hk, rfl, hb, hal⟩ := hrel
    have HB := Lib.hid hb
    have HAL := Lib.hid hal
    by_cases hlt : k < ss.length
    · obtain ⟨b, oo, rfl, hbl, hcell⟩ := H1.out.cells (by omega)
      obtain ⟨x, hx⟩ : ∃ x, ss[k]? = some x := ⟨_, List.getElem?_eq_getElem hlt⟩
      obtain ⟨q0, q1⟩ := grC_get hx
      have f0 : wr.cell? ⟨b, oo + k * 2, none⟩ = some (.int .i64 x.1) := (World.cell?_of_block (hb.block b hbl)).trans (hcell _ _ q0)
      have f1' : wr.cell? ⟨b, oo + k * 2 + 1, none⟩ = some (.int .i64 x.2) := (World.cell?_of_block (hb.block b hbl)).trans (hcell _ _ q1)
      have hdc : decide (k < ss.length) = true := decide_eq_true hlt
      have HLT := Lib.hid hlt
      have HXX := Lib.hid hx
      clear hcell hx hb hal hbl q0 q1
      go_wp2_with fail
      refine (HP.out x wr (List.mem_of_getElem? HXX.out) HB.out).mono ?_
      rintro e w1 ⟨rfl, hb1⟩
      have HB1 := Lib.hid (keep_below hb1 HB.out)
      clear hb1
      cases hpx : p x with
      | true =>
        have HE := Lib.hid hpx
        clear hpx
        go_wp2_with fail
        go_ret
        exact ⟨ret_int (firstAt_hit HXX.out HE.out HAL.out).symm, HB1.out⟩
      | false =>
        have HE := Lib.hid hpx
        clear hpx
        go_wp2_with fail
        go_roundw
        case rel =>
          refine ⟨k + 1, HLT.out, by go_num, HB1.out, fun j hj y hy => ?_⟩
          by_cases e : j < k
          · exact HAL.out j e y hy
          · obtain rfl : j = k := by omega
            have h2 := HXX.out
            rw [hy] at h2
            cases h2
            exact HE.out
        case measure => have := HLT.out; simp [RowKit.intOf]; omega
    · obtain rfl : k = ss.length := by omega
      have hdc : decide ((ss.length : Int) < ss.length) = false := decide_eq_false (by omega)
      clear hb hal
      go_wp2_with fail
      go_ret
      exact ⟨ret_int (firstAt_miss HAL.out).symm, HB.out⟩
theorem conPl_any (fn : FuncId) (caps : Array Value) {w : World} {ss : List (Int × Int)} {sv : Value} (p : Int × Int → Bool) (h1 : SlAt w sv ss.length (grC ss)) (f1 : ss.length ≤ 1000000) (hgo : Goes fn) (hp : PlPred fn caps p ss w) :
    Calls Tryz.prog 39 #[sv, .func (.func fn) #[] caps] w fun e w' => e = .returned (.bool (ss.any p)) ∧ Below w.heap.size w w' := by
  have H := Lib.hid (idxPl_any fn caps p h1 f1 hgo hp)
  clear hp hgo h1
  go_enter Tryz.func39, Tryz.ntmps39
  go_wp2_with fail
  refine H.out.mono ?_
  rintro e w1 ⟨rfl, hb1⟩
  go_wp2_with fail
  go_ret
  exact ⟨ret_bool (firstAt_nonneg _ _), hb1⟩
/-- Are all columns as they are to be? -/
def spoilt (gs : List (Int × Int)) (secs : Int) (aw : List Bool) (q : PtrD) (ds : List DevD) (s : List UInt8) (pl : PlX) : Bool := decide (0 < (badL gs secs pl.1 pl.2 s (rawP gs secs q.size aw ds pl)).length)
def wholeV (gs : List (Int × Int)) (secs : Int) (aw : List Bool) (q : PtrD) (ds : List DevD) : Bool :=
  if (lookV gs secs q (rawP gs secs q.size aw ds)).2 = 0 then !(plsL q).any (spoilt gs secs aw q ds (lookV gs secs q (rawP gs secs q.size aw ds)).1.text) else false
theorem goesWhole : Goes 40 := enters_of Tryz.func40 (by kernel_rfl) (by kernel_rfl)
set_option maxRecDepth 20000 in
theorem wholeP_any {w0 : World} {S : Nat → Nat → Prop} {U : Nat → Prop} {y : VX} {aw : List Bool} {ds : List DevD} (h : VdIn w0 S U y aw ds) (few : y.bd.length ≤ 1000) (q : PtrD) (s : List UInt8) (hl : s.length ≤ 1000) {xb pb cb : Nat} {cpl : Int} {cdv cfx : Int} (hx : Blk w0 xb 37 y.cells) (hp : Blk w0 pb 31 #[.int .i64 q.ag, .int .i64 q.aa, .int .i64 q.bg, .int .i64 q.ba, .bool q.two, .int .i64 q.size, .int .i64 q.level, .int .i64 q.birth, .int .u64 q.s0, .int .u64 q.s1, .int .u64 q.s2, .int .u64 q.s3])
    (hc : Blk w0 cb 45 #[str s, .int .i64 cpl, .int .i64 cdv, .int .i64 cfx]) (hm : ∀ pl ∈ plsL q, cMay y.gs y.secs pl.1 pl.2 q.size = true) :
    PlPred 40 #[.pointer (some ⟨xb, 0, none⟩), .pointer (some ⟨pb, 0, none⟩), .pointer (some ⟨cb, 0, none⟩)] (spoilt y.gs y.secs aw q ds s) (plsL q) w0 := by
  intro pl w hpl hb
  have hx1 := hx.below hb hx.lt
  have hp1 := hp.below hb hp.lt
  have hc1 := hc.below hb hc.lt
  obtain ⟨w1, hw1⟩ : ∃ z, w.alloc (.cells #[.int .i64 pl.1, .int .i64 pl.2] 26) = z := ⟨_, rfl⟩
  have hb1 : Below w.heap.size w w1 := by rw [← hw1]; exact keep_alloc (Below.refl _ _) _
  have hX := hx1.below hb1 hx1.lt
  have hP := hp1.below hb1 hp1.lt
  have hC := hc1.below hb1 hc1.lt
  have hBD := bad10_any ((h.below hb).below hb1) few q pl (hm pl hpl) s hl
  obtain ⟨n, hn⟩ : ∃ n, (badL y.gs y.secs pl.1 pl.2 s (rawP y.gs y.secs q.size aw ds pl)).length = n := ⟨_, rfl⟩
  have hsp : spoilt y.gs y.secs aw q ds s pl = decide (0 < n) := by unfold spoilt; rw [hn]
  rw [hsp]
  rw [hn] at hBD
  have HBD := Lib.hid hBD
  have x0 := hX.at_ (i := 0) (v := .slice (some ⟨y.gb, 0, none⟩) y.m y.cc) rfl
  have x1 := hX.at_ (i := 1) (v := .int .i64 y.secs) rfl
  have x2 := hX.at_ (i := 2) (v := .slice (some ⟨y.lb, 0, none⟩) y.bd.length y.lc) rfl
  have x3 := hX.at_ (i := 3) (v := .slice (some ⟨y.ab, 0, none⟩) y.bd.length y.bd.length) rfl
  have p0 := hP.at_ (i := 0) (v := .int .i64 q.ag) rfl
  have p1 := hP.at_ (i := 1) (v := .int .i64 q.aa) rfl
  have p2 := hP.at_ (i := 2) (v := .int .i64 q.bg) rfl
  have p3 := hP.at_ (i := 3) (v := .int .i64 q.ba) rfl
  have p4 := hP.at_ (i := 4) (v := .bool q.two) rfl
  have p5 := hP.at_ (i := 5) (v := .int .i64 q.size) rfl
  have p6 := hP.at_ (i := 6) (v := .int .i64 q.level) rfl
  have p7 := hP.at_ (i := 7) (v := .int .i64 q.birth) rfl
  have p8 := hP.at_ (i := 8) (v := .int .u64 q.s0) rfl
  have p9 := hP.at_ (i := 9) (v := .int .u64 q.s1) rfl
  have p10 := hP.at_ (i := 10) (v := .int .u64 q.s2) rfl
  have p11 := hP.at_ (i := 11) (v := .int .u64 q.s3) rfl
  have c0 := hC.at_ (i := 0) (v := str s) rfl
  have HB1 := Lib.hid hb1
  rw [← hw1] at x0 x1 x2 x3 p0 p1 p2 p3 p4 p5 p6 p7 p8 p9 p10 p11 c0
  have HW1 := Lib.hid hw1
  clear hx hp hc hm hx1 hp1 hc1 hX hP hC hBD hw1 hb1 h hb hn hsp
  show Calls Tryz.prog 40 #[.agg #[.int .i64 pl.1, .int .i64 pl.2], .pointer (some ⟨xb, 0, none⟩), .pointer (some ⟨pb, 0, none⟩), .pointer (some ⟨cb, 0, none⟩)] w _
  go_enter Tryz.func40, Tryz.ntmps40
  go_wp2_with fail
  rw [HW1.out]
  refine HBD.out.mono ?_
  rintro e w2 ⟨v, rfl, hsl, hb2, _⟩
  obtain ⟨Av, cv, rfl⟩ := hsl.form
  have HF := Lib.hid (keep_below hb2 HB1.out)
  clear hsl hb2 x0 x1 x2 x3 p0 p1 p2 p3 p4 p5 p6 p7 p8 p9 p10 p11 c0
  cases hd : decide (0 < n) with
  | true =>
    have hd2 : decide ((0 : Int) < n) = true := decide_eq_true (by have := of_decide_eq_true hd; omega)
    go_wp2_with fail
    go_ret
    exact ⟨by rw [hd]; rfl, HF.out⟩
  | false =>
    have hd2 : decide ((0 : Int) < n) = false := decide_eq_false (by have := of_decide_eq_false hd; omega)
    go_wp2_with fail
    go_ret
    exact ⟨by rw [hd]; rfl, HF.out⟩
set_option maxRecDepth 20000 in
set_option maxHeartbeats 2000000 in
theorem whole10_any {w : World} {S : Nat → Nat → Prop} {U : Nat → Prop} {y : VX} {aw : List Bool} {ds : List DevD} (h : VdIn w S U y aw ds) (few : y.bd.length ≤ 1000) {N : Nat} (ok : DsOk N y.secs ds) (q : PtrD) :
    Calls Tryz.prog 18 #[y.val, .agg #[.int .i64 q.ag, .int .i64 q.aa, .int .i64 q.bg, .int .i64 q.ba, .bool q.two, .int .i64 q.size, .int .i64 q.level, .int .i64 q.birth, .int .u64 q.s0, .int .u64 q.s1, .int .u64 q.s2, .int .u64 q.s3]] w fun e w' => e = .returned (.bool (wholeV y.gs y.secs aw q ds)) ∧ Below w.heap.size w w' := by
  obtain ⟨⟨ct, cpl, cdv, cfx⟩, er, hlv⟩ : ∃ c er, lookV y.gs y.secs q (rawP y.gs y.secs q.size aw ds) = (c, er) := ⟨_, _, rfl⟩
  have hwv : wholeV y.gs y.secs aw q ds = if er = 0 then !(plsL q).any (spoilt y.gs y.secs aw q ds ct) else false := by unfold wholeV; rw [hlv]
  have hsh := look_shape hlv
  have hfl : er = 0 → ct.length ≤ 1000 := fun he => by
    subst he
    have h1 := (hsh.2 rfl).1
    have h2 := (look_found h1 ok hlv).2
    have h3 := cMay_bd ((pls_may h1) (q.ag, q.aa) (by rw [plsL_right h1]; split <;> simp))
    dsimp only at h2
    omega
  obtain ⟨w2, hw2⟩ : ∃ z, (w.alloc (.cells y.cells 37)).alloc (.cells #[.int .i64 q.ag, .int .i64 q.aa, .int .i64 q.bg, .int .i64 q.ba, .bool q.two, .int .i64 q.size, .int .i64 q.level, .int .i64 q.birth, .int .u64 q.s0, .int .u64 q.s1, .int .u64 q.s2, .int .u64 q.s3] 31) = z := ⟨_, rfl⟩
  have B1 : Blk w2 w.heap.size 37 y.cells := by rw [← hw2]; exact (Blk.new _ _ _).alloc _
  have B2 : Blk w2 (w.heap.size + 1) 31 #[.int .i64 q.ag, .int .i64 q.aa, .int .i64 q.bg, .int .i64 q.ba, .bool q.two, .int .i64 q.size, .int .i64 q.level, .int .i64 q.birth, .int .u64 q.s0, .int .u64 q.s1, .int .u64 q.s2, .int .u64 q.s3] := by rw [← hw2]; exact Blk.new2 _ _ _ _
  have D2 : Below w.heap.size w w2 := by rw [← hw2]; exact keep_alloc (keep_alloc (Below.refl _ _) _) _
  have hLK := look_any (h.below D2) few ok q
  rw [hlv] at hLK
  dsimp only [CameD.cells] at hLK
  have HLK := Lib.hid hLK
  have HH := Lib.hid (And.intro (h.below D2) (And.intro hwv (And.intro hsh hfl)))
  have HB := Lib.hid (And.intro B1 B2)
  have HD2 := Lib.hid D2
  have HW2 := Lib.hid hw2
  clear h ok hlv hwv hsh hfl B1 B2 D2 hw2 hLK
  have hB := HB.out
  rw [← HW2.out] at hB
  have x0 := (hB).1.at_ (i := 0) (v := .slice (some ⟨y.gb, 0, none⟩) y.m y.cc) rfl
  have x1 := (hB).1.at_ (i := 1) (v := .int .i64 y.secs) rfl
  have x2 := (hB).1.at_ (i := 2) (v := .slice (some ⟨y.lb, 0, none⟩) y.bd.length y.lc) rfl
  have x3 := (hB).1.at_ (i := 3) (v := .slice (some ⟨y.ab, 0, none⟩) y.bd.length y.bd.length) rfl
  have p0 := (hB).2.at_ (i := 0) (v := .int .i64 q.ag) rfl
  have p1 := (hB).2.at_ (i := 1) (v := .int .i64 q.aa) rfl
  have p2 := (hB).2.at_ (i := 2) (v := .int .i64 q.bg) rfl
  have p3 := (hB).2.at_ (i := 3) (v := .int .i64 q.ba) rfl
  have p4 := (hB).2.at_ (i := 4) (v := .bool q.two) rfl
  have p5 := (hB).2.at_ (i := 5) (v := .int .i64 q.size) rfl
  have p6 := (hB).2.at_ (i := 6) (v := .int .i64 q.level) rfl
  have p7 := (hB).2.at_ (i := 7) (v := .int .i64 q.birth) rfl
  have p8 := (hB).2.at_ (i := 8) (v := .int .u64 q.s0) rfl
  have p9 := (hB).2.at_ (i := 9) (v := .int .u64 q.s1) rfl
  have p10 := (hB).2.at_ (i := 10) (v := .int .u64 q.s2) rfl
  have p11 := (hB).2.at_ (i := 11) (v := .int .u64 q.s3) rfl
  clear hB
  go_enter Tryz.func18, Tryz.ntmps18
  go_wp2_with fail
  rw [HW2.out]
  refine HLK.out.mono ?_
  rintro e w3 ⟨rfl, hb3⟩
  obtain ⟨w4, hw4⟩ : ∃ z, w3.alloc (.cells #[str ct, .int .i64 cpl, .int .i64 cdv, .int .i64 cfx] 45) = z := ⟨_, rfl⟩
  have hb4 : Below w3.heap.size w3 w4 := by rw [← hw4]; exact keep_alloc (Below.refl _ _) _
  have hb24 := keep_below hb4 hb3
  have hN4 : Blk w4 w3.heap.size 45 #[str ct, .int .i64 cpl, .int .i64 cdv, .int .i64 cfx] := by rw [← hw4]; exact Blk.new _ _ _
  have HB4 := Lib.hid (And.intro (And.intro (HB.out.1.below hb24 HB.out.1.lt) (HB.out.2.below hb24 HB.out.2.lt)) hN4)
  have HD4 := Lib.hid (And.intro (keep_below hb24 HD2.out) (HH.out.1.below hb24))
  have HW4 := Lib.hid hw4
  clear x0 x1 x2 x3 p0 p1 p2 p3 p4 p5 p6 p7 p8 p9 p10 p11 hb3 hw4 hb4 hb24 hN4
  by_cases her : er = 0
  · have hq := (HH.out.2.2.1.2 her).1
    have hpm := wholeP_any HD4.out.2 few q ct (HH.out.2.2.2 her) HB4.out.1.1 HB4.out.1.2 HB4.out.2 (pls_may hq)
    have hwv := HH.out.2.1
    rw [if_pos her] at hwv
    have HWV := Lib.hid hwv
    have HPM := Lib.hid hpm
    have HPL := Lib.hid (places2_any q w4)
    have hl2 := plsL_len q
    obtain ⟨L, hL⟩ : ∃ L, plsL q = L := ⟨_, rfl⟩
    rw [hL] at HPL HPM HWV hl2
    subst her
    have hB := HB4.out.1
    rw [← HW4.out] at hB
    have x0 := (hB).1.at_ (i := 0) (v := .slice (some ⟨y.gb, 0, none⟩) y.m y.cc) rfl
    have x1 := (hB).1.at_ (i := 1) (v := .int .i64 y.secs) rfl
    have x2 := (hB).1.at_ (i := 2) (v := .slice (some ⟨y.lb, 0, none⟩) y.bd.length y.lc) rfl
    have x3 := (hB).1.at_ (i := 3) (v := .slice (some ⟨y.ab, 0, none⟩) y.bd.length y.bd.length) rfl
    have p0 := (hB).2.at_ (i := 0) (v := .int .i64 q.ag) rfl
    have p1 := (hB).2.at_ (i := 1) (v := .int .i64 q.aa) rfl
    have p2 := (hB).2.at_ (i := 2) (v := .int .i64 q.bg) rfl
    have p3 := (hB).2.at_ (i := 3) (v := .int .i64 q.ba) rfl
    have p4 := (hB).2.at_ (i := 4) (v := .bool q.two) rfl
    have p5 := (hB).2.at_ (i := 5) (v := .int .i64 q.size) rfl
    have p6 := (hB).2.at_ (i := 6) (v := .int .i64 q.level) rfl
    have p7 := (hB).2.at_ (i := 7) (v := .int .i64 q.birth) rfl
    have p8 := (hB).2.at_ (i := 8) (v := .int .u64 q.s0) rfl
    have p9 := (hB).2.at_ (i := 9) (v := .int .u64 q.s1) rfl
    have p10 := (hB).2.at_ (i := 10) (v := .int .u64 q.s2) rfl
    have p11 := (hB).2.at_ (i := 11) (v := .int .u64 q.s3) rfl
    clear hB hq hpm hwv hL
    go_wp2_with fail
    rw [HW4.out]
    refine HPL.out.mono ?_
    rintro e w5 ⟨⟨pv, rfl, hsl, _⟩, hb5⟩
    have hp5 : PlPred 40 #[.pointer (some ⟨w.heap.size, 0, none⟩), .pointer (some ⟨w.heap.size + 1, 0, none⟩), .pointer (some ⟨w3.heap.size, 0, none⟩)] (spoilt y.gs y.secs aw q ds ct) L w5 := fun x W hx hW => HPM.out x W hx (keep_below hW hb5)
    have hcp := conPl_any 40 _ (spoilt y.gs y.secs aw q ds ct) hsl (by omega) goesWhole hp5
    obtain ⟨Ap, cp, rfl⟩ := hsl.form
    have HCP := Lib.hid hcp
    have HD5 := Lib.hid (keep_below hb5 HD4.out.1)
    clear x0 x1 x2 x3 p0 p1 p2 p3 p4 p5 p6 p7 p8 p9 p10 p11 hb5 hsl hp5 hcp
    go_wp2_with fail
    refine HCP.out.mono ?_
    rintro e w6 ⟨rfl, hb6⟩
    have HD6 := Lib.hid (keep_below hb6 HD5.out)
    clear hb6
    go_wp2_with fail
    go_ret
    rw [HWV.out]
    exact ⟨rfl, HD6.out⟩
  · have hwv := HH.out.2.1
    rw [if_neg her] at hwv
    have HWV := Lib.hid hwv
    have hner : (er != 0) = true := bne_iff_ne.2 her
    clear hwv her
    go_wp2_with fail
    rw [HW4.out]
    go_ret
    rw [HWV.out]
    exact ⟨rfl, HD4.out.1⟩
end Go.Proofs.YtbhkbcpljakmjaaGreat

namespace Go.Proofs.YtbhkbcpljakmjaaGreat
set_option linter.unusedVariables false
set_option linter.unusedSimpArgs false
open Go.RowKit

theorem readD_ok {gs : List (Int × Int)} {secs N : Nat} {aw : List Bool} {ds : List DevD} {q : PtrD} {full : Bool} (ok : DsOk N secs ds) : DsOk (N + 128) secs (readD full gs secs aw q ds) := by
  unfold readD
  split
  · exact (mendAll_ok _ _ ok).mono (by have := plsL_len q; rw [List.length_take]; omega)
  · exact ok.mono (by omega)
end Go.Proofs.YtbhkbcpljakmjaaGreat

namespace Go.Proofs.YtbhkbcpljakmjaaGreat
set_option linter.unusedVariables false
set_option linter.unusedSimpArgs false
open Go.RowKit

def AllHere (aw : List Bool) (ds : List DevD) (n : Nat) : Prop := ∀ i, i < n → hereD aw ds i = true
/-- Each place holds the block. -/
def Full (gs : List (Int × Int)) (secs : Int) (aw : List Bool) (q : PtrD) (s : List UInt8) (ds : List DevD) : Prop := ∀ pl ∈ plsL q, rawP gs secs q.size aw ds pl = encL gs secs pl.1 pl.2 s
section
variable {gs : List (Int × Int)} {secs n N : Nat} {aw : List Bool} {ds : List DevD} {q : PtrD} {s : List UInt8}
theorem backG_full {L : List Col} {T : List (List UInt8)} {hs : Nat → Bool} (hT : T.length = L.length) (h : ∀ i, i < L.length → hs (L.getD i (0, 0, false, 0)).1.toNat = true) : backG L T hs = T := by
  apply List.ext_getElem?
  intro i
  by_cases hi : i < L.length
  · have h1 := backG_get (T := T) (hs := hs) hi
    rw [h i hi, if_pos rfl] at h1
    rw [List.getD_eq_getElem?_getD, List.getElem?_eq_getElem (by rw [backG_len]; exact hi), List.getD_eq_getElem?_getD, List.getElem?_eq_getElem (by omega)] at h1
    rw [List.getElem?_eq_getElem (by rw [backG_len]; exact hi), List.getElem?_eq_getElem (by omega)]
    exact congrArg some h1
  · rw [List.getElem?_eq_none (by rw [backG_len]; omega), List.getElem?_eq_none (by omega)]
theorem back_all {pl : PlX} (hr : gRight gs secs = true) (hn : gSum gs = n) (hE : encE gs secs pl.1 pl.2 s = 0) (hh : AllHere aw ds n) : backG (colsOf gs secs pl.1 pl.2 (secN s)) (encL gs secs pl.1 pl.2 s) (hereD aw ds) = encL gs secs pl.1 pl.2 s := by
  obtain ⟨e1, e2, e3⟩ := encE_zero hE
  have hc := cols_of hr hn hE
  rw [ofList_may e2] at hc
  refine backG_full (enc_encL e2).len fun i hi => ?_
  obtain ⟨c1, c2, _, _⟩ := hc.inn i _ (colD_in hi)
  exact hh _ (by omega)
theorem mendAt_all {pl : PlX} (hh : AllHere aw ds n) : AllHere aw (mendAt gs secs aw s ds pl) n := fun i hi => by rw [mendAt_hereD]; exact hh i hi
theorem raw_mend_full {pl : PlX} (hr : gRight gs secs = true) (hn : gSum gs = n) (hl : ds.length = n) (ok : DsOk N secs ds) (hE : encE gs secs pl.1 pl.2 s = 0) (hh : AllHere aw ds n) : rawP gs secs (secN s) aw (mendAt gs secs aw s ds pl) pl = encL gs secs pl.1 pl.2 s := by
  rw [raw_mend hr hn hl ok hE, back_all hr hn hE hh]
/-- What a right pointer's places are. -/
theorem pls_cases (hq : rightB gs secs q = true) : (∃ pl, plsL q = [pl] ∧ cMay gs secs pl.1 pl.2 q.size = true) ∨ (∃ pl ql, plsL q = [pl, ql] ∧ cMay gs secs pl.1 pl.2 q.size = true ∧ cMay gs secs ql.1 ql.2 q.size = true ∧
    ∀ i k : Nat, ∀ x y : Col, (colsOf gs secs pl.1 pl.2 q.size)[i]? = some x → (colsOf gs secs ql.1 ql.2 q.size)[k]? = some y → ¬ (x.1 = y.1 ∧ x.2.1 = y.2.1)) := by
  have hm := pls_may hq
  rw [plsL_right hq] at hm ⊢
  cases ht : q.two with
  | false =>
    rw [ht] at hm
    exact .inl ⟨_, rfl, hm _ List.mem_cons_self⟩
  | true =>
    rw [ht] at hm
    have hA := hm (q.ag, q.aa) List.mem_cons_self
    have hB := hm (q.bg, q.ba) (List.mem_cons_of_mem _ List.mem_cons_self)
    have hap : apB gs secs q.ag q.aa q.bg q.ba q.size = true := by
      simp only [rightB, Bool.and_eq_true] at hq
      have := hq.2
      rw [ht, if_pos rfl, Bool.and_eq_true] at this
      exact this.2
    exact .inr ⟨_, _, rfl, hA, hB, (apart_pure hA hB).2.2 hap⟩
/-- Behind a mending of all places, each place holds the block. -/
theorem full_mended (hq : rightB gs secs q = true) (hr : gRight gs secs = true) (hn : gSum gs = n) (hl : ds.length = n) (ok : DsOk N secs ds) (hh : AllHere aw ds n) (e1 : (secN s : Int) = q.size) (e2 : secOk s = true) : Full gs secs aw q s (mendAll gs secs aw s (plsL q) ds) := by
  intro pl hpl
  rcases pls_cases hq with ⟨pa, hp, hA⟩ | ⟨pa, pb, hp, hA, hB, hap⟩
  · rw [hp] at hpl ⊢
    simp only [List.mem_cons, List.not_mem_nil, or_false] at hpl
    subst hpl
    rw [← e1] at hA ⊢
    exact raw_mend_full hr hn hl ok (enc_pl e2 hA) hh
  · rw [hp] at hpl ⊢
    rw [← e1] at hA hB hap ⊢
    have eA := enc_pl e2 hA
    have eB := enc_pl e2 hB
    have okA : DsOk (N + 64) secs (mendAt gs secs aw s ds pa) := mendAt_ok ok
    have hlA : (mendAt gs secs aw s ds pa).length = n := by rw [mendAt_len]; exact hl
    show rawP gs secs (secN s) aw (mendAt gs secs aw s (mendAt gs secs aw s ds pa) pb) pl = _
    simp only [List.mem_cons, List.not_mem_nil, or_false] at hpl
    rcases hpl with rfl | rfl
    · rw [raw_other hr hn hlA okA eB hA (fun i k x y hx hy ⟨a, b⟩ => hap k i y x hy hx ⟨a.symm, b.symm⟩)]
      exact raw_mend_full hr hn hl ok eA hh
    · exact raw_mend_full hr hn hlA okA eB (mendAt_all hh)
theorem full_bad {pl : PlX} {got : List (List UInt8)} (h : got = encL gs secs pl.1 pl.2 s) : badL gs secs pl.1 pl.2 s got = [] := by
  subst h
  unfold badL
  split
  · rw [List.filter_eq_nil_iff]
    intro i _
    simp
  · rfl
theorem full_mend {pl : PlX} (e1 : (secN s : Int) = q.size) (h : rawP gs secs q.size aw ds pl = encL gs secs pl.1 pl.2 s) : mendAt gs secs aw s ds pl = ds ∧ mendB gs secs aw s ds pl = 0 := by
  unfold mendAt mendB
  rw [e1, full_bad h]
  exact ⟨rfl, rfl⟩
theorem full_mendAll (e1 : (secN s : Int) = q.size) : ∀ (l : List PlX), (∀ pl ∈ l, rawP gs secs q.size aw ds pl = encL gs secs pl.1 pl.2 s) → mendAll gs secs aw s l ds = ds ∧ mendC gs secs aw s l ds = 0
  | [], _ => ⟨rfl, rfl⟩
  | pl :: l, h => by
    obtain ⟨h1, h2⟩ := full_mend e1 (h pl List.mem_cons_self)
    obtain ⟨h3, h4⟩ := full_mendAll e1 l (fun p hp => h p (List.mem_cons_of_mem _ hp))
    show mendAll gs secs aw s l (mendAt gs secs aw s ds pl) = ds ∧ mendB gs secs aw s ds pl + mendC gs secs aw s l (mendAt gs secs aw s ds pl) = 0
    rw [h1, h2, h3, h4]
    exact ⟨rfl, rfl⟩
/-- A place that holds the block is read as it. -/
theorem full_try {pl : PlX} (hr : gRight gs secs = true) (hn : gSum gs = n) (e1 : (secN s : Int) = q.size) (e2 : secOk s = true) (hsum : fsum s = q.sum) (hm : cMay gs secs pl.1 pl.2 q.size = true) {got : List (List UInt8)} (h : got = encL gs secs pl.1 pl.2 s) :
    ∃ x, tryAt gs secs q got pl = some x ∧ x.2 = s := by
  subst h
  rw [← e1] at hm
  have hE := enc_pl e2 hm
  have hnd : gDevs gs secs = n := by unfold gDevs; rw [if_pos hr]; exact hn
  have hba : backG (colsOf gs secs pl.1 pl.2 (secN s)) (encL gs secs pl.1 pl.2 s) (fun _ => true) = encL gs secs pl.1 pl.2 s := backG_full (enc_encL hm).len fun _ _ => rfl
  have hbf := back_fits (hs := fun _ => true) hm
  have hfo := (back_found (hs := fun _ => true) hm e2 hnd).2 (by
    rw [failN_all (fun _ _ => rfl)]
    have h0 := wE_all (hs := fun _ => true) (n := n) e2 hm (fun _ _ => rfl)
    unfold wE at h0
    rw [if_pos hE, failN_all (fun _ _ => rfl)] at h0
    cases hlb : lostB (grAt gs pl.1) 0 with
    | false => rfl
    | true => rw [hlb] at h0; simp at h0)
  rw [hba] at hbf hfo
  obtain ⟨x, hx, hxs⟩ := hfo
  rcases tryAt_all (q := q) (gs := gs) (secs := secs) (pl := pl) hsum (raw := encL gs secs pl.1 pl.2 s) (by rw [← e1]; exact tries_back hm e2 hbf (fun i _ => .inl rfl)) with ⟨h1, _⟩ | h1
  · rw [← e1] at h1
    rw [h1] at hx
    cases hx
  · exact h1
theorem full_look (hq : rightB gs secs q = true) (hr : gRight gs secs = true) (hn : gSum gs = n) (e1 : (secN s : Int) = q.size) (e2 : secOk s = true) (hsum : fsum s = q.sum) (hf : Full gs secs aw q s ds) : ∃ c, lookV gs secs q (rawP gs secs q.size aw ds) = (c, 0) ∧ c.text = s ∧ c.place = 0 := by
  unfold lookV
  rw [if_pos hq]
  have key : ∀ pl r, plsL q = pl :: r → cMay gs secs pl.1 pl.2 q.size = true → ∃ c, lookFrom gs secs q (rawP gs secs q.size aw ds) (plsL q) 0 true = (c, 0) ∧ c.text = s ∧ c.place = 0 := fun pl r hp hm => by
    obtain ⟨x, hx, hxs⟩ := full_try hr hn e1 e2 hsum hm (hf pl (by rw [hp]; exact List.mem_cons_self))
    rw [hp]
    unfold lookFrom
    rw [hx]
    exact ⟨_, rfl, hxs, rfl⟩
  rcases pls_cases hq with ⟨pa, hp, hA⟩ | ⟨pa, pb, hp, hA, _⟩
  · exact key _ _ hp hA
  · exact key _ _ hp hA
/-- Where each place holds the block: it is whole, and nothing is mended. -/
theorem full_whole (hq : rightB gs secs q = true) (hr : gRight gs secs = true) (hn : gSum gs = n) (e1 : (secN s : Int) = q.size) (e2 : secOk s = true) (hsum : fsum s = q.sum) (hf : Full gs secs aw q s ds) : wholeV gs secs aw q ds = true ∧ ∀ full, readN full gs secs aw q ds = 0 ∧ readD full gs secs aw q ds = ds := by
  obtain ⟨c, hlk, hct, _⟩ := full_look hq hr hn e1 e2 hsum hf
  refine ⟨?_, fun full => ?_⟩
  · unfold wholeV
    rw [hlk, if_pos rfl, hct, Bool.not_eq_true', List.any_eq_false]
    intro pl hpl
    unfold spoilt
    rw [full_bad (hf pl hpl)]
    simp
  · unfold readN readD
    rw [hlk]
    simp only [if_true]
    rw [hct]
    obtain ⟨h1, h2⟩ := full_mendAll e1 ((plsL q).take (placesTo full q c)) (fun pl hpl => hf pl (List.mem_of_mem_take hpl))
    exact ⟨h2, h1⟩
/-- Writing is as mending all columns. -/
theorem wrTo_mend {aw : List Bool} {L : List Col} {T : List (List UInt8)} {ds : List DevD} (hT : T.length = L.length) : ∀ k, k ≤ L.length → wrTo aw L T ds k = mendTo aw L T ds (List.range k)
  | 0, _ => rfl
  | k + 1, hk => by
    have h1 := wrTo_mend (aw := aw) (ds := ds) hT k (by omega)
    rw [List.range_succ, mendTo_snoc, ← h1, wrTo, colD_in (show k < L.length by omega), List.getElem?_eq_getElem (show k < T.length by omega)]
    show putD _ _ _ _ = putD _ _ _ _
    congr 1
    rw [List.getD_eq_getElem?_getD, List.getElem?_eq_getElem (show k < T.length by omega)]
    rfl
theorem wD_other {pl ql : PlX} {size : Int} (hr : gRight gs secs = true) (hn : gSum gs = n) (hl : ds.length = n) (ok : DsOk N secs ds) (hE : encE gs secs pl.1 pl.2 s = 0) (hq : cMay gs secs ql.1 ql.2 size = true)
    (hap : ∀ i k : Nat, ∀ x y : Col, (colsOf gs secs pl.1 pl.2 (secN s))[i]? = some x → (colsOf gs secs ql.1 ql.2 size)[k]? = some y → ¬ (x.1 = y.1 ∧ x.2.1 = y.2.1)) :
    rawP gs secs size aw (wD gs secs pl.1 pl.2 s aw ds) ql = rawP gs secs size aw ds ql := by
  obtain ⟨e1, e2, e3⟩ := encE_zero hE
  have hc := cols_of hr hn hE
  unfold rawP rawL
  rw [ofList_may hq]
  refine List.map_congr_left fun c hcm => ?_
  obtain ⟨k, hk⟩ := List.mem_iff_getElem?.1 hcm
  rw [rdC_look, rdC_look, wD_hereD]
  split
  · have h1 := ((apart_pure hq hq).1 k c hk).1
    unfold wD
    rw [if_pos hE]
    rw [ofList_may e2] at hc ⊢
    rw [wrTo_mend (enc_encL e2).len _ (Nat.le_refl _)]
    refine mendTo_other h1 _ _ ok (by rw [hl]; exact hc) (fun i hi => List.mem_range.1 hi) fun i hi h => ?_
    exact hap i k _ _ (colD_in (List.mem_range.1 hi)) hk ⟨h.1.symm, h.2.symm⟩
  · rfl
theorem wD_full {pl : PlX} (hr : gRight gs secs = true) (hn : gSum gs = n) (hl : ds.length = n) (ok : DsOk N secs ds) (hE : encE gs secs pl.1 pl.2 s = 0) (hh : AllHere aw ds n) : rawP gs secs (secN s) aw (wD gs secs pl.1 pl.2 s aw ds) pl = encL gs secs pl.1 pl.2 s := by
  have hw : wD gs secs pl.1 pl.2 s aw ds = wrTo aw (ofList gs secs pl.1 pl.2 (secN s)) (encL gs secs pl.1 pl.2 s) ds (ofList gs secs pl.1 pl.2 (secN s)).length := by unfold wD; rw [if_pos hE]
  have h1 := raw_back (aw := aw) hr hn hE ok hl
  unfold rawP
  rw [hw, h1, ofList_may (encE_zero hE).2.1]
  exact back_all hr hn hE hh
/-- What was written at all places. -/
theorem full_written (hq : rightB gs secs q = true) (hr : gRight gs secs = true) (hn : gSum gs = n) (hl : ds.length = n) (ok : DsOk N secs ds) (hh : AllHere aw ds n) (e1 : (secN s : Int) = q.size) (e2 : secOk s = true) : Full gs secs aw q s (wrAll gs secs aw s (plsL q) ds) := by
  intro pl hpl
  rcases pls_cases hq with ⟨pa, hp, hA⟩ | ⟨pa, pb, hp, hA, hB, hap⟩
  · rw [hp] at hpl ⊢
    simp only [List.mem_cons, List.not_mem_nil, or_false] at hpl
    subst hpl
    rw [← e1] at hA ⊢
    exact wD_full hr hn hl ok (enc_pl e2 hA) hh
  · rw [hp] at hpl ⊢
    rw [← e1] at hA hB hap ⊢
    have eA := enc_pl e2 hA
    have eB := enc_pl e2 hB
    have okA : DsOk (N + 64) secs (wD gs secs pa.1 pa.2 s aw ds) := wD_ok ok
    have hlA : (wD gs secs pa.1 pa.2 s aw ds).length = n := by rw [wD_len]; exact hl
    have hhA : AllHere aw (wD gs secs pa.1 pa.2 s aw ds) n := fun i hi => by rw [wD_hereD]; exact hh i hi
    show rawP gs secs (secN s) aw (wD gs secs pb.1 pb.2 s aw (wD gs secs pa.1 pa.2 s aw ds)) pl = _
    simp only [List.mem_cons, List.not_mem_nil, or_false] at hpl
    rcases hpl with rfl | rfl
    · rw [wD_other hr hn hlA okA eB hA (fun i k x y hx hy ⟨a, b⟩ => hap k i y x hy hx ⟨a.symm, b.symm⟩)]
      exact wD_full hr hn hl ok eA hh
    · exact wD_full hr hn hlA okA eB hhA
end
end Go.Proofs.YtbhkbcpljakmjaaGreat

namespace Go.Proofs.YtbhkbcpljakmjaaGreat
set_option linter.unusedVariables false
set_option linter.unusedSimpArgs false
open Go.RowKit

section
variable {gs : List (Int × Int)} {secs n N : Nat} {aw : List Bool} {ds : List DevD} {q : PtrD} {s : List UInt8} {b : UInt8}
end
end Go.Proofs.YtbhkbcpljakmjaaGreat

namespace Go.Proofs.YtbhkbcpljakmjaaGreat
set_option linter.unusedVariables false
set_option linter.unusedSimpArgs false
open Go.RowKit

section
variable {gs : List (Int × Int)} {secs n N : Nat} {aw : List Bool} {ds : List DevD} {q : PtrD} {s : List UInt8} {b : UInt8}
/-- What laid leaves where none is away or lost. -/
theorem laid_full {y : Nat} (hq : rightB gs secs q = true) (hr : gRight gs secs = true) (hn : gSum gs = y) (hs1 : 24 ≤ secs) (hs2 : secs ≤ 200) (e1 : (secN s : Int) = q.size) (e2 : secOk s = true) {ds : List DevD}
    (hds : loT [] (wrAll gs secs (awT [] y 0) s (plsL q) (List.replicate y (DevD.blank secs 0))) y = ds) : Full gs secs (awT [] y y) q s ds ∧ AllHere (awT [] y y) ds y ∧ DsOk 128 secs ds := by
  have hlo : ∀ (D : List DevD) (k : Nat), loT [] D k = D := fun D k => by
    apply List.ext_getElem?
    intro i
    cases h : D[i]? with
    | none => rw [List.getElem?_eq_none_iff] at h; rw [List.getElem?_eq_none (by rw [loT_len]; exact h)]
    | some d => rw [loT_at h]; simp [bAt]
  rw [hlo] at hds
  rw [awT_none (al := [])]
  have hok := blanks_ok (n := y) (secs := secs) (b := 0) (by omega) (by omega)
  have hh : AllHere (awT [] y 0) (List.replicate y (DevD.blank secs 0)) y := fun i hi => by
    unfold hereD
    rw [List.getD_eq_getElem?_getD, awT_at hi, List.getElem?_replicate, if_pos hi]
    simp [DevD.blank]
  subst hds
  refine ⟨full_written hq hr hn (by simp) hok hh e1 e2, fun i hi => by rw [wrAll_hereD]; exact hh i hi, (wrAll_ok _ _ hok).mono (by have := plsL_len q; omega)⟩
end
end Go.Proofs.YtbhkbcpljakmjaaGreat

namespace Go.Proofs.YtbhkbcpljakmjaaGreat
set_option linter.unusedVariables false
set_option linter.unusedSimpArgs false
open Go.RowKit

section
variable {gs : List (Int × Int)} {secs pg pa : Int} {s : List UInt8}
theorem off_tries (h : cMay gs secs pg pa (secN s) = true) (hs : secOk s = true) {got : List (List UInt8)} (hf : fitsB gs secs pg pa (secN s) got = true) (d : Int)
    (hw : (grAt gs pg).1 = 0 → gFirst gs secs pg ≤ d → d < gFirst gs secs pg + (grAt gs pg).2 → 2 ≤ (grAt gs pg).2)
    (hg : ∀ i, i < (colsOf gs secs pg pa (secN s)).length → ((colsOf gs secs pg pa (secN s)).getD i (0, 0, false, 0)).1 ≠ d → got.getD i [] = (encL gs secs pg pa s).getD i []) : ∃ x ∈ triesL gs secs pg pa (secN s) got, x.2 = s := by
  unfold triesL
  rw [hf, if_pos rfl]
  by_cases hk : (grAt gs pg).1 = 0
  · have hb : ((grAt gs pg).1 == 0) = true := beq_iff_eq.2 hk
    rw [hb, if_pos rfl, Int.toNat_natCast]
    have hM := mirL_of h hk
    rw [Int.toNat_natCast] at hM
    have hwp := hM.wpos
    obtain ⟨j, hj, hne⟩ : ∃ j : Nat, j < (grAt gs pg).2.toNat ∧ gFirst gs secs pg + (j : Int) ≠ d := by
      by_cases h0 : gFirst gs secs pg = d
      · exact ⟨1, by have := hw hk (by omega) (by omega); omega, by omega⟩
      · exact ⟨0, hwp, by simpa using h0⟩
    refine mir_one_back h hk hs (j := j) (fits_parts hf).2.1 hj fun t ht => ?_
    obtain ⟨h1, h2, _, _⟩ := in_part hM.len hj ht
    refine hg _ h1 ?_
    rw [hM.dev _ h1, h2]
    exact hne
  · have hb : ((grAt gs pg).1 == 0) = false := beq_eq_false_iff_ne.2 hk
    rw [hb, if_neg Bool.false_ne_true]
    exact par_one_back h hs hk (d := d) hg
end
section
variable {gs : List (Int × Int)} {secs n N : Nat} {aw aw' : List Bool} {ds D : List DevD} {q : PtrD} {s : List UInt8} {d : Nat}
/-- All that is read is as it was, but for one device. -/
def But (aw aw' : List Bool) (ds D : List DevD) (d : Nat) : Prop := ∀ c : Col, 0 ≤ c.1 → c.1.toNat ≠ d → rdC aw' D c = rdC aw ds c
theorem but_of (h : ∀ j, j ≠ d → D[j]? = ds[j]? ∧ aw'.getD j false = aw.getD j false) : But aw aw' ds D d := by
  intro c _ hd
  obtain ⟨h1, h2⟩ := h _ hd
  unfold rdC hereD
  rw [h1, h2]
theorem but_raw {pl : PlX} (hm : cMay gs secs pl.1 pl.2 (secN s) = true) (hb : But aw aw' ds D d) (hf : rawP gs secs (secN s) aw ds pl = encL gs secs pl.1 pl.2 s) : ∀ i, i < (colsOf gs secs pl.1 pl.2 (secN s)).length → ((colsOf gs secs pl.1 pl.2 (secN s)).getD i (0, 0, false, 0)).1 ≠ (d : Int) → (rawP gs secs (secN s) aw' D pl).getD i [] = (encL gs secs pl.1 pl.2 s).getD i [] := by
  intro i hi hne
  have hnn := dev_nn hm hi
  unfold rawP at hf ⊢
  rw [raw_get hm hi, hb _ hnn (by omega), ← raw_get hm hi, hf]
theorem one_look (hq : rightB gs secs q = true) (e1 : (secN s : Int) = q.size) (e2 : secOk s = true) (hsum : fsum s = q.sum) (okD : DsOk N secs D) (hf : Full gs secs aw q s ds) (hb : But aw aw' ds D d)
    (hw : ∀ pl ∈ plsL q, (grAt gs pl.1).1 = 0 → gFirst gs secs pl.1 ≤ d → (d : Int) < gFirst gs secs pl.1 + (grAt gs pl.1).2 → 2 ≤ (grAt gs pl.1).2) : ∃ c, lookV gs secs q (rawP gs secs q.size aw' D) = (c, 0) := by
  obtain ⟨pl, r, hpl, hm⟩ : ∃ pl r, plsL q = pl :: r ∧ cMay gs secs pl.1 pl.2 q.size = true := by
    rcases pls_cases hq with ⟨pa, hp, hA⟩ | ⟨pa, pb, hp, hA, _⟩
    · exact ⟨_, _, hp, hA⟩
    · exact ⟨_, _, hp, hA⟩
  have hpm : pl ∈ plsL q := by rw [hpl]; exact List.mem_cons_self
  have hfp := hf pl hpm
  rw [← e1] at hm hfp ⊢
  have hft := raw_fits (aw := aw') hm okD
  obtain ⟨x, hx, hxs⟩ := off_tries hm e2 hft d (hw pl hpm) (but_raw hm hb hfp)
  have hfind : (tryAt gs secs q (rawP gs secs (secN s) aw' D pl) pl).isSome = true := by
    unfold tryAt
    rw [List.find?_isSome]
    exact ⟨x, by rw [← e1]; exact hx, by rw [hxs, hsum]; simp⟩
  obtain ⟨z, hz⟩ := Option.isSome_iff_exists.1 hfind
  refine ⟨⟨z.2, 0, z.1, 0⟩, ?_⟩
  unfold lookV
  rw [if_pos hq, hpl]
  unfold lookFrom
  rw [hz]
theorem mendTo_none {L : List Col} {T : List (List UInt8)} : ∀ (l : List Nat) (D : List DevD), (∀ i ∈ l, hereD aw D (L.getD i (0, 0, false, 0)).1.toNat = false) → mendTo aw L T D l = D
  | [], _, _ => rfl
  | i :: l, D, h => by
    have h0 : putD aw D (L.getD i (0, 0, false, 0)) (T.getD i []) = D := by
      have := h i List.mem_cons_self
      unfold hereD at this
      unfold putD
      cases hd : D[(L.getD i (0, 0, false, 0)).1.toNat]? with
      | none => rfl
      | some e =>
        rw [hd] at this
        simp only at this ⊢
        rw [this]
        rfl
    show mendTo aw L T (putD aw D _ _) l = D
    rw [h0]
    exact mendTo_none l D (fun j hj => h j (List.mem_cons_of_mem _ hj))
theorem mend_none {pl : PlX} (hm : cMay gs secs pl.1 pl.2 (secN s) = true) (e2 : secOk s = true) (hb : But aw aw' ds D d) (hf : rawP gs secs (secN s) aw ds pl = encL gs secs pl.1 pl.2 s) (hd : hereD aw' D d = false) : mendAt gs secs aw' s D pl = D ∧ mendB gs secs aw' s D pl = 0 := by
  have hbad : ∀ i ∈ badL gs secs pl.1 pl.2 s (rawP gs secs (secN s) aw' D pl), hereD aw' D ((colsOf gs secs pl.1 pl.2 (secN s)).getD i (0, 0, false, 0)).1.toNat = false := by
    intro i hi
    unfold badL at hi
    split at hi
    · obtain ⟨h1, h2⟩ := List.mem_filter.1 hi
      rw [(enc_encL hm).len] at h1
      have h1 := List.mem_range.1 h1
      by_cases he : ((colsOf gs secs pl.1 pl.2 (secN s)).getD i (0, 0, false, 0)).1 = (d : Int)
      · rw [he]
        exact hd
      · rw [but_raw hm hb hf i h1 he] at h2
        simp at h2
    · cases hi
  unfold mendAt mendB mendN
  rw [ofList_may hm]
  refine ⟨mendTo_none _ _ hbad, ?_⟩
  rw [List.length_eq_zero_iff, List.filter_eq_nil_iff]
  intro i hi
  rw [hbad i hi]
  exact Bool.false_ne_true
theorem one_nofix (hq : rightB gs secs q = true) (e1 : (secN s : Int) = q.size) (e2 : secOk s = true) (hf : Full gs secs aw q s ds) (hb : But aw aw' ds D d) (hd : hereD aw' D d = false) {c : CameD} (hc : lookV gs secs q (rawP gs secs q.size aw' D) = (c, 0)) (hct : c.text = s) : readN true gs secs aw' q D = 0 := by
  unfold readN placesTo
  rw [hc]
  simp only [if_true]
  rw [hct, List.take_length]
  suffices ∀ l : List PlX, (∀ pl ∈ l, pl ∈ plsL q) → mendC gs secs aw' s l D = 0 from this _ (fun _ h => h)
  intro l
  induction l with
  | nil => intro _; rfl
  | cons pl r ih =>
    intro h
    have hpl := h pl List.mem_cons_self
    have hm := pls_may hq pl hpl
    have hfp := hf pl hpl
    rw [← e1] at hm hfp
    obtain ⟨h1, h2⟩ := mend_none hm e2 hb hfp hd
    show mendB gs secs aw' s D pl + mendC gs secs aw' s r (mendAt gs secs aw' s D pl) = 0
    rw [h1, h2, ih (fun p hp => h p (List.mem_cons_of_mem _ hp))]
theorem one_mended (hq : rightB gs secs q = true) (hr : gRight gs secs = true) (hn : gSum gs = n) (hl : D.length = n) (okD : DsOk N secs D) (hh : AllHere aw' D n) (e1 : (secN s : Int) = q.size) (e2 : secOk s = true) {c : CameD} (hc : lookV gs secs q (rawP gs secs q.size aw' D) = (c, 0)) (hct : c.text = s) : Full gs secs aw' q s (readD true gs secs aw' q D) := by
  have hrd : readD true gs secs aw' q D = mendAll gs secs aw' s (plsL q) D := by
    unfold readD placesTo
    rw [hc]
    simp only [if_true]
    rw [hct, List.take_length]
  rw [hrd]
  exact full_mended hq hr hn hl okD hh e1 e2
/-- The group of a device, as the law finds it. -/
def grpTo (gs : List (Int × Int)) (secs : Int) (d : Nat) : Nat → Nat
  | 0 => 0
  | k + 1 => if gFirst gs secs k ≤ d then k else grpTo gs secs d k
theorem grp_lt (h : 0 < gs.length) : ∀ k, k ≤ gs.length → grpTo gs secs d k < gs.length
  | 0, _ => h
  | k + 1, hk => by
    unfold grpTo
    split
    · omega
    · exact grp_lt h k (by omega)
theorem grp_is (hr : gRight gs secs = true) {g : Nat} {x : Int × Int} (hx : gs[g]? = some x) (h1 : gFirst gs secs g ≤ d) (h2 : (d : Int) < gFirst gs secs g + x.2) : ∀ k, g < k → k ≤ gs.length → grpTo gs secs d k = g
  | k + 1, hg, hk => by
    unfold grpTo
    by_cases he : g = k
    · subst he
      rw [if_pos h1]
    · have hgk : g < k := by omega
      have hh : ∀ j : Nat, j < gs.length → gHas gs secs j = true := fun j hj => by
        unfold gHas
        rw [hr, decide_eq_true (show (0 : Int) ≤ j by omega), decide_eq_true (show (j : Int) < gs.length by omega)]
        rfl
      have h3 := first_next hr hx hgk
      rw [gFirst_true (hh g (by omega))] at h1 h2
      rw [if_neg (by rw [gFirst_true (hh k (by omega))]; omega)]
      exact grp_is hr hx (by rw [gFirst_true (hh g (by omega))]; exact h1) (by rw [gFirst_true (hh g (by omega))]; exact h2) k hgk (by omega)
theorem wide_law (hq : rightB gs secs q = true) (hw : 2 ≤ (gs.getD (grpTo gs secs d gs.length) (0, 0)).2) : ∀ pl ∈ plsL q, (grAt gs pl.1).1 = 0 → gFirst gs secs pl.1 ≤ d → (d : Int) < gFirst gs secs pl.1 + (grAt gs pl.1).2 → 2 ≤ (grAt gs pl.1).2 := by
  intro pl hpl _ h1 h2
  obtain ⟨hhas, _⟩ := cMay_true (pls_may hq pl hpl)
  have hr := gHas_right hhas
  obtain ⟨g, x, hpg, hg, _, _, _, hx, hga, _⟩ := gHas_true hhas
  rw [hpg] at h1 h2 ⊢
  rw [hga] at h2 ⊢
  rw [grp_is hr hx h1 h2 _ hg (Nat.le_refl _), List.getD_eq_getElem?_getD, hx] at hw
  exact hw
end
end Go.Proofs.YtbhkbcpljakmjaaGreat

namespace Go.Proofs.YtbhkbcpljakmjaaGreat
set_option linter.unusedVariables false
set_option linter.unusedSimpArgs false
open Go.RowKit

/-- One device's bytes that are spoilt, one after the other. -/
def hitDev (d : DevD) (l : List HitD) : DevD := l.foldl (fun d x => d.spoil x.at_ x.place x.by_) d
theorem hitDev_snoc (d : DevD) (l : List HitD) (x : HitD) : hitDev d (l ++ [x]) = (hitDev d l).spoil x.at_ x.place x.by_ := by
  unfold hitDev
  rw [List.foldl_append]
  rfl
theorem hit_set {ds : List DevD} {dn : Nat} {d : DevD} (hd : ds[dn]? = some d) (l : List HitD) (x : HitD) : spoilAt (ds.set dn (hitDev d l)) dn x.at_ x.place x.by_ = ds.set dn (hitDev d (l ++ [x])) := by
  have hlt := (List.getElem?_eq_some_iff.1 hd).1
  unfold spoilAt
  rw [List.getElem?_set, if_pos rfl, if_pos hlt]
  simp only
  rw [List.set_set, hitDev_snoc]
theorem hitDev_nil {ds : List DevD} {dn : Nat} {d : DevD} (hd : ds[dn]? = some d) : ds.set dn (hitDev d []) = ds := by
  apply List.ext_getElem?
  intro j
  rw [List.getElem?_set]
  by_cases e : dn = j
  · subst e
    rw [if_pos rfl, if_pos (List.getElem?_eq_some_iff.1 hd).1, hd]
    rfl
  · rw [if_neg e]
theorem hitDev_lost (d : DevD) : ∀ l : List HitD, (hitDev d l).lost = d.lost
  | [] => rfl
  | x :: l => by
    show (hitDev (d.spoil x.at_ x.place x.by_) l).lost = d.lost
    rw [hitDev_lost _ l, DevD.spoil_lost']
theorem set_ok {N secs : Nat} {ds : List DevD} (h : DsOk N secs ds) {i : Nat} {d : DevD} (hd : d.Ok ∧ d.med.length = secs ∧ d.fuse = -1 ∧ ∀ k, (d.cac k).length ≤ N) : DsOk N secs (ds.set i d) := fun e he => by
  rcases List.mem_or_eq_of_mem_set he with he | rfl
  · exact h e he
  · exact hd
theorem hitSet_ok {N secs : Nat} {ds : List DevD} {dn : Nat} {d : DevD} (h : DsOk N secs ds) (hd : ds[dn]? = some d) (l : List HitD) : ∀ k, DsOk N secs (ds.set dn (hitDev d (l.take k)))
  | 0 => by rw [List.take_zero, hitDev_nil hd]; exact h
  | k + 1 => by
    have ih := hitSet_ok h hd l k
    cases hx : l[k]? with
    | none =>
      have hk := List.getElem?_eq_none_iff.1 hx
      rw [List.take_of_length_le (by omega)] at ih ⊢
      exact ih
    | some x =>
      rw [take_snoc hx, ← hit_set hd]
      exact spoilAt_ok ih _ _ _ _
theorem vlose_any {w : World} {S : Nat → Nat → Prop} {U : Nat → Prop} {y : VX} {aw : List Bool} {ds : List DevD} (h : VdIn w S U y aw ds) {i b : Nat} {d : DevD} (hb : y.bd[i]? = some b) (hd : ds[i]? = some d) :
    Calls Tryz.prog 16 #[.pointer (some ⟨b, 0, none⟩)] w fun e w' => e = .returned (.tuple #[]) ∧ (∃ S', VdIn w' S' U y aw (ds.set i d.lose)) ∧ Stays U w w' := by
  refine (lose_any (h.dev i b d hb hd)).mono ?_
  rintro e w' ⟨rfl, hd', ho, hsz⟩
  exact ⟨rfl, ⟨_, h.step hb ho (hd'.more ho.size (fun b hb => h.lt i b hb)) (h.sz d (List.mem_of_getElem? hd))⟩, Only.mono ho (fun g _ hg hU => h.fx i g hg hU)⟩
theorem vfresh_any {w : World} {S : Nat → Nat → Prop} {U : Nat → Prop} {y : VX} {aw : List Bool} {ds : List DevD} (h : VdIn w S U y aw ds) {N : Nat} (ok : DsOk N y.secs ds) {i b : Nat} {d : DevD} (hb : y.bd[i]? = some b) (hd : ds[i]? = some d) (fill : UInt8) :
    Calls Tryz.prog 17 #[.pointer (some ⟨b, 0, none⟩), .int .u8 fill.toNat] w fun e w' => e = .returned (.tuple #[]) ∧ (∃ S', VdIn w' S' U y aw (ds.set i (DevD.blank y.secs fill))) ∧ Stays U w w' := by
  obtain ⟨o1, o2, _, _⟩ := ok d (List.mem_of_getElem? hd)
  have hf := fresh_any (h.dev i b d hb hd) fill o1
  rw [o2] at hf
  refine hf.mono ?_
  rintro e w' ⟨rfl, hd', ho⟩
  exact ⟨rfl, ⟨_, h.step hb ho hd' (by show (List.replicate y.secs _).length = y.secs; rw [List.length_replicate])⟩, Only.mono ho (fun g _ hg hU => h.fx i g hg hU)⟩
section
variable {aw : List Bool} {ds : List DevD} {n dn : Nat}
theorem set_hereD {d : DevD} (h : dn < ds.length) (hl : d.lost = false) (hh : AllHere aw ds n) (hn : dn < n) : AllHere aw (ds.set dn d) n := fun i hi => by
  have h0 := hh i hi
  unfold hereD at h0 ⊢
  rw [List.getElem?_set]
  by_cases e : dn = i
  · subst e
    rw [if_pos rfl, if_pos h]
    simp only [Bool.and_eq_true] at h0 ⊢
    exact ⟨h0.1, by rw [hl]; rfl⟩
  · rw [if_neg e]
    exact h0
theorem lose_hereD (d : DevD) (h : dn < ds.length) : hereD aw (ds.set dn d.lose) dn = false := by
  unfold hereD
  rw [List.getElem?_set, if_pos rfl, if_pos h]
  simp [DevD.lose]
end
end Go.Proofs.YtbhkbcpljakmjaaGreat
