/-
  Contracts of package heal: Whole.
  Bytes that are spoilt, one after the other: plain words; what is read after.
  Blocks all columns of which are as they are to be: plain laws of heal.
  All columns of one place are spoilt: plain law of HealTwo.
  All columns of one of two places are spoilt: plain law.
  Reading twice; devices with nothing in the cache: plain law of HealLook; one device flushed.
  The shelf's contracts at this program, in plain words: maps.Keys, slices.Sorted, slices.Sort at whole numbers.
-/
import Derived.Test.YtbhkbcpljakmjaaGreatJ28
import Derived.Test.YtbhkbcpljakmjaaGreatJ29
import Derived.Test.YtbhkbcpljakmjaaGreatJ18
import Derived.Test.YtbhkbcpljakmjaaGreatJ16
import Derived.Shelf.SlIterI.Nil
import Derived.Shelf.SlIterI.Sorted
import Derived.Shelf.SortM.Plain
import Derived.Shelf.SortM.SortNone
import Derived.Shelf.SlGeneric
import Derived.Test.YtbhkbcpljakmjaaGreatProg
namespace Go.Proofs.YtbhkbcpljakmjaaGreat
set_option linter.unusedVariables false
set_option linter.unusedSimpArgs false
open Go.RowKit

/-- What a predicate on places answers, wherever it is called. -/
def PlPred (fn : FuncId) (caps : Array Value) (p : Int × Int → Bool) (l : List (Int × Int)) (w0 : World) : Prop :=
  ∀ (x : Int × Int) (w : World), x ∈ l → Below w0.heap.size w0 w → Calls Tryz.prog fn (#[.agg #[.int .i64 x.1, .int .i64 x.2]] ++ caps) w fun e w' => e = .returned (.bool (p x)) ∧ Below w.heap.size w w'
set_option maxRecDepth 20000 in
theorem idxPl_any (fn : FuncId) (caps : Array Value) {w : World} {ss : List (Int × Int)} {sv : Value} (p : Int × Int → Bool) (h1 : SlAt w sv ss.length (grC ss)) (f1 : ss.length ≤ 1000000) (hgo : Goes fn) (hp : PlPred fn caps p ss w) :
    Calls Tryz.prog 68 #[sv, .func (.func fn) #[] caps] w fun e w' => e = .returned (.int .i64 (firstAt p ss)) ∧ Below w.heap.size w w' := by
  obtain ⟨A, c1, rfl⟩ := h1.form
  have H1 := Lib.hid h1
  have HP := Lib.hid hp
  clear h1 hp
  unfold Goes at hgo
  go_enter Tryz.func68, Tryz.ntmps68
  go_wp2_with fail
  go_loopw [8] (fun t wr => ∃ k : Nat, k ≤ ss.length ∧ t = .int .i64 k ∧ Below w.heap.size w wr ∧ ∀ j, j < k → ∀ x, ss[j]? = some x → p x = false) (fun t _ => ss.length - (RowKit.intOf t).toNat)
  case atStart => exact ⟨0, Nat.zero_le _, rfl, Below.refl _ _, fun j hj => absurd hj (Nat.not_lt_zero _)⟩
  case round =>
    obtain ⟨k, hk, rfl, hb, hal⟩ := hrel
    have HB := Lib.hid hb
    have HAL := Lib.hid hal
    by_cases hlt : k < ss.length
    · obtain ⟨b, oo, rfl, hbl, hcell⟩ := H1.out.cells (by omega)
      obtain ⟨x, hx⟩ : ∃ x, ss[k]? = some x := ⟨_, List.getElem?_eq_getElem hlt⟩
      obtain ⟨q0, q1⟩ := grC_get hx
      have f0 : wr.cell? ⟨b, oo + k * 2, none⟩ = some (.int .i64 x.1) := (World.cell?_of_block (hb.block b hbl)).trans (hcell _ _ q0)
      have f1' : wr.cell? ⟨b, oo + k * 2 + 1, none⟩ = some (.int .i64 x.2) := (World.cell?_of_block (hb.block b hbl)).trans (hcell _ _ q1)
      have hdc : decide (k < ss.length) = true := decide_eq_true hlt
      have HLT := Lib.hid hlt
      have HXX := Lib.hid hx
      clear hcell hx hb hal hbl q0 q1
      go_wp2_with fail
      refine (HP.out x wr (List.mem_of_getElem? HXX.out) HB.out).mono ?_
      rintro e w1 ⟨rfl, hb1⟩
      have HB1 := Lib.hid (keep_below hb1 HB.out)
      clear hb1
      cases hpx : p x with
      | true =>
        have HE := Lib.hid hpx
        clear hpx
        go_wp2_with fail
        go_ret
        exact ⟨ret_int (firstAt_hit HXX.out HE.out HAL.out).symm, HB1.out⟩
      | false =>
        have HE := Lib.hid hpx
        clear hpx
        go_wp2_with fail
        go_roundw
        case rel =>
          refine ⟨k + 1, HLT.out, by go_num, HB1.out, fun j hj y hy => ?_⟩
          by_cases e : j < k
          · exact HAL.out j e y hy
          · obtain rfl : j = k := by omega
            have h2 := HXX.out
            rw [hy] at h2
            cases h2
            exact HE.out
        case measure => have := HLT.out; simp [RowKit.intOf]; omega
    · obtain rfl : k = ss.length := by omega
      have hdc : decide ((ss.length : Int) < ss.length) = false := decide_eq_false (by omega)
      clear hb hal
      go_wp2_with fail
      go_ret
      exact ⟨ret_int (firstAt_miss HAL.out).symm, HB.out⟩
theorem conPl_any (fn : FuncId) (caps : Array Value) {w : World} {ss : List (Int × Int)} {sv : Value} (p : Int × Int → Bool) (h1 : SlAt w sv ss.length (grC ss)) (f1 : ss.length ≤ 1000000) (hgo : Goes fn) (hp : PlPred fn caps p ss w) :
    Calls Tryz.prog 39 #[sv, .func (.func fn) #[] caps] w fun e w' => e = .returned (.bool (ss.any p)) ∧ Below w.heap.size w w' := by
  have H := Lib.hid (idxPl_any fn caps p h1 f1 hgo hp)
  clear hp hgo h1
  go_enter Tryz.func39, Tryz.ntmps39
  go_wp2_with fail
  refine H.out.mono ?_
  rintro e w1 ⟨rfl, hb1⟩
  go_wp2_with fail
  go_ret
  exact ⟨ret_bool (firstAt_nonneg _ _), hb1⟩
/-- Are all columns as they are to be? -/
def spoilt (gs : List (Int × Int)) (secs : Int) (aw : List Bool) (q : PtrD) (ds : List DevD) (s : List UInt8) (pl : PlX) : Bool := decide (0 < (badL gs secs pl.1 pl.2 s (rawP gs secs q.size aw ds pl)).length)
def wholeV (gs : List (Int × Int)) (secs : Int) (aw : List Bool) (q : PtrD) (ds : List DevD) : Bool :=
  if (lookV gs secs q (rawP gs secs q.size aw ds)).2 = 0 then !(plsL q).any (spoilt gs secs aw q ds (lookV gs secs q (rawP gs secs q.size aw ds)).1.text) else false
theorem goesWhole : Goes 40 := enters_of Tryz.func40 (by kernel_rfl) (by kernel_rfl)
set_option maxRecDepth 20000 in
theorem wholeP_any {w0 : World} {S : Nat → Nat → Prop} {U : Nat → Prop} {y : VX} {aw : List Bool} {ds : List DevD} (h : VdIn w0 S U y aw ds) (few : y.bd.length ≤ 1000) (q : PtrD) (s : List UInt8) (hl : s.length ≤ 1000) {xb pb cb : Nat} {cpl : Int} {cdv cfx : Int} (hx : Blk w0 xb 37 y.cells) (hp : Blk w0 pb 31 #[.int .i64 q.ag, .int .i64 q.aa, .int .i64 q.bg, .int .i64 q.ba, .bool q.two, .int .i64 q.size, .int .i64 q.level, .int .i64 q.birth, .int .u64 q.s0, .int .u64 q.s1, .int .u64 q.s2, .int .u64 q.s3])
    (hc : Blk w0 cb 45 #[str s, .int .i64 cpl, .int .i64 cdv, .int .i64 cfx]) (hm : ∀ pl ∈ plsL q, cMay y.gs y.secs pl.1 pl.2 q.size = true) :
    PlPred 40 #[.pointer (some ⟨xb, 0, none⟩), .pointer (some ⟨pb, 0, none⟩), .pointer (some ⟨cb, 0, none⟩)] (spoilt y.gs y.secs aw q ds s) (plsL q) w0 := by
  intro pl w hpl hb
  have hx1 := hx.below hb hx.lt
  have hp1 := hp.below hb hp.lt
  have hc1 := hc.below hb hc.lt
  obtain ⟨w1, hw1⟩ : ∃ z, w.alloc (.cells #[.int .i64 pl.1, .int .i64 pl.2] 26) = z := ⟨_, rfl⟩
  have hb1 : Below w.heap.size w w1 := by rw [← hw1]; exact keep_alloc (Below.refl _ _) _
  have hX := hx1.below hb1 hx1.lt
  have hP := hp1.below hb1 hp1.lt
  have hC := hc1.below hb1 hc1.lt
  have hBD := bad10_any ((h.below hb).below hb1) few q pl (hm pl hpl) s hl
  obtain ⟨n, hn⟩ : ∃ n, (badL y.gs y.secs pl.1 pl.2 s (rawP y.gs y.secs q.size aw ds pl)).length = n := ⟨_, rfl⟩
  have hsp : spoilt y.gs y.secs aw q ds s pl = decide (0 < n) := by unfold spoilt; rw [hn]
  rw [hsp]
  rw [hn] at hBD
  have HBD := Lib.hid hBD
  have x0 := hX.at_ (i := 0) (v := .slice (some ⟨y.gb, 0, none⟩) y.m y.cc) rfl
  have x1 := hX.at_ (i := 1) (v := .int .i64 y.secs) rfl
  have x2 := hX.at_ (i := 2) (v := .slice (some ⟨y.lb, 0, none⟩) y.bd.length y.lc) rfl
  have x3 := hX.at_ (i := 3) (v := .slice (some ⟨y.ab, 0, none⟩) y.bd.length y.bd.length) rfl
  have p0 := hP.at_ (i := 0) (v := .int .i64 q.ag) rfl
  have p1 := hP.at_ (i := 1) (v := .int .i64 q.aa) rfl
  have p2 := hP.at_ (i := 2) (v := .int .i64 q.bg) rfl
  have p3 := hP.at_ (i := 3) (v := .int .i64 q.ba) rfl
  have p4 := hP.at_ (i := 4) (v := .bool q.two) rfl
  have p5 := hP.at_ (i := 5) (v := .int .i64 q.size) rfl
  have p6 := hP.at_ (i := 6) (v := .int .i64 q.level) rfl
  have p7 := hP.at_ (i := 7) (v := .int .i64 q.birth) rfl
  have p8 := hP.at_ (i := 8) (v := .int .u64 q.s0) rfl
  have p9 := hP.at_ (i := 9) (v := .int .u64 q.s1) rfl
  have p10 := hP.at_ (i := 10) (v := .int .u64 q.s2) rfl
  have p11 := hP.at_ (i := 11) (v := .int .u64 q.s3) rfl
  have c0 := hC.at_ (i := 0) (v := str s) rfl
  have HB1 := Lib.hid hb1
  rw [← hw1] at x0 x1 x2 x3 p0 p1 p2 p3 p4 p5 p6 p7 p8 p9 p10 p11 c0
  have HW1 := Lib.hid hw1
  clear hx hp hc hm hx1 hp1 hc1 hX hP hC hBD hw1 hb1 h hb hn hsp
  show Calls Tryz.prog 40 #[.agg #[.int .i64 pl.1, .int .i64 pl.2], .pointer (some ⟨xb, 0, none⟩), .pointer (some ⟨pb, 0, none⟩), .pointer (some ⟨cb, 0, none⟩)] w _
  go_enter Tryz.func40, Tryz.ntmps40
  go_wp2_with fail
  rw [HW1.out]
  refine HBD.out.mono ?_
  rintro e w2 ⟨v, rfl, hsl, hb2, _⟩
  obtain ⟨Av, cv, rfl⟩ := hsl.form
  have HF := Lib.hid (keep_below hb2 HB1.out)
  clear hsl hb2 x0 x1 x2 x3 p0 p1 p2 p3 p4 p5 p6 p7 p8 p9 p10 p11 c0
  cases hd : decide (0 < n) with
  | true =>
    have hd2 : decide ((0 : Int) < n) = true := decide_eq_true (by have := of_decide_eq_true hd; omega)
    go_wp2_with fail
    go_ret
    exact ⟨by rw [hd]; rfl, HF.out⟩
  | false =>
    have hd2 : decide ((0 : Int) < n) = false := decide_eq_false (by have := of_decide_eq_false hd; omega)
    go_wp2_with fail
    go_ret
    exact ⟨by rw [hd]; rfl, HF.out⟩
set_option maxRecDepth 20000 in
set_option maxHeartbeats 2000000 in
theorem whole10_any {w : World} {S : Nat → Nat → Prop} {U : Nat → Prop} {y : VX} {aw : List Bool} {ds : List DevD} (h : VdIn w S U y aw ds) (few : y.bd.length ≤ 1000) {N : Nat} (ok : DsOk N y.secs ds) (q : PtrD) :
    Calls Tryz.prog 18 #[y.val, .agg #[.int .i64 q.ag, .int .i64 q.aa, .int .i64 q.bg, .int .i64 q.ba, .bool q.two, .int .i64 q.size, .int .i64 q.level, .int .i64 q.birth, .int .u64 q.s0, .int .u64 q.s1, .int .u64 q.s2, .int .u64 q.s3]] w fun e w' => e = .returned (.bool (wholeV y.gs y.secs aw q ds)) ∧ Below w.heap.size w w' := by
  obtain ⟨⟨ct, cpl, cdv, cfx⟩, er, hlv⟩ : ∃ c er, lookV y.gs y.secs q (rawP y.gs y.secs q.size aw ds) = (c, er) := ⟨_, _, rfl⟩
  have hwv : wholeV y.gs y.secs aw q ds = if er = 0 then !(plsL q).any (spoilt y.gs y.secs aw q ds ct) else false := by unfold wholeV; rw [hlv]
  have hsh := look_shape hlv
  have hfl : er = 0 → ct.length ≤ 1000 := fun he => by
    subst he
    have h1 := (hsh.2 rfl).1
    have h2 := (look_found h1 ok hlv).2
    have h3 := cMay_bd ((pls_may h1) (q.ag, q.aa) (by rw [plsL_right h1]; split <;> simp))
    dsimp only at h2
    omega
  obtain ⟨w2, hw2⟩ : ∃ z, (w.alloc (.cells y.cells 37)).alloc (.cells #[.int .i64 q.ag, .int .i64 q.aa, .int .i64 q.bg, .int .i64 q.ba, .bool q.two, .int .i64 q.size, .int .i64 q.level, .int .i64 q.birth, .int .u64 q.s0, .int .u64 q.s1, .int .u64 q.s2, .int .u64 q.s3] 31) = z := ⟨_, rfl⟩
  have B1 : Blk w2 w.heap.size 37 y.cells := by rw [← hw2]; exact (Blk.new _ _ _).alloc _
  have B2 : Blk w2 (w.heap.size + 1) 31 #[.int .i64 q.ag, .int .i64 q.aa, .int .i64 q.bg, .int .i64 q.ba, .bool q.two, .int .i64 q.size, .int .i64 q.level, .int .i64 q.birth, .int .u64 q.s0, .int .u64 q.s1, .int .u64 q.s2, .int .u64 q.s3] := by rw [← hw2]; exact Blk.new2 _ _ _ _
  have D2 : Below w.heap.size w w2 := by rw [← hw2]; exact keep_alloc (keep_alloc (Below.refl _ _) _) _
  have hLK := look_any (h.below D2) few ok q
  rw [hlv] at hLK
  dsimp only [CameD.cells] at hLK
  have HLK := Lib.hid hLK
  have HH := Lib.hid (And.intro (h.below D2) (And.intro hwv (And.intro hsh hfl)))
  have HB := Lib.hid (And.intro B1 B2)
  have HD2 := Lib.hid D2
  have HW2 := Lib.hid hw2
  clear h ok hlv hwv hsh hfl B1 B2 D2 hw2 hLK
  have hB := HB.out
  rw [← HW2.out] at hB
  have x0 := (hB).1.at_ (i := 0) (v := .slice (some ⟨y.gb, 0, none⟩) y.m y.cc) rfl
  have x1 := (hB).1.at_ (i := 1) (v := .int .i64 y.secs) rfl
  have x2 := (hB).1.at_ (i := 2) (v := .slice (some ⟨y.lb, 0, none⟩) y.bd.length y.lc) rfl
  have x3 := (hB).1.at_ (i := 3) (v := .slice (some ⟨y.ab, 0, none⟩) y.bd.length y.bd.length) rfl
  have p0 := (hB).2.at_ (i := 0) (v := .int .i64 q.ag) rfl
  have p1 := (hB).2.at_ (i := 1) (v := .int .i64 q.aa) rfl
  have p2 := (hB).2.at_ (i := 2) (v := .int .i64 q.bg) rfl
  have p3 := (hB).2.at_ (i := 3) (v := .int .i64 q.ba) rfl
  have p4 := (hB).2.at_ (i := 4) (v := .bool q.two) rfl
  have p5 := (hB).2.at_ (i := 5) (v := .int .i64 q.size) rfl
  have p6 := (hB).2.at_ (i := 6) (v := .int .i64 q.level) rfl
  have p7 := (hB).2.at_ (i := 7) (v := .int .i64 q.birth) rfl
  have p8 := (hB).2.at_ (i := 8) (v := .int .u64 q.s0) rfl
  have p9 := (hB).2.at_ (i := 9) (v := .int .u64 q.s1) rfl
  have p10 := (hB).2.at_ (i := 10) (v := .int .u64 q.s2) rfl
  have p11 := (hB).2.at_ (i := 11) (v := .int .u64 q.s3) rfl
  clear hB
  go_enter Tryz.func18, Tryz.ntmps18
  go_wp2_with fail
  rw [HW2.out]
  refine HLK.out.mono ?_
  rintro e w3 ⟨rfl, hb3⟩
  obtain ⟨w4, hw4⟩ : ∃ z, w3.alloc (.cells #[str ct, .int .i64 cpl, .int .i64 cdv, .int .i64 cfx] 45) = z := ⟨_, rfl⟩
  have hb4 : Below w3.heap.size w3 w4 := by rw [← hw4]; exact keep_alloc (Below.refl _ _) _
  have hb24 := keep_below hb4 hb3
  have hN4 : Blk w4 w3.heap.size 45 #[str ct, .int .i64 cpl, .int .i64 cdv, .int .i64 cfx] := by rw [← hw4]; exact Blk.new _ _ _
  have HB4 := Lib.hid (And.intro (And.intro (HB.out.1.below hb24 HB.out.1.lt) (HB.out.2.below hb24 HB.out.2.lt)) hN4)
  have HD4 := Lib.hid (And.intro (keep_below hb24 HD2.out) (HH.out.1.below hb24))
  have HW4 := Lib.hid hw4
  clear x0 x1 x2 x3 p0 p1 p2 p3 p4 p5 p6 p7 p8 p9 p10 p11 hb3 hw4 hb4 hb24 hN4
  by_cases her : er = 0
  · have hq := (HH.out.2.2.1.2 her).1
    have hpm := wholeP_any HD4.out.2 few q ct (HH.out.2.2.2 her) HB4.out.1.1 HB4.out.1.2 HB4.out.2 (pls_may hq)
    have hwv := HH.out.2.1
    rw [if_pos her] at hwv
    have HWV := Lib.hid hwv
    have HPM := Lib.hid hpm
    have HPL := Lib.hid (places2_any q w4)
    have hl2 := plsL_len q
    obtain ⟨L, hL⟩ : ∃ L, plsL q = L := ⟨_, rfl⟩
    rw [hL] at HPL HPM HWV hl2
    subst her
    have hB := HB4.out.1
    rw [← HW4.out] at hB
    have x0 := (hB).1.at_ (i := 0) (v := .slice (some ⟨y.gb, 0, none⟩) y.m y.cc) rfl
    have x1 := (hB).1.at_ (i := 1) (v := .int .i64 y.secs) rfl
    have x2 := (hB).1.at_ (i := 2) (v := .slice (some ⟨y.lb, 0, none⟩) y.bd.length y.lc) rfl
    have x3 := (hB).1.at_ (i := 3) (v := .slice (some ⟨y.ab, 0, none⟩) y.bd.length y.bd.length) rfl
    have p0 := (hB).2.at_ (i := 0) (v := .int .i64 q.ag) rfl
    have p1 := (hB).2.at_ (i := 1) (v := .int .i64 q.aa) rfl
    have p2 := (hB).2.at_ (i := 2) (v := .int .i64 q.bg) rfl
    have p3 := (hB).2.at_ (i := 3) (v := .int .i64 q.ba) rfl
    have p4 := (hB).2.at_ (i := 4) (v := .bool q.two) rfl
    have p5 := (hB).2.at_ (i := 5) (v := .int .i64 q.size) rfl
    have p6 := (hB).2.at_ (i := 6) (v := .int .i64 q.level) rfl
    have p7 := (hB).2.at_ (i := 7) (v := .int .i64 q.birth) rfl
    have p8 := (hB).2.at_ (i := 8) (v := .int .u64 q.s0) rfl
    have p9 := (hB).2.at_ (i := 9) (v := .int .u64 q.s1) rfl
    have p10 := (hB).2.at_ (i := 10) (v := .int .u64 q.s2) rfl
    have p11 := (hB).2.at_ (i := 11) (v := .int .u64 q.s3) rfl
    clear hB hq hpm hwv hL
    go_wp2_with fail
    rw [HW4.out]
    refine HPL.out.mono ?_
    rintro e w5 ⟨⟨pv, rfl, hsl, _⟩, hb5⟩
    have hp5 : PlPred 40 #[.pointer (some ⟨w.heap.size, 0, none⟩), .pointer (some ⟨w.heap.size + 1, 0, none⟩), .pointer (some ⟨w3.heap.size, 0, none⟩)] (spoilt y.gs y.secs aw q ds ct) L w5 := fun x W hx hW => HPM.out x W hx (keep_below hW hb5)
    have hcp := conPl_any 40 _ (spoilt y.gs y.secs aw q ds ct) hsl (by omega) goesWhole hp5
    obtain ⟨Ap, cp, rfl⟩ := hsl.form
    have HCP := Lib.hid hcp
    have HD5 := Lib.hid (keep_below hb5 HD4.out.1)
    clear x0 x1 x2 x3 p0 p1 p2 p3 p4 p5 p6 p7 p8 p9 p10 p11 hb5 hsl hp5 hcp
    go_wp2_with fail
    refine HCP.out.mono ?_
    rintro e w6 ⟨rfl, hb6⟩
    have HD6 := Lib.hid (keep_below hb6 HD5.out)
    clear hb6
    go_wp2_with fail
    go_ret
    rw [HWV.out]
    exact ⟨rfl, HD6.out⟩
  · have hwv := HH.out.2.1
    rw [if_neg her] at hwv
    have HWV := Lib.hid hwv
    have hner : (er != 0) = true := bne_iff_ne.2 her
    clear hwv her
    go_wp2_with fail
    rw [HW4.out]
    go_ret
    rw [HWV.out]
    exact ⟨rfl, HD4.out.1⟩
end Go.Proofs.YtbhkbcpljakmjaaGreat

namespace Go.Proofs.YtbhkbcpljakmjaaGreat
set_option linter.unusedVariables false
set_option linter.unusedSimpArgs false
open Go.RowKit

def hitOne (ds : List DevD) (x : HitD) : List DevD := if 0 ≤ x.dev ∧ x.dev < ds.length then spoilAt ds x.dev.toNat x.at_ x.place x.by_ else ds
def hitAll (ds : List DevD) (l : List HitD) : List DevD := l.foldl hitOne ds
theorem hitAll_snoc (ds : List DevD) (l : List HitD) (x : HitD) : hitAll ds (l ++ [x]) = hitOne (hitAll ds l) x := by
  unfold hitAll
  rw [List.foldl_append]
  rfl
theorem hitOne_ok {N secs : Nat} {ds : List DevD} (h : DsOk N secs ds) (x : HitD) : DsOk N secs (hitOne ds x) := by
  unfold hitOne
  split
  · exact spoilAt_ok h _ _ _ _
  · exact h
theorem hitAll_ok {N secs : Nat} : ∀ (l : List HitD) (ds : List DevD), DsOk N secs ds → DsOk N secs (hitAll ds l)
  | [], _, h => h
  | x :: l, ds, h => hitAll_ok l _ (hitOne_ok h x)
theorem hitAll_hereD {aw : List Bool} (j : Nat) : ∀ (l : List HitD) (ds : List DevD), hereD aw (hitAll ds l) j = hereD aw ds j
  | [], _ => rfl
  | x :: l, ds => by
    show hereD aw (hitAll (hitOne ds x) l) j = _
    rw [hitAll_hereD j l]
    unfold hitOne
    split
    · exact spoilAt_hereD j
    · rfl
/-- Read after Look, Scrub after Read: the same. -/
theorem look_again {gs : List (Int × Int)} {secs n N : Nat} {aw : List Bool} {ds : List DevD} {q : PtrD} (hr : gRight gs secs = true) (hn : gSum gs = n) (hl : ds.length = n) (ok : DsOk N secs ds) {c : CameD} {e : Int} (h : lookV gs secs q (rawP gs secs q.size aw ds) = (c, e)) :
    ∃ c', lookV gs secs q (rawP gs secs q.size aw (readD false gs secs aw q ds)) = (c', e) ∧ c'.text = c.text := by
  unfold readD
  rw [h]
  by_cases he : e = 0
  · subst he
    rw [if_pos rfl]
    exact look_after ((look_shape h).2 rfl).1 hr hn hl ok h
  · rw [if_neg he]
    exact ⟨c, h, rfl⟩
theorem readD_ok {gs : List (Int × Int)} {secs N : Nat} {aw : List Bool} {ds : List DevD} {q : PtrD} {full : Bool} (ok : DsOk N secs ds) : DsOk (N + 128) secs (readD full gs secs aw q ds) := by
  unfold readD
  split
  · exact (mendAll_ok _ _ ok).mono (by have := plsL_len q; rw [List.length_take]; omega)
  · exact ok.mono (by omega)
end Go.Proofs.YtbhkbcpljakmjaaGreat

namespace Go.Proofs.YtbhkbcpljakmjaaGreat
set_option linter.unusedVariables false
set_option linter.unusedSimpArgs false
open Go.RowKit

def AllHere (aw : List Bool) (ds : List DevD) (n : Nat) : Prop := ∀ i, i < n → hereD aw ds i = true
/-- Each place holds the block. -/
def Full (gs : List (Int × Int)) (secs : Int) (aw : List Bool) (q : PtrD) (s : List UInt8) (ds : List DevD) : Prop := ∀ pl ∈ plsL q, rawP gs secs q.size aw ds pl = encL gs secs pl.1 pl.2 s
section
variable {gs : List (Int × Int)} {secs n N : Nat} {aw : List Bool} {ds : List DevD} {q : PtrD} {s : List UInt8}
theorem backG_full {L : List Col} {T : List (List UInt8)} {hs : Nat → Bool} (hT : T.length = L.length) (h : ∀ i, i < L.length → hs (L.getD i (0, 0, false, 0)).1.toNat = true) : backG L T hs = T := by
  apply List.ext_getElem?
  intro i
  by_cases hi : i < L.length
  · have h1 := backG_get (T := T) (hs := hs) hi
    rw [h i hi, if_pos rfl] at h1
    rw [List.getD_eq_getElem?_getD, List.getElem?_eq_getElem (by rw [backG_len]; exact hi), List.getD_eq_getElem?_getD, List.getElem?_eq_getElem (by omega)] at h1
    rw [List.getElem?_eq_getElem (by rw [backG_len]; exact hi), List.getElem?_eq_getElem (by omega)]
    exact congrArg some h1
  · rw [List.getElem?_eq_none (by rw [backG_len]; omega), List.getElem?_eq_none (by omega)]
theorem back_all {pl : PlX} (hr : gRight gs secs = true) (hn : gSum gs = n) (hE : encE gs secs pl.1 pl.2 s = 0) (hh : AllHere aw ds n) : backG (colsOf gs secs pl.1 pl.2 (secN s)) (encL gs secs pl.1 pl.2 s) (hereD aw ds) = encL gs secs pl.1 pl.2 s := by
  obtain ⟨e1, e2, e3⟩ := encE_zero hE
  have hc := cols_of hr hn hE
  rw [ofList_may e2] at hc
  refine backG_full (enc_encL e2).len fun i hi => ?_
  obtain ⟨c1, c2, _, _⟩ := hc.inn i _ (colD_in hi)
  exact hh _ (by omega)
theorem raw_mend_full {pl : PlX} (hr : gRight gs secs = true) (hn : gSum gs = n) (hl : ds.length = n) (ok : DsOk N secs ds) (hE : encE gs secs pl.1 pl.2 s = 0) (hh : AllHere aw ds n) : rawP gs secs (secN s) aw (mendAt gs secs aw s ds pl) pl = encL gs secs pl.1 pl.2 s := by
  rw [raw_mend hr hn hl ok hE, back_all hr hn hE hh]
/-- What a right pointer's places are. -/
theorem pls_cases (hq : rightB gs secs q = true) : (∃ pl, plsL q = [pl] ∧ cMay gs secs pl.1 pl.2 q.size = true) ∨ (∃ pl ql, plsL q = [pl, ql] ∧ cMay gs secs pl.1 pl.2 q.size = true ∧ cMay gs secs ql.1 ql.2 q.size = true ∧
    ∀ i k : Nat, ∀ x y : Col, (colsOf gs secs pl.1 pl.2 q.size)[i]? = some x → (colsOf gs secs ql.1 ql.2 q.size)[k]? = some y → ¬ (x.1 = y.1 ∧ x.2.1 = y.2.1)) := by
  have hm := pls_may hq
  rw [plsL_right hq] at hm ⊢
  cases ht : q.two with
  | false =>
    rw [ht] at hm
    exact .inl ⟨_, rfl, hm _ List.mem_cons_self⟩
  | true =>
    rw [ht] at hm
    have hA := hm (q.ag, q.aa) List.mem_cons_self
    have hB := hm (q.bg, q.ba) (List.mem_cons_of_mem _ List.mem_cons_self)
    have hap : apB gs secs q.ag q.aa q.bg q.ba q.size = true := by
      simp only [rightB, Bool.and_eq_true] at hq
      have := hq.2
      rw [ht, if_pos rfl, Bool.and_eq_true] at this
      exact this.2
    exact .inr ⟨_, _, rfl, hA, hB, (apart_pure hA hB).2.2 hap⟩
theorem full_bad {pl : PlX} {got : List (List UInt8)} (h : got = encL gs secs pl.1 pl.2 s) : badL gs secs pl.1 pl.2 s got = [] := by
  subst h
  unfold badL
  split
  · rw [List.filter_eq_nil_iff]
    intro i _
    simp
  · rfl
theorem full_mend {pl : PlX} (e1 : (secN s : Int) = q.size) (h : rawP gs secs q.size aw ds pl = encL gs secs pl.1 pl.2 s) : mendAt gs secs aw s ds pl = ds ∧ mendB gs secs aw s ds pl = 0 := by
  unfold mendAt mendB
  rw [e1, full_bad h]
  exact ⟨rfl, rfl⟩
/-- A place that holds the block is read as it. -/
theorem full_try {pl : PlX} (hr : gRight gs secs = true) (hn : gSum gs = n) (e1 : (secN s : Int) = q.size) (e2 : secOk s = true) (hsum : fsum s = q.sum) (hm : cMay gs secs pl.1 pl.2 q.size = true) {got : List (List UInt8)} (h : got = encL gs secs pl.1 pl.2 s) :
    ∃ x, tryAt gs secs q got pl = some x ∧ x.2 = s := by
  subst h
  rw [← e1] at hm
  have hE := enc_pl e2 hm
  have hnd : gDevs gs secs = n := by unfold gDevs; rw [if_pos hr]; exact hn
  have hba : backG (colsOf gs secs pl.1 pl.2 (secN s)) (encL gs secs pl.1 pl.2 s) (fun _ => true) = encL gs secs pl.1 pl.2 s := backG_full (enc_encL hm).len fun _ _ => rfl
  have hbf := back_fits (hs := fun _ => true) hm
  have hfo := (back_found (hs := fun _ => true) hm e2 hnd).2 (by
    rw [failN_all (fun _ _ => rfl)]
    have h0 := wE_all (hs := fun _ => true) (n := n) e2 hm (fun _ _ => rfl)
    unfold wE at h0
    rw [if_pos hE, failN_all (fun _ _ => rfl)] at h0
    cases hlb : lostB (grAt gs pl.1) 0 with
    | false => rfl
    | true => rw [hlb] at h0; simp at h0)
  rw [hba] at hbf hfo
  obtain ⟨x, hx, hxs⟩ := hfo
  rcases tryAt_all (q := q) (gs := gs) (secs := secs) (pl := pl) hsum (raw := encL gs secs pl.1 pl.2 s) (by rw [← e1]; exact tries_back hm e2 hbf (fun i _ => .inl rfl)) with ⟨h1, _⟩ | h1
  · rw [← e1] at h1
    rw [h1] at hx
    cases hx
  · exact h1
/-- Writing is as mending all columns. -/
theorem wrTo_mend {aw : List Bool} {L : List Col} {T : List (List UInt8)} {ds : List DevD} (hT : T.length = L.length) : ∀ k, k ≤ L.length → wrTo aw L T ds k = mendTo aw L T ds (List.range k)
  | 0, _ => rfl
  | k + 1, hk => by
    have h1 := wrTo_mend (aw := aw) (ds := ds) hT k (by omega)
    rw [List.range_succ, mendTo_snoc, ← h1, wrTo, colD_in (show k < L.length by omega), List.getElem?_eq_getElem (show k < T.length by omega)]
    show putD _ _ _ _ = putD _ _ _ _
    congr 1
    rw [List.getD_eq_getElem?_getD, List.getElem?_eq_getElem (show k < T.length by omega)]
    rfl
theorem wD_other {pl ql : PlX} {size : Int} (hr : gRight gs secs = true) (hn : gSum gs = n) (hl : ds.length = n) (ok : DsOk N secs ds) (hE : encE gs secs pl.1 pl.2 s = 0) (hq : cMay gs secs ql.1 ql.2 size = true)
    (hap : ∀ i k : Nat, ∀ x y : Col, (colsOf gs secs pl.1 pl.2 (secN s))[i]? = some x → (colsOf gs secs ql.1 ql.2 size)[k]? = some y → ¬ (x.1 = y.1 ∧ x.2.1 = y.2.1)) :
    rawP gs secs size aw (wD gs secs pl.1 pl.2 s aw ds) ql = rawP gs secs size aw ds ql := by
  obtain ⟨e1, e2, e3⟩ := encE_zero hE
  have hc := cols_of hr hn hE
  unfold rawP rawL
  rw [ofList_may hq]
  refine List.map_congr_left fun c hcm => ?_
  obtain ⟨k, hk⟩ := List.mem_iff_getElem?.1 hcm
  rw [rdC_look, rdC_look, wD_hereD]
  split
  · have h1 := ((apart_pure hq hq).1 k c hk).1
    unfold wD
    rw [if_pos hE]
    rw [ofList_may e2] at hc ⊢
    rw [wrTo_mend (enc_encL e2).len _ (Nat.le_refl _)]
    refine mendTo_other h1 _ _ ok (by rw [hl]; exact hc) (fun i hi => List.mem_range.1 hi) fun i hi h => ?_
    exact hap i k _ _ (colD_in (List.mem_range.1 hi)) hk ⟨h.1.symm, h.2.symm⟩
  · rfl
theorem wD_full {pl : PlX} (hr : gRight gs secs = true) (hn : gSum gs = n) (hl : ds.length = n) (ok : DsOk N secs ds) (hE : encE gs secs pl.1 pl.2 s = 0) (hh : AllHere aw ds n) : rawP gs secs (secN s) aw (wD gs secs pl.1 pl.2 s aw ds) pl = encL gs secs pl.1 pl.2 s := by
  have hw : wD gs secs pl.1 pl.2 s aw ds = wrTo aw (ofList gs secs pl.1 pl.2 (secN s)) (encL gs secs pl.1 pl.2 s) ds (ofList gs secs pl.1 pl.2 (secN s)).length := by unfold wD; rw [if_pos hE]
  have h1 := raw_back (aw := aw) hr hn hE ok hl
  unfold rawP
  rw [hw, h1, ofList_may (encE_zero hE).2.1]
  exact back_all hr hn hE hh
/-- What was written at all places. -/
theorem full_written (hq : rightB gs secs q = true) (hr : gRight gs secs = true) (hn : gSum gs = n) (hl : ds.length = n) (ok : DsOk N secs ds) (hh : AllHere aw ds n) (e1 : (secN s : Int) = q.size) (e2 : secOk s = true) : Full gs secs aw q s (wrAll gs secs aw s (plsL q) ds) := by
  intro pl hpl
  rcases pls_cases hq with ⟨pa, hp, hA⟩ | ⟨pa, pb, hp, hA, hB, hap⟩
  · rw [hp] at hpl ⊢
    simp only [List.mem_cons, List.not_mem_nil, or_false] at hpl
    subst hpl
    rw [← e1] at hA ⊢
    exact wD_full hr hn hl ok (enc_pl e2 hA) hh
  · rw [hp] at hpl ⊢
    rw [← e1] at hA hB hap ⊢
    have eA := enc_pl e2 hA
    have eB := enc_pl e2 hB
    have okA : DsOk (N + 64) secs (wD gs secs pa.1 pa.2 s aw ds) := wD_ok ok
    have hlA : (wD gs secs pa.1 pa.2 s aw ds).length = n := by rw [wD_len]; exact hl
    have hhA : AllHere aw (wD gs secs pa.1 pa.2 s aw ds) n := fun i hi => by rw [wD_hereD]; exact hh i hi
    show rawP gs secs (secN s) aw (wD gs secs pb.1 pb.2 s aw (wD gs secs pa.1 pa.2 s aw ds)) pl = _
    simp only [List.mem_cons, List.not_mem_nil, or_false] at hpl
    rcases hpl with rfl | rfl
    · rw [wD_other hr hn hlA okA eB hA (fun i k x y hx hy ⟨a, b⟩ => hap k i y x hy hx ⟨a.symm, b.symm⟩)]
      exact wD_full hr hn hl ok eA hh
    · exact wD_full hr hn hlA okA eB hhA
end
end Go.Proofs.YtbhkbcpljakmjaaGreat

namespace Go.Proofs.YtbhkbcpljakmjaaGreat
set_option linter.unusedVariables false
set_option linter.unusedSimpArgs false
open Go.RowKit

section
variable {gs : List (Int × Int)} {secs n N : Nat} {aw : List Bool} {ds : List DevD} {q : PtrD} {s : List UInt8} {b : UInt8}
end
end Go.Proofs.YtbhkbcpljakmjaaGreat

namespace Go.Proofs.YtbhkbcpljakmjaaGreat
set_option linter.unusedVariables false
set_option linter.unusedSimpArgs false
open Go.RowKit

section
variable {gs : List (Int × Int)} {secs n N : Nat} {aw : List Bool} {ds : List DevD} {q : PtrD} {s : List UInt8} {b : UInt8}
/-- What laid leaves where none is away or lost. -/
theorem laid_full {y : Nat} (hq : rightB gs secs q = true) (hr : gRight gs secs = true) (hn : gSum gs = y) (hs1 : 24 ≤ secs) (hs2 : secs ≤ 200) (e1 : (secN s : Int) = q.size) (e2 : secOk s = true) {ds : List DevD}
    (hds : loT [] (wrAll gs secs (awT [] y 0) s (plsL q) (List.replicate y (DevD.blank secs 0))) y = ds) : Full gs secs (awT [] y y) q s ds ∧ AllHere (awT [] y y) ds y ∧ DsOk 128 secs ds := by
  have hlo : ∀ (D : List DevD) (k : Nat), loT [] D k = D := fun D k => by
    apply List.ext_getElem?
    intro i
    cases h : D[i]? with
    | none => rw [List.getElem?_eq_none_iff] at h; rw [List.getElem?_eq_none (by rw [loT_len]; exact h)]
    | some d => rw [loT_at h]; simp [bAt]
  rw [hlo] at hds
  rw [awT_none (al := [])]
  have hok := blanks_ok (n := y) (secs := secs) (b := 0) (by omega) (by omega)
  have hh : AllHere (awT [] y 0) (List.replicate y (DevD.blank secs 0)) y := fun i hi => by
    unfold hereD
    rw [List.getD_eq_getElem?_getD, awT_at hi, List.getElem?_replicate, if_pos hi]
    simp [DevD.blank]
  subst hds
  refine ⟨full_written hq hr hn (by simp) hok hh e1 e2, fun i hi => by rw [wrAll_hereD]; exact hh i hi, (wrAll_ok _ _ hok).mono (by have := plsL_len q; omega)⟩
end
end Go.Proofs.YtbhkbcpljakmjaaGreat

namespace Go.Proofs.YtbhkbcpljakmjaaGreat
set_option linter.unusedVariables false
set_option linter.unusedSimpArgs false
open Go.RowKit

section
variable {gs : List (Int × Int)} {secs n N : Nat} {aw : List Bool} {ds : List DevD} {q : PtrD}
theorem twice_law (hr : gRight gs secs = true) (hn : gSum gs = n) (hl : ds.length = n) (ok : DsOk N secs ds) (hh : AllHere aw ds n) {c : CameD} (h : lookV gs secs q (rawP gs secs q.size aw ds) = (c, 0)) (hp : c.place = 0) : readN false gs secs aw q (readD false gs secs aw q ds) = 0 := by
  have hq := ((look_shape h).2 rfl).1
  obtain ⟨hs1, hs2⟩ := look_found hq ok h
  obtain ⟨pl, r, hpl, hm⟩ : ∃ pl r, plsL q = pl :: r ∧ cMay gs secs pl.1 pl.2 q.size = true := by
    rcases pls_cases hq with ⟨pa, hp, hA⟩ | ⟨pa, pb, hp, hA, _⟩
    · exact ⟨_, _, hp, hA⟩
    · exact ⟨_, _, hp, hA⟩
  have hbd := cMay_bd hm
  have e1 : (secN c.text : Int) = q.size := by unfold secN; rw [hs2]; omega
  have e2 : secOk c.text = true := by
    unfold secOk
    rw [decide_eq_true (show c.text ≠ [] by intro e; rw [e] at hs2; simp at hs2; omega), decide_eq_true (show c.text.length % 64 = 0 by rw [hs2]; omega), decide_eq_true (show c.text.length ≤ 256 by rw [hs2]; omega)]
    rfl
  have hD : readD false gs secs aw q ds = mendAt gs secs aw c.text ds pl := by
    unfold readD placesTo
    rw [h, hpl]
    simp [hp, mendAll]
  rw [hD]
  have hraw : rawP gs secs q.size aw (mendAt gs secs aw c.text ds pl) pl = encL gs secs pl.1 pl.2 c.text := by
    rw [← e1] at hm ⊢
    exact raw_mend_full hr hn hl ok (enc_pl e2 hm) hh
  obtain ⟨x, hx, hxs⟩ := full_try hr hn e1 e2 hs1 hm hraw
  have hlk : lookV gs secs q (rawP gs secs q.size aw (mendAt gs secs aw c.text ds pl)) = (⟨x.2, 0, x.1, 0⟩, 0) := by
    unfold lookV
    rw [if_pos hq, hpl]
    unfold lookFrom
    rw [hx]
  unfold readN placesTo
  rw [hlk, hpl]
  simp only [if_true, Bool.false_eq_true, if_false, Nat.zero_add, List.take_succ_cons, List.take_zero]
  rw [hxs]
  show mendB gs secs aw c.text _ pl + 0 = 0
  rw [(full_mend e1 hraw).2]
/-- Nothing in the caches. -/
def Clean (ds : List DevD) : Prop := ∀ d ∈ ds, ∀ k, d.cac k = []
theorem clean_spoil {d : DevD} (h : ∀ k, d.cac k = []) (a p : Int) (b : UInt8) : ∀ k, (d.spoil a p b).cac k = [] := by
  intro k
  unfold DevD.spoil
  split
  · unfold DevD.spoiled
    rw [h a.toNat]
    exact h k
  · exact h k
theorem clean_hits : ∀ (l : List HitD) (ds : List DevD), Clean ds → Clean (hitAll ds l)
  | [], _, h => h
  | x :: l, ds, h => by
    refine clean_hits l _ ?_
    unfold hitOne
    split
    · unfold spoilAt
      split
      · rename_i d hd
        intro e he
        rcases List.mem_or_eq_of_mem_set he with he | rfl
        · exact h e he
        · exact clean_spoil (h d (List.mem_of_getElem? hd)) _ _ _
      · exact h
    · exact h
theorem flk_ok {d : DevD} {secs N : Nat} (h : d.Ok ∧ d.med.length = secs ∧ d.fuse = -1 ∧ ∀ k, (d.cac k).length ≤ N) : d.fl.Ok ∧ d.fl.med.length = secs ∧ d.fl.fuse = -1 ∧ ∀ k, (d.fl.cac k).length ≤ N := by
  obtain ⟨o1, o2, o3, o4⟩ := h
  unfold DevD.fl
  split
  · refine ⟨o1.burn.settled, ?_, ?_, fun k => Nat.zero_le _⟩
    · show (d.med.mapIdx _).length = secs
      rw [List.length_mapIdx]
      exact o2
    · show max (d.fuse - 1) (-1) = -1
      omega
  · exact ⟨o1, o2, o3, o4⟩
theorem flTo_ok (h : DsOk N secs ds) (k : Nat) : DsOk N secs (flTo aw ds k) := by
  intro e he
  obtain ⟨i, hi⟩ := List.mem_iff_getElem?.1 he
  rw [flTo_at] at hi
  cases hd : ds[i]? with
  | none => rw [hd] at hi; cases hi
  | some d =>
    rw [hd] at hi
    have hdo := h d (List.mem_of_getElem? hd)
    simp only [Option.map_some, Option.some.injEq] at hi
    rw [← hi]
    split
    · exact flk_ok hdo
    · exact hdo
theorem clean_flushed (ok : DsOk N secs ds) (hh : AllHere aw ds n) (hl : ds.length = n) : Clean (flTo aw ds n) := by
  intro e he k
  obtain ⟨i, hi⟩ := List.mem_iff_getElem?.1 he
  rw [flTo_at] at hi
  cases hd : ds[i]? with
  | none => rw [hd] at hi; cases hi
  | some d =>
    have hil : i < n := by have := (List.getElem?_eq_some_iff.1 hd).1; omega
    have hhi := hh i hil
    rw [hd] at hi
    simp only [Option.map_some, Option.some.injEq] at hi
    rw [decide_eq_true hil, hhi, Bool.true_and, if_pos rfl] at hi
    rw [← hi]
    have hlo : d.lost = false := by
      unfold hereD at hhi
      rw [hd] at hhi
      simp only [Bool.and_eq_true, Bool.not_eq_true'] at hhi
      exact hhi.2
    have hfe : d.flE = 0 := by unfold DevD.flE; rw [hlo, (ok d (List.mem_of_getElem? hd)).2.2.1]; rfl
    unfold DevD.fl
    rw [if_pos hfe]
    rfl
theorem clean_keys {d : DevD} (h : ∀ k, d.cac k = []) : d.keys = [] := by
  unfold DevD.keys hasL
  rw [List.filter_eq_nil_iff]
  intro k _
  unfold DevD.pre
  rw [h k]
  simp
end
theorem vfl1_any {w : World} {S : Nat → Nat → Prop} {U : Nat → Prop} {y : VX} {aw : List Bool} {ds : List DevD} (h : VdIn w S U y aw ds) {N : Nat} (ok : DsOk N y.secs ds) {i b : Nat} {d : DevD} (hb : y.bd[i]? = some b) (hd : ds[i]? = some d) :
    Calls Tryz.prog 25 #[.pointer (some ⟨b, 0, none⟩)] w fun e w' => e = .returned (.int .i64 d.flE) ∧ (∃ S', VdIn w' S' U y aw (ds.set i d.fl)) ∧ Stays U w w' := by
  obtain ⟨o1, o2, o3, o4⟩ := ok d (List.mem_of_getElem? hd)
  refine (flush_any (h.dev i b d hb hd) o1).mono ?_
  rintro e w' ⟨rfl, hd', ho⟩
  exact ⟨rfl, ⟨_, h.step hb ho (hd'.more ho.size (fun b hb => h.lt i b hb)) (by rw [fl_len]; exact o2)⟩, Only.mono ho (fun g _ hg hU => h.fx i g hg hU)⟩
end Go.Proofs.YtbhkbcpljakmjaaGreat

namespace Go.Proofs
open Go.Shelf
def Tryz.keysA_ren : Go.Shelf.Ren := ⟨fun | 7 => 52 | 10 => 77 | n => n, fun | 23 => 88 | 26 => 3 | 3 => 60 | 28 => 112 | 0 => 0 | 27 => 111 | 33 => 140 | 4 => 4 | n => n, fun | n => n⟩
theorem Tryz.keysA : Go.Proofs.SlLaysZI.n7 Tryz.prog Tryz.keysA_ren := {
  mixed := by kernel_rfl
  f7 := ⟨Tryz.f52.name, by decide, Tryz.func52.trans (congrArg some (by kernel_rfl))⟩
  f10 := ⟨Tryz.f77.name, by decide, Tryz.func77.trans (congrArg some (by kernel_rfl))⟩
  t0 := Tryz.underlying0
  a0 := Tryz.isAgg0
  z0 := Tryz.sizeOf0
  v0 := Tryz.zeroValue0
  t4 := Tryz.underlying4
  a4 := Tryz.isAgg4
  z4 := Tryz.sizeOf4
  v4 := Tryz.zeroValue4
  t23 := Tryz.underlying88
  a23 := Tryz.isAgg88
  z23 := Tryz.sizeOf88
  v23 := Tryz.zeroValue88
  t26 := Tryz.underlying3
  a26 := Tryz.isAgg3
  z26 := Tryz.sizeOf3
  v26 := Tryz.zeroValue3
  t27 := Tryz.underlying111
  a27 := Tryz.isAgg111
  z27 := Tryz.sizeOf111
  v27 := Tryz.zeroValue111
  t28 := Tryz.underlying112
  a28 := Tryz.isAgg112
  z28 := Tryz.sizeOf112
  v28 := Tryz.zeroValue112
  t33 := Tryz.underlying140
  a33 := Tryz.isAgg140
  z33 := Tryz.sizeOf140
  v33 := Tryz.zeroValue140 }
def Tryz.sortedA_ren : Go.Shelf.Ren := ⟨fun | 6 => 51 | 8 => 75 | 9 => 76 | 11 => 108 | 13 => 110 | 12 => 109 | 23 => 137 | 24 => 138 | 14 => 128 | 15 => 129 | 16 => 130 | 17 => 131 | 18 => 132 | 19 => 133 | 20 => 134 | 21 => 135 | 22 => 136 | 25 => 146 | 26 => 147 | 27 => 148 | 28 => 149 | 29 => 150 | 30 => 151 | 31 => 152 | n => n, fun | 26 => 3 | 28 => 112 | 24 => 74 | 0 => 0 | 3 => 3 | 37 => 159 | 48 => 192 | 50 => 27 | 4 => 4 | 40 => 200 | 39 => 199 | 45 => 205 | 5 => 5 | 9 => 9 | 51 => 215 | 55 => 219 | 57 => 221 | 58 => 222 | 33 => 140 | n => n, fun | n => n⟩
theorem Tryz.sortedA : Go.Proofs.SlLaysZI.n6 Tryz.prog Tryz.sortedA_ren := {
  mixed := by kernel_rfl
  f6 := ⟨Tryz.f51.name, by decide, Tryz.func51.trans (congrArg some (by kernel_rfl))⟩
  f8 := ⟨Tryz.f75.name, by decide, Tryz.func75.trans (congrArg some (by kernel_rfl))⟩
  f11 := ⟨Tryz.f108.name, by decide, Tryz.func108.trans (congrArg some (by kernel_rfl))⟩
  t0 := Tryz.underlying0
  a0 := Tryz.isAgg0
  z0 := Tryz.sizeOf0
  v0 := Tryz.zeroValue0
  t24 := Tryz.underlying74
  a24 := Tryz.isAgg74
  z24 := Tryz.sizeOf74
  v24 := Tryz.zeroValue74
  t26 := Tryz.underlying3
  a26 := Tryz.isAgg3
  z26 := Tryz.sizeOf3
  v26 := Tryz.zeroValue3
  t28 := Tryz.underlying112
  a28 := Tryz.isAgg112
  z28 := Tryz.sizeOf112
  v28 := Tryz.zeroValue112
  i26 := by kernel_rfl }
def Tryz.sortA_ren : Go.Shelf.Ren := ⟨fun | 5 => 76 | 8 => 110 | 7 => 109 | 19 => 137 | 20 => 138 | 10 => 128 | 11 => 129 | 12 => 130 | 13 => 131 | 14 => 132 | 15 => 133 | 16 => 134 | 17 => 135 | 18 => 136 | 30 => 146 | 31 => 147 | 32 => 148 | 33 => 149 | 34 => 150 | 35 => 151 | 40 => 152 | n => n, fun | 23 => 74 | 25 => 3 | 3 => 3 | 32 => 159 | 22 => 74 | 0 => 0 | 44 => 192 | 46 => 27 | 4 => 4 | 36 => 200 | 35 => 199 | 41 => 205 | 5 => 5 | 9 => 9 | 53 => 215 | 57 => 219 | 63 => 221 | 64 => 222 | n => n, fun | n => n⟩
theorem Tryz.sortA : Go.Proofs.SlLaysM.n5 Tryz.prog Tryz.sortA_ren := {
  mixed := by kernel_rfl
  f5 := ⟨Tryz.f76.name, by decide, Tryz.func76.trans (congrArg some (by kernel_rfl))⟩
  f7 := ⟨Tryz.f109.name, by decide, Tryz.func109.trans (congrArg some (by kernel_rfl))⟩
  f8 := Tryz.func110.trans (congrArg some (by kernel_rfl))
  f10 := ⟨Tryz.f128.name, by decide, Tryz.func128.trans (congrArg some (by kernel_rfl))⟩
  f11 := ⟨Tryz.f129.name, by decide, Tryz.func129.trans (congrArg some (by kernel_rfl))⟩
  f12 := ⟨Tryz.f130.name, by decide, Tryz.func130.trans (congrArg some (by kernel_rfl))⟩
  f13 := ⟨Tryz.f131.name, by decide, Tryz.func131.trans (congrArg some (by kernel_rfl))⟩
  f14 := ⟨Tryz.f132.name, by decide, Tryz.func132.trans (congrArg some (by kernel_rfl))⟩
  f15 := ⟨Tryz.f133.name, by decide, Tryz.func133.trans (congrArg some (by kernel_rfl))⟩
  f16 := ⟨Tryz.f134.name, by decide, Tryz.func134.trans (congrArg some (by kernel_rfl))⟩
  f17 := ⟨Tryz.f135.name, by decide, Tryz.func135.trans (congrArg some (by kernel_rfl))⟩
  f18 := ⟨Tryz.f136.name, by decide, Tryz.func136.trans (congrArg some (by kernel_rfl))⟩
  f19 := Tryz.func137.trans (congrArg some (by kernel_rfl))
  f20 := Tryz.func138.trans (congrArg some (by kernel_rfl))
  f30 := ⟨Tryz.f146.name, by decide, Tryz.func146.trans (congrArg some (by kernel_rfl))⟩
  f31 := Tryz.func147.trans (congrArg some (by kernel_rfl))
  f32 := Tryz.func148.trans (congrArg some (by kernel_rfl))
  f33 := ⟨Tryz.f149.name, by decide, Tryz.func149.trans (congrArg some (by kernel_rfl))⟩
  f34 := ⟨Tryz.f150.name, by decide, Tryz.func150.trans (congrArg some (by kernel_rfl))⟩
  f35 := ⟨Tryz.f151.name, by decide, Tryz.func151.trans (congrArg some (by kernel_rfl))⟩
  f40 := ⟨Tryz.f152.name, by decide, Tryz.func152.trans (congrArg some (by kernel_rfl))⟩
  t0 := Tryz.underlying0
  a0 := Tryz.isAgg0
  z0 := Tryz.sizeOf0
  v0 := Tryz.zeroValue0
  t3 := Tryz.underlying3
  a3 := Tryz.isAgg3
  z3 := Tryz.sizeOf3
  v3 := Tryz.zeroValue3
  t4 := Tryz.underlying4
  a4 := Tryz.isAgg4
  z4 := Tryz.sizeOf4
  v4 := Tryz.zeroValue4
  t5 := Tryz.underlying5
  a5 := Tryz.isAgg5
  z5 := Tryz.sizeOf5
  v5 := Tryz.zeroValue5
  t9 := Tryz.underlying9
  a9 := Tryz.isAgg9
  z9 := Tryz.sizeOf9
  v9 := Tryz.zeroValue9
  t22 := Tryz.underlying74
  a22 := Tryz.isAgg74
  z22 := Tryz.sizeOf74
  v22 := Tryz.zeroValue74
  t23 := Tryz.underlying74
  a23 := Tryz.isAgg74
  z23 := Tryz.sizeOf74
  v23 := Tryz.zeroValue74
  t25 := Tryz.underlying3
  a25 := Tryz.isAgg3
  z25 := Tryz.sizeOf3
  v25 := Tryz.zeroValue3
  t32 := Tryz.underlying159
  a32 := Tryz.isAgg159
  z32 := Tryz.sizeOf159
  v32 := Tryz.zeroValue159
  t35 := Tryz.underlying199
  a35 := Tryz.isAgg199
  z35 := Tryz.sizeOf199
  v35 := Tryz.zeroValue199
  t36 := Tryz.underlying200
  a36 := Tryz.isAgg200
  z36 := Tryz.sizeOf200
  v36 := Tryz.zeroValue200
  t41 := Tryz.underlying205
  a41 := Tryz.isAgg205
  z41 := Tryz.sizeOf205
  v41 := Tryz.zeroValue205
  t44 := Tryz.underlying192
  a44 := Tryz.isAgg192
  z44 := Tryz.sizeOf192
  v44 := Tryz.zeroValue192
  t46 := Tryz.underlying27
  a46 := Tryz.isAgg27
  z46 := Tryz.sizeOf27
  v46 := Tryz.zeroValue27
  t53 := Tryz.underlying215
  a53 := Tryz.isAgg215
  z53 := Tryz.sizeOf215
  v53 := Tryz.zeroValue215
  t57 := Tryz.underlying219
  a57 := Tryz.isAgg219
  z57 := Tryz.sizeOf219
  v57 := Tryz.zeroValue219
  t63 := Tryz.underlying221
  a63 := Tryz.isAgg221
  z63 := Tryz.sizeOf221
  v63 := Tryz.zeroValue221
  t64 := Tryz.underlying222
  a64 := Tryz.isAgg222
  z64 := Tryz.sizeOf222
  v64 := Tryz.zeroValue222 }
end Go.Proofs
