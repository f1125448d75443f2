/-
  Contracts of package heal: Whole.
  Blocks all columns of which are as they are to be: plain laws of heal.
  What a reading mends, counted column by column: plain words.
  The reference's number of digits.
  The document's answer for layer 7: Text, Xor, Fits.
-/
import Derived.Test.YtbhkbcpljakmjaaGreatJ27
import Derived.Test.YtbhkbcpljakmjaaGreatJ29
import Derived.Test.YtbhkbcpljakmjaaGreatJ16
import Derived.Test.YtbhkbcpljakmjaaGreatJ24
import Derived.Test.YtbhkbcpljakmjaaGreatJ19
import Derived.Test.YtbhkbcpljakmjaaGreatJ21
import Derived.Laws.BitsAllLaws
import Derived.Laws.IdiomStrings
namespace Go.Proofs.YtbhkbcpljakmjaaGreat
set_option linter.unusedVariables false
set_option linter.unusedSimpArgs false
open Go.RowKit
def PlPred (fn : FuncId) (caps : Array Value) (p : Int × Int → Bool) (l : List (Int × Int)) (w0 : World) : Prop :=
 ∀ (x : Int × Int) (w : World), x ∈ l → Below w0.heap.size w0 w → Calls Tryz.prog fn (#[.agg #[.int .i64 x.1, .int .i64 x.2]] ++ caps) w fun e w' => e = .returned (.bool (p x)) ∧ Below w.heap.size w w'
set_option maxRecDepth 20000 in
theorem idxPl_any (fn : FuncId) (caps : Array Value) {w : World} {ss : List (Int × Int)} {sv : Value} (p : Int × Int → Bool) (h1 : SlAt w sv ss.length (grC ss)) (f1 : ss.length ≤ 1000000) (hgo : Goes fn) (hp : PlPred fn caps p ss w) :
 Calls Tryz.prog 68 #[sv, .func (.func fn) #[] caps] w fun e w' => e = .returned (.int .i64 (firstAt p ss)) ∧ Below w.heap.size w w' := by
 obtain ⟨A, c1, rfl⟩ := h1.form
 have H1 := Lib.hid h1
 have HP := Lib.hid hp
 clear h1 hp
 unfold Goes at hgo
 go_enter Tryz.func68, Tryz.ntmps68
 go_wp2_with fail
 go_loopw [8] (fun t wr => ∃ k : Nat, k ≤ ss.length ∧ t = .int .i64 k ∧ Below w.heap.size w wr ∧ ∀ j, j < k → ∀ x, ss[j]? = some x → p x = false) (fun t _ => ss.length - (RowKit.intOf t).toNat)
 case atStart => exact ⟨0, Nat.zero_le _, rfl, Below.refl _ _, fun j hj => absurd hj (Nat.not_lt_zero _)⟩
 case round =>
  obtain ⟨k, hk, rfl, hb, hal⟩ := hrel
  have HB := Lib.hid hb
  have HAL := Lib.hid hal
  by_cases hlt : k < ss.length
  · obtain ⟨b, oo, rfl, hbl, hcell⟩ := H1.out.cells (by omega)
    obtain ⟨x, hx⟩ : ∃ x, ss[k]? = some x := ⟨_, List.getElem?_eq_getElem hlt⟩
    obtain ⟨q0, q1⟩ := grC_get hx
    have f0 : wr.cell? ⟨b, oo + k * 2, none⟩ = some (.int .i64 x.1) := (World.cell?_of_block (hb.block b hbl)).trans (hcell _ _ q0)
    have f1' : wr.cell? ⟨b, oo + k * 2 + 1, none⟩ = some (.int .i64 x.2) := (World.cell?_of_block (hb.block b hbl)).trans (hcell _ _ q1)
    have hdc : decide (k < ss.length) = true := decide_eq_true hlt
    have HLT := Lib.hid hlt
    have HXX := Lib.hid hx
    clear hcell hx hb hal hbl q0 q1
    go_wp2_with fail
    refine (HP.out x wr (List.mem_of_getElem? HXX.out) HB.out).mono ?_
    rintro e w1 ⟨rfl, hb1⟩
    have HB1 := Lib.hid (keep_below hb1 HB.out)
    clear hb1
    cases hpx : p x with
    | true =>
     have HE := Lib.hid hpx
     clear hpx
     go_wp2_with fail
     go_ret
     exact ⟨ret_int (firstAt_hit HXX.out HE.out HAL.out).symm, HB1.out⟩
    | false =>
     have HE := Lib.hid hpx
     clear hpx
     go_wp2_with fail
     go_roundw
     case rel =>
      refine ⟨k + 1, HLT.out, by go_num, HB1.out, fun j hj y hy => ?_⟩
      by_cases e : j < k
      · exact HAL.out j e y hy
      · obtain rfl : j = k := by omega
        have h2 := HXX.out
        rw [hy] at h2
        cases h2
        exact HE.out
     case measure => have := HLT.out; simp [RowKit.intOf]; omega
  · obtain rfl : k = ss.length := by omega
    have hdc : decide ((ss.length : Int) < ss.length) = false := decide_eq_false (by omega)
    clear hb hal
    go_wp2_with fail
    go_ret
    exact ⟨ret_int (firstAt_miss HAL.out).symm, HB.out⟩
theorem conPl_any (fn : FuncId) (caps : Array Value) {w : World} {ss : List (Int × Int)} {sv : Value} (p : Int × Int → Bool) (h1 : SlAt w sv ss.length (grC ss)) (f1 : ss.length ≤ 1000000) (hgo : Goes fn) (hp : PlPred fn caps p ss w) :
 Calls Tryz.prog 39 #[sv, .func (.func fn) #[] caps] w fun e w' => e = .returned (.bool (ss.any p)) ∧ Below w.heap.size w w' := by
 have H := Lib.hid (idxPl_any fn caps p h1 f1 hgo hp)
 clear hp hgo h1
 go_enter Tryz.func39, Tryz.ntmps39
 go_wp2_with fail
 refine H.out.mono ?_
 rintro e w1 ⟨rfl, hb1⟩
 go_wp2_with fail
 go_ret
 exact ⟨ret_bool (firstAt_nonneg _ _), hb1⟩
def spoilt (gs : List (Int × Int)) (secs : Int) (aw : List Bool) (q : PtrD) (ds : List DevD) (s : List UInt8) (pl : PlX) : Bool := decide (0 < (badL gs secs pl.1 pl.2 s (rawP gs secs q.size aw ds pl)).length)
def wholeV (gs : List (Int × Int)) (secs : Int) (aw : List Bool) (q : PtrD) (ds : List DevD) : Bool :=
 if (lookV gs secs q (rawP gs secs q.size aw ds)).2 = 0 then !(plsL q).any (spoilt gs secs aw q ds (lookV gs secs q (rawP gs secs q.size aw ds)).1.text) else false
theorem goesWhole : Goes 40 := enters_of Tryz.func40 (by kernel_rfl) (by kernel_rfl)
set_option maxRecDepth 20000 in
theorem wholeP_any {w0 : World} {S : Nat → Nat → Prop} {U : Nat → Prop} {y : VX} {aw : List Bool} {ds : List DevD} (h : VdIn w0 S U y aw ds) (few : y.bd.length ≤ 1000) (q : PtrD) (s : List UInt8) (hl : s.length ≤ 1000) {xb pb cb : Nat} {cpl : Int} {cdv cfx : Int} (hx : Blk w0 xb 37 y.cells) (hp : Blk w0 pb 31 #[.int .i64 q.ag, .int .i64 q.aa, .int .i64 q.bg, .int .i64 q.ba, .bool q.two, .int .i64 q.size, .int .i64 q.level, .int .i64 q.birth, .int .u64 q.s0, .int .u64 q.s1, .int .u64 q.s2, .int .u64 q.s3])
 (hc : Blk w0 cb 45 #[str s, .int .i64 cpl, .int .i64 cdv, .int .i64 cfx]) (hm : ∀ pl ∈ plsL q, cMay y.gs y.secs pl.1 pl.2 q.size = true) :
 PlPred 40 #[.pointer (some ⟨xb, 0, none⟩), .pointer (some ⟨pb, 0, none⟩), .pointer (some ⟨cb, 0, none⟩)] (spoilt y.gs y.secs aw q ds s) (plsL q) w0 := by
 intro pl w hpl hb
 have hx1 := hx.below hb hx.lt
 have hp1 := hp.below hb hp.lt
 have hc1 := hc.below hb hc.lt
 obtain ⟨w1, hw1⟩ : ∃ z, w.alloc (.cells #[.int .i64 pl.1, .int .i64 pl.2] 26) = z := ⟨_, rfl⟩
 have hb1 : Below w.heap.size w w1 := by rw [← hw1]; exact keep_alloc (Below.refl _ _) _
 have hX := hx1.below hb1 hx1.lt
 have hP := hp1.below hb1 hp1.lt
 have hC := hc1.below hb1 hc1.lt
 have hBD := bad10_any ((h.below hb).below hb1) few q pl (hm pl hpl) s hl
 obtain ⟨n, hn⟩ : ∃ n, (badL y.gs y.secs pl.1 pl.2 s (rawP y.gs y.secs q.size aw ds pl)).length = n := ⟨_, rfl⟩
 have hsp : spoilt y.gs y.secs aw q ds s pl = decide (0 < n) := by unfold spoilt; rw [hn]
 rw [hsp]
 rw [hn] at hBD
 have HBD := Lib.hid hBD
 have x0 := hX.at_ (i := 0) (v := .slice (some ⟨y.gb, 0, none⟩) y.m y.cc) rfl
 have x1 := hX.at_ (i := 1) (v := .int .i64 y.secs) rfl
 have x2 := hX.at_ (i := 2) (v := .slice (some ⟨y.lb, 0, none⟩) y.bd.length y.lc) rfl
 have x3 := hX.at_ (i := 3) (v := .slice (some ⟨y.ab, 0, none⟩) y.bd.length y.bd.length) rfl
 have p0 := hP.at_ (i := 0) (v := .int .i64 q.ag) rfl
 have p1 := hP.at_ (i := 1) (v := .int .i64 q.aa) rfl
 have p2 := hP.at_ (i := 2) (v := .int .i64 q.bg) rfl
 have p3 := hP.at_ (i := 3) (v := .int .i64 q.ba) rfl
 have p4 := hP.at_ (i := 4) (v := .bool q.two) rfl
 have p5 := hP.at_ (i := 5) (v := .int .i64 q.size) rfl
 have p6 := hP.at_ (i := 6) (v := .int .i64 q.level) rfl
 have p7 := hP.at_ (i := 7) (v := .int .i64 q.birth) rfl
 have p8 := hP.at_ (i := 8) (v := .int .u64 q.s0) rfl
 have p9 := hP.at_ (i := 9) (v := .int .u64 q.s1) rfl
 have p10 := hP.at_ (i := 10) (v := .int .u64 q.s2) rfl
 have p11 := hP.at_ (i := 11) (v := .int .u64 q.s3) rfl
 have c0 := hC.at_ (i := 0) (v := str s) rfl
 have HB1 := Lib.hid hb1
 rw [← hw1] at x0 x1 x2 x3 p0 p1 p2 p3 p4 p5 p6 p7 p8 p9 p10 p11 c0
 have HW1 := Lib.hid hw1
 clear hx hp hc hm hx1 hp1 hc1 hX hP hC hBD hw1 hb1 h hb hn hsp
 show Calls Tryz.prog 40 #[.agg #[.int .i64 pl.1, .int .i64 pl.2], .pointer (some ⟨xb, 0, none⟩), .pointer (some ⟨pb, 0, none⟩), .pointer (some ⟨cb, 0, none⟩)] w _
 go_enter Tryz.func40, Tryz.ntmps40
 go_wp2_with fail
 rw [HW1.out]
 refine HBD.out.mono ?_
 rintro e w2 ⟨v, rfl, hsl, hb2, _⟩
 obtain ⟨Av, cv, rfl⟩ := hsl.form
 have HF := Lib.hid (keep_below hb2 HB1.out)
 clear hsl hb2 x0 x1 x2 x3 p0 p1 p2 p3 p4 p5 p6 p7 p8 p9 p10 p11 c0
 cases hd : decide (0 < n) with
 | true =>
  have hd2 : decide ((0 : Int) < n) = true := decide_eq_true (by have := of_decide_eq_true hd; omega)
  go_wp2_with fail
  go_ret
  exact ⟨by rw [hd]; rfl, HF.out⟩
 | false =>
  have hd2 : decide ((0 : Int) < n) = false := decide_eq_false (by have := of_decide_eq_false hd; omega)
  go_wp2_with fail
  go_ret
  exact ⟨by rw [hd]; rfl, HF.out⟩
set_option maxRecDepth 20000 in
set_option maxHeartbeats 2000000 in
theorem whole10_any {w : World} {S : Nat → Nat → Prop} {U : Nat → Prop} {y : VX} {aw : List Bool} {ds : List DevD} (h : VdIn w S U y aw ds) (few : y.bd.length ≤ 1000) {N : Nat} (ok : DsOk N y.secs ds) (q : PtrD) :
 Calls Tryz.prog 18 #[y.val, .agg #[.int .i64 q.ag, .int .i64 q.aa, .int .i64 q.bg, .int .i64 q.ba, .bool q.two, .int .i64 q.size, .int .i64 q.level, .int .i64 q.birth, .int .u64 q.s0, .int .u64 q.s1, .int .u64 q.s2, .int .u64 q.s3]] w fun e w' => e = .returned (.bool (wholeV y.gs y.secs aw q ds)) ∧ Below w.heap.size w w' := by
 obtain ⟨⟨ct, cpl, cdv, cfx⟩, er, hlv⟩ : ∃ c er, lookV y.gs y.secs q (rawP y.gs y.secs q.size aw ds) = (c, er) := ⟨_, _, rfl⟩
 have hwv : wholeV y.gs y.secs aw q ds = if er = 0 then !(plsL q).any (spoilt y.gs y.secs aw q ds ct) else false := by unfold wholeV; rw [hlv]
 have hsh := look_shape hlv
 have hfl : er = 0 → ct.length ≤ 1000 := fun he => by
  subst he
  have h1 := (hsh.2 rfl).1
  have h2 := (look_found h1 ok hlv).2
  have h3 := cMay_bd ((pls_may h1) (q.ag, q.aa) (by rw [plsL_right h1]; split <;> simp))
  dsimp only at h2
  omega
 obtain ⟨w2, hw2⟩ : ∃ z, (w.alloc (.cells y.cells 37)).alloc (.cells #[.int .i64 q.ag, .int .i64 q.aa, .int .i64 q.bg, .int .i64 q.ba, .bool q.two, .int .i64 q.size, .int .i64 q.level, .int .i64 q.birth, .int .u64 q.s0, .int .u64 q.s1, .int .u64 q.s2, .int .u64 q.s3] 31) = z := ⟨_, rfl⟩
 have B1 : Blk w2 w.heap.size 37 y.cells := by rw [← hw2]; exact (Blk.new _ _ _).alloc _
 have B2 : Blk w2 (w.heap.size + 1) 31 #[.int .i64 q.ag, .int .i64 q.aa, .int .i64 q.bg, .int .i64 q.ba, .bool q.two, .int .i64 q.size, .int .i64 q.level, .int .i64 q.birth, .int .u64 q.s0, .int .u64 q.s1, .int .u64 q.s2, .int .u64 q.s3] := by rw [← hw2]; exact Blk.new2 _ _ _ _
 have D2 : Below w.heap.size w w2 := by rw [← hw2]; exact keep_alloc (keep_alloc (Below.refl _ _) _) _
 have hLK := look_any (h.below D2) few ok q
 rw [hlv] at hLK
 dsimp only [CameD.cells] at hLK
 have HLK := Lib.hid hLK
 have HH := Lib.hid (And.intro (h.below D2) (And.intro hwv (And.intro hsh hfl)))
 have HB := Lib.hid (And.intro B1 B2)
 have HD2 := Lib.hid D2
 have HW2 := Lib.hid hw2
 clear h ok hlv hwv hsh hfl B1 B2 D2 hw2 hLK
 have hB := HB.out
 rw [← HW2.out] at hB
 have x0 := (hB).1.at_ (i := 0) (v := .slice (some ⟨y.gb, 0, none⟩) y.m y.cc) rfl
 have x1 := (hB).1.at_ (i := 1) (v := .int .i64 y.secs) rfl
 have x2 := (hB).1.at_ (i := 2) (v := .slice (some ⟨y.lb, 0, none⟩) y.bd.length y.lc) rfl
 have x3 := (hB).1.at_ (i := 3) (v := .slice (some ⟨y.ab, 0, none⟩) y.bd.length y.bd.length) rfl
 have p0 := (hB).2.at_ (i := 0) (v := .int .i64 q.ag) rfl
 have p1 := (hB).2.at_ (i := 1) (v := .int .i64 q.aa) rfl
 have p2 := (hB).2.at_ (i := 2) (v := .int .i64 q.bg) rfl
 have p3 := (hB).2.at_ (i := 3) (v := .int .i64 q.ba) rfl
 have p4 := (hB).2.at_ (i := 4) (v := .bool q.two) rfl
 have p5 := (hB).2.at_ (i := 5) (v := .int .i64 q.size) rfl
 have p6 := (hB).2.at_ (i := 6) (v := .int .i64 q.level) rfl
 have p7 := (hB).2.at_ (i := 7) (v := .int .i64 q.birth) rfl
 have p8 := (hB).2.at_ (i := 8) (v := .int .u64 q.s0) rfl
 have p9 := (hB).2.at_ (i := 9) (v := .int .u64 q.s1) rfl
 have p10 := (hB).2.at_ (i := 10) (v := .int .u64 q.s2) rfl
 have p11 := (hB).2.at_ (i := 11) (v := .int .u64 q.s3) rfl
 clear hB
 go_enter Tryz.func18, Tryz.ntmps18
 go_wp2_with fail
 rw [HW2.out]
 refine HLK.out.mono ?_
 rintro e w3 ⟨rfl, hb3⟩
 obtain ⟨w4, hw4⟩ : ∃ z, w3.alloc (.cells #[str ct, .int .i64 cpl, .int .i64 cdv, .int .i64 cfx] 45) = z := ⟨_, rfl⟩
 have hb4 : Below w3.heap.size w3 w4 := by rw [← hw4]; exact keep_alloc (Below.refl _ _) _
 have hb24 := keep_below hb4 hb3
 have hN4 : Blk w4 w3.heap.size 45 #[str ct, .int .i64 cpl, .int .i64 cdv, .int .i64 cfx] := by rw [← hw4]; exact Blk.new _ _ _
 have HB4 := Lib.hid (And.intro (And.intro (HB.out.1.below hb24 HB.out.1.lt) (HB.out.2.below hb24 HB.out.2.lt)) hN4)
 have HD4 := Lib.hid (And.intro (keep_below hb24 HD2.out) (HH.out.1.below hb24))
 have HW4 := Lib.hid hw4
 clear x0 x1 x2 x3 p0 p1 p2 p3 p4 p5 p6 p7 p8 p9 p10 p11 hb3 hw4 hb4 hb24 hN4
 by_cases her : er = 0
 · have hq := (HH.out.2.2.1.2 her).1
   have hpm := wholeP_any HD4.out.2 few q ct (HH.out.2.2.2 her) HB4.out.1.1 HB4.out.1.2 HB4.out.2 (pls_may hq)
   have hwv := HH.out.2.1
   rw [if_pos her] at hwv
   have HWV := Lib.hid hwv
   have HPM := Lib.hid hpm
   have HPL := Lib.hid (places2_any q w4)
   have hl2 := plsL_len q
   obtain ⟨L, hL⟩ : ∃ L, plsL q = L := ⟨_, rfl⟩
   rw [hL] at HPL HPM HWV hl2
   subst her
   have hB := HB4.out.1
   rw [← HW4.out] at hB
   have x0 := (hB).1.at_ (i := 0) (v := .slice (some ⟨y.gb, 0, none⟩) y.m y.cc) rfl
   have x1 := (hB).1.at_ (i := 1) (v := .int .i64 y.secs) rfl
   have x2 := (hB).1.at_ (i := 2) (v := .slice (some ⟨y.lb, 0, none⟩) y.bd.length y.lc) rfl
   have x3 := (hB).1.at_ (i := 3) (v := .slice (some ⟨y.ab, 0, none⟩) y.bd.length y.bd.length) rfl
   have p0 := (hB).2.at_ (i := 0) (v := .int .i64 q.ag) rfl
   have p1 := (hB).2.at_ (i := 1) (v := .int .i64 q.aa) rfl
   have p2 := (hB).2.at_ (i := 2) (v := .int .i64 q.bg) rfl
   have p3 := (hB).2.at_ (i := 3) (v := .int .i64 q.ba) rfl
   have p4 := (hB).2.at_ (i := 4) (v := .bool q.two) rfl
   have p5 := (hB).2.at_ (i := 5) (v := .int .i64 q.size) rfl
   have p6 := (hB).2.at_ (i := 6) (v := .int .i64 q.level) rfl
   have p7 := (hB).2.at_ (i := 7) (v := .int .i64 q.birth) rfl
   have p8 := (hB).2.at_ (i := 8) (v := .int .u64 q.s0) rfl
   have p9 := (hB).2.at_ (i := 9) (v := .int .u64 q.s1) rfl
   have p10 := (hB).2.at_ (i := 10) (v := .int .u64 q.s2) rfl
   have p11 := (hB).2.at_ (i := 11) (v := .int .u64 q.s3) rfl
   clear hB hq hpm hwv hL
   go_wp2_with fail
   rw [HW4.out]
   refine HPL.out.mono ?_
   rintro e w5 ⟨⟨pv, rfl, hsl, _⟩, hb5⟩
   have hp5 : PlPred 40 #[.pointer (some ⟨w.heap.size, 0, none⟩), .pointer (some ⟨w.heap.size + 1, 0, none⟩), .pointer (some ⟨w3.heap.size, 0, none⟩)] (spoilt y.gs y.secs aw q ds ct) L w5 := fun x W hx hW => HPM.out x W hx (keep_below hW hb5)
   have hcp := conPl_any 40 _ (spoilt y.gs y.secs aw q ds ct) hsl (by omega) goesWhole hp5
   obtain ⟨Ap, cp, rfl⟩ := hsl.form
   have HCP := Lib.hid hcp
   have HD5 := Lib.hid (keep_below hb5 HD4.out.1)
   clear x0 x1 x2 x3 p0 p1 p2 p3 p4 p5 p6 p7 p8 p9 p10 p11 hb5 hsl hp5 hcp
   go_wp2_with fail
   refine HCP.out.mono ?_
   rintro e w6 ⟨rfl, hb6⟩
   have HD6 := Lib.hid (keep_below hb6 HD5.out)
   clear hb6
   go_wp2_with fail
   go_ret
   rw [HWV.out]
   exact ⟨rfl, HD6.out⟩
 · have hwv := HH.out.2.1
   rw [if_neg her] at hwv
   have HWV := Lib.hid hwv
   have hner : (er != 0) = true := bne_iff_ne.2 her
   clear hwv her
   go_wp2_with fail
   rw [HW4.out]
   go_ret
   rw [HWV.out]
   exact ⟨rfl, HD4.out.1⟩
end Go.Proofs.YtbhkbcpljakmjaaGreat

namespace Go.Proofs.YtbhkbcpljakmjaaGreat
set_option linter.unusedVariables false
set_option linter.unusedSimpArgs false
open Go.RowKit
section
variable {gs : List (Int × Int)} {secs n N : Nat} {aw : List Bool} {ds : List DevD} {q : PtrD} {s : List UInt8}
theorem pls_cases (hq : rightB gs secs q = true) : (∃ pl, plsL q = [pl] ∧ cMay gs secs pl.1 pl.2 q.size = true) ∨ (∃ pl ql, plsL q = [pl, ql] ∧ cMay gs secs pl.1 pl.2 q.size = true ∧ cMay gs secs ql.1 ql.2 q.size = true ∧
 ∀ i k : Nat, ∀ x y : Col, (colsOf gs secs pl.1 pl.2 q.size)[i]? = some x → (colsOf gs secs ql.1 ql.2 q.size)[k]? = some y → ¬ (x.1 = y.1 ∧ x.2.1 = y.2.1)) := by
 have hm := pls_may hq
 rw [plsL_right hq] at hm ⊢
 cases ht : q.two with
 | false =>
  rw [ht] at hm
  exact .inl ⟨_, rfl, hm _ List.mem_cons_self⟩
 | true =>
  rw [ht] at hm
  have hA := hm (q.ag, q.aa) List.mem_cons_self
  have hB := hm (q.bg, q.ba) (List.mem_cons_of_mem _ List.mem_cons_self)
  have hap : apB gs secs q.ag q.aa q.bg q.ba q.size = true := by
   simp only [rightB, Bool.and_eq_true] at hq
   have := hq.2
   rw [ht, if_pos rfl, Bool.and_eq_true] at this
   exact this.2
  exact .inr ⟨_, _, rfl, hA, hB, (apart_pure hA hB).2.2 hap⟩
end
end Go.Proofs.YtbhkbcpljakmjaaGreat

namespace Go.Proofs.YtbhkbcpljakmjaaGreat
set_option linter.unusedVariables false
set_option linter.unusedSimpArgs false
open Go.RowKit
def unlikeN (hs : Nat → Bool) (L : List Col) (W G : List (List UInt8)) (k : Nat) : Nat := ((List.range k).filter fun i => hs (L.getD i (0, 0, false, 0)).1.toNat && (W.getD i [] != G.getD i [])).length
theorem unlikeN_step (hs : Nat → Bool) (L : List Col) (W G : List (List UInt8)) (k : Nat) : unlikeN hs L W G (k + 1) = unlikeN hs L W G k + if hs (L.getD k (0, 0, false, 0)).1.toNat && (W.getD k [] != G.getD k []) then 1 else 0 := by
 unfold unlikeN
 rw [List.range_succ, List.filter_append, List.length_append, List.filter_cons]
 split <;> rfl
theorem unlikeN_le (hs : Nat → Bool) (L : List Col) (W G : List (List UInt8)) (k : Nat) : unlikeN hs L W G k ≤ k := by
 have := List.length_filter_le (fun i => hs (L.getD i (0, 0, false, 0)).1.toNat && (W.getD i [] != G.getD i [])) (List.range k)
 rw [List.length_range] at this
 exact this
theorem unlikeN_congr {hs hs' : Nat → Bool} {L : List Col} {W G : List (List UInt8)} {k : Nat} (h : ∀ i, i < k → hs (L.getD i (0, 0, false, 0)).1.toNat = hs' (L.getD i (0, 0, false, 0)).1.toNat) : unlikeN hs L W G k = unlikeN hs' L W G k := by
 unfold unlikeN
 congr 1
 refine List.filter_congr fun i hi => ?_
 rw [h i (List.mem_range.1 hi)]
def eqTo (R E : List (List UInt8)) (k : Nat) : Bool := (List.range k).all fun j => R.getD j [] == E.getD j []
theorem eqTo_step (R E : List (List UInt8)) (k : Nat) : eqTo R E (k + 1) = (eqTo R E k && (R.getD k [] == E.getD k [])) := by
 unfold eqTo
 rw [List.range_succ, List.all_append]
 simp
def cntB (scrub : Bool) (place i : Nat) : Bool := (!scrub && decide (i ≤ place)) || (scrub && decide (place < i))
def cntTo (scrub : Bool) (place : Nat) (u : PlX → Nat) (l : List PlX) : Nat → Nat
 | 0 => 0
 | k + 1 => cntTo scrub place u l k + if cntB scrub place k then u (l.getD k (0, 0)) else 0
def allTo (g : PlX → Bool) (l : List PlX) (k : Nat) : Bool := (l.take k).all g
theorem allTo_step {g : PlX → Bool} {l : List PlX} {k : Nat} {pl : PlX} (h : l[k]? = some pl) : allTo g l (k + 1) = (allTo g l k && g pl) := by
 unfold allTo
 rw [List.take_add_one, h, List.all_append]
 simp
theorem cntTo_le {scrub : Bool} {place : Nat} {u : PlX → Nat} {l : List PlX} (h : ∀ pl ∈ l, u pl ≤ 64) : ∀ k, k ≤ l.length → cntTo scrub place u l k ≤ 64 * k
 | 0, _ => Nat.le_refl _
 | k + 1, hk => by
   have h1 := cntTo_le (scrub := scrub) (place := place) h k (by omega)
   have h2 := h (l.getD k (0, 0)) (by rw [List.getD_eq_getElem?_getD, List.getElem?_eq_getElem (show k < l.length by omega)]; exact List.getElem_mem _)
   unfold cntTo
   split <;> omega
theorem cntTo_step {scrub : Bool} {place : Nat} {u : PlX → Nat} {l : List PlX} {k : Nat} {pl : PlX} (h : l[k]? = some pl) : cntTo scrub place u l (k + 1) = cntTo scrub place u l k + if cntB scrub place k then u pl else 0 := by
 conv => lhs; unfold cntTo
 rw [List.getD_eq_getElem?_getD, h]
 rfl
def unl (gs : List (Int × Int)) (secs : Int) (aw : List Bool) (q : PtrD) (t : List UInt8) (ds : List DevD) (pl : PlX) : Nat := unlikeN (hereD aw ds) (colsOf gs secs pl.1 pl.2 q.size) (encL gs secs pl.1 pl.2 t) (rawP gs secs q.size aw ds pl) (colsOf gs secs pl.1 pl.2 q.size).length
def fine (gs : List (Int × Int)) (secs : Int) (aw : List Bool) (q : PtrD) (t : List UInt8) (ds : List DevD) (pl : PlX) : Bool := eqTo (rawP gs secs q.size aw ds pl) (encL gs secs pl.1 pl.2 t) (rawP gs secs q.size aw ds pl).length
section
variable {gs : List (Int × Int)} {secs n N : Nat} {aw : List Bool} {ds : List DevD} {q : PtrD} {t : List UInt8}
theorem mendB_unl {pl : PlX} (ok : DsOk N secs ds) (hm : cMay gs secs pl.1 pl.2 q.size = true) (e1 : (secN t : Int) = q.size) (e2 : secOk t = true) : mendB gs secs aw t ds pl = unl gs secs aw q t ds pl := by
 rw [← e1] at hm
 have hE := enc_pl e2 hm
 have hfit := raw_fits (aw := aw) hm ok
 have hTl : (encL gs secs pl.1 pl.2 t).length = (colsOf gs secs pl.1 pl.2 (secN t)).length := by rw [encL_len, ofList_may hm]
 unfold mendB unl unlikeN mendN badL
 rw [← e1, ofList_may hm, hE, hfit, hTl]
 simp only [decide_true, Bool.true_and, if_true]
 rw [List.filter_filter]
theorem mendB_back {pl : PlX} (ok : DsOk N secs ds) (hm : cMay gs secs pl.1 pl.2 q.size = true) (e1 : (secN t : Int) = q.size) (e2 : secOk t = true) {hs : Nat → Bool} (hh : hs = hereD aw ds)
 (h : rawP gs secs q.size aw ds pl = backG (colsOf gs secs pl.1 pl.2 q.size) (encL gs secs pl.1 pl.2 t) hs) : mendB gs secs aw t ds pl = 0 := by
 subst hh
 rw [mendB_unl ok hm e1 e2]
 unfold unl unlikeN
 rw [List.length_eq_zero_iff, List.filter_eq_nil_iff]
 intro i hi
 have hi := List.mem_range.1 hi
 rw [h, backG_get hi]
 cases hereD aw ds ((colsOf gs secs pl.1 pl.2 q.size).getD i (0, 0, false, 0)).1.toNat <;> simp
theorem hereD_mend {pl : PlX} : hereD aw (mendAt gs secs aw t ds pl) = hereD aw ds := funext fun i => mendAt_hereD i
theorem unl_other {pl ql : PlX} (hr : gRight gs secs = true) (hn : gSum gs = n) (hl : ds.length = n) (ok : DsOk N secs ds) (e1 : (secN t : Int) = q.size) (e2 : secOk t = true) (hm : cMay gs secs pl.1 pl.2 q.size = true) (hq : cMay gs secs ql.1 ql.2 q.size = true)
 (hap : ∀ i k : Nat, ∀ x y : Col, (colsOf gs secs pl.1 pl.2 q.size)[i]? = some x → (colsOf gs secs ql.1 ql.2 q.size)[k]? = some y → ¬ (x.1 = y.1 ∧ x.2.1 = y.2.1)) :
 unl gs secs aw q t (mendAt gs secs aw t ds pl) ql = unl gs secs aw q t ds ql := by
 unfold unl
 rw [hereD_mend]
 rw [← e1] at hm
 rw [raw_other hr hn hl ok (enc_pl e2 hm) hq (by rw [e1]; exact hap)]
theorem pls_sec (hq : rightB gs secs q = true) (ok : DsOk N secs ds) {c : CameD} (h : lookV gs secs q (rawP gs secs q.size aw ds) = (c, 0)) : (secN c.text : Int) = q.size ∧ secOk c.text = true := by
 obtain ⟨hs1, hs2⟩ := look_found hq ok h
 exact found_sec hq hs2
theorem plays_false (hr : gRight gs secs = true) (hn : gSum gs = n) (hl : ds.length = n) (ok : DsOk N secs ds) {c : CameD} (h : lookV gs secs q (rawP gs secs q.size aw ds) = (c, 0)) :
 readN false gs secs aw q ds = cntTo false c.place (unl gs secs aw q c.text ds) (plsL q) (plsL q).length := by
 obtain ⟨hq, hpl⟩ := (look_shape h).2 rfl
 obtain ⟨e1, e2⟩ := pls_sec hq ok h
 unfold readN placesTo
 rw [h]
 simp only [if_true, Bool.false_eq_true, if_false]
 rcases pls_cases hq with ⟨pa, hp, hA⟩ | ⟨pa, pb, hp, hA, hB, hap⟩
 · rw [hp] at hpl ⊢
   have h0 : c.place = 0 := by simp at hpl; exact hpl
   rw [h0]
   show mendB gs secs aw c.text ds pa + 0 = 0 + unl gs secs aw q c.text ds pa
   rw [mendB_unl ok hA e1 e2, Nat.zero_add, Nat.add_zero]
 · rw [hp] at hpl ⊢
   have h0 : c.place = 0 ∨ c.place = 1 := by simp at hpl; omega
   rcases h0 with h0 | h0 <;> rw [h0]
   · show mendB gs secs aw c.text ds pa + 0 = 0 + unl gs secs aw q c.text ds pa + 0
     rw [mendB_unl ok hA e1 e2, Nat.zero_add]
   · show mendB gs secs aw c.text ds pa + (mendB gs secs aw c.text (mendAt gs secs aw c.text ds pa) pb + 0) = 0 + unl gs secs aw q c.text ds pa + unl gs secs aw q c.text ds pb
     rw [mendB_unl ok hA e1 e2, mendB_unl (mendAt_ok ok) hB e1 e2, unl_other hr hn hl ok e1 e2 hA hB hap, Nat.zero_add, Nat.add_zero]
theorem plays_true (hr : gRight gs secs = true) (hn : gSum gs = n) (hl : ds.length = n) (ok : DsOk N secs ds) {c : CameD} (h : lookV gs secs q (rawP gs secs q.size aw ds) = (c, 0)) :
 readN true gs secs aw q (readD false gs secs aw q ds) = cntTo true c.place (unl gs secs aw q c.text ds) (plsL q) (plsL q).length := by
 obtain ⟨hq, hpl⟩ := (look_shape h).2 rfl
 obtain ⟨e1, e2⟩ := pls_sec hq ok h
 obtain ⟨c', hc', ht'⟩ := look_again hr hn hl ok h
 unfold readN placesTo
 rw [hc']
 simp only [if_true]
 rw [ht', List.take_of_length_le (Nat.le_refl _)]
 unfold readD placesTo
 rw [h]
 simp only [if_true, Bool.false_eq_true, if_false]
 have hback : ∀ {N : Nat} {ds : List DevD} {pl : PlX}, cMay gs secs pl.1 pl.2 q.size = true → ds.length = n → DsOk N secs ds → rawP gs secs q.size aw (mendAt gs secs aw c.text ds pl) pl = backG (colsOf gs secs pl.1 pl.2 q.size) (encL gs secs pl.1 pl.2 c.text) (hereD aw ds) := by
  intro N ds pl hm hl ok
  rw [← e1] at hm ⊢
  exact raw_mend hr hn hl ok (enc_pl e2 hm)
 rcases pls_cases hq with ⟨pa, hp, hA⟩ | ⟨pa, pb, hp, hA, hB, hap⟩
 · rw [hp] at hpl ⊢
   have h0 : c.place = 0 := by simp at hpl; exact hpl
   rw [h0]
   show mendB gs secs aw c.text (mendAt gs secs aw c.text ds pa) pa + 0 = 0 + 0
   rw [mendB_back (mendAt_ok ok) hA e1 e2 hereD_mend.symm (hback hA hl ok)]
 · rw [hp] at hpl ⊢
   have hlA : (mendAt gs secs aw c.text ds pa).length = n := by rw [mendAt_len]; exact hl
   have okA : DsOk (N + 64) secs (mendAt gs secs aw c.text ds pa) := mendAt_ok ok
   have hpb : ∀ i k : Nat, ∀ x y : Col, (colsOf gs secs pb.1 pb.2 q.size)[i]? = some x → (colsOf gs secs pa.1 pa.2 q.size)[k]? = some y → ¬ (x.1 = y.1 ∧ x.2.1 = y.2.1) := fun i k x y hx hy ⟨a, b⟩ => hap k i y x hy hx ⟨a.symm, b.symm⟩
   have hEA := enc_pl e2 (by rw [e1]; exact hA : cMay gs secs pa.1 pa.2 (secN c.text) = true)
   have hEB := enc_pl e2 (by rw [e1]; exact hB : cMay gs secs pb.1 pb.2 (secN c.text) = true)
   have h0 : c.place = 0 ∨ c.place = 1 := by simp at hpl; omega
   rcases h0 with h0 | h0 <;> rw [h0]
   · show mendB gs secs aw c.text (mendAt gs secs aw c.text ds pa) pa + (mendB gs secs aw c.text (mendAt gs secs aw c.text (mendAt gs secs aw c.text ds pa) pa) pb + 0) = 0 + 0 + unl gs secs aw q c.text ds pb
     rw [mendB_back okA hA e1 e2 hereD_mend.symm (hback hA hl ok), mendB_unl (mendAt_ok okA) hB e1 e2, unl_other hr hn hlA okA e1 e2 hA hB hap, unl_other hr hn hl ok e1 e2 hA hB hap]
     omega
   · have hlB : (mendAt gs secs aw c.text (mendAt gs secs aw c.text ds pa) pb).length = n := by rw [mendAt_len]; exact hlA
     have okB : DsOk (N + 64 + 64) secs (mendAt gs secs aw c.text (mendAt gs secs aw c.text ds pa) pb) := mendAt_ok okA
     have r1 : rawP gs secs q.size aw (mendAt gs secs aw c.text (mendAt gs secs aw c.text ds pa) pb) pa = rawP gs secs q.size aw (mendAt gs secs aw c.text ds pa) pa := raw_other hr hn hlA okA hEB hA (by rw [e1]; exact hpb)
     have r2 : rawP gs secs q.size aw (mendAt gs secs aw c.text (mendAt gs secs aw c.text (mendAt gs secs aw c.text ds pa) pb) pa) pb = rawP gs secs q.size aw (mendAt gs secs aw c.text (mendAt gs secs aw c.text ds pa) pb) pb := raw_other hr hn hlB okB hEA hB (by rw [e1]; exact hap)
     show mendB gs secs aw c.text (mendAt gs secs aw c.text (mendAt gs secs aw c.text ds pa) pb) pa + (mendB gs secs aw c.text (mendAt gs secs aw c.text (mendAt gs secs aw c.text (mendAt gs secs aw c.text ds pa) pb) pa) pb + 0) = 0 + 0 + 0
     rw [mendB_back okB hA e1 e2 (hs := hereD aw ds) (by simp only [hereD_mend]) (r1.trans (hback hA hl ok)), mendB_back (mendAt_ok okB) hB e1 e2 (hs := hereD aw (mendAt gs secs aw c.text ds pa)) (by simp only [hereD_mend]) (r2.trans (hback hB hlA okA))]
theorem spoilt_fine {pl : PlX} (ok : DsOk N secs ds) (hm : cMay gs secs pl.1 pl.2 q.size = true) (e1 : (secN t : Int) = q.size) (e2 : secOk t = true) : spoilt gs secs aw q ds t pl = !fine gs secs aw q t ds pl := by
 have hE := enc_pl e2 (by rw [e1]; exact hm : cMay gs secs pl.1 pl.2 (secN t) = true)
 have hfit := raw_fits (aw := aw) hm ok
 have hTl : (encL gs secs pl.1 pl.2 t).length = (rawP gs secs q.size aw ds pl).length := by rw [raw_len hm, encL_len, e1, ofList_may hm]
 unfold spoilt fine eqTo badL
 rw [hE, e1, hfit, hTl]
 simp only [decide_true, Bool.true_and, if_true]
 rw [Bool.eq_iff_iff, decide_eq_true_eq, Bool.not_eq_true', List.all_eq_false, List.length_pos_iff_exists_mem]
 constructor
 · rintro ⟨i, hi⟩
   rw [List.mem_filter] at hi
   refine ⟨i, hi.1, ?_⟩
   have := bne_iff_ne.1 hi.2
   rw [beq_iff_eq]
   exact fun e => this e.symm
 · rintro ⟨i, hi, hne⟩
   refine ⟨i, List.mem_filter.2 ⟨hi, bne_iff_ne.2 fun e => hne (beq_iff_eq.2 e.symm)⟩⟩
theorem whole_fine (ok : DsOk N secs ds) {c : CameD} (h : lookV gs secs q (rawP gs secs q.size aw ds) = (c, 0)) : wholeV gs secs aw q ds = allTo (fine gs secs aw q c.text ds) (plsL q) (plsL q).length := by
 obtain ⟨hq, hpl⟩ := (look_shape h).2 rfl
 obtain ⟨e1, e2⟩ := pls_sec hq ok h
 unfold wholeV allTo
 rw [h, List.take_of_length_le (Nat.le_refl _)]
 simp only [if_true]
 rw [List.not_any_eq_all_not]
 have hm := pls_may hq
 refine Bool.eq_iff_iff.2 ?_
 rw [List.all_eq_true, List.all_eq_true]
 constructor
 · intro h pl hpl
   have := h pl hpl
   rw [spoilt_fine ok (hm pl hpl) e1 e2, Bool.not_not] at this
   exact this
 · intro h pl hpl
   rw [spoilt_fine ok (hm pl hpl) e1 e2, Bool.not_not]
   exact h pl hpl
theorem whole_err {c : CameD} {e : Int} (h : lookV gs secs q (rawP gs secs q.size aw ds) = (c, e)) (he : e ≠ 0) : wholeV gs secs aw q ds = false := by
 unfold wholeV
 rw [h]
 exact if_neg he
theorem plays_good (hr : gRight gs secs = true) (hn : gSum gs = n) (hl : ds.length = n) (ok : DsOk N secs ds) {dt : List UInt8} {cpl : Nat} {cdv : Int} {cfx : Nat} {er : Int} (h : lookV gs secs q (rawP gs secs q.size aw ds) = (⟨dt, cpl, cdv, cfx⟩, er)) {L : List PlX} (hL : plsL q = L) {D2 : List DevD} (hD2 : readD false gs secs aw q ds = D2)
 {n1 n2 : Nat} (hn1 : readN false gs secs aw q ds = n1) (hn2 : readN true gs secs aw q D2 = n2) {wv : Bool} (hwv : wholeV gs secs aw q ds = wv) : er = 0 →
 n1 = cntTo false cpl (unl gs secs aw q dt ds) L L.length ∧ n2 = cntTo true cpl (unl gs secs aw q dt ds) L L.length ∧ wv = allTo (fine gs secs aw q dt ds) L L.length ∧ (secN dt : Int) = q.size ∧ secOk dt = true := by
 intro he
 subst he hL hD2 hn1 hn2 hwv
 obtain ⟨h1, h2⟩ := pls_sec ((look_shape h).2 rfl).1 ok h
 have e1 := plays_false hr hn hl ok h
 have e2 := plays_true hr hn hl ok h
 have e3 := whole_fine ok h
 dsimp only at e1 e2 e3 h1 h2
 exact ⟨e1, e2, e3, h1, h2⟩
theorem plays_bad {dt : List UInt8} {cpl : Nat} {cdv : Int} {cfx : Nat} {er : Int} (h : lookV gs secs q (rawP gs secs q.size aw ds) = (⟨dt, cpl, cdv, cfx⟩, er)) {wv : Bool} (hwv : wholeV gs secs aw q ds = wv) : er ≠ 0 → dt = [] ∧ wv = false := by
 intro he
 subst hwv
 exact ⟨congrArg CameD.text (look_err h he), whole_err h he⟩
end
end Go.Proofs.YtbhkbcpljakmjaaGreat

namespace Go.Proofs.YtbhkbcpljakmjaaGreat
set_option linter.unusedVariables false
set_option linter.unusedSimpArgs false
open Go.RowKit
theorem numRef_any (m : List UInt8) (w : World) (hm : m.length ≤ 8) :
 Calls Tryz.prog 107 #[str m] w fun e w' => e = .returned (.int .u64 (leNat m : Nat)) ∧ w = w' := by
 have H0 : Hid (leNat (m.drop m.length) = 0) := by unfold Hid; rw [List.drop_length]; rfl
 go_enter Tryz.func107, Tryz.ntmps107
 go_wp2
 go_loop [3, 4] (fun x t => ∃ k : Nat, k ≤ m.length ∧ t = .int .i64 ((k : Int) - 1) ∧ x = .int .u64 (leNat (m.drop k) : Nat)) (fun _ t => (RowKit.intOf t + 1).toNat)
 case atStart => exact ⟨m.length, Nat.le_refl _, rfl, by rw [H0.out]; rfl⟩
 case round =>
  obtain ⟨k, hk, rfl, rfl⟩ := hrel
  by_cases h0 : 0 < k
  · have hd : m.drop (k - 1) = m[k - 1] :: m.drop k := by
     have := List.drop_eq_getElem_cons (show k - 1 < m.length by omega)
     rw [show k - 1 + 1 = k by omega] at this
     exact this
    have hb := leNat_lt (m.drop (k - 1))
    have hp := pow256_le (show (m.drop (k - 1)).length ≤ 8 by rw [List.length_drop]; omega)
    have hb2 : leNat (m.drop (k - 1)) < 18446744073709551616 := Nat.lt_of_lt_of_le hb (Nat.le_trans hp (by decide))
    rw [hd, leNat] at hb2
    have HV : Hid (leNat (m.drop (k - 1)) = (m[k - 1]'(by omega)).toNat + 256 * leNat (m.drop k)) := by unfold Hid; rw [hd, leNat]
    have hx0 := (m[k - 1]'(by omega)).toNat_lt
    have hi0 : (0 : Int) ≤ (k : Int) - 1 := by omega
    have hi1 : (k : Int) - 1 < m.length := by omega
    have ht : ((k : Int) - 1).toNat = k - 1 := by omega
    clear hb hp hd
    generalize leNat (m.drop k) = v at *
    go_wp2_with fail
    go_round
    case rel =>
     refine ⟨k - 1, by omega, ?_, ?_⟩
     · congr 1; omega
     · have e1 : IntKind.u64.wrap (((ByteArray.mk m.toArray)[k - 1]'(by rw [ba_size]; omega)).toNat : Int) = ((m[k - 1]'(by omega)).toNat : Int) := by rw [ba_get]; exact IntWalk.u64_in _ (by omega)
       rw [HV.out, e1, IntWalk.u64_in _ (by omega)]; congr 1; omega
    case measure => simp [RowKit.intOf]; omega
  · obtain rfl : k = 0 := by omega
    go_wp2_with fail
    go_ret
    exact ⟨rfl, rfl⟩
end Go.Proofs.YtbhkbcpljakmjaaGreat

namespace Go.Proofs.YtbhkbcpljakmjaaGreat
set_option linter.unusedVariables false
set_option linter.unusedSimpArgs false
open Go.RowKit
theorem str_cat (a b : List UInt8) : Value.string ((⟨a.toArray⟩ : ByteArray) ++ ⟨b.toArray⟩) = str (a ++ b) := by
 show Value.string _ = Value.string ⟨(a ++ b).toArray⟩
 congr 1
theorem i64_xor_nat (a b : Nat) (ha : a < 256) (hb : b < 256) : bits .xor .i64 (a : Int) (b : Int) = ((a ^^^ b : Nat) : Int) := by
 have hx : a ^^^ b < 2 ^ 8 := Nat.xor_lt_two_pow (by omega) (by omega)
 show IntKind.i64.wrap ((BitVec.ofInt 64 (a : Int) ^^^ BitVec.ofInt 64 (b : Int)).toNat : Int) = _
 rw [BitVec.toNat_xor, BitVec.toNat_ofInt, BitVec.toNat_ofInt, show ((a : Int) % ((2 ^ 64 : Nat) : Int)).toNat = a by omega, show ((b : Int) % ((2 ^ 64 : Nat) : Int)).toNat = b by omega]
 exact (IntWalk.i64_left _).trans (IntWalk.wrap64_in _ (by omega))
def xcol (l : List (List UInt8)) (k i : Nat) : UInt8 := (l.take i).foldl (fun b s => b ^^^ s.getD k 0) 0
theorem xcol_step {l : List (List UInt8)} {k i : Nat} {s : List UInt8} (h : l[i]? = some s) : xcol l k (i + 1) = xcol l k i ^^^ s.getD k 0 := by
 unfold xcol
 rw [List.take_add_one, h]
 simp [List.foldl_append]
theorem xcol_get {l : List (List UInt8)} {n k : Nat} (hk : k < n) (h : ∀ s ∈ l, s.length = n) : ∀ i, i ≤ l.length → (parN n (l.take i))[k]? = some (xcol l k i)
 | 0, _ => by simp [parN, xcol, hk]
 | i + 1, hi => by
   have ih := xcol_get hk h i (by omega)
   obtain ⟨s, hs⟩ : ∃ s, l[i]? = some s := ⟨_, List.getElem?_eq_getElem (by omega)⟩
   have hl := h s (List.mem_of_getElem? hs)
   rw [xcol_step hs, List.take_add_one, hs]
   show (parN n (l.take i ++ [s]))[k]? = _
   rw [parN_snoc]
   unfold xorL
   rw [List.getElem?_zipWith, ih, List.getElem?_eq_getElem (by omega : k < s.length), List.getD_eq_getElem?_getD, List.getElem?_eq_getElem (by omega : k < s.length)]
   rfl
theorem makeS_get {l : List (List UInt8)} {n k : Nat} (hk : k < n) (hne : l ≠ []) (h : ∀ s ∈ l, s.length = n) : (makeS l)[k]? = some (xcol l k l.length) ∧ (makeS l).length = n := by
 have hh : (l.headD []).length = n := by
  cases l with
  | nil => exact absurd rfl hne
  | cons a r => exact h a List.mem_cons_self
 have he : evenB l = true := by
  unfold evenB
  rw [List.all_eq_true]
  intro x hx
  rw [h x hx, hh]
  exact beq_self_eq_true _
 unfold makeS
 rw [if_pos ⟨hne, he⟩, hh]
 have := xcol_get hk h l.length (Nat.le_refl _)
 rw [List.take_length] at this
 exact ⟨this, parN_len h⟩
theorem conv_b7 (b : UInt8) (W : World) : (convert 79 9 (.slice (some ⟨W.heap.size, 0, none⟩) 1 1)).run Tryz.prog (W.alloc (.cells #[.int .u8 b.toNat] 5)) =
 .ok (str [b]) (W.alloc (.cells #[.int .u8 b.toNat] 5)) := by
 refine run_convert_bytes_back (P := Tryz.prog) (W.alloc (.cells #[.int .u8 b.toNat] 5)) 79 9 5 ⟨W.heap.size, 0, none⟩ 1 [b] Tryz.underlying79 Tryz.underlying5 Tryz.underlying9 (fun j hj => ?_)
 have hj0 : j = 0 := by simpa using hj
 subst hj0
 exact one_new' W (.int .u8 b.toNat) 5 0 _ rfl
set_option maxRecDepth 20000 in
set_option maxHeartbeats 1000000 in
theorem refXor_any {l : List (List UInt8)} {sv : Value} {w : World} {n : Nat} (h : SlAt w sv l.length (strC l)) (hne : l ≠ []) (hn : ∀ s ∈ l, s.length = n) (h0 : 0 < n) (hn64 : n ≤ 1000) (f1 : l.length ≤ 1000) :
 Calls Tryz.prog 48 #[sv] w fun e w' => e = .returned (str (makeS l)) ∧ Below w.heap.size w w' := by
 obtain ⟨A, c, rfl⟩ := h.form
 have hp := List.length_pos_iff.2 hne
 obtain ⟨b, o, rfl, hbl, hcell⟩ := h.cells hp
 obtain ⟨x0, hx0⟩ : ∃ x, l[0]? = some x := ⟨_, List.getElem?_eq_getElem hp⟩
 have hx0l := hn x0 (List.mem_of_getElem? hx0)
 have c0 := hcell 0 _ (strC_at hx0)
 rw [Nat.add_zero] at c0
 have hmk := fun k (hk : k < n) => makeS_get hk hne hn
 have hml := (hmk 0 h0).2
 have HMK := Lib.hid hmk
 have HML := Lib.hid hml
 have HC := Lib.hid (And.intro hbl (And.intro hcell hn))
 have HX0 := Lib.hid hx0l
 have C0 := Lib.hid c0
 clear h hne hn hcell hbl hx0 hmk hml c0
 go_enter Tryz.func48, Tryz.ntmps48
 go_wp2_with fail
 go_loopw [3, 4] (fun s t wr => ∃ k : Nat, k ≤ n ∧ s = str ((makeS l).take k) ∧ t = .int .i64 k ∧ Below w.heap.size w wr) (fun _ t _ => n - (RowKit.intOf t).toNat)
 case atStart => exact ⟨0, Nat.zero_le _, rfl, rfl, Below.refl _ _⟩
 case round =>
  obtain ⟨k, hk, rfl, rfl, hb⟩ := hrel
  have HB := Lib.hid hb
  have q0 := keepc C0.out hb
  have hx0l := HX0.out
  by_cases hlt : k < n
  · have hd1 : decide (k < x0.length) = true := decide_eq_true (by omega)
    have HKN := Lib.hid hlt
    have HST : Hid ((makeS l).take (k + 1) = (makeS l).take k ++ [xcol l k l.length]) := Lib.hid (by rw [List.take_add_one, (HMK.out k hlt).1]; rfl)
    have htl : ((makeS l).take k).length ≤ 1000 := by rw [List.length_take, HML.out]; omega
    obtain ⟨X, hX⟩ : ∃ X, (makeS l).take k = X := ⟨_, rfl⟩
    rw [hX] at htl HST
    rw [hX]
    rename World => wq
    clear hb hX hlt
    go_wp2_with fail
    go_loopw [5, 6] (fun bv t wr => ∃ i : Nat, i ≤ l.length ∧ bv = .int .i64 ((xcol l k i).toNat : Nat) ∧ t = .int .i64 i ∧ wr = wq) (fun _ t _ => l.length - (RowKit.intOf t).toNat)
    case atStart => exact ⟨0, Nat.zero_le _, rfl, rfl, rfl⟩
    case round =>
     obtain ⟨i, hi, rfl, rfl, rfl⟩ := hrel
     by_cases hil : i < l.length
     · obtain ⟨s, hs⟩ : ∃ s, l[i]? = some s := ⟨_, List.getElem?_eq_getElem hil⟩
       have hsl := HC.out.2.2 s (List.mem_of_getElem? hs)
       have hks : k < s.length := by have := HKN.out; omega
       have r0 := keepc (HC.out.2.1 i _ (strC_at hs)) HB.out
       have hst := xcol_step (k := k) hs
       obtain ⟨x, hx⟩ : ∃ x, s[k]'hks = x := ⟨_, rfl⟩
       have hgd : s.getD k 0 = x := by rw [List.getD_eq_getElem?_getD, List.getElem?_eq_getElem hks, ← hx]; rfl
       rw [hgd] at hst
       have hyb : k < (ByteArray.mk s.toArray).size := by simp [ByteArray.size]; exact hks
       have hidx : (ByteArray.mk s.toArray)[k]'hyb = x := by rw [← hx]; rfl
       obtain ⟨B, hB⟩ : ∃ B, xcol l k i = B := ⟨_, rfl⟩
       rw [hB] at hst
       rw [hB]
       have hxr := i64_xor_nat B.toNat x.toNat (UInt8.toNat_lt B) (UInt8.toNat_lt x)
       rw [← UInt8.toNat_xor, ← hst] at hxr
       have hd2 : decide (i < l.length) = true := decide_eq_true hil
       have hx256 := UInt8.toNat_lt x
       have HIL := Lib.hid hil
       have HXR := Lib.hid hxr
       have HIX := Lib.hid hidx
       clear hs hst hx hgd hB hxr hidx
       go_wp2_with fail
       go_roundw
       case rel => exact ⟨i + 1, HIL.out, by rw [HIX.out, IntWalk.wrap64_in _ (by omega), HXR.out], by go_num, trivial⟩
       case measure => have := HIL.out; simp [RowKit.intOf]; omega
     · obtain rfl : i = l.length := by omega
       have hd2 : decide (l.length < l.length) = false := decide_eq_false (by omega)
       obtain ⟨B, hB⟩ : ∃ B, xcol l k l.length = B := ⟨_, rfl⟩
       rw [hB] at HST
       rw [hB]
       have hb256 := UInt8.toNat_lt B
       have hcv := conv_b7 B wr
       have hadd : X.length + [B].length ≤ 9223372036854775807 := by simp; omega
       have hnb : ¬ 9223372036854775807 < (ByteArray.mk X.toArray).size + (ByteArray.mk [B].toArray).size := by simp [ByteArray.size]; omega
       clear hB
       go_wp2_with fail
       go_roundw
       case rel => exact ⟨k + 1, HKN.out, by rw [HST.out]; exact str_cat X [B], by go_num, keep_alloc HB.out _⟩
       case measure => have := HKN.out; simp [RowKit.intOf]; omega
  · obtain rfl : k = n := by omega
    have hd1 : decide (k < x0.length) = false := decide_eq_false (by omega)
    have ht : (makeS l).take k = makeS l := by rw [List.take_of_length_le (by rw [HML.out]; exact Nat.le_refl _)]
    rw [ht]
    clear hb ht
    go_wp2_with fail
    go_ret
    exact ⟨rfl, HB.out⟩
end Go.Proofs.YtbhkbcpljakmjaaGreat
