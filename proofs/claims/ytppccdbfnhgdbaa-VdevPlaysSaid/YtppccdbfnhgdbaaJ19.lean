/-
  The document's example (layer 8).
  What was written is what is read: columns on devices. No program stands here.
  What a statement of layer 8 keeps: its boxes, the measure; devices as they are made.
  Contracts of polderref05: whether a measure is right, what a block takes.
-/
import Derived.Test.YtppccdbfnhgdbaaJ18
import Derived.Test.YtppccdbfnhgdbaaJ17
import Derived.Test.YtppccdbfnhgdbaaJ06
import Derived.Test.YtppccdbfnhgdbaaJ01
namespace Go.Proofs.Ytppccdbfnhgdbaa
set_option linter.unusedVariables false
set_option linter.unusedSimpArgs false
open Go.RowKit

theorem wn_ex : wN [(0, 2)] ((24 : Nat) : Int) 0 0 (List.replicate 64 0) (hereD [false, true] (List.replicate 2 (DevD.blank 24 0))) 2 = 1 ∧ wE [(0, 2)] ((24 : Nat) : Int) 0 0 (List.replicate 64 0) (hereD [false, true] (List.replicate 2 (DevD.blank 24 0))) 2 = 0 := by decide +kernel
theorem geo_ex (w : World) : GeoAt (w.alloc (.cells #[.int .i64 0, .int .i64 2] 55)) (some ⟨w.heap.size, 0, none⟩) 1 [(0, 2)] := by
  refine ⟨rfl, by decide, fun _ => ⟨w.heap.size, 0, rfl, by simp, fun i x hx => ?_⟩⟩
  have hi : i = 0 := by
    have := (List.getElem?_eq_some_iff.1 hx).1
    simp at this
    exact this
  subst hi
  simp at hx
  subst hx
  exact ⟨(Blk.new _ _ _).at_ rfl, (Blk.new _ _ _).at_ rfl⟩
set_option maxRecDepth 20000 in
theorem awake08_any (w : World) : Calls Try.prog 6 #[] w fun e w' => e = .returned (.bool true) ∧ Below w.heap.size w w' := by
  obtain ⟨w1, hw1⟩ : ∃ z, w.alloc (.cells #[.int .i64 0, .int .i64 2] 55) = z := ⟨_, rfl⟩
  have hg : GeoAt w1 (some ⟨w.heap.size, 0, none⟩) 1 [(0, 2)] := by rw [← hw1]; exact geo_ex w
  have hb1 : Below w.heap.size w w1 := by rw [← hw1]; exact keep_alloc (Below.refl _ _) _
  have HN := Lib.hid (vnew_any (c := 1) (secs := 24) hg (by decide) 0 (n := 2) (by decide))
  have HB1 := Lib.hid hb1
  have HW1 := Lib.hid hw1
  clear hg hb1 hw1
  go_enter Try.func6, Try.ntmps6
  go_wp2_with fail
  rw [HW1.out]
  refine HN.out.mono ?_
  rintro e w3 ⟨y, S, rfl, hys, hysec, hyn, hV, q1, q2, q3, hb3⟩
  have hX := Blk.new w3 31 y.cells
  have hbx : Below w3.heap.size w3 (w3.alloc (.cells y.cells 31)) := keep_alloc (Below.refl _ _) _
  have hVx := hV.more hbx
  have x0 := hX.at_ (i := 0) (v := .slice (some ⟨y.gb, 0, none⟩) y.m y.cc) rfl
  have x1 := hX.at_ (i := 1) (v := .int .i64 y.secs) rfl
  have x2 := hX.at_ (i := 2) (v := .slice (some ⟨y.lb, 0, none⟩) y.bd.length y.lc) rfl
  have x3 := hX.at_ (i := 3) (v := .slice (some ⟨y.ab, 0, none⟩) y.bd.length y.bd.length) rfl
  have hc : ((y.bd.length : Int) != 2) = false := by rw [hyn]; rfl
  have c8 : (w3.alloc (.cells y.cells 31)).cell? ⟨y.ab, 1, none⟩ = some (.bool false) := hVx.box.at_ (by rfl)
  have z8 : (w3.alloc (.cells y.cells 31)).frozen? ⟨y.ab, 1, none⟩ = false := hVx.box.fr 1
  have hl1 : 1 < y.bd.length := by omega
  have HV := Lib.hid hVx
  have HX := Lib.hid hX
  have HY := Lib.hid (And.intro hys (And.intro hysec (And.intro hyn (And.intro q1 (And.intro q2 q3)))))
  have HB3 := Lib.hid (keep_below hbx (keep_below hb3 HB1.out))
  have HAL := Lib.hid (hV.us _ hV.ua)
  clear hys hysec hyn hV hVx hX hbx q1 q2 q3 hb3 HN
  go_wp2_with fail
  obtain ⟨w5, hw5⟩ : ∃ z, (w3.alloc (.cells y.cells 31)).setCell ⟨y.ab, 1, none⟩ (.bool true) = z := ⟨_, rfl⟩
  have hV5 : VdIn w5 S (more (fun b => b < w1.heap.size ∨ b = y.gb ∨ b = y.lb ∨ b = y.ab) w3 (w3.alloc (.cells y.cells 31))) y [false, true] (List.replicate 2 (DevD.blank 24 0)) := by rw [← hw5]; exact HV.out.away 1 true
  have hX5 : Blk w5 w3.heap.size 31 y.cells := by rw [← hw5]; exact HX.out.far (by have := HAL.out; show w3.heap.size ≠ y.ab; omega) _
  have hb5 : Below w.heap.size w w5 := by rw [← hw5]; exact below_set HB3.out _ _ _ (by have := HY.out.2.2.2.2.2; have := HB1.out.size; omega)
  have HW5 := Lib.hid hw5
  have HV5 := Lib.hid hV5
  have HX5 := Lib.hid hX5
  have HB5 := Lib.hid hb5
  clear hw5 hV5 hX5 hb5 x0 x1 x2 x3 c8 z8 HV HX
  rw [HW5.out]
  obtain ⟨S0, hS0⟩ : ∃ S0 : World → Prop, S0 = fun W => W.heap[w3.heap.size]? = w5.heap[w3.heap.size]? := ⟨_, rfl⟩
  have f0 : ∀ W, S0 W → W.cell? ⟨w3.heap.size, 0, none⟩ = some (.slice (some ⟨y.gb, 0, none⟩) y.m y.cc) := fun W h => by rw [hS0] at h; exact (cell_same' h).trans (HX5.out.at_ rfl)
  have f1 : ∀ W, S0 W → W.cell? ⟨w3.heap.size, 1, none⟩ = some (.int .i64 y.secs) := fun W h => by rw [hS0] at h; exact (cell_same' h).trans (HX5.out.at_ rfl)
  have f2 : ∀ W, S0 W → W.cell? ⟨w3.heap.size, 2, none⟩ = some (.slice (some ⟨y.lb, 0, none⟩) y.bd.length y.lc) := fun W h => by rw [hS0] at h; exact (cell_same' h).trans (HX5.out.at_ rfl)
  have f3 : ∀ W, S0 W → W.cell? ⟨w3.heap.size, 3, none⟩ = some (.slice (some ⟨y.ab, 0, none⟩) y.bd.length y.bd.length) := fun W h => by rw [hS0] at h; exact (cell_same' h).trans (HX5.out.at_ rfl)
  have hSw : S0 w5.drew := by rw [hS0]; rfl
  obtain ⟨w6, r6', k6, s6, d6⟩ := mk_bytes w5.drew 64 (by decide)
  have r6 : (Instr.makeSlice 65 (.int .i64 64) (.int .i64 64)).run Try.prog w5.drew = .ok (.slice (some ⟨w5.heap.size, 0, none⟩) 64 64) w6 := r6'
  clear r6'
  have d6' : Below w5.heap.size w5 w6 := ⟨d6.os, d6.tape, d6.output, d6.size, fun i hi => d6.block i hi⟩
  have hS6 : S0 w6 := by rw [hS0]; exact d6'.block _ HX5.out.lt
  have hcv : (convert 65 9 (.slice (some ⟨w5.heap.size, 0, none⟩) 64 64)).run Try.prog w6 = .ok (str (List.replicate 64 0)) w6 := conv_bytes k6 64 64 (by simp)
  have hV6 := HV5.out.below d6'
  have hok : DsOk 0 y.secs (List.replicate 2 (DevD.blank 24 0)) := by
    rw [HY.out.2.1]
    intro d hd
    rw [List.eq_of_mem_replicate hd]
    exact ⟨blank_ok (by decide) (by decide), by simp [DevD.blank], rfl, fun k => Nat.zero_le _⟩
  have hwr := vwrite_any hV6 hok (by decide) (by have := HY.out.2.2.1; omega) 0 0 (List.replicate 64 0) (by simp)
  rw [HY.out.1, HY.out.2.1, HY.out.2.2.1, wn_ex.1, wn_ex.2] at hwr
  obtain ⟨zs, hzs⟩ : ∃ zs, List.replicate 64 (0 : UInt8) = zs := ⟨_, rfl⟩
  rw [hzs] at hwr hcv
  have HWR := Lib.hid hwr
  have HCV := Lib.hid hcv
  have HB6 := Lib.hid (And.intro d6' HV5.out.us)
  have HS0 := Lib.hid hS0
  clear k6 s6 d6 d6' hV6 hok hwr hcv hzs hS0
  refine wp_region_effA S0 [2, 3, 4] (by kernel_rfl) (by kernel_rfl) (by kernel_rfl) hSw ?_
  refine wpLexE_take 2 (by kernel_rfl) (by kernel_rfl) ?_
  simp only [List.take_succ_cons, List.take_zero, List.drop_succ_cons, List.drop_zero]
  repeat (first
    | go_big_quiet_skip
    | (go_big_quiet_want
       go_big_quiet_op
       first
         | go_big_quiet_on
         | (apply Exists.intro
            refine ⟨fun W hW => ?_, ?_⟩
            · first
                | exact rfl
                | exact ⟨rfl, rfl⟩
                | (have e0 := f0 W hW; have e1 := f1 W hW; have e2 := f2 W hW; have e3 := f3 W hW; simp only [e0, e1, e2, e3, Result.andThen_ok]; done)
                | (have e0 := f0 W hW; have e1 := f1 W hW; have e2 := f2 W hW; have e3 := f3 W hW; simp only [e0, e1, e2, e3, Result.andThen_ok]; first | exact ⟨trivial, rfl⟩ | exact rfl | exact ⟨rfl, rfl⟩)
                | (skip)
            go_big_quiet_on)))
  refine wpQuiet_nil ?_
  show wpLexE _ _ _ _ _ _ _ _ _
  refine wpLexE_eff (by kernel_rfl) rfl ?_
  go_wp2_with fail
  clear r6
  refine ⟨rfl, hS6, ?_⟩
  refine wpLexE_eff (by kernel_rfl) rfl ?_
  have hcv := HCV.out
  go_wp2_with fail
  clear hcv
  refine ⟨rfl, hS6, ?_⟩
  refine wpLexE_eff (by kernel_rfl) rfl ?_
  go_wp2_with fail
  refine HWR.out.mono ?_
  rintro e w7 ⟨rfl, _, hst⟩
  have hU : more (fun b => b < w1.heap.size ∨ b = y.gb ∨ b = y.lb ∨ b = y.ab) w3 (w3.alloc (.cells y.cells 31)) w3.heap.size := .inr ⟨Nat.le_refl _, by simp⟩
  have hS7 : S0 w7 := by rw [HS0.out]; exact (hst.heap hU (Nat.lt_of_lt_of_le HX5.out.lt HB6.out.1.size)).trans (HB6.out.1.block _ HX5.out.lt)
  have hbe : Below w.heap.size w w7 := by
    have h1 := HB1.out.size
    have h2 := HB6.out.1.size
    have h3 := HB5.out.size
    refine (keep_below HB6.out.1 HB5.out).trans (hst.below (by omega) (fun i hi => .inl (.inl (by omega))))
  have HBE := Lib.hid hbe
  clear hst hU hbe
  go_wp2_with fail
  refine ⟨rfl, hS7, ?_⟩
  refine wpLexE_take 5 (by kernel_rfl) (by kernel_rfl) ?_
  simp only [List.take_succ_cons, List.take_zero, List.drop_succ_cons, List.drop_zero]
  repeat (first
    | go_big_quiet_skip
    | (go_big_quiet_want
       go_big_quiet_op
       first
         | go_big_quiet_on
         | (apply Exists.intro
            refine ⟨fun W hW => ?_, ?_⟩
            · first
                | exact rfl
                | exact ⟨rfl, rfl⟩
                | (have e0 := f0 W hW; have e1 := f1 W hW; have e2 := f2 W hW; have e3 := f3 W hW; simp only [e0, e1, e2, e3, Result.andThen_ok]; done)
                | (have e0 := f0 W hW; have e1 := f1 W hW; have e2 := f2 W hW; have e3 := f3 W hW; simp only [e0, e1, e2, e3, Result.andThen_ok]; first | exact ⟨trivial, rfl⟩ | exact rfl | exact ⟨rfl, rfl⟩)
                | (skip)
            go_big_quiet_on)))
  refine wpQuiet_nil ?_
  show wpLexE _ _ _ _ _ _ _ _ _
  clear f0 f1 f2 f3
  unfold wpLexE
  go_wp2_with fail
  go_ret
  exact ⟨rfl, HBE.out⟩
end Go.Proofs.Ytppccdbfnhgdbaa

namespace Go.Proofs.Ytppccdbfnhgdbaa
set_option linter.unusedVariables false
set_option linter.unusedSimpArgs false

/-- What a column of the devices reads as. -/
def look (ds : List DevD) (c : Col) : List UInt8 := match ds[c.1.toNat]? with
  | some d => d.rdS c.2.1
  | none => []
theorem rdC_look (aw : List Bool) (ds : List DevD) (c : Col) : rdC aw ds c = if hereD aw ds c.1.toNat then look ds c else [] := rfl
theorem wr_mayE (d : DevD) (a b : Int) (t : List UInt8) : (d.wr a t).mayE b = d.mayE b := by
  unfold DevD.mayE
  rw [wr_lost, DevD.wr_med]
theorem wr_now_same {d : DevD} {a : Int} {t : List UInt8} (h : d.wrE a t = 0) : (d.wr a t).now a.toNat = t := by
  unfold DevD.wr
  rw [if_pos h]
  unfold DevD.now DevD.put
  simp [lastOr]
theorem wr_now_other {d : DevD} {a : Int} {t : List UInt8} {k : Nat} (h : k ≠ a.toNat) : (d.wr a t).now k = d.now k := by
  unfold DevD.wr
  split
  · unfold DevD.now DevD.put DevD.burn DevD.medAt
    simp only [if_neg h]
  · rfl
theorem wr_rd_same {d : DevD} {a : Int} {t : List UInt8} (h : d.wrE a t = 0) : (d.wr a t).rdS a = t := by
  have hm : d.mayE a = 0 := by
    unfold DevD.wrE at h
    split at h
    · rename_i hn; exact absurd h hn
    · rename_i hn; exact Decidable.of_not_not hn
  unfold DevD.rdS
  rw [wr_mayE, if_pos hm, wr_now_same h]
theorem wr_rd_other {d : DevD} {a b : Int} {t : List UInt8} (ha : 0 ≤ a) (hn : a ≠ b) : (d.wr a t).rdS b = d.rdS b := by
  unfold DevD.rdS
  rw [wr_mayE]
  split
  · rename_i hm
    have := DevD.mayE_ok hm
    rw [wr_now_other (by omega)]
  · rfl
/-- Columns that are what a block's may be. -/
structure Cols (n secs : Nat) (L : List Col) (T : List (List UInt8)) : Prop where
  inn : ∀ (j : Nat) (c : Col), L[j]? = some c → 0 ≤ c.1 ∧ c.1 < n ∧ 0 ≤ c.2.1 ∧ c.2.1 < secs
  txt : ∀ j : Nat, j < L.length → ∃ t, T[j]? = some t ∧ t.length = 64
  dis : ∀ (i j : Nat) (c e : Col), i ≠ j → L[i]? = some c → L[j]? = some e → ¬ (c.1 = e.1 ∧ c.2.1 = e.2.1)
theorem wrTo_hereD {aw : List Bool} {L : List Col} {T : List (List UInt8)} {ds : List DevD} (k i : Nat) : hereD aw (wrTo aw L T ds k) i = hereD aw ds i := by
  cases h : (wrTo aw L T ds k)[i]? with
  | none =>
    have h2 : ds[i]? = none := by
      rw [List.getElem?_eq_none_iff] at h ⊢
      rwa [wrTo_len] at h
    unfold hereD
    rw [h, h2]
  | some e =>
    rw [wrTo_at h]
    unfold hereD
    rw [h]
theorem wrTo_look {aw : List Bool} {L : List Col} {T : List (List UInt8)} {ds : List DevD} {N secs : Nat} (ok : DsOk N secs ds) (hc : Cols ds.length secs L T) :
    ∀ k : Nat, k ≤ L.length → ∀ (j : Nat) (c : Col), L[j]? = some c → look (wrTo aw L T ds k) c = if decide (j < k) && hereD aw ds c.1.toNat then T.getD j [] else look ds c
  | 0, _, j, c, _ => by simp [wrTo]
  | k + 1, hk, j, c, hj => by
    have ih := wrTo_look (aw := aw) ok hc k (by omega)
    obtain ⟨e, he⟩ : ∃ e, L[k]? = some e := ⟨_, List.getElem?_eq_getElem (by omega)⟩
    obtain ⟨t, ht, ht64⟩ := hc.txt k (by omega)
    obtain ⟨e1, e2, e3, e4⟩ := hc.inn k e he
    obtain ⟨d, hd⟩ : ∃ d, (wrTo aw L T ds k)[e.1.toNat]? = some d := ⟨_, List.getElem?_eq_getElem (by rw [wrTo_len]; omega)⟩
    have hh := wrTo_at hd
    have okk := wrTo_ok (aw := aw) (L := L) (T := T) ok k
    cases hq : (!(aw.getD e.1.toNat false) && !d.lost) with
    | false =>
      rw [hq] at hh
      rw [wrTo_no he ht (by omega) hd hq]
      by_cases hjk : j = k
      · subst hjk
        rw [he] at hj; cases hj
        rw [ih _ _ he, hh]
        simp
      · rw [ih j c hj, show decide (j < k + 1) = decide (j < k) from decide_eq_decide.2 (by omega)]
    | true =>
      rw [hq] at hh
      rw [wrTo_yes he ht (by omega) hd hq]
      have hdl : d.lost = false := by simp only [Bool.and_eq_true, Bool.not_eq_true'] at hq; exact hq.2
      obtain ⟨o1, o2, o3, o4⟩ := okk d (List.mem_of_getElem? hd)
      have hw : d.wrE e.2.1 t = 0 := by
        have hm : d.mayE e.2.1 = 0 := by
          unfold DevD.mayE
          rw [hdl]
          simp only [Bool.false_eq_true, if_false]
          rw [if_neg (by omega)]
        unfold DevD.wrE
        rw [hm, if_neg (by simp), if_neg (by omega), if_neg (by omega)]
      by_cases hjk : j = k
      · subst hjk
        rw [he] at hj; cases hj
        rw [hh]
        have hlt : c.1.toNat < (wrTo aw L T ds j).length := (List.getElem?_eq_some_iff.1 hd).1
        unfold look
        rw [List.getElem?_set, if_pos rfl, if_pos hlt]
        simp only [Bool.and_true, show decide (j < j + 1) = true from decide_eq_true (by omega), if_true]
        rw [wr_rd_same hw, List.getD_eq_getElem?_getD, ht]
        rfl
      · have hne := hc.dis j k c e hjk hj he
        rw [show decide (j < k + 1) = decide (j < k) from decide_eq_decide.2 (by omega), ← ih j c hj]
        obtain ⟨c1, c2, c3, c4⟩ := hc.inn j c hj
        unfold look
        rw [List.getElem?_set]
        by_cases hdv : e.1.toNat = c.1.toNat
        · have hlt : e.1.toNat < (wrTo aw L T ds k).length := (List.getElem?_eq_some_iff.1 hd).1
          rw [if_pos hdv, if_pos hlt, ← hdv, hd]
          exact wr_rd_other e3 (fun h => hne ⟨by omega, h.symm⟩)
        · rw [if_neg hdv]
/-- A block's columns are such. -/
theorem cols_of {gs : List (Int × Int)} {secs n : Nat} {pg pa : Int} {s : List UInt8} (hr : gRight gs secs = true) (hn : gSum gs = n) (hz : encE gs secs pg pa s = 0) : Cols n secs (ofList gs secs pg pa (secN s)) (encL gs secs pg pa s) := by
  obtain ⟨z1, z2, z3⟩ := encE_zero hz
  have hLc : ofList gs secs pg pa (secN s) = colsOf gs secs pg pa (secN s) := by unfold ofList; rw [if_pos z2]
  have hnd : gDevs gs secs = n := by unfold gDevs; rw [if_pos hr]; exact hn
  obtain ⟨a1, a2, _⟩ := apart_pure z2 z2
  refine ⟨fun j c hj => ?_, fun j hj => ?_, fun i j c e hij hi hj => ?_⟩
  · rw [hLc] at hj
    have := a1 j c hj
    omega
  · have hk : j < (encL gs secs pg pa s).length := by rw [encL_len]; exact hj
    exact ⟨_, List.getElem?_eq_getElem hk, encL_64 z2 _ (List.getElem_mem hk)⟩
  · rw [hLc] at hi hj
    by_cases h : j < i
    · exact a2 i j c e h hi hj
    · intro hh
      exact a2 j i e c (by omega) hj hi ⟨hh.1.symm, hh.2.symm⟩
theorem wE_zero {gs : List (Int × Int)} {secs pg pa : Int} {s : List UInt8} {hs : Nat → Bool} {n : Nat} (h : wE gs secs pg pa s hs n = 0) : encE gs secs pg pa s = 0 := by
  unfold wE at h
  split at h
  · assumption
  · cases h
theorem secN_len {s t : List UInt8} (h : s.length = t.length) : secN s = secN t := by unfold secN; rw [h]
theorem secOk_len {s t : List UInt8} (h : s.length = t.length) : secOk s = secOk t := by
  unfold secOk
  rw [h]
  have : decide (s ≠ []) = decide (t ≠ []) := decide_eq_decide.2 (by
    rw [← List.length_pos_iff, ← List.length_pos_iff, h])
  rw [this]
theorem encE_len {gs : List (Int × Int)} {secs pg pa : Int} {s t : List UInt8} (h : s.length = t.length) : encE gs secs pg pa s = encE gs secs pg pa t := by
  unfold encE
  rw [secOk_len h, secN_len h]
end Go.Proofs.Ytppccdbfnhgdbaa

namespace Go.Proofs.Ytppccdbfnhgdbaa
set_option linter.unusedVariables false
set_option linter.unusedSimpArgs false
open Go.RowKit

/-- The boxes of a statement over devices: the measure, the place, the devices. -/
structure KX (w W : World) (A : Option Addr) (m c : Nat) (secs pg pa : Int) (y : VX) (xb : Nat) : Prop where
  g : Blk W w.heap.size 24 #[.slice A m c, .int .i64 secs]
  p : Blk W (w.heap.size + 1) 26 #[.int .i64 pg, .int .i64 pa]
  x : Blk W xb 31 y.cells
  bel : Below w.heap.size w W
section
variable {w W W' : World} {A : Option Addr} {m c : Nat} {secs pg pa : Int} {y : VX} {xb : Nat} {U : Nat → Prop}
theorem KX.stays (h : KX w W A m c secs pg pa y xb) (hs : Stays U W W') (hU : ∀ b, b < w.heap.size + 2 → U b) (hx : U xb) : KX w W' A m c secs pg pa y xb :=
  ⟨(hs.heap (hU _ (by omega)) h.g.lt).trans h.g, (hs.heap (hU _ (by omega)) h.p.lt).trans h.p, (hs.heap hx h.x.lt).trans h.x, h.bel.trans (hs.below h.bel.size (fun i hi => hU i (by omega)))⟩
theorem KX.below (h : KX w W A m c secs pg pa y xb) (hb : Below W.heap.size W W') : KX w W' A m c secs pg pa y xb :=
  ⟨h.g.below hb h.g.lt, h.p.below hb h.p.lt, h.x.below hb h.x.lt, keep_below hb h.bel⟩
theorem KX.far (h : KX w W A m c secs pg pa y xb) {b : Nat} (hb : w.heap.size + 2 ≤ b) (hx : xb ≠ b) (i : Nat) (u : Value) : KX w (W.setCell ⟨b, i, none⟩ u) A m c secs pg pa y xb :=
  ⟨h.g.far (by show w.heap.size ≠ b; omega) u, h.p.far (by show w.heap.size + 1 ≠ b; omega) u, h.x.far hx u, below_set h.bel _ _ _ (by omega)⟩
theorem awT_nil (n k : Nat) : awT [] n k = List.replicate n false := by simp [awT, bAt, List.map_const']
theorem lsT_nil (D : DevD) (n k : Nat) : lsT [] D n k = List.replicate n D := by simp [lsT, bAt, List.map_const']
end
theorem ofErr_good {gs : List (Int × Int)} {secs pg pa size : Int} (h : cMay gs secs pg pa size = true) : ofErr gs secs pg pa size = 0 := by unfold ofErr; rw [if_pos h]
theorem rem_eq {a q : Nat} (n : Nat) (h : a % n = q) : (a : Int).tmod (n : Int) = (q : Int) := (IntWalk.up_tmod rfl rfl).trans (by rw [h])
theorem set_back (n q : Nat) : ((List.replicate n false).set q true).set q false = List.replicate n false := by
  apply List.ext_getElem?
  intro i
  simp only [List.getElem?_set, List.getElem?_replicate, List.length_set, List.length_replicate]
  by_cases e : q = i
  · subst e
    by_cases h : q < n <;> simp [h]
  · simp [e]
theorem blanks_ok {n secs : Nat} {b : UInt8} (h1 : 1 ≤ secs) (h2 : secs ≤ 4096) : DsOk 0 secs (List.replicate n (DevD.blank secs b)) := fun d hd => by
  rw [List.eq_of_mem_replicate hd]
  exact ⟨blank_ok h1 h2, by simp [DevD.blank], rfl, fun k => Nat.zero_le _⟩
theorem hereD_set {aw : List Bool} {ds : List DevD} {q : Nat} (h : q < aw.length) : hereD (aw.set q true) ds q = false := by
  unfold hereD
  simp [List.getD_eq_getElem?_getD, List.getElem?_set, h]
theorem hereD_set_ne {aw : List Bool} {ds : List DevD} {q i : Nat} {v : Bool} (h : i ≠ q) : hereD (aw.set q v) ds i = hereD aw ds i := by
  unfold hereD
  simp only [List.getD_eq_getElem?_getD, List.getElem?_set, if_neg (fun e : q = i => h e.symm)]
theorem here_blank {n secs i : Nat} {b : UInt8} (hi : i < n) : hereD (List.replicate n false) (List.replicate n (DevD.blank secs b)) i = true := by
  unfold hereD
  simp [List.getD_eq_getElem?_getD, hi, DevD.blank]
/-- Written by all, then by all but one. -/
theorem away_read {gs : List (Int × Int)} {secs n q : Nat} {pg pa : Int} {s t : List UInt8} (hr : gRight gs secs = true) (hn : gSum gs = n) (hE : encE gs secs pg pa s = 0) (hl : s.length = t.length) (h1 : 1 ≤ secs) (h2 : secs ≤ 4096) (hq : q < n) {L : List Col} (hL : L = ofList gs secs pg pa (secN s))
    {ds1 ds2 : List DevD} (hd1 : ds1 = wrTo (List.replicate n false) L (encL gs secs pg pa s) (List.replicate n (DevD.blank secs 0)) L.length) (hd2 : ds2 = wrTo ((List.replicate n false).set q true) L (encL gs secs pg pa t) ds1 L.length) {k : Nat} {c : Col} (hk : L[k]? = some c) :
    rdC (List.replicate n false) ds2 c = if c.1 = q then (encL gs secs pg pa s).getD k [] else (encL gs secs pg pa t).getD k [] := by
  have hE2 : encE gs secs pg pa t = 0 := by rw [← encE_len hl]; exact hE
  have ok0 : DsOk 0 secs (List.replicate n (DevD.blank secs 0)) := blanks_ok h1 h2
  have c1 := cols_of hr hn hE
  have c2 := cols_of hr hn hE2
  rw [← secN_len hl, ← hL] at c2
  rw [← hL] at c1
  have hlen0 : (List.replicate n (DevD.blank secs 0)).length = n := by simp
  have hlen1 : ds1.length = n := by rw [hd1, wrTo_len, hlen0]
  have ok1 : DsOk (0 + L.length) secs ds1 := by rw [hd1]; exact wrTo_ok ok0 _
  have hkl : k < L.length := (List.getElem?_eq_some_iff.1 hk).1
  obtain ⟨e1, e2, e3, e4⟩ := c1.inn k c hk
  have hi : c.1.toNat < n := by omega
  have hh2 : hereD (List.replicate n false) ds2 c.1.toNat = true := by
    rw [hd2]
    have h3 : hereD (List.replicate n false) (wrTo ((List.replicate n false).set q true) L (encL gs secs pg pa t) ds1 L.length) c.1.toNat = hereD (List.replicate n false) ds1 c.1.toNat := by
      have := wrTo_lost (aw := (List.replicate n false).set q true) (L := L) (T := encL gs secs pg pa t) (ds := ds1) c.1.toNat L.length
      unfold hereD
      cases ha : (wrTo ((List.replicate n false).set q true) L (encL gs secs pg pa t) ds1 L.length)[c.1.toNat]? with
      | none =>
        rw [ha] at this
        cases hb : ds1[c.1.toNat]? with
        | none => rfl
        | some d => rw [hb] at this; cases this
      | some e =>
        rw [ha] at this
        cases hb : ds1[c.1.toNat]? with
        | none => rw [hb] at this; cases this
        | some d => rw [hb] at this; simp at this; simp [this]
    rw [h3, hd1, wrTo_hereD]
    exact here_blank hi
  rw [rdC_look, hh2, if_pos rfl, hd2, wrTo_look ok1 (by rw [hlen1]; exact c2) L.length (Nat.le_refl _) k c hk, hd1]
  rw [wrTo_look ok0 (by rw [hlen0]; exact c1) L.length (Nat.le_refl _) k c hk, here_blank hi, decide_eq_true hkl]
  by_cases hcq : c.1 = q
  · have e : c.1.toNat = q := by omega
    rw [if_pos hcq, e, hereD_set (by simpa using hq)]
    simp
  · rw [if_neg hcq, hereD_set_ne (fun h => hcq (by omega)), wrTo_hereD, here_blank hi]
    simp
end Go.Proofs.Ytppccdbfnhgdbaa

namespace Go.Proofs.Ytppccdbfnhgdbaa
set_option linter.unusedVariables false
set_option linter.unusedSimpArgs false
open Go.RowKit

theorem gOne_false {x : Int × Int} (h : gOne x = false) : (x.1 ≠ 0 ∧ x.1 ≠ 1) ∨ (x.1 = 0 ∧ (x.2 < 1 ∨ 8 < x.2)) ∨ (x.1 = 1 ∧ (x.2 < 3 ∨ 8 < x.2)) := by
  have : ¬ ((x.1 = 0 ∧ 1 ≤ x.2 ∧ x.2 ≤ 8) ∨ (x.1 = 1 ∧ 3 ≤ x.2 ∧ x.2 ≤ 8)) := by
    intro h'
    have : gOne x = true := by simpa [gOne] using h'
    rw [h] at this; cases this
  omega

set_option maxHeartbeats 4000000 in
theorem refRight_any (A : Option Addr) (n c : Nat) (gs : List (Int × Int)) (secs : Int) (w : World) (hg : GeoAt w A n gs) :
    Calls Try.prog 12 #[.agg #[.slice A n c, .int .i64 secs]] w fun e w' => e = .returned (.bool (gRight gs secs)) ∧ Below w.heap.size w w' := by
  obtain ⟨hl, hn2, hg⟩ := hg
  have hb0 : ∀ o, Below w.heap.size w (w.alloc o) := fun o => (Below.refl _ _).alloc (Nat.le_refl _) o
  by_cases hn : n = 0
  · subst hn
    have hgr : Hid (gRight gs secs = false) := by simp [Hid, gRight, hl]
    clear hg hl
    go_enter Try.func12, Try.ntmps12
    go_wp2
    go_ret
    exact ⟨ret_bool hgr.out.symm, hb0 _⟩
  · obtain ⟨b, off, rfl, hgs⟩ := hg (by omega)
    clear hg
    by_cases hbad : 4 < n ∨ secs < 24 ∨ 4096 < secs
    · have hgr : Hid (gRight gs secs = false) := by unfold Hid gRight; rw [hl]; simp; omega
      have hn1 : (1 : Int) ≤ n := by omega
      clear hgs hl
      go_enter Try.func12, Try.ntmps12
      go_wp2
      all_goals go_ret
      all_goals exact ⟨ret_bool (by rw [hgr.out]), hb0 _⟩
    · have hgr : Hid (gRight gs secs = gs.all gOne) := by
        unfold Hid gRight; rw [hl, decide_eq_true (by omega), decide_eq_true (by omega), decide_eq_true (by omega), decide_eq_true (by omega)]
        rfl
      have h1 : (1 : Int) ≤ n := by omega
      have h2 : (n : Int) ≤ 4 := by omega
      have h3 : 24 ≤ secs := by omega
      have h4 : secs ≤ 4096 := by omega
      have Hl := Lib.hid hl
      have hgl := hgs.1
      clear hbad hl
      go_enter Try.func12, Try.ntmps12
      go_wp2
      have hb1 := hb0 (Obj.cells #[Value.slice (some ⟨b, off, none⟩) n c, Value.int IntKind.i64 secs] 24)
      have k1 : (w.alloc (Obj.cells #[Value.slice (some ⟨b, off, none⟩) n c, Value.int IntKind.i64 secs] 24)).cell? ⟨w.heap.size, 0, none⟩ = some (.slice (some ⟨b, off, none⟩) n c) := cell_new rfl rfl
      have hs1 : w.heap.size < (w.alloc (Obj.cells #[Value.slice (some ⟨b, off, none⟩) n c, Value.int IntKind.i64 secs] 24)).heap.size := by simp
      generalize w.alloc (Obj.cells #[Value.slice (some ⟨b, off, none⟩) n c, Value.int IntKind.i64 secs] 24) = w1 at *
      go_loopw [3] (fun t wr => ∃ k : Nat, k ≤ n ∧ t = .int .i64 k ∧ (∀ j x, j < k → gs[j]? = some x → gOne x = true) ∧ Below w1.heap.size w1 wr) (fun t _ => n - (RowKit.intOf t).toNat)
      case atStart => exact ⟨0, Nat.zero_le _, rfl, fun j x h => absurd h (by omega), Below.refl _ _⟩
      case round =>
        obtain ⟨k, hk, rfl, hno, hb⟩ := hrel
        obtain ⟨wo, rfl⟩ : ∃ wo : World, wo = wr := ⟨_, rfl⟩
        have HN := Lib.hid hno
        clear hno
        have k2 := keep_cell hb k1 hs1
        have hbb := hb1.trans (hb.mono hb1.size)
        by_cases hlt : k < n
        · obtain ⟨x, hx⟩ : ∃ x, gs[k]? = some x := ⟨_, List.getElem?_eq_getElem (by rw [Hl.out]; exact hlt)⟩
          obtain ⟨z1, z2⟩ := (hgs.below hbb (Nat.le_refl _)).2 k x hx
          have HX := Lib.hid hx
          have hi0 : (0 : Int) ≤ k := by omega
          have hi1 : (k : Int) < n := by omega
          clear hx
          cases ho : gOne x with
          | true =>
            have HO := Lib.hid ho
            rcases gOne_true ho with ⟨e, g1, g2⟩ | ⟨e, g1, g2⟩
            all_goals
              obtain ⟨kd, wd⟩ := x
              simp only at e g1 g2 z1 z2
              subst e
              clear ho
              go_wp2_with fail
              go_roundw
              case rel =>
                refine ⟨k + 1, by omega, by go_num, fun j y hj hy => ?_, hb.alloc hb.size _⟩
                rcases Nat.lt_or_ge j k with h | h
                · exact HN.out j y h hy
                · obtain rfl : j = k := by omega
                  rw [HX.out] at hy
                  injection hy with hy
                  rw [← hy]; exact HO.out
              case measure => simp [RowKit.intOf]; omega
          | false =>
            have hf : Hid (gs.all gOne = false) := by
              unfold Hid; rw [List.all_eq_false]; exact ⟨x, List.mem_of_getElem? HX.out, by rw [ho]; simp⟩
            have hz := gOne_false ho
            obtain ⟨kd, wd⟩ := x
            simp only at hz z1 z2
            clear ho HX
            rcases hz with ⟨e1, e2⟩ | ⟨e, e1⟩ | ⟨e, e1⟩
            · have q1 : (kd != 0) = true := by simpa using e1
              have q2 : (kd != 1) = true := by simpa using e2
              clear e1 e2
              go_wp2_with fail
              all_goals go_ret
              all_goals exact ⟨ret_bool (by rw [hgr.out, hf.out]), hbb.alloc hbb.size _⟩
            · subst e
              rcases e1 with e1 | e1
              all_goals
                go_wp2_with fail
                all_goals go_ret
                all_goals exact ⟨ret_bool (by rw [hgr.out, hf.out]), hbb.alloc hbb.size _⟩
            · subst e
              rcases e1 with e1 | e1
              all_goals
                go_wp2_with fail
                all_goals go_ret
                all_goals exact ⟨ret_bool (by rw [hgr.out, hf.out]), hbb.alloc hbb.size _⟩
        · obtain rfl : k = n := by omega
          go_wp2_with fail
          go_ret
          refine ⟨ret_bool ?_, hbb⟩
          symm
          rw [hgr.out, List.all_eq_true]
          intro x hx
          obtain ⟨j, hj⟩ := List.mem_iff_getElem?.1 hx
          exact HN.out j x (by have := (List.getElem?_eq_some_iff.1 hj).1; rw [Hl.out] at this; exact this) hj
/-- What the reference says a block takes of a group. -/
theorem refTakes_any (x : Int × Int) (size : Int) (w : World) (ho : gOne x = true) (h1 : 1 ≤ size) (h2 : size ≤ 4) :
    Calls Try.prog 39 #[.agg #[.int .i64 x.1, .int .i64 x.2], .int .i64 size] w fun e w' => e = .returned (.int .i64 (gTake1 x size)) ∧ Below w.heap.size w w' := by
  obtain ⟨kd, wd⟩ := x
  rcases gOne_true ho with ⟨e, g1, g2⟩ | ⟨e, g1, g2⟩
  · simp only at e g1 g2
    subst e
    have ht : Hid (gTake1 (0, wd) size = size) := Lib.hid rfl
    clear ho
    go_enter Try.func39, Try.ntmps39
    go_wp2_with fail
    go_ret
    exact ⟨ret_int ht.out.symm, (Below.refl _ _).alloc (Nat.le_refl _) _⟩
  · simp only at e g1 g2
    subst e
    obtain ⟨s, rfl⟩ := Int.eq_ofNat_of_zero_le (show 0 ≤ size by omega)
    have ht : Hid (gTake1 (1, wd) s = (s + (s + wd - 2) / (wd - 1)) + (s + (s + wd - 2) / (wd - 1)) % 2) := Lib.hid rfl
    have hd : Hid ((s + wd - 2) / (wd - 1) = if (s : Int) ≤ wd - 1 then 1 else 2) := by
      unfold Hid
      have hw : wd = 3 ∨ wd = 4 ∨ wd = 5 ∨ wd = 6 ∨ wd = 7 ∨ wd = 8 := by omega
      rcases hw with rfl | rfl | rfl | rfl | rfl | rfl <;> split <;> omega
    clear ho
    go_enter Try.func39, Try.ntmps39
    go_wp2_with fail
    go_loopw [5, 6] (fun n l wr => ∃ j : Nat, j ≤ 2 ∧ n = .int .i64 ((s : Int) + j) ∧ l = .int .i64 ((s : Int) - j * (wd - 1)) ∧ (0 < j → ((j : Int) - 1) * (wd - 1) < s) ∧ Below w.heap.size w wr ∧ wr.cell? ⟨w.heap.size, 1, none⟩ = some (.int .i64 wd))
      (fun _ l _ => (RowKit.intOf l).toNat)
    case atStart => exact ⟨0, by omega, by simp, by simp, fun h => absurd h (by omega), (Below.refl _ _).alloc (Nat.le_refl _) _, cell_new rfl rfl⟩
    case round =>
      obtain ⟨j, hj, rfl, rfl, hpos, hb, hc⟩ := hrel
      have hj3 : j = 0 ∨ j = 1 ∨ j = 2 := by omega
      rcases hj3 with rfl | rfl | rfl
      · have q1 : (0 : Int) < (s : Int) - 0 * (wd - 1) := by omega
        go_wp2_with fail
        go_roundw
        case rel => exact ⟨1, by omega, by congr 1, by congr 1; omega, fun _ => by omega, hb, hc⟩
        case measure => simp [RowKit.intOf]; omega
      · by_cases q : (s : Int) ≤ wd - 1
        · rw [if_pos q] at hd
          have hpar : ((s : Int) + 1) % 2 = 0 ∨ ((s : Int) + 1) % 2 = 1 := by omega
          rcases hpar with hpar | hpar
          all_goals
            go_wp2_with fail
            go_ret
            refine ⟨ret_int ?_, hb⟩
            rw [ht.out, hd.out]; omega
        · go_wp2_with fail
          go_roundw
          case rel => exact ⟨2, by omega, by congr 1, by congr 1; omega, fun _ => by omega, hb, hc⟩
          case measure => simp [RowKit.intOf]; omega
      · have q : ¬ (s : Int) ≤ wd - 1 := by have := hpos (by omega); omega
        rw [if_neg q] at hd
        have hpar : ((s : Int) + 2) % 2 = 0 ∨ ((s : Int) + 2) % 2 = 1 := by omega
        rcases hpar with hpar | hpar
        all_goals
          go_wp2_with fail
          go_ret
          refine ⟨ret_int ?_, hb⟩
          rw [ht.out, hd.out]; omega
end Go.Proofs.Ytppccdbfnhgdbaa
