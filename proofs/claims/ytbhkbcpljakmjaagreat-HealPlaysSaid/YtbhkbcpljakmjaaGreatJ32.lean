/-
  The document's answer for layer 2: More, Sum.
  The document's answer for layer 7: Fits, Encode.
  The document's answer for layer 7: Encode.
-/
import Derived.Test.YtbhkbcpljakmjaaGreatJ17
import Derived.Test.YtbhkbcpljakmjaaGreatJ31
import Derived.Test.YtbhkbcpljakmjaaGreatJ16
namespace Go.Proofs.YtbhkbcpljakmjaaGreat
set_option linter.unusedVariables false
set_option linter.unusedSimpArgs false
open Go.RowKit
theorem word_cut (P : List UInt8) (W : World) (k : Nat) (h : 4 * k + 4 ≤ P.length) : (Instr.slice 9 (str P) (some (.int .i64 (4 * (k : Int)))) (some (.int .i64 (4 * (k : Int) + 4))) none).run Tryz.prog W = .ok (str ((P.drop (4 * k)).take 4)) W := by
 have := run_slice_string (P := Tryz.prog) W 9 (ByteArray.mk P.toArray) .i64 .i64 (4 * (k : Int)) (4 * (k : Int) + 4) Tryz.underlying9 (by omega) (by omega) (by simp [ByteArray.size]; omega)
 rw [this]
 have e1 : (4 * (k : Int)).toNat = 4 * k := by omega
 have e2 : (4 * (k : Int) + 4).toNat = 4 * k + 4 := by omega
 have e3 : (ByteArray.mk P.toArray).extract (4 * k) (4 * k + 4) = ⟨((P.drop (4 * k)).take 4).toArray⟩ := by
  apply ByteArray.ext
  have h6 : (4 * k + 4) - 4 * k = 4 := by omega
  simp only [ByteArray.data_extract, List.extract_toArray, List.extract_eq_take_drop, h6]
 rw [e1, e2, e3]
set_option maxRecDepth 20000 in
set_option maxHeartbeats 1000000 in
theorem refMore_any (x : Nat × Nat × Nat × Nat) (s : List UInt8) (hl : s.length ≤ 100000) (w : World) : Calls Tryz.prog 74 #[.agg (fcells x), str s] w fun e w' => e = .returned (.agg (fcells ((wordsL s).foldl fstep x))) ∧ Below w.heap.size w w' := by
 obtain ⟨w2, hw2⟩ : ∃ z, (w.alloc (.cells (fcells x) 29)).alloc (.cells #[.int .u64 0, .int .u64 0, .int .u64 0, .int .u64 0] 29) = z := ⟨_, rfl⟩
 have B1 : Blk w2 w.heap.size 29 (fcells x) := by rw [← hw2]; exact (Blk.new _ _ _).alloc _
 have B2 : Blk w2 (w.heap.size + 1) 29 #[.int .u64 0, .int .u64 0, .int .u64 0, .int .u64 0] := by rw [← hw2]; exact Blk.new2 _ _ _ _
 have D2 : Below w.heap.size w w2 := by rw [← hw2]; exact keep_alloc (keep_alloc (Below.refl _ _) _) _
 have hp4 := padL_4 s
 have hwl := words_len s
 have hwa := fun k (hk : k < (wordsL s).length) => words_at hk
 have HPD := Lib.hid (refPad_any s 4 w2 (by omega))
 obtain ⟨P, hP⟩ : ∃ P, padL s 4 = P := ⟨_, rfl⟩
 rw [hP] at HPD hp4 hwl hwa
 obtain ⟨ws, hws⟩ : ∃ ws, wordsL s = ws := ⟨_, rfl⟩
 rw [hws] at hwl hwa
 rw [hws]
 have HW := Lib.hid (And.intro hwl hwa)
 have HPL := Lib.hid hp4
 have HB := Lib.hid (And.intro B1 (And.intro B2 D2))
 have HW2 := Lib.hid hw2
 clear B1 B2 D2 hp4 hwl hwa hP hws hw2
 go_enter Tryz.func74, Tryz.ntmps74
 go_wp2_with fail
 rw [HW2.out]
 refine HPD.out.mono ?_
 rintro e w3 ⟨rfl, hb3⟩
 have H3 := Lib.hid (And.intro (HB.out.1.below hb3 HB.out.1.lt) (And.intro (HB.out.2.1.below hb3 HB.out.2.1.lt) (keep_below hb3 HB.out.2.2)))
 have hPl : P.length ≤ 100003 := by have := HPL.out.2; omega
 clear hb3
 go_wp2_with fail
 go_loopw [5] (fun t wr => ∃ k : Nat, k ≤ ws.length ∧ t = .int .i64 (4 * (k : Int)) ∧ Blk wr w.heap.size 29 (fcells ((ws.take k).foldl fstep x)) ∧ Blk wr (w.heap.size + 1) 29 #[.int .u64 0, .int .u64 0, .int .u64 0, .int .u64 0] ∧ Below w.heap.size w wr) (fun t _ => P.length - (RowKit.intOf t).toNat)
 case atStart => exact ⟨0, Nat.zero_le _, rfl, H3.out.1, H3.out.2.1, H3.out.2.2⟩
 case round =>
  obtain ⟨k, hk, rfl, hbk, hb0, hbe⟩ := hrel
  have hP4 : P.length = 4 * ws.length := by have := HPL.out.1; have := HW.out.1; omega
  by_cases hlt : k < ws.length
  · have hd1 : decide (4 * (k : Int) < (P.length : Int)) = true := decide_eq_true (by omega)
    have hwk := HW.out.2 k hlt
    have hst : (ws.take (k + 1)).foldl fstep x = fstep ((ws.take k).foldl fstep x) (rdN P (4 * k) 4) := by rw [List.take_add_one, hwk, List.foldl_append]; rfl
    have hrd : rdN P (4 * k) 4 = leNat ((P.drop (4 * k)).take 4) := by unfold rdN; rw [if_neg (by omega)]
    have hk4 : IntKind.i64.wrap (4 * (k : Int) + 4) = 4 * (k : Int) + 4 := (IntWalk.i64_left _).trans (IntWalk.wrap64_in _ (by omega))
    have hcut := word_cut P wr.drew k (by omega)
    rw [← hk4] at hcut
    obtain ⟨m, hm⟩ : ∃ m, (P.drop (4 * k)).take 4 = m := ⟨_, rfl⟩
    have hml : m.length ≤ 8 := by rw [← hm, List.length_take]; omega
    rw [hm] at hrd hcut
    rw [hrd] at hst
    obtain ⟨v, hv⟩ : ∃ v, leNat m = v := ⟨_, rfl⟩
    have HN := Lib.hid ((numRef_any m wr.drew hml).mono (fun e w' h => (⟨h.1, h.2.symm⟩ : e = .returned (.int .u64 (leNat m : Nat)) ∧ w' = wr.drew)))
    rw [hv] at HN hst
    obtain ⟨⟨y1, y2, y3, y4⟩, hy⟩ : ∃ y, (ws.take k).foldl fstep x = y := ⟨_, rfl⟩
    rw [hy] at hst hbk
    obtain ⟨z1, hz1⟩ : ∃ z1, (y1 + v) % M64 = z1 := ⟨_, rfl⟩
    obtain ⟨z2, hz2⟩ : ∃ z2, (y2 + z1) % M64 = z2 := ⟨_, rfl⟩
    obtain ⟨z3, hz3⟩ : ∃ z3, (y3 + z2) % M64 = z3 := ⟨_, rfl⟩
    obtain ⟨z4, hz4⟩ : ∃ z4, (y4 + z3) % M64 = z4 := ⟨_, rfl⟩
    have hs1 := wrap_sum y1 v
    have hs2 := wrap_sum y2 z1
    have hs3 := wrap_sum y3 z2
    have hs4 := wrap_sum y4 z3
    rw [hz1] at hs1
    rw [hz2] at hs2
    rw [hz3] at hs3
    rw [hz4] at hs4
    have hfs : fstep (y1, y2, y3, y4) v = (z1, z2, z3, z4) := by unfold fstep; rw [← hz4, ← hz3, ← hz2, ← hz1]
    rw [hfs] at hst
    have HST := Lib.hid hst
    have c0 : wr.cell? ⟨w.heap.size, 0, none⟩ = some (.int .u64 y1) := hbk.at_ rfl
    have c1 : wr.cell? ⟨w.heap.size, 1, none⟩ = some (.int .u64 y2) := hbk.at_ rfl
    have c2 : wr.cell? ⟨w.heap.size, 2, none⟩ = some (.int .u64 y3) := hbk.at_ rfl
    have c3 : wr.cell? ⟨w.heap.size, 3, none⟩ = some (.int .u64 y4) := hbk.at_ rfl
    have f0 := hbk.fr 0
    have f1 := hbk.fr 1
    have f2 := hbk.fr 2
    have f3 := hbk.fr 3
    have HBK := Lib.hid (((((hbk.put 0 (.int .u64 z1)).put 1 (.int .u64 z2)).put 2 (.int .u64 z3)).put 3 (.int .u64 z4)))
    have HB0 := Lib.hid hb0
    have HBE := Lib.hid hbe
    have HLT := Lib.hid hlt
    have hP4' := Lib.hid hP4
    have HP4' := Lib.hid hP4
    clear hk4 hst hfs hy hz1 hz2 hz3 hz4 hv hm hrd hwk hbk hb0 hbe hlt hk hP4 hml
    go_wp2_with fail
    refine wp_region_still_tail 9 (by kernel_rfl) (by kernel_rfl) ?_
    simp only [List.take_succ_cons, List.take_zero, List.drop_succ_cons, List.drop_zero]
    repeat still_step
    still_call HN.out
    repeat still_step
    try refine wpStill_nil ?_
    change wpList _ _ _ _ _ wr.drew
    go_wp2_with fail
    go_roundw
    case rel =>
     have hne : w.heap.size + 1 ≠ w.heap.size := by omega
     exact ⟨k + 1, HLT.out, by rw [IntWalk.wrap64_in _ (by have := HP4'.out; have := HLT.out; omega)]; congr 1, by rw [HST.out]; exact HBK.out,
      (Below.heap_setCell _ _ _ _ hne).trans ((Below.heap_setCell _ _ _ _ hne).trans ((Below.heap_setCell _ _ _ _ hne).trans ((Below.heap_setCell _ _ _ _ hne).trans HB0.out))),
      (below_set (below_set (below_set (below_set HBE.out _ _ _ (Nat.le_refl _)) _ _ _ (Nat.le_refl _)) _ _ _ (Nat.le_refl _)) _ _ _ (Nat.le_refl _)).drew⟩
    case measure =>
     rw [IntWalk.wrap64_in _ (by have := HP4'.out; have := HLT.out; omega)]
     have := HP4'.out
     have := HLT.out
     simp [RowKit.intOf]
     omega
  · obtain rfl : k = ws.length := by omega
    have hd1 : decide (4 * (ws.length : Int) < (P.length : Int)) = false := decide_eq_false (by omega)
    rw [List.take_length] at hbk
    obtain ⟨S, hS⟩ : ∃ S, ws.foldl fstep x = S := ⟨_, rfl⟩
    rw [hS] at hbk
    have HSS := Lib.hid hS
    have c0 : wr.cell? ⟨w.heap.size, 0, none⟩ = some (.int .u64 S.1) := hbk.at_ rfl
    have c1 : wr.cell? ⟨w.heap.size, 1, none⟩ = some (.int .u64 S.2.1) := hbk.at_ rfl
    have c2 : wr.cell? ⟨w.heap.size, 2, none⟩ = some (.int .u64 S.2.2.1) := hbk.at_ rfl
    have c3 : wr.cell? ⟨w.heap.size, 3, none⟩ = some (.int .u64 S.2.2.2) := hbk.at_ rfl
    have f0 := hb0.fr 0
    have f1 := hb0.fr 1
    have f2 := hb0.fr 2
    have f3 := hb0.fr 3
    have z0 := hb0.at_ (i := 0) (v := .int .u64 0) rfl
    have z1 := hb0.at_ (i := 1) (v := .int .u64 0) rfl
    have z2 := hb0.at_ (i := 2) (v := .int .u64 0) rfl
    have z3 := hb0.at_ (i := 3) (v := .int .u64 0) rfl
    have HP := Lib.hid ((((hb0.put 0 (.int .u64 S.1)).put 1 (.int .u64 S.2.1)).put 2 (.int .u64 S.2.2.1)).put 3 (.int .u64 S.2.2.2))
    have HB3 := Lib.hid hbe
    clear hbk hb0 hbe hS hk hP4
    go_wp2_with fail
    have e0 := HP.out.at_ (i := 0) (v := .int .u64 S.1) rfl
    have e1 := HP.out.at_ (i := 1) (v := .int .u64 S.2.1) rfl
    have e2 := HP.out.at_ (i := 2) (v := .int .u64 S.2.2.1) rfl
    have e3 := HP.out.at_ (i := 3) (v := .int .u64 S.2.2.2) rfl
    refine bodyPost_ret (v := .agg (fcells S)) (by simp [results, Tryz.f74, go_sem, e0, e1, e2, e3]) rfl ⟨by rw [HSS.out], below_set (below_set (below_set (below_set HB3.out _ _ _ (by omega)) _ _ _ (by omega)) _ _ _ (by omega)) _ _ _ (by omega)⟩
theorem refSum_any (s : List UInt8) (hl : s.length ≤ 100000) (w : World) : Calls Tryz.prog 47 #[str s] w fun e w' => e = .returned (.agg (fcells (fsum s))) ∧ Below w.heap.size w w' := by
 obtain ⟨w2, hw2⟩ : ∃ z, w.alloc (.cells #[.int .u64 0, .int .u64 0, .int .u64 0, .int .u64 0] 29) = z := ⟨_, rfl⟩
 have B2 : Blk w2 w.heap.size 29 #[.int .u64 0, .int .u64 0, .int .u64 0, .int .u64 0] := by rw [← hw2]; exact Blk.new _ _ _
 have D2 : Below w.heap.size w w2 := by rw [← hw2]; exact keep_alloc (Below.refl _ _) _
 have HB2 := Lib.hid B2
 have HD2 := Lib.hid D2
 have HW2 := Lib.hid hw2
 have HM := Lib.hid (refMore_any (0, 0, 0, 0) s hl w2)
 clear B2 D2 hw2
 go_enter Tryz.func47, Tryz.ntmps47
 go_wp2_with fail
 rw [HW2.out]
 refine HM.out.mono ?_
 rintro e w3 ⟨rfl, hb3⟩
 have h2 := HB2.out.below hb3 HB2.out.lt
 obtain ⟨S, hS⟩ : ∃ S, (wordsL s).foldl fstep (0, 0, 0, 0) = S := ⟨_, rfl⟩
 have hF : fsum s = S := hS
 have HF := Lib.hid hF
 have f0 := h2.fr 0
 have f1 := h2.fr 1
 have f2 := h2.fr 2
 have f3 := h2.fr 3
 have z0 := h2.at_ (i := 0) (v := .int .u64 0) rfl
 have z1 := h2.at_ (i := 1) (v := .int .u64 0) rfl
 have z2 := h2.at_ (i := 2) (v := .int .u64 0) rfl
 have z3 := h2.at_ (i := 3) (v := .int .u64 0) rfl
 have HP := Lib.hid ((((h2.put 0 (.int .u64 S.1)).put 1 (.int .u64 S.2.1)).put 2 (.int .u64 S.2.2.1)).put 3 (.int .u64 S.2.2.2))
 have HB3 := Lib.hid (keep_below hb3 HD2.out)
 rw [hS]
 clear hb3 h2 hF hS
 go_wp2_with fail
 have e0 := HP.out.at_ (i := 0) (v := .int .u64 S.1) rfl
 have e1 := HP.out.at_ (i := 1) (v := .int .u64 S.2.1) rfl
 have e2 := HP.out.at_ (i := 2) (v := .int .u64 S.2.2.1) rfl
 have e3 := HP.out.at_ (i := 3) (v := .int .u64 S.2.2.2) rfl
 refine bodyPost_ret (v := .agg (fcells S)) (by simp [results, Tryz.f47, go_sem, e0, e1, e2, e3]) rfl ⟨by rw [HF.out], below_set (below_set (below_set (below_set HB3.out _ _ _ (Nat.le_refl _)) _ _ _ (Nat.le_refl _)) _ _ _ (Nat.le_refl _)) _ _ _ (Nat.le_refl _)⟩
end Go.Proofs.YtbhkbcpljakmjaaGreat

namespace Go.Proofs.YtbhkbcpljakmjaaGreat
set_option linter.unusedVariables false
set_option linter.unusedSimpArgs false
open Go.RowKit
def runC (S : List (Bool × Int)) (i k : Nat) : Bool := match S[i + 1 + k]?, S[i]? with
 | some y, some x => y.2 == x.2 && !y.1
 | _, _ => false
def runLen (S : List (Bool × Int)) (i : Nat) : Nat := ((List.range 9).takeWhile (runC S i)).length
def rowS' (S : List (Bool × Int)) (r : Int) : List Nat := (List.range S.length).filter fun j => match S[j]? with
 | some y => y.2 == r && !y.1
 | none => false
theorem run_ok : ∀ w ∈ List.range 9, ∀ s ∈ List.range 5, 3 ≤ w → 0 < s → ((List.range 9).all fun i => match ((parTo 0 w 0 s).map (·.2.2))[i]? with
 | some x => !x.1 || (decide (0 < runLen ((parTo 0 w 0 s).map (·.2.2)) i) && (rowS' ((parTo 0 w 0 s).map (·.2.2)) x.2 == (List.range (runLen ((parTo 0 w 0 s).map (·.2.2)) i)).map (fun k => i + 1 + k)) && (List.range (runLen ((parTo 0 w 0 s).map (·.2.2)) i)).all (runC ((parTo 0 w 0 s).map (·.2.2)) i) && !runC ((parTo 0 w 0 s).map (·.2.2)) i (runLen ((parTo 0 w 0 s).map (·.2.2)) i))
 | none => true) = true := by decide +kernel
theorem run_of {gs : List (Int × Int)} {secs pg pa size : Int} (h : cMay gs secs pg pa size = true) (hk : (grAt gs pg).1 ≠ 0) {i : Nat} (hi : i < (colsOf gs secs pg pa size).length) (hp : ((colsOf gs secs pg pa size).getD i (0, 0, false, 0)).2.2.1 = true) :
 ∃ m : Nat, 0 < m ∧ rowIx (colsOf gs secs pg pa size) ((colsOf gs secs pg pa size).getD i (0, 0, false, 0)).2.2.2 = (List.range m).map (fun k => i + 1 + k) ∧
   (∀ k, k < m → i + 1 + k < (colsOf gs secs pg pa size).length ∧ ((colsOf gs secs pg pa size).getD (i + 1 + k) (0, 0, false, 0)).2.2.2 = ((colsOf gs secs pg pa size).getD i (0, 0, false, 0)).2.2.2 ∧ ((colsOf gs secs pg pa size).getD (i + 1 + k) (0, 0, false, 0)).2.2.1 = false) ∧
   (i + 1 + m < (colsOf gs secs pg pa size).length → ¬ (((colsOf gs secs pg pa size).getD (i + 1 + m) (0, 0, false, 0)).2.2.2 = ((colsOf gs secs pg pa size).getD i (0, 0, false, 0)).2.2.2 ∧ ((colsOf gs secs pg pa size).getD (i + 1 + m) (0, 0, false, 0)).2.2.1 = false)) := by
 obtain ⟨hhas, hz1, hz2, hp1, hp2, _⟩ := cMay_true h
 obtain ⟨sz, rfl⟩ := Int.eq_ofNat_of_zero_le (show 0 ≤ size by omega)
 obtain ⟨g, x, rfl, _, hl4, hs1, hs2, hx, hgx, ho⟩ := gHas_true hhas
 obtain ⟨kd, wd⟩ := x
 rw [hgx] at hk
 have ho' := gOne_true ho
 simp only at ho' hk
 obtain ⟨w, rfl⟩ := Int.eq_ofNat_of_zero_le (show 0 ≤ wd by omega)
 rcases ho' with ⟨rfl, _, _⟩ | ⟨rfl, h1, h2⟩
 · exact absurd rfl hk
 have hL : colsOf gs secs g pa sz = parTo (gFirst gs secs g) w pa sz := by unfold colsOf; rw [hgx]; rfl
 rw [hL] at hi hp ⊢
 have hlen := parTo_len (gFirst gs secs g) w pa sz
 have hsh := parTo_shape (gFirst gs secs g) w pa sz
 have key := run_ok w (by simp; omega) sz (by simp; omega) (by omega) (by omega)
 rw [← hsh] at key
 generalize parTo (gFirst gs secs g) w pa sz = L at *
 have hat : ∀ j, j < L.length → (L.map (·.2.2))[j]? = some (L.getD j (0, 0, false, 0)).2.2 := fun j hj => by rw [List.getElem?_map, colD_in hj]; rfl
 have hrow : ∀ r, rowS' (L.map (·.2.2)) r = rowIx L r := fun r => by
  unfold rowS' rowIx
  rw [List.length_map]
  apply List.filter_congr
  intro j hj
  have hj := List.mem_range.1 hj
  rw [hat j hj, colD_in hj]
  simp only
  congr 1
 have k1 := List.all_eq_true.1 key i (List.mem_range.2 (by omega))
 rw [hat i hi] at k1
 simp only [hp, Bool.not_true, Bool.false_or, Bool.and_eq_true, decide_eq_true_eq, beq_iff_eq, List.all_eq_true, Bool.not_eq_true', hrow] at k1
 obtain ⟨⟨⟨a1, a2⟩, a3⟩, a4⟩ := k1
 refine ⟨_, a1, a2, fun k hk2 => ?_, fun hlt hcon => ?_⟩
 · have := a3 k (List.mem_range.2 hk2)
   unfold runC at this
   rw [hat i hi] at this
   by_cases hl : i + 1 + k < L.length
   · rw [hat _ hl] at this
     simp only [Bool.and_eq_true, beq_iff_eq, Bool.not_eq_true'] at this
     exact ⟨hl, this.1, this.2⟩
   · rw [List.getElem?_eq_none (by rw [List.length_map]; omega)] at this
     cases this
 · unfold runC at a4
   rw [hat i hi, hat _ hlt] at a4
   simp only [Bool.and_eq_false_imp, beq_iff_eq, Bool.not_eq_false'] at a4
   have := a4 hcon.1
   rw [hcon.2] at this
   cases this
end Go.Proofs.YtbhkbcpljakmjaaGreat

namespace Go.Proofs.YtbhkbcpljakmjaaGreat
set_option linter.unusedVariables false
set_option linter.unusedSimpArgs false
open Go.RowKit
theorem dataCnt_run {L : List Col} {i : Nat} (hi : i < L.length) (hp : (L.getD i (0, 0, false, 0)).2.2.1 = true) : ∀ k, (∀ j, j < k → i + 1 + j < L.length ∧ (L.getD (i + 1 + j) (0, 0, false, 0)).2.2.1 = false) → dataCnt L (i + 1 + k) = dataCnt L i + k
 | 0, _ => by rw [Nat.add_zero, dataCnt_succ (colD_in hi), hp, Nat.add_zero]; rfl
 | k + 1, h => by
   obtain ⟨h1, h2⟩ := h k (by omega)
   rw [← Nat.add_assoc, dataCnt_succ (colD_in h1), h2, dataCnt_run hi hp k (fun j hj => h j (by omega))]
   simp
   omega
theorem dataCnt_mono (L : List Col) {i j : Nat} (h : i ≤ j) : dataCnt L i ≤ dataCnt L j := by
 unfold dataCnt
 obtain ⟨r, rfl⟩ := Nat.exists_eq_add_of_le h
 rw [List.take_add, List.filter_append, List.length_append]
 omega
section
variable {gs : List (Int × Int)} {secs pg pa : Int} {s : List UInt8}
theorem enc_run (h : cMay gs secs pg pa (secN s) = true) {i : Nat} (hi : i < (colsOf gs secs pg pa (secN s)).length) (hp : ((colsOf gs secs pg pa (secN s)).getD i (0, 0, false, 0)).2.2.1 = true) :
 ∃ m : Nat, 0 < m ∧ dataCnt (colsOf gs secs pg pa (secN s)) i + m ≤ secN s ∧ (encL gs secs pg pa s).getD i [] = makeS ((List.range m).map fun k => secAt s (dataCnt (colsOf gs secs pg pa (secN s)) i + k)) ∧
   (∀ k, k < m → i + 1 + k < (colsOf gs secs pg pa (secN s)).length ∧ ((colsOf gs secs pg pa (secN s)).getD (i + 1 + k) (0, 0, false, 0)).2.2.2 = ((colsOf gs secs pg pa (secN s)).getD i (0, 0, false, 0)).2.2.2 ∧ ((colsOf gs secs pg pa (secN s)).getD (i + 1 + k) (0, 0, false, 0)).2.2.1 = false) ∧
   (i + 1 + m < (colsOf gs secs pg pa (secN s)).length → ¬ (((colsOf gs secs pg pa (secN s)).getD (i + 1 + m) (0, 0, false, 0)).2.2.2 = ((colsOf gs secs pg pa (secN s)).getD i (0, 0, false, 0)).2.2.2 ∧ ((colsOf gs secs pg pa (secN s)).getD (i + 1 + m) (0, 0, false, 0)).2.2.1 = false)) := by
 have hk : (grAt gs pg).1 ≠ 0 := fun e => by
  have := (mirL_of h e).dat i hi
  rw [hp] at this
  cases this
 obtain ⟨m, h1, h2, h3, h4⟩ := run_of h hk hi hp
 have hP := parL_of h hk
 have hcnt : dataCnt (colsOf gs secs pg pa (secN s)) (colsOf gs secs pg pa (secN s)).length = secN s := by
  unfold dataCnt
  rw [List.take_length, hP.cnt, Int.toNat_natCast]
 have hrun : ∀ k, k ≤ m → dataCnt (colsOf gs secs pg pa (secN s)) (i + 1 + k) = dataCnt (colsOf gs secs pg pa (secN s)) i + k := fun k hk2 => dataCnt_run hi hp k fun j hj => ⟨(h3 j (by omega)).1, (h3 j (by omega)).2.2⟩
 have hle : dataCnt (colsOf gs secs pg pa (secN s)) i + m ≤ secN s := by
  have h5 := (h3 (m - 1) (by omega)).1
  have h6 := dataCnt_mono (colsOf gs secs pg pa (secN s)) (show i + 1 + m ≤ (colsOf gs secs pg pa (secN s)).length by omega)
  rw [hrun m (Nat.le_refl _), hcnt] at h6
  exact h6
 refine ⟨m, h1, hle, ?_, h3, h4⟩
 rw [encL_get (ofList_may h) hi, outE_par (colD_in hi) hp, h2, List.map_map]
 congr 1
 apply List.map_congr_left
 intro k hk2
 have hk2 := List.mem_range.1 hk2
 obtain ⟨a1, a2, a3⟩ := h3 k hk2
 show outD _ _ (i + 1 + k) = _
 rw [outD_data (colD_in a1) a3, secsL_len, hrun k (by omega), Nat.mod_eq_of_lt (by omega), List.getD_eq_getElem?_getD, secsL_at (by omega)]
 rfl
theorem enc_sec (h : cMay gs secs pg pa (secN s) = true) (hs : secOk s = true) {i : Nat} (hi : i < (colsOf gs secs pg pa (secN s)).length) (hd : ((colsOf gs secs pg pa (secN s)).getD i (0, 0, false, 0)).2.2.1 = false) :
 (encL gs secs pg pa s).getD i [] = secAt s (dataCnt (colsOf gs secs pg pa (secN s)) i % secN s) := by
 rw [enc_data h hi hd, List.getD_eq_getElem?_getD, secsL_at (Nat.mod_lt _ (secN_pos hs))]
 rfl
end
theorem take_get {T : List (List UInt8)} {i : Nat} (hi : i < T.length) : T.take (i + 1) = T.take i ++ [T.getD i []] := by
 rw [List.take_add_one, List.getElem?_eq_getElem hi, List.getD_eq_getElem?_getD, List.getElem?_eq_getElem hi]
 rfl
theorem sec_slice (s : List UInt8) (W : World) (j : Nat) (hj : j * 64 + 64 ≤ s.length) (a b : Int) (ha : a = j * 64) (hb : b = j * 64 + 64) : (Instr.slice 9 (str s) (some (.int .i64 a)) (some (.int .i64 b)) none).run Tryz.prog W = .ok (str (secAt s j)) W := by
 subst ha hb
 have := run_slice_string (P := Tryz.prog) W 9 (ByteArray.mk s.toArray) .i64 .i64 ((j : Int) * 64) ((j : Int) * 64 + 64) Tryz.underlying9 (by omega) (by omega) (by simp [ByteArray.size]; omega)
 rw [this]
 have e1 : ((j : Int) * 64).toNat = j * 64 := by omega
 have e2 : ((j : Int) * 64 + 64).toNat = j * 64 + 64 := by omega
 have e3 : (ByteArray.mk s.toArray).extract (j * 64) (j * 64 + 64) = ⟨(secAt s j).toArray⟩ := by
  apply ByteArray.ext
  have h6 : (j * 64 + 64) - j * 64 = 64 := by omega
  simp only [secAt, ByteArray.data_extract, List.extract_toArray, List.extract_eq_take_drop, h6]
 rw [e1, e2, e3]
set_option maxRecDepth 20000 in
set_option maxHeartbeats 2000000 in
theorem refEncode_any (A : Option Addr) (m cc : Nat) (gs : List (Int × Int)) (secs pg pa : Int) (s : List UInt8) {w : World} (hg : GeoAt w A m gs) (hp : cMay gs secs pg pa (secN s) = true) (hs : secOk s = true) :
 Calls Tryz.prog 24 #[.agg #[.slice A m cc, .int .i64 secs], .agg #[.int .i64 pg, .int .i64 pa], str s] w fun e w' => ∃ v, e = .returned v ∧
  SlAt w' v (encL gs secs pg pa s).length (strC (encL gs secs pg pa s)) ∧ Below w.heap.size w w' := by
 obtain ⟨i0, hi, hz0, hz1, hz2⟩ := info_parts Tryz.infoStr
 obtain ⟨w2, hw2⟩ : ∃ z, (w.alloc (.cells #[.slice A m cc, .int .i64 secs] 24)).alloc (.cells #[.int .i64 pg, .int .i64 pa] 26) = z := ⟨_, rfl⟩
 have D2 : Below w.heap.size w w2 := by rw [← hw2]; exact keep_alloc (keep_alloc (Below.refl _ _) _) _
 have HO := Lib.hid (refOf_any A m cc gs secs pg pa (secN s) w2 (hg.below D2 (Nat.le_refl _)) hp)
 have HD2 := Lib.hid D2
 have HW2 := Lib.hid hw2
 obtain ⟨hs1, hs2, hs3⟩ := secOk_parts hs
 have hsp := secN_pos hs
 have hlenT := (enc_encL (s := s) hp).len
 have h64 := (enc_encL (s := s) hp).all64
 have hO64 := ofList_le gs secs pg pa (secN s)
 rw [ofList_may hp] at hO64
 have hrun := fun i (hi : i < (colsOf gs secs pg pa (secN s)).length) h => enc_run (s := s) hp hi h
 have hsec := fun i (hi : i < (colsOf gs secs pg pa (secN s)).length) h => enc_sec (s := s) hp hs hi h
 have hsn : secN s ≤ 4 ∧ s.length = secN s * 64 := by unfold secN; omega
 obtain ⟨T, hT⟩ : ∃ T, encL gs secs pg pa s = T := ⟨_, rfl⟩
 obtain ⟨L, hL⟩ : ∃ L, colsOf gs secs pg pa (secN s) = L := ⟨_, rfl⟩
 obtain ⟨sn, hsnd⟩ : ∃ sn, secN s = sn := ⟨_, rfl⟩
 have hq : Int.tdiv (s.length : Int) 64 = (sn : Int) := by rw [← hsnd]; rfl
 rw [hT, hL] at hlenT hrun hsec h64
 rw [hL] at HO hO64
 rw [hsnd] at hsn hsp hrun hsec
 rw [hT]
 have HRUN := Lib.hid (And.intro hrun hsec)
 have HT := Lib.hid (And.intro hlenT h64)
 have HSN := Lib.hid hsn
 have hsn4 := hsn.1
 clear hg hp hs D2 hw2 hs1 hs2 hs3 hlenT h64 hrun hsec hsn hT hL
 rw [hsnd] at HO
 clear hsnd
 go_enter Tryz.func24, Tryz.ntmps24
 go_wp2_with fail
 rw [HW2.out]
 refine HO.out.mono ?_
 rintro e w3 ⟨cv, rfl, hown, hb3⟩
 have HB3 := Lib.hid (keep_below hb3 HD2.out)
 have HC := Lib.hid (slAt_own hown)
 obtain ⟨Ac, c3, rfl⟩ := HC.out.form
 clear hown hb3
 go_wp2_with fail
 go_loopw [8, 9, 10] (fun v nv t wr => ∃ i : Nat, i ≤ L.length ∧ t = .int .i64 i ∧ nv = .int .i64 (dataCnt L i : Nat) ∧ wr.ownsRow w3.heap.size 9 1 v i (strC (T.take i)) ∧ Below w3.heap.size w3 wr) (fun _ _ t _ => L.length - (RowKit.intOf t).toNat)
 case atStart => exact ⟨0, Nat.zero_le _, rfl, rfl, World.ownsRow_nil _ _ _ _, Below.refl _ _⟩
 case round =>
  obtain ⟨i, hi2, rfl, rfl, hown, hb⟩ := hrel
  have HB := Lib.hid hb
  have HOWN := Lib.hid hown
  obtain ⟨n, hn⟩ : ∃ n, dataCnt L i = n := ⟨_, rfl⟩
  have hnl := dataCnt_le L i
  rw [hn] at hnl
  rw [hn]
  by_cases hlt : i < L.length
  · have hx := colD_in hlt
    have hst := dataCnt_succ hx
    rw [hn] at hst
    obtain ⟨x, hxd⟩ : ∃ x, L.getD i (0, 0, false, 0) = x := ⟨_, rfl⟩
    rw [hxd] at hx hst
    obtain ⟨bc, oc, rfl, hbc, hcc⟩ := HC.out.cells (by omega)
    have q2 := keepc (hcc _ _ (colsCells_at hx).2.2.1) hb
    have q3 := keepc (hcc _ _ (colsCells_at hx).2.2.2) hb
    rw [← Nat.add_assoc] at q2 q3
    have hd1 : decide (i < L.length) = true := decide_eq_true hlt
    have htk := take_get (T := T) (i := i) (by rw [HT.out.1]; exact hlt)
    have HIL := Lib.hid hlt
    cases hpr : x.2.2.1 with
    | false =>
     have hse := HRUN.out.2 i hlt (by rw [hxd]; exact hpr)
     rw [hn] at hse
     rw [hse] at htk
     rw [hpr] at q2 hst
     have hmod : n % sn < sn := Nat.mod_lt _ hsp
     obtain ⟨a, ha⟩ : ∃ a, n % sn = a := ⟨_, rfl⟩
     rw [ha] at hmod htk
     have hm1 : (n : Int) % (sn : Int) = (a : Int) := by rw [← ha]; rfl
     have hsl := fun W => sec_slice s W a (by have := HSN.out.2; have : a * 64 + 64 ≤ sn * 64 := by { have := Nat.mul_le_mul_right 64 hmod; rw [Nat.succ_mul] at this; exact this }; omega) (64 * (a : Int)) (64 * (a : Int) + 64) (by omega) (by omega)
     have HTK := Lib.hid htk
     have HST : Hid (dataCnt L (i + 1) = n + 1) := Lib.hid (by rw [hst]; rfl)
     obtain ⟨ta, hta⟩ : ∃ ta, secAt s a = ta := ⟨_, rfl⟩
     rw [hta] at hsl HTK
     clear hcc hbc hx hxd hb hown hn hst hse htk ha hta q3
     go_wp2_with (at_builtin; refine wpList_append_own _ rfl _ _ 60 rfl w3.heap.size 9 i0 _ 1 16 Tryz.underlying60 hi hz0 hz1 hz2 rfl (by decide) _ _ _ rfl (HOWN.out.alloc _) ⟨wr.heap.size, 0, none⟩ 1 1 [str ta] rfl rfl ?c1 ?c2 (by unfold maxLen; omega) (by omega) ?c5 ?_)
     try (case c1 => exact one_new' _ _ _)
     case c2 => first | rfl | (intro u hu; simp at hu; subst hu; rfl)
     case c5 => have := HB.out.size; simp; omega
     intro v' w5 hown' hgrow _
     have hown5 : w5.ownsRow w3.heap.size 9 1 v' (i + 1) (strC (T.take (i + 1))) := by
      rw [HTK.out, strC_snoc]
      exact hown'
     have hb5 : Below w3.heap.size w3 w5 := (HB.out.alloc HB.out.size _).grown hgrow (by have := HB.out.size; simp; omega) (fun k hk => (HOWN.out.lt k hk).1)
     have HO5 := Lib.hid hown5
     have HB5 := Lib.hid hb5
     clear hown' hgrow hown5 hb5
     go_wp2_with fail
     go_roundw
     case rel => exact ⟨i + 1, HIL.out, by go_num, by rw [HST.out]; go_num, HO5.out, HB5.out⟩
     case measure => have := HIL.out; simp [RowKit.intOf]; omega
    | true =>
     obtain ⟨mm, hm0, hmle, hTi, hin, hout⟩ := HRUN.out.1 i hlt (by rw [hxd]; exact hpr)
     rw [hn] at hmle hTi
     rw [hxd] at hin hout
     rw [hTi] at htk
     rw [hpr] at q2 hst
     obtain ⟨no, hno⟩ : ∃ no, x.2.2.2 = no := ⟨_, rfl⟩
     rw [hno] at q3 hin hout
     have HST : Hid (dataCnt L (i + 1) = n) := Lib.hid hst
     have HTK := Lib.hid htk
     have HIN := Lib.hid (And.intro hin hout)
     have HC3 := Lib.hid (And.intro hbc hcc)
     have HM := Lib.hid (And.intro hm0 hmle)
     have HQ3 := Lib.hid q3
     rename World => wq
     clear hcc hbc hx hxd hb hown hn hst htk hTi hin hout hno hm0 q3
     go_wp2_with fail
     go_loopw [11, 12] (fun v t wr => ∃ k : Nat, k ≤ mm ∧ t = .int .i64 k ∧ wr.ownsRow wq.heap.size 9 1 v k (strC ((List.range k).map fun k => secAt s (n + k))) ∧ Below wq.heap.size wq wr) (fun _ t _ => mm - (RowKit.intOf t).toNat)
     case atStart => exact ⟨0, Nat.zero_le _, rfl, World.ownsRow_nil _ _ _ _, Below.refl _ _⟩
     case round =>
      obtain ⟨k, hk, rfl, hownk, hbk⟩ := hrel
      have HBK := Lib.hid hbk
      have HOK := Lib.hid hownk
      have hO64' := hO64
      by_cases hkm : k < mm
      · obtain ⟨a1, a2, a3⟩ := HIN.out.1 k hkm
        have hy := colD_in a1
        obtain ⟨y, hyd⟩ : ∃ y, L.getD (i + 1 + k) (0, 0, false, 0) = y := ⟨_, rfl⟩
        rw [hyd] at hy a2 a3
        have r2 := keepc (keepc (HC3.out.2 _ _ (colsCells_at hy).2.2.1) HB.out) hbk
        have r3 := keepc (keepc (HC3.out.2 _ _ (colsCells_at hy).2.2.2) HB.out) hbk
        rw [← Nat.add_assoc] at r2 r3
        rw [a3] at r2
        rw [a2] at r3
        have r4 := keepc HQ3.out hbk
        obtain ⟨C, hCd, hCw, hCB, hCK, hCD⟩ := cls_below wr
        have f2 : ∀ W, C W → W.cell? ⟨bc, oc + (i + 1 + k) * 4 + 2, none⟩ = some (.bool false) := fun W h => keepc r2 (hCB W h)
        have f3 : ∀ W, C W → W.cell? ⟨bc, oc + (i + 1 + k) * 4 + 3, none⟩ = some (.int .i64 no) := fun W h => keepc r3 (hCB W h)
        have f4 : ∀ W, C W → W.cell? ⟨bc, oc + i * 4 + 3, none⟩ = some (.int .i64 no) := fun W h => keepc r4 (hCB W h)
        have hd2 : decide (i + 1 + k < L.length) = true := decide_eq_true a1
        have hd3 : decide ((i : Int) + 1 + k < L.length) = true := decide_eq_true (by omega)
        have HKM := Lib.hid hkm
        clear hownk hbk hy hyd r2 r3 r4 hCw hCK hCD a2 a3
        go_wp2_with fail
        refine wp_region_cls C (by kernel_rfl) (by kernel_rfl) hCd ?_
        repeat (first | go_big_quiet_skip | (go_big_quiet_want; go_big_quiet_op; first | go_big_quiet_on | (apply Exists.intro; refine ⟨fun W hW => ?_, ?_⟩; (focus ((first | exact rfl | exact ⟨rfl, rfl⟩ | (simp only [f2 W hW, f3 W hW, f4 W hW, Result.andThen_ok]; first | done | exact ⟨trivial, rfl⟩ | exact rfl | exact ⟨rfl, rfl⟩) | (skip)); done)); go_big_quiet_on)))
        refine wpQuiet_nil ?_
        intro wz hwz
        have HBZ := Lib.hid (keep_below (hCB wz hwz) HBK.out)
        have HOZ : Hid (wz.ownsRow wq.heap.size 9 1 u11 k (strC ((List.range k).map fun k => secAt s (n + k)))) := Lib.hid (ownsRow_same HOK.out (fun b hb => (hCB wz hwz).block b (HOK.out.lt b hb).2))
        have hnk : (n + k) * 64 + 64 ≤ s.length := by
         have h1 := HM.out.2
         have h2 := HKM.out
         have h3 : (n + k + 1) * 64 ≤ sn * 64 := Nat.mul_le_mul_right 64 (by omega)
         have := HSN.out.2
         omega
        have hsl := fun W => sec_slice s W (n + k) hnk (64 * ((n : Int) + (k : Int))) (64 * ((n : Int) + (k : Int) + 1)) (by omega) (by omega)
        obtain ⟨ta, hta⟩ : ∃ ta, secAt s (n + k) = ta := ⟨_, rfl⟩
        rw [hta] at hsl
        have HTA : Hid ((List.range (k + 1)).map (fun k => secAt s (n + k)) = (List.range k).map (fun k => secAt s (n + k)) ++ [ta]) := Lib.hid (by rw [List.range_succ, List.map_append, ← hta]; rfl)
        obtain ⟨P, hP⟩ : ∃ P, (List.range k).map (fun k => secAt s (n + k)) = P := ⟨_, rfl⟩
        rw [hP] at HOZ HTA
        have hn64 : n ≤ 4 ∧ k ≤ 4 := by have := HM.out.2; have := HKM.out; omega
        obtain ⟨hn4, hk4⟩ := hn64
        clear f2 f3 f4 hCd hCB hwz hta hP hnk HOK
        go_wp2_with (at_builtin; refine wpList_append_own _ rfl _ _ 60 rfl wq.heap.size 9 i0 _ 1 16 Tryz.underlying60 hi hz0 hz1 hz2 rfl (by decide) _ _ _ rfl (HOZ.out.alloc _) ⟨wz.heap.size, 0, none⟩ 1 1 [str ta] rfl rfl ?d1 ?d2 (by unfold maxLen; omega) (by omega) ?d5 ?_)
        try (case d1 => exact one_new' _ _ _)
        case d2 => first | rfl | (intro u hu; simp at hu; subst hu; rfl)
        case d5 => have := HBZ.out.size; simp; omega
        intro v' w8 hown' hgrow _
        have hown8 : w8.ownsRow wq.heap.size 9 1 v' (k + 1) (strC ((List.range (k + 1)).map fun k => secAt s (n + k))) := by
         rw [HTA.out, strC_snoc]
         exact hown'
        have hb8 : Below wq.heap.size wq w8 := (HBZ.out.alloc HBZ.out.size _).grown hgrow (by have := HBZ.out.size; simp; omega) (fun k hk => (HOZ.out.lt k hk).1)
        have HO8 := Lib.hid hown8
        have HB8 := Lib.hid hb8
        clear hown' hgrow hown8 hb8
        go_wp2_with fail
        go_roundw
        case rel => exact ⟨k + 1, HKM.out, by go_num, HO8.out, HB8.out⟩
        case measure => have := HKM.out; simp [RowKit.intOf]; omega
      · obtain rfl : k = mm := by omega
        have hk4 : k ≤ 4 := by have := HM.out.2; omega
        obtain ⟨PL, hPL⟩ : ∃ PL, (List.range k).map (fun k => secAt s (n + k)) = PL := ⟨_, rfl⟩
        have hPLl : PL.length = k := by rw [← hPL]; simp
        have hPL64 : ∀ t ∈ PL, t.length = 64 := fun t ht => by
         rw [← hPL] at ht
         obtain ⟨j, hj, rfl⟩ := List.mem_map.1 ht
         have hj := List.mem_range.1 hj
         have h1 := HM.out.2
         have h3 : (n + j + 1) * 64 ≤ sn * 64 := Nat.mul_le_mul_right 64 (by omega)
         have h4 := HSN.out.2
         unfold secAt
         rw [List.length_take, List.length_drop]
         omega
        rw [hPL] at hownk
        have HTK2 : Hid (T.take (i + 1) = T.take i ++ [makeS PL]) := Lib.hid (by rw [HTK.out, hPL])
        have HPP := Lib.hid (And.intro hPLl hPL64)
        have HOK := Lib.hid hownk
        have r4 := keepc HQ3.out hbk
        obtain ⟨C, hCd, hCw, hCB, hCK, hCD⟩ := cls_below wr
        have f4 : ∀ W, C W → W.cell? ⟨bc, oc + i * 4 + 3, none⟩ = some (.int .i64 no) := fun W h => keepc r4 (hCB W h)
        by_cases hlast : i + 1 + k < L.length
        · have hy := colD_in hlast
          have hno := HIN.out.2 hlast
          obtain ⟨y, hyd⟩ : ∃ y, L.getD (i + 1 + k) (0, 0, false, 0) = y := ⟨_, rfl⟩
          rw [hyd] at hy hno
          have r2 := keepc (keepc (HC3.out.2 _ _ (colsCells_at hy).2.2.1) HB.out) hbk
          have r3 := keepc (keepc (HC3.out.2 _ _ (colsCells_at hy).2.2.2) HB.out) hbk
          rw [← Nat.add_assoc] at r2 r3
          have f2 : ∀ W, C W → W.cell? ⟨bc, oc + (i + 1 + k) * 4 + 2, none⟩ = some (.bool y.2.2.1) := fun W h => keepc r2 (hCB W h)
          have f3 : ∀ W, C W → W.cell? ⟨bc, oc + (i + 1 + k) * 4 + 3, none⟩ = some (.int .i64 y.2.2.2) := fun W h => keepc r3 (hCB W h)
          have hd2 : decide (i + 1 + k < L.length) = true := decide_eq_true hlast
          have hd3 : decide ((i : Int) + 1 + k < L.length) = true := decide_eq_true (by omega)
          clear hy hyd r2 r3 r4 hCw hCK hCD hownk hbk hPL hPLl hPL64
          cases hbe : (y.2.2.2 == no) with
          | false =>
           clear hno
           go_wp2_with fail
           refine wp_region_cls C (by kernel_rfl) (by kernel_rfl) hCd ?_
           repeat (first | go_big_quiet_skip | (go_big_quiet_want; go_big_quiet_op; first | go_big_quiet_on | (apply Exists.intro; refine ⟨fun W hW => ?_, ?_⟩; (focus ((first | exact rfl | exact ⟨rfl, rfl⟩ | (simp only [f2 W hW, f3 W hW, f4 W hW, Result.andThen_ok]; first | done | exact ⟨trivial, rfl⟩ | exact rfl | exact ⟨rfl, rfl⟩) | (skip)); done)); go_big_quiet_on)))
           refine wpQuiet_nil ?_
           intro wz hwz
           have HBZ := Lib.hid (keep_below (hCB wz hwz) HBK.out)
           have HOZ := Lib.hid (ownsRow_same HOK.out (fun b hb => (hCB wz hwz).block b (HOK.out.lt b hb).2))
           clear f2 f3 f4 hCd hCB hwz
           have HXO := Lib.hid (refXor_any (w := wz) (l := PL) (n := 64) (by rw [HPP.out.1]; exact slAt_own HOZ.out) (fun e => by have h1 := HPP.out.1; have h2 := HM.out.1; rw [e] at h1; simp at h1; omega) HPP.out.2 (by decide) (by decide) (by rw [HPP.out.1]; omega))
           obtain ⟨Ap, cp, rfl⟩ := (slAt_own HOZ.out).form
           go_wp2_with fail
           refine HXO.out.mono ?_
           rintro e wy ⟨rfl, hby⟩
           have HBY := Lib.hid (HB.out.trans ((keep_below hby HBZ.out).mono HB.out.size))
           have HOY : Hid (wy.ownsRow w3.heap.size 9 1 u8 i (strC (T.take i))) := Lib.hid (ownsRow_same HOWN.out (fun b hb => (keep_below hby HBZ.out).block b (HOWN.out.lt b hb).2))
           obtain ⟨ta, hta⟩ : ∃ ta, makeS PL = ta := ⟨_, rfl⟩
           rw [hta] at HTK2
           rw [hta]
           clear hby hta
           go_wp2_with (at_builtin; refine wpList_append_own _ rfl _ _ 60 rfl w3.heap.size 9 i0 _ 1 16 Tryz.underlying60 hi hz0 hz1 hz2 rfl (by decide) _ _ _ rfl (HOY.out.alloc _) ⟨wy.heap.size, 0, none⟩ 1 1 [str ta] rfl rfl ?e1 ?e2 (by unfold maxLen; omega) (by omega) ?e5 ?_)
           try (case e1 => exact one_new' _ _ _)
           case e2 => first | rfl | (intro u hu; simp at hu; subst hu; rfl)
           case e5 => have := HBY.out.size; simp; omega
           intro v' w9 hown' hgrow _
           have hown9 : w9.ownsRow w3.heap.size 9 1 v' (i + 1) (strC (T.take (i + 1))) := by
            rw [HTK2.out, strC_snoc]
            exact hown'
           have hb9 : Below w3.heap.size w3 w9 := (HBY.out.alloc HBY.out.size _).grown hgrow (by have := HBY.out.size; simp; omega) (fun k hk => (HOY.out.lt k hk).1)
           have HO9 := Lib.hid hown9
           have HB9 := Lib.hid hb9
           clear hown' hgrow hown9 hb9
           go_wp2_with fail
           go_roundw
           case rel => exact ⟨i + 1, HIL.out, by go_num, by rw [HST.out], HO9.out, HB9.out⟩
           case measure => have := HIL.out; simp [RowKit.intOf]; omega
          | true =>
           have hyp : y.2.2.1 = true := by
            cases hp2 : y.2.2.1 with
            | true => rfl
            | false => exact absurd ⟨eq_of_beq hbe, hp2⟩ hno
           rw [hyp] at f2
           clear hno hyp
           go_wp2_with fail
           refine wp_region_cls C (by kernel_rfl) (by kernel_rfl) hCd ?_
           repeat (first | go_big_quiet_skip | (go_big_quiet_want; go_big_quiet_op; first | go_big_quiet_on | (apply Exists.intro; refine ⟨fun W hW => ?_, ?_⟩; (focus ((first | exact rfl | exact ⟨rfl, rfl⟩ | (simp only [f2 W hW, f3 W hW, f4 W hW, Result.andThen_ok]; first | done | exact ⟨trivial, rfl⟩ | exact rfl | exact ⟨rfl, rfl⟩) | (skip)); done)); go_big_quiet_on)))
           refine wpQuiet_nil ?_
           intro wz hwz
           have HBZ := Lib.hid (keep_below (hCB wz hwz) HBK.out)
           have HOZ := Lib.hid (ownsRow_same HOK.out (fun b hb => (hCB wz hwz).block b (HOK.out.lt b hb).2))
           clear f2 f3 f4 hCd hCB hwz
           have HXO := Lib.hid (refXor_any (w := wz) (l := PL) (n := 64) (by rw [HPP.out.1]; exact slAt_own HOZ.out) (fun e => by have h1 := HPP.out.1; have h2 := HM.out.1; rw [e] at h1; simp at h1; omega) HPP.out.2 (by decide) (by decide) (by rw [HPP.out.1]; omega))
           obtain ⟨Ap, cp, rfl⟩ := (slAt_own HOZ.out).form
           go_wp2_with fail
           refine HXO.out.mono ?_
           rintro e wy ⟨rfl, hby⟩
           have HBY := Lib.hid (HB.out.trans ((keep_below hby HBZ.out).mono HB.out.size))
           have HOY : Hid (wy.ownsRow w3.heap.size 9 1 u8 i (strC (T.take i))) := Lib.hid (ownsRow_same HOWN.out (fun b hb => (keep_below hby HBZ.out).block b (HOWN.out.lt b hb).2))
           obtain ⟨ta, hta⟩ : ∃ ta, makeS PL = ta := ⟨_, rfl⟩
           rw [hta] at HTK2
           rw [hta]
           clear hby hta
           go_wp2_with (at_builtin; refine wpList_append_own _ rfl _ _ 60 rfl w3.heap.size 9 i0 _ 1 16 Tryz.underlying60 hi hz0 hz1 hz2 rfl (by decide) _ _ _ rfl (HOY.out.alloc _) ⟨wy.heap.size, 0, none⟩ 1 1 [str ta] rfl rfl ?e1 ?e2 (by unfold maxLen; omega) (by omega) ?e5 ?_)
           try (case e1 => exact one_new' _ _ _)
           case e2 => first | rfl | (intro u hu; simp at hu; subst hu; rfl)
           case e5 => have := HBY.out.size; simp; omega
           intro v' w9 hown' hgrow _
           have hown9 : w9.ownsRow w3.heap.size 9 1 v' (i + 1) (strC (T.take (i + 1))) := by
            rw [HTK2.out, strC_snoc]
            exact hown'
           have hb9 : Below w3.heap.size w3 w9 := (HBY.out.alloc HBY.out.size _).grown hgrow (by have := HBY.out.size; simp; omega) (fun k hk => (HOY.out.lt k hk).1)
           have HO9 := Lib.hid hown9
           have HB9 := Lib.hid hb9
           clear hown' hgrow hown9 hb9
           go_wp2_with fail
           go_roundw
           case rel => exact ⟨i + 1, HIL.out, by go_num, by rw [HST.out], HO9.out, HB9.out⟩
           case measure => have := HIL.out; simp [RowKit.intOf]; omega
        · have hd2 : decide (i + 1 + k < L.length) = false := decide_eq_false hlast
          have hd3 : decide ((i : Int) + 1 + k < L.length) = false := decide_eq_false (by omega)
          clear r4 hCw hCK hCD hownk hbk hPL hPLl hPL64 hlast
          go_wp2_with fail
          refine wp_region_cls C (by kernel_rfl) (by kernel_rfl) hCd ?_
          repeat (first | go_big_quiet_skip | (go_big_quiet_want; go_big_quiet_op; first | go_big_quiet_on | (apply Exists.intro; refine ⟨fun W hW => ?_, ?_⟩; (focus ((first | exact rfl | exact ⟨rfl, rfl⟩ | (simp only [f4 W hW, Result.andThen_ok]; first | done | exact ⟨trivial, rfl⟩ | exact rfl | exact ⟨rfl, rfl⟩) | (skip)); done)); go_big_quiet_on)))
          refine wpQuiet_nil ?_
          intro wz hwz
          have HBZ := Lib.hid (keep_below (hCB wz hwz) HBK.out)
          have HOZ := Lib.hid (ownsRow_same HOK.out (fun b hb => (hCB wz hwz).block b (HOK.out.lt b hb).2))
          clear f4 hCd hCB hwz
          have HXO := Lib.hid (refXor_any (w := wz) (l := PL) (n := 64) (by rw [HPP.out.1]; exact slAt_own HOZ.out) (fun e => by have h1 := HPP.out.1; have h2 := HM.out.1; rw [e] at h1; simp at h1; omega) HPP.out.2 (by decide) (by decide) (by rw [HPP.out.1]; omega))
          obtain ⟨Ap, cp, rfl⟩ := (slAt_own HOZ.out).form
          go_wp2_with fail
          refine HXO.out.mono ?_
          rintro e wy ⟨rfl, hby⟩
          have HBY := Lib.hid (HB.out.trans ((keep_below hby HBZ.out).mono HB.out.size))
          have HOY : Hid (wy.ownsRow w3.heap.size 9 1 u8 i (strC (T.take i))) := Lib.hid (ownsRow_same HOWN.out (fun b hb => (keep_below hby HBZ.out).block b (HOWN.out.lt b hb).2))
          obtain ⟨ta, hta⟩ : ∃ ta, makeS PL = ta := ⟨_, rfl⟩
          rw [hta] at HTK2
          rw [hta]
          clear hby hta
          go_wp2_with (at_builtin; refine wpList_append_own _ rfl _ _ 60 rfl w3.heap.size 9 i0 _ 1 16 Tryz.underlying60 hi hz0 hz1 hz2 rfl (by decide) _ _ _ rfl (HOY.out.alloc _) ⟨wy.heap.size, 0, none⟩ 1 1 [str ta] rfl rfl ?e1 ?e2 (by unfold maxLen; omega) (by omega) ?e5 ?_)
          try (case e1 => exact one_new' _ _ _)
          case e2 => first | rfl | (intro u hu; simp at hu; subst hu; rfl)
          case e5 => have := HBY.out.size; simp; omega
          intro v' w9 hown' hgrow _
          have hown9 : w9.ownsRow w3.heap.size 9 1 v' (i + 1) (strC (T.take (i + 1))) := by
           rw [HTK2.out, strC_snoc]
           exact hown'
          have hb9 : Below w3.heap.size w3 w9 := (HBY.out.alloc HBY.out.size _).grown hgrow (by have := HBY.out.size; simp; omega) (fun k hk => (HOY.out.lt k hk).1)
          have HO9 := Lib.hid hown9
          have HB9 := Lib.hid hb9
          clear hown' hgrow hown9 hb9
          go_wp2_with fail
          go_roundw
          case rel => exact ⟨i + 1, HIL.out, by go_num, by rw [HST.out], HO9.out, HB9.out⟩
          case measure => have := HIL.out; simp [RowKit.intOf]; omega
  · obtain rfl : i = L.length := by omega
    have hd1 : decide (L.length < L.length) = false := decide_eq_false (by omega)
    have HBW := Lib.hid (keep_below hb HB3.out)
    have hTl : T.take L.length = T := List.take_of_length_le (by rw [HT.out.1]; exact Nat.le_refl _)
    rw [hTl] at hown
    have HS := Lib.hid (slAt_own hown)
    clear hb hown hn
    go_wp2_with fail
    go_ret
    exact ⟨_, rfl, by rw [HT.out.1]; exact HS.out, HBW.out⟩
end Go.Proofs.YtbhkbcpljakmjaaGreat
