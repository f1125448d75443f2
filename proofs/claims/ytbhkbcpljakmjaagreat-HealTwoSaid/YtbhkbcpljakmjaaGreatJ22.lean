/-
  What is read raw, some devices away: whether the text is among the tries. No program stands here.
  == on places, sums and pointers.
  Contracts of package ptr: None, Bytes.
  The walks of LeLays, LeUnlike, LePads.
  The walk of LeUnlike.
  Plain words on pointers: unlike pointers have unlike bytes; what is right can be laid.
  What is in a device's cache, in order; a crash, sector by sector. No program stands here.
-/
import Derived.Test.YtbhkbcpljakmjaaGreatJ21
import Derived.Test.YtbhkbcpljakmjaaGreatJ18
import Derived.Test.YtbhkbcpljakmjaaGreatJ07
import Derived.Test.YtbhkbcpljakmjaaGreatJ02
namespace Go.Proofs.YtbhkbcpljakmjaaGreat
set_option linter.unusedVariables false
set_option linter.unusedSimpArgs false

/-- What is read raw of what was written: the columns on devices that are here. -/
def backG (L : List Col) (T : List (List UInt8)) (hs : Nat → Bool) : List (List UInt8) := (List.range L.length).map fun k => if hs (L.getD k (0, 0, false, 0)).1.toNat then T.getD k [] else []
theorem backG_len (L : List Col) (T : List (List UInt8)) (hs : Nat → Bool) : (backG L T hs).length = L.length := by simp [backG]
theorem backG_get {L : List Col} {T : List (List UInt8)} {hs : Nat → Bool} {i : Nat} (hi : i < L.length) : (backG L T hs).getD i [] = if hs (L.getD i (0, 0, false, 0)).1.toNat then T.getD i [] else [] := by
  unfold backG
  rw [List.getD_eq_getElem?_getD, List.getElem?_map, List.getElem?_range hi]
  rfl
theorem raw_back {gs : List (Int × Int)} {secs n N : Nat} {pg pa : Int} {s : List UInt8} (hr : gRight gs secs = true) (hn : gSum gs = n) (hE : encE gs secs pg pa s = 0) {aw : List Bool} {ds : List DevD} (ok : DsOk N secs ds) (hl : ds.length = n) :
    rawL gs secs pg pa (secN s) aw (wrTo aw (ofList gs secs pg pa (secN s)) (encL gs secs pg pa s) ds (ofList gs secs pg pa (secN s)).length) = backG (ofList gs secs pg pa (secN s)) (encL gs secs pg pa s) (hereD aw ds) := by
  have hc := cols_of hr hn hE
  obtain ⟨L, hL⟩ : ∃ L, ofList gs secs pg pa (secN s) = L := ⟨_, rfl⟩
  unfold rawL backG
  rw [hL] at hc ⊢
  rw [rawL_range]
  apply List.map_congr_left
  intro k hk
  have hk := List.mem_range.1 hk
  have hx := colD_in hk
  unfold rawG
  rw [hx]
  simp only
  rw [rdC_look, wrTo_hereD]
  split
  · rename_i h
    rw [wrTo_look ok (by rw [hl]; exact hc) L.length (Nat.le_refl _) k _ hx, h, decide_eq_true hk]
    rfl
  · rfl
theorem par_row0 : ∀ w ∈ List.range 9, ∀ s ∈ List.range 5, 3 ≤ w → 0 < s → ((List.range 9).all fun i => (((parTo 0 w 0 s).map (·.2.2))[i]?).isNone || (match ((parTo 0 w 0 s).map (·.2.2))[i % w]? with
    | some x => x.2 == 0
    | none => false)) = true := by decide +kernel
/-- Each device of a Parity's block has a column in the first row. -/
theorem row0 {gs : List (Int × Int)} {secs pg pa size : Int} (h : cMay gs secs pg pa size = true) (hk : (grAt gs pg).1 ≠ 0) {i : Nat} (hi : i < (colsOf gs secs pg pa size).length) :
    ∃ j, j < (colsOf gs secs pg pa size).length ∧ ((colsOf gs secs pg pa size).getD j (0, 0, false, 0)).2.2.2 = 0 ∧ ((colsOf gs secs pg pa size).getD j (0, 0, false, 0)).1 = ((colsOf gs secs pg pa size).getD i (0, 0, false, 0)).1 := by
  obtain ⟨hhas, hz1, hz2, hp1, hp2, _⟩ := cMay_true h
  obtain ⟨sz, rfl⟩ := Int.eq_ofNat_of_zero_le (show 0 ≤ size by omega)
  obtain ⟨g, x, rfl, _, hl4, hs1, hs2, hx, hgx, ho⟩ := gHas_true hhas
  obtain ⟨kd, wd⟩ := x
  rw [hgx] at hk
  have ho' := gOne_true ho
  simp only at ho' hk
  obtain ⟨w, rfl⟩ := Int.eq_ofNat_of_zero_le (show 0 ≤ wd by omega)
  rcases ho' with ⟨rfl, _, _⟩ | ⟨rfl, h1, h2⟩
  · exact absurd rfl hk
  have hL : colsOf gs secs g pa sz = parTo (gFirst gs secs g) w pa sz := by unfold colsOf; rw [hgx]; rfl
  rw [hL] at hi ⊢
  have hlen := parTo_len (gFirst gs secs g) w pa sz
  have hsh := parTo_shape (gFirst gs secs g) w pa sz
  have key := par_row0 w (by simp; omega) sz (by simp; omega) (by omega) (by omega)
  rw [← hsh] at key
  have hil : i % w < (parTo (gFirst gs secs g) w pa sz).length := Nat.lt_of_le_of_lt (Nat.mod_le _ _) hi
  have k1 := List.all_eq_true.1 key i (List.mem_range.2 (by omega))
  have hat : ∀ j, j < (parTo (gFirst gs secs g) w pa sz).length → ((parTo (gFirst gs secs g) w pa sz).map (·.2.2))[j]? = some ((parTo (gFirst gs secs g) w pa sz).getD j (0, 0, false, 0)).2.2 := fun j hj => by rw [List.getElem?_map, colD_in hj]; rfl
  rw [hat i hi, hat _ hil, Option.isNone_some, Bool.false_or] at k1
  refine ⟨i % w, hil, by simpa using k1, ?_⟩
  obtain ⟨p1, r1, e1⟩ := parTo_get _ _ _ _ _ _ (colD_in hil)
  obtain ⟨p2, r2, e2⟩ := parTo_get _ _ _ _ _ _ (colD_in hi)
  rw [e1, e2]
  simp only [pcol]
  have e : (pa + (i : Int) % (w : Int)) % (w : Int) = (pa + (i : Int)) % (w : Int) := by rw [Int.add_emod pa ((i : Int) % w), Int.emod_emod_of_dvd _ (Int.dvd_refl _), ← Int.add_emod]
  rw [show ((i % w : Nat) : Int) = (i : Int) % (w : Int) from rfl, e]
theorem fail_mem {L : List Col} {hs : Nat → Bool} {n d : Nat} : d ∈ failL L hs n ↔ d < n ∧ (∃ i, i < L.length ∧ (L.getD i (0, 0, false, 0)).1 = (d : Int)) ∧ hs d = false := by
  unfold failL
  rw [List.mem_filter, List.mem_range, Bool.and_eq_true, List.any_eq_true, Bool.not_eq_true']
  refine and_congr Iff.rfl (and_congr ⟨?_, ?_⟩ Iff.rfl)
  · rintro ⟨c, hc, he⟩
    obtain ⟨i, hi⟩ := List.mem_iff_getElem?.1 hc
    have hil := (List.getElem?_eq_some_iff.1 hi).1
    rw [colD_in hil] at hi
    cases hi
    exact ⟨i, hil, eq_of_beq he⟩
  · rintro ⟨i, hi, he⟩
    exact ⟨_, List.mem_of_getElem? (colD_in hi), beq_iff_eq.2 he⟩
section
variable {gs : List (Int × Int)} {secs pg pa : Int} {s : List UInt8} {hs : Nat → Bool} {n : Nat}
theorem back_fits (h : cMay gs secs pg pa (secN s) = true) : fitsB gs secs pg pa (secN s) (backG (colsOf gs secs pg pa (secN s)) (encL gs secs pg pa s) hs) = true := by
  unfold fitsB
  rw [h, backG_len]
  simp only [Bool.true_and, beq_self_eq_true, Bool.not_eq_true']
  rw [List.any_eq_false]
  intro t ht
  obtain ⟨i, hi, rfl⟩ := List.mem_map.1 ht
  have hi := List.mem_range.1 hi
  have := (enc_encL (s := s) h).all64 i hi
  unfold fitP
  split
  · simp only [this]
    simp
  · simp
theorem fail_nodup : (failL (colsOf gs secs pg pa (secN s)) hs n).Nodup := List.nodup_range.filter _
theorem back_par (h : cMay gs secs pg pa (secN s) = true) (hsk : secOk s = true) (hk : (grAt gs pg).1 ≠ 0) (hn : gDevs gs secs = n) :
    (∃ x ∈ parT (colsOf gs secs pg pa (secN s)) (backG (colsOf gs secs pg pa (secN s)) (encL gs secs pg pa s) hs), x.2 = s) ↔ ¬ 1 < failN (colsOf gs secs pg pa (secN s)) hs n := by
  have hin : ∀ i, i < (colsOf gs secs pg pa (secN s)).length → 0 ≤ ((colsOf gs secs pg pa (secN s)).getD i (0, 0, false, 0)).1 ∧ ((colsOf gs secs pg pa (secN s)).getD i (0, 0, false, 0)).1 < n := fun i hi => by
    obtain ⟨t, hl, _⟩ := cols_lie h (colD_in hi)
    have := lies_in h hl
    omega
  constructor
  · rintro ⟨x, hx, _⟩ hlt
    obtain ⟨a, b, ha, hb, hab⟩ := two_of fail_nodup (show 2 ≤ (failL (colsOf gs secs pg pa (secN s)) hs n).length from hlt)
    obtain ⟨_, ⟨i, hi, hia⟩, hsa⟩ := fail_mem.1 ha
    obtain ⟨_, ⟨j, hj, hjb⟩, hsb⟩ := fail_mem.1 hb
    obtain ⟨i', hi', hr1, hd1⟩ := row0 h hk hi
    obtain ⟨j', hj', hr2, hd2⟩ := row0 h hk hj
    rw [hia] at hd1
    rw [hjb] at hd2
    have hno := par_two_none (parL_of h hk) (got := backG (colsOf gs secs pg pa (secN s)) (encL gs secs pg pa s) hs) hi' hj' (fun e => by rw [e, hd2] at hd1; omega) (by rw [hr1, hr2])
      (by rw [backG_get hi', hd1, Int.toNat_natCast, hsa]; rfl) (by rw [backG_get hj', hd2, Int.toNat_natCast, hsb]; rfl)
    rw [hno] at hx
    cases hx
  · intro hle
    have hone : ∃ d : Int, ∀ i, i < (colsOf gs secs pg pa (secN s)).length → ((colsOf gs secs pg pa (secN s)).getD i (0, 0, false, 0)).1 ≠ d → hs ((colsOf gs secs pg pa (secN s)).getD i (0, 0, false, 0)).1.toNat = true := by
      have hmem : ∀ i, i < (colsOf gs secs pg pa (secN s)).length → hs ((colsOf gs secs pg pa (secN s)).getD i (0, 0, false, 0)).1.toNat = false → ((colsOf gs secs pg pa (secN s)).getD i (0, 0, false, 0)).1.toNat ∈ failL (colsOf gs secs pg pa (secN s)) hs n := fun i hi hf => by
        have := hin i hi
        exact fail_mem.2 ⟨by omega, ⟨i, hi, by omega⟩, hf⟩
      match hf : failL (colsOf gs secs pg pa (secN s)) hs n with
      | [] =>
        refine ⟨-5, fun i hi _ => ?_⟩
        cases hv : hs ((colsOf gs secs pg pa (secN s)).getD i (0, 0, false, 0)).1.toNat with
        | true => rfl
        | false =>
          have := hmem i hi hv
          rw [hf] at this
          cases this
      | [a] =>
        refine ⟨a, fun i hi hne => ?_⟩
        cases hv : hs ((colsOf gs secs pg pa (secN s)).getD i (0, 0, false, 0)).1.toNat with
        | true => rfl
        | false =>
          have := hmem i hi hv
          rw [hf, List.mem_singleton] at this
          have := hin i hi
          omega
      | a :: b :: l =>
        exfalso
        apply hle
        unfold failN
        rw [hf]
        simp
    obtain ⟨d, hd⟩ := hone
    exact par_one_back h hsk hk (d := d) fun i hi hne => by rw [backG_get hi, hd i hi hne, if_pos rfl]
theorem cnt_group (F w r : Nat) : ((List.range (F + w + r)).filter fun d => decide (F ≤ d) && decide (d < F + w)).length = w := by
  rw [List.range_add, List.range_add, List.filter_append, List.filter_append]
  have h1 : (List.range F).filter (fun d => decide (F ≤ d) && decide (d < F + w)) = [] := by
    rw [List.filter_eq_nil_iff]
    intro d hd
    have := List.mem_range.1 hd
    simp
    omega
  have h2 : ((List.range w).map (F + ·)).filter (fun d => decide (F ≤ d) && decide (d < F + w)) = (List.range w).map (F + ·) := by
    rw [List.filter_eq_self]
    intro d hd
    obtain ⟨t, ht, rfl⟩ := List.mem_map.1 hd
    have := List.mem_range.1 ht
    simp
    omega
  have h3 : ((List.range r).map (F + w + ·)).filter (fun d => decide (F ≤ d) && decide (d < F + w)) = [] := by
    rw [List.filter_eq_nil_iff]
    intro d hd
    obtain ⟨t, ht, rfl⟩ := List.mem_map.1 hd
    simp
  rw [h1, h2, h3]
  simp
theorem back_mir (h : cMay gs secs pg pa (secN s) = true) (hsk : secOk s = true) (hk : (grAt gs pg).1 = 0) (hn : gDevs gs secs = n) :
    (∃ x ∈ mirT (colsOf gs secs pg pa (secN s)) (secN s) (backG (colsOf gs secs pg pa (secN s)) (encL gs secs pg pa s) hs) (grAt gs pg).2.toNat, x.2 = s) ↔ ¬ (failN (colsOf gs secs pg pa (secN s)) hs n : Int) = (grAt gs pg).2 := by
  have hM := mirL_of h hk
  rw [Int.toNat_natCast] at hM
  obtain ⟨wd, hwd⟩ : ∃ wd, (grAt gs pg).2.toNat = wd := ⟨_, rfl⟩
  rw [hwd] at hM
  have hin : ∀ i, i < (colsOf gs secs pg pa (secN s)).length → 0 ≤ ((colsOf gs secs pg pa (secN s)).getD i (0, 0, false, 0)).1 ∧ ((colsOf gs secs pg pa (secN s)).getD i (0, 0, false, 0)).1 < n := fun i hi => by
    obtain ⟨t, hl, _⟩ := cols_lie h (colD_in hi)
    have := lies_in h hl
    omega
  obtain ⟨p1, _, _, p4⟩ := in_part hM.len (show wd - 1 < wd by have := hM.wpos; omega) hM.pos
  rw [Nat.add_zero] at p1
  have b1 := hin _ p1
  rw [hM.dev _ p1, show ((wd - 1) * secN s) / secN s = wd - 1 from Nat.mul_div_cancel _ hM.pos] at b1
  obtain ⟨q1, _, _, _⟩ := in_part hM.len hM.wpos hM.pos
  have b0 := hin _ q1
  rw [hM.dev _ q1, show (0 * secN s + 0) / secN s = 0 by simp] at b0
  obtain ⟨F, hF⟩ := Int.eq_ofNat_of_zero_le (show 0 ≤ gFirst gs secs pg by omega)
  rw [hF] at b1
  obtain ⟨r, hr⟩ : ∃ r, n = F + wd + r := ⟨n - (F + wd), by have := hM.wpos; omega⟩
  have hfl : failL (colsOf gs secs pg pa (secN s)) hs n = ((List.range n).filter fun d => decide (F ≤ d) && decide (d < F + wd)).filter fun d => !hs d := by
    unfold failL
    rw [List.filter_filter]
    apply List.filter_congr
    intro d _
    rw [Bool.and_comm]
    congr 1
    rw [Bool.eq_iff_iff, List.any_eq_true, Bool.and_eq_true, decide_eq_true_eq, decide_eq_true_eq]
    constructor
    · rintro ⟨c, hc, he⟩
      obtain ⟨i, hi⟩ := List.mem_iff_getElem?.1 hc
      have hil := (List.getElem?_eq_some_iff.1 hi).1
      have hdv := hM.dev i hil
      rw [colD_in hil] at hi
      cases hi
      have he := eq_of_beq he
      have hlt : i / secN s < wd := by rw [Nat.div_lt_iff_lt_mul hM.pos, ← hM.len]; exact hil
      rw [hF] at hdv
      generalize i / secN s = q at hdv hlt
      omega
    · rintro ⟨h1, h2⟩
      obtain ⟨a1, a2, _, _⟩ := in_part hM.len (show d - F < wd by omega) hM.pos
      refine ⟨_, List.mem_of_getElem? (colD_in a1), ?_⟩
      rw [beq_iff_eq, hM.dev _ a1, a2, hF]
      omega
  have hcnt := cnt_group F wd r
  rw [← hr] at hcnt
  have hw : (grAt gs pg).2 = (wd : Int) := by have := hM.wpos; omega
  rw [hwd, hw]
  constructor
  · rintro ⟨x, hx, _⟩ he
    obtain ⟨j, hj, hx⟩ := mirT_mem.1 hx
    obtain ⟨a1, a2, _, a4⟩ := in_part hM.len hj hM.pos
    unfold mirOne at hx
    split at hx
    · cases hx
    rename_i hno
    have hno2 : hasE (mirPart (secN s) (backG (colsOf gs secs pg pa (secN s)) (encL gs secs pg pa s) hs) j) = false := by simpa using hno
    apply (hasE_part (by rw [backG_len]; exact a4)).1 hno2 0 hM.pos
    rw [backG_get a1, hM.dev _ a1, a2, hF]
    have hall : ∀ d ∈ (List.range n).filter (fun d => decide (F ≤ d) && decide (d < F + wd)), (!hs d) = true := by
      have hlen : (((List.range n).filter fun d => decide (F ≤ d) && decide (d < F + wd)).filter fun d => !hs d).length = ((List.range n).filter fun d => decide (F ≤ d) && decide (d < F + wd)).length := by
        rw [hcnt, ← hfl]
        unfold failN at he
        omega
      rw [List.length_filter_eq_length_iff] at hlen
      exact hlen
    have := hall (F + j) (List.mem_filter.2 ⟨List.mem_range.2 (by omega), by simp; omega⟩)
    rw [show ((F : Int) + (j : Int)).toNat = F + j by omega]
    have hf : hs (F + j) = false := by simpa using this
    rw [hf]
    rfl
  · intro hne
    have hex : ∃ d ∈ (List.range n).filter (fun d => decide (F ≤ d) && decide (d < F + wd)), hs d = true := by
      refine Decidable.byContradiction fun hno => hne ?_
      have hlen : (((List.range n).filter fun d => decide (F ≤ d) && decide (d < F + wd)).filter fun d => !hs d).length = ((List.range n).filter fun d => decide (F ≤ d) && decide (d < F + wd)).length := by
        rw [List.length_filter_eq_length_iff]
        intro d hd
        cases hv : hs d with
        | false => rfl
        | true => exact absurd ⟨d, hd, hv⟩ hno
      rw [hcnt, ← hfl] at hlen
      unfold failN
      omega
    obtain ⟨d, hd, hv⟩ := hex
    obtain ⟨_, hd2⟩ := List.mem_filter.1 hd
    simp only [Bool.and_eq_true, decide_eq_true_eq] at hd2
    have := mir_one_back h hk hsk (j := d - F) (got := backG (colsOf gs secs pg pa (secN s)) (encL gs secs pg pa s) hs) (backG_len _ _ _) (by rw [hwd]; omega) fun t ht => by
      obtain ⟨a1, a2, _, _⟩ := in_part hM.len (show d - F < wd by omega) ht
      rw [backG_get a1, hM.dev _ a1, a2, hF, show ((F : Int) + ((d - F : Nat) : Int)).toNat = d by omega, hv, if_pos rfl]
    rw [hwd] at this
    exact this
/-- The text is among the tries just where not too many are lost. -/
theorem back_found (h : cMay gs secs pg pa (secN s) = true) (hsk : secOk s = true) (hn : gDevs gs secs = n) :
    (∃ x ∈ triesL gs secs pg pa (secN s) (backG (colsOf gs secs pg pa (secN s)) (encL gs secs pg pa s) hs), x.2 = s) ↔ lostB (grAt gs pg) (failN (colsOf gs secs pg pa (secN s)) hs n) = false := by
  obtain ⟨hhas, _, _, _⟩ := cMay_true h
  obtain ⟨g, x, hpk, _, _, _, _, _, hga, ho⟩ := gHas_true hhas
  have hk1 : (grAt gs pg).1 = 0 ∨ (grAt gs pg).1 = 1 := by
    rw [hpk, hga]
    have := gOne_true ho
    omega
  unfold triesL lostB
  rw [back_fits h, if_pos rfl]
  rcases hk1 with hk | hk
  · have hb : ((grAt gs pg).1 == 0) = true := beq_iff_eq.2 hk
    rw [hb, if_pos rfl, Int.toNat_natCast, back_mir h hsk hk hn, hk]
    simp
  · have hk0 : (grAt gs pg).1 ≠ 0 := by omega
    have hb : ((grAt gs pg).1 == 0) = false := beq_eq_false_iff_ne.2 hk0
    rw [hb, if_neg Bool.false_ne_true, back_par h hsk hk0 hn, hk]
    simp
    omega
end
end Go.Proofs.YtbhkbcpljakmjaaGreat

namespace Go.Proofs.YtbhkbcpljakmjaaGreat
open Go.RowKit
set_option linter.unusedVariables false

theorem Tryz.stoodPlace : Tryz.prog.stoodInHeld 26 = false := by kernel_rfl
theorem Tryz.stoodPtr : Tryz.prog.stoodInHeld 31 = false := by kernel_rfl

theorem eqIn_place (w : World) (d : Nat) (a b c e : Int) : (Op.equalIn (d + 2) 26 (.agg #[.int .i64 a, .int .i64 b]) (.agg #[.int .i64 c, .int .i64 e])).run Tryz.prog w = .ok (a == c && b == e) w := by
  rw [run_equalIn_struct w (d + 1) _ _ _ (by kernel_rfl) Tryz.stoodPlace]
  simp [go_sem, Tryz.underlying26]
  by_cases h1 : a = c <;> by_cases h2 : b = e <;> simp [h1, h2]

theorem eqIn_sum (w : World) (d : Nat) (a0 a1 a2 a3 b0 b1 b2 b3 : Nat) : (Op.equalIn (d + 2) 29 (.agg #[.int .u64 a0, .int .u64 a1, .int .u64 a2, .int .u64 a3]) (.agg #[.int .u64 b0, .int .u64 b1, .int .u64 b2, .int .u64 b3])).run Tryz.prog w =
    .ok ((a0 : Int) == b0 && ((a1 : Int) == b1 && ((a2 : Int) == b2 && (a3 : Int) == b3))) w := by
  rw [Op.equalIn]
  simp only [Sem.run_bind, run_underlying Tryz.underlying29, Result.andThen_ok]
  simp [go_sem, Tryz.sizeOf27, Std.Legacy.Range.forIn_eq_forIn_range', Std.Legacy.Range.size, List.range']
  repeat' split
  all_goals (congr 1; simp_all)

def ptrEq (p q : PtrD) : Bool := decide (p = q)
theorem eql_ptr (p q : PtrD) (w : World) : (binOp .eql 31 (.agg p.cells) (.agg q.cells)).run Tryz.prog w = .ok (.bool (ptrEq p q)) w := by
  obtain ⟨a1, a2, a3, a4, a5, a6, a7, a8, a9, aa, ab, ac⟩ := p
  obtain ⟨b1, b2, b3, b4, b5, b6, b7, b8, b9, ba, bb, bc⟩ := q
  rw [run_eql_struct, run_equalIn_struct w 9999 _ _ _ (by kernel_rfl) Tryz.stoodPtr]
  simp [go_sem, Tryz.underlying31, eqIn_place, eqIn_sum, PtrD.cells, ptrEq]
  repeat' split
  all_goals (congr 2; try simp_all)
  all_goals grind
theorem neq_ptr (p q : PtrD) (w : World) : (binOp .neq 31 (.agg p.cells) (.agg q.cells)).run Tryz.prog w = .ok (.bool (!ptrEq p q)) w := by
  obtain ⟨a1, a2, a3, a4, a5, a6, a7, a8, a9, aa, ab, ac⟩ := p
  obtain ⟨b1, b2, b3, b4, b5, b6, b7, b8, b9, ba, bb, bc⟩ := q
  rw [run_neq_struct, run_equalIn_struct w 9999 _ _ _ (by kernel_rfl) Tryz.stoodPtr]
  simp [go_sem, Tryz.underlying31, eqIn_place, eqIn_sum, PtrD.cells, ptrEq]
  repeat' split
  all_goals (congr 2; try simp_all)
  all_goals grind
theorem eql_place (a b c e : Int) (w : World) : (binOp .eql 26 (.agg #[.int .i64 a, .int .i64 b]) (.agg #[.int .i64 c, .int .i64 e])).run Tryz.prog w = .ok (.bool (a == c && b == e)) w := by
  rw [run_eql_struct, run_equalIn_struct w 9999 _ _ _ (by kernel_rfl) Tryz.stoodPlace]
  simp [go_sem, Tryz.underlying26]
  by_cases h1 : a = c <;> by_cases h2 : b = e <;> simp [h1, h2]
end Go.Proofs.YtbhkbcpljakmjaaGreat

namespace Go.Proofs.YtbhkbcpljakmjaaGreat
open Go.RowKit
set_option linter.unusedVariables false

def ptrZ : PtrD := ⟨0, 0, 0, 0, false, 0, 0, 0, 0, 0, 0, 0⟩
/-- All of it is zero. -/
def noneB (p : PtrD) : Bool := ptrEq p ptrZ
set_option maxRecDepth 100000 in
theorem none_any (p : PtrD) (w : World) :
    Calls Tryz.prog 42 #[.agg p.cells] w fun e w' => e = .returned (.bool (noneB p)) ∧ Below w.heap.size w w' := by
  have h := PtrAt.new w p 31
  obtain ⟨h0, h1, h2, h3, h4, h5, h6, h7, h8, h9, ha, hc⟩ := h
  simp only [Nat.zero_add] at h1 h2 h3 h4 h5 h6 h7 h8 h9 ha hc
  have he : ∀ W, (binOp .eql 31 (.agg #[.int .i64 p.ag, .int .i64 p.aa, .int .i64 p.bg, .int .i64 p.ba, .bool p.two, .int .i64 p.size, .int .i64 p.level, .int .i64 p.birth, .int .u64 p.s0, .int .u64 p.s1, .int .u64 p.s2, .int .u64 p.s3])
      (.agg #[.int .i64 0, .int .i64 0, .int .i64 0, .int .i64 0, .bool false, .int .i64 0, .int .i64 0, .int .i64 0, .int .u64 0, .int .u64 0, .int .u64 0, .int .u64 0])).run Tryz.prog W = .ok (.bool (noneB p)) W := fun W => eql_ptr p ptrZ W
  have hb := (Below.refl w.heap.size w).alloc (Nat.le_refl _) (.cells p.cells 31)
  go_enter Tryz.func42, Tryz.ntmps42
  go_wp2_with fail
  go_ret
  exact ⟨rfl, hb⟩
/-- Whether a pointer can be laid; its bytes. -/
def layOk (p : PtrD) : Bool := withinL 4294967295 [p.ag, p.aa, p.bg, p.ba, p.birth] && withinL 255 [p.size, p.level]
def ptrOne (p : PtrD) : Int := p.size + p.level * 256 + if p.two then 65536 else 0
def ptrL (p : PtrD) : List UInt8 := padL (smallL [p.ag, p.aa, p.bg, p.ba, ptrOne p, p.birth] ++ sumL [p.s0, p.s1, p.s2, p.s3]) 64

end Go.Proofs.YtbhkbcpljakmjaaGreat

namespace Go.Proofs.YtbhkbcpljakmjaaGreat
open Go.RowKit
set_option linter.unusedVariables false

theorem long_any {n : Nat} (l : List UInt8) (h : 3000 < l.length) (hl : l.length ≤ 140737488351232) : (3000 : Int) < (l.length : Int) := by omega

end Go.Proofs.YtbhkbcpljakmjaaGreat

namespace Go.Proofs.YtbhkbcpljakmjaaGreat
open Go.RowKit
set_option linter.unusedVariables false

theorem layL_mod (x y : Nat) : ∀ n, layL x n = layL y n → x % 256 ^ n = y % 256 ^ n
  | 0, _ => by simp [Nat.mod_one]
  | n + 1, h => by
    rw [layL_succ, layL_succ] at h
    obtain ⟨h1, h2⟩ := List.append_inj h (by rw [layL_len, layL_len])
    have h3 := layL_mod x y n h1
    simp only [List.cons.injEq, and_true] at h2
    have h4 : (UInt8.ofNat (x / 256 ^ n)).toNat = (UInt8.ofNat (y / 256 ^ n)).toNat := by rw [h2]
    rw [UInt8.toNat_ofNat', UInt8.toNat_ofNat'] at h4
    have h5 : x / 256 ^ n % 256 = y / 256 ^ n % 256 := h4
    rw [Nat.mod_pow_succ, Nat.mod_pow_succ, h3, h5]
theorem layL_inj {x y n : Nat} (hx : x < 256 ^ n) (hy : y < 256 ^ n) (h : layL x n = layL y n) : x = y := by
  have := layL_mod x y n h
  rwa [Nat.mod_eq_of_lt hx, Nat.mod_eq_of_lt hy] at this
theorem layL_ne {x n : Nat} (h : 0 < n) : layL x n ≠ [] := by
  intro e
  have := layL_len x n
  rw [e] at this
  simp at this; omega
theorem u32L_eq {n m : Int} (h1 : u32L n ≠ []) (h2 : u32L m ≠ []) : u32L n = u32L m ↔ n = m := by
  unfold u32L at *
  split at h1
  · next h =>
    split at h2
    · next h' =>
      rw [if_pos h, if_pos h']
      constructor
      · intro e
        have := layL_inj (n := 4) (by omega) (by omega) e
        omega
      · rintro rfl; rfl
    · exact absurd rfl h2
  · exact absurd rfl h1
theorem intL_eq {n m : Int} (h1 : intL n ≠ []) (h2 : intL m ≠ []) : intL n = intL m ↔ n = m := by
  unfold intL at *
  split at h1
  · next h =>
    split at h2
    · next h' =>
      rw [if_pos h, if_pos h']
      constructor
      · intro e
        have := layL_inj (n := 8) (by omega) (by omega) e
        omega
      · rintro rfl; rfl
    · exact absurd rfl h2
  · exact absurd rfl h1

end Go.Proofs.YtbhkbcpljakmjaaGreat

namespace Go.Proofs.YtbhkbcpljakmjaaGreat
open Go.RowKit

theorem u32L_in {x : Int} (h0 : 0 ≤ x) (h1 : x ≤ 4294967295) : u32L x = layL x.toNat 4 := by
  unfold u32L
  first | rw [if_pos ⟨h0, h1⟩] | (split <;> first | rfl | omega)
theorem layOk_bd {p : PtrD} (h : layOk p = true) : (0 ≤ p.ag ∧ p.ag ≤ 4294967295) ∧ (0 ≤ p.aa ∧ p.aa ≤ 4294967295) ∧ (0 ≤ p.bg ∧ p.bg ≤ 4294967295) ∧ (0 ≤ p.ba ∧ p.ba ≤ 4294967295) ∧ (0 ≤ p.birth ∧ p.birth ≤ 4294967295) ∧
    (0 ≤ p.size ∧ p.size ≤ 255) ∧ (0 ≤ p.level ∧ p.level ≤ 255) := by
  simp only [layOk, withinL, List.all_cons, List.all_nil, Bool.and_true, Bool.and_eq_true, decide_eq_true_eq] at h
  obtain ⟨⟨h1, h2, h3, h4, h5⟩, h6, h7⟩ := h
  exact ⟨h1, h2, h3, h4, h5, h6, h7⟩
theorem ptrOne_bd {p : PtrD} (h : layOk p = true) : 0 ≤ ptrOne p ∧ ptrOne p ≤ 4294967295 := by
  obtain ⟨_, _, _, _, _, _, _⟩ := layOk_bd h
  unfold ptrOne; split <;> omega
theorem ptrL_eq {p : PtrD} (h : layOk p = true) : ptrL p = (layL p.ag.toNat 4 ++ (layL p.aa.toNat 4 ++ (layL p.bg.toNat 4 ++ (layL p.ba.toNat 4 ++ (layL (ptrOne p).toNat 4 ++ (layL p.birth.toNat 4 ++
    (layL p.s0 8 ++ (layL p.s1 8 ++ (layL p.s2 8 ++ layL p.s3 8))))))))) ++ List.replicate 8 0 := by
  obtain ⟨⟨a1, a2⟩, ⟨b1, b2⟩, ⟨c1, c2⟩, ⟨d1, d2⟩, ⟨e1, e2⟩, _, _⟩ := layOk_bd h
  obtain ⟨o1, o2⟩ := ptrOne_bd h
  have hb : smallL [p.ag, p.aa, p.bg, p.ba, ptrOne p, p.birth] ++ sumL [p.s0, p.s1, p.s2, p.s3] = (layL p.ag.toNat 4 ++ (layL p.aa.toNat 4 ++ (layL p.bg.toNat 4 ++ (layL p.ba.toNat 4 ++ (layL (ptrOne p).toNat 4 ++ (layL p.birth.toNat 4 ++
      (layL p.s0 8 ++ (layL p.s1 8 ++ (layL p.s2 8 ++ layL p.s3 8))))))))) := by
    unfold smallL sumL
    simp only [List.flatMap_cons, List.flatMap_nil, List.append_nil, List.append_assoc]
    rw [u32L_in a1 a2, u32L_in b1 b2, u32L_in c1 c2, u32L_in d1 d2, u32L_in o1 o2, u32L_in e1 e2]
  have hl : (smallL [p.ag, p.aa, p.bg, p.ba, ptrOne p, p.birth] ++ sumL [p.s0, p.s1, p.s2, p.s3]).length = 56 := by
    rw [hb]; simp [layL_len]
  unfold ptrL padL
  rw [if_pos (by decide), hl, hb]
  rfl
theorem ptrL_inj {p q : PtrD} (hp : layOk p = true) (hq : layOk q = true) (op : p.Ok) (oq : q.Ok) (h : ptrL p = ptrL q) : p = q := by
  rw [ptrL_eq hp, ptrL_eq hq] at h
  have h := List.append_inj_left' h rfl
  obtain ⟨e1, h⟩ := List.append_inj h (by simp [layL_len])
  obtain ⟨e2, h⟩ := List.append_inj h (by simp [layL_len])
  obtain ⟨e3, h⟩ := List.append_inj h (by simp [layL_len])
  obtain ⟨e4, h⟩ := List.append_inj h (by simp [layL_len])
  obtain ⟨e5, h⟩ := List.append_inj h (by simp [layL_len])
  obtain ⟨e6, h⟩ := List.append_inj h (by simp [layL_len])
  obtain ⟨e7, h⟩ := List.append_inj h (by simp [layL_len])
  obtain ⟨e8, h⟩ := List.append_inj h (by simp [layL_len])
  obtain ⟨e9, e10⟩ := List.append_inj h (by simp [layL_len])
  obtain ⟨⟨a1, a2⟩, ⟨b1, b2⟩, ⟨c1, c2⟩, ⟨d1, d2⟩, ⟨g1, g2⟩, ⟨i1, i2⟩, ⟨j1, j2⟩⟩ := layOk_bd hp
  obtain ⟨o1, o2⟩ := ptrOne_bd hp
  obtain ⟨⟨a3, a4⟩, ⟨b3, b4⟩, ⟨c3, c4⟩, ⟨d3, d4⟩, ⟨g3, g4⟩, ⟨i3, i4⟩, ⟨j3, j4⟩⟩ := layOk_bd hq
  obtain ⟨o3, o4⟩ := ptrOne_bd hq
  obtain ⟨p0, p1, p2, p3, _⟩ := op
  obtain ⟨q0, q1, q2, q3, _⟩ := oq
  have f1 := layL_inj (n := 4) (by omega) (by omega) e1
  have f2 := layL_inj (n := 4) (by omega) (by omega) e2
  have f3 := layL_inj (n := 4) (by omega) (by omega) e3
  have f4 := layL_inj (n := 4) (by omega) (by omega) e4
  have f5 := layL_inj (n := 4) (by omega) (by omega) e5
  have f6 := layL_inj (n := 4) (by omega) (by omega) e6
  have f7 := layL_inj (n := 8) (by omega) (by omega) e7
  have f8 := layL_inj (n := 8) (by omega) (by omega) e8
  have f9 := layL_inj (n := 8) (by omega) (by omega) e9
  have f10 := layL_inj (n := 8) (by omega) (by omega) e10
  have g5 : ptrOne p = ptrOne q := by omega
  have k1 : p.ag = q.ag := by omega
  have k2 : p.aa = q.aa := by omega
  have k3 : p.bg = q.bg := by omega
  have k4 : p.ba = q.ba := by omega
  have k6 : p.birth = q.birth := by omega
  have t : p.two = q.two ∧ p.size = q.size ∧ p.level = q.level := by
    clear k1 k2 k3 k4 k6 f1 f2 f3 f4 f5 f6 f7 f8 f9 f10 e1 e2 e3 e4 e5 e6 e7 e8 e9 e10 hp hq h o1 o2 o3 o4
    unfold ptrOne at g5
    cases hx : p.two <;> cases hy : q.two <;> simp only [hx, hy, Bool.false_eq_true, if_true, if_false, Int.add_zero] at g5 <;> refine ⟨?_, ?_, ?_⟩ <;> first | rfl | omega
  obtain ⟨t1, t2, t3⟩ := t
  cases p; cases q
  simp only at *
  subst k1 k2 k3 k4 k6 t1 t2 t3 f7 f8 f9 f10
  rfl
theorem ptrL_iff {p q : PtrD} (hp : layOk p = true) (hq : layOk q = true) (op : p.Ok) (oq : q.Ok) : decide (ptrL p = ptrL q) = ptrEq p q := by
  unfold ptrEq
  by_cases h : p = q
  · subst h; simp
  · rw [decide_eq_false h, decide_eq_false fun e => h (ptrL_inj hp hq op oq e)]

/-- Two stretches are apart; a pointer is right. -/
def apB (gs : List (Int × Int)) (secs ag aa bg ba size : Int) : Bool := (ag != bg) || (decide (aa + gTakes gs secs ag size ≤ ba) || decide (ba + gTakes gs secs bg size ≤ aa))
def rightB (gs : List (Int × Int)) (secs : Int) (p : PtrD) : Bool :=
  decide (0 ≤ p.level) && decide (p.level ≤ 3) && decide (1 ≤ p.birth) && decide (p.birth ≤ 4294967295) && cMay gs secs p.ag p.aa p.size &&
    (if p.two then cMay gs secs p.bg p.ba p.size && apB gs secs p.ag p.aa p.bg p.ba p.size else p.bg == 0 && p.ba == 0)
theorem cMay_bd {gs : List (Int × Int)} {secs pg pa size : Int} (h : cMay gs secs pg pa size = true) : 0 ≤ pg ∧ pg ≤ 4 ∧ 0 ≤ pa ∧ pa ≤ 100000 ∧ 1 ≤ size ∧ size ≤ 4 := by
  obtain ⟨hhas, hz1, hz2, hp1, hp2, _⟩ := cMay_true h
  have hS := gSectors_bd gs secs pg
  have hT := gTakes_bd gs secs pg size
  obtain ⟨k, x, rfl, hk, hl4, _⟩ := gHas_true hhas
  omega
theorem right_pure {gs : List (Int × Int)} {secs : Int} {p : PtrD} (h : rightB gs secs p = true) : noneB p = false ∧ layOk p = true ∧ (p.two = true → (p.ag == p.bg && p.aa == p.ba) = false) := by
  simp only [rightB, Bool.and_eq_true, decide_eq_true_eq] at h
  obtain ⟨⟨⟨⟨⟨h1, h2⟩, h3⟩, h4⟩, h5⟩, h6⟩ := h
  have b := cMay_bd h5
  obtain ⟨_, _, _, _, _, ht⟩ := cMay_true h5
  refine ⟨?_, ?_, ?_⟩
  · unfold noneB ptrEq
    rw [decide_eq_false]
    intro e
    have : p.birth = 0 := by rw [e]; rfl
    omega
  · simp only [layOk, withinL, List.all_cons, List.all_nil, Bool.and_true, Bool.and_eq_true, decide_eq_true_eq]
    cases ht2 : p.two with
    | true =>
      rw [ht2, if_pos rfl, Bool.and_eq_true] at h6
      have b2 := cMay_bd h6.1
      omega
    | false =>
      rw [ht2, if_neg (by simp)] at h6
      simp at h6
      omega
  · intro ht2
    rw [ht2, if_pos rfl, Bool.and_eq_true] at h6
    obtain ⟨_, h7⟩ := h6
    simp only [apB, Bool.or_eq_true, decide_eq_true_eq] at h7
    rw [Bool.and_eq_false_iff]
    by_cases e1 : p.ag = p.bg
    · right
      rw [← e1] at h7
      simp only [bne_self_eq_false, Bool.false_eq_true, false_or] at h7
      simp; omega
    · left; simp [e1]
end Go.Proofs.YtbhkbcpljakmjaaGreat

namespace Go.Proofs.YtbhkbcpljakmjaaGreat
set_option linter.unusedVariables false
set_option linter.unusedSimpArgs false

/-- The numbers below n that have something. -/
def hasL (p : Nat → Bool) (n : Nat) : List Nat := (List.range n).filter p
theorem hasL_succ (p : Nat → Bool) (n : Nat) : hasL p (n + 1) = if p n then hasL p n ++ [n] else hasL p n := by
  unfold hasL
  rw [List.range_succ, List.filter_append]
  cases h : p n <;> simp [h]
theorem hasL_at (p : Nat → Bool) : ∀ (n i k : Nat), (hasL p n)[i]? = some k → p k = true ∧ k < n ∧ (hasL p k).length = i
  | 0, i, k, h => by simp [hasL] at h
  | n + 1, i, k, h => by
    rw [hasL_succ] at h
    split at h
    · rename_i hp
      by_cases hi : i < (hasL p n).length
      · rw [List.getElem?_append_left hi] at h
        have := hasL_at p n i k h
        exact ⟨this.1, by omega, this.2.2⟩
      · rw [List.getElem?_append_right (by omega)] at h
        have h1 : i - (hasL p n).length = 0 := by
          cases hh : i - (hasL p n).length with
          | zero => rfl
          | succ m => rw [hh] at h; simp at h
        rw [h1] at h
        simp at h
        subst h
        exact ⟨hp, by omega, by omega⟩
    · have := hasL_at p n i k h
      exact ⟨this.1, by omega, this.2.2⟩
theorem hasL_rank (p : Nat → Bool) : ∀ (n k : Nat), k < n → p k = true → (hasL p n)[(hasL p k).length]? = some k
  | 0, k, h, _ => by omega
  | n + 1, k, h, hp => by
    rw [hasL_succ]
    by_cases e : k = n
    · subst e; rw [if_pos hp]; simp
    · have h1 := hasL_rank p n k (by omega) hp
      split
      · rw [List.getElem?_append_left (List.getElem?_eq_some_iff.1 h1).1]; exact h1
      · exact h1
theorem hasL_pair (p : Nat → Bool) (n : Nat) : (hasL p n).Pairwise (· < ·) := (List.pairwise_lt_range).filter _
theorem hasL_mem (p : Nat → Bool) (n k : Nat) : k ∈ hasL p n ↔ k < n ∧ p k = true := by simp [hasL]
theorem hasL_len (p : Nat → Bool) (n : Nat) : (hasL p n).length ≤ n := by
  have := List.length_filter_le p (List.range n)
  simpa [hasL] using this

namespace DevD
def pre (d : DevD) (k : Nat) : Bool := !(d.cac k).isEmpty
def keys (d : DevD) : List Nat := hasL d.pre d.med.length
theorem rank_eq (d : DevD) (k : Nat) : d.rank k = (hasL d.pre k).length := rfl
theorem keys_at {d : DevD} {i k : Nat} (h : d.keys[i]? = some k) : d.cac k ≠ [] ∧ k < d.med.length ∧ d.rank k = i := by
  have := hasL_at _ _ _ _ h
  refine ⟨fun e => ?_, this.2.1, this.2.2⟩
  have h1 := this.1
  simp [pre, e] at h1
/-- After the first m of the cache. -/
def crashed (d : DevD) (keep : List Int) (m : Nat) : DevD := { d with med := d.crashMed keep m, fuse := -1 }
theorem crashed_len (d : DevD) (keep : List Int) (m : Nat) : (d.crashed keep m).med.length = d.med.length := by simp [crashed, crashMed]
theorem crashMed_get (d : DevD) (keep : List Int) (m : Nat) {k : Nat} (hk : k < d.med.length) (h1 : k < (d.crashMed keep m).length) :
    (d.crashMed keep m)[k] = if (d.cac k).isEmpty = false ∧ d.rank k < m then pick keep (d.rank k) (d.cac k) d.med[k] else d.med[k] := by simp [crashMed]
theorem crashMed_zero (d : DevD) (keep : List Int) : d.crashMed keep 0 = d.med := by
  refine List.ext_getElem (by simp [crashMed]) fun k h1 h2 => ?_
  rw [crashMed_get d keep 0 h2, if_neg (by omega)]
/-- One more. -/
theorem crashMed_succ (d : DevD) (keep : List Int) {i k : Nat} (hi : d.keys[i]? = some k) (h : k < d.med.length) : d.crashMed keep (i + 1) = (d.crashMed keep i).set k (pick keep i (d.cac k) d.med[k]) := by
  have hk := keys_at hi
  refine List.ext_getElem (by simp [crashMed]) fun j h1 h2 => ?_
  have hj : j < d.med.length := by simpa [crashMed] using h1
  rw [crashMed_get d keep _ hj, List.getElem_set, crashMed_get d keep _ hj]
  by_cases e : k = j
  · subst e
    rw [if_pos rfl, if_pos ⟨by simpa using hk.1, by omega⟩, hk.2.2]
  · rw [if_neg e]
    by_cases hp : (d.cac j).isEmpty = false
    · have hr : d.rank j ≠ i := by
        intro hr
        have h3 := hasL_rank d.pre d.med.length j hj (by simp [pre, hp])
        rw [show (hasL d.pre j).length = i from hr] at h3
        exact e (Option.some.inj (hi.symm.trans h3))
      by_cases h4 : d.rank j < i
      · rw [if_pos ⟨hp, by omega⟩, if_pos ⟨hp, h4⟩]
      · rw [if_neg (by omega), if_neg (by omega)]
    · rw [if_neg (fun h => hp h.1), if_neg (fun h => hp h.1)]
/-- No more. -/
theorem crashMed_end (d : DevD) (keep : List Int) {i : Nat} (hi : keep.length ≤ i ∨ d.keys.length ≤ i) : d.crashMed keep i = d.crashMed keep d.med.length := by
  refine List.ext_getElem (by simp [crashMed]) fun j h1 h2 => ?_
  have hj : j < d.med.length := by simpa [crashMed] using h1
  rw [crashMed_get d keep _ hj, crashMed_get d keep _ hj]
  by_cases hp : (d.cac j).isEmpty = false
  · have h3 := hasL_rank d.pre d.med.length j hj (by simp [pre, hp])
    have h4 : d.rank j < d.keys.length := (List.getElem?_eq_some_iff.1 h3).1
    have h5 : d.keys.length ≤ d.med.length := hasL_len _ _
    by_cases h6 : d.rank j < i
    · rw [if_pos ⟨hp, h6⟩, if_pos ⟨hp, by omega⟩]
    · rw [if_neg (by omega), if_pos ⟨hp, by omega⟩]
      rcases hi with hi | hi
      · have : keep[d.rank j]? = none := List.getElem?_eq_none (by omega)
        unfold pick
        rw [this]
      · omega
  · rw [if_neg (fun h => hp h.1), if_neg (fun h => hp h.1)]
theorem crash_eq (d : DevD) (keep : List Int) (hl : d.lost = false) {i : Nat} (hi : keep.length ≤ i ∨ d.keys.length ≤ i) : d.crash keep = { d.crashed keep i with cac := fun _ => [] } := by
  unfold crash crashed
  rw [if_neg (by simp [hl]), crashMed_end d keep hi]
theorem crashed_set (d : DevD) (keep : List Int) {i k : Nat} (hi : d.keys[i]? = some k) : d.crashed keep (i + 1) = { d.crashed keep i with med := (d.crashed keep i).med.set k (pick keep i (d.cac k) (d.med.getD k [])) } := by
  have hk := (keys_at hi).2.1
  unfold crashed
  rw [crashMed_succ d keep hi hk, List.getD_eq_getElem?_getD, List.getElem?_eq_getElem hk]
  rfl
theorem crashed_same (d : DevD) (keep : List Int) {i k : Nat} (hi : d.keys[i]? = some k) (hp : pick keep i (d.cac k) (d.med.getD k []) = d.med.getD k []) : d.crashed keep (i + 1) = d.crashed keep i := by
  have hk := keys_at hi
  rw [crashed_set d keep hi, hp]
  have e : (d.crashed keep i).med.set k (d.med.getD k []) = (d.crashed keep i).med := by
    refine List.ext_getElem (by simp) fun j h1 h2 => ?_
    rw [List.getElem_set]
    by_cases e : k = j
    · subst e
      rw [if_pos rfl, List.getD_eq_getElem?_getD, List.getElem?_eq_getElem hk.2.1]
      have h3 : k < (d.crashMed keep i).length := h2
      have h4 := crashMed_get d keep i hk.2.1 h3
      rw [if_neg (by omega)] at h4
      exact h4.symm
    · rw [if_neg e]
  rw [e]
end DevD

/-- The greatest and the least. -/
def i64s (l : List Int) : Prop := ∀ x ∈ l, -9223372036854775808 ≤ x ∧ x ≤ 9223372036854775807
theorem vers_steps {x : Int} {n : Nat} (hx : -9223372036854775808 ≤ x ∧ x ≤ 9223372036854775807) (hn : n ≤ 1000000) :
    -((n : Int)) ≤ x.tmod (n + 1) ∧ x.tmod (n + 1) ≤ n ∧ 0 ≤ (x.tmod (n + 1) + n + 1).tmod (n + 1) ∧ (x.tmod (n + 1) + n + 1).tmod (n + 1) ≤ n := by
  have h1 : x.tmod (n + 1) < n + 1 := Int.tmod_lt_of_pos _ (by omega)
  have h2 : -(n + 1 : Int) < x.tmod (n + 1) := by
    have := Int.lt_tmod_of_pos x (show (0 : Int) < n + 1 by omega)
    exact this
  have h3 : (x.tmod (n + 1) + n + 1).tmod (n + 1) < n + 1 := Int.tmod_lt_of_pos _ (by omega)
  have h4 : 0 ≤ (x.tmod (n + 1) + n + 1).tmod (n + 1) := Int.tmod_nonneg _ (by omega)
  omega
end Go.Proofs.YtbhkbcpljakmjaaGreat
