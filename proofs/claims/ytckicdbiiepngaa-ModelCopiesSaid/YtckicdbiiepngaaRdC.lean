/-
  What an act comes to, by the document: Write.
-/
import Derived.Test.YtckicdbiiepngaaRd7
namespace Go.Proofs.Ytckicdbiiepngaa
set_option linter.unusedVariables false
set_option linter.unusedSimpArgs false
open Go.RowKit Go.Maps Go.Lib Go.Shelf

set_option maxRecDepth 20000 in
set_option maxHeartbeats 8000000 in
theorem rdo_w {w : World} {cs : Array Value} {a : AllA} (h : RefW w cs a) (hs : Sane a) (x : MAct) (hx : x.Ok) (h3 : x.do_ % 8 < 3) (hid : 0 ≤ x.id ∧ x.id ≤ 31) :
    Calls Try.prog 11 #[.agg cs, .agg #[.int .u8 x.do_, .int .i64 x.id, .int .i64 x.off, .int .i64 x.n, .int .u8 x.fill.toNat]] w fun e w' => RdoP w cs (actA a x) e w' := by
  have hact : actA a x = wriA a x.id x.off (List.replicate (cntA x.n) x.fill) := by unfold actA; rw [if_neg (by omega), if_neg (by omega), if_neg (by omega), if_neg (by omega), if_neg (by omega)]
  rw [hact]
  clear hact
  obtain ⟨dn, id, off, n, fill⟩ := x
  simp only at h3 hid ⊢
  obtain ⟨q, hq3, hq⟩ : ∃ q : Nat, q < 3 ∧ (dn : Int).tmod 8 = (q : Int) := ⟨dn % 8, h3, mod_eq 8 rfl⟩
  have hq4 : q ≤ 4 := by omega
  have e3 : ((q : Int) == 3) = false := by rw [beq_eq_false_iff_ne]; omega
  have e4 : ((q : Int) == 4) = false := by rw [beq_eq_false_iff_ne]; omega
  have e5 : ((q : Int) == 5) = false := by rw [beq_eq_false_iff_ne]; omega
  have e6 : ((q : Int) == 6) = false := by rw [beq_eq_false_iff_ne]; omega
  have e7 : ((q : Int) == 7) = false := by rw [beq_eq_false_iff_ne]; omega
  obtain ⟨hi0, hi31⟩ : ¬ id < 0 ∧ ¬ 31 < id := by omega
  have d0 : decide (id < 0) = false := decide_eq_false hi0
  have d31 : decide (31 < id) = false := decide_eq_false hi31
  clear hid h3 hq3
  have HMAY : Hid (mayE id = 0) := Lib.hid (by unfold mayE; rw [if_neg (by omega)])
  have HID : Hid (((id.toNat : Nat) : Int) = id ∧ id.toNat < 32) := Lib.hid (by omega)
  have hcl := cntA_le n
  obtain ⟨c, hc⟩ : ∃ c, c = cntA n := ⟨_, rfl⟩
  rw [← hc] at hcl ⊢
  have HCNT : Hid (∀ W, Calls Try.prog 31 #[.agg #[.int .u8 dn, .int .i64 id, .int .i64 off, .int .i64 n, .int .u8 fill.toNat]] W fun e w' => e = .returned (.int .i64 c) ∧ Below W.heap.size W w') := Lib.hid (fun W => by rw [hc]; exact count_any _ _ _ _ _ n rfl W)
  have HFILL : Hid (∀ W, Calls Try.prog 30 #[.int .u8 fill.toNat, .int .i64 c] W fun e w' => e = .returned (str (List.replicate c fill)) ∧ Below W.heap.size W w') := Lib.hid (fun W => fill_any fill c hcl W)
  have HSL : Hid ((List.replicate c fill).length = c) := Lib.hid (List.length_replicate)
  obtain ⟨s, hse⟩ : ∃ s, s = List.replicate c fill := ⟨_, rfl⟩
  rw [← hse] at HFILL HSL ⊢
  clear hc hse
  have H := Lib.hid h
  have HX := Lib.hid hx
  obtain ⟨A1, c1, A2, c2, hcs, hr1, hr2, hc1, hc2⟩ := h
  have hcsz : cs.size = 66 := by rw [hcs, wV_size (setL_len _)]
  have hi33 : (Try.prog.info? 33).map (·.size) = some cs.size := by rw [hcsz]; kernel_rfl
  have h1c : cs.all (·.oneCell') = true := by rw [hcs]; exact wV_one (setL_one _)
  obtain ⟨w1, hw1⟩ : ∃ x, x = ((w.alloc (.cells cs 33)).alloc (.cells #[.int .u8 dn, .int .i64 id, .int .i64 off, .int .i64 n, .int .u8 fill.toNat] 37)).alloc (.cells zW 33) := ⟨_, rfl⟩
  have X0 : Blk w1 w.heap.size 33 cs := by rw [hw1]; exact ((Blk.new w _ _).alloc _).alloc _
  have X1 : Blk w1 (w.heap.size + 1) 37 #[.int .u8 dn, .int .i64 id, .int .i64 off, .int .i64 n, .int .u8 fill.toNat] := by rw [hw1]; exact (Blk.new2 w _ _ _).alloc _
  have X2 : Blk w1 (w.heap.size + 2) 33 zW := by
    rw [hw1]
    have := Blk.new2 (w.alloc (.cells cs 33)) (.cells #[.int .u8 dn, .int .i64 id, .int .i64 off, .int .i64 n, .int .u8 fill.toNat] 37) 33 zW
    simpa using this
  have hb1 : Below w.heap.size w w1 := by rw [hw1]; exact keep_alloc (keep_alloc (keep_alloc (Below.refl _ _) _) _) _
  have hs1 : w1.heap.size = w.heap.size + 3 := by rw [hw1]; simp
  obtain ⟨k, hk⟩ : ∃ k, k = a.snaps.length := ⟨_, rfl⟩
  have hk4 : k ≤ 4 := by rw [hk]; exact hs.few
  obtain ⟨l, hl⟩ : ∃ x, x = setL a.live := ⟨_, rfl⟩
  have hl64 : l.length = 64 := by rw [hl, setL_len]
  have hl1 : ∀ u ∈ l, u.oneCell' = true := by rw [hl]; exact setL_one _
  rw [← hl, ← hk] at hcs
  rw [← hk] at hr1 hr2 hc1 hc2
  obtain ⟨cO, hcO⟩ : ∃ x, x = wV l none 0 0 none 0 0 := ⟨_, rfl⟩
  have HBW : Hid (∀ W, (Instr.build 33 #[(0, .agg l.toArray)]).run Try.prog W = .ok (.agg cO) W) := Lib.hid (by rw [hcO, hl]; exact build_w _)
  have hi29 : (Try.prog.info? 29).map (·.size) = some l.length := by rw [hl64]; kernel_rfl
  have HR0 : Hid (w1.rangeAt w.heap.size 0 l) := Lib.hid (fun j v hv => by
    have hj := (List.getElem?_eq_some_iff.1 hv).1
    rw [Nat.zero_add]
    exact X0.at_ (by rw [hcs, wV_lo hl64 (by omega)]; exact hv))
  have hcO66 : cO.size = 66 := by rw [hcO, wV_size hl64]
  have hcO1 : cO.all (·.oneCell') = true := by rw [hcO]; exact wV_one hl1
  obtain ⟨w2, hw2⟩ : ∃ x, x = w1.alloc (.cells zW 33) := ⟨_, rfl⟩
  have hs2 : w2.heap.size = w.heap.size + 4 := by rw [hw2]; simp [hs1]
  have O2 : Blk w2 (w.heap.size + 3) 33 zW := by rw [hw2, ← hs1]; exact Blk.new _ _ _
  obtain ⟨w3, hw3⟩ : ∃ x, x = w2.setCells (w.heap.size + 3) 0 cO.toList := ⟨_, rfl⟩
  have HS3 : Hid ((Instr.storeAt 33 (.pointer (some ⟨w.heap.size + 3, 0, none⟩)) (.agg cO)).run Try.prog w2 = .ok () w3) := Lib.hid (by
    rw [hw3]
    exact run_storeAt_mid w2 _ _ _ cO (O2.there (by rw [zW_size, hcO66]; omega)) (by rw [hcO66]; kernel_rfl) hcO1)
  have O3 : Blk w3 (w.heap.size + 3) 33 (wV l none 0 0 none 0 0) := by rw [hw3, ← hcO]; exact O2.putAll _ (by rw [zW_size, hcO66])
  have hb13 : Below w1.heap.size w1 w3 := by rw [hw3, hw2]; exact below_sets _ _ (keep_alloc (Below.refl _ _) _) (by omega)
  have hs3 : w.heap.size + 4 ≤ w3.heap.size := by have := O3.lt; omega
  have hr1' := hr1.below hb1 (Nat.le_refl _)
  have hr2' := hr2.below hb1 (Nat.le_refl _)
  obtain ⟨A3, c3, w4, w5, A4, c4, w6, w7, B2, e1, s1, e2, s2, O5, O7, row1, row2, hB2, hlo, b35, b37, hs7, hb27⟩ := two_rows (c1 := c1) (c2 := c2) hl64 O3 hs3 hk4 hb13 (by omega) hr1' hr2' (idC_one a) (snC_one a)
  have hb17 : Below w1.heap.size w1 w7 := hb13.trans (b37.mono (by omega))
  have X03 := X0.below hb13 X0.lt
  have X05 := X03.below b35 (by omega)
  have HX07 := Lib.hid (X0.below hb17 X0.lt)
  have HX17 := Lib.hid (X1.below hb17 X1.lt)
  have HX27 := Lib.hid (X2.below hb17 X2.lt)
  have HB7 := Lib.hid (hb1.trans (hb17.mono (by omega)))
  have a0 := X1.at_ (i := 0) rfl
  have a1 := X1.at_ (i := 1) rfl
  have d1 := HX17.out.at_ (i := 1) rfl
  have k3 := O3.at_ (wV_64 hl64)
  have k5 := O5.at_ (wV_65 hl64)
  have m3 := X03.at_ (i := 64) (by rw [hcs]; exact wV_64 hl64)
  have m5 := X05.at_ (i := 65) (by rw [hcs]; exact wV_65 hl64)
  have HFIND := Lib.hid (rfind_any (w := w7) (cs := cs) (A1 := A1) (c1 := c1) (ids := a.ids) (by rw [hcs, ids_len, ← hk]; exact wV_64 hl64) (by rw [← idC_eq, ids_len, ← hk]; exact hr1.below HB7.out (Nat.le_refl _)) (by rw [ids_len, ← hk]; omega) id)
  have HE1 := Lib.hid e1
  have HE2 := Lib.hid e2
  have HS1 := Lib.hid s1
  have HS2 := Lib.hid s2
  have HO7 := Lib.hid O7
  have HROW1 := Lib.hid row1
  have HROW2 := Lib.hid row2
  have HB2 := Lib.hid hB2
  have HLO := Lib.hid hlo
  have HS7 := Lib.hid hs7
  have HB27 := Lib.hid hb27
  have HCS := Lib.hid hcs
  have HK := Lib.hid hk
  have HL := Lib.hid hl
  have HCO := Lib.hid hcO
  have HW1 := Lib.hid hw1.symm
  have HW2 := Lib.hid hw2.symm
  have HX0 := Lib.hid X0
  have HSIZ := Lib.hid hs1
  have HSIZ2 := Lib.hid hs2
  have HSANE := Lib.hid hs
  have HR1 := Lib.hid hr1
  have HR2 := Lib.hid hr2
  try simp only
  clear hw1 hw2 hw3 hx hcs hr1 hr2 hb1 hs1 hs2 hs3 X0 X1 X2 e1 e2 s1 s2 O2 O3 O5 O7 row1 row2 hB2 hlo hs7 hb27 hk hl hcO hb13 hb17 b35 b37 X03 X05 hr1' hr2' hs
  go_enter Try.func11, Try.ntmps11
  go_wp2_with (first
    | ((with_reducible refine wpList_box_want ?q1 33 (.tmp 0) ?q2 cs ?q3 w.heap.size ?q4 ?_); (case q2 => rfl); (case q3 => rfl); (case q4 => rfl); (case q1 => rfl); simp only [Act.put, List.setIfInBounds_toArray, List.set_cons_zero, List.set_cons_succ])
    | ((with_reducible refine wpList_alloc_want ?q1 33 ?q2 zW zW_is (w.heap.size + 2) ?q4 w1 HW1.out ?_); (case q2 => rfl); (case q4 => simp); (case q1 => rfl); simp only [Act.put, List.setIfInBounds_toArray, List.set_cons_zero, List.set_cons_succ])
    | ((with_reducible refine wpList_mid_want ?q1 29 (.tmp 26) ?q2 w.heap.size 0 ?q3 l _ HR0.out Try.underlying29 rfl hi29 ?_); (case q2 => rfl); (case q3 => rfl); (case q1 => rfl); simp only [Act.put, List.setIfInBounds_toArray, List.set_cons_zero, List.set_cons_succ])
    | ((with_reducible refine wpList_build_want ?q1 33 #[(0, .tmp 27)] ?q2 #[(0, .agg l.toArray)] ?q3 (.agg cO) (HBW.out _) ?_); (case q2 => rfl); (case q3 => simp [Act.eval, Act.put]); (case q1 => rfl); simp only [Act.put, List.setIfInBounds_toArray, List.set_cons_zero, List.set_cons_succ])
    | ((with_reducible refine wpList_alloc_want ?q1 33 ?q2 zW zW_is (w.heap.size + 3) ?q4 w2 HW2.out ?_); (case q2 => rfl); (case q4 => exact HSIZ.out); (case q1 => rfl); simp only [Act.put, List.setIfInBounds_toArray, List.set_cons_zero, List.set_cons_succ])
    | ((with_reducible refine wpList_store_run ?q1 33 (.tmp 7) (.tmp 28) ?q2 _ _ ?q3 ?q4 w3 HS3.out ?_); (case q2 => rfl); (case q3 => rfl); (case q4 => rfl); (case q1 => rfl); simp only [Act.put, List.setIfInBounds_toArray, List.set_cons_zero, List.set_cons_succ])
    | ((with_reducible refine wpList_append_want ?qw (.tmp 30) (.tmp 32) _ _ _ ?qo ?qt _ _ ?qs ?qx _ _ HE1.out ?_); (case qo => rfl); (case qt => rfl); (case qs => rfl); (case qx => rfl); (case qw => rfl); simp only [Act.put, List.setIfInBounds_toArray, List.set_cons_zero, List.set_cons_succ])
    | ((with_reducible refine wpList_store_run ?q1 30 (.tmp 34) (.tmp 33) ?q2 _ _ ?q3 ?q4 w5 HS1.out ?_); (case q2 => rfl); (case q3 => rfl); (case q4 => rfl); (case q1 => rfl); simp only [Act.put, List.setIfInBounds_toArray, List.set_cons_zero, List.set_cons_succ])
    | ((with_reducible refine wpList_append_want ?qw (.tmp 36) (.tmp 38) _ _ _ ?qo ?qt _ _ ?qs ?qx _ _ HE2.out ?_); (case qo => rfl); (case qt => rfl); (case qs => rfl); (case qx => rfl); (case qw => rfl); simp only [Act.put, List.setIfInBounds_toArray, List.set_cons_zero, List.set_cons_succ])
    | ((with_reducible refine wpList_store_run ?q1 31 (.tmp 40) (.tmp 39) ?q2 _ _ ?q3 ?q4 w7 HS2.out ?_); (case q2 => rfl); (case q3 => rfl); (case q4 => rfl); (case q1 => rfl); simp only [Act.put, List.setIfInBounds_toArray, List.set_cons_zero, List.set_cons_succ])
    | ((with_reducible refine wpList_load_want ?qw 33 (.tmp 2) ?q2 w.heap.size ?q3 33 cs _ HX07.out Try.underlying33 rfl hi33 ?_); (case q2 => rfl); (case q3 => rfl); (case qw => rfl); simp only [Act.put, List.setIfInBounds_toArray, List.set_cons_zero, List.set_cons_succ]))
  refine HFIND.out.mono ?_
  rintro e w8 ⟨rfl, hb8⟩
  have HX08 := Lib.hid (HX07.out.below hb8 HX07.out.lt)
  have HX18 := Lib.hid (HX17.out.below hb8 HX17.out.lt)
  have HX28 := Lib.hid (HX27.out.below hb8 HX27.out.lt)
  have HO8 := Lib.hid (HO7.out.below hb8 HO7.out.lt)
  have HB8 : Hid (Below w.heap.size w w8) := Lib.hid (keep_below hb8 HB7.out)
  have HROW18 := Lib.hid (ownsRow_same HROW1.out (fun b hb => hb8.block b (HROW1.out.lt b hb).2))
  have HROW28 := Lib.hid (ownsRow_same HROW2.out (fun b hb => hb8.block b (HROW2.out.lt b hb).2))
  have HS8 : Hid (w.heap.size + 4 ≤ w8.heap.size) := Lib.hid (by have := hb8.size; have := HS7.out; omega)
  have HB28 : Hid (B2 ≤ w8.heap.size) := Lib.hid (by have := hb8.size; have := HB27.out; omega)
  have b0 := HX18.out.at_ (i := 0) rfl
  have b1 := HX18.out.at_ (i := 1) rfl
  have b2 := HX18.out.at_ (i := 2) rfl
  have b3 := HX18.out.at_ (i := 3) rfl
  have b4 := HX18.out.at_ (i := 4) rfl
  clear hb8 a0 a1 d1 k3 k5 m3 m5 HE1 HE2 HS1 HS2 HS3 HFIND HX07 HX17 HX27 HO7 HROW1 HROW2 HBW HR0 HW1 HW2 HX0
  go_wp2_with fail
  refine (HCNT.out _).mono ?_
  rintro e w9 ⟨rfl, hb9⟩
  have HB98 := Lib.hid hb9
  have HX08 := Lib.hid (HX08.out.below hb9 HX08.out.lt)
  have HX18 := Lib.hid (HX18.out.below hb9 HX18.out.lt)
  have HX28 := Lib.hid (HX28.out.below hb9 HX28.out.lt)
  have HO8 := Lib.hid (HO8.out.below hb9 HO8.out.lt)
  have HB8 : Hid (Below w.heap.size w w9) := Lib.hid (keep_below hb9 HB8.out)
  have HROW18 := Lib.hid (ownsRow_same HROW18.out (fun b hb => hb9.block b (HROW18.out.lt b hb).2))
  have HROW28 := Lib.hid (ownsRow_same HROW28.out (fun b hb => hb9.block b (HROW28.out.lt b hb).2))
  clear hb9 b0 b1 b2 b3 b4
  have b1 := HX18.out.at_ (i := 1) rfl
  have b2 := HX18.out.at_ (i := 2) rfl
  have b4 := HX18.out.at_ (i := 4) rfl
  by_cases hok : 0 ≤ off ∧ off ≤ 16384 ∧ (c : Int) ≤ 16384 - off
  · obtain ⟨o0, o1, o2⟩ := hok
    obtain ⟨X, hX⟩ : ∃ X, X = wrT (txt a.live id) off s := ⟨_, rfl⟩
    have HWR : Hid (∀ W, Calls Try.prog 33 #[str (txt a.live id), .int .i64 off, str s] W fun e w' => e = .returned (str X) ∧ Below W.heap.size W w') := Lib.hid fun W => by
      have := write14_any (txt a.live id) s off.toNat W (HSANE.out.txt id) (by omega) (by rw [HSL.out]; omega)
      rw [Int.toNat_of_nonneg o0] at this
      rw [hX]
      exact this
    have HYES : Hid (wriA a id off s = ⟨a.live.put (.int .i64 id) (.lit (.string X)), a.snaps⟩) := Lib.hid (by
      unfold wriA wrE
      rw [if_pos (by rw [if_neg (by rw [HMAY.out]; decide), if_neg (by rw [HSL.out]; omega)]), hX])
    have dd : decide (off < 0) = false := decide_eq_false (by omega)
    have dd2 : decide (16384 < off) = false := decide_eq_false (by omega)
    have dd3 : decide (16384 - off < (c : Int)) = false := decide_eq_false (by omega)
    obtain ⟨w10, hw10⟩ : ∃ x, x = w9.setCell ⟨w.heap.size + 3, id.toNat, none⟩ (.bool true) := ⟨_, rfl⟩
    have u0 : w9.cell? ⟨w.heap.size + 3, id.toNat, none⟩ = some (.bool (has a.live (.int .i64 id))) := HO8.out.at_ (by rw [wV_lo hl64 (by have := HID.out.2; omega), HL.out, setL_b HID.out.2, HID.out.1])
    have uf : w9.frozen? ⟨w.heap.size + 3, id.toNat, none⟩ = false := HO8.out.fr _
    have hl9 : (l.set id.toNat (.bool true)).length = 64 := by rw [List.length_set]; exact hl64
    have O10 : Blk w10 (w.heap.size + 3) 33 (wV (l.set id.toNat (.bool true)) A3 k c3 A4 k c4) := by
      have := HO8.out.put id.toNat (.bool true)
      rw [wV_set hl64 (by have := HID.out.2; omega)] at this
      rw [hw10]
      exact this
    have f10 : ∀ i, i ≠ w.heap.size + 3 → w10.heap[i]? = w9.heap[i]? := fun i hi => by rw [hw10, Below.heap_setCell _ ⟨w.heap.size + 3, id.toNat, none⟩ _ i hi]
    have hz10 : w10.heap.size = w9.heap.size := by rw [hw10]; simp [World.setCell]
    have HO10 := Lib.hid O10
    have HX10 : Hid (Blk w10 w.heap.size 33 cs) := Lib.hid ((f10 _ (by omega)).trans HX08.out)
    have HX11 : Hid (Blk w10 (w.heap.size + 1) 37 #[.int .u8 dn, .int .i64 id, .int .i64 off, .int .i64 n, .int .u8 fill.toNat]) := Lib.hid ((f10 _ (by omega)).trans HX18.out)
    have HX12 : Hid (Blk w10 (w.heap.size + 2) 33 zW) := Lib.hid ((f10 _ (by omega)).trans HX28.out)
    have HB10 : Hid (Below w.heap.size w w10) := Lib.hid (by rw [hw10]; exact HB8.out.setCell (by simp) _)
    have HF10 := Lib.hid f10
    have HZ10 := Lib.hid hz10
    have HW10 := Lib.hid hw10
    clear hX O10 f10 hz10 hw10
    repeat' (first
      | go_values
      | go_skip
      | go_guarded
      | ((fail_if_success (with_reducible refine drawn_mark ?_))
         first
           | go_step
           | go_upon
           | go_back
           | (simp only [Int.not_lt, Int.not_le] at *; go_simp)
           | (go_values <;> (try go_simp))
           | (go_ite <;> go_prune <;> (try go_simp))
           | (split <;> (first | (rename_i hx; exact (hx _ rfl).elim) | go_prune))))
    rw [← HW10.out]
    have t1 : w10.cell? ⟨w.heap.size, 32 + id.toNat, none⟩ = some (str (txt a.live id)) := HX10.out.at_ (by rw [HCS.out, wV_lo hl64 (by have := HID.out.2; omega), HL.out, setL_s HID.out.2, HID.out.1])
    have y1 := HX11.out.at_ (i := 1) rfl
    have y2 := HX11.out.at_ (i := 2) rfl
    have y4 := HX11.out.at_ (i := 4) rfl
    obtain ⟨C, hC, hC0, hCB, hCK, hCd⟩ := cls_below w10
    have f1 : ∀ W, C W → W.cell? ⟨w.heap.size + 1, 1, none⟩ = some (.int .i64 id) := fun W hW => keep_cell (hCB W hW) y1 HX11.out.lt
    have f2 : ∀ W, C W → W.cell? ⟨w.heap.size + 1, 2, none⟩ = some (.int .i64 off) := fun W hW => keep_cell (hCB W hW) y2 HX11.out.lt
    have f4 : ∀ W, C W → W.cell? ⟨w.heap.size + 1, 4, none⟩ = some (.int .u8 fill.toNat) := fun W hW => keep_cell (hCB W hW) y4 HX11.out.lt
    have f3 : ∀ W, C W → W.cell? ⟨w.heap.size, 32 + id.toNat, none⟩ = some (str (txt a.live id)) := fun W hW => keep_cell (hCB W hW) t1 HX10.out.lt
    have HCK := Lib.hid hCK
    clear hCK hCB hCd hC0 y1 y2 y4 t1 u0 uf b1 b2 b4
    refine wp_region_eff C [13, 14] 18 (by kernel_rfl) (by kernel_rfl) (by kernel_rfl) hC ?_
    simp only [List.take_succ_cons, List.take_zero, List.drop_succ_cons, List.drop_zero]
    refine wpLexE_take 13 (by kernel_rfl) (by kernel_rfl) ?_
    simp only [List.take_succ_cons, List.take_zero, List.drop_succ_cons, List.drop_zero]
    repeat (first
      | go_big_quiet_skip
      | (go_big_quiet_want
         go_big_quiet_op
         first
           | go_big_quiet_on
           | (apply Exists.intro
              refine ⟨fun W hW => ?_, ?_⟩
              · first
                  | exact rfl
                  | exact ⟨rfl, rfl⟩
                  | (have e0 := f1 W hW; have e1 := f2 W hW; have e2 := f3 W hW; have e3 := f4 W hW; simp only [e0, e1, e2, e3, Result.andThen_ok]; done)
                  | (have e0 := f1 W hW; have e1 := f2 W hW; have e2 := f3 W hW; have e3 := f4 W hW; simp only [e0, e1, e2, e3, Result.andThen_ok]; first | exact ⟨trivial, rfl⟩ | exact rfl | exact ⟨rfl, rfl⟩)
                  | (skip)
              go_big_quiet_on)))
    refine wpQuiet_nil ?_
    show wpLexE _ _ _ _ _ _ _ _ _
    refine wpLexE_eff (by kernel_rfl) rfl ?_
    go_wp2_with fail
    refine (HFILL.out _).mono ?_
    rintro e w11 ⟨rfl, hb11⟩
    have HB11 : Hid (Below w10.heap.size w10 w11) := Lib.hid ⟨hb11.os, hb11.tape, hb11.output, hb11.size, fun i hi => hb11.block i hi⟩
    have hS11 : C w11 := HCK.out _ _ hC hb11
    clear hb11
    go_wp2_with fail
    refine ⟨rfl, hS11, ?_⟩
    refine wpLexE_eff (by kernel_rfl) rfl ?_
    go_wp2_with fail
    refine (HWR.out _).mono ?_
    rintro e w12 ⟨rfl, hb12⟩
    have HB12 : Hid (Below w10.heap.size w10 w12) := Lib.hid (keep_below hb12 HB11.out)
    have hS12 : C w12 := HCK.out _ _ hS11 hb12
    clear hb12
    go_wp2_with fail
    refine ⟨rfl, hS12, ?_⟩
    refine wpLexE_take 3 (by kernel_rfl) (by kernel_rfl) ?_
    simp only [List.take_succ_cons, List.take_zero, List.drop_succ_cons, List.drop_zero]
    repeat (first
      | go_big_quiet_skip
      | (go_big_quiet_want
         go_big_quiet_op
         first
           | go_big_quiet_on
           | (apply Exists.intro
              refine ⟨fun W hW => ?_, ?_⟩
              · first
                  | exact rfl
                  | exact ⟨rfl, rfl⟩
                  | (have e0 := f1 W hW; have e1 := f2 W hW; have e2 := f3 W hW; have e3 := f4 W hW; simp only [e0, e1, e2, e3, Result.andThen_ok]; done)
                  | (have e0 := f1 W hW; have e1 := f2 W hW; have e2 := f3 W hW; have e3 := f4 W hW; simp only [e0, e1, e2, e3, Result.andThen_ok]; first | exact ⟨trivial, rfl⟩ | exact rfl | exact ⟨rfl, rfl⟩)
                  | (skip)
              go_big_quiet_on)))
    refine wpQuiet_nil ?_
    show wpList _ _ _ _ _ _
    clear f1 f2 f3 f4 hC hS11 hS12
    have O12 := HO10.out.below HB12.out HO10.out.lt
    obtain ⟨w13, hw13⟩ : ∃ x, x = w12.setCell ⟨w.heap.size + 3, 32 + id.toNat, none⟩ (str X) := ⟨_, rfl⟩
    have st := O12.storeAt (P := Try.prog) (ty := 9) (i := 32 + id.toNat) (by rw [wV_size hl9]; have := HID.out.2; omega) (v := str X) (by kernel_rfl) rfl rfl
    rw [← hw13] at st
    have HSTO := Lib.hid st
    obtain ⟨co, hco⟩ : ∃ x, x = wV ((l.set id.toNat (.bool true)).set (32 + id.toNat) (str X)) A3 k c3 A4 k c4 := ⟨_, rfl⟩
    have HOW : Hid (Blk w13 (w.heap.size + 3) 33 co) := Lib.hid (by
      have := O12.put (32 + id.toNat) (str X)
      rw [wV_set hl9 (by have := HID.out.2; omega)] at this
      rw [hco, hw13]
      exact this)
    have HZW : Hid (Blk w13 (w.heap.size + 2) 33 zW) := Lib.hid (by rw [hw13]; exact (HX12.out.below HB12.out HX12.out.lt).far (by simp) _)
    have HBW : Hid (Below w.heap.size w w13) := Lib.hid (by rw [hw13]; exact (keep_below HB12.out HB10.out).setCell (by simp) _)
    have HC66 : Hid (co.size = 66) := Lib.hid (by rw [hco]; exact wV_size (by rw [List.length_set]; exact hl9))
    have HC1 : Hid (co.all (·.oneCell') = true) := Lib.hid (by
      rw [hco]
      refine wV_one fun u hu => ?_
      rcases List.mem_or_eq_of_mem_set hu with h' | h'
      · rcases List.mem_or_eq_of_mem_set h' with h'' | h''
        · exact hl1 u h''
        · rw [h'']; rfl
      · rw [h']; rfl)
    have HCE : Hid (co = wV (setL (wriA a id off s).live) A3 k c3 A4 k c4) := Lib.hid (by
      have e := setL_put HSANE.out.map HID.out.2 X
      rw [HID.out.1] at e
      rw [HYES.out, hco]
      simp only
      rw [e, HL.out])
    have HSN : Hid ((wriA a id off s).snaps = a.snaps) := Lib.hid (by rw [HYES.out])
    have HSZ : Hid (∀ vs : List Value, w9.heap.size ≤ (w13.setCells (w.heap.size + 2) 0 vs).heap.size) := Lib.hid (fun vs => by rw [sets_size, hw13]; have h1 := HB12.out.size; have h2 := HZ10.out; simp only [World.setCell, Array.size_modify]; omega)
    have HFAR : Hid (∀ i, w.heap.size + 4 ≤ i → i < w9.heap.size → w13.heap[i]? = w9.heap[i]?) := Lib.hid fun i h1 h2 => by
      rw [hw13, Below.heap_setCell _ ⟨w.heap.size + 3, 32 + id.toNat, none⟩ _ i (by simp; omega), HB12.out.block i (by rw [HZ10.out]; exact h2)]
      exact HF10.out i (by omega)
    clear hw13 st hco O12
    have hi33o : (Try.prog.info? 33).map (·.size) = some co.size := by rw [HC66.out]; kernel_rfl
    have HRES := Lib.hid (HZW.out.putAll co (by rw [zW_size, HC66.out]))
    have hth := HZW.out.there (o := 0) (n := co.size) (by rw [zW_size, HC66.out]; omega)
    have HBR := Lib.hid (below_sets (g := w.heap.size + 2) co.toList 0 HBW.out (by omega))
    go_wp2_with (first
      | ((with_reducible refine wpList_store_run ?q1 9 (.tmp 86) (.tmp 83) ?q2 _ _ ?q3 ?q4 w13 HSTO.out ?_); (case q2 => rfl); (case q3 => rfl); (case q4 => rfl); (case q1 => rfl); simp only [Act.put, List.setIfInBounds_toArray, List.set_cons_zero, List.set_cons_succ])
      | ((with_reducible refine wpList_load_want ?qw 33 (.tmp 7) ?q2 (w.heap.size + 3) ?q3 33 co _ HOW.out Try.underlying33 rfl hi33o ?_); (case q2 => rfl); (case q3 => rfl); (case qw => rfl); simp only [Act.put, List.setIfInBounds_toArray, List.set_cons_zero, List.set_cons_succ])
      | ((with_reducible refine wpList_store_mid ?a1 33 (.tmp 4) (.tmp 215) ?a2 (w.heap.size + 2) 0 co ?a3 ?a4 hth hi33o HC1.out ?_); (case a1 => rfl); (case a2 => rfl); (case a3 => rfl); (case a4 => rfl); simp only [Act.put, List.setIfInBounds_toArray, List.set_cons_zero, List.set_cons_succ]))
    refine bodyPost_ret (v := .tuple #[.agg co, .int .i64 0]) (results_cell_slot rfl _ _ (w.heap.size + 2) 33 co (0, 0) _ rfl HRES.out Try.underlying33 rfl hi33o _ rfl) rfl ⟨co, 0, rfl, ?_, HBR.out⟩
    rw [HCE.out]
    refine ref_of_rows (W0 := w9) (n := w.heap.size) (B := w.heap.size + 4) (B2 := B2) ?_ ?_ (Nat.le_refl _) HB2.out ?_ (by rw [HSN.out]; exact HK.out) (HSZ.out _)
    · have : idC (wriA a id off s) = idC a := by unfold idC; rw [HSN.out]
      rw [this]; exact HROW18.out
    · have : snC (wriA a id off s) = snC a := by unfold snC; rw [HSN.out]
      rw [this]; exact HROW28.out
    · intro i h1 h2
      rw [sets_apart _ _ _ _ (by omega)]
      exact HFAR.out i h1 h2
  · have HNO : Hid (wriA a id off s = a) := Lib.hid (by
      unfold wriA wrE
      rw [if_neg]
      rw [if_neg (by rw [HMAY.out]; decide), if_pos (by rw [HSL.out]; omega)]
      decide)
    by_cases hn0 : off < 0
    · have dd : decide (off < 0) = true := decide_eq_true hn0
      clear hok
      have HRES := Lib.hid (HX28.out.putAll cs (by rw [zW_size, hcsz]))
      have hth := HX28.out.there (o := 0) (n := cs.size) (by rw [zW_size, hcsz]; omega)
      have HBR := Lib.hid (below_sets (g := w.heap.size + 2) cs.toList 0 HB8.out (by omega))
      go_wp2_with (first
        | ((with_reducible refine wpList_load_want ?qw 33 (.tmp 2) ?q2 w.heap.size ?q3 33 cs _ HX08.out Try.underlying33 rfl hi33 ?_); (case q2 => rfl); (case q3 => rfl); (case qw => rfl); simp only [Act.put, List.setIfInBounds_toArray, List.set_cons_zero, List.set_cons_succ])
        | ((with_reducible refine wpList_store_mid ?a1 33 (.tmp 4) (.tmp 63) ?a2 (w.heap.size + 2) 0 cs ?a3 ?a4 hth hi33 h1c ?_); (case a1 => rfl); (case a2 => rfl); (case a3 => rfl); (case a4 => rfl); simp only [Act.put, List.setIfInBounds_toArray, List.set_cons_zero, List.set_cons_succ])
        )
      refine bodyPost_ret (v := .tuple #[.agg cs, .int .i64 1]) (results_cell_slot rfl _ _ (w.heap.size + 2) 33 cs (0, 0) _ rfl HRES.out Try.underlying33 rfl hi33 _ rfl) rfl ⟨cs, 1, rfl, ?_, HBR.out⟩
      rw [HNO.out]
      exact ⟨H.out.below HBR.out, .inl rfl⟩
    · have dd : decide (off < 0) = false := decide_eq_false hn0
      by_cases hn1 : 16384 < off
      · have dd2 : decide (16384 < off) = true := decide_eq_true hn1
        clear hok
        have HRES := Lib.hid (HX28.out.putAll cs (by rw [zW_size, hcsz]))
        have hth := HX28.out.there (o := 0) (n := cs.size) (by rw [zW_size, hcsz]; omega)
        have HBR := Lib.hid (below_sets (g := w.heap.size + 2) cs.toList 0 HB8.out (by omega))
        go_wp2_with (first
          | ((with_reducible refine wpList_load_want ?qw 33 (.tmp 2) ?q2 w.heap.size ?q3 33 cs _ HX08.out Try.underlying33 rfl hi33 ?_); (case q2 => rfl); (case q3 => rfl); (case qw => rfl); simp only [Act.put, List.setIfInBounds_toArray, List.set_cons_zero, List.set_cons_succ])
          | ((with_reducible refine wpList_store_mid ?a1 33 (.tmp 4) (.tmp 63) ?a2 (w.heap.size + 2) 0 cs ?a3 ?a4 hth hi33 h1c ?_); (case a1 => rfl); (case a2 => rfl); (case a3 => rfl); (case a4 => rfl); simp only [Act.put, List.setIfInBounds_toArray, List.set_cons_zero, List.set_cons_succ])
          )
        refine bodyPost_ret (v := .tuple #[.agg cs, .int .i64 1]) (results_cell_slot rfl _ _ (w.heap.size + 2) 33 cs (0, 0) _ rfl HRES.out Try.underlying33 rfl hi33 _ rfl) rfl ⟨cs, 1, rfl, ?_, HBR.out⟩
        rw [HNO.out]
        exact ⟨H.out.below HBR.out, .inl rfl⟩
      · have dd2 : decide (16384 < off) = false := decide_eq_false hn1
        have hn2 : 16384 - off < (c : Int) := by omega
        have dd3 : decide (16384 - off < (c : Int)) = true := decide_eq_true hn2
        clear hok
        have HRES := Lib.hid (HX28.out.putAll cs (by rw [zW_size, hcsz]))
        have hth := HX28.out.there (o := 0) (n := cs.size) (by rw [zW_size, hcsz]; omega)
        have HBR := Lib.hid (below_sets (g := w.heap.size + 2) cs.toList 0 HB8.out (by omega))
        go_wp2_with (first
          | ((with_reducible refine wpList_load_want ?qw 33 (.tmp 2) ?q2 w.heap.size ?q3 33 cs _ HX08.out Try.underlying33 rfl hi33 ?_); (case q2 => rfl); (case q3 => rfl); (case qw => rfl); simp only [Act.put, List.setIfInBounds_toArray, List.set_cons_zero, List.set_cons_succ])
          | ((with_reducible refine wpList_store_mid ?a1 33 (.tmp 4) (.tmp 63) ?a2 (w.heap.size + 2) 0 cs ?a3 ?a4 hth hi33 h1c ?_); (case a1 => rfl); (case a2 => rfl); (case a3 => rfl); (case a4 => rfl); simp only [Act.put, List.setIfInBounds_toArray, List.set_cons_zero, List.set_cons_succ])
          )
        refine bodyPost_ret (v := .tuple #[.agg cs, .int .i64 1]) (results_cell_slot rfl _ _ (w.heap.size + 2) 33 cs (0, 0) _ rfl HRES.out Try.underlying33 rfl hi33 _ rfl) rfl ⟨cs, 1, rfl, ?_, HBR.out⟩
        rw [HNO.out]
        exact ⟨H.out.below HBR.out, .inl rfl⟩
end Go.Proofs.Ytckicdbiiepngaa
