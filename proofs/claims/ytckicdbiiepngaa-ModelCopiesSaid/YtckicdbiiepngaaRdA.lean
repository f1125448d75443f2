/-
  What an act comes to, by the document: Destroy.
-/
import Derived.Test.YtckicdbiiepngaaRd7
namespace Go.Proofs.Ytckicdbiiepngaa
set_option linter.unusedVariables false
set_option linter.unusedSimpArgs false
open Go.RowKit Go.Maps Go.Lib Go.Shelf

theorem slice_hi_run {P : Program} {t e : TypeId} {size : Nat} (ht : P.underlying t = some (.slice e)) (hi : (P.info? e).map (·.size) = some size) (W : World) (b off n cap i : Nat) (h : i ≤ cap) :
    (Instr.slice t (.slice (some ⟨b, off, none⟩) n cap) none (some (.int .i64 i)) none).run P W = .ok (.slice (some ⟨b, off, none⟩) i cap) W := by
  cases hq : P.info? e with
  | none => simp [hq] at hi
  | some k => simp [Instr.slice, Instr.sliceBounds, Instr.sliceBound, run_underlying ht, sizeOf, typeInfo, hq, go_sem, h, Addr.add]
theorem slice_lo_run {P : Program} {t e : TypeId} {size : Nat} (ht : P.underlying t = some (.slice e)) (hi : (P.info? e).map (·.size) = some size) (hs : 0 < size) (b off n cap i : Nat) (h : i + 1 ≤ n) (hc : n ≤ cap) :
    ∃ A : Addr, (i + 1 < n → A = ⟨b, off + (i + 1) * size, none⟩) ∧ ∀ W : World, (Instr.slice t (.slice (some ⟨b, off, none⟩) n cap) (some (.int .i64 ((i : Int) + 1))) none none).run P W = .ok (.slice (some A) (n - (i + 1)) (cap - (i + 1))) W := by
  refine ⟨if cap = i + 1 then ⟨b, off, none⟩ else ⟨b, off + (i + 1) * size, none⟩, fun hlt => by rw [if_neg (by omega)], fun W => ?_⟩
  cases hq : P.info? e with
  | none => simp [hq] at hi
  | some k =>
    have hks : k.size = size := by simpa [hq] using hi
    have e1 : ((i : Int) + 1) = ((i + 1 : Nat) : Int) := by omega
    rw [e1]
    have hpos : 0 < i + 1 := by omega
    clear e1
    generalize i + 1 = j at *
    by_cases e0 : j = 0
    · omega
    · have hz : ¬ j * size = 0 := Nat.mul_ne_zero e0 (by omega)
      by_cases e2 : cap = j
      · simp [hz, Instr.slice, Instr.sliceBounds, Instr.sliceBound, run_underlying ht, sizeOf, typeInfo, hq, hks, go_sem, h, Addr.add, e2]
      · simp [hz, Instr.slice, Instr.sliceBounds, Instr.sliceBound, run_underlying ht, sizeOf, typeInfo, hq, hks, go_sem, h, Addr.add, e2]

/-- A row built anew of two parts of another one. -/
theorem del_row {P : Program} {T ty e : TypeId} {size bytes : Nat} {z : Value} (ht : P.underlying T = some (.slice e)) (hinf : (P.info? e).map (fun i => (i.zero, i.size, i.bytes)) = some (some z, size, bytes)) (hzs : z.cells.size = size) (hsz : 0 < size) (hby : bytes ≤ 100000)
    {w8 : World} {b off k cap i : Nat} {xs : List Value} (hr : Reads w8 size (some ⟨b, off, none⟩) k xs) (hi : i < k) (hk : k ≤ 4) (hcap : k ≤ cap) (h1 : ∀ u ∈ xs, u.oneCell' = true) {A : Option Addr} (hA : i + 1 < k → A = some ⟨b, off + (i + 1) * size, none⟩) :
    ∃ A5 c5 w10 A6 c6 w11, (Builtin.append_ #[T, T] ty #[.slice (some ⟨w8.heap.size, 0, none⟩) 0 0, .slice (some ⟨b, off, none⟩) i cap]).run P (w8.alloc (.cells #[] e)) = .ok (.slice A5 i c5) w10 ∧
      (Builtin.append_ #[T, T] ty #[.slice A5 i c5, .slice A (k - (i + 1)) (cap - (i + 1))]).run P w10 = .ok (.slice A6 (k - 1) c6) w11 ∧
      w11.ownsRow w8.heap.size e size (.slice A6 (k - 1) c6) (k - 1) (xs.take (i * size) ++ xs.drop ((i + 1) * size)) ∧ Below w8.heap.size w8 w10 ∧ Below w8.heap.size w8 w11 := by
  obtain ⟨i1, p1, p2, p3, p4⟩ := info_parts hinf
  obtain ⟨w9, hw9⟩ : ∃ x, x = w8.alloc (.cells #[] e) := ⟨_, rfl⟩
  have b9 : Below w8.heap.size w8 w9 := by rw [hw9]; exact keep_alloc (Below.refl _ _) _
  have z9 : w9.heap.size = w8.heap.size + 1 := by rw [hw9]; simp
  have hown : w9.ownsRow w8.heap.size e size (.slice (some ⟨w8.heap.size, 0, none⟩) 0 0) 0 [] :=
    ⟨by simp, .inr ⟨w8.heap.size, 0, #[], rfl, Nat.le_refl _, by rw [hw9]; exact heap_alloc_new w8 _, Nat.le_refl _, by unfold maxLen; omega, by simp, by simp⟩⟩
  rw [← hw9]
  obtain ⟨A5, c5, w10, e1, o1, g1, f1⟩ := app_run (P := P) (ty := ty) (c := cap) ht p1 p2 p3 p4 hzs hsz hown (by omega) ((hr.below b9 (Nat.le_refl _)).take (i := i) (by omega)) (fun u hu => h1 u (List.mem_of_mem_take hu)) (by omega) hby
  rw [Nat.zero_add] at e1 o1
  rw [List.nil_append] at o1
  have b10 : Below w8.heap.size w8 w10 := b9.grown g1 (by omega) (fun y hy => by simp [Value.ownBlock] at hy; omega)
  have hr10 := hr.below b10 (Nat.le_refl _)
  have hz10 := b10.size
  obtain ⟨A6, c6, w11, e2, o2, g2, f2⟩ := app_run (P := P) (ty := ty) (c := cap - (i + 1)) ht p1 p2 p3 p4 hzs hsz o1 (by omega) (hr10.drop (j := i + 1) (by omega) (A' := A) hA) (fun u hu => h1 u (List.mem_of_mem_drop hu)) (by omega) hby
  have ek : i + (k - (i + 1)) = k - 1 := by omega
  rw [ek] at e2 o2
  exact ⟨A5, c5, w10, A6, c6, w11, e1, e2, o2, b10, b10.grown g2 (by omega) (fun y hy => (o1.lt y hy).1)⟩
theorem take_flat : ∀ (ss : List (Int × DT)) (i : Nat), (ss.flatMap fun p => setL p.2).take (i * 64) = (ss.take i).flatMap fun p => setL p.2
  | [], i => by simp
  | q :: ss, 0 => by simp
  | q :: ss, i + 1 => by
    rw [List.flatMap_cons, List.take_succ_cons, List.flatMap_cons, List.take_append, setL_len, List.take_of_length_le (by rw [setL_len]; omega), show (i + 1) * 64 - 64 = i * 64 by omega, take_flat ss i]
theorem drop_flat : ∀ (ss : List (Int × DT)) (i : Nat), (ss.flatMap fun p => setL p.2).drop (i * 64) = (ss.drop i).flatMap fun p => setL p.2
  | [], i => by simp
  | q :: ss, 0 => by simp
  | q :: ss, i + 1 => by
    rw [List.flatMap_cons, List.drop_succ_cons, List.drop_append, setL_len, List.drop_of_length_le (by rw [setL_len]; omega), show (i + 1) * 64 - 64 = i * 64 by omega, drop_flat ss i, List.nil_append]
theorem snC_erase (a : AllA) (i : Nat) : snC ⟨a.live, a.snaps.eraseIdx i⟩ = (snC a).take (i * 64) ++ (snC a).drop ((i + 1) * 64) := by
  unfold snC
  rw [take_flat, drop_flat, List.eraseIdx_eq_take_drop_succ, List.flatMap_append]
theorem idC_erase (a : AllA) (i : Nat) : idC ⟨a.live, a.snaps.eraseIdx i⟩ = (idC a).take (i * 1) ++ (idC a).drop ((i + 1) * 1) := by
  unfold idC
  rw [Nat.mul_one, Nat.mul_one, List.eraseIdx_eq_take_drop_succ, List.map_append, List.map_take, List.map_drop]

set_option maxRecDepth 20000 in
set_option maxHeartbeats 8000000 in
theorem rdo_6 {w : World} {cs : Array Value} {a : AllA} (h : RefW w cs a) (hs : Sane a) (x : MAct) (hx : x.Ok) (h3 : x.do_ % 8 = 6) :
    Calls Try.prog 11 #[.agg cs, .agg #[.int .u8 x.do_, .int .i64 x.id, .int .i64 x.off, .int .i64 x.n, .int .u8 x.fill.toNat]] w fun e w' => RdoP w cs (actA a x) e w' := by
  have hact : actA a x = desA a x.id := by unfold actA; rw [if_neg (by omega), if_neg (by omega), if_neg (by omega), if_pos h3]
  rw [hact]
  clear hact
  obtain ⟨dn, id, off, n, fill⟩ := x
  simp only at h3 ⊢
  have hq : (dn : Int).tmod 8 = ((6 : Nat) : Int) := mod_eq 8 h3
  rw [show ((6 : Nat) : Int) = 6 from rfl] at hq
  have H := Lib.hid h
  have HX := Lib.hid hx
  obtain ⟨A1, c1, A2, c2, hcs, hr1, hr2, hc1, hc2⟩ := h
  have hcsz : cs.size = 66 := by rw [hcs, wV_size (setL_len _)]
  have hi33 : (Try.prog.info? 33).map (·.size) = some cs.size := by rw [hcsz]; kernel_rfl
  have h1c : cs.all (·.oneCell') = true := by rw [hcs]; exact wV_one (setL_one _)
  obtain ⟨w1, hw1⟩ : ∃ x, x = ((w.alloc (.cells cs 33)).alloc (.cells #[.int .u8 dn, .int .i64 id, .int .i64 off, .int .i64 n, .int .u8 fill.toNat] 37)).alloc (.cells zW 33) := ⟨_, rfl⟩
  have X0 : Blk w1 w.heap.size 33 cs := by rw [hw1]; exact ((Blk.new w _ _).alloc _).alloc _
  have X1 : Blk w1 (w.heap.size + 1) 37 #[.int .u8 dn, .int .i64 id, .int .i64 off, .int .i64 n, .int .u8 fill.toNat] := by rw [hw1]; exact (Blk.new2 w _ _ _).alloc _
  have X2 : Blk w1 (w.heap.size + 2) 33 zW := by
    rw [hw1]
    have := Blk.new2 (w.alloc (.cells cs 33)) (.cells #[.int .u8 dn, .int .i64 id, .int .i64 off, .int .i64 n, .int .u8 fill.toNat] 37) 33 zW
    simpa using this
  have hb1 : Below w.heap.size w w1 := by rw [hw1]; exact keep_alloc (keep_alloc (keep_alloc (Below.refl _ _) _) _) _
  have hs1 : w1.heap.size = w.heap.size + 3 := by rw [hw1]; simp
  obtain ⟨k, hk⟩ : ∃ k, k = a.snaps.length := ⟨_, rfl⟩
  have hk4 : k ≤ 4 := by rw [hk]; exact hs.few
  obtain ⟨l, hl⟩ : ∃ x, x = setL a.live := ⟨_, rfl⟩
  have hl64 : l.length = 64 := by rw [hl, setL_len]
  have hl1 : ∀ u ∈ l, u.oneCell' = true := by rw [hl]; exact setL_one _
  rw [← hl, ← hk] at hcs
  rw [← hk] at hr1 hr2 hc1 hc2
  obtain ⟨cO, hcO⟩ : ∃ x, x = wV l none 0 0 none 0 0 := ⟨_, rfl⟩
  have HBW : Hid (∀ W, (Instr.build 33 #[(0, .agg l.toArray)]).run Try.prog W = .ok (.agg cO) W) := Lib.hid (by rw [hcO, hl]; exact build_w _)
  have hi29 : (Try.prog.info? 29).map (·.size) = some l.length := by rw [hl64]; kernel_rfl
  have HR0 : Hid (w1.rangeAt w.heap.size 0 l) := Lib.hid (fun j v hv => by
    have hj := (List.getElem?_eq_some_iff.1 hv).1
    rw [Nat.zero_add]
    exact X0.at_ (by rw [hcs, wV_lo hl64 (by omega)]; exact hv))
  have hcO66 : cO.size = 66 := by rw [hcO, wV_size hl64]
  have hcO1 : cO.all (·.oneCell') = true := by rw [hcO]; exact wV_one hl1
  obtain ⟨w2, hw2⟩ : ∃ x, x = w1.alloc (.cells zW 33) := ⟨_, rfl⟩
  have hs2 : w2.heap.size = w.heap.size + 4 := by rw [hw2]; simp [hs1]
  have O2 : Blk w2 (w.heap.size + 3) 33 zW := by rw [hw2, ← hs1]; exact Blk.new _ _ _
  obtain ⟨w3, hw3⟩ : ∃ x, x = w2.setCells (w.heap.size + 3) 0 cO.toList := ⟨_, rfl⟩
  have HS3 : Hid ((Instr.storeAt 33 (.pointer (some ⟨w.heap.size + 3, 0, none⟩)) (.agg cO)).run Try.prog w2 = .ok () w3) := Lib.hid (by
    rw [hw3]
    exact run_storeAt_mid w2 _ _ _ cO (O2.there (by rw [zW_size, hcO66]; omega)) (by rw [hcO66]; kernel_rfl) hcO1)
  have O3 : Blk w3 (w.heap.size + 3) 33 (wV l none 0 0 none 0 0) := by rw [hw3, ← hcO]; exact O2.putAll _ (by rw [zW_size, hcO66])
  have hb13 : Below w1.heap.size w1 w3 := by rw [hw3, hw2]; exact below_sets _ _ (keep_alloc (Below.refl _ _) _) (by omega)
  have hs3 : w.heap.size + 4 ≤ w3.heap.size := by have := O3.lt; omega
  have hr1' := hr1.below hb1 (Nat.le_refl _)
  have hr2' := hr2.below hb1 (Nat.le_refl _)
  obtain ⟨A3, c3, w4, w5, A4, c4, w6, w7, B2, e1, s1, e2, s2, O5, O7, row1, row2, hB2, hlo, b35, b37, hs7, hb27⟩ := two_rows (c1 := c1) (c2 := c2) hl64 O3 hs3 hk4 hb13 (by omega) hr1' hr2' (idC_one a) (snC_one a)
  have hb17 : Below w1.heap.size w1 w7 := hb13.trans (b37.mono (by omega))
  have X03 := X0.below hb13 X0.lt
  have X05 := X03.below b35 (by omega)
  have HX07 := Lib.hid (X0.below hb17 X0.lt)
  have HX17 := Lib.hid (X1.below hb17 X1.lt)
  have HX27 := Lib.hid (X2.below hb17 X2.lt)
  have HB7 := Lib.hid (hb1.trans (hb17.mono (by omega)))
  have a0 := X1.at_ (i := 0) rfl
  have a1 := X1.at_ (i := 1) rfl
  have d1 := HX17.out.at_ (i := 1) rfl
  have k3 := O3.at_ (wV_64 hl64)
  have k5 := O5.at_ (wV_65 hl64)
  have m3 := X03.at_ (i := 64) (by rw [hcs]; exact wV_64 hl64)
  have m5 := X05.at_ (i := 65) (by rw [hcs]; exact wV_65 hl64)
  have HFIND := Lib.hid (rfind_any (w := w7) (cs := cs) (A1 := A1) (c1 := c1) (ids := a.ids) (by rw [hcs, ids_len, ← hk]; exact wV_64 hl64) (by rw [← idC_eq, ids_len, ← hk]; exact hr1.below HB7.out (Nat.le_refl _)) (by rw [ids_len, ← hk]; omega) id)
  have HE1 := Lib.hid e1
  have HE2 := Lib.hid e2
  have HS1 := Lib.hid s1
  have HS2 := Lib.hid s2
  have HO7 := Lib.hid O7
  have HROW1 := Lib.hid row1
  have HROW2 := Lib.hid row2
  have HB2 := Lib.hid hB2
  have HLO := Lib.hid hlo
  have HS7 := Lib.hid hs7
  have HB27 := Lib.hid hb27
  have HCS := Lib.hid hcs
  have HK := Lib.hid hk
  have HL := Lib.hid hl
  have HCO := Lib.hid hcO
  have HW1 := Lib.hid hw1.symm
  have HW2 := Lib.hid hw2.symm
  have HX0 := Lib.hid X0
  have HSIZ := Lib.hid hs1
  have HSIZ2 := Lib.hid hs2
  have HSANE := Lib.hid hs
  have HR1 := Lib.hid hr1
  have HR2 := Lib.hid hr2
  try simp only
  clear hw1 hw2 hw3 hx hcs hr1 hr2 hb1 hs1 hs2 hs3 X0 X1 X2 e1 e2 s1 s2 O2 O3 O5 O7 row1 row2 hB2 hlo hs7 hb27 hk hl hcO hb13 hb17 b35 b37 X03 X05 hr1' hr2' hs
  go_enter Try.func11, Try.ntmps11
  go_wp2_with (first
    | ((with_reducible refine wpList_box_want ?q1 33 (.tmp 0) ?q2 cs ?q3 w.heap.size ?q4 ?_); (case q2 => rfl); (case q3 => rfl); (case q4 => rfl); (case q1 => rfl); simp only [Act.put, List.setIfInBounds_toArray, List.set_cons_zero, List.set_cons_succ])
    | ((with_reducible refine wpList_alloc_want ?q1 33 ?q2 zW zW_is (w.heap.size + 2) ?q4 w1 HW1.out ?_); (case q2 => rfl); (case q4 => simp); (case q1 => rfl); simp only [Act.put, List.setIfInBounds_toArray, List.set_cons_zero, List.set_cons_succ])
    | ((with_reducible refine wpList_mid_want ?q1 29 (.tmp 26) ?q2 w.heap.size 0 ?q3 l _ HR0.out Try.underlying29 rfl hi29 ?_); (case q2 => rfl); (case q3 => rfl); (case q1 => rfl); simp only [Act.put, List.setIfInBounds_toArray, List.set_cons_zero, List.set_cons_succ])
    | ((with_reducible refine wpList_build_want ?q1 33 #[(0, .tmp 27)] ?q2 #[(0, .agg l.toArray)] ?q3 (.agg cO) (HBW.out _) ?_); (case q2 => rfl); (case q3 => simp [Act.eval, Act.put]); (case q1 => rfl); simp only [Act.put, List.setIfInBounds_toArray, List.set_cons_zero, List.set_cons_succ])
    | ((with_reducible refine wpList_alloc_want ?q1 33 ?q2 zW zW_is (w.heap.size + 3) ?q4 w2 HW2.out ?_); (case q2 => rfl); (case q4 => exact HSIZ.out); (case q1 => rfl); simp only [Act.put, List.setIfInBounds_toArray, List.set_cons_zero, List.set_cons_succ])
    | ((with_reducible refine wpList_store_run ?q1 33 (.tmp 7) (.tmp 28) ?q2 _ _ ?q3 ?q4 w3 HS3.out ?_); (case q2 => rfl); (case q3 => rfl); (case q4 => rfl); (case q1 => rfl); simp only [Act.put, List.setIfInBounds_toArray, List.set_cons_zero, List.set_cons_succ])
    | ((with_reducible refine wpList_append_want ?qw (.tmp 30) (.tmp 32) _ _ _ ?qo ?qt _ _ ?qs ?qx _ _ HE1.out ?_); (case qo => rfl); (case qt => rfl); (case qs => rfl); (case qx => rfl); (case qw => rfl); simp only [Act.put, List.setIfInBounds_toArray, List.set_cons_zero, List.set_cons_succ])
    | ((with_reducible refine wpList_store_run ?q1 30 (.tmp 34) (.tmp 33) ?q2 _ _ ?q3 ?q4 w5 HS1.out ?_); (case q2 => rfl); (case q3 => rfl); (case q4 => rfl); (case q1 => rfl); simp only [Act.put, List.setIfInBounds_toArray, List.set_cons_zero, List.set_cons_succ])
    | ((with_reducible refine wpList_append_want ?qw (.tmp 36) (.tmp 38) _ _ _ ?qo ?qt _ _ ?qs ?qx _ _ HE2.out ?_); (case qo => rfl); (case qt => rfl); (case qs => rfl); (case qx => rfl); (case qw => rfl); simp only [Act.put, List.setIfInBounds_toArray, List.set_cons_zero, List.set_cons_succ])
    | ((with_reducible refine wpList_store_run ?q1 31 (.tmp 40) (.tmp 39) ?q2 _ _ ?q3 ?q4 w7 HS2.out ?_); (case q2 => rfl); (case q3 => rfl); (case q4 => rfl); (case q1 => rfl); simp only [Act.put, List.setIfInBounds_toArray, List.set_cons_zero, List.set_cons_succ])
    | ((with_reducible refine wpList_load_want ?qw 33 (.tmp 2) ?q2 w.heap.size ?q3 33 cs _ HX07.out Try.underlying33 rfl hi33 ?_); (case q2 => rfl); (case q3 => rfl); (case qw => rfl); simp only [Act.put, List.setIfInBounds_toArray, List.set_cons_zero, List.set_cons_succ]))
  refine HFIND.out.mono ?_
  rintro e w8 ⟨rfl, hb8⟩
  have HX08 := Lib.hid (HX07.out.below hb8 HX07.out.lt)
  have HX18 := Lib.hid (HX17.out.below hb8 HX17.out.lt)
  have HX28 := Lib.hid (HX27.out.below hb8 HX27.out.lt)
  have HO8 := Lib.hid (HO7.out.below hb8 HO7.out.lt)
  have HB8 : Hid (Below w.heap.size w w8) := Lib.hid (keep_below hb8 HB7.out)
  have HROW18 := Lib.hid (ownsRow_same HROW1.out (fun b hb => hb8.block b (HROW1.out.lt b hb).2))
  have HROW28 := Lib.hid (ownsRow_same HROW2.out (fun b hb => hb8.block b (HROW2.out.lt b hb).2))
  have HS8 : Hid (w.heap.size + 4 ≤ w8.heap.size) := Lib.hid (by have := hb8.size; have := HS7.out; omega)
  have HB28 : Hid (B2 ≤ w8.heap.size) := Lib.hid (by have := hb8.size; have := HB27.out; omega)
  have b0 := HX18.out.at_ (i := 0) rfl
  have b1 := HX18.out.at_ (i := 1) rfl
  have b2 := HX18.out.at_ (i := 2) rfl
  have b3 := HX18.out.at_ (i := 3) rfl
  have b4 := HX18.out.at_ (i := 4) rfl
  clear hb8 a0 a1 d1 k3 k5 m3 m5 HE1 HE2 HS1 HS2 HS3 HFIND HX07 HX17 HX27 HO7 HROW1 HROW2 HBW HR0 HW1 HW2 HX0
  rcases fstI_or a.ids id with ⟨hf, he⟩ | ⟨i, hf, he⟩
  · rw [he]
    have HNO : Hid (desA a id = a) := Lib.hid (by unfold desA; rw [hf])
    clear hf he
    have HRES := Lib.hid (HX28.out.putAll cs (by rw [zW_size, hcsz]))
    have hth := HX28.out.there (o := 0) (n := cs.size) (by rw [zW_size, hcsz]; omega)
    have HBR := Lib.hid (below_sets (g := w.heap.size + 2) cs.toList 0 HB8.out (by omega))
    go_wp2_with (first
      | ((with_reducible refine wpList_load_want ?qw 33 (.tmp 2) ?q2 w.heap.size ?q3 33 cs _ HX08.out Try.underlying33 rfl hi33 ?_); (case q2 => rfl); (case q3 => rfl); (case qw => rfl); simp only [Act.put, List.setIfInBounds_toArray, List.set_cons_zero, List.set_cons_succ])
      | ((with_reducible refine wpList_store_mid ?a1 33 (.tmp 4) (.tmp 177) ?a2 (w.heap.size + 2) 0 cs ?a3 ?a4 hth hi33 h1c ?_); (case a1 => rfl); (case a2 => rfl); (case a3 => rfl); (case a4 => rfl); simp only [Act.put, List.setIfInBounds_toArray, List.set_cons_zero, List.set_cons_succ])
      )
    refine bodyPost_ret (v := .tuple #[.agg cs, .int .i64 7]) (results_cell_slot rfl _ _ (w.heap.size + 2) 33 cs (0, 0) _ rfl HRES.out Try.underlying33 rfl hi33 _ rfl) rfl ⟨cs, 7, rfl, ?_, HBR.out⟩
    rw [HNO.out]
    exact ⟨H.out.below HBR.out, .inl rfl⟩
  · rw [he]
    have hik : i < a.snaps.length := ids_get hf
    have HYES : Hid (desA a id = ⟨a.live, a.snaps.eraseIdx i⟩) := Lib.hid (by unfold desA; rw [hf])
    have hikk : i < k := by rw [HK.out]; exact hik
    have rd1 := HR1.out.below HB8.out (Nat.le_refl _)
    have rd2 := HR2.out.below HB8.out (Nat.le_refl _)
    obtain ⟨b, of1, hA1, _, _⟩ := rd1.2 (by omega)
    obtain ⟨bb, of2, hA2, _, _⟩ := rd2.2 (by omega)
    subst hA1 hA2
    have t64 : w8.cell? ⟨w.heap.size, 64, none⟩ = some (.slice (some ⟨b, of1, none⟩) k c1) := HX08.out.at_ (by rw [HCS.out]; exact wV_64 hl64)
    obtain ⟨L1, hLe1⟩ : ∃ x, x = if c1 = i + 1 then some (⟨b, of1, none⟩ : Addr) else some ⟨b, of1 + (i + 1), none⟩ := ⟨_, rfl⟩
    have hL1 : i + 1 < k → L1 = some ⟨b, of1 + (i + 1) * 1, none⟩ := fun h => by rw [hLe1, if_neg (by omega), Nat.mul_one]
    have HLE1 := Lib.hid hLe1.symm
    obtain ⟨L2, hLe2⟩ : ∃ x, x = if c2 = i + 1 then some (⟨bb, of2, none⟩ : Addr) else some ⟨bb, of2 + (i + 1) * 64, none⟩ := ⟨_, rfl⟩
    have hL2 : i + 1 < k → L2 = some ⟨bb, of2 + (i + 1) * 64, none⟩ := fun h => by rw [hLe2, if_neg (by omega)]
    have HLE2 := Lib.hid hLe2.symm
    clear hLe1 hLe2
    obtain ⟨A5, c5, w10, A6, c6, w11, e1, e2, ro, b10, b11⟩ := del_row (P := Try.prog) (ty := 30) Try.underlying30 Try.infoRI rfl (by decide) (by decide) (rd1.drew) hikk hk4 hc1 (idC_one a) hL1
    have zd : w8.drew.heap.size = w8.heap.size := rfl
    rw [zd] at e1 ro b10 b11
    have hs8 := HS8.out
    obtain ⟨w12, hw12⟩ : ∃ x, x = w11.setCell ⟨w.heap.size + 3, 64, none⟩ (.slice A6 (k - 1) c6) := ⟨_, rfl⟩
    have b8d : Below w8.heap.size w8 w8.drew := ⟨rfl, rfl, rfl, Nat.le_refl _, fun _ _ => rfl⟩
    have b811 : Below w8.heap.size w8 w11 := b8d.trans b11
    have b810 : Below w8.heap.size w8 w10 := b8d.trans b10
    have O11 := HO8.out.below b811 (by omega)
    have s1 := O11.storeAt (P := Try.prog) (ty := 30) (i := 64) (by rw [wV_size hl64]; omega) (v := .slice A6 (k - 1) c6) (by kernel_rfl) rfl rfl
    rw [← hw12] at s1
    have O12 : Blk w12 (w.heap.size + 3) 33 (wV l A6 (k - 1) c6 A4 k c4) := by
      have := O11.put 64 (.slice A6 (k - 1) c6)
      rwa [wV_set64 hl64, ← hw12] at this
    have f12 : ∀ j, j ≠ w.heap.size + 3 → w12.heap[j]? = w11.heap[j]? := fun j hj => by rw [hw12]; exact Below.heap_setCell _ ⟨w.heap.size + 3, 64, none⟩ _ j hj
    have z12 : w12.heap.size = w11.heap.size := by rw [hw12]; simp [World.setCell]
    have b12 : Below (w.heap.size + 3) w8 w12 := by rw [hw12]; exact Below.setCell (b811.mono (show w.heap.size + 3 ≤ w8.heap.size by omega)) (Nat.le_refl _) _
    have bw12 : Below w.heap.size w w12 := HB8.out.trans (b12.mono (by omega))
    have X012 := HX08.out.below b12 (by omega)
    have X212 := HX28.out.below b12 (by omega)
    have u65 : w12.cell? ⟨w.heap.size, 65, none⟩ = some (.slice (some ⟨bb, of2, none⟩) k c2) := X012.at_ (by rw [HCS.out]; exact wV_65 hl64)
    have rd2' := HR2.out.below bw12 (Nat.le_refl _)
    obtain ⟨A7, c7, w14, A8, c8, w15, e3, e4, ro2, b14, b15⟩ := del_row (P := Try.prog) (ty := 31) Try.underlying31 Try.infoRS (by simp [Value.cells, setL_len]) (by decide) (by decide) (rd2'.drew) hikk hk4 hc2 (snC_one a) hL2
    have zd2 : w12.drew.heap.size = w12.heap.size := rfl
    rw [zd2] at e3 ro2 b14 b15
    have b12d : Below w12.heap.size w12 w12.drew := ⟨rfl, rfl, rfl, Nat.le_refl _, fun _ _ => rfl⟩
    have b1215 : Below w12.heap.size w12 w15 := b12d.trans b15
    have b1214 : Below w12.heap.size w12 w14 := b12d.trans b14
    have hz12 := b811.size
    have O15 := O12.below b1215 O12.lt
    obtain ⟨w16, hw16⟩ : ∃ x, x = w15.setCell ⟨w.heap.size + 3, 65, none⟩ (.slice A8 (k - 1) c8) := ⟨_, rfl⟩
    have s2 := O15.storeAt (P := Try.prog) (ty := 31) (i := 65) (by rw [wV_size hl64]; omega) (v := .slice A8 (k - 1) c8) (by kernel_rfl) rfl rfl
    rw [← hw16] at s2
    have f16 : ∀ j, j ≠ w.heap.size + 3 → w16.heap[j]? = w15.heap[j]? := fun j hj => by rw [hw16]; exact Below.heap_setCell _ ⟨w.heap.size + 3, 65, none⟩ _ j hj
    obtain ⟨co, hco⟩ : ∃ x, x = wV l A6 (k - 1) c6 A8 (k - 1) c8 := ⟨_, rfl⟩
    have HOW : Hid (Blk w16 (w.heap.size + 3) 33 co) := Lib.hid (by
      have := O15.put 65 (.slice A8 (k - 1) c8)
      rw [wV_set65 hl64, ← hw16] at this
      rw [hco]; exact this)
    have HZW : Hid (Blk w16 (w.heap.size + 2) 33 zW) := Lib.hid ((f16 _ (by omega)).trans ((b1215.block _ X212.lt).trans X212))
    have HBW : Hid (Below w.heap.size w w16) := Lib.hid (by rw [hw16]; exact (bw12.trans (b1215.mono (by omega))).setCell (by simp) _)
    have HC66 : Hid (co.size = 66) := Lib.hid (by rw [hco]; exact wV_size hl64)
    have HC1 : Hid (co.all (·.oneCell') = true) := Lib.hid (by rw [hco]; exact wV_one hl1)
    have HCE : Hid (co = wV (setL (desA a id).live) A6 (k - 1) c6 A8 (k - 1) c8) := Lib.hid (by rw [HYES.out, hco, HL.out])
    have HRR1 : Hid (w16.ownsRow w8.heap.size 3 1 (.slice A6 (k - 1) c6) (k - 1) (idC (desA a id))) := Lib.hid (by
      rw [HYES.out, idC_erase]
      refine ownsRow_same ro (fun y hy => ?_)
      have q := ro.lt y hy
      rw [f16 y (by omega), b1215.block y (by omega), f12 y (by omega)])
    have HRR2 : Hid (w16.ownsRow w12.heap.size 29 64 (.slice A8 (k - 1) c8) (k - 1) (snC (desA a id))) := Lib.hid (by
      rw [HYES.out, snC_erase]
      refine ownsRow_same ro2 (fun y hy => f16 y ?_)
      have q := ro2.lt y hy
      omega)
    have HSZ : Hid (∀ vs : List Value, w16.heap.size ≤ (w16.setCells (w.heap.size + 2) 0 vs).heap.size) := Lib.hid (fun vs => by rw [sets_size]; exact Nat.le_refl _)
    have HKK : Hid (k - 1 = (desA a id).snaps.length) := Lib.hid (by rw [HYES.out, HK.out]; simp only; rw [List.length_eraseIdx, if_pos hik])
    have HZ12 : Hid (w.heap.size + 4 ≤ w12.heap.size) := Lib.hid (by omega)
    have HE1 := Lib.hid e1
    have HE2 := Lib.hid e2
    have HE3 := Lib.hid e3
    have HE4 := Lib.hid e4
    have HS1 := Lib.hid s1
    have HS2 := Lib.hid s2
    have HB810 := Lib.hid b810
    have HB811 := Lib.hid b811
    have HB1214 := Lib.hid b1214
    have HB1215 := Lib.hid b1215
    have HX012 := Lib.hid X012
    have HU65 := Lib.hid u65
    have di : decide ((i : Int) < 0) = false := decide_eq_false (by omega)
    clear hf he hik rd1 rd2 hL1 hL2 e1 e2 e3 e4 s1 s2 ro ro2 b10 b11 zd hw12 b8d b811 b810 O11 O12 O15 f12 z12 b12 bw12 X012 X212 rd2' b14 b15 zd2 b12d b1215 b1214 hz12 hw16 f16 hco u65 hs8
    repeat' (first
      | go_values
      | go_skip
      | go_guarded
      | ((fail_if_success (with_reducible refine drawn_mark ?_))
         first
           | go_step
           | go_upon
           | go_back
           | (simp only [Int.not_lt, Int.not_le] at *; go_simp)
           | (go_values <;> (try go_simp))
           | (go_ite <;> go_prune <;> (try go_simp))
           | (split <;> (first | (rename_i hx; exact (hx _ rfl).elim) | go_prune))))
    obtain ⟨C, hC, hC0, hCB, hCK, hCd⟩ := cls_below w8
    have f1 : ∀ W, C W → W.cell? ⟨w.heap.size, 64, none⟩ = some (.slice (some ⟨b, of1, none⟩) k c1) := fun W hW => keep_cell (hCB W hW) t64 HX08.out.lt
    have hS9 : C (w8.drew.alloc (.cells #[] 3)) := hCK _ _ hC (keep_alloc (Below.refl _ _) _)
    have hS10 : C w10 := hCK _ _ hC0 HB810.out
    have hS11 : C w11 := hCK _ _ hC0 HB811.out
    clear hCK hCB hCd hC0 t64 b0 b1 b2 b3 b4
    refine wp_region_eff C [0, 5, 11] 13 (by kernel_rfl) (by kernel_rfl) (by kernel_rfl) hC ?_
    simp only [List.take_succ_cons, List.take_zero, List.drop_succ_cons, List.drop_zero]
    refine wpLexE_eff (by kernel_rfl) rfl ?_
    go_wp2_with fail
    refine ⟨rfl, hS9, ?_⟩
    refine wpLexE_take 4 (by kernel_rfl) (by kernel_rfl) ?_
    simp only [List.take_succ_cons, List.take_zero, List.drop_succ_cons, List.drop_zero]
    repeat (first
      | go_big_quiet_skip
      | (go_big_quiet_want
         go_big_quiet_op
         first
           | go_big_quiet_on
           | (apply Exists.intro
              refine ⟨fun W hW => ?_, ?_⟩
              · first
                  | exact rfl
                  | exact ⟨rfl, rfl⟩
                  | (have e0 := f1 W hW; simp only [e0, Result.andThen_ok]; done)
                  | (have e0 := f1 W hW; simp only [e0, Result.andThen_ok]; first | exact ⟨trivial, rfl⟩ | exact rfl | exact ⟨rfl, rfl⟩)
                  | (skip)
              go_big_quiet_on)))
    refine wpQuiet_nil ?_
    show wpLexE _ _ _ _ _ _ _ _ _
    refine wpLexE_eff (by kernel_rfl) rfl ?_
    go_wp2_with ((with_reducible refine wpList_append_want ?qw (.tmp 178) (.tmp 182) _ _ _ ?qo ?qt _ _ ?qs ?qx _ _ HE1.out ?_); (case qo => rfl); (case qt => rfl); (case qs => rfl); (case qx => rfl); (case qw => rfl); simp only [Act.put, List.setIfInBounds_toArray, List.set_cons_zero, List.set_cons_succ])
    refine ⟨rfl, hS10, ?_⟩
    refine wpLexE_take 5 (by kernel_rfl) (by kernel_rfl) ?_
    simp only [List.take_succ_cons, List.take_zero, List.drop_succ_cons, List.drop_zero]
    repeat (first
      | go_big_quiet_skip
      | (go_big_quiet_want
         go_big_quiet_op
         first
           | go_big_quiet_on
           | (apply Exists.intro
              refine ⟨fun W hW => ?_, ?_⟩
              · first
                  | exact rfl
                  | exact ⟨rfl, rfl⟩
                  | (have e0 := f1 W hW; simp only [e0, Result.andThen_ok]; done)
                  | (have e0 := f1 W hW; simp only [e0, Result.andThen_ok]; first | exact ⟨trivial, rfl⟩ | exact rfl | exact ⟨rfl, rfl⟩)
                  | (skip)
              go_big_quiet_on)))
    refine wpQuiet_nil ?_
    show wpLexE _ _ _ _ _ _ _ _ _
    refine wpLexE_eff (by kernel_rfl) rfl ?_
    rw [HLE1.out]
    go_wp2_with ((with_reducible refine wpList_append_want ?qw (.tmp 183) (.tmp 188) _ _ _ ?qo ?qt _ _ ?qs ?qx _ _ HE2.out ?_); (case qo => rfl); (case qt => rfl); (case qs => rfl); (case qx => rfl); (case qw => rfl); simp only [Act.put, List.setIfInBounds_toArray, List.set_cons_zero, List.set_cons_succ])
    refine ⟨rfl, hS11, ?_⟩
    refine wpLexE_take 1 (by kernel_rfl) (by kernel_rfl) ?_
    simp only [List.take_succ_cons, List.take_zero, List.drop_succ_cons, List.drop_zero]
    repeat (first
      | go_big_quiet_skip
      | (go_big_quiet_want
         go_big_quiet_op
         first
           | go_big_quiet_on
           | (apply Exists.intro
              refine ⟨fun W hW => ?_, ?_⟩
              · first
                  | exact rfl
                  | exact ⟨rfl, rfl⟩
                  | (have e0 := f1 W hW; simp only [e0, Result.andThen_ok]; done)
                  | (have e0 := f1 W hW; simp only [e0, Result.andThen_ok]; first | exact ⟨trivial, rfl⟩ | exact rfl | exact ⟨rfl, rfl⟩)
                  | (skip)
              go_big_quiet_on)))
    refine wpQuiet_nil ?_
    show wpList _ _ _ _ _ _
    refine wpList_store_run ?z1 30 (.tmp 190) (.tmp 189) ?z2 _ _ ?z3 ?z4 w12 HS1.out ?_
    case z1 => rfl
    case z2 => rfl
    case z3 => rfl
    case z4 => rfl
    clear f1 hS9 hS10 hS11 hC
    repeat' (first
      | go_values
      | go_skip
      | go_guarded
      | ((fail_if_success (with_reducible refine drawn_mark ?_))
         first
           | go_step
           | go_upon
           | go_back
           | (simp only [Int.not_lt, Int.not_le] at *; go_simp)
           | (go_values <;> (try go_simp))
           | (go_ite <;> go_prune <;> (try go_simp))
           | (split <;> (first | (rename_i hx; exact (hx _ rfl).elim) | go_prune))))
    obtain ⟨C, hC, hC0, hCB, hCK, hCd⟩ := cls_below w12
    have f1 : ∀ W, C W → W.cell? ⟨w.heap.size, 65, none⟩ = some (.slice (some ⟨bb, of2, none⟩) k c2) := fun W hW => keep_cell (hCB W hW) HU65.out HX012.out.lt
    have hS9 : C (w12.drew.alloc (.cells #[] 29)) := hCK _ _ hC (keep_alloc (Below.refl _ _) _)
    have hS10 : C w14 := hCK _ _ hC0 HB1214.out
    have hS11 : C w15 := hCK _ _ hC0 HB1215.out
    clear hCK hCB hCd hC0
    refine wp_region_eff C [0, 5, 11] 13 (by kernel_rfl) (by kernel_rfl) (by kernel_rfl) hC ?_
    simp only [List.take_succ_cons, List.take_zero, List.drop_succ_cons, List.drop_zero]
    refine wpLexE_eff (by kernel_rfl) rfl ?_
    go_wp2_with fail
    refine ⟨rfl, hS9, ?_⟩
    refine wpLexE_take 4 (by kernel_rfl) (by kernel_rfl) ?_
    simp only [List.take_succ_cons, List.take_zero, List.drop_succ_cons, List.drop_zero]
    repeat (first
      | go_big_quiet_skip
      | (go_big_quiet_want
         go_big_quiet_op
         first
           | go_big_quiet_on
           | (apply Exists.intro
              refine ⟨fun W hW => ?_, ?_⟩
              · first
                  | exact rfl
                  | exact ⟨rfl, rfl⟩
                  | (have e0 := f1 W hW; simp only [e0, Result.andThen_ok]; done)
                  | (have e0 := f1 W hW; simp only [e0, Result.andThen_ok]; first | exact ⟨trivial, rfl⟩ | exact rfl | exact ⟨rfl, rfl⟩)
                  | (skip)
              go_big_quiet_on)))
    refine wpQuiet_nil ?_
    show wpLexE _ _ _ _ _ _ _ _ _
    refine wpLexE_eff (by kernel_rfl) rfl ?_
    go_wp2_with ((with_reducible refine wpList_append_want ?qw (.tmp 191) (.tmp 195) _ _ _ ?qo ?qt _ _ ?qs ?qx _ _ HE3.out ?_); (case qo => rfl); (case qt => rfl); (case qs => rfl); (case qx => rfl); (case qw => rfl); simp only [Act.put, List.setIfInBounds_toArray, List.set_cons_zero, List.set_cons_succ])
    refine ⟨rfl, hS10, ?_⟩
    refine wpLexE_take 5 (by kernel_rfl) (by kernel_rfl) ?_
    simp only [List.take_succ_cons, List.take_zero, List.drop_succ_cons, List.drop_zero]
    repeat (first
      | go_big_quiet_skip
      | (go_big_quiet_want
         go_big_quiet_op
         first
           | go_big_quiet_on
           | (apply Exists.intro
              refine ⟨fun W hW => ?_, ?_⟩
              · first
                  | exact rfl
                  | exact ⟨rfl, rfl⟩
                  | (have e0 := f1 W hW; simp only [e0, Result.andThen_ok]; done)
                  | (have e0 := f1 W hW; simp only [e0, Result.andThen_ok]; first | exact ⟨trivial, rfl⟩ | exact rfl | exact ⟨rfl, rfl⟩)
                  | (skip)
              go_big_quiet_on)))
    refine wpQuiet_nil ?_
    show wpLexE _ _ _ _ _ _ _ _ _
    refine wpLexE_eff (by kernel_rfl) rfl ?_
    rw [HLE2.out]
    go_wp2_with ((with_reducible refine wpList_append_want ?qw (.tmp 196) (.tmp 201) _ _ _ ?qo ?qt _ _ ?qs ?qx _ _ HE4.out ?_); (case qo => rfl); (case qt => rfl); (case qs => rfl); (case qx => rfl); (case qw => rfl); simp only [Act.put, List.setIfInBounds_toArray, List.set_cons_zero, List.set_cons_succ])
    refine ⟨rfl, hS11, ?_⟩
    refine wpLexE_take 1 (by kernel_rfl) (by kernel_rfl) ?_
    simp only [List.take_succ_cons, List.take_zero, List.drop_succ_cons, List.drop_zero]
    repeat (first
      | go_big_quiet_skip
      | (go_big_quiet_want
         go_big_quiet_op
         first
           | go_big_quiet_on
           | (apply Exists.intro
              refine ⟨fun W hW => ?_, ?_⟩
              · first
                  | exact rfl
                  | exact ⟨rfl, rfl⟩
                  | (have e0 := f1 W hW; simp only [e0, Result.andThen_ok]; done)
                  | (have e0 := f1 W hW; simp only [e0, Result.andThen_ok]; first | exact ⟨trivial, rfl⟩ | exact rfl | exact ⟨rfl, rfl⟩)
                  | (skip)
              go_big_quiet_on)))
    refine wpQuiet_nil ?_
    show wpList _ _ _ _ _ _
    clear f1 hS9 hS10 hS11 hC
    have hi33o : (Try.prog.info? 33).map (·.size) = some co.size := by rw [HC66.out]; kernel_rfl
    have HRES := Lib.hid (HZW.out.putAll co (by rw [zW_size, HC66.out]))
    have hth := HZW.out.there (o := 0) (n := co.size) (by rw [zW_size, HC66.out]; omega)
    have HBR := Lib.hid (below_sets (g := w.heap.size + 2) co.toList 0 HBW.out (by omega))
    go_wp2_with (first
      | ((with_reducible refine wpList_store_run ?q1 31 (.tmp 203) (.tmp 202) ?q2 _ _ ?q3 ?q4 w16 HS2.out ?_); (case q2 => rfl); (case q3 => rfl); (case q4 => rfl); (case q1 => rfl); simp only [Act.put, List.setIfInBounds_toArray, List.set_cons_zero, List.set_cons_succ])
      | ((with_reducible refine wpList_load_want ?qw 33 (.tmp 7) ?q2 (w.heap.size + 3) ?q3 33 co _ HOW.out Try.underlying33 rfl hi33o ?_); (case q2 => rfl); (case q3 => rfl); (case qw => rfl); simp only [Act.put, List.setIfInBounds_toArray, List.set_cons_zero, List.set_cons_succ])
      | ((with_reducible refine wpList_store_mid ?a1 33 (.tmp 4) (.tmp 215) ?a2 (w.heap.size + 2) 0 co ?a3 ?a4 hth hi33o HC1.out ?_); (case a1 => rfl); (case a2 => rfl); (case a3 => rfl); (case a4 => rfl); simp only [Act.put, List.setIfInBounds_toArray, List.set_cons_zero, List.set_cons_succ]))
    refine bodyPost_ret (v := .tuple #[.agg co, .int .i64 0]) (results_cell_slot rfl _ _ (w.heap.size + 2) 33 co (0, 0) _ rfl HRES.out Try.underlying33 rfl hi33o _ rfl) rfl ⟨co, 0, rfl, ?_, HBR.out⟩
    rw [HCE.out]
    refine ref_of_rows (W0 := w16) (n := w.heap.size) (B := w8.heap.size) (B2 := w12.heap.size) HRR1.out HRR2.out HS8.out HZ12.out ?_ HKK.out (HSZ.out _)
    intro j h1 h2
    exact sets_apart _ _ _ _ (by omega)
end Go.Proofs.Ytckicdbiiepngaa
