/-
  What an act comes to, by the document: Snap.
-/
import Derived.Test.YtckicdbiiepngaaRd7
import Derived.Great.Walk
namespace Go.Proofs.Ytckicdbiiepngaa
set_option linter.unusedVariables false
set_option linter.unusedSimpArgs false
open Go.RowKit Go.Maps Go.Lib Go.Shelf

theorem wpList_buildSlice_want {P : Program} {ops : Array Oper} {rest : List Oper} {o : Oper} {a : Act} {w : World} {Q : Exit → Act → World → Prop} (hg : o.guard = none) (t e : TypeId) (len : Nat) (parts : Array (Nat × Operand)) (ho : o.op = .buildSlice t len parts)
    (N : Nat) (hN : w.heap.size = N) (hu : P.underlying t = some (.slice e)) (ps : List (Nat × Value)) (hps : (parts.map fun (i, x) => (i, a.eval x)).toList = ps) (cells : Array Value) (hf : P.builtSlice e len ps = some cells) (w' : World) (hW : w.alloc (.cells cells e) = w')
    (h : wpList P ops Q rest (a.put o.dst (.slice (some ⟨N, 0, none⟩) len len)) w') : wpList P ops Q (o :: rest) a w := by
  subst hps hW
  exact Great.wpList_buildSliceTo hg t e len parts ho N hN o.dst rfl hu cells hf h
theorem built_set (o : DT) : (Try.prog).builtSlice 29 1 [(0, .agg (setL o).toArray)] = some (setL o).toArray := by kernel_rfl
theorem built_int (x : Int) : (Try.prog).builtSlice 3 1 [(0, .int .i64 x)] = some #[.int .i64 x] := by kernel_rfl

/-- Both rows, one longer. -/
theorem snap_rows {w8 : World} {n k B2 : Nat} {l l2 : List Value} {A3 A4 : Option Addr} {c3 c4 : Nat} {xs ys : List Value} (id : Int) (hl : l.length = 64) (hl2 : l2.length = 64) (h12 : ∀ u ∈ l2, u.oneCell' = true) (hO : Blk w8 (n + 3) 33 (wV l A3 k c3 A4 k c4)) (hk : k ≤ 4)
    (row1 : w8.ownsRow (n + 4) 3 1 (.slice A3 k c3) k xs) (row2 : w8.ownsRow B2 29 64 (.slice A4 k c4) k ys) (hB2 : n + 4 ≤ B2) (hB8 : B2 ≤ w8.heap.size) (hlo : ∀ b, (Value.slice A3 k c3).ownBlock = some b → b < B2) :
    ∃ A5 c5 w9 w10 w11 A6 c6 w12 w13 w14, w8.alloc (.cells #[.int .i64 id] 3) = w9 ∧ (Builtin.append_ #[30, 30] 30 #[.slice A3 k c3, .slice (some ⟨w8.heap.size, 0, none⟩) 1 1]).run Try.prog w9 = .ok (.slice A5 (k + 1) c5) w10 ∧
      (Instr.storeAt 30 (.pointer (some ⟨n + 3, 64, none⟩)) (.slice A5 (k + 1) c5)).run Try.prog w10 = .ok () w11 ∧ w11.alloc (.cells l2.toArray 29) = w12 ∧
      (Builtin.append_ #[31, 31] 31 #[.slice A4 k c4, .slice (some ⟨w11.heap.size, 0, none⟩) 1 1]).run Try.prog w12 = .ok (.slice A6 (k + 1) c6) w13 ∧
      (Instr.storeAt 31 (.pointer (some ⟨n + 3, 65, none⟩)) (.slice A6 (k + 1) c6)).run Try.prog w13 = .ok () w14 ∧
      Blk w11 (n + 3) 33 (wV l A5 (k + 1) c5 A4 k c4) ∧ Blk w14 (n + 3) 33 (wV l A5 (k + 1) c5 A6 (k + 1) c6) ∧ w14.ownsRow (n + 4) 3 1 (.slice A5 (k + 1) c5) (k + 1) (xs ++ [.int .i64 id]) ∧
      w14.ownsRow B2 29 64 (.slice A6 (k + 1) c6) (k + 1) (ys ++ l2) ∧ Below (n + 3) w8 w11 ∧ Below (n + 3) w8 w14 := by
  obtain ⟨i1, p1, p2, p3, p4⟩ := info_parts Try.infoRI
  obtain ⟨i2, q1, q2, q3, q4⟩ := info_parts Try.infoRS
  have hO3 := hO.lt
  obtain ⟨w9, hw9⟩ : ∃ x, x = w8.alloc (.cells #[.int .i64 id] 3) := ⟨_, rfl⟩
  have z9 : w9.heap.size = w8.heap.size + 1 := by rw [hw9]; simp
  have b89 : Below w8.heap.size w8 w9 := by rw [hw9]; exact keep_alloc (Below.refl _ _) _
  have rd9 : Reads w9 1 (some ⟨w8.heap.size, 0, none⟩) 1 [.int .i64 id] := ⟨rfl, fun _ => ⟨w8.heap.size, 0, rfl, by omega, fun j u hu => by
    rw [Nat.zero_add, hw9]
    exact (Blk.new w8 3 #[.int .i64 id]).at_ (by simpa using hu)⟩⟩
  have row19 : w9.ownsRow (n + 4) 3 1 (.slice A3 k c3) k xs := ownsRow_same row1 (fun b hb => b89.block b (row1.lt b hb).2)
  obtain ⟨A5, c5, w10, e1, o1, g1, f1⟩ := app_run (ty := 30) (c := 1) Try.underlying30 p1 p2 p3 p4 rfl (by decide) row19 (by omega) rd9 (fun u hu => by simp at hu; subst hu; rfl) (by omega) (by decide)
  have own1 : ∀ b, (Value.slice A3 k c3).ownBlock = some b → n + 4 ≤ b ∧ b < w8.heap.size := fun b hb => row1.lt b hb
  have own2 : ∀ b, (Value.slice A4 k c4).ownBlock = some b → B2 ≤ b ∧ b < w8.heap.size := fun b hb => row2.lt b hb
  have g1b : ∀ i, i < w9.heap.size → (∀ b, (Value.slice A3 k c3).ownBlock = some b → i ≠ b) → w10.heap[i]? = w9.heap[i]? := fun i hi hn => g1.block i hi (fun e => hn i e.symm rfl)
  have b10 : Below (n + 3) w9 w10 := ⟨g1.os, g1.tape, g1.output, g1.size, fun i hi => g1b i (by omega) (fun b hb => by have := own1 b hb; omega)⟩
  have O10 : Blk w10 (n + 3) 33 (wV l A3 k c3 A4 k c4) := (g1b _ (by omega) (fun b hb => by have := own1 b hb; omega)).trans ((b89.block _ hO3).trans hO)
  have row210 : w10.ownsRow B2 29 64 (.slice A4 k c4) k ys := ownsRow_same row2 (fun b hb => by
    have q := own2 b hb
    rw [g1b b (by omega) (fun b' hb' => by have := hlo b' hb'; omega), b89.block b q.2])
  obtain ⟨w11, hw11⟩ : ∃ x, x = w10.setCell ⟨n + 3, 64, none⟩ (.slice A5 (k + 1) c5) := ⟨_, rfl⟩
  have s1 := O10.storeAt (P := Try.prog) (ty := 30) (i := 64) (by rw [wV_size hl]; omega) (v := .slice A5 (k + 1) c5) (by kernel_rfl) rfl rfl
  rw [← hw11] at s1
  have O11 : Blk w11 (n + 3) 33 (wV l A5 (k + 1) c5 A4 k c4) := by
    have := O10.put 64 (.slice A5 (k + 1) c5)
    rwa [wV_set64 hl, ← hw11] at this
  have f11 : ∀ i, i ≠ n + 3 → w11.heap[i]? = w10.heap[i]? := fun i hi => by rw [hw11]; exact Below.heap_setCell _ ⟨n + 3, 64, none⟩ _ i hi
  have z11 : w11.heap.size = w10.heap.size := by rw [hw11]; simp [World.setCell]
  have b11 : Below (n + 3) w8 w11 := by rw [hw11]; exact ((b89.mono (by omega)).trans b10).setCell (Nat.le_refl _) _
  have row111 : w11.ownsRow (n + 4) 3 1 (.slice A5 (k + 1) c5) (k + 1) (xs ++ [.int .i64 id]) := ownsRow_same o1 (fun b hb => f11 b (by have := (o1.lt b hb).1; omega))
  have row211 : w11.ownsRow B2 29 64 (.slice A4 k c4) k ys := ownsRow_same row210 (fun b hb => f11 b (by have := own2 b hb; omega))
  obtain ⟨w12, hw12⟩ : ∃ x, x = w11.alloc (.cells l2.toArray 29) := ⟨_, rfl⟩
  have z12 : w12.heap.size = w11.heap.size + 1 := by rw [hw12]; simp
  have b12 : Below w11.heap.size w11 w12 := by rw [hw12]; exact keep_alloc (Below.refl _ _) _
  have rd12 : Reads w12 64 (some ⟨w11.heap.size, 0, none⟩) 1 l2 := ⟨by rw [hl2], fun _ => ⟨w11.heap.size, 0, rfl, by omega, fun j u hu => by
    rw [Nat.zero_add, hw12]
    exact (Blk.new w11 29 l2.toArray).at_ (by simpa using hu)⟩⟩
  have row212 := ownsRow_same (w' := w12) row211 (fun b hb => b12.block b (row211.lt b hb).2)
  have z10 := g1.size
  obtain ⟨A6, c6, w13, e2, o2, g2, f2⟩ := app_run (ty := 31) (c := 1) Try.underlying31 q1 q2 q3 q4 (by simp [Value.cells, setL_len]) (by decide) row212 (by omega) rd12 h12 (by omega) (by decide)
  have g2b : ∀ i, i < w12.heap.size → (∀ b, (Value.slice A4 k c4).ownBlock = some b → i ≠ b) → w13.heap[i]? = w12.heap[i]? := fun i hi hn => g2.block i hi (fun e => hn i e.symm rfl)
  have b13 : Below (n + 3) w11 w13 := ⟨g2.os.trans b12.os, g2.tape.trans b12.tape, g2.output.trans b12.output, by have := g2.size; omega, fun i hi => (g2b i (by omega) (fun b hb => by have := own2 b hb; omega)).trans (b12.block i (by omega))⟩
  have O13 : Blk w13 (n + 3) 33 (wV l A5 (k + 1) c5 A4 k c4) := (g2b _ (by omega) (fun b hb => by have := own2 b hb; omega)).trans ((b12.block _ (by omega)).trans O11)
  obtain ⟨w14, hw14⟩ : ∃ x, x = w13.setCell ⟨n + 3, 65, none⟩ (.slice A6 (k + 1) c6) := ⟨_, rfl⟩
  have s2 := O13.storeAt (P := Try.prog) (ty := 31) (i := 65) (by rw [wV_size hl]; omega) (v := .slice A6 (k + 1) c6) (by kernel_rfl) rfl rfl
  rw [← hw14] at s2
  have O14 : Blk w14 (n + 3) 33 (wV l A5 (k + 1) c5 A6 (k + 1) c6) := by
    have := O13.put 65 (.slice A6 (k + 1) c6)
    rwa [wV_set65 hl, ← hw14] at this
  have f14 : ∀ i, i ≠ n + 3 → w14.heap[i]? = w13.heap[i]? := fun i hi => by rw [hw14]; exact Below.heap_setCell _ ⟨n + 3, 65, none⟩ _ i hi
  refine ⟨A5, c5, w9, w10, w11, A6, c6, w12, w13, w14, hw9.symm, e1, s1, hw12.symm, e2, s2, O11, O14, ?_, ?_, b11, ?_⟩
  · refine ownsRow_same row111 (fun b hb => ?_)
    have q := row111.lt b hb
    rw [f14 b (by omega), g2b b (by omega) (fun b' hb' => ?_), b12.block b q.2]
    have q' := own2 b' hb'
    rcases f1 b hb with h | h
    · have := hlo b h; omega
    · omega
  · exact ownsRow_same o2 (fun b hb => f14 b (by have := (o2.lt b hb).1; omega))
  · rw [hw14]; exact (b11.trans b13).setCell (Nat.le_refl _) _
theorem snC_snoc (a : AllA) (x : Int × DT) : snC ⟨a.live, a.snaps ++ [x]⟩ = snC a ++ setL x.2 := by unfold snC; simp
theorem idC_snoc (a : AllA) (x : Int × DT) : idC ⟨a.live, a.snaps ++ [x]⟩ = idC a ++ [.int .i64 x.1] := by unfold idC; simp

set_option maxRecDepth 20000 in
set_option maxHeartbeats 8000000 in
theorem rdo_5 {w : World} {cs : Array Value} {a : AllA} (h : RefW w cs a) (hs : Sane a) (x : MAct) (hx : x.Ok) (h3 : x.do_ % 8 = 5) :
    Calls Try.prog 11 #[.agg cs, .agg #[.int .u8 x.do_, .int .i64 x.id, .int .i64 x.off, .int .i64 x.n, .int .u8 x.fill.toNat]] w fun e w' => RdoP w cs (actA a x) e w' := by
  have hact : actA a x = snaA a x.id := by unfold actA; rw [if_neg (by omega), if_neg (by omega), if_pos h3]
  rw [hact]
  clear hact
  obtain ⟨dn, id, off, n, fill⟩ := x
  simp only at h3 ⊢
  have hq : (dn : Int).tmod 8 = ((5 : Nat) : Int) := mod_eq 8 h3
  rw [show ((5 : Nat) : Int) = 5 from rfl] at hq
  have H := Lib.hid h
  have HX := Lib.hid hx
  obtain ⟨A1, c1, A2, c2, hcs, hr1, hr2, hc1, hc2⟩ := h
  have hcsz : cs.size = 66 := by rw [hcs, wV_size (setL_len _)]
  have hi33 : (Try.prog.info? 33).map (·.size) = some cs.size := by rw [hcsz]; kernel_rfl
  have h1c : cs.all (·.oneCell') = true := by rw [hcs]; exact wV_one (setL_one _)
  obtain ⟨w1, hw1⟩ : ∃ x, x = ((w.alloc (.cells cs 33)).alloc (.cells #[.int .u8 dn, .int .i64 id, .int .i64 off, .int .i64 n, .int .u8 fill.toNat] 37)).alloc (.cells zW 33) := ⟨_, rfl⟩
  have X0 : Blk w1 w.heap.size 33 cs := by rw [hw1]; exact ((Blk.new w _ _).alloc _).alloc _
  have X1 : Blk w1 (w.heap.size + 1) 37 #[.int .u8 dn, .int .i64 id, .int .i64 off, .int .i64 n, .int .u8 fill.toNat] := by rw [hw1]; exact (Blk.new2 w _ _ _).alloc _
  have X2 : Blk w1 (w.heap.size + 2) 33 zW := by
    rw [hw1]
    have := Blk.new2 (w.alloc (.cells cs 33)) (.cells #[.int .u8 dn, .int .i64 id, .int .i64 off, .int .i64 n, .int .u8 fill.toNat] 37) 33 zW
    simpa using this
  have hb1 : Below w.heap.size w w1 := by rw [hw1]; exact keep_alloc (keep_alloc (keep_alloc (Below.refl _ _) _) _) _
  have hs1 : w1.heap.size = w.heap.size + 3 := by rw [hw1]; simp
  obtain ⟨k, hk⟩ : ∃ k, k = a.snaps.length := ⟨_, rfl⟩
  have hk4 : k ≤ 4 := by rw [hk]; exact hs.few
  obtain ⟨l, hl⟩ : ∃ x, x = setL a.live := ⟨_, rfl⟩
  have hl64 : l.length = 64 := by rw [hl, setL_len]
  have hl1 : ∀ u ∈ l, u.oneCell' = true := by rw [hl]; exact setL_one _
  rw [← hl, ← hk] at hcs
  rw [← hk] at hr1 hr2 hc1 hc2
  obtain ⟨cO, hcO⟩ : ∃ x, x = wV l none 0 0 none 0 0 := ⟨_, rfl⟩
  have HBW : Hid (∀ W, (Instr.build 33 #[(0, .agg l.toArray)]).run Try.prog W = .ok (.agg cO) W) := Lib.hid (by rw [hcO, hl]; exact build_w _)
  have hi29 : (Try.prog.info? 29).map (·.size) = some l.length := by rw [hl64]; kernel_rfl
  have HR0 : Hid (w1.rangeAt w.heap.size 0 l) := Lib.hid (fun j v hv => by
    have hj := (List.getElem?_eq_some_iff.1 hv).1
    rw [Nat.zero_add]
    exact X0.at_ (by rw [hcs, wV_lo hl64 (by omega)]; exact hv))
  have hcO66 : cO.size = 66 := by rw [hcO, wV_size hl64]
  have hcO1 : cO.all (·.oneCell') = true := by rw [hcO]; exact wV_one hl1
  obtain ⟨w2, hw2⟩ : ∃ x, x = w1.alloc (.cells zW 33) := ⟨_, rfl⟩
  have hs2 : w2.heap.size = w.heap.size + 4 := by rw [hw2]; simp [hs1]
  have O2 : Blk w2 (w.heap.size + 3) 33 zW := by rw [hw2, ← hs1]; exact Blk.new _ _ _
  obtain ⟨w3, hw3⟩ : ∃ x, x = w2.setCells (w.heap.size + 3) 0 cO.toList := ⟨_, rfl⟩
  have HS3 : Hid ((Instr.storeAt 33 (.pointer (some ⟨w.heap.size + 3, 0, none⟩)) (.agg cO)).run Try.prog w2 = .ok () w3) := Lib.hid (by
    rw [hw3]
    exact run_storeAt_mid w2 _ _ _ cO (O2.there (by rw [zW_size, hcO66]; omega)) (by rw [hcO66]; kernel_rfl) hcO1)
  have O3 : Blk w3 (w.heap.size + 3) 33 (wV l none 0 0 none 0 0) := by rw [hw3, ← hcO]; exact O2.putAll _ (by rw [zW_size, hcO66])
  have hb13 : Below w1.heap.size w1 w3 := by rw [hw3, hw2]; exact below_sets _ _ (keep_alloc (Below.refl _ _) _) (by omega)
  have hs3 : w.heap.size + 4 ≤ w3.heap.size := by have := O3.lt; omega
  have hr1' := hr1.below hb1 (Nat.le_refl _)
  have hr2' := hr2.below hb1 (Nat.le_refl _)
  obtain ⟨A3, c3, w4, w5, A4, c4, w6, w7, B2, e1, s1, e2, s2, O5, O7, row1, row2, hB2, hlo, b35, b37, hs7, hb27⟩ := two_rows (c1 := c1) (c2 := c2) hl64 O3 hs3 hk4 hb13 (by omega) hr1' hr2' (idC_one a) (snC_one a)
  have hb17 : Below w1.heap.size w1 w7 := hb13.trans (b37.mono (by omega))
  have X03 := X0.below hb13 X0.lt
  have X05 := X03.below b35 (by omega)
  have HX07 := Lib.hid (X0.below hb17 X0.lt)
  have HX17 := Lib.hid (X1.below hb17 X1.lt)
  have HX27 := Lib.hid (X2.below hb17 X2.lt)
  have HB7 := Lib.hid (hb1.trans (hb17.mono (by omega)))
  have a0 := X1.at_ (i := 0) rfl
  have a1 := X1.at_ (i := 1) rfl
  have d1 := HX17.out.at_ (i := 1) rfl
  have k3 := O3.at_ (wV_64 hl64)
  have k5 := O5.at_ (wV_65 hl64)
  have m3 := X03.at_ (i := 64) (by rw [hcs]; exact wV_64 hl64)
  have m5 := X05.at_ (i := 65) (by rw [hcs]; exact wV_65 hl64)
  have HFIND := Lib.hid (rfind_any (w := w7) (cs := cs) (A1 := A1) (c1 := c1) (ids := a.ids) (by rw [hcs, ids_len, ← hk]; exact wV_64 hl64) (by rw [← idC_eq, ids_len, ← hk]; exact hr1.below HB7.out (Nat.le_refl _)) (by rw [ids_len, ← hk]; omega) id)
  have HE1 := Lib.hid e1
  have HE2 := Lib.hid e2
  have HS1 := Lib.hid s1
  have HS2 := Lib.hid s2
  have HO7 := Lib.hid O7
  have HROW1 := Lib.hid row1
  have HROW2 := Lib.hid row2
  have HB2 := Lib.hid hB2
  have HLO := Lib.hid hlo
  have HS7 := Lib.hid hs7
  have HB27 := Lib.hid hb27
  have HCS := Lib.hid hcs
  have HK := Lib.hid hk
  have HL := Lib.hid hl
  have HCO := Lib.hid hcO
  have HW1 := Lib.hid hw1.symm
  have HW2 := Lib.hid hw2.symm
  have HX0 := Lib.hid X0
  have HSIZ := Lib.hid hs1
  have HSIZ2 := Lib.hid hs2
  have HSANE := Lib.hid hs
  have HR1 := Lib.hid hr1
  have HR2 := Lib.hid hr2
  try simp only
  clear hw1 hw2 hw3 hx hcs hr1 hr2 hb1 hs1 hs2 hs3 X0 X1 X2 e1 e2 s1 s2 O2 O3 O5 O7 row1 row2 hB2 hlo hs7 hb27 hk hl hcO hb13 hb17 b35 b37 X03 X05 hr1' hr2' hs
  go_enter Try.func11, Try.ntmps11
  go_wp2_with (first
    | ((with_reducible refine wpList_box_want ?q1 33 (.tmp 0) ?q2 cs ?q3 w.heap.size ?q4 ?_); (case q2 => rfl); (case q3 => rfl); (case q4 => rfl); (case q1 => rfl); simp only [Act.put, List.setIfInBounds_toArray, List.set_cons_zero, List.set_cons_succ])
    | ((with_reducible refine wpList_alloc_want ?q1 33 ?q2 zW zW_is (w.heap.size + 2) ?q4 w1 HW1.out ?_); (case q2 => rfl); (case q4 => simp); (case q1 => rfl); simp only [Act.put, List.setIfInBounds_toArray, List.set_cons_zero, List.set_cons_succ])
    | ((with_reducible refine wpList_mid_want ?q1 29 (.tmp 26) ?q2 w.heap.size 0 ?q3 l _ HR0.out Try.underlying29 rfl hi29 ?_); (case q2 => rfl); (case q3 => rfl); (case q1 => rfl); simp only [Act.put, List.setIfInBounds_toArray, List.set_cons_zero, List.set_cons_succ])
    | ((with_reducible refine wpList_build_want ?q1 33 #[(0, .tmp 27)] ?q2 #[(0, .agg l.toArray)] ?q3 (.agg cO) (HBW.out _) ?_); (case q2 => rfl); (case q3 => simp [Act.eval, Act.put]); (case q1 => rfl); simp only [Act.put, List.setIfInBounds_toArray, List.set_cons_zero, List.set_cons_succ])
    | ((with_reducible refine wpList_alloc_want ?q1 33 ?q2 zW zW_is (w.heap.size + 3) ?q4 w2 HW2.out ?_); (case q2 => rfl); (case q4 => exact HSIZ.out); (case q1 => rfl); simp only [Act.put, List.setIfInBounds_toArray, List.set_cons_zero, List.set_cons_succ])
    | ((with_reducible refine wpList_store_run ?q1 33 (.tmp 7) (.tmp 28) ?q2 _ _ ?q3 ?q4 w3 HS3.out ?_); (case q2 => rfl); (case q3 => rfl); (case q4 => rfl); (case q1 => rfl); simp only [Act.put, List.setIfInBounds_toArray, List.set_cons_zero, List.set_cons_succ])
    | ((with_reducible refine wpList_append_want ?qw (.tmp 30) (.tmp 32) _ _ _ ?qo ?qt _ _ ?qs ?qx _ _ HE1.out ?_); (case qo => rfl); (case qt => rfl); (case qs => rfl); (case qx => rfl); (case qw => rfl); simp only [Act.put, List.setIfInBounds_toArray, List.set_cons_zero, List.set_cons_succ])
    | ((with_reducible refine wpList_store_run ?q1 30 (.tmp 34) (.tmp 33) ?q2 _ _ ?q3 ?q4 w5 HS1.out ?_); (case q2 => rfl); (case q3 => rfl); (case q4 => rfl); (case q1 => rfl); simp only [Act.put, List.setIfInBounds_toArray, List.set_cons_zero, List.set_cons_succ])
    | ((with_reducible refine wpList_append_want ?qw (.tmp 36) (.tmp 38) _ _ _ ?qo ?qt _ _ ?qs ?qx _ _ HE2.out ?_); (case qo => rfl); (case qt => rfl); (case qs => rfl); (case qx => rfl); (case qw => rfl); simp only [Act.put, List.setIfInBounds_toArray, List.set_cons_zero, List.set_cons_succ])
    | ((with_reducible refine wpList_store_run ?q1 31 (.tmp 40) (.tmp 39) ?q2 _ _ ?q3 ?q4 w7 HS2.out ?_); (case q2 => rfl); (case q3 => rfl); (case q4 => rfl); (case q1 => rfl); simp only [Act.put, List.setIfInBounds_toArray, List.set_cons_zero, List.set_cons_succ])
    | ((with_reducible refine wpList_load_want ?qw 33 (.tmp 2) ?q2 w.heap.size ?q3 33 cs _ HX07.out Try.underlying33 rfl hi33 ?_); (case q2 => rfl); (case q3 => rfl); (case qw => rfl); simp only [Act.put, List.setIfInBounds_toArray, List.set_cons_zero, List.set_cons_succ]))
  refine HFIND.out.mono ?_
  rintro e w8 ⟨rfl, hb8⟩
  have HX08 := Lib.hid (HX07.out.below hb8 HX07.out.lt)
  have HX18 := Lib.hid (HX17.out.below hb8 HX17.out.lt)
  have HX28 := Lib.hid (HX27.out.below hb8 HX27.out.lt)
  have HO8 := Lib.hid (HO7.out.below hb8 HO7.out.lt)
  have HB8 : Hid (Below w.heap.size w w8) := Lib.hid (keep_below hb8 HB7.out)
  have HROW18 := Lib.hid (ownsRow_same HROW1.out (fun b hb => hb8.block b (HROW1.out.lt b hb).2))
  have HROW28 := Lib.hid (ownsRow_same HROW2.out (fun b hb => hb8.block b (HROW2.out.lt b hb).2))
  have HS8 : Hid (w.heap.size + 4 ≤ w8.heap.size) := Lib.hid (by have := hb8.size; have := HS7.out; omega)
  have HB28 : Hid (B2 ≤ w8.heap.size) := Lib.hid (by have := hb8.size; have := HB27.out; omega)
  have b0 := HX18.out.at_ (i := 0) rfl
  have b1 := HX18.out.at_ (i := 1) rfl
  have b2 := HX18.out.at_ (i := 2) rfl
  have b3 := HX18.out.at_ (i := 3) rfl
  have b4 := HX18.out.at_ (i := 4) rfl
  clear hb8 a0 a1 d1 k3 k5 m3 m5 HE1 HE2 HS1 HS2 HS3 HFIND HX07 HX17 HX27 HO7 HROW1 HROW2 HBW HR0 HW1 HW2 HX0
  have t64 : w8.cell? ⟨w.heap.size, 64, none⟩ = some (.slice A1 k c1) := HX08.out.at_ (by rw [HCS.out]; exact wV_64 hl64)
  by_cases hid : 0 ≤ id ∧ id ≤ 99
  · have d0 : decide (id < 0) = false := decide_eq_false (by omega)
    have d99 : decide (99 < id) = false := decide_eq_false (by omega)
    rcases fstI_or a.ids id with ⟨hf, he⟩ | ⟨i, hf, he⟩
    · rw [he]
      by_cases hk3 : k < 4
      · have HYES : Hid (snaA a id = ⟨a.live, a.snaps ++ [(id, a.live)]⟩) := Lib.hid (by unfold snaA; rw [if_pos ⟨hid.1, hid.2, hf, by rw [← HK.out]; exact hk3⟩])
        obtain ⟨A5, c5, w9, w10, w11, A6, c6, w12, w13, w14, e9, e1, s1, e12, e2, s2, O11, O14, r1, r2, b11, b14⟩ := snap_rows id hl64 hl64 hl1 HO8.out hk4 HROW18.out HROW28.out HB2.out HB28.out HLO.out
        have HE9 := Lib.hid e9
        have HE1 := Lib.hid e1
        have HS1 := Lib.hid s1
        have HE12 := Lib.hid e12
        have HE2 := Lib.hid e2
        have HS2 := Lib.hid s2
        have HBS : Hid ((Try.prog).builtSlice 29 1 [(0, .agg l.toArray)] = some l.toArray) := Lib.hid (by rw [HL.out]; exact built_set _)
        have X011 := HX08.out.below b11 (by omega)
        have HRG : Hid (w11.rangeAt w.heap.size 0 l) := Lib.hid (fun j v hv => by
          have hj := (List.getElem?_eq_some_iff.1 hv).1
          rw [Nat.zero_add]
          exact X011.at_ (by rw [HCS.out, wV_lo hl64 (by omega)]; exact hv))
        have u64 := HO8.out.at_ (wV_64 hl64)
        have u65 := O11.at_ (wV_65 hl64)
        obtain ⟨co, hco⟩ : ∃ x, x = wV l A5 (k + 1) c5 A6 (k + 1) c6 := ⟨_, rfl⟩
        have HOW : Hid (Blk w14 (w.heap.size + 3) 33 co) := Lib.hid (by rw [hco]; exact O14)
        have HZW : Hid (Blk w14 (w.heap.size + 2) 33 zW) := Lib.hid (HX28.out.below b14 (by omega))
        have HBW : Hid (Below w.heap.size w w14) := Lib.hid (HB8.out.trans (b14.mono (by omega)))
        have HC66 : Hid (co.size = 66) := Lib.hid (by rw [hco]; exact wV_size hl64)
        have HC1 : Hid (co.all (·.oneCell') = true) := Lib.hid (by rw [hco]; exact wV_one hl1)
        have HCE : Hid (co = wV (setL (snaA a id).live) A5 (k + 1) c5 A6 (k + 1) c6) := Lib.hid (by rw [HYES.out, hco, HL.out])
        have HRR1 : Hid (w14.ownsRow (w.heap.size + 4) 3 1 (.slice A5 (k + 1) c5) (k + 1) (idC (snaA a id))) := Lib.hid (by rw [HYES.out, idC_snoc]; exact r1)
        have HRR2 : Hid (w14.ownsRow B2 29 64 (.slice A6 (k + 1) c6) (k + 1) (snC (snaA a id))) := Lib.hid (by rw [HYES.out, snC_snoc, ← HL.out]; exact r2)
        have HSZ : Hid (∀ vs : List Value, w14.heap.size ≤ (w14.setCells (w.heap.size + 2) 0 vs).heap.size) := Lib.hid (fun vs => by rw [sets_size]; exact Nat.le_refl _)
        have HKK : Hid (k + 1 = (snaA a id).snaps.length) := Lib.hid (by rw [HYES.out, HK.out]; simp)
        have dk : decide ((4 : Int) ≤ k) = false := decide_eq_false (by omega)
        have dk2 : ¬ 4 ≤ k := by omega
        clear hf he hid e9 e1 s1 e12 e2 s2 O11 O14 r1 r2 b11 b14 X011 hco hk3
        have hi33o : (Try.prog.info? 33).map (·.size) = some co.size := by rw [HC66.out]; kernel_rfl
        have HRES := Lib.hid (HZW.out.putAll co (by rw [zW_size, HC66.out]))
        have hth := HZW.out.there (o := 0) (n := co.size) (by rw [zW_size, HC66.out]; omega)
        have HBR := Lib.hid (below_sets (g := w.heap.size + 2) co.toList 0 HBW.out (by omega))
        go_wp2_with (first
          | ((with_reducible refine wpList_buildSlice_want ?qg 30 3 1 #[(0, .tmp 162)] ?qo w8.heap.size ?qn Try.underlying30 [(0, .int .i64 id)] ?qp #[.int .i64 id] (built_int id) w9 HE9.out ?_); (case qo => rfl); (case qg => rfl); (case qn => rfl); (case qp => simp [Act.eval, Act.put]); simp only [Act.put, List.setIfInBounds_toArray, List.set_cons_zero, List.set_cons_succ]) | ((with_reducible refine wpList_append_want ?qw (.tmp 160) (.tmp 163) _ _ _ ?qo ?qt _ _ ?qs ?qx _ _ HE1.out ?_); (case qo => rfl); (case qt => rfl); (case qs => rfl); (case qx => rfl); (case qw => rfl); simp only [Act.put, List.setIfInBounds_toArray, List.set_cons_zero, List.set_cons_succ]) | ((with_reducible refine wpList_store_run ?q1 30 (.tmp 165) (.tmp 164) ?q2 _ _ ?q3 ?q4 w11 HS1.out ?_); (case q2 => rfl); (case q3 => rfl); (case q4 => rfl); (case q1 => rfl); simp only [Act.put, List.setIfInBounds_toArray, List.set_cons_zero, List.set_cons_succ]) | ((with_reducible refine wpList_mid_want ?q1 29 (.tmp 168) ?q2 w.heap.size 0 ?q3 l _ HRG.out Try.underlying29 rfl hi29 ?_); (case q2 => rfl); (case q3 => rfl); (case q1 => rfl); simp only [Act.put, List.setIfInBounds_toArray, List.set_cons_zero, List.set_cons_succ]) | ((with_reducible refine wpList_buildSlice_want ?qg 31 29 1 #[(0, .tmp 169)] ?qo w11.heap.size ?qn Try.underlying31 [(0, .agg l.toArray)] ?qp l.toArray HBS.out w12 HE12.out ?_); (case qo => rfl); (case qg => rfl); (case qn => rfl); (case qp => simp [Act.eval, Act.put]); simp only [Act.put, List.setIfInBounds_toArray, List.set_cons_zero, List.set_cons_succ]) | ((with_reducible refine wpList_append_want ?qw (.tmp 167) (.tmp 170) _ _ _ ?qo ?qt _ _ ?qs ?qx _ _ HE2.out ?_); (case qo => rfl); (case qt => rfl); (case qs => rfl); (case qx => rfl); (case qw => rfl); simp only [Act.put, List.setIfInBounds_toArray, List.set_cons_zero, List.set_cons_succ]) | ((with_reducible refine wpList_store_run ?q1 31 (.tmp 172) (.tmp 171) ?q2 _ _ ?q3 ?q4 w14 HS2.out ?_); (case q2 => rfl); (case q3 => rfl); (case q4 => rfl); (case q1 => rfl); simp only [Act.put, List.setIfInBounds_toArray, List.set_cons_zero, List.set_cons_succ])
          | ((with_reducible refine wpList_load_want ?qw 33 (.tmp 7) ?q2 (w.heap.size + 3) ?q3 33 co _ HOW.out Try.underlying33 rfl hi33o ?_); (case q2 => rfl); (case q3 => rfl); (case qw => rfl); simp only [Act.put, List.setIfInBounds_toArray, List.set_cons_zero, List.set_cons_succ])
          | ((with_reducible refine wpList_store_mid ?a1 33 (.tmp 4) (.tmp 215) ?a2 (w.heap.size + 2) 0 co ?a3 ?a4 hth hi33o HC1.out ?_); (case a1 => rfl); (case a2 => rfl); (case a3 => rfl); (case a4 => rfl); simp only [Act.put, List.setIfInBounds_toArray, List.set_cons_zero, List.set_cons_succ]))
        refine bodyPost_ret (v := .tuple #[.agg co, .int .i64 0]) (results_cell_slot rfl _ _ (w.heap.size + 2) 33 co (0, 0) _ rfl HRES.out Try.underlying33 rfl hi33o _ rfl) rfl ⟨co, 0, rfl, ?_, HBR.out⟩
        rw [HCE.out]
        refine ref_of_rows (W0 := w14) (n := w.heap.size) (B := w.heap.size + 4) (B2 := B2) HRR1.out HRR2.out (Nat.le_refl _) HB2.out ?_ HKK.out (HSZ.out _)
        intro j h1 h2
        exact sets_apart _ _ _ _ (by omega)
      · have HNO : Hid (snaA a id = a) := Lib.hid (by unfold snaA; rw [if_neg]; rw [← HK.out]; omega)
        have dk : decide ((4 : Int) ≤ k) = true := decide_eq_true (by omega)
        have dk2 : 4 ≤ k := by omega
        clear hf he hid hk3
        have HRES := Lib.hid (HX28.out.putAll cs (by rw [zW_size, hcsz]))
        have hth := HX28.out.there (o := 0) (n := cs.size) (by rw [zW_size, hcsz]; omega)
        have HBR := Lib.hid (below_sets (g := w.heap.size + 2) cs.toList 0 HB8.out (by omega))
        go_wp2_with (first
          | ((with_reducible refine wpList_load_want ?qw 33 (.tmp 2) ?q2 w.heap.size ?q3 33 cs _ HX08.out Try.underlying33 rfl hi33 ?_); (case q2 => rfl); (case q3 => rfl); (case qw => rfl); simp only [Act.put, List.setIfInBounds_toArray, List.set_cons_zero, List.set_cons_succ])
          | ((with_reducible refine wpList_store_mid ?a1 33 (.tmp 4) (.tmp 158) ?a2 (w.heap.size + 2) 0 cs ?a3 ?a4 hth hi33 h1c ?_); (case a1 => rfl); (case a2 => rfl); (case a3 => rfl); (case a4 => rfl); simp only [Act.put, List.setIfInBounds_toArray, List.set_cons_zero, List.set_cons_succ])
          )
        refine bodyPost_ret (v := .tuple #[.agg cs, .int .i64 10]) (results_cell_slot rfl _ _ (w.heap.size + 2) 33 cs (0, 0) _ rfl HRES.out Try.underlying33 rfl hi33 _ rfl) rfl ⟨cs, 10, rfl, ?_, HBR.out⟩
        rw [HNO.out]
        exact ⟨H.out.below HBR.out, .inl rfl⟩
    · rw [he]
      have HNO : Hid (snaA a id = a) := Lib.hid (by unfold snaA; rw [if_neg]; rw [hf]; simp)
      have di : decide ((0 : Int) ≤ i) = true := decide_eq_true (by omega)
      clear hf he hid
      have HRES := Lib.hid (HX28.out.putAll cs (by rw [zW_size, hcsz]))
      have hth := HX28.out.there (o := 0) (n := cs.size) (by rw [zW_size, hcsz]; omega)
      have HBR := Lib.hid (below_sets (g := w.heap.size + 2) cs.toList 0 HB8.out (by omega))
      go_wp2_with (first
        | ((with_reducible refine wpList_load_want ?qw 33 (.tmp 2) ?q2 w.heap.size ?q3 33 cs _ HX08.out Try.underlying33 rfl hi33 ?_); (case q2 => rfl); (case q3 => rfl); (case qw => rfl); simp only [Act.put, List.setIfInBounds_toArray, List.set_cons_zero, List.set_cons_succ])
        | ((with_reducible refine wpList_store_mid ?a1 33 (.tmp 4) (.tmp 153) ?a2 (w.heap.size + 2) 0 cs ?a3 ?a4 hth hi33 h1c ?_); (case a1 => rfl); (case a2 => rfl); (case a3 => rfl); (case a4 => rfl); simp only [Act.put, List.setIfInBounds_toArray, List.set_cons_zero, List.set_cons_succ])
        )
      refine bodyPost_ret (v := .tuple #[.agg cs, .int .i64 9]) (results_cell_slot rfl _ _ (w.heap.size + 2) 33 cs (0, 0) _ rfl HRES.out Try.underlying33 rfl hi33 _ rfl) rfl ⟨cs, 9, rfl, ?_, HBR.out⟩
      rw [HNO.out]
      exact ⟨H.out.below HBR.out, .inl rfl⟩
  · have HNO : Hid (snaA a id = a) := Lib.hid (by unfold snaA; rw [if_neg]; intro h; exact hid ⟨h.1, h.2.1⟩)
    by_cases hn0 : id < 0
    · have dd : decide (id < 0) = true := decide_eq_true hn0
      clear hid
      have HRES := Lib.hid (HX28.out.putAll cs (by rw [zW_size, hcsz]))
      have hth := HX28.out.there (o := 0) (n := cs.size) (by rw [zW_size, hcsz]; omega)
      have HBR := Lib.hid (below_sets (g := w.heap.size + 2) cs.toList 0 HB8.out (by omega))
      go_wp2_with (first
        | ((with_reducible refine wpList_load_want ?qw 33 (.tmp 2) ?q2 w.heap.size ?q3 33 cs _ HX08.out Try.underlying33 rfl hi33 ?_); (case q2 => rfl); (case q3 => rfl); (case qw => rfl); simp only [Act.put, List.setIfInBounds_toArray, List.set_cons_zero, List.set_cons_succ])
        | ((with_reducible refine wpList_store_mid ?a1 33 (.tmp 4) (.tmp 150) ?a2 (w.heap.size + 2) 0 cs ?a3 ?a4 hth hi33 h1c ?_); (case a1 => rfl); (case a2 => rfl); (case a3 => rfl); (case a4 => rfl); simp only [Act.put, List.setIfInBounds_toArray, List.set_cons_zero, List.set_cons_succ])
        )
      refine bodyPost_ret (v := .tuple #[.agg cs, .int .i64 1]) (results_cell_slot rfl _ _ (w.heap.size + 2) 33 cs (0, 0) _ rfl HRES.out Try.underlying33 rfl hi33 _ rfl) rfl ⟨cs, 1, rfl, ?_, HBR.out⟩
      rw [HNO.out]
      exact ⟨H.out.below HBR.out, .inl rfl⟩
    · have dd : decide (id < 0) = false := decide_eq_false hn0
      have hgt : 99 < id := by omega
      have dd2 : decide (99 < id) = true := decide_eq_true hgt
      clear hid
      have HRES := Lib.hid (HX28.out.putAll cs (by rw [zW_size, hcsz]))
      have hth := HX28.out.there (o := 0) (n := cs.size) (by rw [zW_size, hcsz]; omega)
      have HBR := Lib.hid (below_sets (g := w.heap.size + 2) cs.toList 0 HB8.out (by omega))
      go_wp2_with (first
        | ((with_reducible refine wpList_load_want ?qw 33 (.tmp 2) ?q2 w.heap.size ?q3 33 cs _ HX08.out Try.underlying33 rfl hi33 ?_); (case q2 => rfl); (case q3 => rfl); (case qw => rfl); simp only [Act.put, List.setIfInBounds_toArray, List.set_cons_zero, List.set_cons_succ])
        | ((with_reducible refine wpList_store_mid ?a1 33 (.tmp 4) (.tmp 150) ?a2 (w.heap.size + 2) 0 cs ?a3 ?a4 hth hi33 h1c ?_); (case a1 => rfl); (case a2 => rfl); (case a3 => rfl); (case a4 => rfl); simp only [Act.put, List.setIfInBounds_toArray, List.set_cons_zero, List.set_cons_succ])
        )
      refine bodyPost_ret (v := .tuple #[.agg cs, .int .i64 1]) (results_cell_slot rfl _ _ (w.heap.size + 2) 33 cs (0, 0) _ rfl HRES.out Try.underlying33 rfl hi33 _ rfl) rfl ⟨cs, 1, rfl, ?_, HBR.out⟩
      rw [HNO.out]
      exact ⟨H.out.below HBR.out, .inl rfl⟩
end Go.Proofs.Ytckicdbiiepngaa
