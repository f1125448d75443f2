/-
  Large values in the walk; the document's worlds: zero, built, results.
-/
import Derived.Test.YtckicdbiiepngaaRd4
namespace Go.Proofs.Ytckicdbiiepngaa
set_option linter.unusedVariables false
set_option linter.unusedSimpArgs false
open Go.RowKit Go.Maps Go.Lib Go.Shelf

section
variable {P : Program} {ops : Array Oper} {rest : List Oper} {o : Oper} {a : Act} {w : World} {Q : Exit → Act → World → Prop}
theorem wpList_box_want (hw : Region.wanted o (yielded ops a.tmps) = true) (ty : TypeId) (x : Operand) (ho : o.op = .box ty x) (cs : Array Value) (hx : (a.eval x).cells = cs) (N : Nat) (hN : w.heap.size = N)
    (h : wpList P ops Q rest (a.put o.dst (.pointer (some ⟨N, 0, none⟩))) (w.alloc (.cells cs ty))) : wpList P ops Q (o :: rest) a w :=
  wpList_step fun K hK => by
    rw [if_pos hw]
    subst hx hN
    unfold Oper.wp execOp
    simp only [ho, Sem.run_bind, Instr.box, newVar, newRow, run_newObj_alloc, Sem.run_pure, Result.andThen_ok]
    exact hK _ _ h
theorem wpList_alloc_want (hw : Region.wanted o (yielded ops a.tmps) = true) (ty : TypeId) (ho : o.op = .alloc ty) (cs : Array Value) (hz : (P.info? ty).bind (·.zero) = some (.agg cs)) (N : Nat) (hN : w.heap.size = N) (w' : World) (hW : w.alloc (.cells cs ty) = w')
    (h : wpList P ops Q rest (a.put o.dst (.pointer (some ⟨N, 0, none⟩))) w') : wpList P ops Q (o :: rest) a w :=
  wpList_step fun K hK => by
    rw [if_pos hw]
    subst hN hW
    have hzv : (zeroValue ty).run P w = .ok (.agg cs) w := by
      cases hq : P.info? ty with
      | none => simp [hq] at hz
      | some i =>
        rw [hq] at hz
        simp only [Option.bind_some] at hz
        simp [zeroValue, typeInfo, hq, hz]
    unfold Oper.wp execOp
    simp only [ho, Instr.alloc, Sem.run_bind, hzv, newVar, newRow, run_newObj_alloc, Sem.run_pure, Result.andThen_ok, Value.cells]
    exact hK _ _ h
theorem wpList_mid_want (hw : Region.wanted o (yielded ops a.tmps) = true) (ty : TypeId) (x : Operand) (ho : o.op = .load ty x) (b off : Nat) (hx : a.eval x = .pointer (some ⟨b, off, none⟩)) (cs : List Value) (d : TypeDesc) (hc : w.rangeAt b off cs)
    (hu : P.underlying ty = some d) (hd : d.isRow = true) (hi : (P.info? ty).map (·.size) = some cs.length)
    (h : wpList P ops Q rest (a.put o.dst (.agg cs.toArray)) w) : wpList P ops Q (o :: rest) a w :=
  wpList_step fun K hK => by
    rw [if_pos hw]
    exact wp_load_mid ty x ho b off hx cs d hc hu hd hi (hK _ _ h)
theorem wpList_load_run (hw : Region.wanted o (yielded ops a.tmps) = true) (ty : TypeId) (x : Operand) (ho : o.op = .load ty x) (p : Value) (hx : a.eval x = p) (v : Value) (hr : (Instr.loadAt ty p).run P w = .ok v w)
    (h : wpList P ops Q rest (a.put o.dst v) w) : wpList P ops Q (o :: rest) a w :=
  wpList_step fun K hK => by
    rw [if_pos hw]
    unfold Oper.wp execOp
    simp only [ho, hx, Sem.run_bind, hr, Sem.run_pure, Result.andThen_ok]
    exact hK _ _ h
theorem wpList_store_run (hw : Region.wanted o (yielded ops a.tmps) = true) (ty : TypeId) (x y : Operand) (ho : o.op = .store ty x y) (p v : Value) (hx : a.eval x = p) (hy : a.eval y = v) (w' : World) (hr : (Instr.storeAt ty p v).run P w = .ok () w')
    (h : wpList P ops Q rest (a.put o.dst undef) w') : wpList P ops Q (o :: rest) a w :=
  wpList_step fun K hK => by
    rw [if_pos hw]
    unfold Oper.wp execOp
    simp only [ho, hx, hy, Sem.run_bind, hr, Sem.run_pure, Result.andThen_ok]
    exact hK _ _ h
theorem wpList_append_want (hw : Region.wanted o (yielded ops a.tmps) = true) (s x : Operand) (t tn ty : TypeId) (ho : o.op = .call { callee := .builtin .append, args := #[s, x], argTypes := #[t, tn] }) (hty : o.type = ty) (vs vx : Value) (hs : a.eval s = vs) (hx : a.eval x = vx) (v' : Value) (w' : World)
    (hr : (Builtin.append_ #[t, tn] ty #[vs, vx]).run P w = .ok v' w') (h : wpList P ops Q rest (a.put o.dst v') w') : wpList P ops Q (o :: rest) a w :=
  wpList_step fun K hK => by
    rw [if_pos hw]
    subst hty
    exact wp_append_run w s x t tn ho vs vx hs hx v' w' hr (hK _ _ h)
end
/-- One cell, stored in a block that is known whole. -/
theorem Blk.storeAt {P : Program} {w : World} {g : Nat} {t ty : TypeId} {cs : Array Value} (h : Blk w g t cs) {i : Nat} (hlt : i < cs.size) {v : Value} (hi : (P.info? ty).map (·.size) = some 1) (hv : v.cells = #[v]) (h1 : v.oneCell' = true) :
    (Instr.storeAt ty (.pointer (some ⟨g, i, none⟩)) v).run P w = .ok () (w.setCell ⟨g, i, none⟩ v) := by
  have := run_storeCells_cells (P := P) g i [v] 0 w (fun j hj => by
      obtain rfl : j = 0 := by simp at hj; omega
      simp only [Nat.add_zero]
      rw [h.at_ (Array.getElem?_eq_getElem hlt)]; rfl) (fun j hj => by simpa using h.fr _) (fun u hu => by simp at hu; rw [hu]; exact h1)
  simp only [Nat.add_zero, World.setCells] at this
  cases hq : P.info? ty with
  | none => simp [hq] at hi
  | some k =>
    have hs : k.size = 1 := by simpa [hq] using hi
    have hsv : (storeVar ty ⟨g, i, none⟩ v).run P w = .ok () (w.setCell ⟨g, i, none⟩ v) := by
      simp [storeVar, sizeOf, typeInfo, hq, hv, hs, this]
    simp only [Instr.storeAt, Instr.sureAddr, Sem.run_bind, Sem.run_pure, Result.andThen_ok, hsv]
theorem results_cell_slot {P : Program} {fn : Func} {p q : Tmp} {ty : TypeId} (h : fn.results = #[.cell p ty, .tmp q]) (tmps : Array Value) (w : World) (g : Nat) (t : TypeId) (cs : Array Value) (fr : Nat × Nat) (d : TypeDesc)
    (hp : tmps.getD p undef = .pointer (some ⟨g, 0, none⟩)) (hg : w.heap[g]? = some (.cells cs t fr))
    (hu : P.underlying ty = some d) (hd : (match d with | .struct _ | .array _ _ => true | _ => false) = true) (hi : (P.info? ty).map (·.size) = some cs.size) (v : Value) (hv : tmps.getD q undef = v) :
    (results fn tmps).run P w = .ok (.tuple #[.agg cs, v]) w := by
  have hp' : tmps[p]?.getD undef = .pointer (some ⟨g, 0, none⟩) := by simpa using hp
  have hv' : tmps[q]?.getD undef = v := by simpa using hv
  simp [results, h, hp', hv', asAddr, run_loadVar_row w g t ty cs fr d hg hu hd hi]

/-- The empty world. -/
def zW : Array Value := wV (setL (.map [])) none 0 0 none 0 0
theorem zW_is : (Try.prog.info? 33).bind (·.zero) = some (.agg zW) := by kernel_rfl
theorem zW_size : zW.size = 66 := wV_size (setL_len _)
theorem zW_ref (w : World) : RefW w zW emp := ⟨none, 0, none, 0, rfl, ⟨rfl, fun h => absurd h (Nat.lt_irrefl 0)⟩, ⟨rfl, fun h => absurd h (Nat.lt_irrefl 0)⟩, Nat.le_refl _, Nat.le_refl _⟩
theorem build_w (o : DT) (W : World) : (Instr.build 33 #[(0, .agg (setL o).toArray)]).run Try.prog W = .ok (.agg (wV (setL o) none 0 0 none 0 0)) W := by kernel_rfl
theorem Try.infoRI : (Try.prog.info? 3).map (fun i => (i.zero, i.size, i.bytes)) = some (some (.int .i64 0), 1, 8) := by kernel_rfl
theorem Try.infoRS : (Try.prog.info? 29).map (fun i => (i.zero, i.size, i.bytes)) = some (some (.agg (setL (.map [])).toArray), 64, 544) := by kernel_rfl
theorem idC_eq (a : AllA) : idC a = a.ids.map fun x => Value.int .i64 x := by unfold idC AllA.ids; rw [List.map_map]; rfl
theorem ids_len (a : AllA) : a.ids.length = a.snaps.length := by unfold AllA.ids; rw [List.length_map]
theorem idC_one (a : AllA) : ∀ u ∈ idC a, u.oneCell' = true := fun u hu => by
  unfold idC at hu
  obtain ⟨p, _, rfl⟩ := List.mem_map.1 hu; rfl
theorem snC_one (a : AllA) : ∀ u ∈ snC a, u.oneCell' = true := fun u hu => by
  unfold snC at hu
  obtain ⟨p, _, hp⟩ := List.mem_flatMap.1 hu
  exact setL_one _ u hp
/-- The blocks of a world's rows. -/
def ownB (cs : Array Value) (b : Nat) : Prop := (∃ v, cs[64]? = some v ∧ v.ownBlock = some b) ∨ (∃ v, cs[65]? = some v ∧ v.ownBlock = some b)
theorem ref_of_rows {W W0 : World} {n k B B2 : Nat} {a' : AllA} {A3 A4 : Option Addr} {c3 c4 : Nat} (row1 : W0.ownsRow B 3 1 (.slice A3 k c3) k (idC a')) (row2 : W0.ownsRow B2 29 64 (.slice A4 k c4) k (snC a'))
    (hB : n + 4 ≤ B) (hB2 : n + 4 ≤ B2) (far : ∀ i, n + 4 ≤ i → i < W0.heap.size → W.heap[i]? = W0.heap[i]?) (hk : k = a'.snaps.length) (hz : W0.heap.size ≤ W.heap.size) {cs : Array Value} : RefW W (wV (setL a'.live) A3 k c3 A4 k c4) a' ∧ (wV (setL a'.live) A3 k c3 A4 k c4 = cs ∨ ∀ b, ownB (wV (setL a'.live) A3 k c3 A4 k c4) b → n ≤ b ∧ b < W.heap.size) := by
  have r1 : W.ownsRow B 3 1 (.slice A3 k c3) k (idC a') := ownsRow_same row1 (fun b hb => far b (by have := row1.lt b hb; omega) (row1.lt b hb).2)
  have r2 : W.ownsRow B2 29 64 (.slice A4 k c4) k (snC a') := ownsRow_same row2 (fun b hb => far b (by have := row2.lt b hb; omega) (row2.lt b hb).2)
  subst hk
  refine ⟨⟨A3, c3, A4, c4, rfl, own_reads r1, own_reads r2, own_le r1, own_le r2⟩, .inr fun b hb => ?_⟩
  rcases hb with ⟨v, hv, hb⟩ | ⟨v, hv, hb⟩
  · rw [wV_64 (setL_len _)] at hv
    cases hv
    have := r1.lt b hb; omega
  · rw [wV_65 (setL_len _)] at hv
    cases hv
    have := r2.lt b hb; omega
theorem sets_size {g : Nat} : ∀ (vs : List Value) (o : Nat) (w : World), (w.setCells g o vs).heap.size = w.heap.size
  | [], _, _ => rfl
  | v :: r, o, w => by rw [World.setCells, sets_size r]; simp [World.setCell]
theorem sets_apart {g : Nat} : ∀ (vs : List Value) (o : Nat) (w : World) (i : Nat), i ≠ g → (w.setCells g o vs).heap[i]? = w.heap[i]?
  | [], _, _, _, _ => rfl
  | v :: r, o, w, i, hi => by rw [World.setCells, sets_apart r _ _ _ hi]; exact Below.heap_setCell w ⟨g, o, none⟩ v i hi
theorem flat_at : ∀ (ss : List (Int × DT)) (i : Nat) (p : Int × DT), ss[i]? = some p → ∀ (j : Nat) (u : Value), (setL p.2)[j]? = some u → (ss.flatMap fun p => setL p.2)[i * 64 + j]? = some u
  | [], i, p, h, _, _, _ => by simp at h
  | q :: ss, 0, p, h, j, u, hu => by
    simp at h
    subst h
    have hj : j < 64 := by have := (List.getElem?_eq_some_iff.1 hu).1; rw [setL_len] at this; exact this
    rw [List.flatMap_cons, Nat.zero_mul, Nat.zero_add, List.getElem?_append_left (by rw [setL_len]; exact hj)]
    exact hu
  | q :: ss, i + 1, p, h, j, u, hu => by
    have := flat_at ss i p (by simpa using h) j u hu
    rw [List.flatMap_cons, List.getElem?_append_right (by rw [setL_len]; omega), setL_len, show (i + 1) * 64 + j - 64 = i * 64 + j by omega]
    exact this
theorem flat_len : ∀ (ss : List (Int × DT)), (ss.flatMap fun p => setL p.2).length = ss.length * 64
  | [] => rfl
  | q :: ss => by rw [List.flatMap_cons, List.length_append, setL_len, flat_len ss, List.length_cons]; omega
theorem snC_range {w : World} {a : AllA} {b off n : Nat} {p : Int × DT} {i : Nat} (h : Reads w 64 (some ⟨b, off, none⟩) n (snC a)) (hp : a.snaps[i]? = some p) (hn : 0 < n) : w.rangeAt b (off + i * 64) (setL p.2) := fun j v hv => by
  obtain ⟨b', off', he, _, hc⟩ := h.2 hn
  cases he
  rw [Nat.add_assoc]
  exact hc _ v (flat_at a.snaps i p hp j v hv)
theorem wV_all {l l' : List Value} {A1 A2 : Option Addr} {n1 c1 n2 c2 : Nat} (h : l.length = 64) (h' : l'.length = 64) : wrFrom (wV l A1 n1 c1 A2 n2 c2) 0 l' = wV l' A1 n1 c1 A2 n2 c2 := by
  have hsz : 0 + l'.length ≤ (wV l A1 n1 c1 A2 n2 c2).size := by rw [wV_size h]; omega
  refine Array.ext_getElem? fun j => ?_
  rw [wrFrom_get _ _ _ _ hsz]
  by_cases hj : j < 64
  · rw [if_pos ⟨by omega, by omega⟩, wV_lo h' hj, Nat.sub_zero]
  · rw [if_neg (by omega)]
    by_cases e : j = 64
    · subst e; rw [wV_64 h, wV_64 h']
    · by_cases e2 : j = 65
      · subst e2; rw [wV_65 h, wV_65 h']
      · rw [Array.getElem?_eq_none (by rw [wV_size h]; omega), Array.getElem?_eq_none (by rw [wV_size h']; omega)]
/-- What worlds bear. -/
structure Sane (a : AllA) : Prop where
  few : a.snaps.length ≤ 4
  map : IsMap a.live
  txt : ∀ k : Int, (txt a.live k).length ≤ 16384
/-- Both rows, appended to nil. -/
theorem two_rows {w3 : World} {n k : Nat} {l : List Value} {A1 A2 : Option Addr} {c1 c2 : Nat} {xs ys : List Value} (hl : l.length = 64) (hO : Blk w3 (n + 3) 33 (wV l none 0 0 none 0 0)) (hs : n + 4 ≤ w3.heap.size) (hk : k ≤ 4)
    {w0 : World} (hb : Below w0.heap.size w0 w3) (h0 : w0.heap.size ≤ n + 3) (hr1 : Reads w0 1 A1 k xs) (hr2 : Reads w0 64 A2 k ys) (h1 : ∀ u ∈ xs, u.oneCell' = true) (h2 : ∀ u ∈ ys, u.oneCell' = true) :
    ∃ A3 c3 w4 w5 A4 c4 w6 w7 B2, (Builtin.append_ #[30, 30] 30 #[.slice none 0 0, .slice A1 k c1]).run Try.prog w3 = .ok (.slice A3 k c3) w4 ∧
      (Instr.storeAt 30 (.pointer (some ⟨n + 3, 64, none⟩)) (.slice A3 k c3)).run Try.prog w4 = .ok () w5 ∧
      (Builtin.append_ #[31, 31] 31 #[.slice none 0 0, .slice A2 k c2]).run Try.prog w5 = .ok (.slice A4 k c4) w6 ∧
      (Instr.storeAt 31 (.pointer (some ⟨n + 3, 65, none⟩)) (.slice A4 k c4)).run Try.prog w6 = .ok () w7 ∧
      Blk w5 (n + 3) 33 (wV l A3 k c3 none 0 0) ∧ Blk w7 (n + 3) 33 (wV l A3 k c3 A4 k c4) ∧ w7.ownsRow (n + 4) 3 1 (.slice A3 k c3) k xs ∧ w7.ownsRow B2 29 64 (.slice A4 k c4) k ys ∧
      n + 4 ≤ B2 ∧ (∀ b, (Value.slice A3 k c3).ownBlock = some b → b < B2) ∧ Below (n + 3) w3 w5 ∧ Below (n + 3) w3 w7 ∧ n + 4 ≤ w7.heap.size ∧ B2 ≤ w7.heap.size := by
  obtain ⟨i1, p1, p2, p3, p4⟩ := info_parts Try.infoRI
  obtain ⟨i2, q1, q2, q3, q4⟩ := info_parts Try.infoRS
  obtain ⟨A3, c3, w4, e1, o1, g1, _⟩ := app_run (ty := 30) (c := c1) Try.underlying30 p1 p2 p3 p4 rfl (by decide) (World.ownsRow_nil w3 (n + 4) 3 1) hs (hr1.below hb (Nat.le_refl _)) h1 (by omega) (by decide)
  rw [Nat.zero_add] at e1 o1
  rw [List.nil_append] at o1
  have b4 : Below (n + 3) w3 w4 := ⟨g1.os, g1.tape, g1.output, g1.size, fun i hi => g1.block i (by omega) (by simp [Value.ownBlock])⟩
  have O4 : Blk w4 (n + 3) 33 (wV l none 0 0 none 0 0) := (g1.block (n + 3) (by omega) (by simp [Value.ownBlock])).trans hO
  obtain ⟨w5, hw5⟩ : ∃ x, x = w4.setCell ⟨n + 3, 64, none⟩ (.slice A3 k c3) := ⟨_, rfl⟩
  have s1 := O4.storeAt (P := Try.prog) (ty := 30) (i := 64) (by rw [wV_size hl]; omega) (v := .slice A3 k c3) (by kernel_rfl) rfl rfl
  rw [← hw5] at s1
  have O5 : Blk w5 (n + 3) 33 (wV l A3 k c3 none 0 0) := by
    have := O4.put 64 (.slice A3 k c3)
    rwa [wV_set64 hl, ← hw5] at this
  have f5 : ∀ i, i ≠ n + 3 → w5.heap[i]? = w4.heap[i]? := fun i hi => by rw [hw5]; exact Below.heap_setCell _ ⟨n + 3, 64, none⟩ _ i hi
  have z5 : w5.heap.size = w4.heap.size := by rw [hw5]; simp [World.setCell]
  have b5 : Below (n + 3) w3 w5 := by rw [hw5]; exact b4.setCell (Nat.le_refl _) _
  have o5 : w5.ownsRow (n + 4) 3 1 (.slice A3 k c3) k xs := by
    refine ownsRow_same o1 (fun b hb => f5 b (fun e => ?_))
    have := (o1.lt b hb).1
    omega
  have b05 : Below w0.heap.size w0 w5 := hb.trans (b5.mono h0)
  have hz : n + 4 ≤ w5.heap.size := by have := g1.size; omega
  obtain ⟨A4, c4, w6, e2, o2, g2, _⟩ := app_run (ty := 31) (c := c2) Try.underlying31 q1 q2 q3 q4 (by simp [Value.cells, setL_len]) (by decide) (World.ownsRow_nil w5 w5.heap.size 29 64) (Nat.le_refl _) (hr2.below b05 (Nat.le_refl _)) h2 (by omega) (by decide)
  rw [Nat.zero_add] at e2 o2
  rw [List.nil_append] at o2
  have b6 : Below (n + 3) w5 w6 := ⟨g2.os, g2.tape, g2.output, g2.size, fun i hi => g2.block i (by omega) (by simp [Value.ownBlock])⟩
  have O6 : Blk w6 (n + 3) 33 (wV l A3 k c3 none 0 0) := (g2.block (n + 3) (by omega) (by simp [Value.ownBlock])).trans O5
  obtain ⟨w7, hw7⟩ : ∃ x, x = w6.setCell ⟨n + 3, 65, none⟩ (.slice A4 k c4) := ⟨_, rfl⟩
  have s2 := O6.storeAt (P := Try.prog) (ty := 31) (i := 65) (by rw [wV_size hl]; omega) (v := .slice A4 k c4) (by kernel_rfl) rfl rfl
  rw [← hw7] at s2
  have O7 : Blk w7 (n + 3) 33 (wV l A3 k c3 A4 k c4) := by
    have := O6.put 65 (.slice A4 k c4)
    rwa [wV_set65 hl, ← hw7] at this
  have f7 : ∀ i, i ≠ n + 3 → w7.heap[i]? = w6.heap[i]? := fun i hi => by rw [hw7]; exact Below.heap_setCell _ ⟨n + 3, 65, none⟩ _ i hi
  have z7 : w7.heap.size = w6.heap.size := by rw [hw7]; simp [World.setCell]
  have b7 : Below (n + 3) w3 w7 := by rw [hw7]; exact (b5.trans b6).setCell (Nat.le_refl _) _
  refine ⟨A3, c3, w4, w5, A4, c4, w6, w7, w5.heap.size, e1, s1, e2, s2, O5, O7, ?_, ?_, hz, fun b hb' => (o5.lt b hb').2, b5, b7, ?_, by have := g2.size; omega⟩
  · refine ownsRow_same o5 (fun b hb' => ?_)
    have q := o5.lt b hb'
    rw [f7 b (by omega)]
    exact g2.block b q.2 (by simp [Value.ownBlock])
  · refine ownsRow_same o2 (fun b hb' => f7 b (fun e => ?_))
    have := (o2.lt b hb').1
    omega
  · have := g2.size; omega
end Go.Proofs.Ytckicdbiiepngaa
