/-
  Contracts of package vdev: New.
-/
import Derived.Test.YtlpbbjjibnbooaaGreatDoorJ07
namespace Go.Proofs.YtlpbbjjibnbooaaGreatDoor
set_option linter.unusedVariables false
set_option linter.unusedSimpArgs false
open Go.RowKit

theorem quiet_build {P : Program} {a : Act} {C : World → Prop} {o : Oper} {K : Act → Prop} (ty : TypeId) (parts : Array (Nat × Operand)) (ho : o.op = .build ty parts) (ps : Array (Nat × Value)) (hps : (parts.map fun (i, x) => (i, a.eval x)) = ps) (v : Value)
    (hb : ∀ W, (Instr.build ty ps).run P W = .ok v W) (hk : K (a.put o.dst v)) : o.quiet P a C K :=
  ⟨v, fun W hW => by
    unfold Oper.quietAt execOp
    subst hps
    simp only [ho, hb W, Sem.run_bind, Sem.run_pure, Result.andThen_ok]
    exact ⟨rfl, rfl⟩, hk⟩
theorem results_cell_slot {P : Program} {fn : Func} {p q : Tmp} {ty : TypeId} (h : fn.results = #[.cell p ty, .tmp q]) (tmps : Array Value) (w : World) (g : Nat) (t : TypeId) (cs : Array Value) (fr : Nat × Nat) (d : TypeDesc)
    (hp : tmps.getD p undef = .pointer (some ⟨g, 0, none⟩)) (hg : w.heap[g]? = some (.cells cs t fr))
    (hu : P.underlying ty = some d) (hd : (match d with | .struct _ | .array _ _ => true | _ => false) = true) (hi : (P.info? ty).map (·.size) = some cs.size) (v : Value) (hv : tmps.getD q undef = v) :
    (results fn tmps).run P w = .ok (.tuple #[.agg cs, v]) w := by
  have hp' : tmps[p]?.getD undef = .pointer (some ⟨g, 0, none⟩) := by simpa using hp
  have hv' : tmps[q]?.getD undef = v := by simpa using hv
  simp [results, h, hp', hv', asAddr, run_loadVar_row w g t ty cs fr d hg hu hd hi]
theorem results_cell_two {P : Program} {fn : Func} {p q r : Tmp} {ty : TypeId} (h : fn.results = #[.cell p ty, .tmp q, .tmp r]) (tmps : Array Value) (w : World) (g : Nat) (t : TypeId) (cs : Array Value) (fr : Nat × Nat) (d : TypeDesc)
    (hp : tmps.getD p undef = .pointer (some ⟨g, 0, none⟩)) (hg : w.heap[g]? = some (.cells cs t fr))
    (hu : P.underlying ty = some d) (hd : (match d with | .struct _ | .array _ _ => true | _ => false) = true) (hi : (P.info? ty).map (·.size) = some cs.size) (v u : Value) (hv : tmps.getD q undef = v) (hw : tmps.getD r undef = u) :
    (results fn tmps).run P w = .ok (.tuple #[.agg cs, v, u]) w := by
  have hp' : tmps[p]?.getD undef = .pointer (some ⟨g, 0, none⟩) := by simpa using hp
  have hv' : tmps[q]?.getD undef = v := by simpa using hv
  have hw' : tmps[r]?.getD undef = u := by simpa using hw
  simp [results, h, hp', hv', hw', asAddr, run_loadVar_row w g t ty cs fr d hg hu hd hi]
theorem Tryz.infoDevs (a b c d : Value) : (Tryz.prog.info? 50).map (·.size) = some (#[a, b, c, d] : Array Value).size := by kernel_rfl
theorem Tryz.infoPtr : (Tryz.prog.info? 56).map (fun i => (i.zero, i.size, i.bytes)) = some (some (.pointer none), 1, 8) := by kernel_rfl
abbrev vZ : Array Value := #[.slice none 0 0, .int .i64 0, .slice none 0 0, .slice none 0 0]
set_option maxRecDepth 20000 in
theorem vnew_bad {w : World} {A : Option Addr} {m c : Nat} {gs : List (Int × Int)} {secs : Int} (hg : GeoAt w A m gs) (hr : gRight gs secs = false) (fill : UInt8) :
    Calls Tryz.prog 39 #[.agg #[.slice A m c, .int .i64 secs], .int .u8 fill.toNat] w fun e w' => e = .returned (.tuple #[.agg vZ, .int .i64 1]) ∧ Below w.heap.size w w' := by
  obtain ⟨w2, hw2⟩ : ∃ z, (w.alloc (.cells #[.slice A m c, .int .i64 secs] 24)).alloc (.cells vZ 50) = z := ⟨_, rfl⟩
  have B1 : Blk w2 w.heap.size 24 #[.slice A m c, .int .i64 secs] := by rw [← hw2]; exact (Blk.new _ _ _).alloc _
  have B2 : Blk w2 (w.heap.size + 1) 50 vZ := by rw [← hw2]; exact Blk.new2 _ _ _ _
  have D2 : Below w.heap.size w w2 := by rw [← hw2]; exact keep_alloc (keep_alloc (Below.refl _ _) _) _
  have hR := right_any A m c gs secs w2 (hg.below D2 (Nat.le_refl _))
  rw [hr] at hR
  have HR := Lib.hid hR
  have HB2 := Lib.hid B2
  have HD2 := Lib.hid D2
  have HW2 := Lib.hid hw2
  have g0 := B1.at_ (i := 0) (v := .slice A m c) rfl
  have g1 := B1.at_ (i := 1) (v := .int .i64 secs) rfl
  clear hg hr hw2 B1 B2 D2 hR
  rw [← HW2.out] at g0 g1
  go_enter Tryz.func39, Tryz.ntmps39
  go_wp2_with fail
  rw [HW2.out]
  refine HR.out.mono ?_
  rintro e w3 ⟨rfl, hb3⟩
  have B3 := HB2.out.below hb3 HB2.out.lt
  have z0 := B3.at_ (i := 0) (v := .slice none 0 0) rfl
  have z1 := B3.at_ (i := 1) (v := .int .i64 0) rfl
  have z2 := B3.at_ (i := 2) (v := .slice none 0 0) rfl
  have z3 := B3.at_ (i := 3) (v := .slice none 0 0) rfl
  have y0 := B3.fr 0
  have y1 := B3.fr 1
  have y2 := B3.fr 2
  have y3 := B3.fr 3
  have HB3 := Lib.hid (keep_below hb3 HD2.out)
  have HX := Lib.hid ((((B3.put 0 (.slice none 0 0)).put 1 (.int .i64 0)).put 2 (.slice none 0 0)).put 3 (.slice none 0 0))
  clear hb3 B3 g0 g1
  go_wp2_with fail
  exact bodyPost_ret (v := .tuple #[.agg vZ, .int .i64 1]) (results_cell_slot rfl _ _ (w.heap.size + 1) 50 vZ (0, 0) _ rfl HX.out Tryz.underlying50 rfl (Tryz.infoDevs _ _ _ _) _ rfl) rfl ⟨rfl, below_set (below_set (below_set (below_set HB3.out _ _ _ (Nat.le_succ _)) _ _ _ (Nat.le_succ _)) _ _ _ (Nat.le_succ _)) _ _ _ (Nat.le_succ _)⟩
theorem build_geom' (gb m gcap secs : Nat) (W : World) : (Instr.build 24 #[(0, .slice (some ⟨gb, 0, none⟩) m gcap), (1, .int .i64 secs)]).run Tryz.prog W = .ok (.agg #[.slice (some ⟨gb, 0, none⟩) m gcap, .int .i64 secs]) W := by kernel_rfl
theorem build_devs' (gb m gcap secs ab n : Nat) (W : World) : (Instr.build 50 #[(0, .agg #[.slice (some ⟨gb, 0, none⟩) m gcap, .int .i64 secs]), (2, .slice (some ⟨ab, 0, none⟩) n n)]).run Tryz.prog W = .ok (.agg #[.slice (some ⟨gb, 0, none⟩) m gcap, .int .i64 secs, .slice none 0 0, .slice (some ⟨ab, 0, none⟩) n n]) W := by kernel_rfl
theorem nv_fin {w3 W : World} {X gb ab m n gcap secs : Nat} {gs : List (Int × Int)} {R : Array Value} (hX : Blk W X 50 vZ) (hg : GeoAt W (some ⟨gb, 0, none⟩) m gs) (hl : gb < W.heap.size) (ha : Blk W ab 4 R)
    (h1 : w3.heap.size ≤ gb) (h2 : w3.heap.size ≤ ab) (h3 : w3.heap.size ≤ X) (n1 : gb ≠ ab) (n2 : gb ≠ X) (n3 : ab ≠ X) (hd : Below w3.heap.size w3 W) :
    ∀ wy, W.setCells X 0 (#[.slice (some ⟨gb, 0, none⟩) m gcap, .int .i64 secs, .slice none 0 0, .slice (some ⟨ab, 0, none⟩) n n] : Array Value).toList = wy →
      Blk wy X 50 #[.slice (some ⟨gb, 0, none⟩) m gcap, .int .i64 secs, .slice none 0 0, .slice (some ⟨ab, 0, none⟩) n n] ∧ GeoAt wy (some ⟨gb, 0, none⟩) m gs ∧ gb < wy.heap.size ∧
    Blk wy ab 4 R ∧ w3.heap.size ≤ gb ∧ w3.heap.size ≤ ab ∧ w3.heap.size ≤ X ∧ gb ≠ ab ∧ gb ≠ X ∧ ab ≠ X ∧ Below w3.heap.size w3 wy := by
  rintro wy rfl
  refine ⟨hX.putAll _ rfl, ?_, ?_, Blk.fars n3 _ _ ha, h1, h2, h3, n1, n2, n3, below_sets _ _ hd h3⟩
  · exact hg.same (by rw [sets_size']; exact Nat.le_refl _) (sets_far' (w := W) n2 _ _ _)
  · rw [sets_size']; exact hl
theorem gSum_pos {gs : List (Int × Int)} {secs : Int} (h : gRight gs secs = true) : 0 < gSum gs := by
  obtain ⟨h1, _, _, _, h5⟩ := gRight_parts h
  cases gs with
  | nil => simp at h1
  | cons x r =>
    have h6 := gOne_true (h5 x List.mem_cons_self)
    have h7 := (gSum_bd (gs := r) (fun y hy => by have := gOne_true (h5 y (List.mem_cons_of_mem _ hy)); omega)).1
    show 0 < x.2 + gSum r
    omega
/-- The devices that New has made. -/
theorem nv_end {w wc wr wf : World} {gb gcap ab xb m vg vcap k secs : Nat} {gs : List (Int × Int)} {fill : UInt8} {S : Nat → Nat → Prop} {bd : List Nat} (hbd : bd.length = k) (hr : gRight gs secs = true) (hs : gSum gs = k)
    (p1 : w.heap.size + 1 < wc.heap.size) (q1 : w.heap.size + 2 ≤ gb) (q2 : w.heap.size + 2 ≤ ab) (q3 : w.heap.size + 2 ≤ xb) (n1 : gb ≠ ab) (n2 : gb ≠ xb) (n3 : ab ≠ xb) (l1 : gb < wc.heap.size) (l2 : ab < wc.heap.size)
    (hgeo : GeoAt wc (some ⟨gb, 0, none⟩) m gs) (hab : Blk wc ab 4 (List.map Value.bool (List.replicate k false)).toArray) (honly : Only (fun g => g = xb) wc wr)
    (hown : wr.ownsRow wc.heap.size 56 1 (.slice (some ⟨vg, 0, none⟩) k vcap) k (bd.map fun b => Value.pointer (some ⟨b, 0, none⟩)))
    (hdev : ∀ i b, bd[i]? = some b → DevAt wr (S i) b (DevD.blank secs fill)) (hin : ∀ i b, S i b → i < k ∧ wc.heap.size ≤ b ∧ b < wr.heap.size ∧ (Value.slice (some ⟨vg, 0, none⟩) k vcap).ownBlock ≠ some b)
    (hap : ∀ i j b, S i b → S j b → i = j) (hf : ∀ g, g < wr.heap.size → g ≠ w.heap.size + 1 → wf.heap[g]? = wr.heap[g]?) (hz : wr.heap.size ≤ wf.heap.size) :
    VdIn wf S (fun b => b < w.heap.size ∨ b = gb ∨ b = vg ∨ b = ab) ⟨gb, m, gcap, gs, secs, vg, vcap, ab, bd⟩ (List.replicate k false) (List.replicate k (DevD.blank secs fill)) := by
  obtain ⟨v1, v2⟩ := hown.lt vg rfl
  have hsz := honly.size
  refine ⟨?_, hr, by rw [hs, hbd], by simp [hbd], by simp [hbd], fun i b hb => ?_, ?_, fun i b d hb hd => ?_, fun d hd => ?_, fun i b hS => ?_, fun i b hS hU => ?_, hap, fun b hU => ?_, .inr (.inl rfl), .inr (.inr (.inl rfl)), .inr (.inr (.inr rfl)), ⟨n1, by show vg ≠ ab; omega⟩⟩
  · exact hgeo.same (by omega) ((hf gb (by omega) (by omega)).trans (honly.block gb l1 n2))
  · have h := hown.cells (g := vg) rfl i (.pointer (some ⟨b, 0, none⟩)) (by rw [List.getElem?_map, hb]; rfl)
    rw [Addr.add_mid, Nat.zero_add] at h
    exact (cell_same' (hf vg v2 (by omega))).trans h
  · exact (hf ab (by omega) (by omega)).trans ((honly.block ab l2 n3).trans hab)
  · have hd' : d = DevD.blank secs fill := by
      have := List.mem_of_getElem? hd
      exact List.eq_of_mem_replicate this
    subst hd'
    obtain ⟨mb, mcap, cb, g, hh⟩ := hdev i b hb
    exact ⟨mb, mcap, cb, g, hh.same hz (fun b hS => hf b (hin i b hS).2.2.1 (by have := (hin i b hS).2.1; omega))⟩
  · rw [List.eq_of_mem_replicate hd]
    simp [DevD.blank]
  · exact Nat.lt_of_lt_of_le (hin i b hS).2.2.1 hz
  · obtain ⟨_, h2, _, h4⟩ := hin i b hS
    rcases hU with h | h | h | h
    · omega
    · omega
    · exact h4 (by rw [h]; rfl)
    · omega
  · rcases hU with h | h | h | h <;> omega
set_option maxRecDepth 20000 in
set_option maxHeartbeats 4000000 in
theorem vnew_any {w : World} {A : Option Addr} {m c : Nat} {gs : List (Int × Int)} {secs : Nat} (hg : GeoAt w A m gs) (hr : gRight gs secs = true) (fill : UInt8) {n : Nat} (hn : gSum gs = n) :
    Calls Tryz.prog 39 #[.agg #[.slice A m c, .int .i64 secs], .int .u8 fill.toNat] w fun e w' => ∃ (y : VX) (S : Nat → Nat → Prop), e = .returned (.tuple #[y.val, .int .i64 0]) ∧ y.gs = gs ∧ y.secs = secs ∧ y.bd.length = n ∧
      VdIn w' S (fun b => b < w.heap.size ∨ b = y.gb ∨ b = y.lb ∨ b = y.ab) y (List.replicate n false) (List.replicate n (DevD.blank secs fill)) ∧ w.heap.size ≤ y.gb ∧ w.heap.size ≤ y.lb ∧ w.heap.size ≤ y.ab ∧ Below w.heap.size w w' := by
  obtain ⟨hl1, hl4, hs1, hs2, hone⟩ := gRight_parts hr
  have hm : m = gs.length := hg.1.symm
  obtain ⟨bA, oA, rfl, hgsA⟩ := hg.2.2 (by omega)
  have hnb : n ≤ 32 := by have := (gSum_bd (gs := gs) (fun x hx => by have := gOne_true (hone x hx); omega)).2; omega
  obtain ⟨w2, hw2⟩ : ∃ z, (w.alloc (.cells #[.slice (some ⟨bA, oA, none⟩) m c, .int .i64 secs] 24)).alloc (.cells vZ 50) = z := ⟨_, rfl⟩
  have B1 : Blk w2 w.heap.size 24 #[.slice (some ⟨bA, oA, none⟩) m c, .int .i64 secs] := by rw [← hw2]; exact (Blk.new _ _ _).alloc _
  have B2 : Blk w2 (w.heap.size + 1) 50 vZ := by rw [← hw2]; exact Blk.new2 _ _ _ _
  have D2 : Below w.heap.size w w2 := by rw [← hw2]; exact keep_alloc (keep_alloc (Below.refl _ _) _) _
  have hR := right_any (some ⟨bA, oA, none⟩) m c gs secs w2 (hg.below D2 (Nat.le_refl _))
  rw [hr] at hR
  have HR := Lib.hid hR
  have HCL : Hid (∀ W, Below w2.heap.size w2 W → Calls Tryz.prog 80 #[.slice (some ⟨bA, oA, none⟩) m c] W fun e w' => ∃ g cap, e = .returned (.slice (some ⟨g, 0, none⟩) m cap) ∧ GeoAt w' (some ⟨g, 0, none⟩) m gs ∧ W.heap.size ≤ g ∧ g < w'.heap.size ∧ Below W.heap.size W w') :=
    Lib.hid (fun W hW => cloneG_any ((hg.below D2 (Nat.le_refl _)).below hW (Nat.le_refl _)) (by omega) (by omega))
  have HDV : Hid (∀ W, Below w2.heap.size w2 W → Calls Tryz.prog 81 #[.agg #[.slice (some ⟨bA, oA, none⟩) m c, .int .i64 secs]] W fun e w' => e = .returned (.int .i64 n) ∧ Below W.heap.size W w') := Lib.hid (fun W hW => by
    have := devs_any (some ⟨bA, oA, none⟩) m c gs secs W ((hg.below D2 (Nat.le_refl _)).below hW (Nat.le_refl _))
    rw [show gDevs gs secs = n by unfold gDevs; rw [if_pos hr]; exact hn] at this
    exact this)
  have HB1 := Lib.hid B1
  have HB2 := Lib.hid B2
  have HD2 := Lib.hid D2
  have HW2 := Lib.hid hw2
  have HRR := Lib.hid (And.intro hr hn)
  have hsl : 1 ≤ secs ∧ secs ≤ 4096 := by omega
  have HSL := Lib.hid hsl
  have g0 := B1.at_ (i := 0) (v := .slice (some ⟨bA, oA, none⟩) m c) rfl
  have g1 := B1.at_ (i := 1) (v := .int .i64 secs) rfl
  clear hg hr hw2 B1 B2 D2 hR hone hgsA hn hl1 hl4 hs1 hs2 hsl hm
  rw [← HW2.out] at g0 g1
  go_enter Tryz.func39, Tryz.ntmps39
  go_wp2_with fail
  rw [HW2.out]
  refine HR.out.mono ?_
  rintro e w3 ⟨rfl, hb3⟩
  have HB3 := Lib.hid hb3
  clear hb3 g0 g1
  repeat' (first
    | go_values
    | go_skip
    | go_guarded
    | ((fail_if_success (with_reducible refine drawn_mark ?_))
       first
         | go_step
         | go_upon
         | go_back
         | (simp only [Int.not_lt, Int.not_le] at *; go_simp)
         | (go_values <;> (try go_simp))
         | (go_ite <;> go_prune <;> (try go_simp))
         | (split <;> (first | (rename_i hx; exact (hx _ rfl).elim) | go_prune))))
  obtain ⟨C, hCd, hCw, hCB, hCK, hCD⟩ := cls_below w3
  have HCB := Lib.hid hCB
  have HCK := Lib.hid hCK
  have f0 : ∀ W, C W → W.cell? ⟨w.heap.size, 0, none⟩ = some (.slice (some ⟨bA, oA, none⟩) m c) := fun W h => keep_cell (HCB.out W h) (keep_cell HB3.out (HB1.out.at_ rfl) HB1.out.lt) (Nat.lt_of_lt_of_le HB1.out.lt HB3.out.size)
  have f1 : ∀ W, C W → W.cell? ⟨w.heap.size, 1, none⟩ = some (.int .i64 secs) := fun W h => keep_cell (HCB.out W h) (keep_cell HB3.out (HB1.out.at_ rfl) HB1.out.lt) (Nat.lt_of_lt_of_le HB1.out.lt HB3.out.size)
  have HCL2 : Hid (∀ W, C W → Calls Tryz.prog 80 #[.slice (some ⟨bA, oA, none⟩) m c] W fun e w' => ∃ g cap, e = .returned (.slice (some ⟨g, 0, none⟩) m cap) ∧ GeoAt w' (some ⟨g, 0, none⟩) m gs ∧ W.heap.size ≤ g ∧ g < w'.heap.size ∧ Below W.heap.size W w') := Lib.hid (fun W hW => HCL.out W (HB3.out.trans ((HCB.out W hW).mono HB3.out.size)))
  have HDV2 : Hid (∀ W, C W → Calls Tryz.prog 81 #[.agg #[.slice (some ⟨bA, oA, none⟩) m c, .int .i64 secs]] W fun e w' => e = .returned (.int .i64 n) ∧ Below W.heap.size W w') := Lib.hid (fun W hW => HDV.out W (HB3.out.trans ((HCB.out W hW).mono HB3.out.size)))
  have hCw3 := hCw
  clear hCB hCK hCD hCw
  go_cut [6] (fun s6 wx => ∃ gb gcap ab xb : Nat, s6 = .pointer (some ⟨xb, 0, none⟩) ∧ Blk wx xb 50 #[.slice (some ⟨gb, 0, none⟩) m gcap, .int .i64 secs, .slice none 0 0, .slice (some ⟨ab, 0, none⟩) n n] ∧ GeoAt wx (some ⟨gb, 0, none⟩) m gs ∧ gb < wx.heap.size ∧
    Blk wx ab 4 ((List.replicate n false).map Value.bool).toArray ∧ w3.heap.size ≤ gb ∧ w3.heap.size ≤ ab ∧ w3.heap.size ≤ xb ∧ gb ≠ ab ∧ gb ≠ xb ∧ ab ≠ xb ∧ Below w3.heap.size w3 wx)
  case first =>
    refine Pl.wp_region_plan C [2, 7, 8, 10, 11] (Pl.Plan.seg 0 2 (.two 2 (Pl.Plan.seg 3 4 (.two 7 (.two 8 (Pl.Plan.seg 9 1 (.op 10 (.op 11 .done))) 10 (.op 8 (Pl.Plan.seg 9 1 (.op 11 .done)))) 10 (.op 7 (.op 8 (Pl.Plan.seg 9 1 (.op 11 .done)))))) 10 (.op 2 (Pl.Plan.seg 3 4 (.op 7 (.op 8 (Pl.Plan.seg 9 1 (.op 11 .done)))))))) (by kernel_rfl) (by kernel_rfl) hCd ?_
    refine Pl.wpPlan_take (k := 0) 2 (by kernel_rfl) (by kernel_rfl) ?_
    simp only [List.take_succ_cons, List.take_zero, List.drop_succ_cons, List.drop_zero]
    repeat (first
      | go_big_quiet_skip
      | (go_big_quiet_want
         go_big_quiet_op
         first
           | go_big_quiet_on
           | (apply Exists.intro
              refine ⟨fun W hW => ?_, ?_⟩
              · first
                  | exact rfl
                  | exact ⟨rfl, rfl⟩
                  | (have e0 := f0 W hW; have e1 := f1 W hW; simp only [e0, e1, Result.andThen_ok]; done)
                  | (have e0 := f0 W hW; have e1 := f1 W hW; simp only [e0, e1, Result.andThen_ok]; first | exact ⟨trivial, rfl⟩ | exact rfl | exact ⟨rfl, rfl⟩)
                  | (skip)
              go_big_quiet_on)))
    refine wpQuiet_nil ?_
    refine ⟨?_, ?_⟩
    · refine Pl.efOp_any rfl rfl ?_
      go_wp2_with fail
      refine (HCL2.out _ hCd).mono ?_
      rintro e wa ⟨gb, gcap, rfl, hgeo, hg1, hg2, hbwa⟩
      have hCwa : C wa := HCK.out _ _ hCd hbwa
      have HGEO := Lib.hid (And.intro hgeo (And.intro hg1 hg2))
      have HBwa := Lib.hid hbwa
      clear hgeo hg1 hg2 hbwa
      go_wp2_with fail
      refine ⟨rfl, hCwa, ?_⟩
      refine Pl.wpPlan_take (k := 3) 4 (by kernel_rfl) (by kernel_rfl) ?_
      simp only [List.take_succ_cons, List.take_zero, List.drop_succ_cons, List.drop_zero]
      repeat (first
        | go_big_quiet_skip
        | (go_big_quiet_want; refine quiet_build 24 #[(0, .tmp 15), (1, .tmp 17)] (by rfl) _ rfl (.agg #[.slice (some ⟨gb, 0, none⟩) m gcap, .int .i64 secs]) (build_geom' gb m gcap secs) ?_; simp only [Act.put, List.setIfInBounds_toArray, List.set_cons_zero, List.set_cons_succ]; go_big_quiet_on)
        | (go_big_quiet_want
           go_big_quiet_op
           first
             | go_big_quiet_on
             | (apply Exists.intro
                refine ⟨fun W hW => ?_, ?_⟩
                · first
                    | exact rfl
                    | exact ⟨rfl, rfl⟩
                    | (have e0 := f0 W hW; have e1 := f1 W hW; simp only [e0, e1, Result.andThen_ok]; done)
                    | (have e0 := f0 W hW; have e1 := f1 W hW; simp only [e0, e1, Result.andThen_ok]; first | exact ⟨trivial, rfl⟩ | exact rfl | exact ⟨rfl, rfl⟩)
                    | (skip)
                go_big_quiet_on)))
      refine wpQuiet_nil ?_
      refine ⟨?_, ?_⟩
      · refine Pl.efOp_any rfl rfl ?_
        go_wp2_with fail
        refine (HDV2.out _ hCwa).mono ?_
        rintro e wb ⟨rfl, hbwb⟩
        have hCwb : C wb := HCK.out _ _ hCwa hbwb
        have HBwb := Lib.hid hbwb
        clear hbwb
        go_wp2_with fail
        refine ⟨rfl, hCwb, ?_⟩
        refine ⟨?_, ?_⟩
        · refine Pl.efOp_any rfl rfl ?_
          obtain ⟨wc, rwc, kwc, swc, dwc⟩ := mk_bools wb n (by omega)
          have hCwc : C wc := HCK.out _ _ hCwb dwc
          have HKwc := Lib.hid (And.intro kwc (And.intro swc dwc))
          clear kwc swc dwc
          go_wp2_with fail
          clear rwc
          refine ⟨rfl, hCwc, ?_⟩
          refine Pl.wpPlan_take (k := 9) 1 (by kernel_rfl) (by kernel_rfl) ?_
          simp only [List.take_succ_cons, List.take_zero, List.drop_succ_cons, List.drop_zero]
          repeat (first
            | go_big_quiet_skip
            | (go_big_quiet_want; refine quiet_build 50 #[(0, .tmp 18), (2, .tmp 21)] (by rfl) _ rfl (.agg #[.slice (some ⟨gb, 0, none⟩) m gcap, .int .i64 secs, .slice none 0 0, .slice (some ⟨wb.heap.size, 0, none⟩) n n]) (build_devs' gb m gcap secs wb.heap.size n) ?_; simp only [Act.put, List.setIfInBounds_toArray, List.set_cons_zero, List.set_cons_succ]; go_big_quiet_on)
            | (go_big_quiet_want
               go_big_quiet_op
               first
                 | go_big_quiet_on
                 | (apply Exists.intro
                    refine ⟨fun W hW => ?_, ?_⟩
                    · first
                        | exact rfl
                        | exact ⟨rfl, rfl⟩
                        | (have e0 := f0 W hW; have e1 := f1 W hW; simp only [e0, e1, Result.andThen_ok]; done)
                        | (have e0 := f0 W hW; have e1 := f1 W hW; simp only [e0, e1, Result.andThen_ok]; first | exact ⟨trivial, rfl⟩ | exact rfl | exact ⟨rfl, rfl⟩)
                        | (skip)
                    go_big_quiet_on)))
          refine wpQuiet_nil ?_
          refine Pl.efOp_any rfl rfl ?_
          obtain ⟨wd, hwwd⟩ : ∃ z, wc.alloc (.cells vZ 50) = z := ⟨_, rfl⟩
          have hCwd : C wd := HCK.out _ _ hCwc (by rw [← hwwd]; exact keep_alloc (Below.refl _ _) _)
          have HXwd := Lib.hid (And.intro (show Blk wd wc.heap.size 50 vZ by rw [← hwwd]; exact Blk.new _ _ _) (And.intro (show wd.heap.size = wc.heap.size + 1 by rw [← hwwd]; simp) (show Below wc.heap.size wc wd by rw [← hwwd]; exact keep_alloc (Below.refl _ _) _)))
          have HWwd := Lib.hid hwwd
          clear hwwd
          go_wp2_with fail
          rw [HWwd.out]
          refine ⟨rfl, hCwd, ?_⟩
          obtain ⟨h1, hl, h2, h3, n1, n2, n3⟩ : w3.heap.size ≤ gb ∧ gb < wd.heap.size ∧ w3.heap.size ≤ wb.heap.size ∧ w3.heap.size ≤ wc.heap.size ∧ gb ≠ wb.heap.size ∧ gb ≠ wc.heap.size ∧ wb.heap.size ≠ wc.heap.size := by
            have hdr : w3.drew.heap.size = w3.heap.size := rfl
            have := HGEO.out.2
            have := HBwa.out.size
            have := HBwb.out.size
            have := HKwc.out.2.1
            have := HXwd.out.2.1
            omega
          have BX : Blk wd wc.heap.size 50 vZ := HXwd.out.1
          have hth : wd.there wc.heap.size 0 (#[.slice (some ⟨gb, 0, none⟩) m gcap, .int .i64 secs, .slice none 0 0, .slice (some ⟨wb.heap.size, 0, none⟩) n n] : Array Value).size := BX.there (Nat.le_refl _)
          obtain ⟨wy, hwy⟩ : ∃ z, wd.setCells wc.heap.size 0 (#[.slice (some ⟨gb, 0, none⟩) m gcap, .int .i64 secs, .slice none 0 0, .slice (some ⟨wb.heap.size, 0, none⟩) n n] : Array Value).toList = z := ⟨_, rfl⟩
          have hi31 := Tryz.infoDevs (.slice (some ⟨gb, 0, none⟩) m gcap) (.int .i64 secs) (.slice none 0 0) (.slice (some ⟨wb.heap.size, 0, none⟩) n n)
          have h1c : (#[.slice (some ⟨gb, 0, none⟩) m gcap, .int .i64 secs, .slice none 0 0, .slice (some ⟨wb.heap.size, 0, none⟩) n n] : Array Value).all (·.oneCell') = true := by kernel_rfl
          have HFIN := Lib.hid (nv_fin (m := m) (n := n) (gcap := gcap) (secs := secs) BX (((HGEO.out.1.below HBwb.out (Nat.le_refl _)).below HKwc.out.2.2 (Nat.le_refl _)).below HXwd.out.2.2 (Nat.le_refl _)) hl (HKwc.out.1.below HXwd.out.2.2 HKwc.out.1.lt) h1 h2 h3 n1 n2 n3 (HCB.out _ hCwd) wy hwy)
          have hCy : C wy := HCK.out _ _ hCw3 HFIN.out.2.2.2.2.2.2.2.2.2.2
          have HWY := Lib.hid hwy
          clear hwy BX
          refine Pl.efOp_any rfl rfl ?_
          go_wp2_with ((with_reducible refine wpList_store_mid ?a1 50 (.tmp 6) (.tmp 22) ?a2 wc.heap.size 0 #[.slice (some ⟨gb, 0, none⟩) m gcap, .int .i64 secs, .slice none 0 0, .slice (some ⟨wb.heap.size, 0, none⟩) n n] ?a3 ?a4 hth hi31 h1c ?_); (case a1 => rfl); (case a2 => rfl); (case a3 => rfl); (case a4 => rfl); simp only [Act.put, List.setIfInBounds_toArray, List.set_cons_zero, List.set_cons_succ]; rw [HWY.out])
          refine ⟨rfl, hCy, ?_⟩
          simp only [Pl.wpPlan]
          go_wp2_with fail
          go_meet
          exact ⟨gb, gcap, wb.heap.size, wc.heap.size, rfl, HFIN.out⟩
        · refine Pl.efOp_any rfl rfl ?_
          obtain ⟨wc, hwwc⟩ : ∃ z, wb.alloc (.cells vZ 50) = z := ⟨_, rfl⟩
          have hCwc : C wc := HCK.out _ _ hCwb (by rw [← hwwc]; exact keep_alloc (Below.refl _ _) _)
          have HXwc := Lib.hid (And.intro (show Blk wc wb.heap.size 50 vZ by rw [← hwwc]; exact Blk.new _ _ _) (And.intro (show wc.heap.size = wb.heap.size + 1 by rw [← hwwc]; simp) (show Below wb.heap.size wb wc by rw [← hwwc]; exact keep_alloc (Below.refl _ _) _)))
          have HWwc := Lib.hid hwwc
          clear hwwc
          go_wp2_with fail
          rw [HWwc.out]
          refine ⟨rfl, hCwc, ?_⟩
          refine Pl.efOp_any rfl rfl ?_
          obtain ⟨wd, rwd, kwd, swd, dwd⟩ := mk_bools wc n (by omega)
          have hCwd : C wd := HCK.out _ _ hCwc dwd
          have HKwd := Lib.hid (And.intro kwd (And.intro swd dwd))
          clear kwd swd dwd
          go_wp2_with fail
          clear rwd
          refine ⟨rfl, hCwd, ?_⟩
          refine Pl.wpPlan_take (k := 9) 1 (by kernel_rfl) (by kernel_rfl) ?_
          simp only [List.take_succ_cons, List.take_zero, List.drop_succ_cons, List.drop_zero]
          repeat (first
            | go_big_quiet_skip
            | (go_big_quiet_want; refine quiet_build 50 #[(0, .tmp 18), (2, .tmp 21)] (by rfl) _ rfl (.agg #[.slice (some ⟨gb, 0, none⟩) m gcap, .int .i64 secs, .slice none 0 0, .slice (some ⟨wc.heap.size, 0, none⟩) n n]) (build_devs' gb m gcap secs wc.heap.size n) ?_; simp only [Act.put, List.setIfInBounds_toArray, List.set_cons_zero, List.set_cons_succ]; go_big_quiet_on)
            | (go_big_quiet_want
               go_big_quiet_op
               first
                 | go_big_quiet_on
                 | (apply Exists.intro
                    refine ⟨fun W hW => ?_, ?_⟩
                    · first
                        | exact rfl
                        | exact ⟨rfl, rfl⟩
                        | (have e0 := f0 W hW; have e1 := f1 W hW; simp only [e0, e1, Result.andThen_ok]; done)
                        | (have e0 := f0 W hW; have e1 := f1 W hW; simp only [e0, e1, Result.andThen_ok]; first | exact ⟨trivial, rfl⟩ | exact rfl | exact ⟨rfl, rfl⟩)
                        | (skip)
                    go_big_quiet_on)))
          refine wpQuiet_nil ?_
          obtain ⟨h1, hl, h2, h3, n1, n2, n3⟩ : w3.heap.size ≤ gb ∧ gb < wd.heap.size ∧ w3.heap.size ≤ wc.heap.size ∧ w3.heap.size ≤ wb.heap.size ∧ gb ≠ wc.heap.size ∧ gb ≠ wb.heap.size ∧ wc.heap.size ≠ wb.heap.size := by
            have hdr : w3.drew.heap.size = w3.heap.size := rfl
            have := HGEO.out.2
            have := HBwa.out.size
            have := HBwb.out.size
            have := HXwc.out.2.1
            have := HKwd.out.2.1
            omega
          have BX : Blk wd wb.heap.size 50 vZ := HXwc.out.1.below HKwd.out.2.2 HXwc.out.1.lt
          have hth : wd.there wb.heap.size 0 (#[.slice (some ⟨gb, 0, none⟩) m gcap, .int .i64 secs, .slice none 0 0, .slice (some ⟨wc.heap.size, 0, none⟩) n n] : Array Value).size := BX.there (Nat.le_refl _)
          obtain ⟨wy, hwy⟩ : ∃ z, wd.setCells wb.heap.size 0 (#[.slice (some ⟨gb, 0, none⟩) m gcap, .int .i64 secs, .slice none 0 0, .slice (some ⟨wc.heap.size, 0, none⟩) n n] : Array Value).toList = z := ⟨_, rfl⟩
          have hi31 := Tryz.infoDevs (.slice (some ⟨gb, 0, none⟩) m gcap) (.int .i64 secs) (.slice none 0 0) (.slice (some ⟨wc.heap.size, 0, none⟩) n n)
          have h1c : (#[.slice (some ⟨gb, 0, none⟩) m gcap, .int .i64 secs, .slice none 0 0, .slice (some ⟨wc.heap.size, 0, none⟩) n n] : Array Value).all (·.oneCell') = true := by kernel_rfl
          have HFIN := Lib.hid (nv_fin (m := m) (n := n) (gcap := gcap) (secs := secs) BX (((HGEO.out.1.below HBwb.out (Nat.le_refl _)).below HXwc.out.2.2 (Nat.le_refl _)).below HKwd.out.2.2 (Nat.le_refl _)) hl (HKwd.out.1) h1 h2 h3 n1 n2 n3 (HCB.out _ hCwd) wy hwy)
          have hCy : C wy := HCK.out _ _ hCw3 HFIN.out.2.2.2.2.2.2.2.2.2.2
          have HWY := Lib.hid hwy
          clear hwy BX
          refine Pl.efOp_any rfl rfl ?_
          go_wp2_with ((with_reducible refine wpList_store_mid ?a1 50 (.tmp 6) (.tmp 22) ?a2 wb.heap.size 0 #[.slice (some ⟨gb, 0, none⟩) m gcap, .int .i64 secs, .slice none 0 0, .slice (some ⟨wc.heap.size, 0, none⟩) n n] ?a3 ?a4 hth hi31 h1c ?_); (case a1 => rfl); (case a2 => rfl); (case a3 => rfl); (case a4 => rfl); simp only [Act.put, List.setIfInBounds_toArray, List.set_cons_zero, List.set_cons_succ]; rw [HWY.out])
          refine ⟨rfl, hCy, ?_⟩
          simp only [Pl.wpPlan]
          go_wp2_with fail
          go_meet
          exact ⟨gb, gcap, wc.heap.size, wb.heap.size, rfl, HFIN.out⟩
      · refine Pl.efOp_any rfl rfl ?_
        obtain ⟨wb, hwwb⟩ : ∃ z, wa.alloc (.cells vZ 50) = z := ⟨_, rfl⟩
        have hCwb : C wb := HCK.out _ _ hCwa (by rw [← hwwb]; exact keep_alloc (Below.refl _ _) _)
        have HXwb := Lib.hid (And.intro (show Blk wb wa.heap.size 50 vZ by rw [← hwwb]; exact Blk.new _ _ _) (And.intro (show wb.heap.size = wa.heap.size + 1 by rw [← hwwb]; simp) (show Below wa.heap.size wa wb by rw [← hwwb]; exact keep_alloc (Below.refl _ _) _)))
        have HWwb := Lib.hid hwwb
        clear hwwb
        go_wp2_with fail
        rw [HWwb.out]
        refine ⟨rfl, hCwb, ?_⟩
        refine Pl.efOp_any rfl rfl ?_
        go_wp2_with fail
        refine (HDV2.out _ hCwb).mono ?_
        rintro e wc ⟨rfl, hbwc⟩
        have hCwc : C wc := HCK.out _ _ hCwb hbwc
        have HBwc := Lib.hid hbwc
        clear hbwc
        go_wp2_with fail
        refine ⟨rfl, hCwc, ?_⟩
        refine Pl.efOp_any rfl rfl ?_
        obtain ⟨wd, rwd, kwd, swd, dwd⟩ := mk_bools wc n (by omega)
        have hCwd : C wd := HCK.out _ _ hCwc dwd
        have HKwd := Lib.hid (And.intro kwd (And.intro swd dwd))
        clear kwd swd dwd
        go_wp2_with fail
        clear rwd
        refine ⟨rfl, hCwd, ?_⟩
        refine Pl.wpPlan_take (k := 9) 1 (by kernel_rfl) (by kernel_rfl) ?_
        simp only [List.take_succ_cons, List.take_zero, List.drop_succ_cons, List.drop_zero]
        repeat (first
          | go_big_quiet_skip
          | (go_big_quiet_want; refine quiet_build 50 #[(0, .tmp 18), (2, .tmp 21)] (by rfl) _ rfl (.agg #[.slice (some ⟨gb, 0, none⟩) m gcap, .int .i64 secs, .slice none 0 0, .slice (some ⟨wc.heap.size, 0, none⟩) n n]) (build_devs' gb m gcap secs wc.heap.size n) ?_; simp only [Act.put, List.setIfInBounds_toArray, List.set_cons_zero, List.set_cons_succ]; go_big_quiet_on)
          | (go_big_quiet_want
             go_big_quiet_op
             first
               | go_big_quiet_on
               | (apply Exists.intro
                  refine ⟨fun W hW => ?_, ?_⟩
                  · first
                      | exact rfl
                      | exact ⟨rfl, rfl⟩
                      | (have e0 := f0 W hW; have e1 := f1 W hW; simp only [e0, e1, Result.andThen_ok]; done)
                      | (have e0 := f0 W hW; have e1 := f1 W hW; simp only [e0, e1, Result.andThen_ok]; first | exact ⟨trivial, rfl⟩ | exact rfl | exact ⟨rfl, rfl⟩)
                      | (skip)
                  go_big_quiet_on)))
        refine wpQuiet_nil ?_
        obtain ⟨h1, hl, h2, h3, n1, n2, n3⟩ : w3.heap.size ≤ gb ∧ gb < wd.heap.size ∧ w3.heap.size ≤ wc.heap.size ∧ w3.heap.size ≤ wa.heap.size ∧ gb ≠ wc.heap.size ∧ gb ≠ wa.heap.size ∧ wc.heap.size ≠ wa.heap.size := by
          have hdr : w3.drew.heap.size = w3.heap.size := rfl
          have := HGEO.out.2
          have := HBwa.out.size
          have := HBwc.out.size
          have := HXwb.out.2.1
          have := HKwd.out.2.1
          omega
        have BX : Blk wd wa.heap.size 50 vZ := (HXwb.out.1.below HBwc.out HXwb.out.1.lt).below HKwd.out.2.2 (Nat.lt_of_lt_of_le HXwb.out.1.lt HBwc.out.size)
        have hth : wd.there wa.heap.size 0 (#[.slice (some ⟨gb, 0, none⟩) m gcap, .int .i64 secs, .slice none 0 0, .slice (some ⟨wc.heap.size, 0, none⟩) n n] : Array Value).size := BX.there (Nat.le_refl _)
        obtain ⟨wy, hwy⟩ : ∃ z, wd.setCells wa.heap.size 0 (#[.slice (some ⟨gb, 0, none⟩) m gcap, .int .i64 secs, .slice none 0 0, .slice (some ⟨wc.heap.size, 0, none⟩) n n] : Array Value).toList = z := ⟨_, rfl⟩
        have hi31 := Tryz.infoDevs (.slice (some ⟨gb, 0, none⟩) m gcap) (.int .i64 secs) (.slice none 0 0) (.slice (some ⟨wc.heap.size, 0, none⟩) n n)
        have h1c : (#[.slice (some ⟨gb, 0, none⟩) m gcap, .int .i64 secs, .slice none 0 0, .slice (some ⟨wc.heap.size, 0, none⟩) n n] : Array Value).all (·.oneCell') = true := by kernel_rfl
        have HFIN := Lib.hid (nv_fin (m := m) (n := n) (gcap := gcap) (secs := secs) BX (((HGEO.out.1.below HXwb.out.2.2 (Nat.le_refl _)).below HBwc.out (Nat.le_refl _)).below HKwd.out.2.2 (Nat.le_refl _)) hl (HKwd.out.1) h1 h2 h3 n1 n2 n3 (HCB.out _ hCwd) wy hwy)
        have hCy : C wy := HCK.out _ _ hCw3 HFIN.out.2.2.2.2.2.2.2.2.2.2
        have HWY := Lib.hid hwy
        clear hwy BX
        refine Pl.efOp_any rfl rfl ?_
        go_wp2_with ((with_reducible refine wpList_store_mid ?a1 50 (.tmp 6) (.tmp 22) ?a2 wa.heap.size 0 #[.slice (some ⟨gb, 0, none⟩) m gcap, .int .i64 secs, .slice none 0 0, .slice (some ⟨wc.heap.size, 0, none⟩) n n] ?a3 ?a4 hth hi31 h1c ?_); (case a1 => rfl); (case a2 => rfl); (case a3 => rfl); (case a4 => rfl); simp only [Act.put, List.setIfInBounds_toArray, List.set_cons_zero, List.set_cons_succ]; rw [HWY.out])
        refine ⟨rfl, hCy, ?_⟩
        simp only [Pl.wpPlan]
        go_wp2_with fail
        go_meet
        exact ⟨gb, gcap, wc.heap.size, wa.heap.size, rfl, HFIN.out⟩
    · refine Pl.efOp_any rfl rfl ?_
      obtain ⟨wa, hwwa⟩ : ∃ z, (w3.alloc (.cells vZ 50)).drew = z := ⟨_, rfl⟩
      have hCwa : C wa := HCK.out _ _ hCd (by rw [← hwwa]; exact (show Below w3.drew.heap.size w3.drew (w3.drew.alloc (.cells vZ 50)) from keep_alloc (Below.refl _ _) _))
      have HXwa := Lib.hid (And.intro (show Blk wa w3.heap.size 50 vZ by rw [← hwwa]; exact Blk.new w3 _ _) (show wa.heap.size = w3.heap.size + 1 by rw [← hwwa]; show (w3.alloc _).heap.size = _; simp))
      have HWwa := Lib.hid hwwa
      clear hwwa
      go_wp2_with fail
      rw [HWwa.out]
      refine ⟨rfl, hCwa, ?_⟩
      refine Pl.efOp_any rfl rfl ?_
      go_wp2_with fail
      refine (HCL2.out _ hCwa).mono ?_
      rintro e wb ⟨gb, gcap, rfl, hgeo, hg1, hg2, hbwb⟩
      have hCwb : C wb := HCK.out _ _ hCwa hbwb
      have HGEO := Lib.hid (And.intro hgeo (And.intro hg1 hg2))
      have HBwb := Lib.hid hbwb
      clear hgeo hg1 hg2 hbwb
      go_wp2_with fail
      refine ⟨rfl, hCwb, ?_⟩
      refine Pl.wpPlan_take (k := 3) 4 (by kernel_rfl) (by kernel_rfl) ?_
      simp only [List.take_succ_cons, List.take_zero, List.drop_succ_cons, List.drop_zero]
      repeat (first
        | go_big_quiet_skip
        | (go_big_quiet_want; refine quiet_build 24 #[(0, .tmp 15), (1, .tmp 17)] (by rfl) _ rfl (.agg #[.slice (some ⟨gb, 0, none⟩) m gcap, .int .i64 secs]) (build_geom' gb m gcap secs) ?_; simp only [Act.put, List.setIfInBounds_toArray, List.set_cons_zero, List.set_cons_succ]; go_big_quiet_on)
        | (go_big_quiet_want
           go_big_quiet_op
           first
             | go_big_quiet_on
             | (apply Exists.intro
                refine ⟨fun W hW => ?_, ?_⟩
                · first
                    | exact rfl
                    | exact ⟨rfl, rfl⟩
                    | (have e0 := f0 W hW; have e1 := f1 W hW; simp only [e0, e1, Result.andThen_ok]; done)
                    | (have e0 := f0 W hW; have e1 := f1 W hW; simp only [e0, e1, Result.andThen_ok]; first | exact ⟨trivial, rfl⟩ | exact rfl | exact ⟨rfl, rfl⟩)
                    | (skip)
                go_big_quiet_on)))
      refine wpQuiet_nil ?_
      refine Pl.efOp_any rfl rfl ?_
      go_wp2_with fail
      refine (HDV2.out _ hCwb).mono ?_
      rintro e wc ⟨rfl, hbwc⟩
      have hCwc : C wc := HCK.out _ _ hCwb hbwc
      have HBwc := Lib.hid hbwc
      clear hbwc
      go_wp2_with fail
      refine ⟨rfl, hCwc, ?_⟩
      refine Pl.efOp_any rfl rfl ?_
      obtain ⟨wd, rwd, kwd, swd, dwd⟩ := mk_bools wc n (by omega)
      have hCwd : C wd := HCK.out _ _ hCwc dwd
      have HKwd := Lib.hid (And.intro kwd (And.intro swd dwd))
      clear kwd swd dwd
      go_wp2_with fail
      clear rwd
      refine ⟨rfl, hCwd, ?_⟩
      refine Pl.wpPlan_take (k := 9) 1 (by kernel_rfl) (by kernel_rfl) ?_
      simp only [List.take_succ_cons, List.take_zero, List.drop_succ_cons, List.drop_zero]
      repeat (first
        | go_big_quiet_skip
        | (go_big_quiet_want; refine quiet_build 50 #[(0, .tmp 18), (2, .tmp 21)] (by rfl) _ rfl (.agg #[.slice (some ⟨gb, 0, none⟩) m gcap, .int .i64 secs, .slice none 0 0, .slice (some ⟨wc.heap.size, 0, none⟩) n n]) (build_devs' gb m gcap secs wc.heap.size n) ?_; simp only [Act.put, List.setIfInBounds_toArray, List.set_cons_zero, List.set_cons_succ]; go_big_quiet_on)
        | (go_big_quiet_want
           go_big_quiet_op
           first
             | go_big_quiet_on
             | (apply Exists.intro
                refine ⟨fun W hW => ?_, ?_⟩
                · first
                    | exact rfl
                    | exact ⟨rfl, rfl⟩
                    | (have e0 := f0 W hW; have e1 := f1 W hW; simp only [e0, e1, Result.andThen_ok]; done)
                    | (have e0 := f0 W hW; have e1 := f1 W hW; simp only [e0, e1, Result.andThen_ok]; first | exact ⟨trivial, rfl⟩ | exact rfl | exact ⟨rfl, rfl⟩)
                    | (skip)
                go_big_quiet_on)))
      refine wpQuiet_nil ?_
      obtain ⟨h1, hl, h2, h3, n1, n2, n3⟩ : w3.heap.size ≤ gb ∧ gb < wd.heap.size ∧ w3.heap.size ≤ wc.heap.size ∧ w3.heap.size ≤ w3.heap.size ∧ gb ≠ wc.heap.size ∧ gb ≠ w3.heap.size ∧ wc.heap.size ≠ w3.heap.size := by
        have hdr : w3.drew.heap.size = w3.heap.size := rfl
        have := HGEO.out.2
        have := HBwb.out.size
        have := HBwc.out.size
        have := HXwa.out.2
        have := HKwd.out.2.1
        omega
      have BX : Blk wd w3.heap.size 50 vZ := ((HXwa.out.1.below HBwb.out HXwa.out.1.lt).below HBwc.out (Nat.lt_of_lt_of_le HXwa.out.1.lt HBwb.out.size)).below HKwd.out.2.2 (Nat.lt_of_lt_of_le (Nat.lt_of_lt_of_le HXwa.out.1.lt HBwb.out.size) HBwc.out.size)
      have hth : wd.there w3.heap.size 0 (#[.slice (some ⟨gb, 0, none⟩) m gcap, .int .i64 secs, .slice none 0 0, .slice (some ⟨wc.heap.size, 0, none⟩) n n] : Array Value).size := BX.there (Nat.le_refl _)
      obtain ⟨wy, hwy⟩ : ∃ z, wd.setCells w3.heap.size 0 (#[.slice (some ⟨gb, 0, none⟩) m gcap, .int .i64 secs, .slice none 0 0, .slice (some ⟨wc.heap.size, 0, none⟩) n n] : Array Value).toList = z := ⟨_, rfl⟩
      have hi31 := Tryz.infoDevs (.slice (some ⟨gb, 0, none⟩) m gcap) (.int .i64 secs) (.slice none 0 0) (.slice (some ⟨wc.heap.size, 0, none⟩) n n)
      have h1c : (#[.slice (some ⟨gb, 0, none⟩) m gcap, .int .i64 secs, .slice none 0 0, .slice (some ⟨wc.heap.size, 0, none⟩) n n] : Array Value).all (·.oneCell') = true := by kernel_rfl
      have HFIN := Lib.hid (nv_fin (m := m) (n := n) (gcap := gcap) (secs := secs) BX ((HGEO.out.1.below HBwc.out (Nat.le_refl _)).below HKwd.out.2.2 (Nat.le_refl _)) hl (HKwd.out.1) h1 h2 h3 n1 n2 n3 (HCB.out _ hCwd) wy hwy)
      have hCy : C wy := HCK.out _ _ hCw3 HFIN.out.2.2.2.2.2.2.2.2.2.2
      have HWY := Lib.hid hwy
      clear hwy BX
      refine Pl.efOp_any rfl rfl ?_
      go_wp2_with ((with_reducible refine wpList_store_mid ?a1 50 (.tmp 6) (.tmp 22) ?a2 w3.heap.size 0 #[.slice (some ⟨gb, 0, none⟩) m gcap, .int .i64 secs, .slice none 0 0, .slice (some ⟨wc.heap.size, 0, none⟩) n n] ?a3 ?a4 hth hi31 h1c ?_); (case a1 => rfl); (case a2 => rfl); (case a3 => rfl); (case a4 => rfl); simp only [Act.put, List.setIfInBounds_toArray, List.set_cons_zero, List.set_cons_succ]; rw [HWY.out])
      refine ⟨rfl, hCy, ?_⟩
      simp only [Pl.wpPlan]
      go_wp2_with fail
      go_meet
      exact ⟨gb, gcap, wc.heap.size, w3.heap.size, rfl, HFIN.out⟩
  case rest =>
    obtain ⟨gb, gcap, ab, xb, rfl, hX, hgeo, hgl, hab, h1, h2, h3, n1, n2, n3, hbc⟩ := hcut
    have HPL := Lib.hid (And.intro h1 (And.intro h2 (And.intro h3 (And.intro n1 (And.intro n2 (And.intro n3 (And.intro hgl (And.intro hab.lt hX.lt))))))))
    have HX0 := Lib.hid hX
    have HGEO := Lib.hid hgeo
    have HAB := Lib.hid hab
    have HBC := Lib.hid hbc
    have gx3 := hX.at_ (i := 3) (v := .slice (some ⟨ab, 0, none⟩) n n) rfl
    have HG1 := Lib.hid (keep_cell hbc (keep_cell HB3.out (HB1.out.at_ (i := 1) (v := .int .i64 secs) rfl) HB1.out.lt) (Nat.lt_of_lt_of_le HB1.out.lt HB3.out.size))
    have HWX : Hid (w.heap.size < wc.heap.size ∧ w.heap.size + 1 < w3.heap.size) := Lib.hid ⟨Nat.lt_of_lt_of_le (Nat.lt_of_lt_of_le HB1.out.lt HB3.out.size) hbc.size, Nat.lt_of_lt_of_le HB2.out.lt HB3.out.size⟩
    obtain ⟨i0, hi, hz0, hz1, hz2⟩ := info_parts Tryz.infoPtr
    have hns := HSL.out
    clear hX hgeo hgl hab h1 h2 h3 n1 n2 n3 hbc f0 f1 hCd hCw3 HCL2 HDV2 HCL HDV HR
    go_wp2_with fail
    clear gx3
    go_loopw [7, 8, 26] (fun _ _ t wr => ∃ (k : Nat) (S : Nat → Nat → Prop) (bd : List Nat) (v : Value), k ≤ n ∧ t = .int .i64 k ∧ bd.length = k ∧ Blk wr xb 50 #[.slice (some ⟨gb, 0, none⟩) m gcap, .int .i64 secs, v, .slice (some ⟨ab, 0, none⟩) n n] ∧
      wr.ownsRow wc.heap.size 56 1 v k (bd.map fun b => Value.pointer (some ⟨b, 0, none⟩)) ∧ (∀ i b, bd[i]? = some b → DevAt wr (S i) b (DevD.blank secs fill)) ∧ (∀ i b, S i b → i < k ∧ wc.heap.size ≤ b ∧ b < wr.heap.size ∧ v.ownBlock ≠ some b) ∧
      (∀ i j b, S i b → S j b → i = j) ∧ Only (fun g => g = xb) wc wr) (fun _ _ t _ => n - (RowKit.intOf t).toNat)
    case atStart => exact ⟨0, fun _ _ => False, [], .slice none 0 0, Nat.zero_le _, rfl, rfl, HX0.out, World.ownsRow_nil _ _ _ _, fun i b h => by simp at h, fun i b h => h.elim, fun i j b h => h.elim, Only.refl _ _⟩
    case round =>
      obtain ⟨k, S, bd, v, hk, rfl, hbd, hX, hown, hdev, hin, hap, honly⟩ := hrel
      by_cases hlt : k < n
      · have hdc : decide (k < n) = true := decide_eq_true hlt
        have g1 : wr.cell? ⟨w.heap.size, 1, none⟩ = some (.int .i64 secs) := (cell_same' (honly.block _ HWX.out.1 (fun e => by have := HPL.out.2.2.1; have := HB3.out.size; have := HWX.out.2; omega))).trans HG1.out
        have HN := Lib.hid (dnew_any secs wr hns.1 hns.2)
        have HX := Lib.hid hX
        have HOWN := Lib.hid hown
        have HDEV := Lib.hid hdev
        have HIN := Lib.hid hin
        have HAP := Lib.hid hap
        have HON := Lib.hid honly
        have HBD := Lib.hid hbd
        have HLT := Lib.hid hlt
        clear hX hown hdev hin hap honly hbd
        go_wp2_with fail
        refine HN.out.mono ?_
        rintro e wa ⟨bn, rfl, hda, hba⟩
        have hfr := fresh_any hda fill (blank_ok hns.1 hns.2)
        have hmed : (DevD.blank secs 0).med.length = secs := by simp [DevD.blank]
        rw [hmed] at hfr
        have HF := Lib.hid hfr
        have HBA := Lib.hid hba
        clear hfr hda hba g1 HN hmed
        go_wp2_with fail
        refine HF.out.mono ?_
        rintro e wb ⟨rfl, hdb, hob⟩
        have hsame : ∀ g, g < wr.heap.size → wb.heap[g]? = wr.heap[g]? := fun g hg => (hob.block g (Nat.lt_of_lt_of_le hg HBA.out.size) (fun hh => by omega)).trans (HBA.out.block g hg)
        have hsz : wr.heap.size ≤ wb.heap.size := Nat.le_trans HBA.out.size hob.size
        have hXb : Blk wb xb 50 #[.slice (some ⟨gb, 0, none⟩) m gcap, .int .i64 secs, v, .slice (some ⟨ab, 0, none⟩) n n] := (hsame xb HX.out.lt).trans HX.out
        have hownb : wb.ownsRow wc.heap.size 56 1 v k (bd.map fun b => Value.pointer (some ⟨b, 0, none⟩)) := ownsRow_same HOWN.out (fun b hb => hsame b (HOWN.out.lt b hb).2)
        have c1 := hXb.at_ (i := 2) (v := v) rfl
        have z1 := hXb.fr 2
        have HXB := Lib.hid hXb
        have HDB := Lib.hid hdb
        have HOB := Lib.hid hob
        have HSA := Lib.hid (And.intro hsame hsz)
        have HOWB := Lib.hid hownb
        clear hdb hob hsame hsz hXb hownb HF
        go_wp2_with (at_builtin; refine wpList_append_own_at _ rfl _ _ 48 rfl wc.heap.size 56 i0 _ 1 8 Tryz.underlying48 hi hz0 hz1 hz2 rfl (by decide) _ _ _ rfl (HOWB.out.alloc _) ⟨wb.heap.size, 0, none⟩ 1 1 [.pointer (some ⟨bn, 0, none⟩)] rfl rfl ?c1 ?c2 (by unfold maxLen; omega) (by omega) ?c5 ?_)
        case c1 => exact one_new' _ _ _
        case c2 => intro u hu; simp at hu; subst hu; rfl
        case c5 => have := HON.out.size; have := HSA.out.2; simp; omega
        intro v' wd hown' hgrow _ hloc
        obtain ⟨vg, vcap, rfl, _, _⟩ := hown'.form (by omega)
        have hvb : ∀ g, v.ownBlock = some g → wc.heap.size ≤ g ∧ g < wr.heap.size := fun g hg => HOWN.out.lt g hg
        have hxl : xb < wc.heap.size := HPL.out.2.2.2.2.2.2.2.2
        have hXd : Blk wd xb 50 #[.slice (some ⟨gb, 0, none⟩) m gcap, .int .i64 secs, v, .slice (some ⟨ab, 0, none⟩) n n] :=
          (hgrow.block xb (by have := HXB.out.lt; simp; omega) (fun e => by have := hvb xb e.symm; omega)).trans (HXB.out.alloc _)
        have d1 := hXd.at_ (i := 2) (v := v) rfl
        have d2 := hXd.fr 2
        have HXF := Lib.hid (hXd.put 2 (Value.slice (some ⟨vg, 0, none⟩) (k + 1) vcap))
        have hfar : ∀ g, g < wb.heap.size → v.ownBlock ≠ some g → g ≠ xb → (wd.setCell ⟨xb, 2, none⟩ (Value.slice (some ⟨vg, 0, none⟩) (k + 1) vcap)).heap[g]? = wb.heap[g]? := fun g hg h1 h2 =>
          (Below.heap_setCell wd _ _ g h2).trans ((hgrow.block g (by simp; omega) (fun e => h1 e.symm)).trans (Below.heap_alloc wb _ g hg))
        have hszf : wb.heap.size ≤ (wd.setCell ⟨xb, 2, none⟩ (Value.slice (some ⟨vg, 0, none⟩) (k + 1) vcap)).heap.size := by
          have h1 := hgrow.size
          simp [World.setCell] at h1 ⊢
          omega
        have hownf : (wd.setCell ⟨xb, 2, none⟩ (Value.slice (some ⟨vg, 0, none⟩) (k + 1) vcap)).ownsRow wc.heap.size 56 1 (Value.slice (some ⟨vg, 0, none⟩) (k + 1) vcap) (k + 1) ((bd ++ [bn]).map fun b => Value.pointer (some ⟨b, 0, none⟩)) := by
          rw [List.map_append]
          exact ownsRow_same hown' (fun b hb => Below.heap_setCell wd _ _ b (fun e => by have e' : b = xb := e; have := (hown'.lt b hb).1; omega))
        have honf : Only (fun g => g = xb) wc (wd.setCell ⟨xb, 2, none⟩ (Value.slice (some ⟨vg, 0, none⟩) (k + 1) vcap)) := by
          refine Only.set (S := fun g => g = xb) ?_ (.inl rfl) _
          refine Only.trans (Only.alloc ?_ _) (Only.of_grown' (S := fun g => v.ownBlock = some g) hgrow (fun b e => e)) (fun g hg => .inr (hvb g hg).1)
          exact Only.trans (HON.out.then_below HBA.out) HOB.out (fun g hg => .inr (by have := hg.1; have := HON.out.size; omega))
        have HFAR := Lib.hid (And.intro hfar hszf)
        have HOF := Lib.hid (And.intro hownf honf)
        have HVL := Lib.hid (And.intro hvb hloc)
        clear hown' hgrow hloc hvb hxl hXd hfar hszf hownf honf c1 z1
        go_wp2_with fail
        go_roundw
        case rel =>
          refine ⟨k + 1, fun j g => if j = k then (wr.heap.size ≤ g ∧ g < wb.heap.size) else S j g, bd ++ [bn], (Value.slice (some ⟨vg, 0, none⟩) (k + 1) vcap), HLT.out, by go_num, by rw [List.length_append, HBD.out]; rfl, HXF.out, HOF.out.1, ?_, ?_, ?_, HOF.out.2⟩
          · intro i b hb
            by_cases hik : i = k
            · subst hik
              rw [List.getElem?_append_right (by rw [HBD.out]; exact Nat.le_refl _), HBD.out, Nat.sub_self] at hb
              cases hb
              have e : (fun g => if i = i then (wr.heap.size ≤ g ∧ g < wb.heap.size) else S i g) = fun g => wr.heap.size ≤ g ∧ g < wb.heap.size := funext fun _ => if_pos rfl
              show DevAt _ (fun g => if i = i then (wr.heap.size ≤ g ∧ g < wb.heap.size) else S i g) _ _
              rw [e]
              obtain ⟨mb, mcap, cb, g, hh⟩ := HDB.out.mono (T := fun g => wr.heap.size ≤ g ∧ g < wb.heap.size) (fun g hg => by
                rcases hg with hg | hg
                · exact ⟨hg.1, Nat.lt_of_lt_of_le hg.2 HOB.out.size⟩
                · exact ⟨Nat.le_trans HBA.out.size hg.1, hg.2⟩) (fun g hg => hg.2)
              exact ⟨mb, mcap, cb, g, hh.same HFAR.out.2 (fun g hg => HFAR.out.1 g hg.2 (fun e => by have := HVL.out.1 g e; omega) (fun e => by have := HX.out.lt; omega))⟩
            · have hil : i < k := by
                have h9 := (List.getElem?_eq_some_iff.1 hb).1
                rw [List.length_append, HBD.out] at h9
                simp at h9
                omega
              rw [List.getElem?_append_left (by rw [HBD.out]; exact hil)] at hb
              obtain ⟨mb, mcap, cb, g, hh⟩ := HDEV.out i b hb
              have e : (fun g => if i = k then (wr.heap.size ≤ g ∧ g < wb.heap.size) else S i g) = S i := funext fun _ => if_neg hik
              show DevAt _ (fun g => if i = k then (wr.heap.size ≤ g ∧ g < wb.heap.size) else S i g) _ _
              rw [e]
              refine ⟨mb, mcap, cb, g, hh.same (Nat.le_trans HSA.out.2 HFAR.out.2) (fun g hg => ?_)⟩
              obtain ⟨_, q1, q2, q3⟩ := HIN.out i g hg
              exact (HFAR.out.1 g (Nat.lt_of_lt_of_le q2 HSA.out.2) q3 (fun e => by have := HPL.out.2.2.2.2.2.2.2.2; omega)).trans (HSA.out.1 g q2)
          · intro i b hb
            have hne : ∀ g, g < wb.heap.size → v.ownBlock ≠ some g → (Value.slice (some ⟨vg, 0, none⟩) (k + 1) vcap).ownBlock ≠ some g := fun g hg h1 h2 => by
              rcases HVL.out.2 with e | e
              · exact h1 (e.symm.trans h2)
              · rw [e] at h2; cases h2; omega
            by_cases hik : i = k
            · subst hik
              simp only [if_true] at hb
              exact ⟨by omega, Nat.le_trans HON.out.size hb.1, Nat.lt_of_lt_of_le hb.2 HFAR.out.2, hne b hb.2 (fun e => by have := HVL.out.1 b e; omega)⟩
            · simp only [if_neg hik] at hb
              obtain ⟨q0, q1, q2, q3⟩ := HIN.out i b hb
              exact ⟨by omega, q1, by have := HSA.out.2; have := HFAR.out.2; omega, hne b (by have := HSA.out.2; omega) q3⟩
          · intro i j b h1 h2
            by_cases hik : i = k
            · by_cases hjk : j = k
              · omega
              · simp only [if_pos hik] at h1
                simp only [if_neg hjk] at h2
                have := (HIN.out j b h2).2.2.1
                omega
            · by_cases hjk : j = k
              · simp only [if_neg hik] at h1
                simp only [if_pos hjk] at h2
                have := (HIN.out i b h1).2.2.1
                omega
              · simp only [if_neg hik] at h1
                simp only [if_neg hjk] at h2
                exact HAP.out i j b h1 h2
        case measure => have := HLT.out; simp [RowKit.intOf]; omega
      · obtain rfl : k = n := by omega
        have hdc : decide ((k : Int) < k) = false := decide_eq_false (by omega)
        have hpos : 0 < k := by have := gSum_pos HRR.out.1; have := HRR.out.2; omega
        obtain ⟨vg, vcap, rfl, _, _⟩ := hown.form hpos
        have hB2 : Blk wr (w.heap.size + 1) 50 vZ := (honly.block _ (by have := HWX.out.2; have := HBC.out.size; omega) (fun e => by have := HPL.out.2.2.1; have := HWX.out.2; omega)).trans ((HB2.out.below HB3.out HB2.out.lt).below HBC.out HWX.out.2)
        have x0 := hX.at_ (i := 0) (v := .slice (some ⟨gb, 0, none⟩) m gcap) rfl
        have x1 := hX.at_ (i := 1) (v := .int .i64 secs) rfl
        have x2 := hX.at_ (i := 2) (v := .slice (some ⟨vg, 0, none⟩) k vcap) rfl
        have x3 := hX.at_ (i := 3) (v := .slice (some ⟨ab, 0, none⟩) k k) rfl
        have z0 := hB2.at_ (i := 0) (v := .slice none 0 0) rfl
        have z1 := hB2.at_ (i := 1) (v := .int .i64 0) rfl
        have z2 := hB2.at_ (i := 2) (v := .slice none 0 0) rfl
        have z3 := hB2.at_ (i := 3) (v := .slice none 0 0) rfl
        have y0 := hB2.fr 0
        have y1 := hB2.fr 1
        have y2 := hB2.fr 2
        have y3 := hB2.fr 3
        have HX := Lib.hid ((((hB2.put 0 (.slice (some ⟨gb, 0, none⟩) m gcap)).put 1 (.int .i64 secs)).put 2 (.slice (some ⟨vg, 0, none⟩) k vcap)).put 3 (.slice (some ⟨ab, 0, none⟩) k k))
        have HH := Lib.hid (And.intro hown (And.intro hdev (And.intro hin (And.intro hap (And.intro honly hbd)))))
        clear hown hdev hin hap honly hX hB2 hbd
        go_wp2_with fail
        have hof : ∀ (W : World) (o : Nat) (u : Value) (g : Nat), g ≠ w.heap.size + 1 → (W.setCell ⟨w.heap.size + 1, o, none⟩ u).heap[g]? = W.heap[g]? := fun W o u g hg => Below.heap_setCell W _ _ g hg
        have hsz : ∀ (W : World) (o : Nat) (u : Value), (W.setCell ⟨w.heap.size + 1, o, none⟩ u).heap.size = W.heap.size := fun W o u => by simp [World.setCell]
        have hmn : w.heap.size + 2 ≤ w3.heap.size := HWX.out.2
        refine bodyPost_ret (v := .tuple #[(⟨gb, m, gcap, gs, secs, vg, vcap, ab, bd⟩ : VX).val, .int .i64 0]) ?_ rfl ⟨⟨gb, m, gcap, gs, secs, vg, vcap, ab, bd⟩, S, rfl, rfl, rfl, HH.out.2.2.2.2.2, ?_, Nat.le_trans (Nat.le_trans (Nat.le_add_right _ 2) hmn) HPL.out.1, ?_, Nat.le_trans (Nat.le_trans (Nat.le_add_right _ 2) hmn) HPL.out.2.1, ?_⟩
        · have hb := HH.out.2.2.2.2.2
          subst hb
          exact results_cell_slot rfl _ _ (w.heap.size + 1) 50 _ (0, 0) _ rfl HX.out Tryz.underlying50 rfl (Tryz.infoDevs _ _ _ _) _ rfl
        · exact nv_end HH.out.2.2.2.2.2 HRR.out.1 HRR.out.2 (by have := HBC.out.size; omega) (Nat.le_trans hmn HPL.out.1) (Nat.le_trans hmn HPL.out.2.1) (Nat.le_trans hmn HPL.out.2.2.1) HPL.out.2.2.2.1 HPL.out.2.2.2.2.1 HPL.out.2.2.2.2.2.1 HPL.out.2.2.2.2.2.2.1 HPL.out.2.2.2.2.2.2.2.1
            HGEO.out HAB.out HH.out.2.2.2.2.1 HH.out.1 HH.out.2.1 HH.out.2.2.1 HH.out.2.2.2.1 (fun g _ hg => by rw [hof _ _ _ _ hg, hof _ _ _ _ hg, hof _ _ _ _ hg, hof _ _ _ _ hg]) (by rw [hsz, hsz, hsz, hsz]; exact Nat.le_refl _)
        · show w.heap.size ≤ vg
          have := (HH.out.1.lt vg rfl).1
          have := HBC.out.size
          omega
        · have h1 : Below w.heap.size w wc := HD2.out.trans ((HB3.out.trans (HBC.out.mono HB3.out.size)).mono HD2.out.size)
          have h2 : Below w.heap.size wc wr := HH.out.2.2.2.2.1.below (by have := HBC.out.size; omega) (fun g hg => by have := HPL.out.2.2.1; omega)
          have h3 : Below w.heap.size w wr := ⟨h2.os.trans h1.os, h2.tape.trans h1.tape, h2.output.trans h1.output, Nat.le_trans h1.size h2.size, fun i hi => (h2.block i hi).trans (h1.block i hi)⟩
          exact below_set (below_set (below_set (below_set h3 _ _ _ (Nat.le_succ _)) _ _ _ (Nat.le_succ _)) _ _ _ (Nat.le_succ _)) _ _ _ (Nat.le_succ _)
end Go.Proofs.YtlpbbjjibnbooaaGreatDoor
