/-
  The walk of ModelCopies.
-/
import Derived.Test.YtckicdbiiepngaaCp6
namespace Go.Proofs.Ytckicdbiiepngaa
set_option linter.unusedVariables false
set_option linter.unusedSimpArgs false
open Go.RowKit Go.Maps Go.Lib Go.Shelf

/-- The model's world in S, the document's in block X; what lies in T stays. -/
structure PI (w0 wT wr : World) (b X N : Nat) (T U : Nat → Prop) (d : ModD) (cs : Array Value) (S : Nat → Prop) : Prop where
  m : ModAt wr S b d N
  g : Good d.now
  s : ∀ i, S i → ¬ T i ∧ w0.heap.size ≤ i
  nX : ¬ S X ∧ ¬ T X ∧ w0.heap.size ≤ X
  x : Blk wr X 33 cs
  r : RefW wr cs d.now
  o : ∀ y, ownB cs y → ¬ S y ∧ y ≠ X ∧ y < wr.heap.size ∧ w0.heap.size ≤ y ∧ (wT.heap.size ≤ y ∨ U y)
  z : wT.heap.size ≤ wr.heap.size
  t : ∀ i, T i → i < wT.heap.size ∧ wT.heap.size ≤ wr.heap.size ∧ wr.heap[i]? = wT.heap[i]?
  b : Below w0.heap.size w0 wr
theorem PI.mid {w0 wT wr w4 : World} {b X N : Nat} {T U : Nat → Prop} {d : ModD} {cs : Array Value} {S : Nat → Prop} {a' : AllA} (h : PI w0 wT wr b X N T U d cs S) (ha : ActX wr w4 S b d N a') :
    Blk w4 X 33 cs ∧ RefW w4 cs d.now ∧ Below w0.heap.size w0 w4 := by
  obtain ⟨hm4, ho4⟩ := ha
  exact ⟨(ho4.block X h.x.lt h.nX.1).trans h.x, h.r.same ho4.size (fun y hy => ho4.block y (h.o y hy).2.2.1 (h.o y hy).1), h.b.trans (ho4.below h.b.size (fun i hi => (h.s i hi).2))⟩
theorem PI.step {w0 wT wr w4 w5 : World} {b X N : Nat} {T U : Nat → Prop} {d : ModD} {cs cs' : Array Value} {S : Nat → Prop} {x : MAct} (h : PI w0 wT wr b X N T U d cs S) (ha : ActX wr w4 S b d N (actA d.now x)) (hb : Below w4.heap.size w4 w5)
    (hr : RefW w5 cs' (actA d.now x)) (hown : cs' = cs ∨ ∀ y, ownB cs' y → w4.heap.size ≤ y ∧ y < w5.heap.size) : PI w0 wT (w5.setCells X 0 cs'.toList) b X (N + 1) T U ⟨actA d.now x, d.kept⟩ cs' (more S wr w4) := by
  obtain ⟨hX4, hr4, hb4⟩ := h.mid ha
  obtain ⟨hm4, ho4⟩ := ha
  have f6 : ∀ i, i ≠ X → (w5.setCells X 0 cs'.toList).heap[i]? = w5.heap[i]? := fun i hi => sets_apart _ _ _ _ hi
  have z6 : (w5.setCells X 0 cs'.toList).heap.size = w5.heap.size := sets_size _ _ _
  have hXl := h.x.lt
  have hs4 := ho4.size
  have hs5 := hb.size
  have hs0 := h.b.size
  have NX4 : ¬ more S wr w4 X := fun hi => by
    rcases hi with hi | hi
    · exact h.nX.1 hi
    · omega
  refine ⟨(hm4.below hb).same (by omega) (fun i hi => f6 i (fun e => NX4 (e ▸ hi))), good_act h.g h.m.sane x, fun i hi => ?_, ⟨NX4, h.nX.2⟩, ?_, hr.same (by omega) (fun y hy => f6 y ?_), fun y hy => ?_, by have := h.z; omega, fun i hi => ?_, ?_⟩
  · rcases hi with hi | hi
    · exact h.s i hi
    · refine ⟨fun ht => ?_, by omega⟩
      have := h.t i ht; omega
  · have := (hX4.below hb hX4.lt).putAll cs' (by rw [hr4.size, hr.size])
    exact this
  · rcases hown with rfl | hn
    · exact (h.o y hy).2.1
    · have := hn y hy; omega
  · rcases hown with rfl | hn
    · have q := h.o y hy
      refine ⟨fun hi => ?_, q.2.1, by omega, q.2.2.2.1, q.2.2.2.2⟩
      rcases hi with hi | hi
      · exact q.1 hi
      · omega
    · have q := hn y hy
      have hz := h.z
      refine ⟨fun hi => ?_, by omega, by omega, by omega, .inl (by omega)⟩
      have := hm4.lt y hi
      omega
  · have q := h.t i hi
    have hiX : i ≠ X := fun e => h.nX.2.1 (e ▸ hi)
    have hiS : ¬ S i := fun hs => (h.s i hs).1 hi
    refine ⟨q.1, by omega, ?_⟩
    rw [f6 i hiX, hb.block i (by omega), ho4.block i (by omega) hiS]
    exact q.2.2
  · exact below_sets _ _ (hb4.trans (hb.mono hb4.size)) h.nX.2.2

theorem ModAt.maps {w : World} {S : Nat → Prop} {b : Nat} {d : ModD} {N : Nat} (h : ModAt w S b d N) : (∃ m, MapT w m N d.now.live) ∧ ∀ p ∈ d.now.snaps, ∃ m, MapT w m N p.2 := by
  obtain ⟨m1, A1, n1, c1, m2, A2, n2, c2, S1, S2, h1, h2, _⟩ := h
  obtain ⟨rs, hl, hr, _⟩ := h2
  refine ⟨⟨_, hl⟩, fun p hp => ?_⟩
  obtain ⟨i, hi⟩ := List.getElem?_of_mem hp
  have hlt := (List.getElem?_eq_some_iff.1 hi).1
  exact ⟨_, hr.maps i _ p (List.getElem?_eq_getElem (by rw [hr.len]; exact hlt)) hi⟩
/-- By the document the same, just if the same. -/
theorem same_iff {w w' : World} {S S' : Nat → Prop} {b b' : Nat} {d d' : ModD} {N M : Nat} (h : ModAt w S b d N) (h' : ModAt w' S' b' d' M) (g : Good d.now) (g' : Good d'.now) :
    (setL d.now.live = setL d'.now.live ∧ snS d.now = snS d'.now) ↔ (d.now.live = d'.now.live ∧ d.now.snaps = d'.now.snaps) := by
  obtain ⟨⟨m, hm⟩, hs⟩ := h.maps
  obtain ⟨⟨m', hm'⟩, hs'⟩ := h'.maps
  constructor
  · rintro ⟨h1, h2⟩
    refine ⟨setL_inj hm hm' g.live g'.live h1, List.ext_getElem? fun i => ?_⟩
    have hi : (snS d.now)[i]? = (snS d'.now)[i]? := by rw [h2]
    unfold snS at hi
    rw [List.getElem?_map, List.getElem?_map] at hi
    cases hp : d.now.snaps[i]? with
    | none =>
      rw [hp] at hi
      cases hp' : d'.now.snaps[i]? with
      | none => rfl
      | some p' => rw [hp'] at hi; simp at hi
    | some p =>
      rw [hp] at hi
      cases hp' : d'.now.snaps[i]? with
      | none => rw [hp'] at hi; simp at hi
      | some p' =>
        rw [hp'] at hi
        simp only [Option.map_some, Option.some.injEq, Prod.mk.injEq] at hi
        obtain ⟨x, hx⟩ := hs p (List.mem_of_getElem? hp)
        obtain ⟨y, hy⟩ := hs' p' (List.mem_of_getElem? hp')
        rw [Prod.ext hi.1 (setL_inj hx hy (g.snaps p (List.mem_of_getElem? hp)) (g'.snaps p' (List.mem_of_getElem? hp')) hi.2)]
  · rintro ⟨h1, h2⟩
    exact ⟨by rw [h1], by unfold snS; rw [h2]⟩


set_option maxRecDepth 20000 in
set_option maxHeartbeats 1500000 in
theorem modelCopies_any (v1 v2 : Value) (l more : List MAct) (w : World) (hv1 : MActs w v1 l) (hv2 : MActs w v2 more) :
    Calls Try.prog 6 #[v1, v2] w fun e w' => e = .returned (.bool true) ∧ Below w.heap.size w w' := by
  have HARG1 := Lib.hid hv1
  have HARG2 := Lib.hid hv2
  obtain ⟨A, c, rfl⟩ := hv1.form
  obtain ⟨B, c', rfl⟩ := hv2.form
  clear hv1 hv2
  go_enter Try.func6, Try.ntmps6
  go_wp2_with fail
  refine (awake_any w).mono ?_
  rintro e w1 ⟨rfl, hb1⟩
  have HB1 := Lib.hid hb1
  clear hb1
  by_cases h40 : 40 < l.length
  · have g1 : decide (40 < l.length) = true := decide_eq_true h40
    go_wp2_with fail
    refine (awake_any w1).mono ?_
    rintro e w3 ⟨rfl, hb3⟩
    have HB3 := Lib.hid (keep_below hb3 HB1.out)
    clear hb3
    go_wp2_with fail
    go_ret
    exact ⟨rfl, HB3.out⟩
  have g1 : decide (40 < l.length) = false := decide_eq_false h40
  by_cases h41 : 40 < more.length
  · have g2 : decide (40 < more.length) = true := decide_eq_true h41
    go_wp2_with fail
    refine (awake_any w1).mono ?_
    rintro e w3 ⟨rfl, hb3⟩
    have HB3 := Lib.hid (keep_below hb3 HB1.out)
    clear hb3
    go_wp2_with fail
    go_ret
    exact ⟨rfl, HB3.out⟩
  have g2 : decide (40 < more.length) = false := decide_eq_false h41
  go_wp2_with fail
  refine (new_any w1).mono ?_
  rintro e w2 ⟨b, rfl, hm2, hb2⟩
  obtain ⟨w3, hw3⟩ : ∃ x, x = w2.alloc (.cells zW 33) := ⟨_, rfl⟩
  obtain ⟨w4, hw4⟩ : ∃ x, x = w3.alloc (.cells zW 33) := ⟨_, rfl⟩
  have z3 : w3.heap.size = w2.heap.size + 1 := by rw [hw3]; simp
  have z4 : w4.heap.size = w2.heap.size + 2 := by rw [hw4]; simp [z3]
  have b23 : Below w2.heap.size w2 w3 := by rw [hw3]; exact keep_alloc (Below.refl _ _) _
  have b34 : Below w3.heap.size w3 w4 := by rw [hw4]; exact keep_alloc (Below.refl _ _) _
  have b24 := keep_below b34 b23
  have bX : Blk w4 w2.heap.size 33 zW := by
    have : Blk w3 w2.heap.size 33 zW := by rw [hw3]; exact Blk.new _ _ _
    exact this.below b34 (by omega)
  have bY : Blk w4 (w2.heap.size + 1) 33 zW := by rw [hw4, ← z3]; exact Blk.new _ _ _
  have HPI0 : Hid (PI w1 w4 w4 b w2.heap.size 0 (fun i => i = w2.heap.size + 1) (fun _ => False) ⟨emp, emp⟩ zW (fun i => w1.heap.size ≤ i ∧ i < w2.heap.size)) := Lib.hid ⟨hm2.below b24, good_emp, fun i hi => ⟨by omega, hi.1⟩, ⟨by omega, by omega, hb2.size⟩, bX, zW_ref _, fun y hy => absurd hy (ownB_zW y), Nat.le_refl _, fun i hi => ⟨by omega, Nat.le_refl _, rfl⟩, keep_below b24 hb2⟩
  have HY4 := Lib.hid bY
  have HW3 := Lib.hid hw3.symm
  have HW4 := Lib.hid hw4.symm
  have HZ3 := Lib.hid z3
  clear hm2 hb2 hw3 hw4 z3 z4 b23 b34 b24 bX bY
  go_wp2_with (first
    | ((with_reducible refine wpList_alloc_want ?q1 33 ?q2 zW zW_is w2.heap.size ?q4 w3 HW3.out ?_); (case q2 => rfl); (case q4 => rfl); (case q1 => rfl); simp only [Act.put, List.setIfInBounds_toArray, List.set_cons_zero, List.set_cons_succ])
    | ((with_reducible refine wpList_alloc_want ?q1 33 ?q2 zW zW_is (w2.heap.size + 1) ?q4 w4 HW4.out ?_); (case q2 => rfl); (case q4 => exact HZ3.out); (case q1 => rfl); simp only [Act.put, List.setIfInBounds_toArray, List.set_cons_zero, List.set_cons_succ]))
  obtain ⟨X, hX⟩ : ∃ X, X = w2.heap.size := ⟨_, rfl⟩
  rw [← hX] at HPI0 HY4 ⊢
  clear hX HW3 HW4 HZ3
  go_loopw [8] (fun t wr => ∃ (k : Nat) (d : ModD) (cs : Array Value) (S : Nat → Prop), k ≤ l.length ∧ t = .int .i64 k ∧ PI w1 w4 wr b X k (fun i => i = X + 1) (fun _ => False) d cs S) (fun t _ => l.length - (intOf t).toNat)
  case atStart => exact ⟨0, _, _, _, Nat.zero_le _, rfl, HPI0.out⟩
  case round =>
    obtain ⟨k, d, cs, S, hk, rfl, hpi⟩ := hrel
    by_cases hlt : k < l.length
    · obtain ⟨gb, go, rfl⟩ := HARG1.out.some (by omega)
      obtain ⟨x, hx⟩ : ∃ x, l[k]? = some x := ⟨_, List.getElem?_eq_getElem hlt⟩
      have hww : Below w.heap.size w wr := HB1.out.trans (hpi.b.mono HB1.out.size)
      obtain ⟨a0, a1, a2, a3, a4, hok⟩ := HARG1.out.get hx hww
      have HDO := Lib.hid (do_x hpi.m (by omega) x hok)
      have HOK := Lib.hid hok
      have HLT := Lib.hid hlt
      have HPI := Lib.hid hpi
      have HGX := Lib.hid (fun (W : World) => HARG1.out.get (w' := W) hx)
      have hgb : gb < w.heap.size := by
        obtain ⟨A', c', he, _, h3⟩ := HARG1.out
        cases he
        obtain ⟨b', o', e', hlt', _⟩ := h3 (by omega)
        cases e'
        exact hlt'
      have HGB := Lib.hid hgb
      have hdc : decide (k < l.length) = true := decide_eq_true hlt
      obtain ⟨xd, xi, xo, xn, xf⟩ := x
      simp only at a0 a1 a2 a3 a4 HDO HGX
      clear hx hok hlt hpi hww hgb
      go_wp2_with fail
      refine HDO.out.mono ?_
      rintro e w4' ⟨er, rfl, hact⟩
      clear a0 a1 a2 a3 a4
      obtain ⟨X4, R4, b14⟩ := HPI.out.mid hact
      have HACT := Lib.hid hact
      have ww4 : Below w.heap.size w w4' := HB1.out.trans (b14.mono HB1.out.size)
      have RD : RefW w4'.drew cs d.now := R4.below ⟨rfl, rfl, rfl, Nat.le_refl _, fun _ _ => rfl⟩
      have HRDO := Lib.hid (rdo_any RD HPI.out.m.sane ⟨xd, xi, xo, xn, xf⟩ HOK.out)
      have hi33 := R4.info
      have HX4 := Lib.hid X4
      have HR4 := Lib.hid R4
      have HWW4 := Lib.hid ww4
      clear hact X4 R4 b14 ww4 RD
      repeat' (first
        | go_values
        | go_skip
        | go_guarded
        | ((fail_if_success (with_reducible refine drawn_mark ?_))
           first
             | go_step
             | go_upon
             | go_back
             | (simp only [Int.not_lt, Int.not_le] at *; go_simp)
             | (go_values <;> (try go_simp))
             | (go_ite <;> go_prune <;> (try go_simp))
             | (split <;> (first | (rename_i hx; exact (hx _ rfl).elim) | go_prune))))
      obtain ⟨C, hCe⟩ : ∃ C : World → Prop, C = fun W => Only (fun i => i = X) w4' W := ⟨_, rfl⟩
      have hC : C w4'.drew := by rw [hCe]; exact (Only.refl _ _).drew
      have HXgb : Hid (gb ≠ X) := Lib.hid (by have := HB1.out.size; have := HPI.out.nX.2.2; have := HGB.out; omega)
      have fcell : ∀ W, C W → ∀ o u, w4'.cell? ⟨gb, o, none⟩ = some u → W.cell? ⟨gb, o, none⟩ = some u := fun W hW o u hu => by
        rw [hCe] at hW
        exact (World.cell?_of_block (a := ⟨gb, o, none⟩) (hW.block gb (by have := HWW4.out.size; have := HGB.out; omega) HXgb.out)).trans hu
      obtain ⟨g0, g1', g2, g3, g4, _⟩ := HGX.out w4' HWW4.out
      have f0 := fun W (h : C W) => fcell W h _ _ g0
      have f1 := fun W (h : C W) => fcell W h _ _ g1'
      have f2 := fun W (h : C W) => fcell W h _ _ g2
      have f3 := fun W (h : C W) => fcell W h _ _ g3
      have f4 := fun W (h : C W) => fcell W h _ _ g4
      have HCE := Lib.hid hCe
      have X4d : Blk w4'.drew X 33 cs := HX4.out
      clear fcell g0 g1' g2 g3 g4 hCe
      refine wp_region_effA C [0, 5, 9] (by kernel_rfl) (by kernel_rfl) (by kernel_rfl) hC ?_
      refine wpLexE_eff (by kernel_rfl) rfl ?_
      go_wp2_with ((with_reducible refine wpList_load_want ?qw 33 (.tmp 6) ?q2 X ?q3 33 cs _ X4d Try.underlying33 rfl hi33 ?_); (case q2 => rfl); (case q3 => rfl); (case qw => rfl); simp only [Act.put, List.setIfInBounds_toArray, List.set_cons_zero, List.set_cons_succ])
      refine ⟨rfl, hC, ?_⟩
      refine wpLexE_take 4 (by kernel_rfl) (by kernel_rfl) ?_
      simp only [List.take_succ_cons, List.take_zero, List.drop_succ_cons, List.drop_zero]
      repeat (first
        | go_big_quiet_skip
        | (go_big_quiet_want
           go_big_quiet_op
           first
             | go_big_quiet_on
             | (apply Exists.intro
                refine ⟨fun W hW => ?_, ?_⟩
                · first
                    | exact rfl
                    | exact ⟨rfl, rfl⟩
                    | (have e0 := f0 W hW; have e1 := f1 W hW; have e2 := f2 W hW; have e3 := f3 W hW; have e4 := f4 W hW; simp only [e0, e1, e2, e3, e4, Result.andThen_ok]; done)
                    | (have e0 := f0 W hW; have e1 := f1 W hW; have e2 := f2 W hW; have e3 := f3 W hW; have e4 := f4 W hW; simp only [e0, e1, e2, e3, e4, Result.andThen_ok]; first | exact ⟨trivial, rfl⟩ | exact rfl | exact ⟨rfl, rfl⟩)
                    | (skip)
                go_big_quiet_on)))
      refine wpQuiet_nil ?_
      show wpLexE _ _ _ _ _ _ _ _ _
      refine wpLexE_eff (by kernel_rfl) rfl ?_
      go_wp2_with fail
      refine HRDO.out.mono ?_
      rintro e w5' ⟨cs', er', rfl, ⟨href5, hown5⟩, hb5⟩
      have hC5 : C w5' := by rw [HCE.out]; exact (Only.refl _ _).drew.then_below hb5
      have hb45 : Below w4'.heap.size w4' w5' := ⟨hb5.os, hb5.tape, hb5.output, hb5.size, fun i hi => hb5.block i hi⟩
      obtain ⟨w6', hw6⟩ : ∃ x, x = w5'.setCells X 0 cs'.toList := ⟨_, rfl⟩
      have X5 := HX4.out.below hb45 HX4.out.lt
      have st := run_storeAt_mid (P := Try.prog) w5' X 0 33 cs' (X5.there (by rw [HR4.out.size, href5.size]; omega)) href5.info href5.one
      rw [← hw6] at st
      have HST := Lib.hid st
      have HC6 : Hid (C w6') := Lib.hid (by rw [HCE.out, hw6]; rw [HCE.out] at hC5; exact only_sets _ _ hC5 rfl)
      have HI6 := Lib.hid (HPI.out.step HACT.out hb45 href5 hown5)
      rw [← hw6] at HI6
      clear href5 hown5 hb5 hb45 hw6 X5 st
      go_wp2_with fail
      refine ⟨rfl, hC5, ?_⟩
      refine wpLexE_take 3 (by kernel_rfl) (by kernel_rfl) ?_
      simp only [List.take_succ_cons, List.take_zero, List.drop_succ_cons, List.drop_zero]
      repeat (first
        | go_big_quiet_skip
        | (go_big_quiet_want
           go_big_quiet_op
           first
             | go_big_quiet_on
             | (apply Exists.intro
                refine ⟨fun W hW => ?_, ?_⟩
                · first
                    | exact rfl
                    | exact ⟨rfl, rfl⟩
                    | (have e0 := f0 W hW; have e1 := f1 W hW; have e2 := f2 W hW; have e3 := f3 W hW; have e4 := f4 W hW; simp only [e0, e1, e2, e3, e4, Result.andThen_ok]; done)
                    | (have e0 := f0 W hW; have e1 := f1 W hW; have e2 := f2 W hW; have e3 := f3 W hW; have e4 := f4 W hW; simp only [e0, e1, e2, e3, e4, Result.andThen_ok]; first | exact ⟨trivial, rfl⟩ | exact rfl | exact ⟨rfl, rfl⟩)
                    | (skip)
                go_big_quiet_on)))
      refine wpQuiet_nil ?_
      show wpLexE _ _ _ _ _ _ _ _ _
      refine wpLexE_eff (by kernel_rfl) rfl ?_
      go_wp2_with ((with_reducible refine wpList_store_run ?z1 33 (.tmp 6) (.tmp 44) ?z2 _ _ ?z3 ?z4 w6' HST.out ?_); (case z2 => rfl); (case z3 => rfl); (case z4 => rfl); (case z1 => rfl); simp only [Act.put, List.setIfInBounds_toArray, List.set_cons_zero, List.set_cons_succ])
      refine ⟨rfl, HC6.out, ?_⟩
      clear f0 f1 f2 f3 f4 hC hC5 X4d
      simp only [wpLexE]
      go_wp2_with fail
      go_roundw
      case rel => exact ⟨k + 1, _, _, _, HLT.out, by go_num, HI6.out⟩
      case measure => have := HLT.out; simp [intOf]; omega
    · obtain rfl : k = l.length := by omega
      have hdc : decide ((l.length : Int) < l.length) = false := decide_eq_false (by omega)
      have HCP := Lib.hid (mcopy_any hpi.m (by omega))
      have HPI := Lib.hid hpi
      clear hpi
      go_wp2_with fail
      refine HCP.out.mono ?_
      rintro e w5 ⟨v, rfl, hm5, hb5⟩
      have HB5 := Lib.hid hb5
      have HM5 := Lib.hid hm5
      have HMW5 := Lib.hid (HPI.out.m.below hb5)
      clear hm5 hb5
      go_wp2_with fail
      refine (same_any HM5.out.at_same HMW5.out.at_same).mono ?_
      rintro e w6 ⟨rfl, hb6⟩
      have HB6 := Lib.hid hb6
      clear hb6
      go_wp2_with fail
      refine (same_any (HMW5.out.at_same.below HB6.out) (HM5.out.at_same.below HB6.out)).mono ?_
      rintro e w7 ⟨rfl, hb7⟩
      have HB57 : Hid (Below w5.heap.size w5 w7) := Lib.hid (keep_below hb7 HB6.out)
      have HBr7 : Hid (Below wr.heap.size wr w7) := Lib.hid (keep_below HB57.out HB5.out)
      clear hb7
      have hXl := HPI.out.x.lt
      have hY := HPI.out.t (X + 1) rfl
      have Y7 : Blk w7 (X + 1) 33 zW := by
        have : Blk wr (X + 1) 33 zW := hY.2.2.trans HY4.out
        exact this.below HBr7.out (by omega)
      have X7 := HPI.out.x.below HBr7.out hXl
      have R7 := HPI.out.r.below HBr7.out
      obtain ⟨w8, hw8⟩ : ∃ x, x = w7.setCells (X + 1) 0 cs.toList := ⟨_, rfl⟩
      have hcs66 := R7.size
      have st8 := run_storeAt_mid (P := Try.prog) w7 (X + 1) 0 33 cs (Y7.there (by rw [zW_size, hcs66]; omega)) R7.info R7.one
      rw [← hw8] at st8
      have f8 : ∀ i, i ≠ X + 1 → w8.heap[i]? = w7.heap[i]? := fun i hi => by rw [hw8]; exact sets_apart _ _ _ _ hi
      have z8 : w8.heap.size = w7.heap.size := by rw [hw8]; exact sets_size _ _ _
      have hz5 := HB5.out.size
      have hz7 := HB57.out.size
      have hz0 := HPI.out.b.size
      have HPI2 : Hid (PI w1 w8 w8 v (X + 1) (l.length + 0) (fun i => S i ∨ i = X ∨ ownB cs i) (ownB cs) d cs (fun i => wr.heap.size ≤ i ∧ i < w5.heap.size)) := Lib.hid ⟨
        (HM5.out.below HB57.out).same (by omega) (fun i hi => f8 i (by omega)), HPI.out.g,
        fun i hi => ⟨fun ht => by
          rcases ht with ht | ht | ht
          · have := HPI.out.m.lt i ht; omega
          · omega
          · have := (HPI.out.o i ht).2.2.1; omega, by omega⟩,
        ⟨by omega, fun ht => by
          rcases ht with ht | ht | ht
          · exact (HPI.out.s _ ht).1 rfl
          · omega
          · have q := (HPI.out.o _ ht).2.2.2.2
            rcases q with q | q
            · omega
            · exact q, by have := HPI.out.nX.2.2; omega⟩,
        (by have := Y7.putAll cs (by rw [zW_size, hcs66]); rw [hw8]; exact this),
        R7.same (by omega) (fun y hy => f8 y (fun e => by
          rcases (HPI.out.o y hy).2.2.2.2 with q | q
          · omega
          · exact q)),
        fun y hy => by
          have q := HPI.out.o y hy
          refine ⟨fun hh => by omega, fun e => ?_, by omega, q.2.2.2.1, .inr hy⟩
          rcases q.2.2.2.2 with q | q
          · omega
          · exact q,
        Nat.le_refl _,
        fun i hi => ⟨by
          rcases hi with ht | ht | ht
          · have := HPI.out.m.lt i ht; omega
          · omega
          · have := (HPI.out.o i ht).2.2.1; omega, Nat.le_refl _, rfl⟩,
        (by rw [hw8]; exact below_sets _ _ (HPI.out.b.trans (HBr7.out.mono hz0)) (by have := HPI.out.nX.2.2; omega))⟩
      have HMW8 : Hid (ModAt w8 S b d l.length) := Lib.hid ((HPI.out.m.below HBr7.out).same (by omega) (fun i hi => f8 i (fun e => (HPI.out.s i hi).1 e)))
      have HX8 : Hid (Blk w8 X 33 cs) := Lib.hid ((f8 X (by omega)).trans X7)
      have HR8 : Hid (RefW w8 cs d.now) := Lib.hid (R7.same (by omega) (fun y hy => f8 y (fun e => by
          rcases (HPI.out.o y hy).2.2.2.2 with q | q
          · omega
          · exact q)))
      have HST8 := Lib.hid st8
      have HX7 := Lib.hid X7
      have hi33 := R7.info
      have HGW := Lib.hid HPI.out.g
      clear hXl hY Y7 X7 R7 hw8 hcs66 st8 f8 z8 hz5 hz7 hz0 HPI HM5 HMW5 HB5 HB6 HCP HY4 HPI0
      go_wp2_with (first
        | ((with_reducible refine wpList_load_want ?qw 33 (.tmp 6) ?q2 X ?q3 33 cs _ HX7.out Try.underlying33 rfl hi33 ?_); (case q2 => rfl); (case q3 => rfl); (case qw => rfl); simp only [Act.put, List.setIfInBounds_toArray, List.set_cons_zero, List.set_cons_succ])
        | ((with_reducible refine wpList_store_run ?z1 33 (.tmp 7) (.tmp 58) ?z2 _ _ ?z3 ?z4 w8 HST8.out ?_); (case z2 => rfl); (case z3 => rfl); (case z4 => rfl); (case z1 => rfl); simp only [Act.put, List.setIfInBounds_toArray, List.set_cons_zero, List.set_cons_succ]))
      obtain ⟨Y, hYe⟩ : ∃ Y, Y = X + 1 := ⟨_, rfl⟩
      rw [← hYe] at HPI2 ⊢
      obtain ⟨d1, hd1⟩ : ∃ x, x = d := ⟨_, rfl⟩
      obtain ⟨cs1, hcs1⟩ : ∃ x, x = cs := ⟨_, rfl⟩
      obtain ⟨S1, hS1⟩ : ∃ x, x = S := ⟨_, rfl⟩
      rw [← hd1] at HMW8 HR8 HGW
      rw [← hcs1] at HX8 HR8
      rw [← hS1] at HMW8
      have HT2 : Hid (∀ i, (S1 i ∨ i = X ∨ ownB cs1 i) → (S i ∨ i = X ∨ ownB cs i)) := Lib.hid (by rw [hS1, hcs1]; exact fun i h => h)
      obtain ⟨T2, hT2⟩ : ∃ T : Nat → Prop, T = fun i => S i ∨ i = X ∨ ownB cs i := ⟨_, rfl⟩
      rw [← hT2] at HPI2
      have HT3 : Hid (∀ i, (S1 i ∨ i = X ∨ ownB cs1 i) → T2 i) := Lib.hid (by rw [hT2]; exact HT2.out)
      obtain ⟨U2, hU2⟩ : ∃ U : Nat → Prop, U = ownB cs := ⟨_, rfl⟩
      rw [← hU2] at HPI2
      have hwr := HBr7.out.size
      clear hd1 hcs1 hS1 hT2 hU2 HT2 HX7 HST8 hYe hdc hi33 hwr
      have HYX : Hid True := Lib.hid trivial
      go_loopw [10] (fun t wr => ∃ (k : Nat) (d : ModD) (cs : Array Value) (S : Nat → Prop), k ≤ more.length ∧ t = .int .i64 k ∧ PI w1 w8 wr v Y (l.length + k) T2 U2 d cs S) (fun t _ => more.length - (intOf t).toNat)
      case atStart => exact ⟨0, _, _, _, Nat.zero_le _, rfl, HPI2.out⟩
      case round =>
        obtain ⟨k, d, cs, S, hk, rfl, hpi⟩ := hrel
        by_cases hlt : k < more.length
        · obtain ⟨gb, go, rfl⟩ := HARG2.out.some (by omega)
          obtain ⟨x, hx⟩ : ∃ x, more[k]? = some x := ⟨_, List.getElem?_eq_getElem hlt⟩
          have hww : Below w.heap.size w wr := HB1.out.trans (hpi.b.mono HB1.out.size)
          obtain ⟨a0, a1, a2, a3, a4, hok⟩ := HARG2.out.get hx hww
          have HDO := Lib.hid (do_x hpi.m (by omega) x hok)
          have HOK := Lib.hid hok
          have HLT := Lib.hid hlt
          have HPI := Lib.hid hpi
          have HGX := Lib.hid (fun (W : World) => HARG2.out.get (w' := W) hx)
          have hgb : gb < w.heap.size := by
            obtain ⟨A', c', he, _, h3⟩ := HARG2.out
            cases he
            obtain ⟨b', o', e', hlt', _⟩ := h3 (by omega)
            cases e'
            exact hlt'
          have HGB := Lib.hid hgb
          have hdc : decide (k < more.length) = true := decide_eq_true hlt
          obtain ⟨xd, xi, xo, xn, xf⟩ := x
          simp only at a0 a1 a2 a3 a4 HDO HGX
          clear hx hok hlt hpi hww hgb
          go_wp2_with fail
          refine HDO.out.mono ?_
          rintro e w4' ⟨er, rfl, hact⟩
          clear a0 a1 a2 a3 a4
          obtain ⟨X4, R4, b14⟩ := HPI.out.mid hact
          have HACT := Lib.hid hact
          have ww4 : Below w.heap.size w w4' := HB1.out.trans (b14.mono HB1.out.size)
          have RD : RefW w4'.drew cs d.now := R4.below ⟨rfl, rfl, rfl, Nat.le_refl _, fun _ _ => rfl⟩
          have HRDO := Lib.hid (rdo_any RD HPI.out.m.sane ⟨xd, xi, xo, xn, xf⟩ HOK.out)
          have hi33 := R4.info
          have HX4 := Lib.hid X4
          have HR4 := Lib.hid R4
          have HWW4 := Lib.hid ww4
          clear hact X4 R4 b14 ww4 RD
          repeat' (first
            | go_values
            | go_skip
            | go_guarded
            | ((fail_if_success (with_reducible refine drawn_mark ?_))
               first
                 | go_step
                 | go_upon
                 | go_back
                 | (simp only [Int.not_lt, Int.not_le] at *; go_simp)
                 | (go_values <;> (try go_simp))
                 | (go_ite <;> go_prune <;> (try go_simp))
                 | (split <;> (first | (rename_i hx; exact (hx _ rfl).elim) | go_prune))))
          obtain ⟨C, hCe⟩ : ∃ C : World → Prop, C = fun W => Only (fun i => i = Y) w4' W := ⟨_, rfl⟩
          have hC : C w4'.drew := by rw [hCe]; exact (Only.refl _ _).drew
          have HXgb : Hid (gb ≠ Y) := Lib.hid (by have := HB1.out.size; have := HPI.out.nX.2.2; have := HGB.out; omega)
          have fcell : ∀ W, C W → ∀ o u, w4'.cell? ⟨gb, o, none⟩ = some u → W.cell? ⟨gb, o, none⟩ = some u := fun W hW o u hu => by
            rw [hCe] at hW
            exact (World.cell?_of_block (a := ⟨gb, o, none⟩) (hW.block gb (by have := HWW4.out.size; have := HGB.out; omega) HXgb.out)).trans hu
          obtain ⟨g0, g1', g2, g3, g4, _⟩ := HGX.out w4' HWW4.out
          have f0 := fun W (h : C W) => fcell W h _ _ g0
          have f1 := fun W (h : C W) => fcell W h _ _ g1'
          have f2 := fun W (h : C W) => fcell W h _ _ g2
          have f3 := fun W (h : C W) => fcell W h _ _ g3
          have f4 := fun W (h : C W) => fcell W h _ _ g4
          have HCE := Lib.hid hCe
          have X4d : Blk w4'.drew Y 33 cs := HX4.out
          clear fcell g0 g1' g2 g3 g4 hCe
          refine wp_region_effA C [0, 5, 9] (by kernel_rfl) (by kernel_rfl) (by kernel_rfl) hC ?_
          refine wpLexE_eff (by kernel_rfl) rfl ?_
          go_wp2_with ((with_reducible refine wpList_load_want ?qw 33 (.tmp 7) ?q2 Y ?q3 33 cs _ X4d Try.underlying33 rfl hi33 ?_); (case q2 => rfl); (case q3 => rfl); (case qw => rfl); simp only [Act.put, List.setIfInBounds_toArray, List.set_cons_zero, List.set_cons_succ])
          refine ⟨rfl, hC, ?_⟩
          refine wpLexE_take 4 (by kernel_rfl) (by kernel_rfl) ?_
          simp only [List.take_succ_cons, List.take_zero, List.drop_succ_cons, List.drop_zero]
          repeat (first
            | go_big_quiet_skip
            | (go_big_quiet_want
               go_big_quiet_op
               first
                 | go_big_quiet_on
                 | (apply Exists.intro
                    refine ⟨fun W hW => ?_, ?_⟩
                    · first
                        | exact rfl
                        | exact ⟨rfl, rfl⟩
                        | (have e0 := f0 W hW; have e1 := f1 W hW; have e2 := f2 W hW; have e3 := f3 W hW; have e4 := f4 W hW; simp only [e0, e1, e2, e3, e4, Result.andThen_ok]; done)
                        | (have e0 := f0 W hW; have e1 := f1 W hW; have e2 := f2 W hW; have e3 := f3 W hW; have e4 := f4 W hW; simp only [e0, e1, e2, e3, e4, Result.andThen_ok]; first | exact ⟨trivial, rfl⟩ | exact rfl | exact ⟨rfl, rfl⟩)
                        | (skip)
                    go_big_quiet_on)))
          refine wpQuiet_nil ?_
          show wpLexE _ _ _ _ _ _ _ _ _
          refine wpLexE_eff (by kernel_rfl) rfl ?_
          go_wp2_with fail
          refine HRDO.out.mono ?_
          rintro e w5' ⟨cs', er', rfl, ⟨href5, hown5⟩, hb5⟩
          have hC5 : C w5' := by rw [HCE.out]; exact (Only.refl _ _).drew.then_below hb5
          have hb45 : Below w4'.heap.size w4' w5' := ⟨hb5.os, hb5.tape, hb5.output, hb5.size, fun i hi => hb5.block i hi⟩
          obtain ⟨w6', hw6⟩ : ∃ x, x = w5'.setCells Y 0 cs'.toList := ⟨_, rfl⟩
          have X5 := HX4.out.below hb45 HX4.out.lt
          have st := run_storeAt_mid (P := Try.prog) w5' Y 0 33 cs' (X5.there (by rw [HR4.out.size, href5.size]; omega)) href5.info href5.one
          rw [← hw6] at st
          have HST := Lib.hid st
          have HC6 : Hid (C w6') := Lib.hid (by rw [HCE.out, hw6]; rw [HCE.out] at hC5; exact only_sets _ _ hC5 rfl)
          have HI6 := Lib.hid (HPI.out.step HACT.out hb45 href5 hown5)
          rw [← hw6] at HI6
          clear href5 hown5 hb5 hb45 hw6 X5 st
          go_wp2_with fail
          refine ⟨rfl, hC5, ?_⟩
          refine wpLexE_take 3 (by kernel_rfl) (by kernel_rfl) ?_
          simp only [List.take_succ_cons, List.take_zero, List.drop_succ_cons, List.drop_zero]
          repeat (first
            | go_big_quiet_skip
            | (go_big_quiet_want
               go_big_quiet_op
               first
                 | go_big_quiet_on
                 | (apply Exists.intro
                    refine ⟨fun W hW => ?_, ?_⟩
                    · first
                        | exact rfl
                        | exact ⟨rfl, rfl⟩
                        | (have e0 := f0 W hW; have e1 := f1 W hW; have e2 := f2 W hW; have e3 := f3 W hW; have e4 := f4 W hW; simp only [e0, e1, e2, e3, e4, Result.andThen_ok]; done)
                        | (have e0 := f0 W hW; have e1 := f1 W hW; have e2 := f2 W hW; have e3 := f3 W hW; have e4 := f4 W hW; simp only [e0, e1, e2, e3, e4, Result.andThen_ok]; first | exact ⟨trivial, rfl⟩ | exact rfl | exact ⟨rfl, rfl⟩)
                        | (skip)
                    go_big_quiet_on)))
          refine wpQuiet_nil ?_
          show wpLexE _ _ _ _ _ _ _ _ _
          refine wpLexE_eff (by kernel_rfl) rfl ?_
          go_wp2_with ((with_reducible refine wpList_store_run ?z1 33 (.tmp 7) (.tmp 78) ?z2 _ _ ?z3 ?z4 w6' HST.out ?_); (case z2 => rfl); (case z3 => rfl); (case z4 => rfl); (case z1 => rfl); simp only [Act.put, List.setIfInBounds_toArray, List.set_cons_zero, List.set_cons_succ])
          refine ⟨rfl, HC6.out, ?_⟩
          clear f0 f1 f2 f3 f4 hC hC5 X4d
          simp only [wpLexE]
          go_wp2_with fail
          go_roundw
          case rel => exact ⟨k + 1, _, _, _, HLT.out, by go_num, HI6.out⟩
          case measure => have := HLT.out; simp [intOf]; omega
        · obtain rfl : k = more.length := by omega
          have hdc : decide ((more.length : Int) < more.length) = false := decide_eq_false (by omega)
          obtain ⟨z, hz⟩ := exists_bool (d1.now.live = d.now.live ∧ d1.now.snaps = d.now.snaps)
          have hzs : z = true ↔ (d.now.live = d1.now.live ∧ d.now.snaps = d1.now.snaps) := hz.trans ⟨fun h => ⟨h.1.symm, h.2.symm⟩, fun h => ⟨h.1.symm, h.2.symm⟩⟩
          have hf := fun i h => hpi.t i (HT3.out i h)
          have hsz := hpi.z
          have mw : ModAt wr S1 b d1 l.length := HMW8.out.same hsz (fun i hi => (hf i (.inl hi)).2.2)
          have mv := hpi.m
          have XX : Blk wr X 33 cs1 := ((hf X (.inr (.inl rfl))).2.2).trans HX8.out
          have XR : RefW wr cs1 d1.now := HR8.out.same hsz (fun i hi => (hf i (.inr (.inr hi))).2.2)
          have YY := hpi.x
          have YR := hpi.r
          have hzr : z = true ↔ (setL d1.now.live = setL d.now.live ∧ snS d1.now = snS d.now) := hz.trans (same_iff mw mv HGW.out hpi.g).symm
          have HBE := Lib.hid (keep_below hpi.b HB1.out)
          have hi1 := XR.info
          have hi2 := YR.info
          repeat' (first
            | go_values
            | go_skip
            | go_guarded
            | ((fail_if_success (with_reducible refine drawn_mark ?_))
               first
                 | go_step
                 | go_upon
                 | go_back
                 | (simp only [Int.not_lt, Int.not_le] at *; go_simp)
                 | (go_values <;> (try go_simp))
                 | (go_ite <;> go_prune <;> (try go_simp))
                 | (split <;> (first | (rename_i hx; exact (hx _ rfl).elim) | go_prune))))
          obtain ⟨C, hC, hC0, hCB, hCK, hCd⟩ := cls_below wr
          have fX : ∀ W, C W → (Instr.loadAt 33 (.pointer (some ⟨X, 0, none⟩))).run Try.prog W = .ok (.agg cs1) W := fun W h => (XX.below (hCB W h) XX.lt).loadAt Try.underlying33 rfl hi1
          have fY : ∀ W, C W → (Instr.loadAt 33 (.pointer (some ⟨Y, 0, none⟩))).run Try.prog W = .ok (.agg cs) W := fun W h => (YY.below (hCB W h) YY.lt).loadAt Try.underlying33 rfl hi2
          have HI1 : Hid (∀ W, C W → Calls Try.prog 19 #[.pointer (some ⟨b, 0, none⟩), .agg cs1] W fun e w' => e = .returned (.bool true) ∧ Below W.heap.size W w') :=
            Lib.hid fun W hW => is_any (mw.below (hCB W hW)) (XR.below (hCB W hW)) HGW.out (by omega)
          have HI2 : Hid (∀ W, C W → Calls Try.prog 19 #[.pointer (some ⟨v, 0, none⟩), .agg cs] W fun e w' => e = .returned (.bool true) ∧ Below W.heap.size W w') :=
            Lib.hid fun W hW => is_any (mv.below (hCB W hW)) (YR.below (hCB W hW)) hpi.g (by omega)
          have HSA : Hid (∀ W, C W → Calls Try.prog 18 #[.pointer (some ⟨b, 0, none⟩), .pointer (some ⟨v, 0, none⟩)] W fun e w' => e = .returned (.bool z) ∧ Below W.heap.size W w') :=
            Lib.hid fun W hW => (same_two (mw.below (hCB W hW)).at_same (mv.below (hCB W hW)).at_same).mono fun e w' h => h.fix hz
          have HSB : Hid (∀ W, C W → Calls Try.prog 18 #[.pointer (some ⟨v, 0, none⟩), .pointer (some ⟨b, 0, none⟩)] W fun e w' => e = .returned (.bool z) ∧ Below W.heap.size W w') :=
            Lib.hid fun W hW => (same_two (mv.below (hCB W hW)).at_same (mw.below (hCB W hW)).at_same).mono fun e w' h => h.fix hzs
          have HSR : Hid (∀ W, C W → Calls Try.prog 20 #[.agg cs1, .agg cs] W fun e w' => e = .returned (.bool z) ∧ Below W.heap.size W w') :=
            Lib.hid fun W hW => (rsame_any (XR.below (hCB W hW)) (YR.below (hCB W hW)) mw.sane.few mv.sane.few).mono fun e w' h => h.fix hzr
          clear hz hzs hzr hf hsz mw mv XX XR YY YR hi1 hi2 hC0 hCd hpi
          refine wp_region_cls C (by kernel_rfl) (by kernel_rfl) hC ?_
          repeat (first
            | go_big_quiet_skip
            | (go_big_quiet_want; refine quiet_loadAt 33 (.tmp 6) (by rfl) (.agg cs1) _ (by rfl) fX ?_; simp only [Act.put, List.setIfInBounds_toArray, List.set_cons_zero, List.set_cons_succ]; go_big_quiet_on)
            | (go_big_quiet_want; refine quiet_loadAt 33 (.tmp 7) (by rfl) (.agg cs) _ (by rfl) fY ?_; simp only [Act.put, List.setIfInBounds_toArray, List.set_cons_zero, List.set_cons_succ]; go_big_quiet_on)
            | (go_big_quiet_want
               go_big_quiet_op
               first
                 | go_big_quiet_on
                 | (apply Exists.intro
                    refine ⟨fun W hW => ?_, ?_⟩
                    · first
                        | exact rfl
                        | exact ⟨rfl, rfl⟩
                        | (simp only [Result.andThen_ok]; done)
                        | (simp only [Result.andThen_ok]; first | exact ⟨trivial, rfl⟩ | exact rfl | exact ⟨rfl, rfl⟩)
                        | ((first | (with_reducible refine (HI1.out W hW).mono ?_; rintro e w' ⟨rfl, hb⟩; exact ⟨rfl, hCK _ _ hW hb⟩) | (with_reducible refine (HI2.out W hW).mono ?_; rintro e w' ⟨rfl, hb⟩; exact ⟨rfl, hCK _ _ hW hb⟩) | (with_reducible refine (HSA.out W hW).mono ?_; rintro e w' ⟨rfl, hb⟩; exact ⟨rfl, hCK _ _ hW hb⟩) | (with_reducible refine (HSB.out W hW).mono ?_; rintro e w' ⟨rfl, hb⟩; exact ⟨rfl, hCK _ _ hW hb⟩) | (with_reducible refine (HSR.out W hW).mono ?_; rintro e w' ⟨rfl, hb⟩; exact ⟨rfl, hCK _ _ hW hb⟩) | (trace_state; fail "no arm")))
                    go_big_quiet_on)))
          refine wpQuiet_nil ?_
          intro wz hwz
          have HBZ := Lib.hid (keep_below (hCB wz hwz) HBE.out)
          have hbz : (z == z) = true := beq_self_eq_true z
          clear fX fY hC hCB hCK hwz HI1 HI2 HSA HSB HSR
          go_wp2_with fail
          go_ret
          exact ⟨by simp, HBZ.out⟩
end Go.Proofs.Ytckicdbiiepngaa
