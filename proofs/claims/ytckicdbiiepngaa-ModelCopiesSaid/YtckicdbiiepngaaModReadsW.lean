/-
  The walk of ModelReads.
-/
import Derived.Test.YtckicdbiiepngaaRdD
import Derived.Test.YtckicdbiiepngaaEffA
namespace Go.Proofs.Ytckicdbiiepngaa
set_option linter.unusedVariables false
set_option linter.unusedSimpArgs false
open Go.RowKit Go.Maps Go.Lib Go.Shelf

theorem quiet_loadAt {P : Program} {a : Act} {C : World → Prop} {o : Oper} {K : Act → Prop} (ty : TypeId) (x : Operand) (ho : o.op = .load ty x) (v p : Value) (hx : a.eval x = p) (h : ∀ W, C W → (Instr.loadAt ty p).run P W = .ok v W) (hk : K (a.put o.dst v)) : o.quiet P a C K :=
  ⟨v, fun W hW => by
    unfold Oper.quietAt execOp
    simp only [ho, hx, Sem.run_bind, h W hW, Sem.run_pure, Result.andThen_ok]
    exact ⟨rfl, rfl⟩, hk⟩
theorem Blk.loadAt {P : Program} {w : World} {g : Nat} {t ty : TypeId} {cs : Array Value} {d : TypeDesc} (h : Blk w g t cs) (hu : P.underlying ty = some d) (hd : (match d with | .struct _ | .array _ _ => true | _ => false) = true) (hi : (P.info? ty).map (·.size) = some cs.size) :
    (Instr.loadAt ty (.pointer (some ⟨g, 0, none⟩))).run P w = .ok (.agg cs) w := by
  simp only [Instr.loadAt, Instr.sureAddr, Sem.run_bind, Sem.run_pure, Result.andThen_ok, run_loadVar_row w g t ty cs (0, 0) d h hu hd hi]
theorem RefW.size {w : World} {cs : Array Value} {a : AllA} (h : RefW w cs a) : cs.size = 66 := by
  obtain ⟨A1, c1, A2, c2, rfl, _⟩ := h
  exact wV_size (setL_len _)
theorem RefW.one {w : World} {cs : Array Value} {a : AllA} (h : RefW w cs a) : cs.all (·.oneCell') = true := by
  obtain ⟨A1, c1, A2, c2, rfl, _⟩ := h
  exact wV_one (setL_one _)
theorem RefW.info {w : World} {cs : Array Value} {a : AllA} (h : RefW w cs a) : (Try.prog.info? 33).map (·.size) = some cs.size := by
  rw [h.size]; kernel_rfl
theorem Reads.same {w w' : World} {size n : Nat} {A : Option Addr} {xs : List Value} (h : Reads w size A n xs) (hz : w.heap.size ≤ w'.heap.size) (hb : ∀ b off, A = some ⟨b, off, none⟩ → w'.heap[b]? = w.heap[b]?) : Reads w' size A n xs :=
  ⟨h.1, fun h0 => by
    obtain ⟨b, off, hA, hlt, hc⟩ := h.2 h0
    exact ⟨b, off, hA, by omega, fun j u hu => (World.cell?_of_block (a := ⟨b, off + j, none⟩) (hb b off hA)).trans (hc j u hu)⟩⟩
theorem RefW.same {w w' : World} {cs : Array Value} {a : AllA} (h : RefW w cs a) (hz : w.heap.size ≤ w'.heap.size) (hb : ∀ b, ownB cs b → w'.heap[b]? = w.heap[b]?) : RefW w' cs a := by
  obtain ⟨A1, c1, A2, c2, rfl, h1, h2, h3⟩ := h
  refine ⟨A1, c1, A2, c2, rfl, h1.same hz (fun b off e => hb b (.inl ⟨_, wV_64 (setL_len _), by rw [e]; rfl⟩)), h2.same hz (fun b off e => hb b (.inr ⟨_, wV_65 (setL_len _), by rw [e]; rfl⟩)), h3⟩

theorem only_sets {S : Nat → Prop} {a : World} {g : Nat} : ∀ (vs : List Value) (o : Nat) {w : World}, Only S a w → S g → Only S a (w.setCells g o vs)
  | [], _, _, h, _ => h
  | v :: r, o, w, h, hg => by rw [World.setCells]; exact only_sets r (o + 1) (h.set (p := ⟨g, o, none⟩) (.inl hg) v) hg
theorem ModAt.texts {w : World} {S : Nat → Prop} {b : Nat} {d : ModD} {N : Nat} (h : ModAt w S b d N) : ∀ p ∈ d.now.snaps, ∀ k : Int, (txt p.2 k).length ≤ 16384 := by
  obtain ⟨m1, A1, n1, c1, m2, A2, n2, c2, S1, S2, h1, h2, _⟩ := h
  obtain ⟨rs, hl, hr, _⟩ := h2
  intro p hp k
  obtain ⟨i, hi⟩ := List.getElem?_of_mem hp
  have hlt := (List.getElem?_eq_some_iff.1 hi).1
  exact (hr.maps i _ p (List.getElem?_eq_getElem (by rw [hr.len]; exact hlt)) hi).txt_le k
def zS : Array Value := (setL (.map [])).toArray
theorem zS_is : (Try.prog.info? 29).bind (·.zero) = some (.agg zS) := by kernel_rfl
theorem zS_size : zS.size = 64 := by simp [zS, setL_len]
theorem eql_one (s : List UInt8) (W : World) : (binOp .eql 9 (str s) (str s)).run Try.prog W = .ok (.bool true) W := by
  simp [go_sem, binOp, Op.stringOp, str]
/-- The model's world, and the document's in a variable. -/
def RdInv (w1 wr : World) (X b k : Nat) : Prop := ∃ d cs S, ModAt wr S b d k ∧ (∀ i, S i → w1.heap.size ≤ i) ∧ ¬ S X ∧ Blk wr X 33 cs ∧ RefW wr cs d.now ∧ (∀ y, ownB cs y → ¬ S y ∧ y ≠ X ∧ y < wr.heap.size) ∧ w1.heap.size ≤ X ∧ Below w1.heap.size w1 wr
theorem ownB_zW (y : Nat) : ¬ ownB zW y := by
  rintro (⟨v, hv, h⟩ | ⟨v, hv, h⟩)
  · unfold zW at hv; rw [wV_64 (setL_len _)] at hv; cases hv; simp [Value.ownBlock] at h
  · unfold zW at hv; rw [wV_65 (setL_len _)] at hv; cases hv; simp [Value.ownBlock] at h
theorem inv_start {w1 w2 w3 : World} {b : Nat} (hm : ModAt w2 (fun i => w1.heap.size ≤ i ∧ i < w2.heap.size) b ⟨emp, emp⟩ 0) (hb : Below w1.heap.size w1 w2) (h3 : w3 = w2.alloc (.cells zW 33)) : RdInv w1 w3 w2.heap.size b 0 := by
  subst h3
  have hb3 : Below w2.heap.size w2 (w2.alloc (.cells zW 33)) := keep_alloc (Below.refl _ _) _
  exact ⟨⟨emp, emp⟩, zW, _, hm.below hb3, fun i h => h.1, fun h => Nat.lt_irrefl _ h.2, Blk.new _ _ _, zW_ref _, fun y hy => absurd hy (ownB_zW y), hb.size, keep_below hb3 hb⟩

set_option maxRecDepth 20000 in
set_option maxHeartbeats 8000000 in
theorem modelReads_any (v : Value) (l : List MAct) (snap id off size : Int) (w : World) (hv : MActs w v l) (o1 : -9223372036854775808 ≤ off) (o2 : off ≤ 9223372036854775807) (s1 : -9223372036854775808 ≤ size) (s2 : size ≤ 9223372036854775807) :
    Calls Try.prog 3 #[v, .int .i64 snap, .int .i64 id, .int .i64 off, .int .i64 size] w fun e w' => e = .returned (.bool true) ∧ Below w.heap.size w w' := by
  have HARG := Lib.hid hv
  have HBND := Lib.hid (And.intro (And.intro o1 o2) (And.intro s1 s2))
  obtain ⟨A, c, rfl⟩ := hv.form
  clear hv o1 o2 s1 s2
  go_enter Try.func3, Try.ntmps3
  go_wp2_with fail
  refine (awake_any w).mono ?_
  rintro e w1 ⟨rfl, hb1⟩
  have HB1 := Lib.hid hb1
  clear hb1
  by_cases h40 : 40 < l.length
  · have g1 : decide (40 < l.length) = true := decide_eq_true h40
    go_wp2_with fail
    refine (awake_any w1).mono ?_
    rintro e w3 ⟨rfl, hb3⟩
    have HB3 := Lib.hid (keep_below hb3 HB1.out)
    clear hb3
    go_wp2_with fail
    go_ret
    exact ⟨rfl, HB3.out⟩
  have g1 : decide (40 < l.length) = false := decide_eq_false h40
  go_wp2_with fail
  refine (new_any w1).mono ?_
  rintro e w2 ⟨b, rfl, hm2, hb2⟩
  obtain ⟨w3, hw3⟩ : ∃ x, x = w2.alloc (.cells zW 33) := ⟨_, rfl⟩
  have HI3 := Lib.hid (inv_start hm2 hb2 hw3)
  have HW3 := Lib.hid hw3.symm
  clear hm2 hb2 hw3
  go_wp2_with ((with_reducible refine wpList_alloc_want ?q1 33 ?q2 zW zW_is w2.heap.size ?q4 w3 HW3.out ?_); (case q2 => rfl); (case q4 => rfl); (case q1 => rfl); simp only [Act.put, List.setIfInBounds_toArray, List.set_cons_zero, List.set_cons_succ])
  obtain ⟨X, hX⟩ : ∃ X, X = w2.heap.size := ⟨_, rfl⟩
  rw [← hX] at HI3 ⊢
  clear hX HW3
  go_loopw [13] (fun t wr => ∃ k : Nat, k ≤ l.length ∧ t = .int .i64 k ∧ RdInv w1 wr X b k) (fun t _ => l.length - (intOf t).toNat)
  case atStart => exact ⟨0, Nat.zero_le _, rfl, HI3.out⟩
  case round =>
    obtain ⟨k, hk, rfl, hi⟩ := hrel
    have HI := Lib.hid hi
    clear hi
    by_cases hlt : k < l.length
    · obtain ⟨gb, go, rfl⟩ := HARG.out.some (by omega)
      obtain ⟨x, hx⟩ : ∃ x, l[k]? = some x := ⟨_, List.getElem?_eq_getElem hlt⟩
      obtain ⟨d, cs, S, hm, hS, hSX, hXB, href, hown, hX1, hbw⟩ := HI.out
      have hww : Below w.heap.size w wr := HB1.out.trans (hbw.mono HB1.out.size)
      obtain ⟨a0, a1, a2, a3, a4, hok⟩ := HARG.out.get hx hww
      have HDO := Lib.hid (do_x hm (by omega) x hok)
      have HOK := Lib.hid hok
      have HLT := Lib.hid hlt
      have hgb : gb < w.heap.size := by
        obtain ⟨A', c', he, _, h3⟩ := HARG.out
        cases he
        obtain ⟨b', o', e', hlt', _⟩ := h3 (by omega)
        cases e'
        exact hlt'
      have HALL := Lib.hid (And.intro hm (And.intro hS (And.intro hSX (And.intro hXB (And.intro href (And.intro hown (And.intro hX1 hbw)))))))
      have HGX := Lib.hid (fun (W : World) => HARG.out.get (w' := W) hx)
      have hdc : decide (k < l.length) = true := decide_eq_true hlt
      obtain ⟨xd, xi, xo, xn, xf⟩ := x
      simp only at a0 a1 a2 a3 a4 HDO HGX
      clear hx hok hlt hm hS hSX hXB href hown hX1 hbw hww
      go_wp2_with fail
      refine HDO.out.mono ?_
      rintro e w4 ⟨er, rfl, hact⟩
      clear a0 a1 a2 a3 a4
      obtain ⟨hm, hS, hSX, hXB, href, hown, hX1, hbw⟩ := HALL.out
      obtain ⟨hm4, ho4⟩ := hact
      have hXl := hXB.lt
      have X4 : Blk w4 X 33 cs := (ho4.block X hXl hSX).trans hXB
      have R4 : RefW w4 cs d.now := href.same ho4.size (fun y hy => ho4.block y (hown y hy).2.2 (hown y hy).1)
      have b14 : Below w1.heap.size w1 w4 := hbw.trans (ho4.below hbw.size hS)
      have ww4 : Below w.heap.size w w4 := HB1.out.trans (b14.mono HB1.out.size)
      have S4 : ∀ i, more S wr w4 i → w1.heap.size ≤ i := fun i hi => by
        rcases hi with hi | hi
        · exact hS i hi
        · have := hbw.size; omega
      have NX4 : ¬ more S wr w4 X := fun hi => by
        rcases hi with hi | hi
        · exact hSX hi
        · omega
      have OW4 : ∀ y, ownB cs y → ¬ more S wr w4 y ∧ y ≠ X ∧ y < w4.heap.size := fun y hy => by
        have q := hown y hy
        have qs := ho4.size
        refine ⟨fun hi => ?_, q.2.1, by omega⟩
        rcases hi with hi | hi
        · exact q.1 hi
        · omega
      have hsz := R4.size
      have RD : RefW w4.drew cs d.now := R4.below ⟨rfl, rfl, rfl, Nat.le_refl _, fun _ _ => rfl⟩
      have HRDO := Lib.hid (rdo_any RD hm.sane ⟨xd, xi, xo, xn, xf⟩ HOK.out)
      have hi33 := R4.info
      have HX4 := Lib.hid X4
      have HM4 := Lib.hid (And.intro hm4 (And.intro S4 (And.intro NX4 OW4)))
      have HB4 := Lib.hid b14
      have HWW4 := Lib.hid ww4
      have HR4 := Lib.hid R4
      have HX1 := Lib.hid hX1
      clear hm hS hSX hXB href hown hX1 hbw hm4 ho4 X4 R4 b14 S4 NX4 OW4 RD ww4
      repeat' (first
        | go_values
        | go_skip
        | go_guarded
        | ((fail_if_success (with_reducible refine drawn_mark ?_))
           first
             | go_step
             | go_upon
             | go_back
             | (simp only [Int.not_lt, Int.not_le] at *; go_simp)
             | (go_values <;> (try go_simp))
             | (go_ite <;> go_prune <;> (try go_simp))
             | (split <;> (first | (rename_i hx; exact (hx _ rfl).elim) | go_prune))))
      obtain ⟨C, hCe⟩ : ∃ C : World → Prop, C = fun W => Only (fun i => i = X) w4 W := ⟨_, rfl⟩
      have hC : C w4.drew := by rw [hCe]; exact (Only.refl _ _).drew
      have HXgb : Hid (gb ≠ X) := Lib.hid (by have := HB1.out.size; have := HX1.out; omega)
      have fcell : ∀ W, C W → ∀ o u, w4.cell? ⟨gb, o, none⟩ = some u → W.cell? ⟨gb, o, none⟩ = some u := fun W hW o u hu => by
        rw [hCe] at hW
        exact (World.cell?_of_block (a := ⟨gb, o, none⟩) (hW.block gb (by have := HWW4.out.size; omega) HXgb.out)).trans hu
      obtain ⟨g0, g1', g2, g3, g4, _⟩ := HGX.out w4 HWW4.out
      have f0 := fun W (h : C W) => fcell W h _ _ g0
      have f1 := fun W (h : C W) => fcell W h _ _ g1'
      have f2 := fun W (h : C W) => fcell W h _ _ g2
      have f3 := fun W (h : C W) => fcell W h _ _ g3
      have f4 := fun W (h : C W) => fcell W h _ _ g4
      have HCE := Lib.hid hCe
      have X4d : Blk w4.drew X 33 cs := HX4.out
      clear fcell g0 g1' g2 g3 g4 hCe
      refine wp_region_effA C [0, 5, 9] (by kernel_rfl) (by kernel_rfl) (by kernel_rfl) hC ?_
      refine wpLexE_eff (by kernel_rfl) rfl ?_
      go_wp2_with ((with_reducible refine wpList_load_want ?qw 33 (.tmp 12) ?q2 X ?q3 33 cs _ X4d Try.underlying33 rfl hi33 ?_); (case q2 => rfl); (case q3 => rfl); (case qw => rfl); simp only [Act.put, List.setIfInBounds_toArray, List.set_cons_zero, List.set_cons_succ])
      refine ⟨rfl, hC, ?_⟩
      refine wpLexE_take 4 (by kernel_rfl) (by kernel_rfl) ?_
      simp only [List.take_succ_cons, List.take_zero, List.drop_succ_cons, List.drop_zero]
      repeat (first
        | go_big_quiet_skip
        | (go_big_quiet_want
           go_big_quiet_op
           first
             | go_big_quiet_on
             | (apply Exists.intro
                refine ⟨fun W hW => ?_, ?_⟩
                · first
                    | exact rfl
                    | exact ⟨rfl, rfl⟩
                    | (have e0 := f0 W hW; have e1 := f1 W hW; have e2 := f2 W hW; have e3 := f3 W hW; have e4 := f4 W hW; simp only [e0, e1, e2, e3, e4, Result.andThen_ok]; done)
                    | (have e0 := f0 W hW; have e1 := f1 W hW; have e2 := f2 W hW; have e3 := f3 W hW; have e4 := f4 W hW; simp only [e0, e1, e2, e3, e4, Result.andThen_ok]; first | exact ⟨trivial, rfl⟩ | exact rfl | exact ⟨rfl, rfl⟩)
                    | (skip)
                go_big_quiet_on)))
      refine wpQuiet_nil ?_
      show wpLexE _ _ _ _ _ _ _ _ _
      refine wpLexE_eff (by kernel_rfl) rfl ?_
      go_wp2_with fail
      refine HRDO.out.mono ?_
      rintro e w5 ⟨cs', er', rfl, ⟨href5, hown5⟩, hb5⟩
      have hC5 : C w5 := by rw [HCE.out]; exact (Only.refl _ _).drew.then_below hb5
      have hb45 : Below w4.heap.size w4 w5 := ⟨hb5.os, hb5.tape, hb5.output, hb5.size, fun i hi => hb5.block i hi⟩
      have hsz5 := href5.size
      obtain ⟨w6, hw6⟩ : ∃ x, x = w5.setCells X 0 cs'.toList := ⟨_, rfl⟩
      have X5 := HX4.out.below hb45 HX4.out.lt
      have st := run_storeAt_mid (P := Try.prog) w5 X 0 33 cs' (X5.there (by rw [hsz, hsz5]; omega)) href5.info href5.one
      rw [← hw6] at st
      have HST := Lib.hid st
      have HC6 : Hid (C w6) := Lib.hid (by rw [HCE.out, hw6]; rw [HCE.out] at hC5; exact only_sets _ _ hC5 rfl)
      have HI6 : Hid (RdInv w1 w6 X b (k + 1)) := Lib.hid (by
        obtain ⟨hm4, S4, NX4, OW4⟩ := HM4.out
        have f6 : ∀ i, i ≠ X → w6.heap[i]? = w5.heap[i]? := fun i hi => by rw [hw6]; exact sets_apart _ _ _ _ hi
        have z6 : w6.heap.size = w5.heap.size := by rw [hw6]; exact sets_size _ _ _
        have hXl := HX4.out.lt
        have hown' : ∀ y, ownB cs' y → ¬ more S wr w4 y ∧ y ≠ X ∧ y < w5.heap.size := fun y hy => by
          rcases hown5 with rfl | hn
          · have q := OW4 y hy
            have := hb45.size
            exact ⟨q.1, q.2.1, by omega⟩
          · have q := hn y hy
            have q1 : w4.heap.size ≤ y := q.1
            refine ⟨fun hi => ?_, by omega, q.2⟩
            have := hm4.lt y hi
            omega
        refine ⟨_, cs', _, (hm4.below hb45).same (by omega) (fun i hi => f6 i (fun e => NX4 (e ▸ hi))), S4, NX4, ?_, href5.same (by omega) (fun y hy => f6 y (hown' y hy).2.1), fun y hy => ?_, HX1.out, ?_⟩
        · have := X5.putAll cs' (by rw [hsz, hsz5])
          rw [hw6]; exact this
        · have q := hown' y hy
          exact ⟨q.1, q.2.1, by omega⟩
        · rw [hw6]
          exact below_sets _ _ (HB4.out.trans (hb45.mono HB4.out.size)) HX1.out)
      clear href5 hown5 hb5 hb45 hsz5 hw6 X5 st HM4 HX4 HR4
      go_wp2_with fail
      refine ⟨rfl, hC5, ?_⟩
      refine wpLexE_take 3 (by kernel_rfl) (by kernel_rfl) ?_
      simp only [List.take_succ_cons, List.take_zero, List.drop_succ_cons, List.drop_zero]
      repeat (first
        | go_big_quiet_skip
        | (go_big_quiet_want
           go_big_quiet_op
           first
             | go_big_quiet_on
             | (apply Exists.intro
                refine ⟨fun W hW => ?_, ?_⟩
                · first
                    | exact rfl
                    | exact ⟨rfl, rfl⟩
                    | (have e0 := f0 W hW; have e1 := f1 W hW; have e2 := f2 W hW; have e3 := f3 W hW; have e4 := f4 W hW; simp only [e0, e1, e2, e3, e4, Result.andThen_ok]; done)
                    | (have e0 := f0 W hW; have e1 := f1 W hW; have e2 := f2 W hW; have e3 := f3 W hW; have e4 := f4 W hW; simp only [e0, e1, e2, e3, e4, Result.andThen_ok]; first | exact ⟨trivial, rfl⟩ | exact rfl | exact ⟨rfl, rfl⟩)
                    | (skip)
                go_big_quiet_on)))
      refine wpQuiet_nil ?_
      show wpLexE _ _ _ _ _ _ _ _ _
      refine wpLexE_eff (by kernel_rfl) rfl ?_
      go_wp2_with ((with_reducible refine wpList_store_run ?z1 33 (.tmp 12) (.tmp 45) ?z2 _ _ ?z3 ?z4 w6 HST.out ?_); (case z2 => rfl); (case z3 => rfl); (case z4 => rfl); (case z1 => rfl); simp only [Act.put, List.setIfInBounds_toArray, List.set_cons_zero, List.set_cons_succ])
      refine ⟨rfl, HC6.out, ?_⟩
      clear f0 f1 f2 f3 f4 hC hC5 X4d
      simp only [wpLexE]
      go_wp2_with fail
      go_roundw
      case rel => exact ⟨k + 1, HLT.out, by go_num, HI6.out⟩
      case measure => have := HLT.out; simp [intOf]; omega
    · obtain rfl : k = l.length := by omega
      have hdc : decide ((l.length : Int) < l.length) = false := decide_eq_false (by omega)
      obtain ⟨d, cs, S, hm, hS, hSX, hXB, href, hown, hX1, hbw⟩ := HI.out
      obtain ⟨⟨o1, o2⟩, s1, s2⟩ := HBND.out
      have HRD := Lib.hid (mread_x hm snap id off size o1 o2 s1 s2)
      have HOW : Hid (∀ y, ownB cs y → y < wr.heap.size) := Lib.hid (fun y hy => (hown y hy).2.2)
      have HOW : Hid (∀ y, ownB cs y → y < wr.heap.size) := Lib.hid (fun y hy => (hown y hy).2.2)
      have HXB := Lib.hid hXB
      have HREF := Lib.hid href
      have HWW : Hid (Below w.heap.size w wr) := Lib.hid (HB1.out.trans (hbw.mono HB1.out.size))
      obtain ⟨s, er, hR⟩ : ∃ s er, rdR d.now snap id off size = (s, er) := ⟨_, _, rfl⟩
      have HR := Lib.hid hR
      have HTX := Lib.hid hm.sane.txt
      have HFEW := Lib.hid hm.sane.few
      have HTS := Lib.hid hm.texts
      clear o1 o2 s1 s2 hm hS hSX hXB href hown hX1 hbw hR
      go_wp2_with fail
      refine HRD.out.mono ?_
      rw [HR.out]
      rintro e w7 ⟨rfl, hb7⟩
      have X7 := HXB.out.below hb7 HXB.out.lt
      have R7 := HREF.out.below hb7
      have W7 : Below w.heap.size w w7 := keep_below hb7 HWW.out
      have hXl := X7.lt
      obtain ⟨lv, hlv⟩ : ∃ x, x = setL d.now.live := ⟨_, rfl⟩
      have hlv64 : lv.length = 64 := by rw [hlv, setL_len]
      have hlv1 : ∀ u ∈ lv, u.oneCell' = true := by rw [hlv]; exact setL_one _
      have hi29 : (Try.prog.info? 29).map (·.size) = some lv.length := by rw [hlv64]; kernel_rfl
      have hi33 := R7.info
      have HRG : Hid (w7.rangeAt X 0 lv) := Lib.hid (fun j u hu => by
        have hj := (List.getElem?_eq_some_iff.1 hu).1
        obtain ⟨A1, c1, A2, c2, hcs, _⟩ := R7
        rw [Nat.zero_add]
        exact X7.at_ (by rw [hcs, wV_lo (setL_len _) (by omega), ← hlv]; exact hu))
      obtain ⟨w8, hw8⟩ : ∃ x, x = w7.alloc (.cells zS 29) := ⟨_, rfl⟩
      have O8 : Blk w8 w7.heap.size 29 zS := by rw [hw8]; exact Blk.new _ _ _
      have b78 : Below w7.heap.size w7 w8 := by rw [hw8]; exact keep_alloc (Below.refl _ _) _
      obtain ⟨w9, hw9⟩ : ∃ x, x = w8.setCells w7.heap.size 0 lv := ⟨_, rfl⟩
      have HST : Hid ((Instr.storeAt 29 (.pointer (some ⟨w7.heap.size, 0, none⟩)) (.agg lv.toArray)).run Try.prog w8 = .ok () w9) := Lib.hid (by
        rw [hw9]
        exact run_storeAt_mid w8 _ _ _ lv.toArray (O8.there (by rw [zS_size]; simp; omega)) (by simpa using hi29) (all_oneCell_toArray hlv1))
      have b79 : Below w7.heap.size w7 w9 := by rw [hw9]; exact below_sets _ _ b78 (Nat.le_refl _)
      have HO9 : Hid (Blk w9 w7.heap.size 29 lv.toArray) := Lib.hid (by
        have := O8.putAll lv.toArray (by rw [zS_size]; simp; omega)
        rw [hw9]; simpa using this)
      have HX9 := Lib.hid (X7.below b79 hXl)
      have HR9 := Lib.hid (R7.below b79)
      have HW9 := Lib.hid (keep_below b79 W7)
      have HW8 := Lib.hid hw8.symm
      have HLV := Lib.hid hlv
      have HXL := Lib.hid hXl
      have HWO : Hid (w.heap.size ≤ w7.heap.size) := Lib.hid W7.size
      have HOWN : Hid (∀ y, ownB cs y → y < w7.heap.size) := Lib.hid (fun y hy => by have := HOW.out y hy; have := hb7.size; omega)
      obtain ⟨O, hO⟩ : ∃ O, O = w7.heap.size := ⟨_, rfl⟩
      have HOE := Lib.hid hO.symm
      rw [← hO] at HST HO9 HXL HOWN HWO
      clear hb7 X7 R7 W7 hXl hlv hw8 O8 b78 hw9 b79 hO
      by_cases hsn : snap = -1
      · subst hsn
        obtain ⟨D, hD⟩ : ∃ D, D = d.now.live := ⟨_, rfl⟩
        have HLD : Hid (lv = setL D) := Lib.hid (by rw [hD]; exact HLV.out)
        have HTD : Hid (∀ k : Int, (txt D k).length ≤ 16384) := Lib.hid (by rw [hD]; exact HTX.out)
        have HOBJ : Hid (objA d.now (-1) = some D) := Lib.hid (by unfold objA; rw [if_pos rfl, hD])
        clear hD
        by_cases hid : id < 0 ∨ 31 < id
        · obtain ⟨rfl, rfl⟩ : s = [] ∧ er = 1 := by
            have := HR.out
            unfold rdR at this
            rw [if_pos hid] at this
            cases this
            exact ⟨rfl, rfl⟩
          by_cases hi0 : id < 0
          · have d0 : decide (id < 0) = true := decide_eq_true hi0
            clear hid
            go_wp2_with (first
              | ((with_reducible refine wpList_mid_want ?q1 29 (.tmp 56) ?q2 X 0 ?q3 lv _ HRG.out Try.underlying29 rfl hi29 ?_); (case q2 => rfl); (case q3 => rfl); (case q1 => rfl); simp only [Act.put, List.setIfInBounds_toArray, List.set_cons_zero, List.set_cons_succ])
              | ((with_reducible refine wpList_alloc_want ?q1 29 ?q2 zS zS_is O ?q4 w8 HW8.out ?_); (case q2 => rfl); (case q4 => exact HOE.out); (case q1 => rfl); simp only [Act.put, List.setIfInBounds_toArray, List.set_cons_zero, List.set_cons_succ])
              | ((with_reducible refine wpList_store_run ?q1 29 (.tmp 16) (.tmp 57) ?q2 _ _ ?q3 ?q4 w9 HST.out ?_); (case q2 => rfl); (case q3 => rfl); (case q4 => rfl); (case q1 => rfl); simp only [Act.put, List.setIfInBounds_toArray, List.set_cons_zero, List.set_cons_succ])
              )
            go_ret
            exact ⟨rfl, HW9.out⟩
          · have d0 : decide (id < 0) = false := decide_eq_false hi0
            have hi31 : 31 < id := by omega
            have d31 : decide (31 < id) = true := decide_eq_true hi31
            clear hid
            go_wp2_with (first
              | ((with_reducible refine wpList_mid_want ?q1 29 (.tmp 56) ?q2 X 0 ?q3 lv _ HRG.out Try.underlying29 rfl hi29 ?_); (case q2 => rfl); (case q3 => rfl); (case q1 => rfl); simp only [Act.put, List.setIfInBounds_toArray, List.set_cons_zero, List.set_cons_succ])
              | ((with_reducible refine wpList_alloc_want ?q1 29 ?q2 zS zS_is O ?q4 w8 HW8.out ?_); (case q2 => rfl); (case q4 => exact HOE.out); (case q1 => rfl); simp only [Act.put, List.setIfInBounds_toArray, List.set_cons_zero, List.set_cons_succ])
              | ((with_reducible refine wpList_store_run ?q1 29 (.tmp 16) (.tmp 57) ?q2 _ _ ?q3 ?q4 w9 HST.out ?_); (case q2 => rfl); (case q3 => rfl); (case q4 => rfl); (case q1 => rfl); simp only [Act.put, List.setIfInBounds_toArray, List.set_cons_zero, List.set_cons_succ])
              )
            go_ret
            exact ⟨rfl, HW9.out⟩
        · obtain ⟨hi0, hi31⟩ : ¬ id < 0 ∧ ¬ 31 < id := by omega
          have d0 : decide (id < 0) = false := decide_eq_false hi0
          have d31 : decide (31 < id) = false := decide_eq_false hi31
          have HRR : Hid ((if has D (.int .i64 id) = false then ([], 7) else if off < 0 ∨ size < 0 then ([], 1) else (rd14 (txt D id) off size, 0)) = (s, er)) := Lib.hid (by
            have := HR.out
            unfold rdR at this
            rw [if_neg hid, HOBJ.out] at this
            exact this)
          clear hid
          have HID : Hid (((id.toNat : Nat) : Int) = id ∧ id.toNat < 32) := Lib.hid (by omega)
          have t0 : w9.cell? ⟨O, id.toNat, none⟩ = some (.bool (has D (.int .i64 id))) := HO9.out.at_ (by rw [List.getElem?_toArray, HLD.out, setL_b HID.out.2, HID.out.1])
          have t1 : w9.cell? ⟨O, 32 + id.toNat, none⟩ = some (str (txt D id)) := HO9.out.at_ (by rw [List.getElem?_toArray, HLD.out, setL_s HID.out.2, HID.out.1])
          cases hh : has D (.int .i64 id) with
          | false =>
            rw [hh] at t0
            obtain ⟨rfl, rfl⟩ : s = [] ∧ er = 7 := by
              have := HRR.out
              rw [if_pos hh] at this
              cases this
              exact ⟨rfl, rfl⟩
            clear hh
            go_wp2_with (first
              | ((with_reducible refine wpList_mid_want ?q1 29 (.tmp 56) ?q2 X 0 ?q3 lv _ HRG.out Try.underlying29 rfl hi29 ?_); (case q2 => rfl); (case q3 => rfl); (case q1 => rfl); simp only [Act.put, List.setIfInBounds_toArray, List.set_cons_zero, List.set_cons_succ])
              | ((with_reducible refine wpList_alloc_want ?q1 29 ?q2 zS zS_is O ?q4 w8 HW8.out ?_); (case q2 => rfl); (case q4 => exact HOE.out); (case q1 => rfl); simp only [Act.put, List.setIfInBounds_toArray, List.set_cons_zero, List.set_cons_succ])
              | ((with_reducible refine wpList_store_run ?q1 29 (.tmp 16) (.tmp 57) ?q2 _ _ ?q3 ?q4 w9 HST.out ?_); (case q2 => rfl); (case q3 => rfl); (case q4 => rfl); (case q1 => rfl); simp only [Act.put, List.setIfInBounds_toArray, List.set_cons_zero, List.set_cons_succ])
              )
            go_ret
            exact ⟨rfl, HW9.out⟩
          | true =>
            rw [hh] at t0
            have HR2 : Hid ((if off < 0 ∨ size < 0 then (([] : List UInt8), (1 : Int)) else (rd14 (txt D id) off size, 0)) = (s, er)) := Lib.hid (by
              have := HRR.out
              rw [if_neg (by rw [hh]; decide)] at this
              exact this)
            clear hh
            by_cases hneg : off < 0 ∨ size < 0
            · obtain ⟨rfl, rfl⟩ : s = [] ∧ er = 1 := by
                have := HR2.out
                rw [if_pos hneg] at this
                cases this
                exact ⟨rfl, rfl⟩
              by_cases ho : off < 0
              · have e0 : decide (off < 0) = true := decide_eq_true ho
                clear hneg
                go_wp2_with (first
                  | ((with_reducible refine wpList_mid_want ?q1 29 (.tmp 56) ?q2 X 0 ?q3 lv _ HRG.out Try.underlying29 rfl hi29 ?_); (case q2 => rfl); (case q3 => rfl); (case q1 => rfl); simp only [Act.put, List.setIfInBounds_toArray, List.set_cons_zero, List.set_cons_succ])
                  | ((with_reducible refine wpList_alloc_want ?q1 29 ?q2 zS zS_is O ?q4 w8 HW8.out ?_); (case q2 => rfl); (case q4 => exact HOE.out); (case q1 => rfl); simp only [Act.put, List.setIfInBounds_toArray, List.set_cons_zero, List.set_cons_succ])
                  | ((with_reducible refine wpList_store_run ?q1 29 (.tmp 16) (.tmp 57) ?q2 _ _ ?q3 ?q4 w9 HST.out ?_); (case q2 => rfl); (case q3 => rfl); (case q4 => rfl); (case q1 => rfl); simp only [Act.put, List.setIfInBounds_toArray, List.set_cons_zero, List.set_cons_succ])
                  )
                go_ret
                exact ⟨rfl, HW9.out⟩
              · have e0 : decide (off < 0) = false := decide_eq_false ho
                have hs0 : size < 0 := by omega
                have e1 : decide (size < 0) = true := decide_eq_true hs0
                clear hneg
                go_wp2_with (first
                  | ((with_reducible refine wpList_mid_want ?q1 29 (.tmp 56) ?q2 X 0 ?q3 lv _ HRG.out Try.underlying29 rfl hi29 ?_); (case q2 => rfl); (case q3 => rfl); (case q1 => rfl); simp only [Act.put, List.setIfInBounds_toArray, List.set_cons_zero, List.set_cons_succ])
                  | ((with_reducible refine wpList_alloc_want ?q1 29 ?q2 zS zS_is O ?q4 w8 HW8.out ?_); (case q2 => rfl); (case q4 => exact HOE.out); (case q1 => rfl); simp only [Act.put, List.setIfInBounds_toArray, List.set_cons_zero, List.set_cons_succ])
                  | ((with_reducible refine wpList_store_run ?q1 29 (.tmp 16) (.tmp 57) ?q2 _ _ ?q3 ?q4 w9 HST.out ?_); (case q2 => rfl); (case q3 => rfl); (case q4 => rfl); (case q1 => rfl); simp only [Act.put, List.setIfInBounds_toArray, List.set_cons_zero, List.set_cons_succ])
                  )
                go_ret
                exact ⟨rfl, HW9.out⟩
            · obtain ⟨p, rfl⟩ : ∃ p : Nat, off = p := ⟨off.toNat, by omega⟩
              obtain ⟨q, rfl⟩ : ∃ q : Nat, size = q := ⟨size.toNat, by omega⟩
              obtain ⟨rfl, rfl⟩ : s = rd14 (txt D id) p q ∧ er = 0 := by
                have := HR2.out
                rw [if_neg hneg] at this
                cases this
                exact ⟨rfl, rfl⟩
              have e0 : decide ((p : Int) < 0) = false := decide_eq_false (by omega)
              have e1 : decide ((q : Int) < 0) = false := decide_eq_false (by omega)
              have HR14 : Hid (∀ W, Calls Try.prog 14 #[str (txt D id), .int .i64 p, .int .i64 q] W fun e w' => e = .returned (str (rd14 (txt D id) p q)) ∧ Below W.heap.size W w') := Lib.hid (fun W => read14_any _ p q W (HTD.out id) (by have := HBND.out.1.2; omega) (by have := HBND.out.2.2; omega))
              clear hneg HR2 HRR HR
              generalize rd14 (txt D id) p q = s at *
              go_wp2_with (first
                | ((with_reducible refine wpList_mid_want ?q1 29 (.tmp 56) ?q2 X 0 ?q3 lv _ HRG.out Try.underlying29 rfl hi29 ?_); (case q2 => rfl); (case q3 => rfl); (case q1 => rfl); simp only [Act.put, List.setIfInBounds_toArray, List.set_cons_zero, List.set_cons_succ])
                | ((with_reducible refine wpList_alloc_want ?q1 29 ?q2 zS zS_is O ?q4 w8 HW8.out ?_); (case q2 => rfl); (case q4 => exact HOE.out); (case q1 => rfl); simp only [Act.put, List.setIfInBounds_toArray, List.set_cons_zero, List.set_cons_succ])
                | ((with_reducible refine wpList_store_run ?q1 29 (.tmp 16) (.tmp 57) ?q2 _ _ ?q3 ?q4 w9 HST.out ?_); (case q2 => rfl); (case q3 => rfl); (case q4 => rfl); (case q1 => rfl); simp only [Act.put, List.setIfInBounds_toArray, List.set_cons_zero, List.set_cons_succ])
                )
              refine (HR14.out _).mono ?_
              rintro e wz ⟨rfl, hbz⟩
              have HBZ : Hid (Below w.heap.size w wz) := Lib.hid (keep_below hbz HW9.out)
              clear hbz
              go_wp2_with fail
              go_ret
              exact ⟨rfl, HBZ.out⟩
      · have hsb : (snap == -1) = false := beq_eq_false_iff_ne.2 hsn
        have hsb2 : (snap != -1) = true := bne_iff_ne.2 hsn
        obtain ⟨A1, c1, A2, c2, hcs, rd1, rd2, _⟩ := HR9.out
        have HFIND : Hid (∀ W, RefW W cs d.now → Calls Try.prog 13 #[.agg cs, .int .i64 snap] W fun e w' => e = .returned (.int .i64 (fstI d.now.ids snap)) ∧ Below W.heap.size W w') := Lib.hid (fun W hW => by
          obtain ⟨B1, e1, B2, e2, hcs', q1, _⟩ := hW
          exact rfind_any (by rw [hcs', ids_len]; exact wV_64 (setL_len _)) (by rw [← idC_eq, ids_len]; exact q1) (by rw [ids_len]; have := HFEW.out; omega) snap)
        have HCS := Lib.hid hcs
        have HRD2 := Lib.hid rd2
        clear hcs rd1 rd2
        go_wp2_with (first
          | ((with_reducible refine wpList_mid_want ?q1 29 (.tmp 56) ?q2 X 0 ?q3 lv _ HRG.out Try.underlying29 rfl hi29 ?_); (case q2 => rfl); (case q3 => rfl); (case q1 => rfl); simp only [Act.put, List.setIfInBounds_toArray, List.set_cons_zero, List.set_cons_succ])
          | ((with_reducible refine wpList_alloc_want ?q1 29 ?q2 zS zS_is O ?q4 w8 HW8.out ?_); (case q2 => rfl); (case q4 => exact HOE.out); (case q1 => rfl); simp only [Act.put, List.setIfInBounds_toArray, List.set_cons_zero, List.set_cons_succ])
          | ((with_reducible refine wpList_store_run ?q1 29 (.tmp 16) (.tmp 57) ?q2 _ _ ?q3 ?q4 w9 HST.out ?_); (case q2 => rfl); (case q3 => rfl); (case q4 => rfl); (case q1 => rfl); simp only [Act.put, List.setIfInBounds_toArray, List.set_cons_zero, List.set_cons_succ])
          | ((with_reducible refine wpList_load_want ?qw 33 (.tmp 12) ?q2 X ?q3 33 cs _ HX9.out Try.underlying33 rfl hi33 ?_); (case q2 => rfl); (case q3 => rfl); (case qw => rfl); simp only [Act.put, List.setIfInBounds_toArray, List.set_cons_zero, List.set_cons_succ])
          )
        refine (HFIND.out _ HR9.out).mono ?_
        rintro e wa ⟨rfl, hba⟩
        have HBA := Lib.hid hba
        have HXA := Lib.hid (HX9.out.below hba HX9.out.lt)
        have HOA := Lib.hid (HO9.out.below hba HO9.out.lt)
        have HWA := Lib.hid (keep_below hba HW9.out)
        clear hba
        rcases fstI_or d.now.ids snap with ⟨hf, he⟩ | ⟨i, hf, he⟩
        · rw [he]
          have HOBN : Hid (objA d.now snap = none) := Lib.hid (by unfold objA; rw [if_neg hsn, hf])
          have HHE := Lib.hid he
          clear hf he hsn
          by_cases hid : id < 0 ∨ 31 < id
          · obtain ⟨rfl, rfl⟩ : s = [] ∧ er = 1 := by
              have := HR.out
              unfold rdR at this
              rw [if_pos hid] at this
              cases this
              exact ⟨rfl, rfl⟩
            by_cases hi0 : id < 0
            · have d0 : decide (id < 0) = true := decide_eq_true hi0
              clear hid
              go_wp2_with fail
              go_ret
              exact ⟨rfl, HWA.out⟩
            · have d0 : decide (id < 0) = false := decide_eq_false hi0
              have hi31 : 31 < id := by omega
              have d31 : decide (31 < id) = true := decide_eq_true hi31
              clear hid
              go_wp2_with fail
              go_ret
              exact ⟨rfl, HWA.out⟩
          · obtain ⟨hi0, hi31⟩ : ¬ id < 0 ∧ ¬ 31 < id := by omega
            have d0 : decide (id < 0) = false := decide_eq_false hi0
            have d31 : decide (31 < id) = false := decide_eq_false hi31
            obtain ⟨rfl, rfl⟩ : s = [] ∧ er = 7 := by
              have := HR.out
              unfold rdR at this
              rw [if_neg hid, HOBN.out] at this
              cases this
              exact ⟨rfl, rfl⟩
            clear hid
            go_wp2_with (first
              | ((with_reducible refine wpList_load_want ?qw 33 (.tmp 12) ?q2 X ?q3 33 cs _ HXA.out Try.underlying33 rfl hi33 ?_); (case q2 => rfl); (case q3 => rfl); (case qw => rfl); simp only [Act.put, List.setIfInBounds_toArray, List.set_cons_zero, List.set_cons_succ])
              )
            refine (HFIND.out _ (HR9.out.below HBA.out)).mono ?_
            rintro e wb ⟨rfl, hbb⟩
            have HWB := Lib.hid (keep_below hbb HWA.out)
            clear hbb
            rw [HHE.out]
            go_wp2_with fail
            go_ret
            exact ⟨rfl, HWB.out⟩
        · rw [he]
          have hik : i < d.now.snaps.length := ids_get hf
          obtain ⟨p, hp⟩ : ∃ p, d.now.snaps[i]? = some p := ⟨_, List.getElem?_eq_getElem hik⟩
          obtain ⟨D, hD⟩ : ∃ D, D = p.2 := ⟨_, rfl⟩
          have HOBJ : Hid (objA d.now snap = some D) := Lib.hid (by unfold objA; rw [if_neg hsn, hf]; simp only; rw [List.getD_eq_getElem?_getD, hp, hD]; rfl)
          have HTD : Hid (∀ k : Int, (txt D k).length ≤ 16384) := Lib.hid (by rw [hD]; exact HTS.out _ (List.mem_of_getElem? hp))
          obtain ⟨b2, of2, hA2, hb2l, _⟩ := HRD2.out.2 (by omega)
          subst hA2
          have rdA := HRD2.out.below HBA.out (Nat.le_refl _)
          have hrg : wa.rangeAt b2 (of2 + i * 64) (setL p.2) := snC_range rdA hp (by omega)
          obtain ⟨lD, hlD⟩ : ∃ x, x = setL p.2 := ⟨_, rfl⟩
          have HLD : Hid (lD = setL D) := Lib.hid (by rw [hD]; exact hlD)
          rw [← hlD] at hrg
          have hlD64 : lD.length = 64 := by rw [hlD, setL_len]
          have hlD1 : ∀ u ∈ lD, u.oneCell' = true := by rw [hlD]; exact setL_one _
          have hi29D : (Try.prog.info? 29).map (·.size) = some lD.length := by rw [hlD64]; kernel_rfl
          have x65 : wa.cell? ⟨X, 65, none⟩ = some (.slice (some ⟨b2, of2, none⟩) d.now.snaps.length c2) := HXA.out.at_ (by rw [HCS.out]; exact wV_65 (setL_len _))
          have HRG2 := Lib.hid hrg
          have HB2L := Lib.hid hb2l
          have HHE := Lib.hid he
          have hdi : decide (i < d.now.snaps.length) = true := decide_eq_true hik
          have hdk : decide ((0 : Int) ≤ i) = true := decide_eq_true (by omega)
          have x65d : wa.drew.cell? ⟨X, 65, none⟩ = some (.slice (some ⟨b2, of2, none⟩) d.now.snaps.length c2) := x65
          clear hf he hsn hp hD rdA hrg hlD
          repeat' (first
            | go_values
            | go_skip
            | go_guarded
            | ((fail_if_success (with_reducible refine drawn_mark ?_))
               first
                 | go_step
                 | go_upon
                 | go_back
                 | (simp only [Int.not_lt, Int.not_le] at *; go_simp)
                 | (go_values <;> (try go_simp))
                 | (go_ite <;> go_prune <;> (try go_simp))
                 | (split <;> (first | (rename_i hx; exact (hx _ rfl).elim) | go_prune))))
          obtain ⟨C, hC, hC0, hCB, hCK, hCd⟩ := cls_below wa
          have f1 : ∀ W, C W → W.cell? ⟨X, 65, none⟩ = some (.slice (some ⟨b2, of2, none⟩) d.now.snaps.length c2) := fun W hW => keep_cell (hCB W hW) x65 HXA.out.lt
          have fl : ∀ W, C W → (Instr.loadAt 33 (.pointer (some ⟨X, 0, none⟩))).run Try.prog W = .ok (.agg cs) W := fun W h => (HXA.out.below (hCB W h) HXA.out.lt).loadAt Try.underlying33 rfl hi33
          have fs : ∀ W, C W → (Instr.loadAt 29 (.pointer (some ⟨b2, of2 + i * 64, none⟩))).run Try.prog W = .ok (.agg lD.toArray) W := fun W h => run_loadAt_mid W _ _ _ lD _ (fun j u hu => keep_cell (hCB W h) (HRG2.out j u hu) (by have := HB2L.out; have := HBA.out.size; omega)) Try.underlying29 rfl hi29D
          have HCK := Lib.hid hCK
          clear hCK hCB hCd hC0 x65 x65d
          refine wp_region_eff C [4] 7 (by kernel_rfl) (by kernel_rfl) (by kernel_rfl) hC ?_
          simp only [List.take_succ_cons, List.take_zero, List.drop_succ_cons, List.drop_zero]
          refine wpLexE_take 4 (by kernel_rfl) (by kernel_rfl) ?_
          simp only [List.take_succ_cons, List.take_zero, List.drop_succ_cons, List.drop_zero]
          repeat (first
            | go_big_quiet_skip
            | (go_big_quiet_want; refine quiet_loadAt 33 (.tmp 12) (by rfl) (.agg cs) _ (by rfl) fl ?_; simp only [Act.put, List.setIfInBounds_toArray, List.set_cons_zero, List.set_cons_succ]; go_big_quiet_on)
            | (go_big_quiet_want
               go_big_quiet_op
               first
                 | go_big_quiet_on
                 | (apply Exists.intro
                    refine ⟨fun W hW => ?_, ?_⟩
                    · first
                        | exact rfl
                        | exact ⟨rfl, rfl⟩
                        | (have e0 := f1 W hW; simp only [e0, Result.andThen_ok]; done)
                        | (have e0 := f1 W hW; simp only [e0, Result.andThen_ok]; first | exact ⟨trivial, rfl⟩ | exact rfl | exact ⟨rfl, rfl⟩)
                        | (skip)
                    go_big_quiet_on)))
          refine wpQuiet_nil ?_
          show wpLexE _ _ _ _ _ _ _ _ _
          refine wpLexE_eff (by kernel_rfl) rfl ?_
          go_wp2_with fail
          refine (HFIND.out wa.drew ((HR9.out.below HBA.out).below ⟨rfl, rfl, rfl, Nat.le_refl _, fun _ _ => rfl⟩)).mono ?_
          rintro e wc ⟨rfl, hbc⟩
          have HBC : Hid (Below wa.heap.size wa wc) := Lib.hid ⟨hbc.os, hbc.tape, hbc.output, hbc.size, fun i hi => hbc.block i hi⟩
          have hSc : C wc := HCK.out _ _ hC hbc
          clear hbc
          rw [HHE.out]
          go_wp2_with fail
          refine ⟨rfl, hSc, ?_⟩
          refine wpLexE_take 2 (by kernel_rfl) (by kernel_rfl) ?_
          simp only [List.take_succ_cons, List.take_zero, List.drop_succ_cons, List.drop_zero]
          repeat (first
            | go_big_quiet_skip
            | (go_big_quiet_want; refine quiet_loadAt 29 (.tmp 71) (by rfl) (.agg lD.toArray) _ (by rfl) fs ?_; simp only [Act.put, List.setIfInBounds_toArray, List.set_cons_zero, List.set_cons_succ]; go_big_quiet_on)
            | (go_big_quiet_want
               go_big_quiet_op
               first
                 | go_big_quiet_on
                 | (apply Exists.intro
                    refine ⟨fun W hW => ?_, ?_⟩
                    · first
                        | exact rfl
                        | exact ⟨rfl, rfl⟩
                        | (have e0 := f1 W hW; simp only [e0, Result.andThen_ok]; done)
                        | (have e0 := f1 W hW; simp only [e0, Result.andThen_ok]; first | exact ⟨trivial, rfl⟩ | exact rfl | exact ⟨rfl, rfl⟩)
                        | (skip)
                    go_big_quiet_on)))
          refine wpQuiet_nil ?_
          show wpList _ _ _ _ _ _
          clear f1 fl fs hC hSc
          have OC := HOA.out.below HBC.out HOA.out.lt
          obtain ⟨wd, hwd⟩ : ∃ x, x = wc.setCells O 0 lD := ⟨_, rfl⟩
          have HSTD : Hid ((Instr.storeAt 29 (.pointer (some ⟨O, 0, none⟩)) (.agg lD.toArray)).run Try.prog wc = .ok () wd) := Lib.hid (by
            rw [hwd]
            exact run_storeAt_mid wc _ _ _ lD.toArray (OC.there (by simp; omega)) (by simpa using hi29D) (all_oneCell_toArray hlD1))
          have HOD : Hid (Blk wd O 29 lD.toArray) := Lib.hid (by
            have := OC.putAll lD.toArray (by simp; omega)
            rw [hwd]; simpa using this)
          have hfar : ∀ j, j ≠ O → wd.heap[j]? = wc.heap[j]? := fun j hj => by rw [hwd]; exact sets_apart _ _ _ _ hj
          have HXD : Hid (Blk wd X 33 cs) := Lib.hid ((hfar X (by have := HXL.out; omega)).trans (HXA.out.below HBC.out HXA.out.lt))
          have HRWD : Hid (RefW wd cs d.now) := Lib.hid (((HR9.out.below HBA.out).below HBC.out).same (by rw [hwd, sets_size]; exact Nat.le_refl _) (fun y hy => hfar y (by have := HOWN.out y hy; omega)))
          have HWD : Hid (Below w.heap.size w wd) := Lib.hid (by rw [hwd]; exact below_sets _ _ (keep_below HBC.out HWA.out) (by have := HWO.out; omega))
          clear OC hwd hfar
          refine wpList_store_run ?z1 29 (.tmp 16) (.tmp 72) ?z2 _ _ ?z3 ?z4 wd HSTD.out ?_
          case z1 => rfl
          case z2 => rfl
          case z3 => rfl
          case z4 => rfl
          by_cases hid : id < 0 ∨ 31 < id
          · obtain ⟨rfl, rfl⟩ : s = [] ∧ er = 1 := by
              have := HR.out
              unfold rdR at this
              rw [if_pos hid] at this
              cases this
              exact ⟨rfl, rfl⟩
            by_cases hi0 : id < 0
            · have d0 : decide (id < 0) = true := decide_eq_true hi0
              clear hid
              go_wp2_with (first
                | ((with_reducible refine wpList_load_want ?qw 33 (.tmp 12) ?q2 X ?q3 33 cs _ HXD.out Try.underlying33 rfl hi33 ?_); (case q2 => rfl); (case q3 => rfl); (case qw => rfl); simp only [Act.put, List.setIfInBounds_toArray, List.set_cons_zero, List.set_cons_succ])
                )
              go_ret
              exact ⟨rfl, HWD.out⟩
            · have d0 : decide (id < 0) = false := decide_eq_false hi0
              have hi31 : 31 < id := by omega
              have d31 : decide (31 < id) = true := decide_eq_true hi31
              clear hid
              go_wp2_with (first
                | ((with_reducible refine wpList_load_want ?qw 33 (.tmp 12) ?q2 X ?q3 33 cs _ HXD.out Try.underlying33 rfl hi33 ?_); (case q2 => rfl); (case q3 => rfl); (case qw => rfl); simp only [Act.put, List.setIfInBounds_toArray, List.set_cons_zero, List.set_cons_succ])
                )
              go_ret
              exact ⟨rfl, HWD.out⟩
          · obtain ⟨hi0, hi31⟩ : ¬ id < 0 ∧ ¬ 31 < id := by omega
            have d0 : decide (id < 0) = false := decide_eq_false hi0
            have d31 : decide (31 < id) = false := decide_eq_false hi31
            have HRR : Hid ((if has D (.int .i64 id) = false then ([], 7) else if off < 0 ∨ size < 0 then ([], 1) else (rd14 (txt D id) off size, 0)) = (s, er)) := Lib.hid (by
              have := HR.out
              unfold rdR at this
              rw [if_neg hid, HOBJ.out] at this
              exact this)
            clear hid
            have HID : Hid (((id.toNat : Nat) : Int) = id ∧ id.toNat < 32) := Lib.hid (by omega)
            have t0 : wd.cell? ⟨O, id.toNat, none⟩ = some (.bool (has D (.int .i64 id))) := HOD.out.at_ (by rw [List.getElem?_toArray, HLD.out, setL_b HID.out.2, HID.out.1])
            have t1 : wd.cell? ⟨O, 32 + id.toNat, none⟩ = some (str (txt D id)) := HOD.out.at_ (by rw [List.getElem?_toArray, HLD.out, setL_s HID.out.2, HID.out.1])
            cases hh : has D (.int .i64 id) with
            | false =>
              rw [hh] at t0
              obtain ⟨rfl, rfl⟩ : s = [] ∧ er = 7 := by
                have := HRR.out
                rw [if_pos hh] at this
                cases this
                exact ⟨rfl, rfl⟩
              clear hh
              go_wp2_with (first
                | ((with_reducible refine wpList_load_want ?qw 33 (.tmp 12) ?q2 X ?q3 33 cs _ HXD.out Try.underlying33 rfl hi33 ?_); (case q2 => rfl); (case q3 => rfl); (case qw => rfl); simp only [Act.put, List.setIfInBounds_toArray, List.set_cons_zero, List.set_cons_succ])
                )
              refine (HFIND.out _ HRWD.out).mono ?_
              rintro e wb ⟨rfl, hbb⟩
              have u0 := keep_cell hbb t0 HOD.out.lt
              have u1 := keep_cell hbb t1 HOD.out.lt
              have HWF := Lib.hid (keep_below hbb HWD.out)
              clear hbb t0 t1
              rw [HHE.out]
              go_wp2_with fail
              go_ret
              exact ⟨rfl, HWF.out⟩
            | true =>
              rw [hh] at t0
              have HR2 : Hid ((if off < 0 ∨ size < 0 then (([] : List UInt8), (1 : Int)) else (rd14 (txt D id) off size, 0)) = (s, er)) := Lib.hid (by
                have := HRR.out
                rw [if_neg (by rw [hh]; decide)] at this
                exact this)
              clear hh
              by_cases hneg : off < 0 ∨ size < 0
              · obtain ⟨rfl, rfl⟩ : s = [] ∧ er = 1 := by
                  have := HR2.out
                  rw [if_pos hneg] at this
                  cases this
                  exact ⟨rfl, rfl⟩
                by_cases ho : off < 0
                · have e0 : decide (off < 0) = true := decide_eq_true ho
                  clear hneg
                  go_wp2_with (first
                    | ((with_reducible refine wpList_load_want ?qw 33 (.tmp 12) ?q2 X ?q3 33 cs _ HXD.out Try.underlying33 rfl hi33 ?_); (case q2 => rfl); (case q3 => rfl); (case qw => rfl); simp only [Act.put, List.setIfInBounds_toArray, List.set_cons_zero, List.set_cons_succ])
                    )
                  refine (HFIND.out _ HRWD.out).mono ?_
                  rintro e wb ⟨rfl, hbb⟩
                  have u0 := keep_cell hbb t0 HOD.out.lt
                  have u1 := keep_cell hbb t1 HOD.out.lt
                  have HWF := Lib.hid (keep_below hbb HWD.out)
                  clear hbb t0 t1
                  rw [HHE.out]
                  go_wp2_with fail
                  go_ret
                  exact ⟨rfl, HWF.out⟩
                · have e0 : decide (off < 0) = false := decide_eq_false ho
                  have hs0 : size < 0 := by omega
                  have e1 : decide (size < 0) = true := decide_eq_true hs0
                  clear hneg
                  go_wp2_with (first
                    | ((with_reducible refine wpList_load_want ?qw 33 (.tmp 12) ?q2 X ?q3 33 cs _ HXD.out Try.underlying33 rfl hi33 ?_); (case q2 => rfl); (case q3 => rfl); (case qw => rfl); simp only [Act.put, List.setIfInBounds_toArray, List.set_cons_zero, List.set_cons_succ])
                    )
                  refine (HFIND.out _ HRWD.out).mono ?_
                  rintro e wb ⟨rfl, hbb⟩
                  have u0 := keep_cell hbb t0 HOD.out.lt
                  have u1 := keep_cell hbb t1 HOD.out.lt
                  have HWF := Lib.hid (keep_below hbb HWD.out)
                  clear hbb t0 t1
                  rw [HHE.out]
                  go_wp2_with fail
                  go_ret
                  exact ⟨rfl, HWF.out⟩
              · obtain ⟨p, rfl⟩ : ∃ p : Nat, off = p := ⟨off.toNat, by omega⟩
                obtain ⟨q, rfl⟩ : ∃ q : Nat, size = q := ⟨size.toNat, by omega⟩
                obtain ⟨rfl, rfl⟩ : s = rd14 (txt D id) p q ∧ er = 0 := by
                  have := HR2.out
                  rw [if_neg hneg] at this
                  cases this
                  exact ⟨rfl, rfl⟩
                have e0 : decide ((p : Int) < 0) = false := decide_eq_false (by omega)
                have e1 : decide ((q : Int) < 0) = false := decide_eq_false (by omega)
                have HR14 : Hid (∀ W, Calls Try.prog 14 #[str (txt D id), .int .i64 p, .int .i64 q] W fun e w' => e = .returned (str (rd14 (txt D id) p q)) ∧ Below W.heap.size W w') := Lib.hid (fun W => read14_any _ p q W (HTD.out id) (by have := HBND.out.1.2; omega) (by have := HBND.out.2.2; omega))
                clear hneg HR2 HRR HR
                generalize rd14 (txt D id) p q = s at *
                go_wp2_with (first
                  | ((with_reducible refine wpList_load_want ?qw 33 (.tmp 12) ?q2 X ?q3 33 cs _ HXD.out Try.underlying33 rfl hi33 ?_); (case q2 => rfl); (case q3 => rfl); (case qw => rfl); simp only [Act.put, List.setIfInBounds_toArray, List.set_cons_zero, List.set_cons_succ])
                  )
                refine (HFIND.out _ HRWD.out).mono ?_
                rintro e wb ⟨rfl, hbb⟩
                have u0 := keep_cell hbb t0 HOD.out.lt
                have u1 := keep_cell hbb t1 HOD.out.lt
                have HWF := Lib.hid (keep_below hbb HWD.out)
                clear hbb t0 t1
                rw [HHE.out]
                go_wp2_with fail
                refine (HR14.out _).mono ?_
                rintro e wz ⟨rfl, hbz⟩
                have HBZ : Hid (Below w.heap.size w wz) := Lib.hid (keep_below hbz HWF.out)
                clear hbz
                go_wp2_with fail
                go_ret
                exact ⟨rfl, HBZ.out⟩
end Go.Proofs.Ytckicdbiiepngaa
