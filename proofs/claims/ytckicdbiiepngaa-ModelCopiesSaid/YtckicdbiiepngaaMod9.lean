/-
  Package model: Same; Read of what is live; what nil answers.
-/
import Derived.Test.YtckicdbiiepngaaMod8
namespace Go.Proofs.Ytckicdbiiepngaa
set_option linter.unusedVariables false
set_option linter.unusedSimpArgs false
open Go.RowKit Go.Maps Go.Lib Go.Shelf

theorem srcOf {w : World} {b N : Nat} {D : DT} (h : MapT w b N D) : SrcOf Try.prog 3 RT w (some b) D := .inr ⟨b, N, rfl, h⟩
theorem equal_same {b c N M : Nat} {D : DT} {w : World} (h1 : MapT w b N D) (h2 : MapT w c M D) :
    Calls Try.prog 36 #[.map (some b), .map (some c)] w fun e w' => e = .returned (.bool true) ∧ Below w.heap.size w w' :=
  (equal_opt (srcOf h1) (srcOf h2)).mono fun e w' ⟨he, hg⟩ => ⟨by rw [he, equal_self h1], (Below.refl _ _).grown hg (Nat.le_refl _) (fun k hk => by cases hk)⟩

theorem same1_any {b c N M : Nat} {D : DT} {id : Int} {w : World} (h1 : MapT w b N D) (h2 : MapT w c M D) :
    Calls Try.prog 38 #[.agg #[.int .i64 id, .map (some b)], .agg #[.int .i64 id, .map (some c)]] w fun e w' => e = .returned (.bool true) ∧ Below w.heap.size w w' := by
  have H1 := Lib.hid h1
  have H2 := Lib.hid h2
  clear h1 h2
  go_enter Try.func38, Try.ntmps38
  go_wp2_with fail
  refine (equal_same (D := D) (N := N) (M := M) (MapT.same (MapT.same H1.out (Below.heap_alloc _ _ _ (World.ownsMap.lt H1.out))) (Below.heap_alloc _ _ _ (by have := World.ownsMap.lt H1.out; simp; omega))) (MapT.same (MapT.same H2.out (Below.heap_alloc _ _ _ (World.ownsMap.lt H2.out))) (Below.heap_alloc _ _ _ (by have := World.ownsMap.lt H2.out; simp; omega)))).mono ?_
  rintro e w1 ⟨rfl, hb⟩
  have HB := Lib.hid (keep_below hb (keep_alloc (keep_alloc (Below.refl _ w) _) _))
  clear hb
  go_wp2_with fail
  go_ret
  exact ⟨rfl, HB.out⟩

set_option maxRecDepth 20000 in
theorem eqf_any {w : World} {A B : Option Addr} {c1 c2 : Nat} {rs qs : List (Int × Nat)} {ss : List (Int × DT)} {N M : Nat} (h1 : RowIn w (.slice A rs.length c1) rs ss N) (h2 : RowIn w (.slice B qs.length c2) qs ss M) :
    Calls Try.prog 37 #[.slice A rs.length c1, .slice B qs.length c2, .func (.func 38) #[] #[]] w fun e w' => e = .returned (.bool true) ∧ Below w.heap.size w w' := by
  have hlen : qs.length = rs.length := by rw [h1.len, h2.len]
  rw [hlen] at h2 ⊢
  have H1 := Lib.hid h1
  have H2 := Lib.hid h2
  have HL := Lib.hid hlen
  have few := h1.few
  clear h1 h2 hlen
  go_enter Try.func37, Try.ntmps37
  go_wp2_with fail
  go_loopw [7, 8, 9, 17] (fun _ _ _ t wr => ∃ k : Nat, k ≤ rs.length ∧ t = .int .i64 k ∧ Below w.heap.size w wr) (fun _ _ _ t _ => rs.length - (intOf t).toNat)
  case atStart => exact ⟨0, Nat.zero_le _, rfl, Below.refl _ _⟩
  case round =>
    obtain ⟨k, hk, rfl, hb⟩ := hrel
    have HB := Lib.hid hb
    by_cases hlt : k < rs.length
    · obtain ⟨r, hr⟩ : ∃ r, rs[k]? = some r := ⟨_, List.getElem?_eq_getElem hlt⟩
      obtain ⟨q, hq⟩ : ∃ q, qs[k]? = some q := ⟨_, List.getElem?_eq_getElem (by rw [HL.out]; exact hlt)⟩
      obtain ⟨p, hp⟩ : ∃ p, ss[k]? = some p := ⟨_, List.getElem?_eq_getElem (by rw [← H1.out.len]; exact hlt)⟩
      have hr1 := H1.out.below hb
      have hr2 : RowIn wr (.slice B qs.length c2) qs ss M := by
        rw [HL.out]; exact H2.out.below hb
      obtain ⟨g1, rfl⟩ : ∃ gv, A = some ⟨gv, 0, none⟩ := by
        rcases hr1.row.2 with ⟨_, h0⟩ | ⟨b, cap, cur, he, _⟩
        · omega
        · cases he; exact ⟨b, rfl⟩
      obtain ⟨g2, rfl⟩ : ∃ gv, B = some ⟨gv, 0, none⟩ := by
        rcases hr2.row.2 with ⟨_, h0⟩ | ⟨b, cap, cur, he, _⟩
        · have := HL.out; omega
        · cases he; exact ⟨b, rfl⟩
      have hat1 := rowC_at rs k r hr
      have hat2 := rowC_at qs k q hq
      have a1 := hr1.row.cells (g := g1) rfl _ _ hat1.1
      have a2 := hr1.row.cells (g := g1) rfl _ _ hat1.2
      have a3 := hr2.row.cells (g := g2) rfl _ _ hat2.1
      have a4 := hr2.row.cells (g := g2) rfl _ _ hat2.2
      rw [Addr.add_mid, Nat.zero_add] at a1 a2 a3 a4
      have l1 := hr1.lt.1 g1 rfl
      have l2 := hr2.lt.1 g2 rfl
      have hid : q.1 = r.1 := by rw [hr1.ids k r p hr hp, hr2.ids k q p hq hp]
      rw [hid] at a3
      have HM1 := Lib.hid (hr1.maps k r p hr hp)
      have HM2 := Lib.hid (hr2.maps k q p hq hp)
      have hdc : decide (k < rs.length) = true := decide_eq_true hlt
      have HLT := Lib.hid hlt
      have HSZ := Lib.hid (And.intro l1 l2)
      clear hr1 hr2 hat1 hat2 hr hq hp hid hb
      go_wp2_with fail
      refine (same1_any (id := r.1) (D := p.2) (N := N) (M := M) (MapT.same (MapT.same HM1.out (Below.heap_alloc _ _ _ (World.ownsMap.lt HM1.out))) (Below.heap_alloc _ _ _ (by have := World.ownsMap.lt HM1.out; simp; omega))) (MapT.same (MapT.same HM2.out (Below.heap_alloc _ _ _ (World.ownsMap.lt HM2.out))) (Below.heap_alloc _ _ _ (by have := World.ownsMap.lt HM2.out; simp; omega)))).mono ?_
      rintro e w1 ⟨rfl, hb1⟩
      have HB1 := Lib.hid (keep_below hb1 (keep_alloc (keep_alloc HB.out _) _))
      clear hb1
      go_wp2_with fail
      go_roundw
      case rel => exact ⟨k + 1, HLT.out, by go_num, HB1.out⟩
      case measure => have := HLT.out; simp [intOf]; omega
    · obtain rfl : k = rs.length := by omega
      have hdc : decide ((rs.length : Int) < rs.length) = false := decide_eq_false (by omega)
      go_wp2_with fail
      go_ret
      exact ⟨rfl, HB.out⟩
/-- What the walk of Same asks of a world. -/
def SameAt (w : World) (b : Nat) (a : AllA) (N : Nat) : Prop := ∃ m A n c x y S, Blk w b 63 #[.map (some m), .slice A n c, x, y] ∧ AllIn w S m (.slice A n c) a N
theorem ModAt.at_same {w : World} {S : Nat → Prop} {b : Nat} {d : ModD} {N : Nat} (h : ModAt w S b d N) : SameAt w b d.now N := by
  obtain ⟨m1, A1, n1, c1, m2, A2, n2, c2, S1, S2, h1, h2, _⟩ := h
  exact ⟨m1, A1, n1, c1, _, _, S1, h1, h2⟩
theorem SameAt.below {w w' : World} {b : Nat} {a : AllA} {N : Nat} (h : SameAt w b a N) (hb : Below w.heap.size w w') : SameAt w' b a N := by
  obtain ⟨m, A, n, c, x, y, S, h1, h2⟩ := h
  exact ⟨m, A, n, c, x, y, S, h1.below hb h1.lt, h2.below hb⟩

set_option maxRecDepth 20000 in
theorem same_any {w : World} {b v : Nat} {a : AllA} {N M : Nat} (h1 : SameAt w b a N) (h2 : SameAt w v a M) :
    Calls Try.prog 18 #[.pointer (some ⟨b, 0, none⟩), .pointer (some ⟨v, 0, none⟩)] w fun e w' => e = .returned (.bool true) ∧ Below w.heap.size w w' := by
  obtain ⟨m1, A1, n1, c1, x1, y1, S1, b1, a1⟩ := h1
  obtain ⟨m2, A2, n2, c2, x2, y2, S2, b2, a2⟩ := h2
  obtain ⟨rs, ra, rb, _⟩ := a1
  obtain ⟨qs, qa, qb, _⟩ := a2
  obtain ⟨A1', c1', e1⟩ := rb.form
  obtain ⟨A2', c2', e2⟩ := qb.form
  cases e1
  cases e2
  go_enter Try.func18, Try.ntmps18
  repeat' (first
    | go_values
    | go_skip
    | go_guarded
    | ((fail_if_success (with_reducible refine drawn_mark ?_))
       first
         | go_step
         | go_upon
         | go_back
         | (simp only [Int.not_lt, Int.not_le] at *; go_simp)
         | (go_values <;> (try go_simp))
         | (go_ite <;> go_prune <;> (try go_simp))
         | (split <;> (first | (rename_i hx; exact (hx _ rfl).elim) | go_prune))))
  obtain ⟨C, hC, hC0, hCB, hCK, hCd⟩ := cls_below w
  have f0 : ∀ W, C W → W.cell? ⟨b, 0, none⟩ = some (.map (some m1)) := fun W hW => (b1.below (hCB W hW) b1.lt).at_ rfl
  have f1 : ∀ W, C W → W.cell? ⟨b, 1, none⟩ = some (.slice A1 rs.length c1) := fun W hW => (b1.below (hCB W hW) b1.lt).at_ rfl
  have f2 : ∀ W, C W → W.cell? ⟨v, 0, none⟩ = some (.map (some m2)) := fun W hW => (b2.below (hCB W hW) b2.lt).at_ rfl
  have f3 : ∀ W, C W → W.cell? ⟨v, 1, none⟩ = some (.slice A2 qs.length c2) := fun W hW => (b2.below (hCB W hW) b2.lt).at_ rfl
  have HE : Hid (∀ W, C W → Calls Try.prog 36 #[.map (some m1), .map (some m2)] W fun e w' => e = .returned (.bool true) ∧ Below W.heap.size W w') :=
    Lib.hid fun W hW => equal_same (D := a.live) (N := N) (M := M) (MapT.same ra ((hCB W hW).block _ (World.ownsMap.lt ra))) (MapT.same qa ((hCB W hW).block _ (World.ownsMap.lt qa)))
  have HF : Hid (∀ W, C W → Calls Try.prog 37 #[.slice A1 rs.length c1, .slice A2 qs.length c2, .func (.func 38) #[] #[]] W fun e w' => e = .returned (.bool true) ∧ Below W.heap.size W w') :=
    Lib.hid fun W hW => eqf_any (rb.below (hCB W hW)) (qb.below (hCB W hW))
  clear b1 b2 ra rb qa qb hC0 hCd
  refine wp_region_cls C (by kernel_rfl) (by kernel_rfl) hC ?_
  repeat (first
    | go_big_quiet_skip
    | (go_big_quiet_want
       go_big_quiet_op
       first
         | go_big_quiet_on
         | (apply Exists.intro
            refine ⟨fun W hW => ?_, ?_⟩
            · first
                | exact rfl
                | exact ⟨rfl, rfl⟩
                | (have e0 := f0 W hW; have e1 := f1 W hW; have e2 := f2 W hW; have e3 := f3 W hW; simp only [e0, e1, e2, e3, Result.andThen_ok]; done)
                | (have e0 := f0 W hW; have e1 := f1 W hW; have e2 := f2 W hW; have e3 := f3 W hW; simp only [e0, e1, e2, e3, Result.andThen_ok]; first | exact ⟨trivial, rfl⟩ | exact rfl | exact ⟨rfl, rfl⟩)
                | ((first | (refine (HE.out W hW).mono ?_; rintro e w' ⟨rfl, hb⟩; exact ⟨rfl, hCK _ _ hW hb⟩) | (refine (HF.out W hW).mono ?_; rintro e w' ⟨rfl, hb⟩; exact ⟨rfl, hCK _ _ hW hb⟩)))
            go_big_quiet_on)))
  refine wpQuiet_nil ?_
  intro w1 hw1
  have HB := Lib.hid (hCB w1 hw1)
  clear f0 f1 f2 f3 hC hCB hCK hw1 HE HF
  go_wp2_with fail
  go_ret
  exact ⟨rfl, HB.out⟩
/-- nil is as what is new. -/
theorem same_nil {w : World} {v : Nat} {M : Nat} (h2 : SameAt w v emp M) :
    Calls Try.prog 18 #[.pointer none, .pointer (some ⟨v, 0, none⟩)] w fun e w' => e = .returned (.bool true) ∧ Below w.heap.size w w' := by
  go_enter Try.func18, Try.ntmps18
  go_wp2_with fail
  refine (new_any w).mono ?_
  rintro e w0 ⟨b, rfl, hm, hb0⟩
  have HB0 := Lib.hid hb0
  have h1 := hm.at_same
  have h2 := h2.below hb0
  clear hm hb0
  obtain ⟨m1, A1, n1, c1, x1, y1, S1, b1, a1⟩ := h1
  obtain ⟨m2, A2, n2, c2, x2, y2, S2, b2, a2⟩ := h2
  obtain ⟨rs, ra, rb, _⟩ := a1
  obtain ⟨qs, qa, qb, _⟩ := a2
  obtain ⟨A1', c1', e1⟩ := rb.form
  obtain ⟨A2', c2', e2⟩ := qb.form
  cases e1
  cases e2
  repeat' (first
    | go_values
    | go_skip
    | go_guarded
    | ((fail_if_success (with_reducible refine drawn_mark ?_))
       first
         | go_step
         | go_upon
         | go_back
         | (simp only [Int.not_lt, Int.not_le] at *; go_simp)
         | (go_values <;> (try go_simp))
         | (go_ite <;> go_prune <;> (try go_simp))
         | (split <;> (first | (rename_i hx; exact (hx _ rfl).elim) | go_prune))))
  obtain ⟨C, hC, hC0, hCB, hCK, hCd⟩ := cls_below w0
  have f0 : ∀ W, C W → W.cell? ⟨b, 0, none⟩ = some (.map (some m1)) := fun W hW => (b1.below (hCB W hW) b1.lt).at_ rfl
  have f1 : ∀ W, C W → W.cell? ⟨b, 1, none⟩ = some (.slice A1 rs.length c1) := fun W hW => (b1.below (hCB W hW) b1.lt).at_ rfl
  have f2 : ∀ W, C W → W.cell? ⟨v, 0, none⟩ = some (.map (some m2)) := fun W hW => (b2.below (hCB W hW) b2.lt).at_ rfl
  have f3 : ∀ W, C W → W.cell? ⟨v, 1, none⟩ = some (.slice A2 qs.length c2) := fun W hW => (b2.below (hCB W hW) b2.lt).at_ rfl
  have HE : Hid (∀ W, C W → Calls Try.prog 36 #[.map (some m1), .map (some m2)] W fun e w' => e = .returned (.bool true) ∧ Below W.heap.size W w') :=
    Lib.hid fun W hW => equal_same (D := emp.live) (N := 0) (M := M) (MapT.same ra ((hCB W hW).block _ (World.ownsMap.lt ra))) (MapT.same qa ((hCB W hW).block _ (World.ownsMap.lt qa)))
  have HF : Hid (∀ W, C W → Calls Try.prog 37 #[.slice A1 rs.length c1, .slice A2 qs.length c2, .func (.func 38) #[] #[]] W fun e w' => e = .returned (.bool true) ∧ Below W.heap.size W w') :=
    Lib.hid fun W hW => eqf_any (rb.below (hCB W hW)) (qb.below (hCB W hW))
  clear b1 b2 ra rb qa qb hC0 hCd
  refine wp_region_cls C (by kernel_rfl) (by kernel_rfl) hC ?_
  repeat (first
    | go_big_quiet_skip
    | (go_big_quiet_want
       go_big_quiet_op
       first
         | go_big_quiet_on
         | (apply Exists.intro
            refine ⟨fun W hW => ?_, ?_⟩
            · first
                | exact rfl
                | exact ⟨rfl, rfl⟩
                | (have e0 := f0 W hW; have e1 := f1 W hW; have e2 := f2 W hW; have e3 := f3 W hW; simp only [e0, e1, e2, e3, Result.andThen_ok]; done)
                | (have e0 := f0 W hW; have e1 := f1 W hW; have e2 := f2 W hW; have e3 := f3 W hW; simp only [e0, e1, e2, e3, Result.andThen_ok]; first | exact ⟨trivial, rfl⟩ | exact rfl | exact ⟨rfl, rfl⟩)
                | ((first | (refine (HE.out W hW).mono ?_; rintro e w' ⟨rfl, hb⟩; exact ⟨rfl, hCK _ _ hW hb⟩) | (refine (HF.out W hW).mono ?_; rintro e w' ⟨rfl, hb⟩; exact ⟨rfl, hCK _ _ hW hb⟩)))
            go_big_quiet_on)))
  refine wpQuiet_nil ?_
  intro w1 hw1
  have HB := Lib.hid (keep_below (hCB w1 hw1) HB0.out)
  clear f0 f1 f2 f3 hC hCB hCK hw1 HE HF
  go_wp2_with fail
  go_ret
  exact ⟨rfl, HB.out⟩

theorem of_nil (snap : Int) (w : World) : Calls Try.prog 35 #[.pointer none, .int .i64 snap] w fun e w' => e = .returned (.tuple #[.map none, .int .i64 11]) ∧ w = w' := by
  go_enter Try.func35, Try.ntmps35
  go_wp2_with fail
  go_ret2
  exact ⟨rfl, rfl⟩
theorem read_nil (snap id off size : Int) (w : World) : Calls Try.prog 12 #[.pointer none, .int .i64 snap, .int .i64 id, .int .i64 off, .int .i64 size] w fun e w' => e = .returned (.tuple #[str [], .int .i64 11]) ∧ w = w' := by
  go_enter Try.func12, Try.ntmps12
  go_wp2_with fail
  refine (may_nil id w).mono ?_
  rintro e w1 ⟨rfl, rfl⟩
  go_wp2_with fail
  go_ret2
  exact ⟨rfl, rfl⟩
theorem list_nil (snap : Int) (w : World) : Calls Try.prog 21 #[.pointer none, .int .i64 snap] w fun e w' => e = .returned (.tuple #[.slice none 0 0, .int .i64 11]) ∧ w = w' := by
  go_enter Try.func21, Try.ntmps21
  go_wp2_with fail
  refine (of_nil snap w).mono ?_
  rintro e w1 ⟨rfl, rfl⟩
  go_wp2_with fail
  go_ret2
  exact ⟨rfl, rfl⟩
theorem snaps_nil (w : World) : Calls Try.prog 22 #[.pointer none] w fun e w' => e = .returned (.slice none 0 0) ∧ w = w' := by
  go_enter Try.func22, Try.ntmps22
  go_wp2_with fail
  go_ret
  exact ⟨rfl, rfl⟩
end Go.Proofs.Ytckicdbiiepngaa
