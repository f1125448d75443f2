/-
  Maps of texts, held against each other; Same, of any two worlds.
-/
import Derived.Test.YtckicdbiiepngaaCp1
namespace Go.Proofs.Ytckicdbiiepngaa
set_option linter.unusedVariables false
set_option linter.unusedSimpArgs false
open Go.RowKit Go.Maps Go.Lib Go.Shelf

section
variable {w w' : World} {b c N M : Nat} {D D1 D2 : DT}
theorem mapT_ints (h : MapT w b N D) : ∀ k, has D k = true → ∃ x, k = .int .i64 x := by
  obtain ⟨es, rfl, hko⟩ := World.ownsMap.keysOf h
  intro k hk
  rw [has_eq, List.any_eq_true] at hk
  obtain ⟨p, hp, hs⟩ := hk
  obtain ⟨v, hv⟩ := hko p hp
  obtain ⟨x, _, hx, _⟩ := Maps.keyOf_i64 Try.underlying3 hv
  rw [hx] at hs
  cases k <;> simp [Lit.sameKey] at hs
  rename_i q y
  exact ⟨y, by rw [← hs.1]⟩
theorem mapT_keys (h : MapT w b N D) : (intKeys D).Nodup ∧ (∀ x, x ∈ intKeys D ↔ has D (.int .i64 x) = true) ∧ size D = (intKeys D).length := by
  obtain ⟨es, rfl, hpw, _⟩ := World.ownsMap.entries h kint
  obtain ⟨es', hD', hko⟩ := World.ownsMap.keysOf h
  obtain rfl : es = es' := by simpa using hD'
  have hko : ∀ p ∈ es, ∃ x, p.1 = .int .i64 x := fun p hp => by obtain ⟨v, hv⟩ := hko p hp; obtain ⟨x, _, hx, _⟩ := Maps.keyOf_i64 Try.underlying3 hv; exact ⟨x, hx⟩
  refine ⟨?_, fun x => ?_, by simp [size, intKeys]⟩
  · show (es.map fun p => Go.intOf p.1).Nodup
    refine List.pairwise_map.2 (hpw.imp_of_mem fun {p q} hp' hq' hne e => hne ?_)
    obtain ⟨a, ha⟩ := hko p hp'
    obtain ⟨b, hb⟩ := hko q hq'
    rw [ha, hb] at e ⊢
    exact congrArg _ e
  · rw [has_eq, List.any_eq_true]
    show x ∈ es.map (fun p => Go.intOf p.1) ↔ _
    rw [List.mem_map]
    constructor
    · rintro ⟨p, hp', rfl⟩
      obtain ⟨a, ha⟩ := hko p hp'
      exact ⟨p, hp', by rw [ha]; simp [Lit.sameKey, Go.intOf]⟩
    · rintro ⟨p, hp', hs⟩
      obtain ⟨a, ha⟩ := hko p hp'
      rw [ha] at hs
      exact ⟨p, hp', by rw [ha]; simpa [Lit.sameKey, Go.intOf] using hs⟩
theorem mapT_at (h : MapT w b N D) {k : Int} (hk : has D (.int .i64 k) = true) : ∀ z, D.atKey (.int .i64 k) z = .lit (.string (txt D k)) := by
  have ht := texts h
  obtain ⟨es, rfl, _, _⟩ := World.ownsMap.canon h kint
  intro z
  unfold txt
  rw [has_eq] at hk
  simp only [DataW.atKey]
  cases hf : es.find? (fun p => p.1.sameKey (.int .i64 k)) with
  | none =>
    rw [List.find?_eq_none] at hf
    rw [List.any_eq_true] at hk
    obtain ⟨p, hp, hs⟩ := hk
    exact absurd hs (hf p hp)
  | some p =>
    obtain ⟨s, hs⟩ := ht p (List.mem_of_find?_eq_some hf)
    simp only [hs]
theorem mapT_ext (h1 : MapT w b N D1) (h2 : MapT w' c M D2) (hh : ∀ k : Int, has D1 (.int .i64 k) = has D2 (.int .i64 k)) (ht : ∀ k : Int, has D1 (.int .i64 k) = true → txt D1 k = txt D2 k) : D1 = D2 := by
  have hall : ∀ k, has D1 k = has D2 k := fun k => by
    cases e1 : has D1 k with
    | true =>
      obtain ⟨x, rfl⟩ := mapT_ints h1 k e1
      rw [← hh x, e1]
    | false =>
      cases e2 : has D2 k with
      | false => rfl
      | true =>
        obtain ⟨x, rfl⟩ := mapT_ints h2 k e2
        rw [hh x, e2] at e1; cases e1
  refine Maps.ext (World.ownsMap.canon h1 kint) (World.ownsMap.canon h2 kint) hall (fun k z hk => ?_)
  obtain ⟨x, rfl⟩ := mapT_ints h1 k hk
  rw [mapT_at h1 hk, mapT_at h2 (by rw [← hh x]; exact hk), ht x hk]
theorem sub_full : ∀ (l1 l2 : List Int), l1.Nodup → (∀ x ∈ l1, x ∈ l2) → l2.length ≤ l1.length → ∀ y ∈ l2, y ∈ l1
  | [], l2, _, _, h, y, hy => by
    have : l2 = [] := List.length_eq_zero_iff.1 (by simpa using h)
    rw [this] at hy; cases hy
  | x :: l1, l2, nd, sub, h, y, hy => by
    rw [List.nodup_cons] at nd
    have hx : x ∈ l2 := sub x (by simp)
    have hl := List.length_erase_of_mem hx
    have hpos : 0 < l2.length := List.length_pos_of_mem hx
    by_cases e : y = x
    · subst e; simp
    · refine List.mem_cons_of_mem _ (sub_full l1 (l2.erase x) nd.2 (fun z hz => ?_) (by rw [hl]; simp at h; omega) y ((List.mem_erase_of_ne e).2 hy))
      have hzx : z ≠ x := fun e => nd.1 (e ▸ hz)
      exact (List.mem_erase_of_ne hzx).2 (sub z (by simp [hz]))
theorem eqT_iff (s t : List UInt8) : eqT (.lit (.string s)) (.lit (.string t)) = true ↔ s = t := by
  show ((⟨s.toArray⟩ : ByteArray).toList == (⟨t.toArray⟩ : ByteArray).toList) = true ↔ _
  simp
theorem eqD_iff (h1 : MapT w b N D1) (h2 : MapT w' c M D2) : equalFuncD eqT D1 D2 = true ↔ D1 = D2 := by
  constructor
  · intro h
    unfold equalFuncD at h
    rw [Bool.and_eq_true, decide_eq_true_eq, List.all_eq_true] at h
    obtain ⟨hs, hall⟩ := h
    obtain ⟨nd1, m1, z1⟩ := mapT_keys h1
    obtain ⟨nd2, m2, z2⟩ := mapT_keys h2
    have good : ∀ k : Int, has D1 (.int .i64 k) = true → has D2 (.int .i64 k) = true ∧ txt D1 k = txt D2 k := fun k hk => by
      have hk' := hk
      have at1 := mapT_at h1 hk .nil
      have hmem : (Lit.int .i64 k, (.lit (.string (txt D1 k)) : DT)) ∈ entriesD D1 := by
        obtain ⟨es, rfl, _, _⟩ := World.ownsMap.canon h1 kint
        rw [has_eq, List.any_eq_true] at hk
        simp only [DataW.atKey] at at1
        cases hf : es.find? (fun p => p.1.sameKey (.int .i64 k)) with
        | none =>
          rw [List.find?_eq_none] at hf
          obtain ⟨p, hp, hs⟩ := hk
          exact absurd hs (hf p hp)
        | some p =>
          rw [hf] at at1
          simp only at at1
          have hp := List.mem_of_find?_eq_some hf
          have hsk := List.find?_some hf
          have e1 : p.1 = .int .i64 k := by
            cases hpk : p.1 <;> rw [hpk] at hsk <;> simp [Lit.sameKey] at hsk
            rw [hsk.1, hsk.2]
          show (_, _) ∈ es
          rw [← e1, ← at1]; exact hp
      have g := hall _ hmem
      unfold goodD at g
      rw [Bool.and_eq_true] at g
      refine ⟨g.1, ?_⟩
      have g2 := g.2
      rw [mapT_at h2 g.1] at g2
      exact (eqT_iff _ _).1 g2
    have back := sub_full (intKeys D1) (intKeys D2) nd1 (fun x hx => (m2 x).2 (good x ((m1 x).1 hx)).1) (by rw [← z1, ← z2, hs]; exact Nat.le_refl _)
    refine mapT_ext h1 h2 (fun k => ?_) (fun k hk => (good k hk).2)
    cases e1 : has D1 (.int .i64 k) with
    | true => exact (good k e1).1.symm
    | false =>
      cases e2 : has D2 (.int .i64 k) with
      | false => rfl
      | true =>
        have := (m1 k).1 (back k ((m2 k).2 e2))
        rw [this] at e1; cases e1
  · rintro rfl
    exact equal_self h1

/-- All numbers are in range. -/
def InR (D : DT) : Prop := ∀ k : Int, has D (.int .i64 k) = true → 0 ≤ k ∧ k < 32
theorem setL_inj (h1 : MapT w b N D1) (h2 : MapT w' c M D2) (r1 : InR D1) (r2 : InR D2) (h : setL D1 = setL D2) : D1 = D2 := by
  have hb : ∀ i : Nat, i < 32 → has D1 (.int .i64 i) = has D2 (.int .i64 i) ∧ txt D1 i = txt D2 i := fun i hi => by
    have e1 : (setL D1)[i]? = (setL D2)[i]? := by rw [h]
    have e2 : (setL D1)[32 + i]? = (setL D2)[32 + i]? := by rw [h]
    rw [setL_b hi, setL_b hi] at e1
    rw [setL_s hi, setL_s hi] at e2
    exact ⟨by simpa using e1, by simpa [str] using e2⟩
  refine mapT_ext h1 h2 (fun k => ?_) (fun k hk => ?_)
  · by_cases hk : 0 ≤ k ∧ k < 32
    · obtain ⟨i, rfl⟩ := Int.eq_ofNat_of_zero_le hk.1
      exact (hb i (by omega)).1
    · cases e1 : has D1 (.int .i64 k) with
      | true => exact absurd (r1 k e1) hk
      | false =>
        cases e2 : has D2 (.int .i64 k) with
        | true => exact absurd (r2 k e2) hk
        | false => rfl
  · have := r1 k hk
    obtain ⟨i, rfl⟩ := Int.eq_ofNat_of_zero_le this.1
    exact (hb i (by omega)).2
end

/-- A call that tells whether p. -/
def Tells (w : World) (p : Prop) (e : Ending) (w' : World) : Prop := ∃ q : Bool, e = .returned (.bool q) ∧ (q = true ↔ p) ∧ Below w.heap.size w w'
theorem exists_bool (p : Prop) : ∃ q : Bool, q = true ↔ p := by classical exact ⟨decide p, decide_eq_true_iff⟩
theorem Tells.fix {w w' : World} {p : Prop} {e : Ending} {q : Bool} (hq : q = true ↔ p) (h : Tells w p e w') : e = .returned (.bool q) ∧ Below w.heap.size w w' := by
  obtain ⟨q', rfl, h1, h2⟩ := h
  refine ⟨?_, h2⟩
  have : q' = q := by rw [Bool.eq_iff_iff, h1, hq]
  rw [this]
theorem equal_two {b c N M : Nat} {D1 D2 : DT} {w : World} (h1 : MapT w b N D1) (h2 : MapT w c M D2) :
    Calls Try.prog 36 #[.map (some b), .map (some c)] w fun e w' => Tells w (D1 = D2) e w' :=
  (equal_opt (srcOf h1) (srcOf h2)).mono fun e w' ⟨he, hg⟩ => ⟨_, he, eqD_iff h1 h2, (Below.refl _ _).grown hg (Nat.le_refl _) (fun k hk => by cases hk)⟩

theorem same1_two {b c N M : Nat} {D1 D2 : DT} {id id2 : Int} {w : World} (h1 : MapT w b N D1) (h2 : MapT w c M D2) :
    Calls Try.prog 38 #[.agg #[.int .i64 id, .map (some b)], .agg #[.int .i64 id2, .map (some c)]] w fun e w' => Tells w (id = id2 ∧ D1 = D2) e w' := by
  have H1 := Lib.hid h1
  have H2 := Lib.hid h2
  have HB0 := Lib.hid (keep_alloc (keep_alloc (Below.refl _ w) (.cells #[.int .i64 id, .map (some b)] 75)) (.cells #[.int .i64 id2, .map (some c)] 75))
  clear h1 h2
  go_enter Try.func38, Try.ntmps38
  by_cases e : id = id2
  · subst e
    go_wp2_with fail
    refine (equal_two (D1 := D1) (D2 := D2) (N := N) (M := M) (MapT.same (MapT.same H1.out (Below.heap_alloc _ _ _ (World.ownsMap.lt H1.out))) (Below.heap_alloc _ _ _ (by have := World.ownsMap.lt H1.out; simp; omega))) (MapT.same (MapT.same H2.out (Below.heap_alloc _ _ _ (World.ownsMap.lt H2.out))) (Below.heap_alloc _ _ _ (by have := World.ownsMap.lt H2.out; simp; omega)))).mono ?_
    rintro e w1 ⟨q, rfl, hq, hb⟩
    have HB := Lib.hid (keep_below hb (keep_alloc (keep_alloc (Below.refl _ w) _) _))
    have HQ := Lib.hid hq
    clear hb hq
    go_wp2_with fail
    go_ret
    exact ⟨q, rfl, by simpa using HQ.out, HB.out⟩
  · have hbe : (id == id2) = false := beq_eq_false_iff_ne.2 e
    have HE := Lib.hid e
    clear e
    go_wp2_with fail
    go_ret
    exact ⟨false, rfl, by simp [HE.out], HB0.out⟩

set_option maxRecDepth 20000 in
theorem eqf_two {w : World} {A B : Option Addr} {c1 c2 : Nat} {rs qs : List (Int × Nat)} {ss tt : List (Int × DT)} {N M : Nat} (h1 : RowIn w (.slice A rs.length c1) rs ss N) (h2 : RowIn w (.slice B qs.length c2) qs tt M) :
    Calls Try.prog 37 #[.slice A rs.length c1, .slice B qs.length c2, .func (.func 38) #[] #[]] w fun e w' => Tells w (ss = tt) e w' := by
  by_cases hlen : rs.length = qs.length
  · rw [← hlen] at h2 ⊢
    have H1 := Lib.hid h1
    have H2 := Lib.hid h2
    have HL := Lib.hid hlen.symm
    have HLS : Hid (ss.length = tt.length ∧ ss.length = rs.length) := Lib.hid (by rw [← h1.len, ← h2.len, hlen]; exact ⟨rfl, rfl⟩)
    have few := h1.few
    clear h1 h2 hlen
    go_enter Try.func37, Try.ntmps37
    go_wp2_with fail
    go_loopw [7, 8, 9, 17] (fun _ _ _ t wr => ∃ k : Nat, k ≤ rs.length ∧ t = .int .i64 k ∧ Below w.heap.size w wr ∧ ss.take k = tt.take k) (fun _ _ _ t _ => rs.length - (intOf t).toNat)
    case atStart => exact ⟨0, Nat.zero_le _, rfl, Below.refl _ _, by simp⟩
    case round =>
      obtain ⟨k, hk, rfl, hb, hal⟩ := hrel
      have HB := Lib.hid hb
      have HAL := Lib.hid hal
      clear hal
      by_cases hlt : k < rs.length
      · obtain ⟨r, hr⟩ : ∃ r, rs[k]? = some r := ⟨_, List.getElem?_eq_getElem hlt⟩
        obtain ⟨q, hq⟩ : ∃ q, qs[k]? = some q := ⟨_, List.getElem?_eq_getElem (by rw [HL.out]; exact hlt)⟩
        obtain ⟨p, hp⟩ : ∃ p, ss[k]? = some p := ⟨_, List.getElem?_eq_getElem (by rw [← H1.out.len]; exact hlt)⟩
        obtain ⟨p', hp'⟩ : ∃ p, tt[k]? = some p := ⟨_, List.getElem?_eq_getElem (by have := HLS.out; omega)⟩
        have hr1 := H1.out.below hb
        have hr2 : RowIn wr (.slice B qs.length c2) qs tt M := by
          rw [HL.out]; exact H2.out.below hb
        obtain ⟨g1, rfl⟩ : ∃ gv, A = some ⟨gv, 0, none⟩ := by
          rcases hr1.row.2 with ⟨_, h0⟩ | ⟨b, cap, cur, he, _⟩
          · omega
          · cases he; exact ⟨b, rfl⟩
        obtain ⟨g2, rfl⟩ : ∃ gv, B = some ⟨gv, 0, none⟩ := by
          rcases hr2.row.2 with ⟨_, h0⟩ | ⟨b, cap, cur, he, _⟩
          · have := HL.out; omega
          · cases he; exact ⟨b, rfl⟩
        have hat1 := rowC_at rs k r hr
        have hat2 := rowC_at qs k q hq
        have a1 := hr1.row.cells (g := g1) rfl _ _ hat1.1
        have a2 := hr1.row.cells (g := g1) rfl _ _ hat1.2
        have a3 := hr2.row.cells (g := g2) rfl _ _ hat2.1
        have a4 := hr2.row.cells (g := g2) rfl _ _ hat2.2
        rw [Addr.add_mid, Nat.zero_add] at a1 a2 a3 a4
        have l1 := hr1.lt.1 g1 rfl
        have l2 := hr2.lt.1 g2 rfl
        have HM1 := Lib.hid (hr1.maps k r p hr hp)
        have HM2 := Lib.hid (hr2.maps k q p' hq hp')
        have HPP : Hid ((r.1 = q.1 ∧ p.2 = p'.2) ↔ p = p') := Lib.hid (by
          have i1 := hr1.ids k r p hr hp
          have i2 := hr2.ids k q p' hq hp'
          constructor
          · rintro ⟨e1, e2⟩; exact Prod.ext (by rw [← i1, ← i2, e1]) e2
          · rintro rfl; exact ⟨by rw [i1, i2], rfl⟩)
        have HTK : Hid ((p = p' → ss.take (k + 1) = tt.take (k + 1)) ∧ (ss = tt → p = p')) := Lib.hid ⟨fun e => by
          rw [List.take_add_one, List.take_add_one, HAL.out, hp, hp', e], fun e => by rw [e, hp'] at hp; exact (Option.some.inj hp).symm⟩
        have hdc : decide (k < rs.length) = true := decide_eq_true hlt
        have HLT := Lib.hid hlt
        have HSZ := Lib.hid (And.intro l1 l2)
        clear hr1 hr2 hat1 hat2 hr hq hp hp' hb
        go_wp2_with fail
        refine (same1_two (id := r.1) (id2 := q.1) (D1 := p.2) (D2 := p'.2) (N := N) (M := M) (MapT.same (MapT.same HM1.out (Below.heap_alloc _ _ _ (World.ownsMap.lt HM1.out))) (Below.heap_alloc _ _ _ (by have := World.ownsMap.lt HM1.out; simp; omega))) (MapT.same (MapT.same HM2.out (Below.heap_alloc _ _ _ (World.ownsMap.lt HM2.out))) (Below.heap_alloc _ _ _ (by have := World.ownsMap.lt HM2.out; simp; omega)))).mono ?_
        rintro e w1 ⟨z, rfl, hz, hb1⟩
        have HB1 := Lib.hid (keep_below hb1 (keep_alloc (keep_alloc HB.out _) _))
        clear hb1
        cases z with
        | true =>
          have HT : Hid (p = p') := Lib.hid (HPP.out.1 (hz.1 rfl))
          clear hz
          go_wp2_with fail
          go_roundw
          case rel => exact ⟨k + 1, HLT.out, by go_num, HB1.out, HTK.out.1 HT.out⟩
          case measure => have := HLT.out; simp [intOf]; omega
        | false =>
          have HN : Hid (¬ ss = tt) := Lib.hid (fun e => by
            have := hz.2 (HPP.out.2 (HTK.out.2 e))
            cases this)
          clear hz
          go_wp2_with fail
          go_ret
          exact ⟨false, rfl, by simp [HN.out], HB1.out⟩
      · obtain rfl : k = rs.length := by omega
        have hdc : decide ((rs.length : Int) < rs.length) = false := decide_eq_false (by omega)
        have HE : Hid (ss = tt) := Lib.hid (by
          have h := HAL.out
          rwa [List.take_of_length_le (by have := HLS.out; omega), List.take_of_length_le (by have := HLS.out; omega)] at h)
        go_wp2_with fail
        go_ret
        exact ⟨true, rfl, by simp [HE.out], HB.out⟩
  · have HN : Hid (¬ ss = tt) := Lib.hid (fun e => hlen (by rw [h1.len, h2.len, e]))
    have hne : ((rs.length : Int) == qs.length) = false := beq_eq_false_iff_ne.2 (by omega)
    have hne2 : ((rs.length : Int) != qs.length) = true := bne_iff_ne.2 (by omega)
    have f1 := h1.few
    have f2 := h2.few
    clear h1 h2
    go_enter Try.func37, Try.ntmps37
    go_wp2_with fail
    go_ret
    exact ⟨false, rfl, by simp [HN.out], Below.refl _ _⟩
set_option maxRecDepth 20000 in
theorem same_two {w : World} {b v : Nat} {a1 a2 : AllA} {N M : Nat} (h1 : SameAt w b a1 N) (h2 : SameAt w v a2 M) :
    Calls Try.prog 18 #[.pointer (some ⟨b, 0, none⟩), .pointer (some ⟨v, 0, none⟩)] w fun e w' => Tells w (a1.live = a2.live ∧ a1.snaps = a2.snaps) e w' := by
  obtain ⟨m1, A1, n1, c1, x1, y1, S1, b1, q1⟩ := h1
  obtain ⟨m2, A2, n2, c2, x2, y2, S2, b2, q2⟩ := h2
  obtain ⟨rs, ra, rb, _⟩ := q1
  obtain ⟨qs, qa, qb, _⟩ := q2
  obtain ⟨A1', c1', e1⟩ := rb.form
  obtain ⟨A2', c2', e2⟩ := qb.form
  cases e1
  cases e2
  obtain ⟨z1, hz1⟩ := exists_bool (a1.live = a2.live)
  obtain ⟨z2, hz2⟩ := exists_bool (a1.snaps = a2.snaps)
  have HZ := Lib.hid (And.intro hz1 hz2)
  go_enter Try.func18, Try.ntmps18
  repeat' (first
    | go_values
    | go_skip
    | go_guarded
    | ((fail_if_success (with_reducible refine drawn_mark ?_))
       first
         | go_step
         | go_upon
         | go_back
         | (simp only [Int.not_lt, Int.not_le] at *; go_simp)
         | (go_values <;> (try go_simp))
         | (go_ite <;> go_prune <;> (try go_simp))
         | (split <;> (first | (rename_i hx; exact (hx _ rfl).elim) | go_prune))))
  obtain ⟨C, hC, hC0, hCB, hCK, hCd⟩ := cls_below w
  have f0 : ∀ W, C W → W.cell? ⟨b, 0, none⟩ = some (.map (some m1)) := fun W hW => (b1.below (hCB W hW) b1.lt).at_ rfl
  have f1 : ∀ W, C W → W.cell? ⟨b, 1, none⟩ = some (.slice A1 rs.length c1) := fun W hW => (b1.below (hCB W hW) b1.lt).at_ rfl
  have f2 : ∀ W, C W → W.cell? ⟨v, 0, none⟩ = some (.map (some m2)) := fun W hW => (b2.below (hCB W hW) b2.lt).at_ rfl
  have f3 : ∀ W, C W → W.cell? ⟨v, 1, none⟩ = some (.slice A2 qs.length c2) := fun W hW => (b2.below (hCB W hW) b2.lt).at_ rfl
  have HE : Hid (∀ W, C W → Calls Try.prog 36 #[.map (some m1), .map (some m2)] W fun e w' => e = .returned (.bool z1) ∧ Below W.heap.size W w') :=
    Lib.hid fun W hW => (equal_two (D1 := a1.live) (D2 := a2.live) (N := N) (M := M) (MapT.same ra ((hCB W hW).block _ (World.ownsMap.lt ra))) (MapT.same qa ((hCB W hW).block _ (World.ownsMap.lt qa)))).mono fun e w' h => h.fix hz1
  have HF : Hid (∀ W, C W → Calls Try.prog 37 #[.slice A1 rs.length c1, .slice A2 qs.length c2, .func (.func 38) #[] #[]] W fun e w' => e = .returned (.bool z2) ∧ Below W.heap.size W w') :=
    Lib.hid fun W hW => (eqf_two (rb.below (hCB W hW)) (qb.below (hCB W hW))).mono fun e w' h => h.fix hz2
  clear b1 b2 ra rb qa qb hC0 hCd hz1 hz2
  cases z1
  all_goals
    refine wp_region_cls C (by kernel_rfl) (by kernel_rfl) hC ?_
    repeat (first
      | go_big_quiet_skip
      | (go_big_quiet_want
         go_big_quiet_op
         first
           | go_big_quiet_on
           | (apply Exists.intro
              refine ⟨fun W hW => ?_, ?_⟩
              · first
                  | exact rfl
                  | exact ⟨rfl, rfl⟩
                  | (have e0 := f0 W hW; have e1 := f1 W hW; have e2 := f2 W hW; have e3 := f3 W hW; simp only [e0, e1, e2, e3, Result.andThen_ok]; done)
                  | (have e0 := f0 W hW; have e1 := f1 W hW; have e2 := f2 W hW; have e3 := f3 W hW; simp only [e0, e1, e2, e3, Result.andThen_ok]; first | exact ⟨trivial, rfl⟩ | exact rfl | exact ⟨rfl, rfl⟩)
                  | ((first | (refine (HE.out W hW).mono ?_; rintro e w' ⟨rfl, hb⟩; exact ⟨rfl, hCK _ _ hW hb⟩) | (refine (HF.out W hW).mono ?_; rintro e w' ⟨rfl, hb⟩; exact ⟨rfl, hCK _ _ hW hb⟩)))
              go_big_quiet_on)))
    refine wpQuiet_nil ?_
    intro w1 hw1
    have HB := Lib.hid (hCB w1 hw1)
    clear f0 f1 f2 f3 hC hCB hCK hw1 HE HF
    go_wp2_with fail
    go_ret
    first
      | exact ⟨false, rfl, by rw [← HZ.out.1]; simp, HB.out⟩
      | exact ⟨z2, rfl, by rw [← HZ.out.1, ← HZ.out.2]; simp, HB.out⟩
end Go.Proofs.Ytckicdbiiepngaa
