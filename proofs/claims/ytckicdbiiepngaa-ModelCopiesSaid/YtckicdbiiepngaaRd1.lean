/-
  Package model: what acts come to, just so.
-/
import Derived.Test.YtckicdbiiepngaaMod15
namespace Go.Proofs.Ytckicdbiiepngaa
set_option linter.unusedVariables false
set_option linter.unusedSimpArgs false
open Go.RowKit Go.Maps Go.Lib Go.Shelf

/-- The first place of a number. -/
def fstN : List Int → Int → Option Nat
  | [], _ => none
  | x :: l, id => if x = id then some 0 else (fstN l id).map (· + 1)
theorem fstN_some : ∀ {l : List Int} {id : Int} {k : Nat}, fstN l id = some k → l[k]? = some id ∧ ∀ j : Nat, j < k → l[j]? ≠ some id
  | [], _, _, h => by simp [fstN] at h
  | x :: l, id, k, h => by
    unfold fstN at h
    split at h
    · rename_i e
      simp at h
      subst h
      exact ⟨by simp [e], fun j hj => absurd hj (Nat.not_lt_zero _)⟩
    · rename_i e
      cases hq : fstN l id with
      | none => rw [hq] at h; simp at h
      | some q =>
        rw [hq] at h
        simp at h
        subst h
        obtain ⟨h1, h2⟩ := fstN_some hq
        refine ⟨by simpa using h1, fun j hj => ?_⟩
        cases j with
        | zero => simpa using e
        | succ j => simpa using h2 j (by omega)
theorem fstN_none : ∀ {l : List Int} {id : Int}, fstN l id = none → ∀ j : Nat, l[j]? ≠ some id
  | [], _, _, j => by simp
  | x :: l, id, h, j => by
    unfold fstN at h
    split at h
    · simp at h
    · rename_i e
      have hq : fstN l id = none := by simpa using h
      cases j with
      | zero => simpa using e
      | succ j => simpa using fstN_none hq j
theorem fstN_is {l : List Int} {id : Int} {k : Nat} (h : l[k]? = some id) (g : ∀ j : Nat, j < k → l[j]? ≠ some id) : fstN l id = some k := by
  cases hq : fstN l id with
  | none => exact absurd h (fstN_none hq k)
  | some q =>
    obtain ⟨h1, h2⟩ := fstN_some hq
    by_cases a : k < q
    · exact absurd h (h2 k a)
    · by_cases b : q < k
      · exact absurd h1 (g q b)
      · rw [show q = k by omega]
theorem fstN_no {l : List Int} {id : Int} (h : ∀ j : Nat, l[j]? ≠ some id) : fstN l id = none := by
  cases hq : fstN l id with
  | none => rfl
  | some q => exact absurd (fstN_some hq).1 (h q)
def fstI (l : List Int) (id : Int) : Int := match fstN l id with | some k => k | none => -1
def AllA.ids (a : AllA) : List Int := a.snaps.map Prod.fst
def truA (a : AllA) (id size : Int) : AllA := if hasE a.live id = 0 ∧ 0 ≤ size ∧ size ≤ 16384 then ⟨a.live.put (.int .i64 id) (.lit (.string (padT ((txt a.live id).take size.toNat) size.toNat))), a.snaps⟩ else a
def snaA (a : AllA) (id : Int) : AllA := if 0 ≤ id ∧ id ≤ 99 ∧ fstN a.ids id = none ∧ a.snaps.length < 4 then ⟨a.live, a.snaps ++ [(id, a.live)]⟩ else a
def desA (a : AllA) (id : Int) : AllA := match fstN a.ids id with | some k => ⟨a.live, a.snaps.eraseIdx k⟩ | none => a
def rolA (a : AllA) (id : Int) : AllA := match fstN a.ids id with | some k => ⟨(a.snaps.getD k (0, a.live)).2, a.snaps⟩ | none => a

def ActX (w w' : World) (S : Nat → Prop) (b : Nat) (d : ModD) (N : Nat) (a' : AllA) : Prop := ModAt w' (more S w w') b ⟨a', d.kept⟩ (N + 1) ∧ Only S w w'
theorem ActX.none {w : World} {S : Nat → Prop} {b : Nat} {d : ModD} {N : Nat} {a' : AllA} (h : ModAt w S b d N) (ha : a' = d.now) : ActX w w S b d N a' := by
  subst ha; exact ⟨h.stay, Only.refl _ _⟩
theorem ActX.below {w w' : World} {S : Nat → Prop} {b : Nat} {d : ModD} {N : Nat} {a' : AllA} (h : ModAt w S b d N) (hb : Below w.heap.size w w') (ha : a' = d.now) : ActX w w' S b d N a' := by
  subst ha; exact ⟨(h.grow hb).monoN (by omega), Only.of_below hb⟩

theorem cutx_runs (w : World) (o : List UInt8) (n : Nat) (hn : n ≤ 16384) : ∃ (c : Int) (w1 w2 : World), (padT (o.take n) n).length = n ∧
    (Instr.makeSlice 83 (.int .i64 n) (.int .i64 n)).run Try.prog w = .ok (.slice (some ⟨w.heap.size, 0, none⟩) n n) w1 ∧
    (Builtin.copy_ #[83, 9] 3 #[.slice (some ⟨w.heap.size, 0, none⟩) n n, str o]).run Try.prog w1 = .ok (.int .i64 c) w2 ∧
    (convert 83 9 (.slice (some ⟨w.heap.size, 0, none⟩) n n)).run Try.prog w2.drew = .ok (str (padT (o.take n) n)) w2.drew ∧ Below w.heap.size w w1 ∧ Below w.heap.size w w2 := by
  obtain ⟨w1, r1, hb1, hs1, hbel1⟩ := mk_bytes w n hn
  have hl : (o.take n).length ≤ n := by rw [List.length_take]; omega
  obtain ⟨w2, r2, hb2, hs2, hg2⟩ := cp_bytes hb1 0 (o.take n) (by rw [List.length_replicate]; omega) n n hl 3
  rw [lay_pad (o.take n) n hl] at hb2
  refine ⟨((o.take n).length : Int), w1, w2, padT_len hl, r1, ?_, conv_bytes (w := w2.drew) hb2 n n (padT_len hl).symm, hbel1, hbel1.grown hg2 (by omega) (fun j e => by cases e; omega)⟩
  by_cases hon : o.length ≤ n
  · rw [List.take_of_length_le hon] at r2 ⊢
    exact r2
  · exact (copy_cut o n n _ (by omega) _).trans r2

set_option maxRecDepth 20000 in
theorem truncate_x {w : World} {S : Nat → Prop} {b : Nat} {d : ModD} {N : Nat} (h : ModAt w S b d N) (hN : N ≤ 1000000) (id size : Int) :
    Calls Try.prog 26 #[.pointer (some ⟨b, 0, none⟩), .int .i64 id, .int .i64 size] w fun e w' => ∃ er, e = .returned (.int .i64 er) ∧ ActX w w' S b d N (truA d.now id size) := by
  have hH := Lib.hid h
  obtain ⟨m0, cs, hb, h0, hm0, _⟩ := h.live_at
  have HC := Lib.hid (has_any hb h0 hm0 id)
  obtain ⟨m, c0, hm, hbl, hput⟩ := h.live_put hN
  have HM := Lib.hid hm
  have HT := Lib.hid hput
  clear h hm hput hb h0 hm0
  go_enter Try.func26, Try.ntmps26
  go_wp2_with fail
  refine HC.out.mono ?_
  rintro e w1 ⟨rfl, rfl⟩
  by_cases hz : hasE d.now.live id = 0
  · have HZ := Lib.hid hz
    have hme : mayE id = 0 := by
      unfold hasE at hz
      split at hz
      · rename_i h; exact absurd hz h
      · rename_i h; simpa using h
    have hid := mayE_ok hme
    have HI := Lib.hid hid
    rw [hz]
    have hlk := MapT.look HM.out (k := id) (wfz_in (by omega) (by omega))
    have g0 := hlk.1
    have HO := Lib.hid hlk.2
    obtain ⟨o, htx⟩ : ∃ o, o = txt d.now.live id := ⟨_, rfl⟩
    rw [← htx] at g0 HO
    have HTX := Lib.hid htx
    clear hz hme hid hlk htx
    by_cases h1 : size < 0
    · have g1 : decide (size < 0) = true := decide_eq_true h1
      have HNO : Hid (truA d.now id size = d.now) := Lib.hid (by unfold truA; rw [if_neg (by omega)])
      go_wp2_with fail
      go_ret
      exact ⟨_, rfl, ActX.none hH.out HNO.out⟩
    · have g1 : decide (size < 0) = false := decide_eq_false h1
      by_cases h2 : 16384 < size
      · have g2 : decide (16384 < size) = true := decide_eq_true h2
        have HNO : Hid (truA d.now id size = d.now) := Lib.hid (by unfold truA; rw [if_neg (by omega)])
        go_wp2_with fail
        go_ret
        exact ⟨_, rfl, ActX.none hH.out HNO.out⟩
      · obtain ⟨n, rfl⟩ : ∃ n : Nat, size = n := ⟨size.toNat, by omega⟩
        have g2 : decide ((16384 : Int) < n) = false := decide_eq_false h2
        have g1 : decide ((n : Int) < 0) = false := decide_eq_false (by omega)
        have HYES : Hid (truA d.now id n = ⟨d.now.live.put (.int .i64 id) (.lit (.string (padT (o.take n) n))), d.now.snaps⟩) := Lib.hid (by unfold truA; rw [if_pos ⟨HZ.out, by omega, by omega⟩, ← HTX.out, Int.toNat_natCast])
        obtain ⟨c, w1, w2, hX, r1, r2, r3, hbel1, hbel2⟩ := cutx_runs w o n (by omega)
        generalize padT (o.take n) n = X at *
        obtain ⟨c1, hm1, _⟩ := HT.out w1 hbel1
        obtain ⟨c2, hm2, hst⟩ := HT.out w2.drew (below_drew hbel2)
        have c3 : w2.cell? ⟨b, 0, none⟩ = some (.map (some m)) := c2
        obtain ⟨w3, r4, hfin⟩ := hst id X HI.out (by omega)
        have hk1 := (MapT.look hm1 (k := id) (wfz_in (by have := HI.out; omega) (by have := HI.out; omega))).1
        rw [← HTX.out] at hk1
        have HF := Lib.hid hfin
        clear hm1 hm2 hst hfin hbel1 hbel2 h1 h2
        go_wp2_with fail
        refine wp_region_still_tail 8 (by kernel_rfl) (by kernel_rfl) ?_
        simp only [List.take_succ_cons, List.take_zero, List.drop_succ_cons, List.drop_zero]
        repeat still_step
        try refine wpStill_nil ?_
        change wpList _ _ _ _ _ w2.drew
        go_wp2_with fail
        go_ret
        exact ⟨_, rfl, by rw [HYES.out]; exact HF.out⟩
  · have hzz := Lib.hid hz
    have hor := hasE_or hz
    clear hz HC
    rcases hor with hr | hr
    all_goals
      have HR := Lib.hid hr
      rw [hr]
      clear hr
      go_wp2_with fail
      go_ret
      exact ⟨_, rfl, ActX.none hH.out (by unfold truA; rw [if_neg (fun h => hzz.out h.1)])⟩


theorem find1_x {w : World} {g : Nat} {x : Int} (hx : w.cell? ⟨g, 0, none⟩ = some (.int .i64 x)) (r : Int) (m : Nat) : Calls Try.prog 54 #[.agg #[.int .i64 r, .map (some m)], .pointer (some ⟨g, 0, none⟩)] w fun e w' => e = .returned (.bool (decide (r = x))) ∧ Below w.heap.size w w' := by
  have hx2 : ∀ X, (w.alloc X).cell? ⟨g, 0, none⟩ = some (.int .i64 x) := fun X => cell_alloc hx X
  have HR : Hid (decide (r = x) = (r == x)) := Lib.hid (by by_cases e : r = x <;> simp [e])
  go_enter Try.func54, Try.ntmps54
  go_wp2_with fail
  go_ret
  exact ⟨by rw [HR.out]; rfl, keep_alloc (Below.refl _ _) _⟩


set_option maxRecDepth 20000 in
theorem idx_x {w : World} {A : Option Addr} {c1 g : Nat} {x : Int} {rs : List (Int × Nat)} {ss : List (Int × DT)} {N : Nat} (h1 : RowIn w (.slice A rs.length c1) rs ss N) (hx : w.cell? ⟨g, 0, none⟩ = some (.int .i64 x)) (hg : g < w.heap.size) :
    Calls Try.prog 53 #[.slice A rs.length c1, .func (.func 54) #[] #[.pointer (some ⟨g, 0, none⟩)]] w fun e w' => e = .returned (.int .i64 (fstI (rs.map Prod.fst) x)) ∧ Below w.heap.size w w' := by
  have H1 := Lib.hid h1
  have HX := Lib.hid hx
  have few := h1.few
  clear h1 hx
  go_enter Try.func53, Try.ntmps53
  go_wp2_with fail
  go_loopw [5, 8] (fun _ t wr => ∃ k : Nat, k ≤ rs.length ∧ t = .int .i64 k ∧ Below w.heap.size w wr ∧ ∀ j : Nat, j < k → (rs.map Prod.fst)[j]? ≠ some x) (fun _ t _ => rs.length - (intOf t).toNat)
  case atStart => exact ⟨0, Nat.zero_le _, rfl, Below.refl _ _, fun j hj => absurd hj (Nat.not_lt_zero _)⟩
  case round =>
    obtain ⟨k, hk, rfl, hb, hal⟩ := hrel
    have HAL := Lib.hid hal
    clear hal
    have HB := Lib.hid hb
    by_cases hlt : k < rs.length
    · obtain ⟨r, hr⟩ : ∃ r, rs[k]? = some r := ⟨_, List.getElem?_eq_getElem hlt⟩
      have hr1 := H1.out.below hb
      obtain ⟨g1, rfl⟩ : ∃ gv, A = some ⟨gv, 0, none⟩ := by
        rcases hr1.row.2 with ⟨_, h0⟩ | ⟨b, cap, cur, he, _⟩
        · omega
        · cases he; exact ⟨b, rfl⟩
      have hat1 := rowC_at rs k r hr
      have a1 := hr1.row.cells (g := g1) rfl _ _ hat1.1
      have a2 := hr1.row.cells (g := g1) rfl _ _ hat1.2
      rw [Addr.add_mid, Nat.zero_add] at a1 a2
      have hxr : wr.cell? ⟨g, 0, none⟩ = some (.int .i64 x) := (World.cell?_of_block (hb.block g hg)).trans HX.out
      have HXR := Lib.hid hxr
      have hdc : decide (k < rs.length) = true := decide_eq_true hlt
      have HLT := Lib.hid hlt
      have HRK : Hid ((rs.map Prod.fst)[k]? = some r.1) := Lib.hid (by rw [List.getElem?_map, hr]; rfl)
      clear hr1 hat1 hr hb hxr
      go_wp2_with fail
      refine (find1_x HXR.out _ _).mono ?_
      rintro e w1 ⟨rfl, hb1⟩
      have HB1 := Lib.hid (keep_below hb1 HB.out)
      clear hb1 a1 a2
      by_cases hq : r.1 = x
      · rw [decide_eq_true hq]
        have HFI : Hid (fstI (rs.map Prod.fst) x = k) := Lib.hid (by unfold fstI; rw [fstN_is (by rw [HRK.out, hq]) HAL.out])
        clear hq
        go_wp2_with fail
        go_ret
        exact ⟨by rw [HFI.out]; rfl, HB1.out⟩
      · rw [decide_eq_false hq]
        have HQ := Lib.hid hq
        clear hq
        go_wp2_with fail
        go_roundw
        case rel =>
          refine ⟨k + 1, HLT.out, by go_num, HB1.out, fun j hj => ?_⟩
          by_cases e : j < k
          · exact HAL.out j e
          · obtain rfl : j = k := by omega
            rw [HRK.out]
            exact fun h => HQ.out (Option.some.inj h)
        case measure => have := HLT.out; simp [intOf]; omega
    · obtain rfl : k = rs.length := by omega
      have hdc : decide ((rs.length : Int) < rs.length) = false := decide_eq_false (by omega)
      go_wp2_with fail
      go_ret
      have hfi : fstI (rs.map Prod.fst) x = -1 := by
        unfold fstI
        rw [fstN_no fun j => ?_]
        by_cases e : j < rs.length
        · exact HAL.out j e
        · rw [List.getElem?_eq_none (by simp; omega)]; simp
      exact ⟨by rw [hfi]; rfl, HB.out⟩


theorem find_x {w : World} {S : Nat → Prop} {b : Nat} {d : ModD} {N : Nat} (h : ModAt w S b d N) (id : Int) :
    Calls Try.prog 46 #[.pointer (some ⟨b, 0, none⟩), .int .i64 id] w fun e w' => e = .returned (.int .i64 (fstI d.now.ids id)) ∧ Below w.heap.size w w' := by
  obtain ⟨m1, A1, n1, c1, m2, A2, n2, c2, S1, S2, h1, h2, _⟩ := h
  obtain ⟨rs, _, hr, _⟩ := h2
  obtain ⟨A1', c1', he⟩ := hr.form
  cases he
  have hlen := hr.len
  have HL : Hid (rs.map Prod.fst = d.now.ids) := Lib.hid (by
    unfold AllA.ids
    refine List.ext_getElem? fun j => ?_
    rw [List.getElem?_map, List.getElem?_map]
    by_cases e : j < rs.length
    · obtain ⟨r, hr1⟩ : ∃ r, rs[j]? = some r := ⟨_, List.getElem?_eq_getElem e⟩
      obtain ⟨p, hp1⟩ : ∃ p, d.now.snaps[j]? = some p := ⟨_, List.getElem?_eq_getElem (by rw [← hlen]; exact e)⟩
      rw [hr1, hp1]
      simp [hr.ids j r p hr1 hp1]
    · rw [List.getElem?_eq_none (by omega), List.getElem?_eq_none (by omega)]; rfl)
  have hb : Blk (w.alloc (.cells #[.int .i64 id] 3)) b _ _ := h1.below (keep_alloc (Below.refl _ _) _) h1.lt
  have c1 := hb.at_ (i := 1) rfl
  have HR := Lib.hid (hr.below (keep_alloc (Below.refl _ w) (.cells #[.int .i64 id] 3)))
  clear hr hlen hb h1
  go_enter Try.func46, Try.ntmps46
  go_wp2_with fail
  refine (idx_x HR.out (x := id) (one_new w _ _ 0 _ rfl) (by simp)).mono ?_
  rintro e w1 ⟨rfl, hb1⟩
  rw [HL.out]
  have HB := Lib.hid (keep_below hb1 (keep_alloc (Below.refl _ w) _))
  clear hb1 c1
  go_wp2_with fail
  go_ret
  exact ⟨rfl, HB.out⟩

theorem found_x {w : World} {S : Nat → Prop} {b : Nat} {d : ModD} {N : Nat} (h : ModAt w S b d N) (id : Int) :
    Calls Try.prog 47 #[.pointer (some ⟨b, 0, none⟩), .int .i64 id] w fun e w' => ((∃ i : Nat, fstN d.now.ids id = some i ∧ e = .returned (.tuple #[.int .i64 i, .int .i64 0])) ∨ (fstN d.now.ids id = none ∧ e = .returned (.tuple #[.int .i64 0, .int .i64 7]))) ∧ Below w.heap.size w w' := by
  have H := Lib.hid h
  clear h
  go_enter Try.func47, Try.ntmps47
  go_wp2_with fail
  refine (find_x H.out id).mono ?_
  rintro e w1 ⟨rfl, hb1⟩
  have HB := Lib.hid hb1
  clear hb1
  unfold fstI
  cases hf : fstN d.now.ids id with
  | none =>
    have HF := Lib.hid hf
    clear hf
    simp only
    go_wp2_with fail
    go_ret2
    exact ⟨.inr ⟨HF.out, rfl⟩, HB.out⟩
  | some k =>
    have HF := Lib.hid hf
    have hd : decide ((k : Int) < 0) = false := decide_eq_false (by omega)
    clear hf
    simp only
    go_wp2_with fail
    go_ret2
    exact ⟨.inl ⟨k, HF.out, rfl⟩, HB.out⟩

end Go.Proofs.Ytckicdbiiepngaa
