/-
  Package model: find, found, Rollback.
-/
import Derived.Test.YtckicdbiiepngaaMod11
namespace Go.Proofs.Ytckicdbiiepngaa
set_option linter.unusedVariables false
set_option linter.unusedSimpArgs false
open Go.RowKit Go.Maps Go.Lib Go.Shelf

theorem find1_any {w : World} {g : Nat} {x : Int} (hx : w.cell? ⟨g, 0, none⟩ = some (.int .i64 x)) (r : Int) (m : Nat) : Calls Try.prog 54 #[.agg #[.int .i64 r, .map (some m)], .pointer (some ⟨g, 0, none⟩)] w fun e w' => ∃ b, e = .returned (.bool b) ∧ Below w.heap.size w w' := by
  have hx2 : ∀ X, (w.alloc X).cell? ⟨g, 0, none⟩ = some (.int .i64 x) := fun X => cell_alloc hx X
  go_enter Try.func54, Try.ntmps54
  go_wp2_with fail
  go_ret
  exact ⟨_, rfl, keep_alloc (Below.refl _ _) _⟩

set_option maxRecDepth 20000 in
theorem idx_any {w : World} {A : Option Addr} {c1 g : Nat} {x : Int} {rs : List (Int × Nat)} {ss : List (Int × DT)} {N : Nat} (h1 : RowIn w (.slice A rs.length c1) rs ss N) (hx : w.cell? ⟨g, 0, none⟩ = some (.int .i64 x)) (hg : g < w.heap.size) :
    Calls Try.prog 53 #[.slice A rs.length c1, .func (.func 54) #[] #[.pointer (some ⟨g, 0, none⟩)]] w fun e w' => ∃ i : Int, e = .returned (.int .i64 i) ∧ (i = -1 ∨ (0 ≤ i ∧ i < rs.length)) ∧ Below w.heap.size w w' := by
  have H1 := Lib.hid h1
  have HX := Lib.hid hx
  have few := h1.few
  clear h1 hx
  go_enter Try.func53, Try.ntmps53
  go_wp2_with fail
  go_loopw [5, 8] (fun _ t wr => ∃ k : Nat, k ≤ rs.length ∧ t = .int .i64 k ∧ Below w.heap.size w wr) (fun _ t _ => rs.length - (intOf t).toNat)
  case atStart => exact ⟨0, Nat.zero_le _, rfl, Below.refl _ _⟩
  case round =>
    obtain ⟨k, hk, rfl, hb⟩ := hrel
    have HB := Lib.hid hb
    by_cases hlt : k < rs.length
    · obtain ⟨r, hr⟩ : ∃ r, rs[k]? = some r := ⟨_, List.getElem?_eq_getElem hlt⟩
      have hr1 := H1.out.below hb
      obtain ⟨g1, rfl⟩ : ∃ gv, A = some ⟨gv, 0, none⟩ := by
        rcases hr1.row.2 with ⟨_, h0⟩ | ⟨b, cap, cur, he, _⟩
        · omega
        · cases he; exact ⟨b, rfl⟩
      have hat1 := rowC_at rs k r hr
      have a1 := hr1.row.cells (g := g1) rfl _ _ hat1.1
      have a2 := hr1.row.cells (g := g1) rfl _ _ hat1.2
      rw [Addr.add_mid, Nat.zero_add] at a1 a2
      have hxr : wr.cell? ⟨g, 0, none⟩ = some (.int .i64 x) := (World.cell?_of_block (hb.block g hg)).trans HX.out
      have HXR := Lib.hid hxr
      have hdc : decide (k < rs.length) = true := decide_eq_true hlt
      have HLT := Lib.hid hlt
      clear hr1 hat1 hr hb hxr
      go_wp2_with fail
      refine (find1_any HXR.out _ _).mono ?_
      rintro e w1 ⟨q, rfl, hb1⟩
      have HB1 := Lib.hid (keep_below hb1 HB.out)
      clear hb1 a1 a2
      cases q with
      | true =>
        go_wp2_with fail
        go_ret
        exact ⟨_, rfl, .inr ⟨by omega, by have := HLT.out; omega⟩, HB1.out⟩
      | false =>
        go_wp2_with fail
        go_roundw
        case rel => exact ⟨k + 1, HLT.out, by go_num, HB1.out⟩
        case measure => have := HLT.out; simp [intOf]; omega
    · obtain rfl : k = rs.length := by omega
      have hdc : decide ((rs.length : Int) < rs.length) = false := decide_eq_false (by omega)
      go_wp2_with fail
      go_ret
      exact ⟨_, rfl, .inl rfl, HB.out⟩

theorem find_any {w : World} {S : Nat → Prop} {b : Nat} {d : ModD} {N : Nat} (h : ModAt w S b d N) (id : Int) :
    Calls Try.prog 46 #[.pointer (some ⟨b, 0, none⟩), .int .i64 id] w fun e w' => ∃ i : Int, e = .returned (.int .i64 i) ∧ (i = -1 ∨ (0 ≤ i ∧ i < d.now.snaps.length)) ∧ Below w.heap.size w w' := by
  obtain ⟨m1, A1, n1, c1, m2, A2, n2, c2, S1, S2, h1, h2, _⟩ := h
  obtain ⟨rs, _, hr, _⟩ := h2
  obtain ⟨A1', c1', he⟩ := hr.form
  cases he
  have hlen := hr.len
  have HL := Lib.hid hlen
  have hb : Blk (w.alloc (.cells #[.int .i64 id] 3)) b _ _ := h1.below (keep_alloc (Below.refl _ _) _) h1.lt
  have c1 := hb.at_ (i := 1) rfl
  have HR := Lib.hid (hr.below (keep_alloc (Below.refl _ w) (.cells #[.int .i64 id] 3)))
  clear hr hlen hb h1
  go_enter Try.func46, Try.ntmps46
  go_wp2_with fail
  refine (idx_any HR.out (x := id) (one_new w _ _ 0 _ rfl) (by simp)).mono ?_
  rintro e w1 ⟨i, rfl, hi, hb1⟩
  rw [HL.out] at hi
  have HB := Lib.hid (keep_below hb1 (keep_alloc (Below.refl _ w) _))
  have HI := Lib.hid hi
  clear hb1 c1 hi
  go_wp2_with fail
  go_ret
  exact ⟨_, rfl, HI.out, HB.out⟩
theorem found_any {w : World} {S : Nat → Prop} {b : Nat} {d : ModD} {N : Nat} (h : ModAt w S b d N) (id : Int) :
    Calls Try.prog 47 #[.pointer (some ⟨b, 0, none⟩), .int .i64 id] w fun e w' => ((∃ i : Nat, i < d.now.snaps.length ∧ e = .returned (.tuple #[.int .i64 i, .int .i64 0])) ∨ e = .returned (.tuple #[.int .i64 0, .int .i64 7])) ∧ Below w.heap.size w w' := by
  have H := Lib.hid h
  clear h
  go_enter Try.func47, Try.ntmps47
  go_wp2_with fail
  refine (find_any H.out id).mono ?_
  rintro e w1 ⟨i, rfl, hi, hb1⟩
  have HB := Lib.hid hb1
  clear hb1
  rcases hi with rfl | ⟨h0, hi⟩
  · go_wp2_with fail
    go_ret2
    exact ⟨.inr rfl, HB.out⟩
  · obtain ⟨k, rfl⟩ := Int.eq_ofNat_of_zero_le h0
    have hk : k < d.now.snaps.length := by omega
    have HK := Lib.hid hk
    have hd : decide ((k : Int) < 0) = false := decide_eq_false (by omega)
    clear hi hk h0
    go_wp2_with fail
    go_ret2
    exact ⟨.inl ⟨k, HK.out, rfl⟩, HB.out⟩

theorem Act1.below {w w' : World} {S : Nat → Prop} {b : Nat} {d : ModD} {N : Nat} (h : ModAt w S b d N) (hb : Below w.heap.size w w') (er : Int) : Act1 w w' S b d N er := ⟨d, (h.grow hb).monoN (by omega), Only.of_below hb, rfl, fun _ => rfl⟩

set_option maxRecDepth 20000 in
theorem rollback_any {w : World} {S : Nat → Prop} {b : Nat} {d : ModD} {N : Nat} (h : ModAt w S b d N) (id : Int) :
    Calls Try.prog 29 #[.pointer (some ⟨b, 0, none⟩), .int .i64 id] w fun e w' => ∃ er, e = .returned (.int .i64 er) ∧ Act1 w w' S b d N er := by
  have H := Lib.hid h
  have HF := Lib.hid (found_any h id)
  clear h
  go_enter Try.func29, Try.ntmps29
  go_wp2_with fail
  refine HF.out.mono ?_
  rintro e w1 ⟨⟨i, hi, rfl⟩ | rfl, hb1⟩
  · have HB1 := Lib.hid hb1
    have h := H.out.below hb1
    have hlt := H.out.lt
    obtain ⟨m1, A1, n1, c1, m2, A2, n2, c2, S1, S2, h1, h2, h3, h4, h5, h6, h7⟩ := h
    have h2' := h2
    obtain ⟨rs, hl, hr, hm1, hrs, hrb, hnd⟩ := h2
    obtain ⟨A1', c1', he⟩ := hr.form
    cases he
    have hir : i < rs.length := by rw [hr.len]; exact hi
    obtain ⟨r, hri⟩ : ∃ r, rs[i]? = some r := ⟨_, List.getElem?_eq_getElem hir⟩
    obtain ⟨p, hpi⟩ : ∃ p, d.now.snaps[i]? = some p := ⟨_, List.getElem?_eq_getElem hi⟩
    obtain ⟨g1, rfl⟩ : ∃ gv, A1 = some ⟨gv, 0, none⟩ := by
      rcases hr.row.2 with ⟨_, h0⟩ | ⟨b, cap, cur, he, _⟩
      · omega
      · cases he; exact ⟨b, rfl⟩
    have a2 := hr.row.cells (g := g1) rfl _ _ (rowC_at rs i r hri).2
    rw [Addr.add_mid, Nat.zero_add] at a2
    have k1 := h1.at_ (i := 1) rfl
    have hmp := hr.maps i r p hri hpi
    have HMP := Lib.hid hmp
    have few := hr.few
    have hdi : decide (i < rs.length) = true := decide_eq_true hir
    have HX1 := Lib.hid h1
    have HALL := Lib.hid (And.intro h3 (And.intro h4 (And.intro h5 (And.intro h6 h7))))
    have HR := Lib.hid (And.intro hl (And.intro hr (And.intro hm1 (And.intro hrs (And.intro hrb hnd)))))
    clear hb1 h1 h2' hl hr hm1 hrs hrb hnd hi hri hpi hmp h3 h4 h5 h6 h7 hlt
    go_wp2_with fail
    refine (clone_any HMP.out).mono ?_
    rintro e w2 ⟨rfl, hm2, hs2, hb2⟩
    have hk2 := HX1.out.below hb2 HX1.out.lt
    have z0 := hk2.fr 0
    have c0 := hk2.at_ (i := 0) rfl
    have HM2 := Lib.hid hm2
    have HS2 := Lib.hid hs2
    have HB2 := Lib.hid hb2
    have HK2 := Lib.hid hk2
    clear hm2 hs2 hb2 hk2 k1 a2
    go_wp2_with fail
    obtain ⟨w3, hw3⟩ : ∃ x, x = w2.setCell ⟨b, 0, none⟩ (.map (some w1.heap.size)) := ⟨_, rfl⟩
    have hk3 : Blk w3 b 63 #[.map (some w1.heap.size), .slice (some ⟨g1, 0, none⟩) rs.length c1, .map (some m2), .slice A2 n2 c2] := by rw [hw3]; exact HK2.out.put 0 _
    have g3 : ∀ i, i ≠ b → w3.heap[i]? = w2.heap[i]? := fun i hi => by rw [hw3]; exact Below.heap_setCell _ ⟨b, 0, none⟩ _ i hi
    have hs3 : w3.heap.size = w2.heap.size := by rw [hw3]; simp [World.setCell]
    have ho : Only S w w3 := by rw [hw3]; exact ((Only.of_below HB1.out).then_below HB2.out).set (.inl H.out.has) _
    rw [← hw3]
    go_ret
    obtain ⟨h3, h4, h5, h6, h7⟩ := HALL.out
    obtain ⟨hl, hr, hm1, hrs, hrb, hnd⟩ := HR.out
    have q1 := HB1.out.size
    have q2 := HS2.out
    have q3 := HX1.out.lt
    refine ⟨_, rfl, ⟨⟨⟨p.2, d.now.snaps⟩, d.kept⟩, ⟨w1.heap.size, _, _, _, m2, A2, n2, c2, fun i => (S1 i ∧ i < w1.heap.size) ∨ i = w1.heap.size, fun i => S2 i ∧ i < w1.heap.size, hk3, ⟨rs, ?_, ?_, .inr rfl, fun r hr' => .inl ⟨hrs r hr', hr.lt.2 r hr'⟩, fun x hx => .inl ⟨hrb x hx, hr.lt.1 x hx⟩, ?_⟩, ?_, ?_, ?_, .inl H.out.has, ?_⟩, ho, rfl, fun h => absurd rfl h⟩⟩
    · exact World.ownsMap.mono (MapT.same HM2.out (g3 _ (by omega))) (by omega)
    · exact ((hr.below HB2.out).same (fun x hx => g3 x (h4 x (hrb x hx)).2.1) (fun r hr' => g3 _ (h4 _ (hrs r hr')).2.1)).monoN (by omega)
    · rw [List.nodup_cons] at hnd ⊢
      refine ⟨fun hmem => ?_, hnd.2⟩
      obtain ⟨r', hr', e⟩ := List.mem_map.1 hmem
      have := hr.lt.2 r' hr'
      omega
    · exact ((h3.mono (T := fun i => S2 i ∧ i < w1.heap.size) (fun i a c => ⟨c, a⟩)).below HB2.out).same (fun i hi _ => g3 i (h5 i hi.1).2) |>.monoN (by omega)
    · intro i hi
      rcases hi with hi | rfl
      · exact ⟨.inl (h4 i hi.1).1, (h4 i hi.1).2.1, fun h => (h4 i hi.1).2.2 h.1⟩
      · exact ⟨.inr ⟨by omega, by omega⟩, by omega, fun h => by omega⟩
    · intro i hi; exact ⟨.inl (h5 i hi.1).1, (h5 i hi.1).2⟩
    · intro i hi
      rcases hi with hi | hi
      · have := H.out.lt i hi; omega
      · exact hi.2
  · have HB1 := Lib.hid hb1
    clear hb1
    go_wp2_with fail
    go_ret
    exact ⟨_, rfl, Act1.below H.out HB1.out _⟩
end Go.Proofs.Ytckicdbiiepngaa
