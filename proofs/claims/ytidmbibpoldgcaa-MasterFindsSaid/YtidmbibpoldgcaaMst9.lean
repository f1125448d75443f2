/-
  Layer 17: Find.
-/
import Derived.Test.YtidmbibpoldgcaaMst8
namespace Go.Proofs.Ytidmbibpoldgcaa
set_option linter.unusedVariables false
set_option linter.unusedSimpArgs false
open Go.RowKit

/-- The first place of a number, or -1. -/
def IsFst (ss : List SnapA) (id : Int) (i : Int) : Prop :=
  (i = -1 ∧ ∀ (j : Nat) x, ss[j]? = some x → x.id ≠ id) ∨ (∃ k : Nat, i = k ∧ (∃ x, ss[k]? = some x ∧ x.id = id) ∧ ∀ (j : Nat) x, j < k → ss[j]? = some x → x.id ≠ id)
theorem IsFst.uniq {ss : List SnapA} {id a b : Int} (h : IsFst ss id a) (g : IsFst ss id b) : a = b := by
  rcases h with ⟨rfl, h⟩ | ⟨k, rfl, ⟨x, hx, hi⟩, h⟩
  · rcases g with ⟨rfl, _⟩ | ⟨k, rfl, ⟨x, hx, hi⟩, _⟩
    · rfl
    · exact absurd hi (h k x hx)
  · rcases g with ⟨rfl, g⟩ | ⟨m, rfl, ⟨y, hy, hj⟩, g⟩
    · exact absurd hi (g k x hx)
    · by_cases h1 : k < m
      · exact absurd hi (g k x h1 hx)
      · by_cases h2 : m < k
        · exact absurd hj (h m y h2 hy)
        · have : k = m := by omega
          rw [this]
theorem IsFst.range {ss : List SnapA} {id a : Int} (h : IsFst ss id a) : a = -1 ∨ (0 ≤ a ∧ a < ss.length) := by
  rcases h with ⟨rfl, _⟩ | ⟨k, rfl, ⟨x, hx, _⟩, _⟩
  · exact .inl rfl
  · have := (List.getElem?_eq_some_iff.1 hx).1
    exact .inr ⟨by omega, by omega⟩

theorem mfind1_any {w : World} {g : Nat} {id : Int} (hx : w.cell? ⟨g, 0, none⟩ = some (.int .i64 id)) (x : SnapA) : Calls Try.prog 19 #[.agg #[.int .i64 x.id, .int .i64 x.txg, .int .i64 x.n, .int .i64 x.p.ag, .int .i64 x.p.aa, .int .i64 x.p.bg, .int .i64 x.p.ba, .bool x.p.two, .int .i64 x.p.size, .int .i64 x.p.level, .int .i64 x.p.birth, .int .u64 x.p.s0, .int .u64 x.p.s1, .int .u64 x.p.s2, .int .u64 x.p.s3], .pointer (some ⟨g, 0, none⟩)] w fun e w' => e = .returned (.bool (decide (x.id = id))) ∧ Below w.heap.size w w' := by
  have hx2 : ∀ X, (w.alloc X).cell? ⟨g, 0, none⟩ = some (.int .i64 id) := fun X => cell_alloc hx X
  obtain ⟨w1, hw1⟩ : ∃ y, w.alloc (.cells #[.int .i64 x.id, .int .i64 x.txg, .int .i64 x.n, .int .i64 x.p.ag, .int .i64 x.p.aa, .int .i64 x.p.bg, .int .i64 x.p.ba, .bool x.p.two, .int .i64 x.p.size, .int .i64 x.p.level, .int .i64 x.p.birth, .int .u64 x.p.s0, .int .u64 x.p.s1, .int .u64 x.p.s2, .int .u64 x.p.s3] 47) = y := ⟨_, rfl⟩
  have c0 : w1.cell? ⟨w.heap.size, 0, none⟩ = some (.int .i64 x.id) := by rw [← hw1]; exact (Blk.new w _ _).at_ rfl
  have c1 : w1.cell? ⟨g, 0, none⟩ = some (.int .i64 id) := by rw [← hw1]; exact hx2 _
  have HB : Hid (Below w.heap.size w w1) := Lib.hid (by rw [← hw1]; exact keep_alloc (Below.refl _ _) _)
  clear hx2 hx
  by_cases h : x.id = id
  · have hb : (x.id == id) = true := by rw [beq_iff_eq]; exact h
    rw [decide_eq_true h]
    clear h
    go_enter Try.func19, Try.ntmps19
    go_wp2_with fail
    go_ret
    exact ⟨rfl, HB.out⟩
  · have hb : (x.id == id) = false := by rw [beq_eq_false_iff_ne]; exact h
    rw [decide_eq_false h]
    clear h
    go_enter Try.func19, Try.ntmps19
    go_wp2_with fail
    go_ret
    exact ⟨rfl, HB.out⟩

set_option maxRecDepth 20000 in
theorem midx_any {w : World} {ss : List SnapA} {sv : Value} {g : Nat} {id : Int} (h1 : RowAt w sv ss.length (snapC ss)) (f1 : ss.length ≤ 30) (hx : w.cell? ⟨g, 0, none⟩ = some (.int .i64 id)) (hg : g < w.heap.size) :
    Calls Try.prog 18 #[sv, .func (.func 19) #[] #[.pointer (some ⟨g, 0, none⟩)]] w fun e w' => ∃ i : Int, e = .returned (.int .i64 i) ∧ IsFst ss id i ∧ Below w.heap.size w w' := by
  obtain ⟨A, c1, rfl⟩ := h1.form
  have H1 := Lib.hid h1
  have HX := Lib.hid hx
  clear h1 hx
  go_enter Try.func18, Try.ntmps18
  go_wp2_with fail
  go_loopw [5, 8] (fun _ t wr => ∃ k : Nat, k ≤ ss.length ∧ t = .int .i64 k ∧ Below w.heap.size w wr ∧ ∀ (j : Nat) x, j < k → ss[j]? = some x → x.id ≠ id) (fun _ t _ => ss.length - (RowKit.intOf t).toNat)
  case atStart => exact ⟨0, Nat.zero_le _, rfl, Below.refl _ _, fun j x hj => absurd hj (Nat.not_lt_zero _)⟩
  case round =>
    obtain ⟨k, hk, rfl, hb, hal⟩ := hrel
    have HB := Lib.hid hb
    have HAL := Lib.hid hal
    by_cases hlt : k < ss.length
    · obtain ⟨b, oo, rfl, hbl, hcell⟩ := H1.out.cells (by omega)
      obtain ⟨x, hx⟩ : ∃ x, ss[k]? = some x := ⟨_, List.getElem?_eq_getElem hlt⟩
      have hs1 : ∀ j u, j < 15 → (snapL x)[j]? = some u → wr.cell? ⟨b, oo + k * 15 + j, none⟩ = some u := fun j u hj hu => by
        rw [Nat.add_assoc]
        exact (World.cell?_of_block (hb.block b hbl)).trans <| hcell _ _ ((flat_at snapL 15 (fun _ => rfl) ss k x hx j hj).trans hu)
      have f0 : wr.cell? ⟨b, oo + k * 15, none⟩ = some (.int .i64 x.id) := hs1 0 _ (by omega) rfl
      have f1 : wr.cell? ⟨b, oo + k * 15 + 1, none⟩ = some (.int .i64 x.txg) := hs1 1 _ (by omega) rfl
      have f2 : wr.cell? ⟨b, oo + k * 15 + 2, none⟩ = some (.int .i64 x.n) := hs1 2 _ (by omega) rfl
      have f3 : wr.cell? ⟨b, oo + k * 15 + 3, none⟩ = some (.int .i64 x.p.ag) := hs1 3 _ (by omega) rfl
      have f4 : wr.cell? ⟨b, oo + k * 15 + 4, none⟩ = some (.int .i64 x.p.aa) := hs1 4 _ (by omega) rfl
      have f5 : wr.cell? ⟨b, oo + k * 15 + 5, none⟩ = some (.int .i64 x.p.bg) := hs1 5 _ (by omega) rfl
      have f6 : wr.cell? ⟨b, oo + k * 15 + 6, none⟩ = some (.int .i64 x.p.ba) := hs1 6 _ (by omega) rfl
      have f7 : wr.cell? ⟨b, oo + k * 15 + 7, none⟩ = some (.bool x.p.two) := hs1 7 _ (by omega) rfl
      have f8 : wr.cell? ⟨b, oo + k * 15 + 8, none⟩ = some (.int .i64 x.p.size) := hs1 8 _ (by omega) rfl
      have f9 : wr.cell? ⟨b, oo + k * 15 + 9, none⟩ = some (.int .i64 x.p.level) := hs1 9 _ (by omega) rfl
      have f10 : wr.cell? ⟨b, oo + k * 15 + 10, none⟩ = some (.int .i64 x.p.birth) := hs1 10 _ (by omega) rfl
      have f11 : wr.cell? ⟨b, oo + k * 15 + 11, none⟩ = some (.int .u64 x.p.s0) := hs1 11 _ (by omega) rfl
      have f12 : wr.cell? ⟨b, oo + k * 15 + 12, none⟩ = some (.int .u64 x.p.s1) := hs1 12 _ (by omega) rfl
      have f13 : wr.cell? ⟨b, oo + k * 15 + 13, none⟩ = some (.int .u64 x.p.s2) := hs1 13 _ (by omega) rfl
      have f14 : wr.cell? ⟨b, oo + k * 15 + 14, none⟩ = some (.int .u64 x.p.s3) := hs1 14 _ (by omega) rfl
      have hxr : wr.cell? ⟨g, 0, none⟩ = some (.int .i64 id) := (World.cell?_of_block (hb.block g hg)).trans HX.out
      have HXR := Lib.hid hxr
      have hdc : decide (k < ss.length) = true := decide_eq_true hlt
      have HLT := Lib.hid hlt
      have HXX := Lib.hid hx
      clear hs1 hcell hx hb hxr hal hbl
      go_wp2_with fail
      refine (mfind1_any HXR.out x).mono ?_
      rintro e w1 ⟨rfl, hb1⟩
      have HB1 := Lib.hid (keep_below hb1 HB.out)
      clear hb1 f0 f2 f3 f4 f5 f6 f7 f8 f9 f10 f11 f12 f13 f14
      by_cases he : x.id = id
      · rw [decide_eq_true he]
        have HE := Lib.hid he
        clear he
        go_wp2_with fail
        go_ret
        exact ⟨_, rfl, .inr ⟨k, rfl, ⟨x, HXX.out, HE.out⟩, HAL.out⟩, HB1.out⟩
      · rw [decide_eq_false he]
        have HE := Lib.hid he
        clear he
        go_wp2_with fail
        go_roundw
        case rel =>
          refine ⟨k + 1, HLT.out, by go_num, HB1.out, fun j y hj hy => ?_⟩
          by_cases e : j < k
          · exact HAL.out j y e hy
          · obtain rfl : j = k := by omega
            have h2 := HXX.out
            rw [hy] at h2
            cases h2
            exact HE.out
        case measure => have := HLT.out; simp [RowKit.intOf]; omega
    · obtain rfl : k = ss.length := by omega
      have hdc : decide ((ss.length : Int) < ss.length) = false := decide_eq_false (by omega)
      clear hb hal
      go_wp2_with fail
      go_ret
      exact ⟨_, rfl, .inl ⟨rfl, fun j x hx => HAL.out j x (List.getElem?_eq_some_iff.1 hx).1 hx⟩, HB.out⟩

set_option maxRecDepth 20000 in
theorem mfind_any (s : StA) (sv tv : Value) (id : Int) (w : World) (h : StIn w s sv tv) (f1 : s.snaps.length ≤ 30) :
    Calls Try.prog 12 #[.agg (stC s sv tv), .int .i64 id] w fun e w' => ∃ i : Int, IsFst s.snaps id i ∧ e = .returned (.tuple #[.int .i64 (max i 0), .bool (decide (0 ≤ i))]) ∧ Below w.heap.size w w' := by
  obtain ⟨A1, c1, rfl⟩ := h.snaps.form
  obtain ⟨cA, hcA⟩ : ∃ x, x = stC s (.slice A1 s.snaps.length c1) tv := ⟨_, rfl⟩
  rw [← hcA]
  obtain ⟨w1, hw1⟩ : ∃ x, (w.alloc (.cells cA 43)).alloc (.cells #[.int .i64 id] 3) = x := ⟨_, rfl⟩
  have B1 : Blk w1 w.heap.size 43 cA := by rw [← hw1]; exact (Blk.new _ _ _).alloc _
  have B2 : Blk w1 (w.heap.size + 1) 3 #[.int .i64 id] := by rw [← hw1]; exact Blk.new2 w _ _ _
  have d1 : Below w.heap.size w w1 := by rw [← hw1]; exact keep_alloc (keep_alloc (Below.refl _ _) _) _
  rw [hcA] at B1
  have e13 : w1.cell? ⟨w.heap.size, 13, none⟩ = some (.slice A1 s.snaps.length c1) := B1.at_ rfl
  have c0 : w1.cell? ⟨w.heap.size + 1, 0, none⟩ = some (.int .i64 id) := B2.at_ rfl
  have HI := Lib.hid (midx_any (h.snaps.below d1) f1 c0 B2.lt)
  have HD := Lib.hid d1
  clear hcA B1 B2 d1 h c0
  go_enter Try.func12, Try.ntmps12
  go_wp2_with fail
  refine HI.out.mono ?_
  rintro e w2 ⟨i, rfl, hi, hb2⟩
  have HF := Lib.hid hi
  have HB := Lib.hid (keep_below hb2 HD.out)
  clear hb2 HI e13 hi
  go_wp2_with fail
  go_ret2
  exact ⟨i, HF.out, rfl, HB.out⟩
end Go.Proofs.Ytidmbibpoldgcaa
