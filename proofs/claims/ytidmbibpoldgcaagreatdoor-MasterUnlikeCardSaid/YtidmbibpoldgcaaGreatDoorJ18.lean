/-
  Layer 17: what Right's predicates answer; ContainsFunc over snapshots, numbers, births.
-/
import Derived.Test.YtidmbibpoldgcaaGreatDoorJ15
import Derived.Test.YtidmbibpoldgcaaGreatDoorJ17
namespace Go.Proofs.YtidmbibpoldgcaaGreatDoor
set_option linter.unusedVariables false
set_option linter.unusedSimpArgs false
open Go.RowKit

theorem mwithin_any (n most : Int) (w : World) : Calls Tryz.prog 21 #[.int .i64 n, .int .i64 most] w fun e w' => e = .returned (.bool (inB most n)) ∧ Below w.heap.size w w' := by
  by_cases h1 : 0 ≤ n
  · have d1 : decide (0 ≤ n) = true := decide_eq_true h1
    by_cases h2 : n ≤ most
    · have d2 : decide (n ≤ most) = true := decide_eq_true h2
      have hv : Hid (inB most n = true) := Lib.hid (decide_eq_true ⟨h1, h2⟩)
      clear h1 h2
      go_enter Tryz.func21, Tryz.ntmps21
      go_wp2_with fail
      go_ret
      exact ⟨ret_bool hv.out.symm, Below.refl _ _⟩
    · have d2 : decide (n ≤ most) = false := decide_eq_false h2
      have hv : Hid (inB most n = false) := Lib.hid (decide_eq_false fun h => h2 h.2)
      clear h1 h2
      go_enter Tryz.func21, Tryz.ntmps21
      go_wp2_with fail
      go_ret
      exact ⟨ret_bool hv.out.symm, Below.refl _ _⟩
  · have d1 : decide (0 ≤ n) = false := decide_eq_false h1
    have hv : Hid (inB most n = false) := Lib.hid (decide_eq_false fun h => h1 h.1)
    clear h1
    go_enter Tryz.func21, Tryz.ntmps21
    go_wp2_with fail
    go_ret
    exact ⟨ret_bool hv.out.symm, Below.refl _ _⟩

theorem right1m_any (n : Int) (w : World) : Calls Tryz.prog 20 #[.int .i64 n] w fun e w' => e = .returned (.bool (!inCnt n)) ∧ Below w.heap.size w w' := by
  go_enter Tryz.func20, Tryz.ntmps20
  go_wp2_with fail
  refine (mwithin_any n 4611686018427387903 w).mono ?_
  rintro e w' ⟨rfl, hb⟩
  go_wp2_with fail
  go_ret
  exact ⟨rfl, hb⟩

set_option maxRecDepth 20000 in
theorem right2m_any (r : Int × Int) (w : World) : Calls Tryz.prog 23 #[.agg #[.int .i64 r.1, .int .i64 r.2]] w fun e w' => e = .returned (.bool (!rgOk r)) ∧ Below w.heap.size w w' := by
  obtain ⟨a, b⟩ := r
  simp only
  obtain ⟨w1, hw1⟩ : ∃ x, w.alloc (.cells #[.int .i64 a, .int .i64 b] 61) = x := ⟨_, rfl⟩
  have N1 : Blk w1 w.heap.size 61 #[.int .i64 a, .int .i64 b] := by rw [← hw1]; exact Blk.new _ _ _
  have HB1 : Hid (Below w.heap.size w w1) := Lib.hid (by rw [← hw1]; exact keep_alloc (Below.refl _ _) _)
  have HN1 := Lib.hid N1
  have c0 := N1.at_ (i := 0) rfl
  have c1 := N1.at_ (i := 1) rfl
  have HV : Hid (rgOk (a, b) = (inB 4294967295 a && (inB 4294967295 b && (decide (a ≤ b) && (a == 0) == (b == 0))))) := Lib.hid rfl
  have HWA : Hid (∀ W, Calls Tryz.prog 21 #[.int .i64 a, .int .i64 4294967295] W fun e w' => e = .returned (.bool (inB 4294967295 a)) ∧ Below W.heap.size W w') := Lib.hid (mwithin_any a 4294967295)
  have HWB : Hid (∀ W, Calls Tryz.prog 21 #[.int .i64 b, .int .i64 4294967295] W fun e w' => e = .returned (.bool (inB 4294967295 b)) ∧ Below W.heap.size W w') := Lib.hid (mwithin_any b 4294967295)
  clear N1
  generalize inB 4294967295 a = x at *
  generalize inB 4294967295 b = y at *
  generalize rgOk (a, b) = z at *
  go_enter Tryz.func23, Tryz.ntmps23
  go_wp2_with fail
  refine (HWA.out w1).mono ?_
  rintro e w2 ⟨rfl, hb2⟩
  have c0 := (HN1.out.below hb2 HN1.out.lt).at_ (i := 0) rfl
  have c1 := (HN1.out.below hb2 HN1.out.lt).at_ (i := 1) rfl
  have HN2 := Lib.hid (HN1.out.below hb2 HN1.out.lt)
  have HB2 := Lib.hid (keep_below hb2 HB1.out)
  clear hb2
  cases x with
  | false =>
    go_wp2_with fail
    go_ret
    exact ⟨by rw [HV.out]; rfl, HB2.out⟩
  | true =>
    go_wp2_with fail
    refine (HWB.out w2).mono ?_
    rintro e w3 ⟨rfl, hb3⟩
    have c0 := (HN2.out.below hb3 HN2.out.lt).at_ (i := 0) rfl
    have c1 := (HN2.out.below hb3 HN2.out.lt).at_ (i := 1) rfl
    have HB3 := Lib.hid (keep_below hb3 HB2.out)
    clear hb3
    cases y with
    | false =>
      go_wp2_with fail
      go_ret
      exact ⟨by rw [HV.out]; rfl, HB3.out⟩
    | true =>
      by_cases hab : a ≤ b
      · have d1 : decide (b < a) = false := decide_eq_false (by omega)
        have d2 : decide (a ≤ b) = true := decide_eq_true hab
        rw [d2] at HV
        clear hab d2
        cases h0 : (a == 0) <;> cases h1 : (b == 0)
        all_goals
          rw [h0, h1] at HV
          go_wp2_with fail
          go_ret
          exact ⟨by rw [HV.out]; rfl, HB3.out⟩
      · have d1 : decide (b < a) = true := decide_eq_true (by omega)
        have d2 : decide (a ≤ b) = false := decide_eq_false hab
        rw [d2] at HV
        clear hab d2
        go_wp2_with fail
        go_ret
        exact ⟨by rw [HV.out]; rfl, HB3.out⟩

theorem snaps1m_any {w : World} {g : Nat} {x : SnapA} (hx : Blk w g 75 #[.int .i64 x.id, .int .i64 x.txg, .int .i64 x.n, .int .i64 x.p.ag, .int .i64 x.p.aa, .int .i64 x.p.bg, .int .i64 x.p.ba, .bool x.p.two, .int .i64 x.p.size, .int .i64 x.p.level, .int .i64 x.p.birth, .int .u64 x.p.s0, .int .u64 x.p.s1, .int .u64 x.p.s2, .int .u64 x.p.s3]) (y : SnapA) : Calls Tryz.prog 41 #[.agg #[.int .i64 y.id, .int .i64 y.txg, .int .i64 y.n, .int .i64 y.p.ag, .int .i64 y.p.aa, .int .i64 y.p.bg, .int .i64 y.p.ba, .bool y.p.two, .int .i64 y.p.size, .int .i64 y.p.level, .int .i64 y.p.birth, .int .u64 y.p.s0, .int .u64 y.p.s1, .int .u64 y.p.s2, .int .u64 y.p.s3], .pointer (some ⟨g, 0, none⟩)] w fun e w' => e = .returned (.bool (y.id == x.id)) ∧ Below w.heap.size w w' := by
  obtain ⟨w1, hw1⟩ : ∃ z, w.alloc (.cells #[.int .i64 y.id, .int .i64 y.txg, .int .i64 y.n, .int .i64 y.p.ag, .int .i64 y.p.aa, .int .i64 y.p.bg, .int .i64 y.p.ba, .bool y.p.two, .int .i64 y.p.size, .int .i64 y.p.level, .int .i64 y.p.birth, .int .u64 y.p.s0, .int .u64 y.p.s1, .int .u64 y.p.s2, .int .u64 y.p.s3] 75) = z := ⟨_, rfl⟩
  have c0 : w1.cell? ⟨w.heap.size, 0, none⟩ = some (.int .i64 y.id) := by rw [← hw1]; exact (Blk.new w _ _).at_ rfl
  have c1 : w1.cell? ⟨g, 0, none⟩ = some (.int .i64 x.id) := by rw [← hw1]; exact (hx.alloc _).at_ rfl
  have HB : Hid (Below w.heap.size w w1) := Lib.hid (by rw [← hw1]; exact keep_alloc (Below.refl _ _) _)
  clear hx
  cases hb : (y.id == x.id)
  all_goals
    go_enter Tryz.func41, Tryz.ntmps41
    go_wp2_with fail
    go_ret
    exact ⟨rfl, HB.out⟩

theorem goesR1 : Goes 20 := enters_of Tryz.func20 (by kernel_rfl) (by kernel_rfl)
theorem goesR2 : Goes 23 := enters_of Tryz.func23 (by kernel_rfl) (by kernel_rfl)
theorem goesS1 : Goes 41 := enters_of Tryz.func41 (by kernel_rfl) (by kernel_rfl)

def intL1 (x : Int) : List Value := [.int .i64 x]
/-- What a predicate answers, wherever it is called. -/
def IsPred {α : Type} (E : α → Value) (fn : FuncId) (caps : Array Value) (p : α → Bool) (w0 : World) : Prop :=
  ∀ (x : α) (w : World), Below w0.heap.size w0 w → Calls Tryz.prog fn (#[E x] ++ caps) w fun e w' => e = .returned (.bool (p x)) ∧ Below w.heap.size w w'

set_option maxRecDepth 20000 in
theorem idxS_any (fn : FuncId) (caps : Array Value) {w : World} {ss : List SnapA} {sv : Value} (p : SnapA → Bool) (h1 : RowAt w sv ss.length (ss.flatMap snapL)) (f1 : ss.length ≤ 100) (hgo : Goes fn) (hp : IsPred (fun x => Value.agg #[.int .i64 x.id, .int .i64 x.txg, .int .i64 x.n, .int .i64 x.p.ag, .int .i64 x.p.aa, .int .i64 x.p.bg, .int .i64 x.p.ba, .bool x.p.two, .int .i64 x.p.size, .int .i64 x.p.level, .int .i64 x.p.birth, .int .u64 x.p.s0, .int .u64 x.p.s1, .int .u64 x.p.s2, .int .u64 x.p.s3]) fn caps p w) :
    Calls Tryz.prog 54 #[sv, .func (.func fn) #[] caps] w fun e w' => e = .returned (.int .i64 (firstAt p ss)) ∧ Below w.heap.size w w' := by
  obtain ⟨A, c1, rfl⟩ := h1.form
  have H1 := Lib.hid h1
  have HP := Lib.hid hp
  clear h1 hp
  unfold Goes at hgo
  go_enter Tryz.func54, Tryz.ntmps54
  go_wp2_with fail
  go_loopw [5, 8] (fun _ t wr => ∃ k : Nat, k ≤ ss.length ∧ t = .int .i64 k ∧ Below w.heap.size w wr ∧ ∀ j, j < k → ∀ x, ss[j]? = some x → p x = false) (fun _ t _ => ss.length - (RowKit.intOf t).toNat)
  case atStart => exact ⟨0, Nat.zero_le _, rfl, Below.refl _ _, fun j hj => absurd hj (Nat.not_lt_zero _)⟩
  case round =>
    obtain ⟨k, hk, rfl, hb, hal⟩ := hrel
    have HB := Lib.hid hb
    have HAL := Lib.hid hal
    by_cases hlt : k < ss.length
    · obtain ⟨b, oo, rfl, hbl, hcell⟩ := H1.out.cells (by omega)
      obtain ⟨x, hx⟩ : ∃ x, ss[k]? = some x := ⟨_, List.getElem?_eq_getElem hlt⟩
      have hs1 : ∀ j u, j < 15 → (snapL x)[j]? = some u → wr.cell? ⟨b, oo + k * 15 + j, none⟩ = some u := fun j u hj hu => by
        rw [Nat.add_assoc]
        exact (World.cell?_of_block (hb.block b hbl)).trans <| hcell _ _ ((flat_at snapL 15 (fun _ => rfl) ss k x hx j hj).trans hu)
      have f0 : wr.cell? ⟨b, oo + k * 15, none⟩ = some (.int .i64 x.id) := hs1 0 _ (by omega) rfl
      have f1 : wr.cell? ⟨b, oo + k * 15 + 1, none⟩ = some (.int .i64 x.txg) := hs1 1 _ (by omega) rfl
      have f2 : wr.cell? ⟨b, oo + k * 15 + 2, none⟩ = some (.int .i64 x.n) := hs1 2 _ (by omega) rfl
      have f3 : wr.cell? ⟨b, oo + k * 15 + 3, none⟩ = some (.int .i64 x.p.ag) := hs1 3 _ (by omega) rfl
      have f4 : wr.cell? ⟨b, oo + k * 15 + 4, none⟩ = some (.int .i64 x.p.aa) := hs1 4 _ (by omega) rfl
      have f5 : wr.cell? ⟨b, oo + k * 15 + 5, none⟩ = some (.int .i64 x.p.bg) := hs1 5 _ (by omega) rfl
      have f6 : wr.cell? ⟨b, oo + k * 15 + 6, none⟩ = some (.int .i64 x.p.ba) := hs1 6 _ (by omega) rfl
      have f7 : wr.cell? ⟨b, oo + k * 15 + 7, none⟩ = some (.bool x.p.two) := hs1 7 _ (by omega) rfl
      have f8 : wr.cell? ⟨b, oo + k * 15 + 8, none⟩ = some (.int .i64 x.p.size) := hs1 8 _ (by omega) rfl
      have f9 : wr.cell? ⟨b, oo + k * 15 + 9, none⟩ = some (.int .i64 x.p.level) := hs1 9 _ (by omega) rfl
      have f10 : wr.cell? ⟨b, oo + k * 15 + 10, none⟩ = some (.int .i64 x.p.birth) := hs1 10 _ (by omega) rfl
      have f11 : wr.cell? ⟨b, oo + k * 15 + 11, none⟩ = some (.int .u64 x.p.s0) := hs1 11 _ (by omega) rfl
      have f12 : wr.cell? ⟨b, oo + k * 15 + 12, none⟩ = some (.int .u64 x.p.s1) := hs1 12 _ (by omega) rfl
      have f13 : wr.cell? ⟨b, oo + k * 15 + 13, none⟩ = some (.int .u64 x.p.s2) := hs1 13 _ (by omega) rfl
      have f14 : wr.cell? ⟨b, oo + k * 15 + 14, none⟩ = some (.int .u64 x.p.s3) := hs1 14 _ (by omega) rfl
      have hdc : decide (k < ss.length) = true := decide_eq_true hlt
      have HLT := Lib.hid hlt
      have HXX := Lib.hid hx
      clear hs1 hcell hx hb hal hbl
      go_wp2_with fail
      refine (HP.out x wr HB.out).mono ?_
      rintro e w1 ⟨rfl, hb1⟩
      have HB1 := Lib.hid (keep_below hb1 HB.out)
      clear hb1
      cases hpx : p x with
      | true =>
        have HE := Lib.hid hpx
        clear hpx
        go_wp2_with fail
        go_ret
        exact ⟨ret_int (firstAt_hit HXX.out HE.out HAL.out).symm, HB1.out⟩
      | false =>
        have HE := Lib.hid hpx
        clear hpx
        go_wp2_with fail
        go_roundw
        case rel =>
          refine ⟨k + 1, HLT.out, by go_num, HB1.out, fun j hj y hy => ?_⟩
          by_cases e : j < k
          · exact HAL.out j e y hy
          · obtain rfl : j = k := by omega
            have h2 := HXX.out
            rw [hy] at h2
            cases h2
            exact HE.out
        case measure => have := HLT.out; simp [RowKit.intOf]; omega
    · obtain rfl : k = ss.length := by omega
      have hdc : decide ((ss.length : Int) < ss.length) = false := decide_eq_false (by omega)
      clear hb hal
      go_wp2_with fail
      go_ret
      exact ⟨ret_int (firstAt_miss HAL.out).symm, HB.out⟩
theorem conS_any (fn : FuncId) (caps : Array Value) {w : World} {ss : List SnapA} {sv : Value} (p : SnapA → Bool) (h1 : RowAt w sv ss.length (ss.flatMap snapL)) (f1 : ss.length ≤ 100) (hgo : Goes fn) (hp : IsPred (fun x => Value.agg #[.int .i64 x.id, .int .i64 x.txg, .int .i64 x.n, .int .i64 x.p.ag, .int .i64 x.p.aa, .int .i64 x.p.bg, .int .i64 x.p.ba, .bool x.p.two, .int .i64 x.p.size, .int .i64 x.p.level, .int .i64 x.p.birth, .int .u64 x.p.s0, .int .u64 x.p.s1, .int .u64 x.p.s2, .int .u64 x.p.s3]) fn caps p w) :
    Calls Tryz.prog 40 #[sv, .func (.func fn) #[] caps] w fun e w' => e = .returned (.bool (ss.any p)) ∧ Below w.heap.size w w' := by
  have H := Lib.hid (idxS_any fn caps p h1 f1 hgo hp)
  clear hp hgo h1
  go_enter Tryz.func40, Tryz.ntmps40
  go_wp2_with fail
  refine H.out.mono ?_
  rintro e w1 ⟨rfl, hb1⟩
  go_wp2_with fail
  go_ret
  exact ⟨ret_bool (firstAt_nonneg _ _), hb1⟩
set_option maxRecDepth 20000 in
theorem idxR_any (fn : FuncId) (caps : Array Value) {w : World} {ss : List (Int × Int)} {sv : Value} (p : (Int × Int) → Bool) (h1 : RowAt w sv ss.length (ss.flatMap staL)) (f1 : ss.length ≤ 100) (hgo : Goes fn) (hp : IsPred (fun x => Value.agg #[.int .i64 x.1, .int .i64 x.2]) fn caps p w) :
    Calls Tryz.prog 43 #[sv, .func (.func fn) #[] caps] w fun e w' => e = .returned (.int .i64 (firstAt p ss)) ∧ Below w.heap.size w w' := by
  obtain ⟨A, c1, rfl⟩ := h1.form
  have H1 := Lib.hid h1
  have HP := Lib.hid hp
  clear h1 hp
  unfold Goes at hgo
  go_enter Tryz.func43, Tryz.ntmps43
  go_wp2_with fail
  go_loopw [5, 8] (fun _ t wr => ∃ k : Nat, k ≤ ss.length ∧ t = .int .i64 k ∧ Below w.heap.size w wr ∧ ∀ j, j < k → ∀ x, ss[j]? = some x → p x = false) (fun _ t _ => ss.length - (RowKit.intOf t).toNat)
  case atStart => exact ⟨0, Nat.zero_le _, rfl, Below.refl _ _, fun j hj => absurd hj (Nat.not_lt_zero _)⟩
  case round =>
    obtain ⟨k, hk, rfl, hb, hal⟩ := hrel
    have HB := Lib.hid hb
    have HAL := Lib.hid hal
    by_cases hlt : k < ss.length
    · obtain ⟨b, oo, rfl, hbl, hcell⟩ := H1.out.cells (by omega)
      obtain ⟨x, hx⟩ : ∃ x, ss[k]? = some x := ⟨_, List.getElem?_eq_getElem hlt⟩
      have hs1 : ∀ j u, j < 2 → (staL x)[j]? = some u → wr.cell? ⟨b, oo + k * 2 + j, none⟩ = some u := fun j u hj hu => by
        rw [Nat.add_assoc]
        exact (World.cell?_of_block (hb.block b hbl)).trans <| hcell _ _ ((flat_at staL 2 (fun _ => rfl) ss k x hx j hj).trans hu)
      have f0 : wr.cell? ⟨b, oo + k * 2, none⟩ = some (.int .i64 x.1) := hs1 0 _ (by omega) rfl
      have f1 : wr.cell? ⟨b, oo + k * 2 + 1, none⟩ = some (.int .i64 x.2) := hs1 1 _ (by omega) rfl
      have hdc : decide (k < ss.length) = true := decide_eq_true hlt
      have HLT := Lib.hid hlt
      have HXX := Lib.hid hx
      clear hs1 hcell hx hb hal hbl
      go_wp2_with fail
      refine (HP.out x wr HB.out).mono ?_
      rintro e w1 ⟨rfl, hb1⟩
      have HB1 := Lib.hid (keep_below hb1 HB.out)
      clear hb1
      cases hpx : p x with
      | true =>
        have HE := Lib.hid hpx
        clear hpx
        go_wp2_with fail
        go_ret
        exact ⟨ret_int (firstAt_hit HXX.out HE.out HAL.out).symm, HB1.out⟩
      | false =>
        have HE := Lib.hid hpx
        clear hpx
        go_wp2_with fail
        go_roundw
        case rel =>
          refine ⟨k + 1, HLT.out, by go_num, HB1.out, fun j hj y hy => ?_⟩
          by_cases e : j < k
          · exact HAL.out j e y hy
          · obtain rfl : j = k := by omega
            have h2 := HXX.out
            rw [hy] at h2
            cases h2
            exact HE.out
        case measure => have := HLT.out; simp [RowKit.intOf]; omega
    · obtain rfl : k = ss.length := by omega
      have hdc : decide ((ss.length : Int) < ss.length) = false := decide_eq_false (by omega)
      clear hb hal
      go_wp2_with fail
      go_ret
      exact ⟨ret_int (firstAt_miss HAL.out).symm, HB.out⟩
theorem conR_any (fn : FuncId) (caps : Array Value) {w : World} {ss : List (Int × Int)} {sv : Value} (p : (Int × Int) → Bool) (h1 : RowAt w sv ss.length (ss.flatMap staL)) (f1 : ss.length ≤ 100) (hgo : Goes fn) (hp : IsPred (fun x => Value.agg #[.int .i64 x.1, .int .i64 x.2]) fn caps p w) :
    Calls Tryz.prog 22 #[sv, .func (.func fn) #[] caps] w fun e w' => e = .returned (.bool (ss.any p)) ∧ Below w.heap.size w w' := by
  have H := Lib.hid (idxR_any fn caps p h1 f1 hgo hp)
  clear hp hgo h1
  go_enter Tryz.func22, Tryz.ntmps22
  go_wp2_with fail
  refine H.out.mono ?_
  rintro e w1 ⟨rfl, hb1⟩
  go_wp2_with fail
  go_ret
  exact ⟨ret_bool (firstAt_nonneg _ _), hb1⟩
set_option maxRecDepth 20000 in
theorem idxI_any (fn : FuncId) (caps : Array Value) {w : World} {ss : List Int} {sv : Value} (p : Int → Bool) (h1 : RowAt w sv ss.length (ss.flatMap intL1)) (f1 : ss.length ≤ 100) (hgo : Goes fn) (hp : IsPred (fun x => Value.int .i64 x) fn caps p w) :
    Calls Tryz.prog 42 #[sv, .func (.func fn) #[] caps] w fun e w' => e = .returned (.int .i64 (firstAt p ss)) ∧ Below w.heap.size w w' := by
  obtain ⟨A, c1, rfl⟩ := h1.form
  have H1 := Lib.hid h1
  have HP := Lib.hid hp
  clear h1 hp
  unfold Goes at hgo
  go_enter Tryz.func42, Tryz.ntmps42
  go_wp2_with fail
  go_loopw [5, 8] (fun _ t wr => ∃ k : Nat, k ≤ ss.length ∧ t = .int .i64 k ∧ Below w.heap.size w wr ∧ ∀ j, j < k → ∀ x, ss[j]? = some x → p x = false) (fun _ t _ => ss.length - (RowKit.intOf t).toNat)
  case atStart => exact ⟨0, Nat.zero_le _, rfl, Below.refl _ _, fun j hj => absurd hj (Nat.not_lt_zero _)⟩
  case round =>
    obtain ⟨k, hk, rfl, hb, hal⟩ := hrel
    have HB := Lib.hid hb
    have HAL := Lib.hid hal
    by_cases hlt : k < ss.length
    · obtain ⟨b, oo, rfl, hbl, hcell⟩ := H1.out.cells (by omega)
      obtain ⟨x, hx⟩ : ∃ x, ss[k]? = some x := ⟨_, List.getElem?_eq_getElem hlt⟩
      have hs1 : ∀ j u, j < 1 → (intL1 x)[j]? = some u → wr.cell? ⟨b, oo + k * 1 + j, none⟩ = some u := fun j u hj hu => by
        rw [Nat.add_assoc]
        exact (World.cell?_of_block (hb.block b hbl)).trans <| hcell _ _ ((flat_at intL1 1 (fun _ => rfl) ss k x hx j hj).trans hu)
      have f0 : wr.cell? ⟨b, oo + k * 1, none⟩ = some (.int .i64 x) := hs1 0 _ (by omega) rfl
      rw [Nat.mul_one] at f0
      have hdc : decide (k < ss.length) = true := decide_eq_true hlt
      have HLT := Lib.hid hlt
      have HXX := Lib.hid hx
      clear hs1 hcell hx hb hal hbl
      go_wp2_with fail
      refine (HP.out x wr HB.out).mono ?_
      rintro e w1 ⟨rfl, hb1⟩
      have HB1 := Lib.hid (keep_below hb1 HB.out)
      clear hb1
      cases hpx : p x with
      | true =>
        have HE := Lib.hid hpx
        clear hpx
        go_wp2_with fail
        go_ret
        exact ⟨ret_int (firstAt_hit HXX.out HE.out HAL.out).symm, HB1.out⟩
      | false =>
        have HE := Lib.hid hpx
        clear hpx
        go_wp2_with fail
        go_roundw
        case rel =>
          refine ⟨k + 1, HLT.out, by go_num, HB1.out, fun j hj y hy => ?_⟩
          by_cases e : j < k
          · exact HAL.out j e y hy
          · obtain rfl : j = k := by omega
            have h2 := HXX.out
            rw [hy] at h2
            cases h2
            exact HE.out
        case measure => have := HLT.out; simp [RowKit.intOf]; omega
    · obtain rfl : k = ss.length := by omega
      have hdc : decide ((ss.length : Int) < ss.length) = false := decide_eq_false (by omega)
      clear hb hal
      go_wp2_with fail
      go_ret
      exact ⟨ret_int (firstAt_miss HAL.out).symm, HB.out⟩
theorem conI_any (fn : FuncId) (caps : Array Value) {w : World} {ss : List Int} {sv : Value} (p : Int → Bool) (h1 : RowAt w sv ss.length (ss.flatMap intL1)) (f1 : ss.length ≤ 100) (hgo : Goes fn) (hp : IsPred (fun x => Value.int .i64 x) fn caps p w) :
    Calls Tryz.prog 18 #[sv, .func (.func fn) #[] caps] w fun e w' => e = .returned (.bool (ss.any p)) ∧ Below w.heap.size w w' := by
  have H := Lib.hid (idxI_any fn caps p h1 f1 hgo hp)
  clear hp hgo h1
  go_enter Tryz.func18, Tryz.ntmps18
  go_wp2_with fail
  refine H.out.mono ?_
  rintro e w1 ⟨rfl, hb1⟩
  go_wp2_with fail
  go_ret
  exact ⟨ret_bool (firstAt_nonneg _ _), hb1⟩
end Go.Proofs.YtidmbibpoldgcaaGreatDoor
