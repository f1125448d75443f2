/-
  Contracts of package geom: what each function answers.
-/
import Derived.Test.YtkmmehhddagijaaRows
import Derived.Test.YtkmmehhddagijaaBase
namespace Go.Proofs.Ytkmmehhddagijaa
open Go.RowKit
set_option linter.unusedVariables false

def gOne (x : Int × Int) : Bool := (x.1 == 0 && (decide (1 ≤ x.2) && decide (x.2 ≤ 8))) || (x.1 == 1 && (decide (3 ≤ x.2) && decide (x.2 ≤ 8)))
def gRight (gs : List (Int × Int)) (secs : Int) : Bool := decide (1 ≤ gs.length) && decide (gs.length ≤ 4) && decide (24 ≤ secs) && decide (secs ≤ 4096) && gs.all gOne
def grCell (x : Int × Int) : List Value := [.int .i64 x.1, .int .i64 x.2]
def gCells (gs : List (Int × Int)) : List Value := gs.flatMap grCell

theorem gCells_get (gs : List (Int × Int)) : ∀ (i : Nat) (x : Int × Int), gs[i]? = some x → (gCells gs)[i * 2]? = some (.int .i64 x.1) ∧ (gCells gs)[i * 2 + 1]? = some (.int .i64 x.2) := by
  induction gs with
  | nil => intro i x h; simp at h
  | cons y gs ih =>
    intro i x h
    match i, h with
    | 0, h => simp at h; subst h; exact ⟨rfl, rfl⟩
    | i + 1, h =>
      have h' : gs[i]? = some x := by simpa using h
      have e : gCells (y :: gs) = .int .i64 y.1 :: .int .i64 y.2 :: gCells gs := rfl
      rw [e, show (i + 1) * 2 = i * 2 + 1 + 1 from by omega]
      exact ih i x h'

/-- The groups gs lie in memory from b, off on. -/
def GsAt (w : World) (b off : Nat) (gs : List (Int × Int)) : Prop :=
  b < w.heap.size ∧ ∀ (i : Nat) (x : Int × Int), gs[i]? = some x → w.cell? ⟨b, off + i * 2, none⟩ = some (.int .i64 x.1) ∧ w.cell? ⟨b, off + i * 2 + 1, none⟩ = some (.int .i64 x.2)

theorem GsAt.below {w w' : World} {b off B : Nat} {gs : List (Int × Int)} (h : GsAt w b off gs) (hb : Below B w w') (hB : w.heap.size ≤ B) : GsAt w' b off gs := by
  have hlt := h.1
  have hsz := hb.size
  refine ⟨by omega, fun i x hx => ?_⟩
  obtain ⟨h1, h2⟩ := h.2 i x hx
  exact ⟨(hb.cell (p := ⟨b, off + i * 2, none⟩) (by show b < B; omega)).trans h1, (hb.cell (p := ⟨b, off + i * 2 + 1, none⟩) (by show b < B; omega)).trans h2⟩

theorem one_any (k wd : Int) (w : World) :
    Calls Try.prog 42 #[.agg #[.int .i64 k, .int .i64 wd]] w fun e w' => e = .returned (.bool (gOne (k, wd))) ∧ Below w.heap.size w w' := by
  go_enter Try.func42, Try.ntmps42
  go_wp2
  all_goals go_ret
  all_goals refine ⟨ret_bool ?_, (Below.refl _ _).alloc (Nat.le_refl _) _⟩
  all_goals simp_all [gOne]
  all_goals omega

theorem right1_any (k wd : Int) (w : World) :
    Calls Try.prog 41 #[.agg #[.int .i64 k, .int .i64 wd]] w fun e w' => e = .returned (.bool (!gOne (k, wd))) ∧ Below w.heap.size w w' := by
  go_enter Try.func41, Try.ntmps41
  go_wp2_with (go_at_call 42; refine (one_any _ _ _).mono ?_; rintro e w' ⟨rfl, hb1⟩)
  go_ret
  refine ⟨rfl, ((Below.refl _ _).alloc (Nat.le_refl _) _).trans (hb1.mono (by simp))⟩

/-- A call of function fn enters it. -/
def Goes (fn : FuncId) : Prop := ∀ (args : Array Value) (w : World), (callFunc fn args).run Try.prog w = .ok (.enter fn args) w

/-- What a predicate on groups answers, wherever it is called. -/
def GrPred (fn : FuncId) (caps : Array Value) (p : Int × Int → Bool) (B : Nat) (w0 : World) : Prop :=
  ∀ (x : Int × Int) (w : World), Below B w0 w → Calls Try.prog fn (#[.agg #[.int .i64 x.1, .int .i64 x.2]] ++ caps) w fun e w' => e = .returned (.bool (p x)) ∧ Below w.heap.size w w'

theorem indexGr_any (fn : FuncId) (caps : Array Value) (p : Int × Int → Bool) (b off n c : Nat) (gs : List (Int × Int)) (w : World) (hn : gs.length = n) (hn2 : n ≤ 9223372036854775807)
    (hr : GsAt w b off gs) (hgo : Goes fn) (hp : GrPred fn caps p w.heap.size w) :
    Calls Try.prog 43 #[.slice (some ⟨b, off, none⟩) n c, .func (.func fn) #[] caps] w fun e w' =>
      e = .returned (.int .i64 (firstAt p gs)) ∧ Below w.heap.size w w' := by
  have HP := Lib.hid hp
  clear hp
  unfold Goes at hgo
  go_enter Try.func43, Try.ntmps43
  go_wp2
  go_loopw [8] (fun t wr => ∃ k : Nat, k ≤ n ∧ t = .int .i64 k ∧ Below w.heap.size w wr ∧ (∀ j, j < k → ∀ x, gs[j]? = some x → p x = false)) (fun t _ => n - (intOf t).toNat)
  case atStart => exact ⟨0, Nat.zero_le _, rfl, Below.refl _ _, fun j hj => absurd hj (by omega)⟩
  case round =>
    obtain ⟨k, hk, rfl, hb, hno⟩ := hrel
    by_cases hlt : k < n
    · obtain ⟨x, hx⟩ : ∃ x, gs[k]? = some x := ⟨_, List.getElem?_eq_getElem (by omega)⟩
      obtain ⟨hc1, hc2⟩ := (hr.below hb (Nat.le_refl _)).2 k x hx
      have HX := Lib.hid hx
      have HN := Lib.hid hno
      clear hx hno
      go_wp2_with fail
      refine (HP.out x wr hb).mono ?_
      rintro e w1 ⟨rfl, hb1⟩
      go_wp2_with fail
      · go_ret
        exact ⟨ret_int (firstAt_hit HX.out (by assumption) HN.out).symm, hb.trans (hb1.mono hb.size)⟩
      · go_roundw
        case rel =>
          refine ⟨k + 1, by omega, by go_num, hb.trans (hb1.mono hb.size), fun j hj y hy => ?_⟩
          rcases Nat.lt_or_ge j k with h | h
          · exact HN.out j h y hy
          · obtain rfl : j = k := by omega
            rw [HX.out] at hy
            cases hy
            assumption
        case measure => simp [intOf]; omega
    · go_wp2_with fail
      go_ret
      exact ⟨ret_int (firstAt_miss fun j hj x hx => hno j (by omega) x hx).symm, hb⟩

theorem containsGr_any (fn : FuncId) (caps : Array Value) (p : Int × Int → Bool) (b off n c : Nat) (gs : List (Int × Int)) (w : World) (hn : gs.length = n) (hn2 : n ≤ 9223372036854775807)
    (hr : GsAt w b off gs) (hgo : Goes fn) (hp : GrPred fn caps p w.heap.size w) :
    Calls Try.prog 40 #[.slice (some ⟨b, off, none⟩) n c, .func (.func fn) #[] caps] w fun e w' =>
      e = .returned (.bool (gs.any p)) ∧ Below w.heap.size w w' := by
  have H := Lib.hid (indexGr_any fn caps p b off n c gs w hn hn2 hr hgo hp)
  clear hp hgo hr
  go_enter Try.func40, Try.ntmps40
  go_wp2_with fail
  refine H.out.mono ?_
  rintro e w1 ⟨rfl, hb1⟩
  go_wp2_with fail
  go_ret
  exact ⟨ret_bool (firstAt_nonneg _ _), hb1⟩

/-- The groups of a measure lie in memory. -/
def GeoAt (w : World) (A : Option Addr) (n : Nat) (gs : List (Int × Int)) : Prop :=
  gs.length = n ∧ n ≤ 9223372036854775807 ∧ (0 < n → ∃ b off, A = some ⟨b, off, none⟩ ∧ GsAt w b off gs)

theorem GeoAt.below {w w' : World} {A : Option Addr} {n B : Nat} {gs : List (Int × Int)} (h : GeoAt w A n gs) (hb : Below B w w') (hB : w.heap.size ≤ B) : GeoAt w' A n gs :=
  ⟨h.1, h.2.1, fun hn => by
    obtain ⟨b, off, e, hg⟩ := h.2.2 hn
    exact ⟨b, off, e, hg.below hb hB⟩⟩

theorem goes36 : Goes 41 := enters_of Try.func41 (by kernel_rfl) (by kernel_rfl)

theorem right_any (A : Option Addr) (n c : Nat) (gs : List (Int × Int)) (secs : Int) (w : World) (hg : GeoAt w A n gs) :
    Calls Try.prog 37 #[.agg #[.slice A n c, .int .i64 secs]] w fun e w' => e = .returned (.bool (gRight gs secs)) ∧ Below w.heap.size w w' := by
  obtain ⟨hl, hn2, hg⟩ := hg
  by_cases hn : n = 0
  · subst hn
    have hgr : Hid (gRight gs secs = false) := by simp [Hid, gRight, hl]
    clear hg hl
    go_enter Try.func37, Try.ntmps37
    go_wp2
    go_ret
    exact ⟨ret_bool hgr.out.symm, (Below.refl _ _).alloc (Nat.le_refl _) _⟩
  · obtain ⟨b, off, rfl, hgs⟩ := hg (by omega)
    clear hg
    by_cases hbad : 4 < n ∨ secs < 24 ∨ 4096 < secs
    · have hgr : Hid (gRight gs secs = false) := by unfold Hid gRight; rw [hl]; simp; omega
      have hn1 : (1 : Int) ≤ n := by omega
      clear hgs hl
      go_enter Try.func37, Try.ntmps37
      go_wp2
      all_goals go_ret
      all_goals exact ⟨ret_bool (by rw [hgr.out]), (Below.refl _ _).alloc (Nat.le_refl _) _⟩
    · have hgr : Hid (gRight gs secs = !(gs.any fun x => !gOne x)) := by
        have e : gs.all gOne = !(gs.any fun x => !gOne x) := by rw [List.all_eq_not_any_not]
        unfold Hid gRight; rw [hl, e, decide_eq_true (by omega), decide_eq_true (by omega), decide_eq_true (by omega), decide_eq_true (by omega)]
        rfl
      have h1 : (1 : Int) ≤ n := by omega
      have h2 : (n : Int) ≤ 4 := by omega
      have h3 : 24 ≤ secs := by omega
      have h4 : secs ≤ 4096 := by omega
      clear hbad
      go_enter Try.func37, Try.ntmps37
      go_wp2_with fail
      have hb0 : Below w.heap.size w (w.alloc (Obj.cells #[Value.slice (some ⟨b, off, none⟩) n c, Value.int IntKind.i64 secs] 41)) := (Below.refl _ _).alloc (Nat.le_refl _) _
      refine (containsGr_any 41 #[] (fun x => !gOne x) b off n c gs _ hl hn2 (hgs.below hb0 (Nat.le_refl _)) goes36 (fun x w2 _ => right1_any x.1 x.2 w2)).mono ?_
      rintro e w1 ⟨rfl, hb1⟩
      go_wp2
      go_ret
      exact ⟨ret_bool hgr.out.symm, hb0.trans (hb1.mono (by simp))⟩

def gHas (gs : List (Int × Int)) (secs : Int) (g : Int) : Bool := gRight gs secs && decide (0 ≤ g) && decide (g < gs.length)

theorem has_any (A : Option Addr) (n c : Nat) (gs : List (Int × Int)) (secs g : Int) (w : World) (hg : GeoAt w A n gs) :
    Calls Try.prog 30 #[.agg #[.slice A n c, .int .i64 secs], .int .i64 g] w fun e w' => e = .returned (.bool (gHas gs secs g)) ∧ Below w.heap.size w w' := by
  have hl := Lib.hid hg.1
  have hb0 : Below w.heap.size w (w.alloc (Obj.cells #[Value.slice A n c, Value.int IntKind.i64 secs] 41)) := (Below.refl _ _).alloc (Nat.le_refl _) _
  have H := Lib.hid (right_any A n c gs secs (w.alloc (Obj.cells #[Value.slice A n c, Value.int IntKind.i64 secs] 41)) (hg.below hb0 (Nat.le_refl _)))
  clear hg
  go_enter Try.func30, Try.ntmps30
  go_wp2_with fail
  refine H.out.mono ?_
  rintro e w1 ⟨rfl, hb1⟩
  have hb2 := hb0.trans (hb1.mono (by simp))
  have hc1 := hb1.cell (p := ⟨w.heap.size, 0, none⟩) (by simp)
  simp at hc1
  clear hc1
  obtain ⟨hc, hf⟩ := bcell hb1
  go_wp2
  all_goals go_ret
  all_goals refine ⟨ret_bool ?_, hb2⟩
  all_goals have hl' := hl.out
  all_goals simp [gHas, *]
  all_goals try omega

def grAt (gs : List (Int × Int)) (g : Int) : Int × Int := gs.getD g.toNat (0, 0)
def gTake1 (x : Int × Int) (size : Int) : Int := if x.1 == 0 then size else (size + (size + x.2 - 2) / (x.2 - 1)) + (size + (size + x.2 - 2) / (x.2 - 1)) % 2
def gTakes (gs : List (Int × Int)) (secs g size : Int) : Int := if gHas gs secs g && decide (1 ≤ size) && decide (size ≤ 4) then gTake1 (grAt gs g) size else 0

theorem gHas_true {gs : List (Int × Int)} {secs g : Int} (h : gHas gs secs g = true) : ∃ (k : Nat) (x : Int × Int), g = k ∧ k < gs.length ∧ gs.length ≤ 4 ∧ 24 ≤ secs ∧ secs ≤ 4096 ∧ gs[k]? = some x ∧ grAt gs k = x ∧ gOne x = true := by
  simp only [gHas, gRight, Bool.and_eq_true, decide_eq_true_eq, List.all_eq_true] at h
  obtain ⟨⟨⟨⟨⟨⟨h1, h2⟩, h3⟩, h4⟩, h5⟩, h6⟩, h7⟩ := h
  have hk : g.toNat < gs.length := by omega
  refine ⟨g.toNat, gs[g.toNat], by omega, hk, h2, h3, h4, List.getElem?_eq_getElem hk, ?_, h5 _ (List.getElem_mem hk)⟩
  unfold grAt
  rw [Int.toNat_natCast, List.getD_eq_getElem?_getD, List.getElem?_eq_getElem hk]
  rfl
theorem gOne_true {x : Int × Int} (h : gOne x = true) : (x.1 = 0 ∧ 1 ≤ x.2 ∧ x.2 ≤ 8) ∨ (x.1 = 1 ∧ 3 ≤ x.2 ∧ x.2 ≤ 8) := by
  simpa [gOne] using h

theorem par_rows {size wd : Int} (h1 : 1 ≤ size) (h2 : size ≤ 4) (h3 : 3 ≤ wd) (h4 : wd ≤ 8) : 1 ≤ (size + wd - 2) / (wd - 1) ∧ (size + wd - 2) / (wd - 1) ≤ 2 := by
  have : wd = 3 ∨ wd = 4 ∨ wd = 5 ∨ wd = 6 ∨ wd = 7 ∨ wd = 8 := by omega
  rcases this with rfl | rfl | rfl | rfl | rfl | rfl <;> omega

theorem takes_any (A : Option Addr) (n c : Nat) (gs : List (Int × Int)) (secs g size : Int) (w : World) (hg : GeoAt w A n gs) :
    Calls Try.prog 22 #[.agg #[.slice A n c, .int .i64 secs], .int .i64 g, .int .i64 size] w fun e w' => e = .returned (.int .i64 (gTakes gs secs g size)) ∧ Below w.heap.size w w' := by
  have hb0 : Below w.heap.size w (w.alloc (Obj.cells #[Value.slice A n c, Value.int IntKind.i64 secs] 41)) := (Below.refl _ _).alloc (Nat.le_refl _) _
  have H := Lib.hid (has_any A n c gs secs g (w.alloc (Obj.cells #[Value.slice A n c, Value.int IntKind.i64 secs] 41)) (hg.below hb0 (Nat.le_refl _)))
  by_cases hh : gHas gs secs g = true
  · obtain ⟨k, x, rfl, hk, hl4, hs1, hs2, hx, hgx, ho⟩ := gHas_true hh
    have ho' := gOne_true ho
    obtain ⟨b, off, rfl, hgs⟩ := hg.2.2 (by have := hg.1; omega)
    have hl := hg.1
    have hkn : (k : Int) < n := by omega
    have HX := Lib.hid hx
    have HH := Lib.hid hh
    by_cases hz : 1 ≤ size ∧ size ≤ 4
    · obtain ⟨hz1, hz2⟩ := hz
      have ht : Hid (gTakes gs secs k size = gTake1 x size) := by unfold Hid gTakes; rw [hh, hgx, decide_eq_true hz1, decide_eq_true hz2]; rfl
      clear hx hgx hh hl hg
      obtain ⟨kd, wd⟩ := x
      rcases ho' with ⟨e, hw1, hw2⟩ | ⟨e, hw1, hw2⟩
      all_goals
        simp only at e hw1 hw2
        subst e
        have hq := fun h3 : 3 ≤ wd => par_rows hz1 hz2 h3 hw2
        first | (have hq1 := (hq (by omega)).1; have hq2 := (hq (by omega)).2; clear hq) | clear hq
        go_enter Try.func22, Try.ntmps22
        go_wp2_with fail
        refine H.out.mono ?_
        rintro e w1 ⟨rfl, hb1⟩
        have hb2 := hb0.trans (hb1.mono (by simp))
        obtain ⟨hc1, hc2⟩ := (hgs.below hb2 (Nat.le_refl _)).2 k _ HX.out
        obtain ⟨hc, hf⟩ := bcell hb1
        have hh := HH.out
        have hsz := hb1.size
        simp at hsz
        go_wp2
        go_ret
        refine ⟨ret_int ?_, hb2.alloc (by omega) _⟩
        rw [ht.out]
        simp [gTake1]
    · have ht : Hid (gTakes gs secs k size = 0) := by
        unfold Hid gTakes; rw [if_neg]; simp; omega
      clear hx hgx hh hl hgs hg
      go_enter Try.func22, Try.ntmps22
      go_wp2_with fail
      refine H.out.mono ?_
      rintro e w1 ⟨rfl, hb1⟩
      have hb2 := hb0.trans (hb1.mono (by simp))
      obtain ⟨hc, hf⟩ := bcell hb1
      have hh := HH.out
      go_wp2
      all_goals first | (exfalso; omega) | go_ret
      all_goals exact ⟨ret_int ht.out.symm, hb2⟩
  · have hh' : gHas gs secs g = false := by simpa using hh
    have ht : Hid (gTakes gs secs g size = 0) := by unfold Hid gTakes; rw [hh']; rfl
    clear hg hh
    have HH := Lib.hid hh'
    clear hh'
    go_enter Try.func22, Try.ntmps22
    go_wp2_with fail
    refine H.out.mono ?_
    rintro e w1 ⟨rfl, hb1⟩
    have hb2 := hb0.trans (hb1.mono (by simp))
    obtain ⟨hc, hf⟩ := bcell hb1
    have hh := HH.out
    go_wp2
    go_ret
    exact ⟨ret_int ht.out.symm, hb2⟩
end Go.Proofs.Ytkmmehhddagijaa
