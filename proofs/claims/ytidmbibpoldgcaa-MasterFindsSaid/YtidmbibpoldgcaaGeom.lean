/-
  Contracts of package geom: what each function answers.
-/
import Derived.Test.YtidmbibpoldgcaaRows
import Derived.Test.YtidmbibpoldgcaaBase
namespace Go.Proofs.Ytidmbibpoldgcaa
open Go.RowKit
set_option linter.unusedVariables false

def gOne (x : Int × Int) : Bool := (x.1 == 0 && (decide (1 ≤ x.2) && decide (x.2 ≤ 8))) || (x.1 == 1 && (decide (3 ≤ x.2) && decide (x.2 ≤ 8)))
def gRight (gs : List (Int × Int)) (secs : Int) : Bool := decide (1 ≤ gs.length) && decide (gs.length ≤ 4) && decide (24 ≤ secs) && decide (secs ≤ 4096) && gs.all gOne
def grCell (x : Int × Int) : List Value := [.int .i64 x.1, .int .i64 x.2]
def gCells (gs : List (Int × Int)) : List Value := gs.flatMap grCell

theorem gCells_get (gs : List (Int × Int)) : ∀ (i : Nat) (x : Int × Int), gs[i]? = some x → (gCells gs)[i * 2]? = some (.int .i64 x.1) ∧ (gCells gs)[i * 2 + 1]? = some (.int .i64 x.2) := by
  induction gs with
  | nil => intro i x h; simp at h
  | cons y gs ih =>
    intro i x h
    match i, h with
    | 0, h => simp at h; subst h; exact ⟨rfl, rfl⟩
    | i + 1, h =>
      have h' : gs[i]? = some x := by simpa using h
      have e : gCells (y :: gs) = .int .i64 y.1 :: .int .i64 y.2 :: gCells gs := rfl
      rw [e, show (i + 1) * 2 = i * 2 + 1 + 1 from by omega]
      exact ih i x h'

/-- The groups gs lie in memory from b, off on. -/
def GsAt (w : World) (b off : Nat) (gs : List (Int × Int)) : Prop :=
  b < w.heap.size ∧ ∀ (i : Nat) (x : Int × Int), gs[i]? = some x → w.cell? ⟨b, off + i * 2, none⟩ = some (.int .i64 x.1) ∧ w.cell? ⟨b, off + i * 2 + 1, none⟩ = some (.int .i64 x.2)

theorem GsAt.below {w w' : World} {b off B : Nat} {gs : List (Int × Int)} (h : GsAt w b off gs) (hb : Below B w w') (hB : w.heap.size ≤ B) : GsAt w' b off gs := by
  have hlt := h.1
  have hsz := hb.size
  refine ⟨by omega, fun i x hx => ?_⟩
  obtain ⟨h1, h2⟩ := h.2 i x hx
  exact ⟨(hb.cell (p := ⟨b, off + i * 2, none⟩) (by show b < B; omega)).trans h1, (hb.cell (p := ⟨b, off + i * 2 + 1, none⟩) (by show b < B; omega)).trans h2⟩

/-- A call of function fn enters it. -/
def Goes (fn : FuncId) : Prop := ∀ (args : Array Value) (w : World), (callFunc fn args).run Try.prog w = .ok (.enter fn args) w

/-- What a predicate on groups answers, wherever it is called. -/
def GrPred (fn : FuncId) (caps : Array Value) (p : Int × Int → Bool) (B : Nat) (w0 : World) : Prop :=
  ∀ (x : Int × Int) (w : World), Below B w0 w → Calls Try.prog fn (#[.agg #[.int .i64 x.1, .int .i64 x.2]] ++ caps) w fun e w' => e = .returned (.bool (p x)) ∧ Below w.heap.size w w'

/-- The groups of a measure lie in memory. -/
def GeoAt (w : World) (A : Option Addr) (n : Nat) (gs : List (Int × Int)) : Prop :=
  gs.length = n ∧ n ≤ 9223372036854775807 ∧ (0 < n → ∃ b off, A = some ⟨b, off, none⟩ ∧ GsAt w b off gs)

theorem GeoAt.below {w w' : World} {A : Option Addr} {n B : Nat} {gs : List (Int × Int)} (h : GeoAt w A n gs) (hb : Below B w w') (hB : w.heap.size ≤ B) : GeoAt w' A n gs :=
  ⟨h.1, h.2.1, fun hn => by
    obtain ⟨b, off, e, hg⟩ := h.2.2 hn
    exact ⟨b, off, e, hg.below hb hB⟩⟩

def gHas (gs : List (Int × Int)) (secs : Int) (g : Int) : Bool := gRight gs secs && decide (0 ≤ g) && decide (g < gs.length)

def grAt (gs : List (Int × Int)) (g : Int) : Int × Int := gs.getD g.toNat (0, 0)
def gTake1 (x : Int × Int) (size : Int) : Int := if x.1 == 0 then size else (size + (size + x.2 - 2) / (x.2 - 1)) + (size + (size + x.2 - 2) / (x.2 - 1)) % 2
def gTakes (gs : List (Int × Int)) (secs g size : Int) : Int := if gHas gs secs g && decide (1 ≤ size) && decide (size ≤ 4) then gTake1 (grAt gs g) size else 0

theorem gHas_true {gs : List (Int × Int)} {secs g : Int} (h : gHas gs secs g = true) : ∃ (k : Nat) (x : Int × Int), g = k ∧ k < gs.length ∧ gs.length ≤ 4 ∧ 24 ≤ secs ∧ secs ≤ 4096 ∧ gs[k]? = some x ∧ grAt gs k = x ∧ gOne x = true := by
  simp only [gHas, gRight, Bool.and_eq_true, decide_eq_true_eq, List.all_eq_true] at h
  obtain ⟨⟨⟨⟨⟨⟨h1, h2⟩, h3⟩, h4⟩, h5⟩, h6⟩, h7⟩ := h
  have hk : g.toNat < gs.length := by omega
  refine ⟨g.toNat, gs[g.toNat], by omega, hk, h2, h3, h4, List.getElem?_eq_getElem hk, ?_, h5 _ (List.getElem_mem hk)⟩
  unfold grAt
  rw [Int.toNat_natCast, List.getD_eq_getElem?_getD, List.getElem?_eq_getElem hk]
  rfl
theorem gOne_true {x : Int × Int} (h : gOne x = true) : (x.1 = 0 ∧ 1 ≤ x.2 ∧ x.2 ≤ 8) ∨ (x.1 = 1 ∧ 3 ≤ x.2 ∧ x.2 ≤ 8) := by
  simpa [gOne] using h

theorem par_rows {size wd : Int} (h1 : 1 ≤ size) (h2 : size ≤ 4) (h3 : 3 ≤ wd) (h4 : wd ≤ 8) : 1 ≤ (size + wd - 2) / (wd - 1) ∧ (size + wd - 2) / (wd - 1) ≤ 2 := by
  have : wd = 3 ∨ wd = 4 ∨ wd = 5 ∨ wd = 6 ∨ wd = 7 ∨ wd = 8 := by omega
  rcases this with rfl | rfl | rfl | rfl | rfl | rfl <;> omega

end Go.Proofs.Ytidmbibpoldgcaa
