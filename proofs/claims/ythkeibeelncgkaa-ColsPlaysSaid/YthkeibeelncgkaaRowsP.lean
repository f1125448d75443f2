/-
  What the law ColsRows needs to know of the columns.
-/
import Derived.Test.YthkeibeelncgkaaData4
namespace Go.Proofs.Ythkeibeelncgkaa
open Go.RowKit
set_option linter.unusedVariables false

/-- What the columns' parity and row are does not lean on where the block lies. -/
theorem parTo_shape (first wide at_ : Int) (n : Nat) : (parTo first wide at_ n).map (·.2.2) = (parTo 0 wide 0 n).map (·.2.2) := by
  induction n with
  | zero => rfl
  | succ k ih => by_cases h : ((k : Int) % (wide - 1) == 0) = true <;> simp [parTo, h, pcol, ih]
theorem mirror_shape (first at_ : Int) (w s : Nat) : (mirror first at_ w s).map (·.2.2) = (mirror 0 0 w s).map (·.2.2) := by
  simp [mirror, mirTo, mcol, List.map_flatMap, Function.comp_def]

def rowsS (S : List (Bool × Int)) : Int := S.foldl (fun n c => max n (c.2 + 1)) 0
theorem rowsTo_shape (L : List Col) : rowsTo L L.length = rowsS (L.map (·.2.2)) := by
  unfold rowsTo rowsS; rw [List.take_length, List.foldl_map]

def shOk (S : List (Bool × Int)) (kind size wide : Nat) : Bool :=
  decide (0 ≤ rowsS S) && decide (rowsS S ≤ 4) && S.all (fun c => decide (0 ≤ c.2) && decide (c.2 < rowsS S)) &&
  (List.range 4).all (fun r => !decide ((r : Int) < rowsS S) || (S.filter (fun c => c.1 && c.2 == (r : Int))).length == kind) &&
  (S.filter (fun c => !c.1)).length == (if kind == 0 then size * wide else size) && (kind != 0 || rowsS S == (size : Int))

theorem mir_ok : ∀ w ∈ List.range 9, ∀ s ∈ List.range 5, 0 < w → 0 < s → shOk ((mirror 0 0 w s).map (·.2.2)) 0 s w = true := by decide +kernel
theorem par_ok : ∀ w ∈ List.range 9, ∀ s ∈ List.range 5, 3 ≤ w → 0 < s → shOk ((parTo 0 w 0 s).map (·.2.2)) 1 s w = true := by decide +kernel
theorem par_near : ∀ w ∈ List.range 9, ∀ s ∈ List.range 5, 3 ≤ w → ∀ i ∈ List.range 9, ∀ j ∈ List.range i, (((parTo 0 w 0 s).map (·.2.2))[i]?.isSome = true) →
    (((parTo 0 w 0 s).map (·.2.2))[j]?.map (·.2)) = (((parTo 0 w 0 s).map (·.2.2))[i]?.map (·.2)) → i < j + w := by decide +kernel

/-- The data columns of rows below r. -/
def dN (L : List Col) (r : Int) : Nat := (L.filter (fun x => !x.2.2.1 && decide (x.2.2.2 < r))).length
theorem dN_step (L : List Col) (r : Int) : dN L (r + 1) = dN L r + (L.filter (fun x => x.2.2.2 == r && !x.2.2.1)).length := by
  unfold dN
  induction L with
  | nil => rfl
  | cons y L ih =>
    rcases Int.lt_trichotomy y.2.2.2 r with h1 | h1 | h1
    · have a1 : decide (y.2.2.2 < r + 1) = true := by simp; omega
      have a2 : decide (y.2.2.2 < r) = true := by simp; omega
      have a3 : (y.2.2.2 == r) = false := by simp; omega
      cases hp : y.2.2.1 <;> simp [List.filter_cons, a1, a2, a3, hp, ih] <;> omega
    · have a1 : decide (y.2.2.2 < r + 1) = true := by simp; omega
      have a2 : decide (y.2.2.2 < r) = false := by simp; omega
      have a3 : (y.2.2.2 == r) = true := by simp; omega
      cases hp : y.2.2.1 <;> simp [List.filter_cons, a1, a2, a3, hp, ih] <;> omega
    · have a1 : decide (y.2.2.2 < r + 1) = false := by simp; omega
      have a2 : decide (y.2.2.2 < r) = false := by simp; omega
      have a3 : (y.2.2.2 == r) = false := by simp; omega
      cases hp : y.2.2.1 <;> simp [List.filter_cons, a1, a2, a3, hp, ih] <;> omega

/-- The columns' shape, with what it says. -/
theorem cols_shape {gs : List (Int × Int)} {secs pg pa size : Int} (h : cMay gs secs pg pa size = true) :
    ∃ kind s w : Nat, (grAt gs pg).1 = kind ∧ (grAt gs pg).2 = w ∧ size = s ∧ 1 ≤ w ∧ w ≤ 8 ∧ 1 ≤ s ∧ s ≤ 4 ∧ (kind = 0 ∨ kind = 1) ∧ shOk ((colsOf gs secs pg pa size).map (·.2.2)) kind s w = true := by
  obtain ⟨hhas, hz1, hz2, hp1, hp2, _⟩ := cMay_true h
  obtain ⟨sz, rfl⟩ := Int.eq_ofNat_of_zero_le (show 0 ≤ size by omega)
  obtain ⟨g, x, rfl, hk, hl4, hs1, hs2, hx, hgx, ho⟩ := gHas_true hhas
  obtain ⟨kd, wd⟩ := x
  rw [hgx]
  have ho' := gOne_true ho
  simp only at ho'
  obtain ⟨w, rfl⟩ := Int.eq_ofNat_of_zero_le (show 0 ≤ wd by omega)
  rcases ho' with ⟨rfl, h1, h2⟩ | ⟨rfl, h1, h2⟩
  · refine ⟨0, sz, w, rfl, rfl, rfl, by omega, by omega, by omega, by omega, .inl rfl, ?_⟩
    have : colsOf gs secs g pa sz = mirror (gFirst gs secs g) pa w sz := by unfold colsOf; rw [hgx]; rfl
    rw [this, mirror_shape]
    exact mir_ok w (by simp; omega) sz (by simp; omega) (by omega) (by omega)
  · refine ⟨1, sz, w, rfl, rfl, rfl, by omega, by omega, by omega, by omega, .inr rfl, ?_⟩
    have : colsOf gs secs g pa sz = parTo (gFirst gs secs g) w pa sz := by unfold colsOf; rw [hgx]; rfl
    rw [this, parTo_shape]
    exact par_ok w (by simp; omega) sz (by simp; omega) (by omega) (by omega)

theorem filter_shape (L : List Col) (p : Bool × Int → Bool) : ((L.map (·.2.2)).filter p).length = (L.filter (fun x => p x.2.2)).length := by
  rw [List.filter_map, List.length_map]; rfl

theorem rows_pure {gs : List (Int × Int)} {secs pg pa size : Int} (h : cMay gs secs pg pa size = true) :
    ∃ (kind s w R : Nat), (grAt gs pg).1 = kind ∧ (grAt gs pg).2 = w ∧ size = s ∧ 1 ≤ w ∧ w ≤ 8 ∧ 1 ≤ s ∧ s ≤ 4 ∧ (kind = 0 ∨ kind = 1) ∧
      rowsTo (colsOf gs secs pg pa size) (colsOf gs secs pg pa size).length = R ∧ R ≤ 4 ∧
      (∀ x ∈ colsOf gs secs pg pa size, 0 ≤ x.2.2.2 ∧ x.2.2.2 ≤ 100 ∧ x.2.2.2 < R) ∧
      (∀ r : Nat, r < R → ((colsOf gs secs pg pa size).filter (fun x => x.2.2.2 == (r : Int) && x.2.2.1)).length = kind) ∧
      dN (colsOf gs secs pg pa size) R = (if kind = 0 then s * w else s) ∧ (kind = 0 → R = s) := by
  obtain ⟨kind, s, w, e1, e2, e3, h1, h2, h3, h4, hk, hok⟩ := cols_shape h
  unfold shOk at hok
  rw [← rowsTo_shape] at hok
  generalize colsOf gs secs pg pa size = L at *
  simp only [Bool.and_eq_true, decide_eq_true_eq, List.all_eq_true, Bool.or_eq_true, Bool.not_eq_true', decide_eq_false_iff_not, beq_iff_eq, bne_iff_ne, List.mem_range] at hok
  obtain ⟨⟨⟨⟨⟨o1, o2⟩, o3⟩, o4⟩, o5⟩, o6⟩ := hok
  obtain ⟨R, hR⟩ := Int.eq_ofNat_of_zero_le o1
  rw [hR] at o2 o3 o4 o6
  have o3' : ∀ x ∈ L, 0 ≤ x.2.2.2 ∧ x.2.2.2 < R := fun x hx => o3 x.2.2 (List.mem_map.2 ⟨x, hx, rfl⟩)
  refine ⟨kind, s, w, R, e1, e2, e3, h1, h2, h3, h4, hk, hR, by omega, fun x hx => ⟨(o3' x hx).1, by have := (o3' x hx).2; omega, (o3' x hx).2⟩, fun r hr => ?_, ?_, ?_⟩
  · rcases o4 r (by omega) with h5 | h5
    · omega
    · rw [filter_shape] at h5
      rw [← h5]
      congr 1
      apply List.filter_congr
      intro x _
      cases x.2.2.1 <;> simp
  · rw [filter_shape] at o5
    unfold dN
    have : L.filter (fun x => !x.2.2.1 && decide (x.2.2.2 < (R : Int))) = L.filter (fun x => !x.2.2.1) := by
      apply List.filter_congr
      intro x hx
      have := (o3' x hx).2
      simp [this]
    rw [this, o5]
  · intro hk0
    rcases o6 with h5 | h5
    · exact absurd hk0 h5
    · omega

theorem row_devs {gs : List (Int × Int)} {secs pg pa size : Int} (h : cMay gs secs pg pa size = true) {j i : Nat} {x y : Col} (hji : j < i)
    (hx : (colsOf gs secs pg pa size)[j]? = some x) (hy : (colsOf gs secs pg pa size)[i]? = some y) (hr : x.2.2.2 = y.2.2.2) : x.1 ≠ y.1 := by
  obtain ⟨hhas, hz1, hz2, hp1, hp2, _⟩ := cMay_true h
  obtain ⟨sz, rfl⟩ := Int.eq_ofNat_of_zero_le (show 0 ≤ size by omega)
  obtain ⟨g, z, rfl, hk, hl4, hs1, hs2, hz, hgz, ho⟩ := gHas_true hhas
  obtain ⟨kd, wd⟩ := z
  have ho' := gOne_true ho
  simp only at ho'
  obtain ⟨w, rfl⟩ := Int.eq_ofNat_of_zero_le (show 0 ≤ wd by omega)
  rcases ho' with ⟨rfl, h1, h2⟩ | ⟨rfl, h1, h2⟩
  · have hL : colsOf gs secs g pa sz = mirror (gFirst gs secs g) pa w sz := by unfold colsOf; rw [hgz]; rfl
    rw [hL] at hx hy
    obtain ⟨rfl, _⟩ := mirror_get hx (by omega)
    obtain ⟨rfl, _⟩ := mirror_get hy (by omega)
    simp only [mcol] at hr ⊢
    intro he
    have e1 : j / sz = i / sz := by omega
    have e2 : j % sz = i % sz := by omega
    have := Nat.div_add_mod j sz
    have := Nat.div_add_mod i sz
    rw [e1, e2] at *
    omega
  · have hL : colsOf gs secs g pa sz = parTo (gFirst gs secs g) w pa sz := by unfold colsOf; rw [hgz]; rfl
    rw [hL] at hx hy
    obtain ⟨p1, r1, e1⟩ := parTo_get _ _ _ _ _ _ hx
    obtain ⟨p2, r2, e2⟩ := parTo_get _ _ _ _ _ _ hy
    have hsh := parTo_shape (gFirst gs secs g) w pa sz
    have hxs : ((parTo 0 w 0 sz).map (·.2.2))[j]? = some x.2.2 := by rw [← hsh, List.getElem?_map, hx]; rfl
    have hys : ((parTo 0 w 0 sz).map (·.2.2))[i]? = some y.2.2 := by rw [← hsh, List.getElem?_map, hy]; rfl
    have hlen := parTo_len (gFirst gs secs g) w pa sz
    have hil := (List.getElem?_eq_some_iff.1 hy).1
    have := par_near w (by simp; omega) sz (by simp; omega) (by omega) i (by simp; omega) j (by simp; omega) (by rw [hys]; rfl) (by rw [hxs, hys]; simp [hr])
    rw [e1, e2]
    simp only [pcol]
    intro he
    have hm : (pa + (j : Int)) % (w : Int) = (pa + (i : Int)) % (w : Int) := by omega
    have hw : w = 3 ∨ w = 4 ∨ w = 5 ∨ w = 6 ∨ w = 7 ∨ w = 8 := by omega
    rcases hw with rfl | rfl | rfl | rfl | rfl | rfl <;> omega

/-- What the law keeps of a row: the devices so far. -/
def rowDevs (L : List Col) (r : Int) (i : Nat) : List Int := ((L.take i).filter (fun x => x.2.2.2 == r)).map (·.1)
theorem rowDevs_skip {L : List Col} {r : Int} {i : Nat} {x : Col} (hx : L[i]? = some x) (hr : (x.2.2.2 == r) = false) : rowDevs L r (i + 1) = rowDevs L r i := by
  unfold rowDevs; rw [List.take_add_one, hx]; simp [List.filter_append, hr]
theorem rowDevs_take {L : List Col} {r : Int} {i : Nat} {x : Col} (hx : L[i]? = some x) (hr : (x.2.2.2 == r) = true) : rowDevs L r (i + 1) = rowDevs L r i ++ [x.1] := by
  unfold rowDevs; rw [List.take_add_one, hx]; simp [List.filter_append, hr]
theorem rowDevs_mem {L : List Col} {r : Int} {i k : Nat} {d : Int} (h : (rowDevs L r i)[k]? = some d) : ∃ (j : Nat) (x : Col), j < i ∧ L[j]? = some x ∧ x.2.2.2 = r ∧ x.1 = d := by
  have hm := List.mem_of_getElem? h
  unfold rowDevs at hm
  rw [List.mem_map] at hm
  obtain ⟨x, hx, e⟩ := hm
  obtain ⟨hx1, hx2⟩ := List.mem_filter.1 hx
  obtain ⟨j, hj⟩ := List.mem_iff_getElem?.1 hx1
  rw [List.getElem?_take] at hj
  split at hj
  · exact ⟨j, x, by assumption, hj, by simpa using hx2, e⟩
  · cases hj
theorem rowDevs_len (L : List Col) (r : Int) (i : Nat) : (rowDevs L r i).length ≤ i := by
  unfold rowDevs; rw [List.length_map]; exact Nat.le_trans (List.length_filter_le _ _) (by rw [List.length_take]; omega)
def rowPars (L : List Col) (r : Int) (i : Nat) : Nat := ((L.take i).filter (fun x => x.2.2.2 == r && x.2.2.1)).length
def rowData (L : List Col) (r : Int) (i : Nat) : Nat := ((L.take i).filter (fun x => x.2.2.2 == r && !x.2.2.1)).length
theorem rowPars_next {L : List Col} {r : Int} {i : Nat} {x : Col} (hx : L[i]? = some x) : rowPars L r (i + 1) = rowPars L r i + if x.2.2.2 == r && x.2.2.1 then 1 else 0 := by
  unfold rowPars; rw [List.take_add_one, hx]; cases h : (x.2.2.2 == r && x.2.2.1) <;> simp [List.filter_append, List.filter_cons, h]
theorem rowData_next {L : List Col} {r : Int} {i : Nat} {x : Col} (hx : L[i]? = some x) : rowData L r (i + 1) = rowData L r i + if x.2.2.2 == r && !x.2.2.1 then 1 else 0 := by
  unfold rowData; rw [List.take_add_one, hx]; cases h : (x.2.2.2 == r && !x.2.2.1) <;> simp [List.filter_append, List.filter_cons, h]
theorem rowPars_le (L : List Col) (r : Int) (i : Nat) : rowPars L r i ≤ L.length := by
  unfold rowPars; exact Nat.le_trans (List.length_filter_le _ _) (by rw [List.length_take]; omega)
theorem rowData_le (L : List Col) (r : Int) (i : Nat) : rowData L r i ≤ L.length := by
  unfold rowData; exact Nat.le_trans (List.length_filter_le _ _) (by rw [List.length_take]; omega)
theorem dN_le (L : List Col) (r : Int) : dN L r ≤ L.length := by unfold dN; exact List.length_filter_le _ _
end Go.Proofs.Ythkeibeelncgkaa
