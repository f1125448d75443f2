/-
  What the law ColsRows needs to know of the columns.
  What is encoded has whole sectors. No program stands here.
  Contracts of package code: Fits, Bad.
  Plain words on the devices of columns: sorted, each once.
-/
import Derived.Test.YtefhmemmfajbfaaJ07
import Derived.Test.YtefhmemmfajbfaaJ06
import Derived.Test.YtefhmemmfajbfaaJ01
import Derived.Lib.RowBridge
namespace Go.Proofs.Ytefhmemmfajbfaa
set_option linter.unusedVariables false
set_option linter.unusedSimpArgs false
open Go.RowKit

/-- What the columns' parity and row are does not lean on where the block lies. -/
theorem parTo_shape (first wide at_ : Int) (n : Nat) : (parTo first wide at_ n).map (·.2.2) = (parTo 0 wide 0 n).map (·.2.2) := by
  induction n with
  | zero => rfl
  | succ k ih => by_cases h : ((k : Int) % (wide - 1) == 0) = true <;> simp [parTo, h, pcol, ih]
theorem mirror_shape (first at_ : Int) (w s : Nat) : (mirror first at_ w s).map (·.2.2) = (mirror 0 0 w s).map (·.2.2) := by
  simp [mirror, mirTo, mcol, List.map_flatMap, Function.comp_def]

def rowsS (S : List (Bool × Int)) : Int := S.foldl (fun n c => max n (c.2 + 1)) 0
theorem rowsTo_shape (L : List Col) : rowsTo L L.length = rowsS (L.map (·.2.2)) := by
  unfold rowsTo rowsS; rw [List.take_length, List.foldl_map]

def shOk (S : List (Bool × Int)) (kind size wide : Nat) : Bool :=
  decide (0 ≤ rowsS S) && decide (rowsS S ≤ 4) && S.all (fun c => decide (0 ≤ c.2) && decide (c.2 < rowsS S)) &&
  (List.range 4).all (fun r => !decide ((r : Int) < rowsS S) || (S.filter (fun c => c.1 && c.2 == (r : Int))).length == kind) &&
  (S.filter (fun c => !c.1)).length == (if kind == 0 then size * wide else size) && (kind != 0 || rowsS S == (size : Int))

theorem mir_ok : ∀ w ∈ List.range 9, ∀ s ∈ List.range 5, 0 < w → 0 < s → shOk ((mirror 0 0 w s).map (·.2.2)) 0 s w = true := by decide +kernel
theorem par_ok : ∀ w ∈ List.range 9, ∀ s ∈ List.range 5, 3 ≤ w → 0 < s → shOk ((parTo 0 w 0 s).map (·.2.2)) 1 s w = true := by decide +kernel
theorem par_near : ∀ w ∈ List.range 9, ∀ s ∈ List.range 5, 3 ≤ w → ∀ i ∈ List.range 9, ∀ j ∈ List.range i, (((parTo 0 w 0 s).map (·.2.2))[i]?.isSome = true) →
    (((parTo 0 w 0 s).map (·.2.2))[j]?.map (·.2)) = (((parTo 0 w 0 s).map (·.2.2))[i]?.map (·.2)) → i < j + w := by decide +kernel

/-- The data columns of rows below r. -/
def dN (L : List Col) (r : Int) : Nat := (L.filter (fun x => !x.2.2.1 && decide (x.2.2.2 < r))).length
theorem dN_step (L : List Col) (r : Int) : dN L (r + 1) = dN L r + (L.filter (fun x => x.2.2.2 == r && !x.2.2.1)).length := by
  unfold dN
  induction L with
  | nil => rfl
  | cons y L ih =>
    rcases Int.lt_trichotomy y.2.2.2 r with h1 | h1 | h1
    · have a1 : decide (y.2.2.2 < r + 1) = true := by simp; omega
      have a2 : decide (y.2.2.2 < r) = true := by simp; omega
      have a3 : (y.2.2.2 == r) = false := by simp; omega
      cases hp : y.2.2.1 <;> simp [List.filter_cons, a1, a2, a3, hp, ih] <;> omega
    · have a1 : decide (y.2.2.2 < r + 1) = true := by simp; omega
      have a2 : decide (y.2.2.2 < r) = false := by simp; omega
      have a3 : (y.2.2.2 == r) = true := by simp; omega
      cases hp : y.2.2.1 <;> simp [List.filter_cons, a1, a2, a3, hp, ih] <;> omega
    · have a1 : decide (y.2.2.2 < r + 1) = false := by simp; omega
      have a2 : decide (y.2.2.2 < r) = false := by simp; omega
      have a3 : (y.2.2.2 == r) = false := by simp; omega
      cases hp : y.2.2.1 <;> simp [List.filter_cons, a1, a2, a3, hp, ih] <;> omega

/-- The columns' shape, with what it says. -/
theorem cols_shape {gs : List (Int × Int)} {secs pg pa size : Int} (h : cMay gs secs pg pa size = true) :
    ∃ kind s w : Nat, (grAt gs pg).1 = kind ∧ (grAt gs pg).2 = w ∧ size = s ∧ 1 ≤ w ∧ w ≤ 8 ∧ 1 ≤ s ∧ s ≤ 4 ∧ (kind = 0 ∨ kind = 1) ∧ shOk ((colsOf gs secs pg pa size).map (·.2.2)) kind s w = true := by
  obtain ⟨hhas, hz1, hz2, hp1, hp2, _⟩ := cMay_true h
  obtain ⟨sz, rfl⟩ := Int.eq_ofNat_of_zero_le (show 0 ≤ size by omega)
  obtain ⟨g, x, rfl, hk, hl4, hs1, hs2, hx, hgx, ho⟩ := gHas_true hhas
  obtain ⟨kd, wd⟩ := x
  rw [hgx]
  have ho' := gOne_true ho
  simp only at ho'
  obtain ⟨w, rfl⟩ := Int.eq_ofNat_of_zero_le (show 0 ≤ wd by omega)
  rcases ho' with ⟨rfl, h1, h2⟩ | ⟨rfl, h1, h2⟩
  · refine ⟨0, sz, w, rfl, rfl, rfl, by omega, by omega, by omega, by omega, .inl rfl, ?_⟩
    have : colsOf gs secs g pa sz = mirror (gFirst gs secs g) pa w sz := by unfold colsOf; rw [hgx]; rfl
    rw [this, mirror_shape]
    exact mir_ok w (by simp; omega) sz (by simp; omega) (by omega) (by omega)
  · refine ⟨1, sz, w, rfl, rfl, rfl, by omega, by omega, by omega, by omega, .inr rfl, ?_⟩
    have : colsOf gs secs g pa sz = parTo (gFirst gs secs g) w pa sz := by unfold colsOf; rw [hgx]; rfl
    rw [this, parTo_shape]
    exact par_ok w (by simp; omega) sz (by simp; omega) (by omega) (by omega)

theorem filter_shape (L : List Col) (p : Bool × Int → Bool) : ((L.map (·.2.2)).filter p).length = (L.filter (fun x => p x.2.2)).length := by
  rw [List.filter_map, List.length_map]; rfl

theorem rows_pure {gs : List (Int × Int)} {secs pg pa size : Int} (h : cMay gs secs pg pa size = true) :
    ∃ (kind s w R : Nat), (grAt gs pg).1 = kind ∧ (grAt gs pg).2 = w ∧ size = s ∧ 1 ≤ w ∧ w ≤ 8 ∧ 1 ≤ s ∧ s ≤ 4 ∧ (kind = 0 ∨ kind = 1) ∧
      rowsTo (colsOf gs secs pg pa size) (colsOf gs secs pg pa size).length = R ∧ R ≤ 4 ∧
      (∀ x ∈ colsOf gs secs pg pa size, 0 ≤ x.2.2.2 ∧ x.2.2.2 ≤ 100 ∧ x.2.2.2 < R) ∧
      (∀ r : Nat, r < R → ((colsOf gs secs pg pa size).filter (fun x => x.2.2.2 == (r : Int) && x.2.2.1)).length = kind) ∧
      dN (colsOf gs secs pg pa size) R = (if kind = 0 then s * w else s) ∧ (kind = 0 → R = s) := by
  obtain ⟨kind, s, w, e1, e2, e3, h1, h2, h3, h4, hk, hok⟩ := cols_shape h
  unfold shOk at hok
  rw [← rowsTo_shape] at hok
  generalize colsOf gs secs pg pa size = L at *
  simp only [Bool.and_eq_true, decide_eq_true_eq, List.all_eq_true, Bool.or_eq_true, Bool.not_eq_true', decide_eq_false_iff_not, beq_iff_eq, bne_iff_ne, List.mem_range] at hok
  obtain ⟨⟨⟨⟨⟨o1, o2⟩, o3⟩, o4⟩, o5⟩, o6⟩ := hok
  obtain ⟨R, hR⟩ := Int.eq_ofNat_of_zero_le o1
  rw [hR] at o2 o3 o4 o6
  have o3' : ∀ x ∈ L, 0 ≤ x.2.2.2 ∧ x.2.2.2 < R := fun x hx => o3 x.2.2 (List.mem_map.2 ⟨x, hx, rfl⟩)
  refine ⟨kind, s, w, R, e1, e2, e3, h1, h2, h3, h4, hk, hR, by omega, fun x hx => ⟨(o3' x hx).1, by have := (o3' x hx).2; omega, (o3' x hx).2⟩, fun r hr => ?_, ?_, ?_⟩
  · rcases o4 r (by omega) with h5 | h5
    · omega
    · rw [filter_shape] at h5
      rw [← h5]
      congr 1
      apply List.filter_congr
      intro x _
      cases x.2.2.1 <;> simp
  · rw [filter_shape] at o5
    unfold dN
    have : L.filter (fun x => !x.2.2.1 && decide (x.2.2.2 < (R : Int))) = L.filter (fun x => !x.2.2.1) := by
      apply List.filter_congr
      intro x hx
      have := (o3' x hx).2
      simp [this]
    rw [this, o5]
  · intro hk0
    rcases o6 with h5 | h5
    · exact absurd hk0 h5
    · omega

theorem row_devs {gs : List (Int × Int)} {secs pg pa size : Int} (h : cMay gs secs pg pa size = true) {j i : Nat} {x y : Col} (hji : j < i)
    (hx : (colsOf gs secs pg pa size)[j]? = some x) (hy : (colsOf gs secs pg pa size)[i]? = some y) (hr : x.2.2.2 = y.2.2.2) : x.1 ≠ y.1 := by
  obtain ⟨hhas, hz1, hz2, hp1, hp2, _⟩ := cMay_true h
  obtain ⟨sz, rfl⟩ := Int.eq_ofNat_of_zero_le (show 0 ≤ size by omega)
  obtain ⟨g, z, rfl, hk, hl4, hs1, hs2, hz, hgz, ho⟩ := gHas_true hhas
  obtain ⟨kd, wd⟩ := z
  have ho' := gOne_true ho
  simp only at ho'
  obtain ⟨w, rfl⟩ := Int.eq_ofNat_of_zero_le (show 0 ≤ wd by omega)
  rcases ho' with ⟨rfl, h1, h2⟩ | ⟨rfl, h1, h2⟩
  · have hL : colsOf gs secs g pa sz = mirror (gFirst gs secs g) pa w sz := by unfold colsOf; rw [hgz]; rfl
    rw [hL] at hx hy
    obtain ⟨rfl, _⟩ := mirror_get hx (by omega)
    obtain ⟨rfl, _⟩ := mirror_get hy (by omega)
    simp only [mcol] at hr ⊢
    intro he
    have e1 : j / sz = i / sz := by omega
    have e2 : j % sz = i % sz := by omega
    have := Nat.div_add_mod j sz
    have := Nat.div_add_mod i sz
    rw [e1, e2] at *
    omega
  · have hL : colsOf gs secs g pa sz = parTo (gFirst gs secs g) w pa sz := by unfold colsOf; rw [hgz]; rfl
    rw [hL] at hx hy
    obtain ⟨p1, r1, e1⟩ := parTo_get _ _ _ _ _ _ hx
    obtain ⟨p2, r2, e2⟩ := parTo_get _ _ _ _ _ _ hy
    have hsh := parTo_shape (gFirst gs secs g) w pa sz
    have hxs : ((parTo 0 w 0 sz).map (·.2.2))[j]? = some x.2.2 := by rw [← hsh, List.getElem?_map, hx]; rfl
    have hys : ((parTo 0 w 0 sz).map (·.2.2))[i]? = some y.2.2 := by rw [← hsh, List.getElem?_map, hy]; rfl
    have hlen := parTo_len (gFirst gs secs g) w pa sz
    have hil := (List.getElem?_eq_some_iff.1 hy).1
    have := par_near w (by simp; omega) sz (by simp; omega) (by omega) i (by simp; omega) j (by simp; omega) (by rw [hys]; rfl) (by rw [hxs, hys]; simp [hr])
    rw [e1, e2]
    simp only [pcol]
    intro he
    have hm : (pa + (j : Int)) % (w : Int) = (pa + (i : Int)) % (w : Int) := by omega
    have hw : w = 3 ∨ w = 4 ∨ w = 5 ∨ w = 6 ∨ w = 7 ∨ w = 8 := by omega
    rcases hw with rfl | rfl | rfl | rfl | rfl | rfl <;> omega

/-- What the law keeps of a row: the devices so far. -/
def rowDevs (L : List Col) (r : Int) (i : Nat) : List Int := ((L.take i).filter (fun x => x.2.2.2 == r)).map (·.1)
theorem rowDevs_skip {L : List Col} {r : Int} {i : Nat} {x : Col} (hx : L[i]? = some x) (hr : (x.2.2.2 == r) = false) : rowDevs L r (i + 1) = rowDevs L r i := by
  unfold rowDevs; rw [List.take_add_one, hx]; simp [List.filter_append, hr]
theorem rowDevs_take {L : List Col} {r : Int} {i : Nat} {x : Col} (hx : L[i]? = some x) (hr : (x.2.2.2 == r) = true) : rowDevs L r (i + 1) = rowDevs L r i ++ [x.1] := by
  unfold rowDevs; rw [List.take_add_one, hx]; simp [List.filter_append, hr]
theorem rowDevs_mem {L : List Col} {r : Int} {i k : Nat} {d : Int} (h : (rowDevs L r i)[k]? = some d) : ∃ (j : Nat) (x : Col), j < i ∧ L[j]? = some x ∧ x.2.2.2 = r ∧ x.1 = d := by
  have hm := List.mem_of_getElem? h
  unfold rowDevs at hm
  rw [List.mem_map] at hm
  obtain ⟨x, hx, e⟩ := hm
  obtain ⟨hx1, hx2⟩ := List.mem_filter.1 hx
  obtain ⟨j, hj⟩ := List.mem_iff_getElem?.1 hx1
  rw [List.getElem?_take] at hj
  split at hj
  · exact ⟨j, x, by assumption, hj, by simpa using hx2, e⟩
  · cases hj
theorem rowDevs_len (L : List Col) (r : Int) (i : Nat) : (rowDevs L r i).length ≤ i := by
  unfold rowDevs; rw [List.length_map]; exact Nat.le_trans (List.length_filter_le _ _) (by rw [List.length_take]; omega)
def rowPars (L : List Col) (r : Int) (i : Nat) : Nat := ((L.take i).filter (fun x => x.2.2.2 == r && x.2.2.1)).length
def rowData (L : List Col) (r : Int) (i : Nat) : Nat := ((L.take i).filter (fun x => x.2.2.2 == r && !x.2.2.1)).length
theorem rowPars_next {L : List Col} {r : Int} {i : Nat} {x : Col} (hx : L[i]? = some x) : rowPars L r (i + 1) = rowPars L r i + if x.2.2.2 == r && x.2.2.1 then 1 else 0 := by
  unfold rowPars; rw [List.take_add_one, hx]; cases h : (x.2.2.2 == r && x.2.2.1) <;> simp [List.filter_append, List.filter_cons, h]
theorem rowData_next {L : List Col} {r : Int} {i : Nat} {x : Col} (hx : L[i]? = some x) : rowData L r (i + 1) = rowData L r i + if x.2.2.2 == r && !x.2.2.1 then 1 else 0 := by
  unfold rowData; rw [List.take_add_one, hx]; cases h : (x.2.2.2 == r && !x.2.2.1) <;> simp [List.filter_append, List.filter_cons, h]
theorem rowPars_le (L : List Col) (r : Int) (i : Nat) : rowPars L r i ≤ L.length := by
  unfold rowPars; exact Nat.le_trans (List.length_filter_le _ _) (by rw [List.length_take]; omega)
theorem rowData_le (L : List Col) (r : Int) (i : Nat) : rowData L r i ≤ L.length := by
  unfold rowData; exact Nat.le_trans (List.length_filter_le _ _) (by rw [List.length_take]; omega)
theorem dN_le (L : List Col) (r : Int) : dN L r ≤ L.length := by unfold dN; exact List.length_filter_le _ _
end Go.Proofs.Ytefhmemmfajbfaa

namespace Go.Proofs.Ytefhmemmfajbfaa
set_option linter.unusedVariables false
set_option linter.unusedSimpArgs false

theorem par_data : ∀ w ∈ List.range 9, ∀ s ∈ List.range 5, 3 ≤ w → 0 < s → (((parTo 0 w 0 s).map (·.2.2)).all fun c => !c.1 || ((parTo 0 w 0 s).map (·.2.2)).any fun c' => !c'.1 && c'.2 == c.2) = true := by decide +kernel
theorem mir_data : ∀ w ∈ List.range 9, ∀ s ∈ List.range 5, 0 < w → 0 < s → (((mirror 0 0 w s).map (·.2.2)).all fun c => !c.1 || ((mirror 0 0 w s).map (·.2.2)).any fun c' => !c'.1 && c'.2 == c.2) = true := by decide +kernel
theorem data_shape {gs : List (Int × Int)} {secs pg pa size : Int} (h : cMay gs secs pg pa size = true) {c : Col} (hc : c ∈ colsOf gs secs pg pa size) (hp : c.2.2.1 = true) : ∃ e ∈ colsOf gs secs pg pa size, e.2.2.1 = false ∧ e.2.2.2 = c.2.2.2 := by
  have key : (((colsOf gs secs pg pa size).map (·.2.2)).all fun c => !c.1 || ((colsOf gs secs pg pa size).map (·.2.2)).any fun c' => !c'.1 && c'.2 == c.2) = true := by
    obtain ⟨hhas, hz1, hz2, hp1, hp2, _⟩ := cMay_true h
    obtain ⟨sz, rfl⟩ := Int.eq_ofNat_of_zero_le (show 0 ≤ size by omega)
    obtain ⟨g, x, rfl, hk, hl4, hs1, hs2, hx, hgx, ho⟩ := gHas_true hhas
    obtain ⟨kd, wd⟩ := x
    have ho' := gOne_true ho
    simp only at ho'
    obtain ⟨w, rfl⟩ := Int.eq_ofNat_of_zero_le (show 0 ≤ wd by omega)
    rcases ho' with ⟨rfl, h1, h2⟩ | ⟨rfl, h1, h2⟩
    · have : colsOf gs secs g pa sz = mirror (gFirst gs secs g) pa w sz := by unfold colsOf; rw [hgx]; rfl
      rw [this, mirror_shape]
      exact mir_data w (by simp; omega) sz (by simp; omega) (by omega) (by omega)
    · have : colsOf gs secs g pa sz = parTo (gFirst gs secs g) w pa sz := by unfold colsOf; rw [hgx]; rfl
      rw [this, parTo_shape]
      exact par_data w (by simp; omega) sz (by simp; omega) (by omega) (by omega)
  have h1 := List.all_eq_true.1 key c.2.2 (List.mem_map.2 ⟨c, hc, rfl⟩)
  rw [hp, Bool.not_true, Bool.false_or, List.any_eq_true] at h1
  obtain ⟨y, hy, h2⟩ := h1
  obtain ⟨e, he, rfl⟩ := List.mem_map.1 hy
  simp only [Bool.and_eq_true, Bool.not_eq_true', beq_iff_eq] at h2
  exact ⟨e, he, h2⟩
theorem mem_rowIx {L : List Col} {no : Int} {i : Nat} {c : Col} (h : L[i]? = some c) (h1 : c.2.2.2 = no) (h2 : c.2.2.1 = false) : i ∈ rowIx L no := by
  unfold rowIx
  refine List.mem_filter.2 ⟨List.mem_range.2 (List.getElem?_eq_some_iff.1 h).1, ?_⟩
  simp [h, h1, h2]
theorem even_all {l : List (List UInt8)} {n : Nat} (hne : l ≠ []) (h : ∀ x ∈ l, x.length = n) : (makeS l).length = n := by
  have hh : (l.headD []).length = n := by
    cases l with
    | nil => exact absurd rfl hne
    | cons a r => exact h a List.mem_cons_self
  have he : evenB l = true := by
    unfold evenB
    rw [List.all_eq_true]
    intro x hx
    rw [h x hx, hh]
    exact beq_self_eq_true _
  unfold makeS
  rw [if_pos ⟨hne, he⟩, parN_len (fun x hx => by rw [h x hx, hh]), hh]
theorem outD_64 {L : List Col} {data : List (List UInt8)} (h0 : 0 < data.length) (h : ∀ x ∈ data, x.length = 64) {i : Nat} {c : Col} (hc : L[i]? = some c) (hp : c.2.2.1 = false) : (outD L data i).length = 64 := by
  rw [outD_data hc hp, List.getD_eq_getElem?_getD]
  have hlt : dataCnt L i % data.length < data.length := Nat.mod_lt _ h0
  rw [List.getElem?_eq_getElem hlt]
  exact h _ (List.getElem_mem hlt)
theorem encL_64 {gs : List (Int × Int)} {secs pg pa : Int} {s : List UInt8} (h : cMay gs secs pg pa (secN s) = true) : ∀ t ∈ encL gs secs pg pa s, t.length = 64 := by
  have h0 : 0 < (secsL s).length := by
    rw [secsL_len]
    have := (cMay_true h).2.1
    omega
  have h64 : ∀ x ∈ secsL s, x.length = 64 := fun x hx => by
    obtain ⟨i, hi⟩ := List.mem_iff_getElem?.1 hx
    have hil : i < secN s := by have := (List.getElem?_eq_some_iff.1 hi).1; rwa [secsL_len] at this
    rw [secsL_at hil] at hi
    cases hi
    exact secAt_len hil
  intro t ht
  unfold encL at ht
  rw [show ofList gs secs pg pa (secN s) = colsOf gs secs pg pa (secN s) by unfold ofList; rw [if_pos h]] at ht
  obtain ⟨i, hi, rfl⟩ := List.mem_map.1 ht
  have hi := List.mem_range.1 hi
  have hc := List.getElem?_eq_getElem hi
  obtain ⟨c, hcc⟩ : ∃ c, (colsOf gs secs pg pa (secN s))[i]? = some c := ⟨_, hc⟩
  cases hp : c.2.2.1 with
  | false => rw [outE_data hcc hp]; exact outD_64 h0 h64 hcc hp
  | true =>
    rw [outE_par hcc hp]
    obtain ⟨e, he, h1, h2⟩ := data_shape h (List.mem_of_getElem? hcc) hp
    obtain ⟨j, hj⟩ := List.mem_iff_getElem?.1 he
    refine even_all (fun hn => ?_) (fun x hx => ?_)
    · have := mem_rowIx hj h2 h1
      rw [List.map_eq_nil_iff] at hn
      rw [hn] at this
      cases this
    · obtain ⟨q, hq, rfl⟩ := List.mem_map.1 hx
      obtain ⟨f, hf, _, hff⟩ := rowIx_spec hq
      exact outD_64 h0 h64 hf hff
theorem encL_len (gs : List (Int × Int)) (secs pg pa : Int) (s : List UInt8) : (encL gs secs pg pa s).length = (ofList gs secs pg pa (secN s)).length := by
  unfold encL
  rw [List.length_map, List.length_range]
/-- A block can be written. -/
theorem encE_zero {gs : List (Int × Int)} {secs pg pa : Int} {s : List UInt8} (h : encE gs secs pg pa s = 0) : secOk s = true ∧ cMay gs secs pg pa (secN s) = true ∧ encS gs secs pg pa s = encL gs secs pg pa s := by
  unfold encE at h
  cases hs : secOk s with
  | false => rw [hs] at h; simp at h
  | true =>
    rw [hs] at h
    simp only [if_true] at h
    refine ⟨rfl, ?_, by unfold encS; rw [hs, h]; rfl⟩
    unfold ofErr at h
    split at h
    · assumption
    · cases h
theorem encE_one {gs : List (Int × Int)} {secs pg pa : Int} {s : List UInt8} (h : encE gs secs pg pa s ≠ 0) : encE gs secs pg pa s = 1 := by
  unfold encE at *
  split
  · rename_i hs
    rw [if_pos hs] at h
    unfold ofErr at *
    split
    · rename_i h1; rw [if_pos h1] at h; exact absurd rfl h
    · rfl
  · rfl
end Go.Proofs.Ytefhmemmfajbfaa

namespace Go.Proofs.Ytefhmemmfajbfaa
set_option linter.unusedVariables false
set_option linter.unusedSimpArgs false
open Go.RowKit

def fitP (s : List UInt8) : Bool := !s.isEmpty && ((s.length : Int) != 64)
def fitsB (gs : List (Int × Int)) (secs pg pa size : Int) (got : List (List UInt8)) : Bool := cMay gs secs pg pa size && (got.length == (colsOf gs secs pg pa size).length) && !got.any fitP
def badL (gs : List (Int × Int)) (secs pg pa : Int) (s : List UInt8) (got : List (List UInt8)) : List Nat :=
  if decide (encE gs secs pg pa s = 0) && fitsB gs secs pg pa (secN s) got then (List.range (encL gs secs pg pa s).length).filter fun i => (encL gs secs pg pa s).getD i [] != got.getD i [] else []
theorem fitOne_any (s : List UInt8) (w : World) : Calls Try.prog 33 #[str s] w fun e w' => e = .returned (.bool (fitP s)) ∧ Below w.heap.size w w' := by
  by_cases h : s = []
  · subst h
    go_enter Try.func33, Try.ntmps33
    go_wp2_with fail
    go_ret
    exact ⟨rfl, Below.refl _ _⟩
  · have hb : s.isEmpty = false := by simpa using h
    cases h2 : ((s.length : Int) != 64) with
    | false =>
      have HF : Hid (fitP s = false) := Lib.hid (by unfold fitP; rw [hb, h2]; rfl)
      go_enter Try.func33, Try.ntmps33
      go_wp2_with fail
      go_ret
      exact ⟨by rw [HF.out]; rfl, Below.refl _ _⟩
    | true =>
      have HF : Hid (fitP s = true) := Lib.hid (by unfold fitP; rw [hb, h2]; rfl)
      go_enter Try.func33, Try.ntmps33
      go_wp2_with fail
      go_ret
      exact ⟨by rw [HF.out]; rfl, Below.refl _ _⟩
theorem goesFit : ∀ (args : Array Value) (w : World), (callFunc 33 args).run Try.prog w = .ok (.enter 33 args) w := enters_of Try.func33 (by kernel_rfl) (by kernel_rfl)
theorem ofList_bad {gs : List (Int × Int)} {secs pg pa size : Int} (h : ofErr gs secs pg pa size ≠ 0) : cMay gs secs pg pa size = false := by
  unfold ofErr at h
  split at h
  · exact absurd rfl h
  · rename_i h2; simpa using h2
theorem ofErr_ok {gs : List (Int × Int)} {secs pg pa size : Int} (h : ofErr gs secs pg pa size = 0) : cMay gs secs pg pa size = true ∧ ofList gs secs pg pa size = colsOf gs secs pg pa size := by
  unfold ofErr at h
  split at h
  · rename_i h2; exact ⟨h2, by unfold ofList; rw [if_pos h2]⟩
  · cases h
set_option maxRecDepth 20000 in
theorem fits_any (A : Option Addr) (m cc : Nat) (gs : List (Int × Int)) (secs pg pa size : Int) {gv : Value} {got : List (List UInt8)} {w : World} (hg : GeoAt w A m gs) (hs : SlAt w gv got.length (strC got)) :
    Calls Try.prog 16 #[.agg #[.slice A m cc, .int .i64 secs], .agg #[.int .i64 pg, .int .i64 pa], .int .i64 size, gv] w fun e w' => e = .returned (.bool (fitsB gs secs pg pa size got)) ∧ Below w.heap.size w w' := by
  obtain ⟨w2, hw2⟩ : ∃ z, (w.alloc (.cells #[.slice A m cc, .int .i64 secs] 24)).alloc (.cells #[.int .i64 pg, .int .i64 pa] 26) = z := ⟨_, rfl⟩
  have D2 : Below w.heap.size w w2 := by rw [← hw2]; exact keep_alloc (keep_alloc (Below.refl _ _) _) _
  have HO := Lib.hid (of_any A m cc gs secs pg pa size w2 (hg.below D2 (Nat.le_refl _)))
  have HSL := Lib.hid (hs.below D2)
  obtain ⟨Ag, cg, rfl⟩ := hs.form
  have HD2 := Lib.hid D2
  have HW2 := Lib.hid hw2
  clear hg hs D2 hw2
  obtain ⟨oe, hoe0⟩ : ∃ oe, ofErr gs secs pg pa size = oe := ⟨_, rfl⟩
  rw [hoe0] at HO
  have HOE := Lib.hid hoe0
  clear hoe0
  go_enter Try.func16, Try.ntmps16
  go_wp2_with fail
  rw [HW2.out]
  refine HO.out.mono ?_
  rintro e w3 ⟨cv, rfl, hcol, hb3⟩
  have HB3 := Lib.hid (keep_below hb3 HD2.out)
  by_cases hoe : oe = 0
  · subst hoe
    obtain ⟨z1, z2⟩ := ofErr_ok HOE.out
    rw [z2] at hcol
    obtain ⟨Ac, ccap, rfl⟩ := (slAt_own hcol).form
    have hF : fitsB gs secs pg pa size got = ((got.length == (colsOf gs secs pg pa size).length) && !got.any fitP) := by unfold fitsB; rw [z1, Bool.true_and]
    have h64 : (colsOf gs secs pg pa size).length ≤ 64 := by rw [← z2]; exact ofList_le _ _ _ _ _
    obtain ⟨ln, hln⟩ : ∃ ln, (colsOf gs secs pg pa size).length = ln := ⟨_, rfl⟩
    rw [hln] at hF h64
    rw [hln]
    have HF := Lib.hid hF
    have HS3 := Lib.hid (HSL.out.below hb3)
    clear hcol hb3 z1 z2 hF hln
    by_cases hq : got.length = ln
    · have hd : ((got.length : Int) != ln) = false := by rw [bne_eq_false_iff_eq]; omega
      have HQ : Hid ((got.length == ln) = true) := Lib.hid (beq_iff_eq.2 hq)
      have hcon := Lib.hid (conStr_any 33 #[] fitP HS3.out (by omega) goesFit (fun x W _ _ => fitOne_any x W))
      clear hq
      go_wp2_with fail
      refine hcon.out.mono ?_
      rintro e w4 ⟨rfl, hb4⟩
      have HB4 := Lib.hid (keep_below hb4 HB3.out)
      clear hb4
      go_wp2_with fail
      go_ret
      exact ⟨by rw [HF.out, HQ.out]; rfl, HB4.out⟩
    · have hd : ((got.length : Int) != ln) = true := by rw [bne_iff_ne]; omega
      have HQ : Hid ((got.length == ln) = false) := Lib.hid (beq_eq_false_iff_ne.2 hq)
      clear hq
      go_wp2_with fail
      go_ret
      exact ⟨by rw [HF.out, HQ.out]; rfl, HB3.out⟩
  · have hne : (oe != 0) = true := bne_iff_ne.2 hoe
    have hF : fitsB gs secs pg pa size got = false := by unfold fitsB; rw [ofList_bad (by rw [HOE.out]; exact hoe)]; rfl
    have HF := Lib.hid hF
    clear hcol hb3 hoe hF
    go_wp2_with fail
    go_ret
    exact ⟨by rw [HF.out]; rfl, HB3.out⟩
theorem own_base {W : World} {base base' : Nat} {e : TypeId} {size : Nat} {v : Value} {k : Nat} {xs : List Value} (h : W.ownsRow base e size v k xs) (hb : base' ≤ base) : W.ownsRow base' e size v k xs := by
  refine ⟨h.1, ?_⟩
  rcases h.2 with h2 | ⟨g, cap, cur, e1, e2, r⟩
  · exact .inl h2
  · exact .inr ⟨g, cap, cur, e1, Nat.le_trans hb e2, r⟩
/-- The bad ones, as far as k. -/
def badTo (T got : List (List UInt8)) (k : Nat) : List Nat := (List.range k).filter fun i => T.getD i [] != got.getD i []
theorem badTo_step {T got : List (List UInt8)} {k : Nat} {a b : List UInt8} (ha : T[k]? = some a) (hb : got[k]? = some b) : badTo T got (k + 1) = badTo T got k ++ if a != b then [k] else [] := by
  unfold badTo
  rw [List.range_succ, List.filter_append]
  congr 1
  simp [List.getD_eq_getElem?_getD, ha, hb, List.filter_cons]
theorem badTo_len (T got : List (List UInt8)) (k : Nat) : (badTo T got k).length ≤ k := by
  unfold badTo
  exact Nat.le_trans (List.length_filter_le _ _) (by simp)
set_option maxRecDepth 20000 in
set_option maxHeartbeats 1000000 in
theorem bad_any (A : Option Addr) (m cc : Nat) (gs : List (Int × Int)) (secs pg pa : Int) (s : List UInt8) {gv : Value} {got : List (List UInt8)} {w : World} (hg : GeoAt w A m gs) (hs : SlAt w gv got.length (strC got)) (hl : s.length ≤ 1000) :
    Calls Try.prog 15 #[.agg #[.slice A m cc, .int .i64 secs], .agg #[.int .i64 pg, .int .i64 pa], str s, gv] w fun e w' => ∃ v, e = .returned v ∧ w'.ownsRow w.heap.size 3 1 v (badL gs secs pg pa s got).length (ixC (badL gs secs pg pa s got)) ∧ Below w.heap.size w w' := by
  obtain ⟨w2, hw2⟩ : ∃ z, (w.alloc (.cells #[.slice A m cc, .int .i64 secs] 24)).alloc (.cells #[.int .i64 pg, .int .i64 pa] 26) = z := ⟨_, rfl⟩
  have G2 : Blk w2 w.heap.size 24 #[.slice A m cc, .int .i64 secs] := by rw [← hw2]; exact (Blk.new _ _ _).alloc _
  have P2 : Blk w2 (w.heap.size + 1) 26 #[.int .i64 pg, .int .i64 pa] := by rw [← hw2]; exact Blk.new2 w _ _ _
  have D2 : Below w.heap.size w w2 := by rw [← hw2]; exact keep_alloc (keep_alloc (Below.refl _ _) _) _
  have HE := Lib.hid (encode_any A m cc gs secs pg pa s (hg.below D2 (Nat.le_refl _)) (by omega))
  have HSL := Lib.hid (hs.below D2)
  obtain ⟨Ag, cg, rfl⟩ := hs.form
  have HG := Lib.hid hg
  have HG2 := Lib.hid G2
  have HP2 := Lib.hid P2
  have HD2 := Lib.hid D2
  have HW2 := Lib.hid hw2
  have HL := Lib.hid hl
  clear hg hs D2 hw2 G2 P2 hl
  obtain ⟨E, hE⟩ : ∃ E, encE gs secs pg pa s = E := ⟨_, rfl⟩
  rw [hE] at HE
  have HEE := Lib.hid hE
  clear hE
  obtain ⟨i0, hi, hz0, hz1, hz2⟩ := info_parts Try.infoIntR
  go_enter Try.func15, Try.ntmps15
  go_wp2_with fail
  rw [HW2.out]
  refine HE.out.mono ?_
  rintro e w3 ⟨tv, rfl, htv, hb3, hnew⟩
  have HB3 := Lib.hid (keep_below hb3 HD2.out)
  by_cases hz : E = 0
  · subst hz
    obtain ⟨e1, e2, e3⟩ := encE_zero HEE.out
    rw [e3] at htv
    obtain ⟨At, ct, rfl⟩ := htv.form
    have HF := Lib.hid (fits_any A m cc gs secs pg pa (secN s) (HG.out.below HB3.out (Nat.le_refl _)) (HSL.out.below hb3))
    have HT := Lib.hid htv
    have HS3 := Lib.hid (HSL.out.below hb3)
    have g0 := (HG2.out.below hb3 HG2.out.lt).at_ (i := 0) (v := .slice A m cc) rfl
    have g1 := (HG2.out.below hb3 HG2.out.lt).at_ (i := 1) (v := .int .i64 secs) rfl
    have p0 := (HP2.out.below hb3 HP2.out.lt).at_ (i := 0) (v := .int .i64 pg) rfl
    have p1 := (HP2.out.below hb3 HP2.out.lt).at_ (i := 1) (v := .int .i64 pa) rfl
    have hq : Int.tdiv (s.length : Int) 64 = (secN s : Int) := rfl
    have hs15 : secN s ≤ 15 := by have := HL.out; unfold secN; omega
    obtain ⟨fb, hfb⟩ : ∃ fb, fitsB gs secs pg pa (secN s) got = fb := ⟨_, rfl⟩
    rw [hfb] at HF
    have hBL : badL gs secs pg pa s got = if fb then badTo (encL gs secs pg pa s) got (encL gs secs pg pa s).length else [] := by
      unfold badL badTo
      rw [HEE.out, hfb]
      simp
    have hlen : fb = true → got.length = (encL gs secs pg pa s).length ∧ (encL gs secs pg pa s).length ≤ 64 := fun h => by
      rw [h] at hfb
      unfold fitsB at hfb
      simp only [Bool.and_eq_true, beq_iff_eq] at hfb
      rw [encL_len]
      refine ⟨?_, ofList_le _ _ _ _ _⟩
      unfold ofList
      rw [if_pos e2]
      exact hfb.1.2
    have HBL := Lib.hid (And.intro hBL hlen)
    clear hfb hBL hlen e1 e2 e3 htv hb3 hnew
    obtain ⟨T, hT⟩ : ∃ T, encL gs secs pg pa s = T := ⟨_, rfl⟩
    rw [hT] at HT HBL
    rw [hT]
    clear hT
    go_wp2_with fail
    refine HF.out.mono ?_
    rintro e w4 ⟨rfl, hb4⟩
    have HT4 := Lib.hid (HT.out.below hb4)
    have HS4 := Lib.hid (HS3.out.below hb4)
    have HB4 := Lib.hid (keep_below hb4 HB3.out)
    clear g0 g1 p0 p1 hb4
    cases fb with
    | false =>
      go_wp2_with fail
      go_ret
      rw [HBL.out.1]
      exact ⟨_, rfl, World.ownsRow_nil _ _ _ _, HB4.out⟩
    | true =>
      obtain ⟨hl1, hl2⟩ := HBL.out.2 rfl
      have HL1 := Lib.hid hl1
      clear hl1
      go_wp2_with fail
      go_loopw [11, 12, 34] (fun v _ t wr => ∃ k : Nat, k ≤ T.length ∧ t = .int .i64 k ∧ wr.ownsRow w4.heap.size 3 1 v (badTo T got k).length (ixC (badTo T got k)) ∧ Below w4.heap.size w4 wr) (fun _ _ t _ => T.length - (RowKit.intOf t).toNat)
      case atStart => exact ⟨0, Nat.zero_le _, rfl, World.ownsRow_nil _ _ _ _, Below.refl _ _⟩
      case round =>
        obtain ⟨k, hk, rfl, hown, hb⟩ := hrel
        by_cases hlt : k < T.length
        · obtain ⟨a, ha⟩ : ∃ a, T[k]? = some a := ⟨_, List.getElem?_eq_getElem hlt⟩
          obtain ⟨b, hbb⟩ : ∃ b, got[k]? = some b := ⟨_, List.getElem?_eq_getElem (by rw [HL1.out]; exact hlt)⟩
          obtain ⟨b1, o1, rfl, hl3, hc1⟩ := HT4.out.cells (by omega)
          obtain ⟨b2, o2, rfl, hl4, hc2⟩ := HS4.out.cells (by rw [HL1.out]; omega)
          have e1 := hc1 k (str a) (strC_at ha)
          have e2 := hc2 k (str b) (strC_at hbb)
          have hst := badTo_step ha hbb
          have hdc : decide (k < T.length) = true := decide_eq_true hlt
          have hkg : k < got.length := by rw [HL1.out]; exact hlt
          have HB := Lib.hid hb
          have HO := Lib.hid hown
          have HLT := Lib.hid hlt
          have hbl := badTo_len T got k
          obtain ⟨C, hCd, hCw, hCB, hCK, hCD⟩ := cls_below wr
          have f1 : ∀ W, C W → W.cell? ⟨b1, o1 + k, none⟩ = some (str a) := fun W h => keep_cell (hCB W h) (keep_cell hb e1 hl3) (Nat.lt_of_lt_of_le hl3 hb.size)
          have f2 : ∀ W, C W → W.cell? ⟨b2, o2 + k, none⟩ = some (str b) := fun W h => keep_cell (hCB W h) (keep_cell hb e2 hl4) (Nat.lt_of_lt_of_le hl4 hb.size)
          clear hc1 hc2 e1 e2 ha hbb hb hown hCw hCK hCD hl3 hl4
          by_cases hab : a = b
          · have HST : Hid (badTo T got (k + 1) = badTo T got k) := Lib.hid (by rw [hst, hab]; simp)
            subst hab
            clear hst
            go_wp2_with fail
            refine wp_region_cls C (by kernel_rfl) (by kernel_rfl) hCd ?_
            repeat (first
              | go_big_quiet_skip
              | (go_big_quiet_want
                 go_big_quiet_op
                 first
                   | go_big_quiet_on
                   | (apply Exists.intro
                      refine ⟨fun W hW => ?_, ?_⟩
                      · first
                          | exact rfl
                          | exact ⟨rfl, rfl⟩
                          | (have e0 := f1 W hW; have e1 := f2 W hW; simp only [e0, e1, Result.andThen_ok]; done)
                          | (have e0 := f1 W hW; have e1 := f2 W hW; simp only [e0, e1, Result.andThen_ok]; first | exact ⟨trivial, rfl⟩ | exact rfl | exact ⟨rfl, rfl⟩)
                          | (skip)
                      go_big_quiet_on)))
            refine wpQuiet_nil ?_
            intro wz hwz
            have HBZ := Lib.hid (hCB wz hwz)
            clear f1 f2 hCd hCB hwz
            go_wp2_with fail
            go_roundw
            case rel => exact ⟨k + 1, HLT.out, by go_num, by rw [HST.out]; exact ownsRow_same HO.out (fun b hb => HBZ.out.block b (HO.out.lt b hb).2), HB.out.trans (HBZ.out.mono HB.out.size)⟩
            case measure => have := HLT.out; simp [RowKit.intOf]; omega
          · have HST : Hid (badTo T got (k + 1) = badTo T got k ++ [k]) := Lib.hid (by rw [hst]; simp [hab])
            have hab2 : (a == b) = false := beq_eq_false_iff_ne.2 hab
            have hab3 : (a != b) = true := bne_iff_ne.2 hab
            clear hst hab
            go_wp2_with fail
            refine wp_region_cls C (by kernel_rfl) (by kernel_rfl) hCd ?_
            repeat (first
              | go_big_quiet_skip
              | (go_big_quiet_want
                 go_big_quiet_op
                 first
                   | go_big_quiet_on
                   | (apply Exists.intro
                      refine ⟨fun W hW => ?_, ?_⟩
                      · first
                          | exact rfl
                          | exact ⟨rfl, rfl⟩
                          | (have e0 := f1 W hW; have e1 := f2 W hW; simp only [e0, e1, Result.andThen_ok]; done)
                          | (have e0 := f1 W hW; have e1 := f2 W hW; simp only [e0, e1, Result.andThen_ok]; first | exact ⟨trivial, rfl⟩ | exact rfl | exact ⟨rfl, rfl⟩)
                          | (skip)
                      go_big_quiet_on)))
            refine wpQuiet_nil ?_
            intro wz hwz
            have HBZ := Lib.hid (HB.out.trans ((hCB wz hwz).mono HB.out.size))
            have HOZ : Hid (wz.ownsRow w4.heap.size 3 1 u11 (badTo T got k).length (ixC (badTo T got k))) := Lib.hid (ownsRow_same HO.out (fun b hb => (hCB wz hwz).block b (HO.out.lt b hb).2))
            obtain ⟨q, hq'⟩ : ∃ q, badTo T got k = q := ⟨_, rfl⟩
            rw [hq'] at HOZ HST hbl
            clear f1 f2 hCd hCB hwz hq' HO
            go_wp2_with (at_builtin; refine wpList_append_own _ rfl _ _ 49 rfl w4.heap.size 3 i0 _ 1 8 Try.underlying49 hi hz0 hz1 hz2 rfl (by decide) _ _ _ rfl (HOZ.out.alloc _) ⟨wz.heap.size, 0, none⟩ 1 1 [.int .i64 k] rfl rfl ?c1 ?c2 (by unfold maxLen; omega) (by omega) ?c5 ?_)
            try (case c1 => exact one_new' _ _ _)
            case c2 => first | rfl | (intro u hu; simp at hu; subst hu; rfl)
            case c5 => have := HBZ.out.size; simp; omega
            intro v' w5 hown' hgrow _
            have hown5 : w5.ownsRow w4.heap.size 3 1 v' (badTo T got (k + 1)).length (ixC (badTo T got (k + 1))) := by
              rw [HST.out, ixC_snoc, List.length_append]
              exact hown'
            have hb5 : Below w4.heap.size w4 w5 := (HBZ.out.alloc HBZ.out.size _).grown hgrow (by have := HBZ.out.size; simp; omega) (fun k hk => (HOZ.out.lt k hk).1)
            have HO5 := Lib.hid hown5
            have HB5 := Lib.hid hb5
            clear hown' hgrow hown5 hb5
            go_wp2_with fail
            go_roundw
            case rel => exact ⟨k + 1, HLT.out, by go_num, HO5.out, HB5.out⟩
            case measure => have := HLT.out; simp [RowKit.intOf]; omega
        · obtain rfl : k = T.length := by omega
          have hdc : decide ((T.length : Int) < T.length) = false := decide_eq_false (by omega)
          have hBL : badL gs secs pg pa s got = badTo T got T.length := by rw [HBL.out.1]; simp
          rw [← hBL] at hown
          have HO := Lib.hid (own_base hown HB4.out.size)
          have HB := Lib.hid (keep_below hb HB4.out)
          clear hown hb hBL
          go_wp2_with fail
          go_ret
          exact ⟨_, rfl, HO.out, HB.out⟩
  · have hne : (E != 0) = true := bne_iff_ne.2 hz
    have hBL : badL gs secs pg pa s got = [] := by unfold badL; rw [decide_eq_false (by rw [HEE.out]; exact hz)]; rfl
    have HBL := Lib.hid hBL
    clear htv hb3 hnew hz hBL
    go_wp2_with fail
    go_ret
    rw [HBL.out]
    exact ⟨_, rfl, World.ownsRow_nil _ _ _ _, HB3.out⟩
end Go.Proofs.Ytefhmemmfajbfaa

namespace Go.Proofs.Ytefhmemmfajbfaa
set_option linter.unusedVariables false
set_option linter.unusedSimpArgs false
open Go.RowKit

theorem compact_inc (d : Array Int) (hs : ∀ i j, i ≤ j → j < d.size → d[i]! ≤ d[j]!) : ∀ m, m ≤ d.size →
    (Lib.compactUpTo d m).Pairwise (· < ·) ∧ ∀ x, x ∈ Lib.compactUpTo d m ↔ ∃ j, j < m ∧ d[j]! = x
  | 0, _ => by simp [Lib.compactUpTo]
  | m + 1, hm => by
    obtain ⟨h1, h2⟩ := compact_inc d hs m (by omega)
    rw [Lib.compactUpTo_succ]
    cases hk : Lib.keeps d m with
    | false =>
      have hk' : m ≠ 0 ∧ d[m]! = d[m - 1]! := by simpa [Lib.keeps] using hk
      simp only [Bool.false_eq_true, if_false, List.append_nil]
      refine ⟨h1, fun x => ?_⟩
      rw [h2]
      constructor
      · rintro ⟨j, hj, e⟩; exact ⟨j, by omega, e⟩
      · rintro ⟨j, hj, e⟩
        by_cases hjm : j = m
        · subst hjm; exact ⟨j - 1, by omega, by rw [← hk'.2]; exact e⟩
        · exact ⟨j, by omega, e⟩
    | true =>
      have hk' : m = 0 ∨ d[m]! ≠ d[m - 1]! := by simpa [Lib.keeps] using hk
      simp only [if_true]
      constructor
      · rw [List.pairwise_append]
        refine ⟨h1, List.pairwise_singleton _ _, fun x hx y hy => ?_⟩
        obtain ⟨j, hj, rfl⟩ := (h2 x).1 hx
        have : y = d[m]! := by simpa using hy
        subst this
        rcases hk' with h0 | h0
        · omega
        · have a1 := hs j (m - 1) (by omega) (by omega)
          have a2 := hs (m - 1) m (by omega) (by omega)
          omega
      · intro x
        rw [List.mem_append, h2, List.mem_singleton]
        constructor
        · rintro (⟨j, hj, e⟩ | e)
          · exact ⟨j, by omega, e⟩
          · exact ⟨m, by omega, e.symm⟩
        · rintro ⟨j, hj, e⟩
          by_cases hjm : j = m
          · subst hjm; exact .inr e.symm
          · exact .inl ⟨j, by omega, e⟩

def leInt (x y : Int) : Bool := decide (x ≤ y)
/-- The devices of columns. -/
def devsL (L : List Col) : List Int := Lib.compact ((L.map (·.1)).mergeSort fun x y => decide (x ≤ y))
theorem devsL_spec (L : List Col) : (devsL L).Pairwise (· < ·) ∧ ∀ x, x ∈ devsL L ↔ ∃ c ∈ L, c.1 = x := by
  have hp : ((L.map (·.1)).mergeSort fun x y => decide (x ≤ y)).Pairwise (fun x y => decide (x ≤ y) = true) :=
    List.pairwise_mergeSort (fun a b c h1 h2 => by simp at *; omega) (fun a b => by simp; omega) _
  have hm : ∀ x, x ∈ ((L.map (·.1)).mergeSort fun x y => decide (x ≤ y)) ↔ ∃ c ∈ L, c.1 = x := fun x => by rw [List.mem_mergeSort, List.mem_map]
  unfold devsL Lib.compact
  generalize ((L.map (·.1)).mergeSort fun x y => decide (x ≤ y)) = zs at *
  have hs : ∀ i j, i ≤ j → j < zs.toArray.size → zs.toArray[i]! ≤ zs.toArray[j]! := by
    intro i j hij hj
    have hj' : j < zs.length := by simpa using hj
    rw [getElem!_pos _ i (by simp; omega), getElem!_pos _ j hj]
    rcases Nat.lt_or_ge i j with h | h
    · have := List.pairwise_iff_getElem.1 hp i j (by omega) hj' h
      simpa using this
    · obtain rfl : i = j := by omega
      exact Int.le_refl _
  obtain ⟨h1, h2⟩ := compact_inc zs.toArray hs zs.length (by simp)
  refine ⟨h1, fun x => ?_⟩
  rw [h2, ← hm]
  constructor
  · rintro ⟨j, hj, e⟩
    rw [getElem!_pos _ j (by simpa using hj)] at e
    rw [← e]
    simp
  · intro hx
    obtain ⟨j, hj, e⟩ := List.getElem_of_mem hx
    exact ⟨j, hj, by rw [getElem!_pos _ j (by simpa using hj)]; simpa using e⟩
theorem devsL_len (L : List Col) : (devsL L).length ≤ L.length := by
  unfold devsL
  have := Lib.compact_length_le ((L.map (·.1)).mergeSort fun x y => decide (x ≤ y))
  simpa using this
end Go.Proofs.Ytefhmemmfajbfaa
