/-
  Where columns lie: plain lemmas on the lists of columns.
-/
import Derived.Test.YthkeibeelncgkaaCols6
namespace Go.Proofs.Ythkeibeelncgkaa
open Go.RowKit
set_option linter.unusedVariables false

theorem mirTo_get (first at_ : Int) (size : Nat) : ∀ (d i : Nat), i ≤ size → ∀ (k : Nat) (x : Col), (mirTo first at_ size d i)[k]? = some x → x = mcol first at_ (k / size) (k % size) ∧ k < d * size + i := by
  intro d
  induction d with
  | zero =>
    intro i
    induction i with
    | zero => intro _ k x h; simp [mirTo] at h
    | succ i ih =>
      intro hi k x h
      rw [mirTo_step, List.getElem?_append] at h
      rw [mirTo_len] at h
      split at h
      · obtain ⟨h1, h2⟩ := ih (by omega) k x h
        exact ⟨h1, by omega⟩
      · have hk : k = i := by
          rcases Nat.lt_or_ge (k - (0 * size + i)) 1 with h1 | h1
          · omega
          · rw [List.getElem?_eq_none (by simpa using h1)] at h; cases h
        subst hk
        simp at h
        subst h
        exact ⟨by rw [Nat.div_eq_of_lt (by omega), Nat.mod_eq_of_lt (by omega)], by omega⟩
  | succ d ihd =>
    intro i
    induction i with
    | zero =>
      intro _ k x h
      rw [mirTo_row] at h
      obtain ⟨h1, h2⟩ := ihd size (Nat.le_refl _) k x h
      exact ⟨h1, by rw [Nat.succ_mul]; omega⟩
    | succ i ih =>
      intro hi k x h
      rw [mirTo_step, List.getElem?_append] at h
      rw [mirTo_len] at h
      split at h
      · obtain ⟨h1, h2⟩ := ih (by omega) k x h
        exact ⟨h1, by omega⟩
      · have hk : k = (d + 1) * size + i := by
          rcases Nat.lt_or_ge (k - ((d + 1) * size + i)) 1 with h1 | h1
          · omega
          · rw [List.getElem?_eq_none (by simpa using h1)] at h; cases h
        subst hk
        simp at h
        subst h
        refine ⟨?_, by omega⟩
        rw [Nat.add_comm ((d + 1) * size) i, Nat.add_mul_div_right _ _ (by omega), Nat.add_mul_mod_self_right, Nat.div_eq_of_lt (by omega), Nat.mod_eq_of_lt (by omega)]
        simp

theorem mirror_get {first at_ : Int} {wide size : Nat} {k : Nat} {x : Col} (h : (mirror first at_ wide size)[k]? = some x) (hs : 0 < size) : x = mcol first at_ (k / size) (k % size) ∧ k / size < wide ∧ k % size < size := by
  obtain ⟨h1, h2⟩ := mirTo_get first at_ size wide 0 (Nat.zero_le _) k x h
  exact ⟨h1, Nat.div_lt_of_lt_mul (by rw [Nat.mul_comm]; omega), Nat.mod_lt _ hs⟩

theorem parTo_get (first wide at_ : Int) : ∀ (n k : Nat) (x : Col), (parTo first wide at_ n)[k]? = some x → ∃ par row, x = pcol first wide at_ k par row := by
  intro n
  induction n with
  | zero => intro k x h; simp [parTo] at h
  | succ n ih =>
    intro k x h
    rw [parTo] at h
    have snoc : ∀ (l : List Col) (par : Bool) (row : Int), (∀ k x, l[k]? = some x → ∃ par row, x = pcol first wide at_ k par row) → ∀ k x, (l ++ [pcol first wide at_ l.length par row])[k]? = some x → ∃ par row, x = pcol first wide at_ k par row := by
      intro l par row hl k x h
      rw [List.getElem?_append] at h
      split at h
      · exact hl k x h
      · have hk : k = l.length := by
          rcases Nat.lt_or_ge (k - l.length) 1 with h1 | h1
          · omega
          · rw [List.getElem?_eq_none (by simpa using h1)] at h; cases h
        subst hk
        simp at h
        exact ⟨par, row, h.symm⟩
    refine snoc _ _ _ ?_ k x h
    intro k x h
    split at h
    · exact snoc _ _ _ ih k x h
    · exact ih k x h

def parCount (wide : Int) : Nat → Nat
  | 0 => 0
  | k + 1 => parCount wide k + (if (k : Int) % (wide - 1) == 0 then 2 else 1)
theorem parTo_count (first wide at_ : Int) (k : Nat) : (parTo first wide at_ k).length = parCount wide k := by
  induction k with
  | zero => rfl
  | succ k ih =>
    rw [parTo, parCount]
    split <;> simp [ih]
theorem parCount_le {wide : Int} {k : Nat} (h1 : 3 ≤ wide) (h2 : wide ≤ 8) (hk : k ≤ 4) : (parCount wide k : Int) ≤ gTake1 (1, wide) k ∧ (parCount wide k : Int) = k + (k + wide - 2) / (wide - 1) := by
  have hw : wide = 3 ∨ wide = 4 ∨ wide = 5 ∨ wide = 6 ∨ wide = 7 ∨ wide = 8 := by omega
  have hk' : k = 0 ∨ k = 1 ∨ k = 2 ∨ k = 3 ∨ k = 4 := by omega
  rcases hw with rfl | rfl | rfl | rfl | rfl | rfl <;> rcases hk' with rfl | rfl | rfl | rfl | rfl <;> decide

theorem gTakes_true {gs : List (Int × Int)} {secs g size : Int} (h : gHas gs secs g = true) (h1 : 1 ≤ size) (h2 : size ≤ 4) : gTakes gs secs g size = gTake1 (grAt gs g) size := by
  unfold gTakes; rw [h, decide_eq_true h1, decide_eq_true h2]; rfl

/-- Where a column of a block lies: its place on the stretch, and its device. -/
def Lies (x : Int × Int) (F : Int) (pa : Int) (len : Int) (c : Col) (t : Int) : Prop :=
  0 ≤ t ∧ t < len ∧ ((x.1 = 0 ∧ F ≤ c.1 ∧ c.1 < F + x.2 ∧ c.2.1 = 16 + (pa + t)) ∨ (x.1 = 1 ∧ c.1 = F + (pa + t) % x.2 ∧ c.2.1 = 16 + (pa + t) / x.2))

theorem cols_lie {gs : List (Int × Int)} {secs pg pa size : Int} (h : cMay gs secs pg pa size = true) {k : Nat} {c : Col} (hc : (colsOf gs secs pg pa size)[k]? = some c) :
    ∃ t : Int, Lies (grAt gs pg) (gFirst gs secs pg) pa (gTakes gs secs pg size) c t ∧ ((grAt gs pg).1 = 1 → t = k) ∧ ((grAt gs pg).1 = 0 → c.1 = gFirst gs secs pg + ((k : Int) / size) ∧ t = (k : Int) % size) := by
  obtain ⟨hhas, hz1, hz2, hp1, hp2, hpos⟩ := cMay_true h
  obtain ⟨sz, rfl⟩ := Int.eq_ofNat_of_zero_le (show 0 ≤ size by omega)
  obtain ⟨g, x, rfl, hk, hl4, hs1, hs2, hx, hgx, ho⟩ := gHas_true hhas
  rw [gTakes_true hhas hz1 hz2, hgx]
  unfold colsOf at hc
  rw [hgx] at hc
  obtain ⟨kd, wd⟩ := x
  rcases gOne_true ho with ⟨e, hw1, hw2⟩ | ⟨e, hw1, hw2⟩
  · simp only at e hw1 hw2
    subst e
    obtain ⟨wn, rfl⟩ := Int.eq_ofNat_of_zero_le (show 0 ≤ wd by omega)
    simp only [beq_self_eq_true, if_true, Int.toNat_natCast] at hc
    obtain ⟨hm, h1, h2⟩ := mirror_get hc (by omega)
    refine ⟨(k % sz : Nat), ⟨by omega, by simp [gTake1]; omega, .inl ⟨rfl, ?_, ?_, ?_⟩⟩, by simp, fun _ => ⟨?_, by simp⟩⟩
    · rw [hm]; exact Int.le_add_of_nonneg_right (Int.natCast_nonneg _)
    · rw [hm]; simp only [mcol]; omega
    · rw [hm]; simp only [mcol]; omega
    · rw [hm]; simp [mcol]
  · simp only at e hw1 hw2
    subst e
    simp only [show ((1 : Int) == 0) = false from rfl, Bool.false_eq_true, if_false, Int.toNat_natCast] at hc
    obtain ⟨par, row, hm⟩ := parTo_get _ _ _ _ _ _ hc
    have hkl : k < parCount wd sz := by
      rw [← parTo_count (gFirst gs secs g) wd pa]
      exact (List.getElem?_eq_some_iff.1 hc).1
    have := (parCount_le hw1 hw2 (show sz ≤ 4 by omega)).1
    refine ⟨k, ⟨by omega, by omega, .inr ⟨rfl, ?_, ?_⟩⟩, fun _ => rfl, by simp⟩
    · rw [hm]; simp [pcol]
    · rw [hm]; simp [pcol]

theorem gSum_mono {gs : List (Int × Int)} {secs : Int} (hr : gRight gs secs = true) {i j : Nat} (hij : i ≤ j) : gSum (gs.take i) ≤ gSum (gs.take j) := by
  induction j with
  | zero =>
    obtain rfl : i = 0 := by omega
    exact Int.le_refl _
  | succ j ih =>
    rcases Nat.lt_or_ge i (j + 1) with h | h
    · have h1 := ih (by omega)
      rcases Nat.lt_or_ge j gs.length with hj | hj
      · have hx := List.getElem?_eq_getElem hj
        rw [gSum_take hx]
        have := gOne_true ((gRight_parts hr).2.2.2.2 _ (List.getElem_mem hj))
        omega
      · rw [List.take_of_length_le (show gs.length ≤ j + 1 by omega)]
        rw [List.take_of_length_le hj] at h1
        exact h1
    · obtain rfl : i = j + 1 := by omega
      exact Int.le_refl _

theorem first_next {gs : List (Int × Int)} {secs : Int} {g k : Nat} {x : Int × Int} (hr : gRight gs secs = true) (hx : gs[g]? = some x) (hk : g < k) : gSum (gs.take g) + x.2 ≤ gSum (gs.take k) := by
  rw [← gSum_take hx]
  exact gSum_mono hr (by omega)

theorem gFirst_true {gs : List (Int × Int)} {secs : Int} {g : Nat} (h : gHas gs secs g = true) : gFirst gs secs g = gSum (gs.take g) := by
  unfold gFirst; rw [h]; simp

theorem lies_dev {gs : List (Int × Int)} {secs pa len t : Int} {g : Nat} {x : Int × Int} {c : Col} (hhas : gHas gs secs g = true) (hx : gs[g]? = some x) (ho : gOne x = true)
    (hl : Lies x (gFirst gs secs g) pa len c t) : gSum (gs.take g) ≤ c.1 ∧ c.1 < gSum (gs.take g) + x.2 := by
  rw [gFirst_true hhas] at hl
  have := gOne_true ho
  obtain ⟨_, _, h | h⟩ := hl
  · exact ⟨h.2.1, h.2.2.1⟩
  · have h1 := Int.emod_nonneg (pa + t) (show x.2 ≠ 0 by omega)
    have h2 := Int.emod_lt_of_pos (pa + t) (show 0 < x.2 by omega)
    omega

theorem gHas_right {gs : List (Int × Int)} {secs g : Int} (h : gHas gs secs g = true) : gRight gs secs = true := by
  simp only [gHas, Bool.and_eq_true] at h; exact h.1.1

theorem lies_in {gs : List (Int × Int)} {secs pg pa size t : Int} {c : Col} (h : cMay gs secs pg pa size = true) (hl : Lies (grAt gs pg) (gFirst gs secs pg) pa (gTakes gs secs pg size) c t) :
    0 ≤ c.1 ∧ c.1 < gDevs gs secs ∧ 16 ≤ c.2.1 ∧ c.2.1 < secs := by
  obtain ⟨hhas, hz1, hz2, hp1, hp2, hpos⟩ := cMay_true h
  obtain ⟨g, x, rfl, hk, hl4, hs1, hs2, hx, hgx, ho⟩ := gHas_true hhas
  have hr := gHas_right hhas
  rw [hgx] at hl
  obtain ⟨h1, h2⟩ := lies_dev hhas hx ho hl
  have h3 := first_next hr hx hk
  rw [List.take_of_length_le (Nat.le_refl _)] at h3
  have h4 := (sum_take_bd hr g).1
  have h5 : gDevs gs secs = gSum gs := by unfold gDevs; rw [hr]; rfl
  have hS : gSectors gs secs g = if x.1 == 1 then (secs - 16) * x.2 else secs - 16 := by unfold gSectors; rw [hhas, hgx]; rfl
  rw [hS] at hp2
  refine ⟨by omega, by omega, ?_⟩
  obtain ⟨ht1, ht2, ⟨e, _, _, ha⟩ | ⟨e, _, ha⟩⟩ := hl
  · rw [e] at hp2; simp at hp2; omega
  · rw [e] at hp2
    simp only [beq_self_eq_true, if_true] at hp2
    have hw := gOne_true ho
    have hq1 : 0 ≤ (pa + t) / x.2 := Int.ediv_nonneg (by omega) (by omega)
    have hq2 : (pa + t) / x.2 < secs - 16 := Int.ediv_lt_of_lt_mul (by omega) (by omega)
    omega

/-- Two columns of stretches of one group are the same sector only if their places are the same. -/
theorem lies_same {x : Int × Int} {F pa qa n m s t : Int} {c d : Col} (ho : gOne x = true) (hpa : 0 ≤ pa) (hqa : 0 ≤ qa) (hc : Lies x F pa n c s) (hd : Lies x F qa m d t) (h1 : c.1 = d.1) (h2 : c.2.1 = d.2.1) : pa + s = qa + t := by
  have hw := gOne_true ho
  obtain ⟨a1, a2, a3⟩ := hc
  obtain ⟨b1, b2, b3⟩ := hd
  rcases a3 with ⟨e, _, _, ha⟩ | ⟨e, ha, ha'⟩ <;> rcases b3 with ⟨e', _, _, hb⟩ | ⟨e', hb, hb'⟩
  · omega
  · omega
  · omega
  · have r1 := Int.emod_add_mul_ediv (pa + s) x.2
    have r2 := Int.emod_add_mul_ediv (qa + t) x.2
    have e1 : (pa + s) % x.2 = (qa + t) % x.2 := by omega
    have e2 : (pa + s) / x.2 = (qa + t) / x.2 := by omega
    rw [e1, e2] at r1
    omega

def apartB (gs : List (Int × Int)) (secs pg pa qg qa a b : Int) : Bool := (pg != qg) || (decide (pa + gTakes gs secs pg a ≤ qa) || decide (qa + gTakes gs secs qg b ≤ pa))

theorem apart_pure {gs : List (Int × Int)} {secs pg pa qg qa a b : Int} (hp : cMay gs secs pg pa a = true) (hq : cMay gs secs qg qa b = true) :
    (∀ (i : Nat) (x : Col), (colsOf gs secs pg pa a)[i]? = some x → 0 ≤ x.1 ∧ x.1 < gDevs gs secs ∧ 16 ≤ x.2.1 ∧ x.2.1 < secs) ∧
    (∀ (i k : Nat) (x y : Col), k < i → (colsOf gs secs pg pa a)[i]? = some x → (colsOf gs secs pg pa a)[k]? = some y → ¬ (x.1 = y.1 ∧ x.2.1 = y.2.1)) ∧
    (apartB gs secs pg pa qg qa a b = true → ∀ (i k : Nat) (x y : Col), (colsOf gs secs pg pa a)[i]? = some x → (colsOf gs secs qg qa b)[k]? = some y → ¬ (x.1 = y.1 ∧ x.2.1 = y.2.1)) := by
  obtain ⟨hhas, hz1, hz2, hp1, hp2, hpos⟩ := cMay_true hp
  obtain ⟨hhas', hz1', hz2', hp1', hp2', hpos'⟩ := cMay_true hq
  obtain ⟨g, x0, hg, hk, hl4, hs1, hs2, hx0, hgx, ho⟩ := gHas_true hhas
  obtain ⟨g', x1, hg', hk', _, _, _, hx1, hgx', ho'⟩ := gHas_true hhas'
  refine ⟨fun i x hx => ?_, fun i k x y hki hx hy ⟨h1, h2⟩ => ?_, fun hap i k x y hx hy ⟨h1, h2⟩ => ?_⟩
  · obtain ⟨t, hl, _⟩ := cols_lie hp hx
    exact lies_in hp hl
  · obtain ⟨t, hl, hpar, hmir⟩ := cols_lie hp hx
    obtain ⟨s, hl', hpar', hmir'⟩ := cols_lie hp hy
    subst hg
    rw [hgx] at hl hl' hpar hpar' hmir hmir'
    have := lies_same ho hp1 hp1 hl hl' h1 h2
    rcases gOne_true ho with ⟨e, _, _⟩ | ⟨e, _, _⟩
    · obtain ⟨m1, m2⟩ := hmir e
      obtain ⟨n1, n2⟩ := hmir' e
      have r1 := Int.emod_add_mul_ediv (i : Int) a
      have r2 := Int.emod_add_mul_ediv (k : Int) a
      have e1 : (i : Int) % a = (k : Int) % a := by omega
      have e2 : (i : Int) / a = (k : Int) / a := by omega
      rw [e1, e2] at r1
      omega
    · have := hpar e
      have := hpar' e
      omega
  · obtain ⟨t, hl, _⟩ := cols_lie hp hx
    obtain ⟨s, hl', _⟩ := cols_lie hq hy
    subst hg hg'
    rw [hgx] at hl
    rw [hgx'] at hl'
    obtain ⟨d1, d2⟩ := lies_dev hhas hx0 ho hl
    obtain ⟨d3, d4⟩ := lies_dev hhas' hx1 ho' hl'
    rcases Nat.lt_trichotomy g g' with hlt | rfl | hlt
    · have := first_next (gHas_right hhas) hx0 hlt
      omega
    · rw [hx0] at hx1
      injection hx1 with hx1
      subst hx1
      have hxx := lies_same ho hp1 hp1' hl hl' h1 h2
      simp only [apartB, Bool.or_eq_true, decide_eq_true_eq] at hap
      obtain ⟨a1, a2, _⟩ := hl
      obtain ⟨b1, b2, _⟩ := hl'
      rcases hap with h | h | h
      · simp at h
      · omega
      · omega
    · have := first_next (gHas_right hhas) hx1 hlt
      omega
end Go.Proofs.Ythkeibeelncgkaa
