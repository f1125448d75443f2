/-
  What encoded columns come to when some are spoilt or missing. No program stands here.
  What a Mirror's columns come to; how many are missing. No program stands here.
  The document's example (layer 8).
  What was written is what is read: columns on devices. No program stands here.
  What a statement of layer 8 keeps: its boxes, the measure; devices as they are made.
-/
import Derived.Test.YtbhkbcpljakmjaaGreatJ20
import Derived.Test.YtbhkbcpljakmjaaGreatJ17
import Derived.Test.YtbhkbcpljakmjaaGreatJ16
namespace Go.Proofs.YtbhkbcpljakmjaaGreat
set_option linter.unusedVariables false
set_option linter.unusedSimpArgs false

theorem dataIx_cnt {L : List Col} : ∀ {k : Nat}, k ≤ L.length → (dataIx L k).map (dataCnt L) = List.range (dataCnt L k)
  | 0, _ => rfl
  | k + 1, hk => by
    have hc := colD_in (L := L) (i := k) (by omega)
    rw [dataIx_step, List.map_append, dataIx_cnt (by omega), dataCnt_succ hc]
    cases (L.getD k (0, 0, false, 0)).2.2.1
    · simp [List.range_succ]
    · simp
theorem dataIx_mem {L : List Col} {i : Nat} : i ∈ dataIx L L.length ↔ i < L.length ∧ (L.getD i (0, 0, false, 0)).2.2.1 = false := by
  unfold dataIx
  simp
theorem secs_to (s : List UInt8) : ∀ n, ((List.range n).map (secAt s)).flatten = s.take (n * 64)
  | 0 => by simp
  | n + 1 => by
    rw [List.range_succ, List.map_append, List.flatten_append, secs_to s n, Nat.succ_mul, List.take_add]
    simp [secAt]
theorem secs_flat {s : List UInt8} (h : s.length % 64 = 0) : (secsL s).flatten = s := by
  unfold secsL
  rw [secs_to, List.take_of_length_le]
  unfold secN
  omega
theorem secOk_parts {s : List UInt8} (h : secOk s = true) : s ≠ [] ∧ s.length % 64 = 0 ∧ s.length ≤ 256 := by
  unfold secOk at h
  simpa using h
theorem secN_pos {s : List UInt8} (h : secOk s = true) : 0 < secN s := by
  obtain ⟨h1, h2, _⟩ := secOk_parts h
  have := List.length_pos_iff.2 h1
  unfold secN
  omega
section
variable {gs : List (Int × Int)} {secs pg pa : Int} {s : List UInt8}
theorem encL_get {L : List Col} (hL : ofList gs secs pg pa (secN s) = L) {i : Nat} (hi : i < L.length) : (encL gs secs pg pa s).getD i [] = outE L (secsL s) i := by
  unfold encL
  rw [hL, List.getD_eq_getElem?_getD, List.getElem?_map, List.getElem?_range hi]
  rfl
theorem ofList_may {size : Int} (h : cMay gs secs pg pa size = true) : ofList gs secs pg pa size = colsOf gs secs pg pa size := by unfold ofList; rw [if_pos h]
theorem enc_encL (h : cMay gs secs pg pa (secN s) = true) : EncL (colsOf gs secs pg pa (secN s)) (encL gs secs pg pa s) := by
  have hO := ofList_may h
  refine ⟨by rw [encL_len, hO], fun i hi => ?_, fun i hi hp => ?_⟩
  · refine encL_64 h _ ?_
    rw [List.getD_eq_getElem?_getD, List.getElem?_eq_getElem (by rw [encL_len, hO]; exact hi)]
    exact List.getElem_mem _
  · rw [encL_get hO hi, outE_par (colD_in hi) hp]
    congr 1
    apply List.map_congr_left
    intro j hj
    obtain ⟨c, hc, _, hd⟩ := rowIx_spec hj
    rw [encL_get hO (List.getElem?_eq_some_iff.1 hc).1, outE_data hc hd]
/-- A data column is a sector of the text. -/
theorem enc_data (h : cMay gs secs pg pa (secN s) = true) {i : Nat} (hi : i < (colsOf gs secs pg pa (secN s)).length) (hd : ((colsOf gs secs pg pa (secN s)).getD i (0, 0, false, 0)).2.2.1 = false) :
    (encL gs secs pg pa s).getD i [] = (secsL s).getD (dataCnt (colsOf gs secs pg pa (secN s)) i % secN s) [] := by
  rw [encL_get (ofList_may h) hi, outE_data (colD_in hi) hd, outD_data (colD_in hi) hd, secsL_len]
/-- The data columns of a Parity, one after the other, are the text. -/
theorem enc_text (h : cMay gs secs pg pa (secN s) = true) (hs : secOk s = true) (hk : (grAt gs pg).1 ≠ 0) :
    ((dataIx (colsOf gs secs pg pa (secN s)) (colsOf gs secs pg pa (secN s)).length).map fun i => (encL gs secs pg pa s).getD i []).flatten = s := by
  have hP := parL_of h hk
  have hm : ((dataIx (colsOf gs secs pg pa (secN s)) (colsOf gs secs pg pa (secN s)).length).map fun i => (encL gs secs pg pa s).getD i []) = ((dataIx (colsOf gs secs pg pa (secN s)) (colsOf gs secs pg pa (secN s)).length).map (dataCnt (colsOf gs secs pg pa (secN s)))).map fun j => (secsL s).getD (j % secN s) [] := by
    rw [List.map_map]
    apply List.map_congr_left
    intro i hi
    obtain ⟨h1, h2⟩ := dataIx_mem.1 hi
    exact enc_data h h1 h2
  have hc : dataCnt (colsOf gs secs pg pa (secN s)) (colsOf gs secs pg pa (secN s)).length = secN s := by
    unfold dataCnt
    rw [List.take_length, hP.cnt, Int.toNat_natCast]
  rw [hm, dataIx_cnt (Nat.le_refl _), hc]
  have : ((List.range (secN s)).map fun j => (secsL s).getD (j % secN s) []) = secsL s := by
    unfold secsL
    apply List.map_congr_left
    intro j hj
    have hj := List.mem_range.1 hj
    rw [Nat.mod_eq_of_lt hj, List.getD_eq_getElem?_getD, List.getElem?_map, List.getElem?_range hj]
    rfl
  rw [this, secs_flat (secOk_parts hs).2.1]
theorem withS_back {L : List Col} {E got : List (List UInt8)} {d : Int} (hE : EncL L E) (h : ∀ i, i < L.length → (L.getD i (0, 0, false, 0)).2.2.1 = false → colTxt L got d i = E.getD i []) :
    withS L got d = ((dataIx L L.length).map fun i => E.getD i []).flatten := by
  have hm : (dataIx L L.length).map (colTxt L got d) = (dataIx L L.length).map fun i => E.getD i [] := by
    apply List.map_congr_left
    intro i hi
    obtain ⟨h1, h2⟩ := dataIx_mem.1 hi
    exact h i h1 h2
  have hno : hasE ((dataIx L L.length).map fun i => E.getD i []) = false := by
    unfold hasE
    rw [List.any_eq_false]
    intro x hx hxe
    obtain ⟨i, hi, rfl⟩ := List.mem_map.1 hx
    have := hE.all64 i (dataIx_mem.1 hi).1
    rw [List.isEmpty_iff.1 hxe] at this
    cases this
  unfold withS
  simp only
  rw [hm, hno]
  rfl
theorem withS_some {L : List Col} {got : List (List UInt8)} {d : Int} (h : withS L got d ≠ []) : ∀ i, i < L.length → (L.getD i (0, 0, false, 0)).2.2.1 = false → colTxt L got d i ≠ [] := by
  intro i h1 h2 he
  apply h
  have : hasE ((dataIx L L.length).map (colTxt L got d)) = true := by
    unfold hasE
    rw [List.any_eq_true]
    exact ⟨[], List.mem_map.2 ⟨i, dataIx_mem.2 ⟨h1, h2⟩, he⟩, rfl⟩
  unfold withS
  simp only
  rw [this, if_pos rfl]
theorem row_devD (h : cMay gs secs pg pa (secN s) = true) {i j : Nat} (hi : i < (colsOf gs secs pg pa (secN s)).length) (hj : j < (colsOf gs secs pg pa (secN s)).length) (hne : j ≠ i)
    (hr : ((colsOf gs secs pg pa (secN s)).getD j (0, 0, false, 0)).2.2.2 = ((colsOf gs secs pg pa (secN s)).getD i (0, 0, false, 0)).2.2.2) : ((colsOf gs secs pg pa (secN s)).getD j (0, 0, false, 0)).1 ≠ ((colsOf gs secs pg pa (secN s)).getD i (0, 0, false, 0)).1 := by
  rcases Nat.lt_or_gt_of_ne hne with h1 | h1
  · exact row_devs h h1 (colD_in hj) (colD_in hi) hr
  · exact fun e => row_devs h h1 (colD_in hi) (colD_in hj) hr.symm e.symm
theorem dev_nn {size : Int} (h : cMay gs secs pg pa size = true) {i : Nat} (hi : i < (colsOf gs secs pg pa size).length) : 0 ≤ ((colsOf gs secs pg pa size).getD i (0, 0, false, 0)).1 := by
  obtain ⟨t, hl, _⟩ := cols_lie h (colD_in hi)
  exact (lies_in h hl).1
theorem mem_devs {L : List Col} {d : Int} : d ∈ parDevs L ↔ d = -1 ∨ ∃ i, i < L.length ∧ (L.getD i (0, 0, false, 0)).2.2.1 = false ∧ (L.getD i (0, 0, false, 0)).1 = d := by
  unfold parDevs
  rw [List.mem_cons, (devsL_spec _).2]
  refine or_congr Iff.rfl ⟨?_, ?_⟩
  · rintro ⟨c, hc, rfl⟩
    obtain ⟨h1, h2⟩ := List.mem_filter.1 hc
    obtain ⟨i, hi⟩ := List.mem_iff_getElem?.1 h1
    have hil := (List.getElem?_eq_some_iff.1 hi).1
    rw [colD_in hil] at hi
    cases hi
    exact ⟨i, hil, by simpa using h2, rfl⟩
  · rintro ⟨i, hi, h1, rfl⟩
    exact ⟨_, List.mem_filter.2 ⟨List.mem_of_getElem? (colD_in hi), by rw [h1]; rfl⟩, rfl⟩
/-- Where one device's columns alone are spoilt, the text is among a Parity's tries. -/
theorem par_one_back (h : cMay gs secs pg pa (secN s) = true) (hs : secOk s = true) (hk : (grAt gs pg).1 ≠ 0) {got : List (List UInt8)} {d : Int}
    (hg : ∀ i, i < (colsOf gs secs pg pa (secN s)).length → ((colsOf gs secs pg pa (secN s)).getD i (0, 0, false, 0)).1 ≠ d → got.getD i [] = (encL gs secs pg pa s).getD i []) : ∃ x ∈ parT (colsOf gs secs pg pa (secN s)) got, x.2 = s := by
  have hP := parL_of h hk
  have hE := enc_encL h
  have hT := enc_text h hs hk
  have hD := fun (i j : Nat) => row_devD h (i := i) (j := j)
  have hN := fun (i : Nat) => dev_nn h (i := i)
  generalize colsOf gs secs pg pa (secN s) = L at *
  generalize encL gs secs pg pa s = E at *
  have hsne := (secOk_parts hs).1
  have main : ∀ e, e ∈ parDevs L → withS L got e = s → ∃ x ∈ parT L got, x.2 = s := by
    intro e he hw
    refine ⟨(e, s), List.mem_filterMap.2 ⟨e, he, ?_⟩, rfl⟩
    unfold parOne
    rw [hw, if_neg (by simpa using hsne)]
  by_cases hdm : ∃ i, i < L.length ∧ (L.getD i (0, 0, false, 0)).2.2.1 = false ∧ (L.getD i (0, 0, false, 0)).1 = d
  · refine main d (mem_devs.2 (.inr hdm)) ?_
    rw [withS_back hE, hT]
    intro i hi hd
    unfold colTxt
    by_cases hid : (L.getD i (0, 0, false, 0)).1 = d
    · rw [if_pos (beq_iff_eq.2 hid)]
      refine again_back hP hE hi fun j hj hr hne => hg j hj ?_
      rw [← hid]
      exact hD i j hi hj hne hr
    · rw [if_neg (by simpa using hid)]
      exact hg i hi hid
  · refine main (-1) (mem_devs.2 (.inl rfl)) ?_
    rw [withS_back hE, hT]
    intro i hi hd
    unfold colTxt
    rw [if_neg (by have := hN i hi; rw [beq_iff_eq]; omega)]
    exact hg i hi fun e => hdm ⟨i, hi, hd, e⟩
/-- Where columns are as they were or missing, each of a Parity's tries is the text. -/
theorem par_all_back (h : cMay gs secs pg pa (secN s) = true) (hs : secOk s = true) (hk : (grAt gs pg).1 ≠ 0) {got : List (List UInt8)}
    (hg : ∀ i, i < (colsOf gs secs pg pa (secN s)).length → got.getD i [] = (encL gs secs pg pa s).getD i [] ∨ got.getD i [] = []) : ∀ x ∈ parT (colsOf gs secs pg pa (secN s)) got, x.2 = s := by
  have hP := parL_of h hk
  have hE := enc_encL h
  have hT := enc_text h hs hk
  generalize colsOf gs secs pg pa (secN s) = L at *
  generalize encL gs secs pg pa s = E at *
  intro x hx
  obtain ⟨d, _, hd⟩ := List.mem_filterMap.1 hx
  unfold parOne at hd
  split at hd
  · cases hd
  rename_i hne
  cases hd
  have hne : withS L got d ≠ [] := by simpa using hne
  have hsome := withS_some hne
  show withS L got d = s
  rw [withS_back hE, hT]
  intro i hi hdat
  have h1 := hsome i hi hdat
  unfold colTxt at h1 ⊢
  split
  · rename_i he
    rw [if_pos he] at h1
    exact again_back hP hE hi fun j hj hr hne' => (hg j hj).resolve_right (again_some h1 j hj hr hne')
  · rename_i he
    rw [if_neg he] at h1
    exact (hg i hi).resolve_right h1
/-- With two of a row missing there is no try. -/
theorem par_two_none {L : List Col} {sz : Nat} (hP : ParL L sz) {got : List (List UInt8)} {i j : Nat} (hi : i < L.length) (hj : j < L.length) (hne : i ≠ j)
    (hr : (L.getD j (0, 0, false, 0)).2.2.2 = (L.getD i (0, 0, false, 0)).2.2.2) (h1 : got.getD i [] = []) (h2 : got.getD j [] = []) : parT L got = [] := by
  have main : ∀ a b, a < L.length → b < L.length → a ≠ b → (L.getD b (0, 0, false, 0)).2.2.2 = (L.getD a (0, 0, false, 0)).2.2.2 → got.getD a [] = [] → got.getD b [] = [] → (L.getD a (0, 0, false, 0)).2.2.1 = false → parT L got = [] := by
    intro a b ha hb hab hrow ga gb hda
    unfold parT
    rw [List.filterMap_eq_nil_iff]
    intro d _
    unfold parOne
    rw [if_pos]
    rw [List.isEmpty_iff]
    refine Decidable.byContradiction fun hw => ?_
    refine withS_some hw a ha hda ?_
    unfold colTxt
    split
    · exact again_none hb hrow hab.symm gb
    · exact ga
  cases hdi : (L.getD i (0, 0, false, 0)).2.2.1 with
  | false => exact main i j hi hj hne hr h1 h2 hdi
  | true =>
    cases hdj : (L.getD j (0, 0, false, 0)).2.2.1 with
    | false => exact main j i hj hi hne.symm hr.symm h2 h1 hdj
    | true =>
      obtain ⟨p, _, _, _, hu⟩ := hP.one i hi
      exact absurd ((hu i hi hdi rfl).trans (hu j hj hdj hr).symm) hne
end
end Go.Proofs.YtbhkbcpljakmjaaGreat

namespace Go.Proofs.YtbhkbcpljakmjaaGreat
set_option linter.unusedVariables false
set_option linter.unusedSimpArgs false

theorem mirPart_eq {sz : Nat} {got : List (List UInt8)} {j : Nat} (h : j * sz + sz ≤ got.length) : mirPart sz got j = (List.range sz).map fun t => got.getD (j * sz + t) [] := by
  unfold mirPart
  apply List.ext_getElem?
  intro t
  by_cases ht : t < sz
  · rw [List.getElem?_take_of_lt ht, List.getElem?_drop, List.getElem?_map, List.getElem?_range ht, Option.map_some, List.getD_eq_getElem?_getD, List.getElem?_eq_getElem (show j * sz + t < got.length by omega)]
    rfl
  · rw [List.getElem?_eq_none (by rw [List.length_take]; omega), List.getElem?_eq_none (by rw [List.length_map, List.length_range]; omega)]
/-- What a Mirror's columns are. -/
structure MirL (L : List Col) (first : Int) (wd sz : Nat) : Prop where
  pos : 0 < sz
  wpos : 0 < wd
  len : L.length = wd * sz
  dat : ∀ i, i < L.length → (L.getD i (0, 0, false, 0)).2.2.1 = false
  dev : ∀ i, i < L.length → (L.getD i (0, 0, false, 0)).1 = first + ((i / sz : Nat) : Int)
theorem mirL_of {gs : List (Int × Int)} {secs pg pa size : Int} (h : cMay gs secs pg pa size = true) (hk : (grAt gs pg).1 = 0) : MirL (colsOf gs secs pg pa size) (gFirst gs secs pg) (grAt gs pg).2.toNat size.toNat := by
  obtain ⟨hhas, hz1, hz2, hp1, hp2, _⟩ := cMay_true h
  obtain ⟨sz, rfl⟩ := Int.eq_ofNat_of_zero_le (show 0 ≤ size by omega)
  obtain ⟨g, x, rfl, _, hl4, hs1, hs2, hx, hgx, ho⟩ := gHas_true hhas
  obtain ⟨kd, wd⟩ := x
  rw [hgx] at hk
  have ho' := gOne_true ho
  simp only at ho' hk
  obtain ⟨w, rfl⟩ := Int.eq_ofNat_of_zero_le (show 0 ≤ wd by omega)
  subst hk
  have hL : colsOf gs secs g pa sz = mirror (gFirst gs secs g) pa w sz := by unfold colsOf; rw [hgx]; rfl
  rw [hL, hgx]
  simp only [Int.toNat_natCast]
  have hlen : (mirror (gFirst gs secs g) pa w sz).length = w * sz := by unfold mirror; rw [mirTo_len, Nat.add_zero]
  have hat : ∀ i, i < (mirror (gFirst gs secs g) pa w sz).length → (mirror (gFirst gs secs g) pa w sz).getD i (0, 0, false, 0) = mcol (gFirst gs secs g) pa (i / sz) (i % sz) := fun i hi => (mirror_get (colD_in hi) (by omega)).1
  exact ⟨by omega, by omega, hlen, fun i hi => by rw [hat i hi]; rfl, fun i hi => by rw [hat i hi]; rfl⟩
theorem dataCnt_mir {L : List Col} {first : Int} {wd sz : Nat} (hM : MirL L first wd sz) {i : Nat} (hi : i ≤ L.length) : dataCnt L i = i := by
  unfold dataCnt
  rw [List.filter_eq_self.2, List.length_take, Nat.min_eq_left hi]
  intro c hc
  obtain ⟨j, hj⟩ := List.mem_iff_getElem?.1 (List.mem_of_mem_take hc)
  have hjl := (List.getElem?_eq_some_iff.1 hj).1
  have := hM.dat j hjl
  rw [colD_in hjl] at hj
  cases hj
  rw [this]
  rfl
theorem in_part {wd sz j t N : Nat} (hN : N = wd * sz) (hj : j < wd) (ht : t < sz) : j * sz + t < N ∧ (j * sz + t) / sz = j ∧ (j * sz + t) % sz = t ∧ j * sz + sz ≤ N := by
  have h1 : (j + 1) * sz ≤ wd * sz := Nat.mul_le_mul_right sz hj
  rw [Nat.succ_mul] at h1
  refine ⟨by omega, ?_, ?_, by omega⟩
  · rw [Nat.mul_comm, Nat.mul_add_div (by omega), Nat.div_eq_of_lt ht, Nat.add_zero]
  · rw [Nat.mul_comm, Nat.mul_add_mod, Nat.mod_eq_of_lt ht]
section
variable {gs : List (Int × Int)} {secs pg pa : Int} {s : List UInt8}
theorem enc_mir (h : cMay gs secs pg pa (secN s) = true) (hk : (grAt gs pg).1 = 0) {i : Nat} (hi : i < (colsOf gs secs pg pa (secN s)).length) : (encL gs secs pg pa s).getD i [] = (secsL s).getD (i % secN s) [] := by
  have hM := mirL_of h hk
  rw [enc_data h hi (hM.dat i hi), dataCnt_mir hM (Nat.le_of_lt hi)]
theorem enc_part (h : cMay gs secs pg pa (secN s) = true) (hk : (grAt gs pg).1 = 0) (hs : secOk s = true) {got : List (List UInt8)} {j : Nat} (hgl : got.length = (colsOf gs secs pg pa (secN s)).length) (hj : j < (grAt gs pg).2.toNat)
    (hg : ∀ t, t < secN s → got.getD (j * secN s + t) [] = (encL gs secs pg pa s).getD (j * secN s + t) []) : mirPart (secN s) got j = secsL s ∧ hasE (mirPart (secN s) got j) = false := by
  have hM := mirL_of h hk
  rw [Int.toNat_natCast] at hM
  have hlen := hM.len
  have e : mirPart (secN s) got j = secsL s := by
    rw [mirPart_eq (by rw [hgl]; exact (in_part hlen hj (secN_pos hs)).2.2.2)]
    unfold secsL
    apply List.map_congr_left
    intro t ht
    have ht := List.mem_range.1 ht
    obtain ⟨h1, _, h3, _⟩ := in_part hlen hj ht
    rw [hg t ht, enc_mir h hk h1, h3, List.getD_eq_getElem?_getD, secsL_at ht]
    rfl
  refine ⟨e, ?_⟩
  rw [e]
  unfold hasE
  rw [List.any_eq_false]
  intro x hx hxe
  obtain ⟨t, ht, rfl⟩ := List.mem_map.1 hx
  have := secAt_len (List.mem_range.1 ht)
  rw [List.isEmpty_iff.1 hxe] at this
  cases this
theorem mirT_mem {L : List Col} {sz k : Nat} {got : List (List UInt8)} {x : Int × List UInt8} : x ∈ mirT L sz got k ↔ ∃ j, j < k ∧ mirOne L sz got j = some x := by
  unfold mirT
  rw [List.mem_filterMap]
  simp only [List.mem_range]
/-- Where one device's columns are right, the text is among a Mirror's tries. -/
theorem mir_one_back (h : cMay gs secs pg pa (secN s) = true) (hk : (grAt gs pg).1 = 0) (hs : secOk s = true) {got : List (List UInt8)} {j : Nat} (hgl : got.length = (colsOf gs secs pg pa (secN s)).length) (hj : j < (grAt gs pg).2.toNat)
    (hg : ∀ t, t < secN s → got.getD (j * secN s + t) [] = (encL gs secs pg pa s).getD (j * secN s + t) []) : ∃ x ∈ mirT (colsOf gs secs pg pa (secN s)) (secN s) got (grAt gs pg).2.toNat, x.2 = s := by
  obtain ⟨h1, h2⟩ := enc_part h hk hs hgl hj hg
  refine ⟨(((colsOf gs secs pg pa (secN s)).getD (j * secN s) (0, 0, false, 0)).1, s), mirT_mem.2 ⟨j, hj, ?_⟩, ?_⟩
  · unfold mirOne
    rw [h2, h1, secs_flat (secOk_parts hs).2.1]
    rfl
  · rfl
theorem hasE_part {sz j : Nat} {got : List (List UInt8)} (h : j * sz + sz ≤ got.length) : hasE (mirPart sz got j) = false ↔ ∀ t, t < sz → got.getD (j * sz + t) [] ≠ [] := by
  rw [mirPart_eq h]
  unfold hasE
  rw [List.any_eq_false]
  constructor
  · intro h1 t ht he
    exact h1 _ (List.mem_map.2 ⟨t, List.mem_range.2 ht, rfl⟩) (by rw [he]; rfl)
  · intro h1 x hx hxe
    obtain ⟨t, ht, rfl⟩ := List.mem_map.1 hx
    exact h1 t (List.mem_range.1 ht) (List.isEmpty_iff.1 hxe)
theorem mir_all_back (h : cMay gs secs pg pa (secN s) = true) (hk : (grAt gs pg).1 = 0) (hs : secOk s = true) {got : List (List UInt8)} (hgl : got.length = (colsOf gs secs pg pa (secN s)).length)
    (hg : ∀ i, i < (colsOf gs secs pg pa (secN s)).length → got.getD i [] = (encL gs secs pg pa s).getD i [] ∨ got.getD i [] = []) : ∀ x ∈ mirT (colsOf gs secs pg pa (secN s)) (secN s) got (grAt gs pg).2.toNat, x.2 = s := by
  have hM := mirL_of h hk
  rw [Int.toNat_natCast] at hM
  intro x hx
  obtain ⟨j, hj, hx⟩ := mirT_mem.1 hx
  have hb := (in_part hM.len hj (secN_pos hs)).2.2.2
  unfold mirOne at hx
  split at hx
  · cases hx
  rename_i hne
  have hne : hasE (mirPart (secN s) got j) = false := by simpa using hne
  cases hx
  have h1 := (hasE_part (by rw [hgl]; exact hb)).1 hne
  have h2 := enc_part h hk hs hgl hj fun t ht => (hg _ (in_part hM.len hj ht).1).resolve_right (h1 t ht)
  show (mirPart (secN s) got j).flatten = s
  rw [h2.1, secs_flat (secOk_parts hs).2.1]
end
/-- How many columns are missing beside a column: of its device (a Mirror), or of its row. -/
def missP (L : List Col) (got : List (List UInt8)) (mir : Bool) (i k : Nat) : Bool := (got.getD k []).isEmpty && if mir then (L.getD k (0, 0, false, 0)).1 == (L.getD i (0, 0, false, 0)).1 else (L.getD k (0, 0, false, 0)).2.2.2 == (L.getD i (0, 0, false, 0)).2.2.2
def missTo (L : List Col) (got : List (List UInt8)) (mir : Bool) (i n : Nat) : Nat := ((List.range n).filter (missP L got mir i)).length
def worstTo (L : List Col) (got : List (List UInt8)) (mir : Bool) : Nat → Nat
  | 0 => 0
  | i + 1 => max (worstTo L got mir i) (missTo L got mir i L.length)
def wholeTo (L : List Col) (got : List (List UInt8)) (mir : Bool) (n : Nat) : Nat := ((List.range n).filter fun i => missTo L got mir i L.length == 0).length
theorem missTo_step (L : List Col) (got : List (List UInt8)) (mir : Bool) (i n : Nat) : missTo L got mir i (n + 1) = missTo L got mir i n + if missP L got mir i n then 1 else 0 := by
  unfold missTo
  rw [List.range_succ, List.filter_append, List.length_append]
  cases h : missP L got mir i n <;> simp [h]
theorem missTo_le (L : List Col) (got : List (List UInt8)) (mir : Bool) (i n : Nat) : missTo L got mir i n ≤ n := by
  unfold missTo
  exact Nat.le_trans (List.length_filter_le _ _) (by simp)
theorem worstTo_le (L : List Col) (got : List (List UInt8)) (mir : Bool) (n : Nat) : worstTo L got mir n ≤ L.length := by
  induction n with
  | zero => exact Nat.zero_le _
  | succ n ih => exact Nat.max_le.2 ⟨ih, missTo_le _ _ _ _ _⟩
theorem wholeTo_step (L : List Col) (got : List (List UInt8)) (mir : Bool) (n : Nat) : wholeTo L got mir (n + 1) = wholeTo L got mir n + if missTo L got mir n L.length == 0 then 1 else 0 := by
  unfold wholeTo
  rw [List.range_succ, List.filter_append, List.length_append]
  cases h : missTo L got mir n L.length == 0 <;> simp [h]
theorem wholeTo_le (L : List Col) (got : List (List UInt8)) (mir : Bool) (n : Nat) : wholeTo L got mir n ≤ n := by
  unfold wholeTo
  exact Nat.le_trans (List.length_filter_le _ _) (by simp)
theorem worst_two {L : List Col} {got : List (List UInt8)} {mir : Bool} {n : Nat} (h : 2 ≤ worstTo L got mir n) : ∃ i, i < n ∧ 2 ≤ missTo L got mir i L.length := by
  induction n with
  | zero => cases h
  | succ n ih =>
    unfold worstTo at h
    rcases Nat.le_total (missTo L got mir n L.length) (worstTo L got mir n) with h1 | h1
    · rw [Nat.max_eq_left h1] at h
      obtain ⟨i, hi, hm⟩ := ih h
      exact ⟨i, by omega, hm⟩
    · rw [Nat.max_eq_right h1] at h
      exact ⟨n, by omega, h⟩
theorem two_of {l : List Nat} (hn : l.Nodup) (h : 2 ≤ l.length) : ∃ a b, a ∈ l ∧ b ∈ l ∧ a ≠ b := by
  match l, hn, h with
  | a :: b :: l, hn, _ =>
    refine ⟨a, b, List.mem_cons_self, List.mem_cons_of_mem _ List.mem_cons_self, fun e => ?_⟩
    rw [List.nodup_cons] at hn
    exact hn.1 (by rw [e]; exact List.mem_cons_self)
theorem par_less {L : List Col} {sz : Nat} (hP : ParL L sz) {got : List (List UInt8)} (h : 2 ≤ worstTo L got false L.length) : parT L got = [] := by
  obtain ⟨i, hi, hm⟩ := worst_two h
  unfold missTo at hm
  obtain ⟨a, b, ha, hb, hne⟩ := two_of (List.nodup_range.filter _) hm
  obtain ⟨ha1, ha2⟩ := List.mem_filter.1 ha
  obtain ⟨hb1, hb2⟩ := List.mem_filter.1 hb
  simp only [missP, Bool.false_eq_true, if_false, Bool.and_eq_true, beq_iff_eq, List.isEmpty_iff] at ha2 hb2
  exact par_two_none hP (List.mem_range.1 ha1) (List.mem_range.1 hb1) hne (by rw [hb2.2, ha2.2]) ha2.1 hb2.1
theorem mir_whole {L : List Col} {first : Int} {wd sz : Nat} (hM : MirL L first wd sz) {got : List (List UInt8)} (hgl : got.length = L.length) : 0 < (mirT L sz got wd).length ↔ 0 < wholeTo L got true L.length := by
  have key : ∀ i, i < L.length → (missTo L got true i L.length = 0 ↔ ∀ t, t < sz → got.getD (i / sz * sz + t) [] ≠ []) := by
    intro i hi
    have hiw : i / sz < wd := by
      rw [Nat.div_lt_iff_lt_mul hM.pos, ← hM.len]
      exact hi
    unfold missTo
    rw [List.length_eq_zero_iff, List.filter_eq_nil_iff]
    constructor
    · intro h t ht he
      obtain ⟨h1, h2, _, _⟩ := in_part hM.len hiw ht
      refine h _ (List.mem_range.2 h1) ?_
      unfold missP
      rw [he, hM.dev _ h1, hM.dev _ hi, h2]
      simp
    · intro h k hk hm
      have hk := List.mem_range.1 hk
      unfold missP at hm
      simp only [if_true, Bool.and_eq_true, beq_iff_eq, List.isEmpty_iff, hM.dev _ hk, hM.dev _ hi] at hm
      have e : k / sz = i / sz := by omega
      have h2 := Nat.div_add_mod k sz
      have := h (k % sz) (Nat.mod_lt _ hM.pos)
      rw [← e, Nat.mul_comm, h2] at this
      exact this hm.1
  rw [List.length_pos_iff_exists_mem, wholeTo, List.length_pos_iff_exists_mem]
  constructor
  · rintro ⟨x, hx⟩
    obtain ⟨j, hj, hx⟩ := mirT_mem.1 hx
    obtain ⟨h1, h2, _, h4⟩ := in_part hM.len hj hM.pos
    rw [Nat.add_zero] at h1 h2
    refine ⟨j * sz, List.mem_filter.2 ⟨List.mem_range.2 h1, ?_⟩⟩
    rw [beq_iff_eq, key _ h1, h2]
    unfold mirOne at hx
    split at hx
    · cases hx
    rename_i hne
    exact (hasE_part (by rw [hgl]; exact h4)).1 (by simpa using hne)
  · rintro ⟨i, hi⟩
    obtain ⟨h1, h2⟩ := List.mem_filter.1 hi
    have h1 := List.mem_range.1 h1
    rw [beq_iff_eq, key _ h1] at h2
    have hiw : i / sz < wd := by
      rw [Nat.div_lt_iff_lt_mul hM.pos, ← hM.len]
      exact h1
    have h4 := (in_part hM.len hiw hM.pos).2.2.2
    refine ⟨((L.getD (i / sz * sz) (0, 0, false, 0)).1, (mirPart sz got (i / sz)).flatten), mirT_mem.2 ⟨i / sz, hiw, ?_⟩⟩
    unfold mirOne
    rw [(hasE_part (by rw [hgl]; exact h4)).2 h2]
    rfl
end Go.Proofs.YtbhkbcpljakmjaaGreat

namespace Go.Proofs.YtbhkbcpljakmjaaGreat
set_option linter.unusedVariables false
set_option linter.unusedSimpArgs false
open Go.RowKit

theorem wn_ex : wN [(0, 2)] ((24 : Nat) : Int) 0 0 (List.replicate 64 0) (hereD [false, true] (List.replicate 2 (DevD.blank 24 0))) 2 = 1 ∧ wE [(0, 2)] ((24 : Nat) : Int) 0 0 (List.replicate 64 0) (hereD [false, true] (List.replicate 2 (DevD.blank 24 0))) 2 = 0 := by decide +kernel
theorem geo_ex (w : World) : GeoAt (w.alloc (.cells #[.int .i64 0, .int .i64 2] 53)) (some ⟨w.heap.size, 0, none⟩) 1 [(0, 2)] := by
  refine ⟨rfl, by decide, fun _ => ⟨w.heap.size, 0, rfl, by simp, fun i x hx => ?_⟩⟩
  have hi : i = 0 := by
    have := (List.getElem?_eq_some_iff.1 hx).1
    simp at this
    exact this
  subst hi
  simp at hx
  subst hx
  exact ⟨(Blk.new _ _ _).at_ rfl, (Blk.new _ _ _).at_ rfl⟩
end Go.Proofs.YtbhkbcpljakmjaaGreat

namespace Go.Proofs.YtbhkbcpljakmjaaGreat
set_option linter.unusedVariables false
set_option linter.unusedSimpArgs false

/-- What a column of the devices reads as. -/
def look (ds : List DevD) (c : Col) : List UInt8 := match ds[c.1.toNat]? with
  | some d => d.rdS c.2.1
  | none => []
theorem rdC_look (aw : List Bool) (ds : List DevD) (c : Col) : rdC aw ds c = if hereD aw ds c.1.toNat then look ds c else [] := rfl
theorem wr_mayE (d : DevD) (a b : Int) (t : List UInt8) : (d.wr a t).mayE b = d.mayE b := by
  unfold DevD.mayE
  rw [wr_lost, DevD.wr_med]
theorem wr_now_same {d : DevD} {a : Int} {t : List UInt8} (h : d.wrE a t = 0) : (d.wr a t).now a.toNat = t := by
  unfold DevD.wr
  rw [if_pos h]
  unfold DevD.now DevD.put
  simp [lastOr]
theorem wr_now_other {d : DevD} {a : Int} {t : List UInt8} {k : Nat} (h : k ≠ a.toNat) : (d.wr a t).now k = d.now k := by
  unfold DevD.wr
  split
  · unfold DevD.now DevD.put DevD.burn DevD.medAt
    simp only [if_neg h]
  · rfl
theorem wr_rd_same {d : DevD} {a : Int} {t : List UInt8} (h : d.wrE a t = 0) : (d.wr a t).rdS a = t := by
  have hm : d.mayE a = 0 := by
    unfold DevD.wrE at h
    split at h
    · rename_i hn; exact absurd h hn
    · rename_i hn; exact Decidable.of_not_not hn
  unfold DevD.rdS
  rw [wr_mayE, if_pos hm, wr_now_same h]
theorem wr_rd_other {d : DevD} {a b : Int} {t : List UInt8} (ha : 0 ≤ a) (hn : a ≠ b) : (d.wr a t).rdS b = d.rdS b := by
  unfold DevD.rdS
  rw [wr_mayE]
  split
  · rename_i hm
    have := DevD.mayE_ok hm
    rw [wr_now_other (by omega)]
  · rfl
/-- Columns that are what a block's may be. -/
structure Cols (n secs : Nat) (L : List Col) (T : List (List UInt8)) : Prop where
  inn : ∀ (j : Nat) (c : Col), L[j]? = some c → 0 ≤ c.1 ∧ c.1 < n ∧ 0 ≤ c.2.1 ∧ c.2.1 < secs
  txt : ∀ j : Nat, j < L.length → ∃ t, T[j]? = some t ∧ t.length = 64
  dis : ∀ (i j : Nat) (c e : Col), i ≠ j → L[i]? = some c → L[j]? = some e → ¬ (c.1 = e.1 ∧ c.2.1 = e.2.1)
theorem wrTo_hereD {aw : List Bool} {L : List Col} {T : List (List UInt8)} {ds : List DevD} (k i : Nat) : hereD aw (wrTo aw L T ds k) i = hereD aw ds i := by
  cases h : (wrTo aw L T ds k)[i]? with
  | none =>
    have h2 : ds[i]? = none := by
      rw [List.getElem?_eq_none_iff] at h ⊢
      rwa [wrTo_len] at h
    unfold hereD
    rw [h, h2]
  | some e =>
    rw [wrTo_at h]
    unfold hereD
    rw [h]
theorem wrTo_look {aw : List Bool} {L : List Col} {T : List (List UInt8)} {ds : List DevD} {N secs : Nat} (ok : DsOk N secs ds) (hc : Cols ds.length secs L T) :
    ∀ k : Nat, k ≤ L.length → ∀ (j : Nat) (c : Col), L[j]? = some c → look (wrTo aw L T ds k) c = if decide (j < k) && hereD aw ds c.1.toNat then T.getD j [] else look ds c
  | 0, _, j, c, _ => by simp [wrTo]
  | k + 1, hk, j, c, hj => by
    have ih := wrTo_look (aw := aw) ok hc k (by omega)
    obtain ⟨e, he⟩ : ∃ e, L[k]? = some e := ⟨_, List.getElem?_eq_getElem (by omega)⟩
    obtain ⟨t, ht, ht64⟩ := hc.txt k (by omega)
    obtain ⟨e1, e2, e3, e4⟩ := hc.inn k e he
    obtain ⟨d, hd⟩ : ∃ d, (wrTo aw L T ds k)[e.1.toNat]? = some d := ⟨_, List.getElem?_eq_getElem (by rw [wrTo_len]; omega)⟩
    have hh := wrTo_at hd
    have okk := wrTo_ok (aw := aw) (L := L) (T := T) ok k
    cases hq : (!(aw.getD e.1.toNat false) && !d.lost) with
    | false =>
      rw [hq] at hh
      rw [wrTo_no he ht (by omega) hd hq]
      by_cases hjk : j = k
      · subst hjk
        rw [he] at hj; cases hj
        rw [ih _ _ he, hh]
        simp
      · rw [ih j c hj, show decide (j < k + 1) = decide (j < k) from decide_eq_decide.2 (by omega)]
    | true =>
      rw [hq] at hh
      rw [wrTo_yes he ht (by omega) hd hq]
      have hdl : d.lost = false := by simp only [Bool.and_eq_true, Bool.not_eq_true'] at hq; exact hq.2
      obtain ⟨o1, o2, o3, o4⟩ := okk d (List.mem_of_getElem? hd)
      have hw : d.wrE e.2.1 t = 0 := by
        have hm : d.mayE e.2.1 = 0 := by
          unfold DevD.mayE
          rw [hdl]
          simp only [Bool.false_eq_true, if_false]
          rw [if_neg (by omega)]
        unfold DevD.wrE
        rw [hm, if_neg (by simp), if_neg (by omega), if_neg (by omega)]
      by_cases hjk : j = k
      · subst hjk
        rw [he] at hj; cases hj
        rw [hh]
        have hlt : c.1.toNat < (wrTo aw L T ds j).length := (List.getElem?_eq_some_iff.1 hd).1
        unfold look
        rw [List.getElem?_set, if_pos rfl, if_pos hlt]
        simp only [Bool.and_true, show decide (j < j + 1) = true from decide_eq_true (by omega), if_true]
        rw [wr_rd_same hw, List.getD_eq_getElem?_getD, ht]
        rfl
      · have hne := hc.dis j k c e hjk hj he
        rw [show decide (j < k + 1) = decide (j < k) from decide_eq_decide.2 (by omega), ← ih j c hj]
        obtain ⟨c1, c2, c3, c4⟩ := hc.inn j c hj
        unfold look
        rw [List.getElem?_set]
        by_cases hdv : e.1.toNat = c.1.toNat
        · have hlt : e.1.toNat < (wrTo aw L T ds k).length := (List.getElem?_eq_some_iff.1 hd).1
          rw [if_pos hdv, if_pos hlt, ← hdv, hd]
          exact wr_rd_other e3 (fun h => hne ⟨by omega, h.symm⟩)
        · rw [if_neg hdv]
/-- A block's columns are such. -/
theorem cols_of {gs : List (Int × Int)} {secs n : Nat} {pg pa : Int} {s : List UInt8} (hr : gRight gs secs = true) (hn : gSum gs = n) (hz : encE gs secs pg pa s = 0) : Cols n secs (ofList gs secs pg pa (secN s)) (encL gs secs pg pa s) := by
  obtain ⟨z1, z2, z3⟩ := encE_zero hz
  have hLc : ofList gs secs pg pa (secN s) = colsOf gs secs pg pa (secN s) := by unfold ofList; rw [if_pos z2]
  have hnd : gDevs gs secs = n := by unfold gDevs; rw [if_pos hr]; exact hn
  obtain ⟨a1, a2, _⟩ := apart_pure z2 z2
  refine ⟨fun j c hj => ?_, fun j hj => ?_, fun i j c e hij hi hj => ?_⟩
  · rw [hLc] at hj
    have := a1 j c hj
    omega
  · have hk : j < (encL gs secs pg pa s).length := by rw [encL_len]; exact hj
    exact ⟨_, List.getElem?_eq_getElem hk, encL_64 z2 _ (List.getElem_mem hk)⟩
  · rw [hLc] at hi hj
    by_cases h : j < i
    · exact a2 i j c e h hi hj
    · intro hh
      exact a2 j i e c (by omega) hj hi ⟨hh.1.symm, hh.2.symm⟩
theorem wE_zero {gs : List (Int × Int)} {secs pg pa : Int} {s : List UInt8} {hs : Nat → Bool} {n : Nat} (h : wE gs secs pg pa s hs n = 0) : encE gs secs pg pa s = 0 := by
  unfold wE at h
  split at h
  · assumption
  · cases h
theorem secN_len {s t : List UInt8} (h : s.length = t.length) : secN s = secN t := by unfold secN; rw [h]
theorem secOk_len {s t : List UInt8} (h : s.length = t.length) : secOk s = secOk t := by
  unfold secOk
  rw [h]
  have : decide (s ≠ []) = decide (t ≠ []) := decide_eq_decide.2 (by
    rw [← List.length_pos_iff, ← List.length_pos_iff, h])
  rw [this]
theorem encE_len {gs : List (Int × Int)} {secs pg pa : Int} {s t : List UInt8} (h : s.length = t.length) : encE gs secs pg pa s = encE gs secs pg pa t := by
  unfold encE
  rw [secOk_len h, secN_len h]
end Go.Proofs.YtbhkbcpljakmjaaGreat

namespace Go.Proofs.YtbhkbcpljakmjaaGreat
set_option linter.unusedVariables false
set_option linter.unusedSimpArgs false
open Go.RowKit

/-- The boxes of a statement over devices: the measure, the place, the devices. -/
structure KX (w W : World) (A : Option Addr) (m c : Nat) (secs pg pa : Int) (y : VX) (xb : Nat) : Prop where
  g : Blk W w.heap.size 24 #[.slice A m c, .int .i64 secs]
  p : Blk W (w.heap.size + 1) 26 #[.int .i64 pg, .int .i64 pa]
  x : Blk W xb 37 y.cells
  bel : Below w.heap.size w W
section
variable {w W W' : World} {A : Option Addr} {m c : Nat} {secs pg pa : Int} {y : VX} {xb : Nat} {U : Nat → Prop}
theorem KX.stays (h : KX w W A m c secs pg pa y xb) (hs : Stays U W W') (hU : ∀ b, b < w.heap.size + 2 → U b) (hx : U xb) : KX w W' A m c secs pg pa y xb :=
  ⟨(hs.heap (hU _ (by omega)) h.g.lt).trans h.g, (hs.heap (hU _ (by omega)) h.p.lt).trans h.p, (hs.heap hx h.x.lt).trans h.x, h.bel.trans (hs.below h.bel.size (fun i hi => hU i (by omega)))⟩
theorem KX.below (h : KX w W A m c secs pg pa y xb) (hb : Below W.heap.size W W') : KX w W' A m c secs pg pa y xb :=
  ⟨h.g.below hb h.g.lt, h.p.below hb h.p.lt, h.x.below hb h.x.lt, keep_below hb h.bel⟩
theorem KX.far (h : KX w W A m c secs pg pa y xb) {b : Nat} (hb : w.heap.size + 2 ≤ b) (hx : xb ≠ b) (i : Nat) (u : Value) : KX w (W.setCell ⟨b, i, none⟩ u) A m c secs pg pa y xb :=
  ⟨h.g.far (by show w.heap.size ≠ b; omega) u, h.p.far (by show w.heap.size + 1 ≠ b; omega) u, h.x.far hx u, below_set h.bel _ _ _ (by omega)⟩
theorem awT_nil (n k : Nat) : awT [] n k = List.replicate n false := by simp [awT, bAt, List.map_const']
theorem lsT_nil (D : DevD) (n k : Nat) : lsT [] D n k = List.replicate n D := by simp [lsT, bAt, List.map_const']
end
theorem ofErr_good {gs : List (Int × Int)} {secs pg pa size : Int} (h : cMay gs secs pg pa size = true) : ofErr gs secs pg pa size = 0 := by unfold ofErr; rw [if_pos h]
theorem rem_eq {a q : Nat} (n : Nat) (h : a % n = q) : (a : Int).tmod (n : Int) = (q : Int) := (IntWalk.up_tmod rfl rfl).trans (by rw [h])
theorem set_back (n q : Nat) : ((List.replicate n false).set q true).set q false = List.replicate n false := by
  apply List.ext_getElem?
  intro i
  simp only [List.getElem?_set, List.getElem?_replicate, List.length_set, List.length_replicate]
  by_cases e : q = i
  · subst e
    by_cases h : q < n <;> simp [h]
  · simp [e]
theorem blanks_ok {n secs : Nat} {b : UInt8} (h1 : 1 ≤ secs) (h2 : secs ≤ 4096) : DsOk 0 secs (List.replicate n (DevD.blank secs b)) := fun d hd => by
  rw [List.eq_of_mem_replicate hd]
  exact ⟨blank_ok h1 h2, by simp [DevD.blank], rfl, fun k => Nat.zero_le _⟩
theorem hereD_set {aw : List Bool} {ds : List DevD} {q : Nat} (h : q < aw.length) : hereD (aw.set q true) ds q = false := by
  unfold hereD
  simp [List.getD_eq_getElem?_getD, List.getElem?_set, h]
theorem hereD_set_ne {aw : List Bool} {ds : List DevD} {q i : Nat} {v : Bool} (h : i ≠ q) : hereD (aw.set q v) ds i = hereD aw ds i := by
  unfold hereD
  simp only [List.getD_eq_getElem?_getD, List.getElem?_set, if_neg (fun e : q = i => h e.symm)]
theorem here_blank {n secs i : Nat} {b : UInt8} (hi : i < n) : hereD (List.replicate n false) (List.replicate n (DevD.blank secs b)) i = true := by
  unfold hereD
  simp [List.getD_eq_getElem?_getD, hi, DevD.blank]
/-- Written by all, then by all but one. -/
theorem away_read {gs : List (Int × Int)} {secs n q : Nat} {pg pa : Int} {s t : List UInt8} (hr : gRight gs secs = true) (hn : gSum gs = n) (hE : encE gs secs pg pa s = 0) (hl : s.length = t.length) (h1 : 1 ≤ secs) (h2 : secs ≤ 4096) (hq : q < n) {L : List Col} (hL : L = ofList gs secs pg pa (secN s))
    {ds1 ds2 : List DevD} (hd1 : ds1 = wrTo (List.replicate n false) L (encL gs secs pg pa s) (List.replicate n (DevD.blank secs 0)) L.length) (hd2 : ds2 = wrTo ((List.replicate n false).set q true) L (encL gs secs pg pa t) ds1 L.length) {k : Nat} {c : Col} (hk : L[k]? = some c) :
    rdC (List.replicate n false) ds2 c = if c.1 = q then (encL gs secs pg pa s).getD k [] else (encL gs secs pg pa t).getD k [] := by
  have hE2 : encE gs secs pg pa t = 0 := by rw [← encE_len hl]; exact hE
  have ok0 : DsOk 0 secs (List.replicate n (DevD.blank secs 0)) := blanks_ok h1 h2
  have c1 := cols_of hr hn hE
  have c2 := cols_of hr hn hE2
  rw [← secN_len hl, ← hL] at c2
  rw [← hL] at c1
  have hlen0 : (List.replicate n (DevD.blank secs 0)).length = n := by simp
  have hlen1 : ds1.length = n := by rw [hd1, wrTo_len, hlen0]
  have ok1 : DsOk (0 + L.length) secs ds1 := by rw [hd1]; exact wrTo_ok ok0 _
  have hkl : k < L.length := (List.getElem?_eq_some_iff.1 hk).1
  obtain ⟨e1, e2, e3, e4⟩ := c1.inn k c hk
  have hi : c.1.toNat < n := by omega
  have hh2 : hereD (List.replicate n false) ds2 c.1.toNat = true := by
    rw [hd2]
    have h3 : hereD (List.replicate n false) (wrTo ((List.replicate n false).set q true) L (encL gs secs pg pa t) ds1 L.length) c.1.toNat = hereD (List.replicate n false) ds1 c.1.toNat := by
      have := wrTo_lost (aw := (List.replicate n false).set q true) (L := L) (T := encL gs secs pg pa t) (ds := ds1) c.1.toNat L.length
      unfold hereD
      cases ha : (wrTo ((List.replicate n false).set q true) L (encL gs secs pg pa t) ds1 L.length)[c.1.toNat]? with
      | none =>
        rw [ha] at this
        cases hb : ds1[c.1.toNat]? with
        | none => rfl
        | some d => rw [hb] at this; cases this
      | some e =>
        rw [ha] at this
        cases hb : ds1[c.1.toNat]? with
        | none => rw [hb] at this; cases this
        | some d => rw [hb] at this; simp at this; simp [this]
    rw [h3, hd1, wrTo_hereD]
    exact here_blank hi
  rw [rdC_look, hh2, if_pos rfl, hd2, wrTo_look ok1 (by rw [hlen1]; exact c2) L.length (Nat.le_refl _) k c hk, hd1]
  rw [wrTo_look ok0 (by rw [hlen0]; exact c1) L.length (Nat.le_refl _) k c hk, here_blank hi, decide_eq_true hkl]
  by_cases hcq : c.1 = q
  · have e : c.1.toNat = q := by omega
    rw [if_pos hcq, e, hereD_set (by simpa using hq)]
    simp
  · rw [if_neg hcq, hereD_set_ne (fun h => hcq (by omega)), wrTo_hereD, here_blank hi]
    simp
end Go.Proofs.YtbhkbcpljakmjaaGreat
