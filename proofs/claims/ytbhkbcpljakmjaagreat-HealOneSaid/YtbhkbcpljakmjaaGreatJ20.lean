/-
  What encoded columns come to when some are spoilt or missing. No program stands here.
  What a Mirror's columns come to; how many are missing. No program stands here.
  The document's example (layer 8).
  What was written is what is read: columns on devices. No program stands here.
  What a statement of layer 8 keeps: its boxes, the measure; devices as they are made.
  What is read raw, some devices away: whether the text is among the tries. No program stands here.
-/
import Derived.Test.YtbhkbcpljakmjaaGreatJ19
import Derived.Test.YtbhkbcpljakmjaaGreatJ16
import Derived.Test.YtbhkbcpljakmjaaGreatJ15
namespace Go.Proofs.YtbhkbcpljakmjaaGreat
set_option linter.unusedVariables false
set_option linter.unusedSimpArgs false

theorem dataIx_cnt {L : List Col} : ∀ {k : Nat}, k ≤ L.length → (dataIx L k).map (dataCnt L) = List.range (dataCnt L k)
  | 0, _ => rfl
  | k + 1, hk => by
    have hc := colD_in (L := L) (i := k) (by omega)
    rw [dataIx_step, List.map_append, dataIx_cnt (by omega), dataCnt_succ hc]
    cases (L.getD k (0, 0, false, 0)).2.2.1
    · simp [List.range_succ]
    · simp
theorem dataIx_mem {L : List Col} {i : Nat} : i ∈ dataIx L L.length ↔ i < L.length ∧ (L.getD i (0, 0, false, 0)).2.2.1 = false := by
  unfold dataIx
  simp
theorem secs_to (s : List UInt8) : ∀ n, ((List.range n).map (secAt s)).flatten = s.take (n * 64)
  | 0 => by simp
  | n + 1 => by
    rw [List.range_succ, List.map_append, List.flatten_append, secs_to s n, Nat.succ_mul, List.take_add]
    simp [secAt]
theorem secs_flat {s : List UInt8} (h : s.length % 64 = 0) : (secsL s).flatten = s := by
  unfold secsL
  rw [secs_to, List.take_of_length_le]
  unfold secN
  omega
theorem secOk_parts {s : List UInt8} (h : secOk s = true) : s ≠ [] ∧ s.length % 64 = 0 ∧ s.length ≤ 256 := by
  unfold secOk at h
  simpa using h
theorem secN_pos {s : List UInt8} (h : secOk s = true) : 0 < secN s := by
  obtain ⟨h1, h2, _⟩ := secOk_parts h
  have := List.length_pos_iff.2 h1
  unfold secN
  omega
section
variable {gs : List (Int × Int)} {secs pg pa : Int} {s : List UInt8}
theorem encL_get {L : List Col} (hL : ofList gs secs pg pa (secN s) = L) {i : Nat} (hi : i < L.length) : (encL gs secs pg pa s).getD i [] = outE L (secsL s) i := by
  unfold encL
  rw [hL, List.getD_eq_getElem?_getD, List.getElem?_map, List.getElem?_range hi]
  rfl
theorem ofList_may {size : Int} (h : cMay gs secs pg pa size = true) : ofList gs secs pg pa size = colsOf gs secs pg pa size := by unfold ofList; rw [if_pos h]
theorem enc_encL (h : cMay gs secs pg pa (secN s) = true) : EncL (colsOf gs secs pg pa (secN s)) (encL gs secs pg pa s) := by
  have hO := ofList_may h
  refine ⟨by rw [encL_len, hO], fun i hi => ?_, fun i hi hp => ?_⟩
  · refine encL_64 h _ ?_
    rw [List.getD_eq_getElem?_getD, List.getElem?_eq_getElem (by rw [encL_len, hO]; exact hi)]
    exact List.getElem_mem _
  · rw [encL_get hO hi, outE_par (colD_in hi) hp]
    congr 1
    apply List.map_congr_left
    intro j hj
    obtain ⟨c, hc, _, hd⟩ := rowIx_spec hj
    rw [encL_get hO (List.getElem?_eq_some_iff.1 hc).1, outE_data hc hd]
/-- A data column is a sector of the text. -/
theorem enc_data (h : cMay gs secs pg pa (secN s) = true) {i : Nat} (hi : i < (colsOf gs secs pg pa (secN s)).length) (hd : ((colsOf gs secs pg pa (secN s)).getD i (0, 0, false, 0)).2.2.1 = false) :
    (encL gs secs pg pa s).getD i [] = (secsL s).getD (dataCnt (colsOf gs secs pg pa (secN s)) i % secN s) [] := by
  rw [encL_get (ofList_may h) hi, outE_data (colD_in hi) hd, outD_data (colD_in hi) hd, secsL_len]
/-- The data columns of a Parity, one after the other, are the text. -/
theorem enc_text (h : cMay gs secs pg pa (secN s) = true) (hs : secOk s = true) (hk : (grAt gs pg).1 ≠ 0) :
    ((dataIx (colsOf gs secs pg pa (secN s)) (colsOf gs secs pg pa (secN s)).length).map fun i => (encL gs secs pg pa s).getD i []).flatten = s := by
  have hP := parL_of h hk
  have hm : ((dataIx (colsOf gs secs pg pa (secN s)) (colsOf gs secs pg pa (secN s)).length).map fun i => (encL gs secs pg pa s).getD i []) = ((dataIx (colsOf gs secs pg pa (secN s)) (colsOf gs secs pg pa (secN s)).length).map (dataCnt (colsOf gs secs pg pa (secN s)))).map fun j => (secsL s).getD (j % secN s) [] := by
    rw [List.map_map]
    apply List.map_congr_left
    intro i hi
    obtain ⟨h1, h2⟩ := dataIx_mem.1 hi
    exact enc_data h h1 h2
  have hc : dataCnt (colsOf gs secs pg pa (secN s)) (colsOf gs secs pg pa (secN s)).length = secN s := by
    unfold dataCnt
    rw [List.take_length, hP.cnt, Int.toNat_natCast]
  rw [hm, dataIx_cnt (Nat.le_refl _), hc]
  have : ((List.range (secN s)).map fun j => (secsL s).getD (j % secN s) []) = secsL s := by
    unfold secsL
    apply List.map_congr_left
    intro j hj
    have hj := List.mem_range.1 hj
    rw [Nat.mod_eq_of_lt hj, List.getD_eq_getElem?_getD, List.getElem?_map, List.getElem?_range hj]
    rfl
  rw [this, secs_flat (secOk_parts hs).2.1]
theorem withS_back {L : List Col} {E got : List (List UInt8)} {d : Int} (hE : EncL L E) (h : ∀ i, i < L.length → (L.getD i (0, 0, false, 0)).2.2.1 = false → colTxt L got d i = E.getD i []) :
    withS L got d = ((dataIx L L.length).map fun i => E.getD i []).flatten := by
  have hm : (dataIx L L.length).map (colTxt L got d) = (dataIx L L.length).map fun i => E.getD i [] := by
    apply List.map_congr_left
    intro i hi
    obtain ⟨h1, h2⟩ := dataIx_mem.1 hi
    exact h i h1 h2
  have hno : hasE ((dataIx L L.length).map fun i => E.getD i []) = false := by
    unfold hasE
    rw [List.any_eq_false]
    intro x hx hxe
    obtain ⟨i, hi, rfl⟩ := List.mem_map.1 hx
    have := hE.all64 i (dataIx_mem.1 hi).1
    rw [List.isEmpty_iff.1 hxe] at this
    cases this
  unfold withS
  simp only
  rw [hm, hno]
  rfl
theorem withS_some {L : List Col} {got : List (List UInt8)} {d : Int} (h : withS L got d ≠ []) : ∀ i, i < L.length → (L.getD i (0, 0, false, 0)).2.2.1 = false → colTxt L got d i ≠ [] := by
  intro i h1 h2 he
  apply h
  have : hasE ((dataIx L L.length).map (colTxt L got d)) = true := by
    unfold hasE
    rw [List.any_eq_true]
    exact ⟨[], List.mem_map.2 ⟨i, dataIx_mem.2 ⟨h1, h2⟩, he⟩, rfl⟩
  unfold withS
  simp only
  rw [this, if_pos rfl]
theorem row_devD (h : cMay gs secs pg pa (secN s) = true) {i j : Nat} (hi : i < (colsOf gs secs pg pa (secN s)).length) (hj : j < (colsOf gs secs pg pa (secN s)).length) (hne : j ≠ i)
    (hr : ((colsOf gs secs pg pa (secN s)).getD j (0, 0, false, 0)).2.2.2 = ((colsOf gs secs pg pa (secN s)).getD i (0, 0, false, 0)).2.2.2) : ((colsOf gs secs pg pa (secN s)).getD j (0, 0, false, 0)).1 ≠ ((colsOf gs secs pg pa (secN s)).getD i (0, 0, false, 0)).1 := by
  rcases Nat.lt_or_gt_of_ne hne with h1 | h1
  · exact row_devs h h1 (colD_in hj) (colD_in hi) hr
  · exact fun e => row_devs h h1 (colD_in hi) (colD_in hj) hr.symm e.symm
theorem dev_nn {size : Int} (h : cMay gs secs pg pa size = true) {i : Nat} (hi : i < (colsOf gs secs pg pa size).length) : 0 ≤ ((colsOf gs secs pg pa size).getD i (0, 0, false, 0)).1 := by
  obtain ⟨t, hl, _⟩ := cols_lie h (colD_in hi)
  exact (lies_in h hl).1
theorem mem_devs {L : List Col} {d : Int} : d ∈ parDevs L ↔ d = -1 ∨ ∃ i, i < L.length ∧ (L.getD i (0, 0, false, 0)).2.2.1 = false ∧ (L.getD i (0, 0, false, 0)).1 = d := by
  unfold parDevs
  rw [List.mem_cons, (devsL_spec _).2]
  refine or_congr Iff.rfl ⟨?_, ?_⟩
  · rintro ⟨c, hc, rfl⟩
    obtain ⟨h1, h2⟩ := List.mem_filter.1 hc
    obtain ⟨i, hi⟩ := List.mem_iff_getElem?.1 h1
    have hil := (List.getElem?_eq_some_iff.1 hi).1
    rw [colD_in hil] at hi
    cases hi
    exact ⟨i, hil, by simpa using h2, rfl⟩
  · rintro ⟨i, hi, h1, rfl⟩
    exact ⟨_, List.mem_filter.2 ⟨List.mem_of_getElem? (colD_in hi), by rw [h1]; rfl⟩, rfl⟩
/-- Where one device's columns alone are spoilt, the text is among a Parity's tries. -/
theorem par_one_back (h : cMay gs secs pg pa (secN s) = true) (hs : secOk s = true) (hk : (grAt gs pg).1 ≠ 0) {got : List (List UInt8)} {d : Int}
    (hg : ∀ i, i < (colsOf gs secs pg pa (secN s)).length → ((colsOf gs secs pg pa (secN s)).getD i (0, 0, false, 0)).1 ≠ d → got.getD i [] = (encL gs secs pg pa s).getD i []) : ∃ x ∈ parT (colsOf gs secs pg pa (secN s)) got, x.2 = s := by
  have hP := parL_of h hk
  have hE := enc_encL h
  have hT := enc_text h hs hk
  have hD := fun (i j : Nat) => row_devD h (i := i) (j := j)
  have hN := fun (i : Nat) => dev_nn h (i := i)
  generalize colsOf gs secs pg pa (secN s) = L at *
  generalize encL gs secs pg pa s = E at *
  have hsne := (secOk_parts hs).1
  have main : ∀ e, e ∈ parDevs L → withS L got e = s → ∃ x ∈ parT L got, x.2 = s := by
    intro e he hw
    refine ⟨(e, s), List.mem_filterMap.2 ⟨e, he, ?_⟩, rfl⟩
    unfold parOne
    rw [hw, if_neg (by simpa using hsne)]
  by_cases hdm : ∃ i, i < L.length ∧ (L.getD i (0, 0, false, 0)).2.2.1 = false ∧ (L.getD i (0, 0, false, 0)).1 = d
  · refine main d (mem_devs.2 (.inr hdm)) ?_
    rw [withS_back hE, hT]
    intro i hi hd
    unfold colTxt
    by_cases hid : (L.getD i (0, 0, false, 0)).1 = d
    · rw [if_pos (beq_iff_eq.2 hid)]
      refine again_back hP hE hi fun j hj hr hne => hg j hj ?_
      rw [← hid]
      exact hD i j hi hj hne hr
    · rw [if_neg (by simpa using hid)]
      exact hg i hi hid
  · refine main (-1) (mem_devs.2 (.inl rfl)) ?_
    rw [withS_back hE, hT]
    intro i hi hd
    unfold colTxt
    rw [if_neg (by have := hN i hi; rw [beq_iff_eq]; omega)]
    exact hg i hi fun e => hdm ⟨i, hi, hd, e⟩
/-- Where columns are as they were or missing, each of a Parity's tries is the text. -/
theorem par_all_back (h : cMay gs secs pg pa (secN s) = true) (hs : secOk s = true) (hk : (grAt gs pg).1 ≠ 0) {got : List (List UInt8)}
    (hg : ∀ i, i < (colsOf gs secs pg pa (secN s)).length → got.getD i [] = (encL gs secs pg pa s).getD i [] ∨ got.getD i [] = []) : ∀ x ∈ parT (colsOf gs secs pg pa (secN s)) got, x.2 = s := by
  have hP := parL_of h hk
  have hE := enc_encL h
  have hT := enc_text h hs hk
  generalize colsOf gs secs pg pa (secN s) = L at *
  generalize encL gs secs pg pa s = E at *
  intro x hx
  obtain ⟨d, _, hd⟩ := List.mem_filterMap.1 hx
  unfold parOne at hd
  split at hd
  · cases hd
  rename_i hne
  cases hd
  have hne : withS L got d ≠ [] := by simpa using hne
  have hsome := withS_some hne
  show withS L got d = s
  rw [withS_back hE, hT]
  intro i hi hdat
  have h1 := hsome i hi hdat
  unfold colTxt at h1 ⊢
  split
  · rename_i he
    rw [if_pos he] at h1
    exact again_back hP hE hi fun j hj hr hne' => (hg j hj).resolve_right (again_some h1 j hj hr hne')
  · rename_i he
    rw [if_neg he] at h1
    exact (hg i hi).resolve_right h1
/-- With two of a row missing there is no try. -/
theorem par_two_none {L : List Col} {sz : Nat} (hP : ParL L sz) {got : List (List UInt8)} {i j : Nat} (hi : i < L.length) (hj : j < L.length) (hne : i ≠ j)
    (hr : (L.getD j (0, 0, false, 0)).2.2.2 = (L.getD i (0, 0, false, 0)).2.2.2) (h1 : got.getD i [] = []) (h2 : got.getD j [] = []) : parT L got = [] := by
  have main : ∀ a b, a < L.length → b < L.length → a ≠ b → (L.getD b (0, 0, false, 0)).2.2.2 = (L.getD a (0, 0, false, 0)).2.2.2 → got.getD a [] = [] → got.getD b [] = [] → (L.getD a (0, 0, false, 0)).2.2.1 = false → parT L got = [] := by
    intro a b ha hb hab hrow ga gb hda
    unfold parT
    rw [List.filterMap_eq_nil_iff]
    intro d _
    unfold parOne
    rw [if_pos]
    rw [List.isEmpty_iff]
    refine Decidable.byContradiction fun hw => ?_
    refine withS_some hw a ha hda ?_
    unfold colTxt
    split
    · exact again_none hb hrow hab.symm gb
    · exact ga
  cases hdi : (L.getD i (0, 0, false, 0)).2.2.1 with
  | false => exact main i j hi hj hne hr h1 h2 hdi
  | true =>
    cases hdj : (L.getD j (0, 0, false, 0)).2.2.1 with
    | false => exact main j i hj hi hne.symm hr.symm h2 h1 hdj
    | true =>
      obtain ⟨p, _, _, _, hu⟩ := hP.one i hi
      exact absurd ((hu i hi hdi rfl).trans (hu j hj hdj hr).symm) hne
end
end Go.Proofs.YtbhkbcpljakmjaaGreat

namespace Go.Proofs.YtbhkbcpljakmjaaGreat
set_option linter.unusedVariables false
set_option linter.unusedSimpArgs false

theorem mirPart_eq {sz : Nat} {got : List (List UInt8)} {j : Nat} (h : j * sz + sz ≤ got.length) : mirPart sz got j = (List.range sz).map fun t => got.getD (j * sz + t) [] := by
  unfold mirPart
  apply List.ext_getElem?
  intro t
  by_cases ht : t < sz
  · rw [List.getElem?_take_of_lt ht, List.getElem?_drop, List.getElem?_map, List.getElem?_range ht, Option.map_some, List.getD_eq_getElem?_getD, List.getElem?_eq_getElem (show j * sz + t < got.length by omega)]
    rfl
  · rw [List.getElem?_eq_none (by rw [List.length_take]; omega), List.getElem?_eq_none (by rw [List.length_map, List.length_range]; omega)]
/-- What a Mirror's columns are. -/
structure MirL (L : List Col) (first : Int) (wd sz : Nat) : Prop where
  pos : 0 < sz
  wpos : 0 < wd
  len : L.length = wd * sz
  dat : ∀ i, i < L.length → (L.getD i (0, 0, false, 0)).2.2.1 = false
  dev : ∀ i, i < L.length → (L.getD i (0, 0, false, 0)).1 = first + ((i / sz : Nat) : Int)
theorem mirL_of {gs : List (Int × Int)} {secs pg pa size : Int} (h : cMay gs secs pg pa size = true) (hk : (grAt gs pg).1 = 0) : MirL (colsOf gs secs pg pa size) (gFirst gs secs pg) (grAt gs pg).2.toNat size.toNat := by
  obtain ⟨hhas, hz1, hz2, hp1, hp2, _⟩ := cMay_true h
  obtain ⟨sz, rfl⟩ := Int.eq_ofNat_of_zero_le (show 0 ≤ size by omega)
  obtain ⟨g, x, rfl, _, hl4, hs1, hs2, hx, hgx, ho⟩ := gHas_true hhas
  obtain ⟨kd, wd⟩ := x
  rw [hgx] at hk
  have ho' := gOne_true ho
  simp only at ho' hk
  obtain ⟨w, rfl⟩ := Int.eq_ofNat_of_zero_le (show 0 ≤ wd by omega)
  subst hk
  have hL : colsOf gs secs g pa sz = mirror (gFirst gs secs g) pa w sz := by unfold colsOf; rw [hgx]; rfl
  rw [hL, hgx]
  simp only [Int.toNat_natCast]
  have hlen : (mirror (gFirst gs secs g) pa w sz).length = w * sz := by unfold mirror; rw [mirTo_len, Nat.add_zero]
  have hat : ∀ i, i < (mirror (gFirst gs secs g) pa w sz).length → (mirror (gFirst gs secs g) pa w sz).getD i (0, 0, false, 0) = mcol (gFirst gs secs g) pa (i / sz) (i % sz) := fun i hi => (mirror_get (colD_in hi) (by omega)).1
  exact ⟨by omega, by omega, hlen, fun i hi => by rw [hat i hi]; rfl, fun i hi => by rw [hat i hi]; rfl⟩
theorem dataCnt_mir {L : List Col} {first : Int} {wd sz : Nat} (hM : MirL L first wd sz) {i : Nat} (hi : i ≤ L.length) : dataCnt L i = i := by
  unfold dataCnt
  rw [List.filter_eq_self.2, List.length_take, Nat.min_eq_left hi]
  intro c hc
  obtain ⟨j, hj⟩ := List.mem_iff_getElem?.1 (List.mem_of_mem_take hc)
  have hjl := (List.getElem?_eq_some_iff.1 hj).1
  have := hM.dat j hjl
  rw [colD_in hjl] at hj
  cases hj
  rw [this]
  rfl
theorem in_part {wd sz j t N : Nat} (hN : N = wd * sz) (hj : j < wd) (ht : t < sz) : j * sz + t < N ∧ (j * sz + t) / sz = j ∧ (j * sz + t) % sz = t ∧ j * sz + sz ≤ N := by
  have h1 : (j + 1) * sz ≤ wd * sz := Nat.mul_le_mul_right sz hj
  rw [Nat.succ_mul] at h1
  refine ⟨by omega, ?_, ?_, by omega⟩
  · rw [Nat.mul_comm, Nat.mul_add_div (by omega), Nat.div_eq_of_lt ht, Nat.add_zero]
  · rw [Nat.mul_comm, Nat.mul_add_mod, Nat.mod_eq_of_lt ht]
section
variable {gs : List (Int × Int)} {secs pg pa : Int} {s : List UInt8}
theorem enc_mir (h : cMay gs secs pg pa (secN s) = true) (hk : (grAt gs pg).1 = 0) {i : Nat} (hi : i < (colsOf gs secs pg pa (secN s)).length) : (encL gs secs pg pa s).getD i [] = (secsL s).getD (i % secN s) [] := by
  have hM := mirL_of h hk
  rw [enc_data h hi (hM.dat i hi), dataCnt_mir hM (Nat.le_of_lt hi)]
theorem enc_part (h : cMay gs secs pg pa (secN s) = true) (hk : (grAt gs pg).1 = 0) (hs : secOk s = true) {got : List (List UInt8)} {j : Nat} (hgl : got.length = (colsOf gs secs pg pa (secN s)).length) (hj : j < (grAt gs pg).2.toNat)
    (hg : ∀ t, t < secN s → got.getD (j * secN s + t) [] = (encL gs secs pg pa s).getD (j * secN s + t) []) : mirPart (secN s) got j = secsL s ∧ hasE (mirPart (secN s) got j) = false := by
  have hM := mirL_of h hk
  rw [Int.toNat_natCast] at hM
  have hlen := hM.len
  have e : mirPart (secN s) got j = secsL s := by
    rw [mirPart_eq (by rw [hgl]; exact (in_part hlen hj (secN_pos hs)).2.2.2)]
    unfold secsL
    apply List.map_congr_left
    intro t ht
    have ht := List.mem_range.1 ht
    obtain ⟨h1, _, h3, _⟩ := in_part hlen hj ht
    rw [hg t ht, enc_mir h hk h1, h3, List.getD_eq_getElem?_getD, secsL_at ht]
    rfl
  refine ⟨e, ?_⟩
  rw [e]
  unfold hasE
  rw [List.any_eq_false]
  intro x hx hxe
  obtain ⟨t, ht, rfl⟩ := List.mem_map.1 hx
  have := secAt_len (List.mem_range.1 ht)
  rw [List.isEmpty_iff.1 hxe] at this
  cases this
theorem mirT_mem {L : List Col} {sz k : Nat} {got : List (List UInt8)} {x : Int × List UInt8} : x ∈ mirT L sz got k ↔ ∃ j, j < k ∧ mirOne L sz got j = some x := by
  unfold mirT
  rw [List.mem_filterMap]
  simp only [List.mem_range]
/-- Where one device's columns are right, the text is among a Mirror's tries. -/
theorem mir_one_back (h : cMay gs secs pg pa (secN s) = true) (hk : (grAt gs pg).1 = 0) (hs : secOk s = true) {got : List (List UInt8)} {j : Nat} (hgl : got.length = (colsOf gs secs pg pa (secN s)).length) (hj : j < (grAt gs pg).2.toNat)
    (hg : ∀ t, t < secN s → got.getD (j * secN s + t) [] = (encL gs secs pg pa s).getD (j * secN s + t) []) : ∃ x ∈ mirT (colsOf gs secs pg pa (secN s)) (secN s) got (grAt gs pg).2.toNat, x.2 = s := by
  obtain ⟨h1, h2⟩ := enc_part h hk hs hgl hj hg
  refine ⟨(((colsOf gs secs pg pa (secN s)).getD (j * secN s) (0, 0, false, 0)).1, s), mirT_mem.2 ⟨j, hj, ?_⟩, ?_⟩
  · unfold mirOne
    rw [h2, h1, secs_flat (secOk_parts hs).2.1]
    rfl
  · rfl
theorem hasE_part {sz j : Nat} {got : List (List UInt8)} (h : j * sz + sz ≤ got.length) : hasE (mirPart sz got j) = false ↔ ∀ t, t < sz → got.getD (j * sz + t) [] ≠ [] := by
  rw [mirPart_eq h]
  unfold hasE
  rw [List.any_eq_false]
  constructor
  · intro h1 t ht he
    exact h1 _ (List.mem_map.2 ⟨t, List.mem_range.2 ht, rfl⟩) (by rw [he]; rfl)
  · intro h1 x hx hxe
    obtain ⟨t, ht, rfl⟩ := List.mem_map.1 hx
    exact h1 t (List.mem_range.1 ht) (List.isEmpty_iff.1 hxe)
theorem mir_all_back (h : cMay gs secs pg pa (secN s) = true) (hk : (grAt gs pg).1 = 0) (hs : secOk s = true) {got : List (List UInt8)} (hgl : got.length = (colsOf gs secs pg pa (secN s)).length)
    (hg : ∀ i, i < (colsOf gs secs pg pa (secN s)).length → got.getD i [] = (encL gs secs pg pa s).getD i [] ∨ got.getD i [] = []) : ∀ x ∈ mirT (colsOf gs secs pg pa (secN s)) (secN s) got (grAt gs pg).2.toNat, x.2 = s := by
  have hM := mirL_of h hk
  rw [Int.toNat_natCast] at hM
  intro x hx
  obtain ⟨j, hj, hx⟩ := mirT_mem.1 hx
  have hb := (in_part hM.len hj (secN_pos hs)).2.2.2
  unfold mirOne at hx
  split at hx
  · cases hx
  rename_i hne
  have hne : hasE (mirPart (secN s) got j) = false := by simpa using hne
  cases hx
  have h1 := (hasE_part (by rw [hgl]; exact hb)).1 hne
  have h2 := enc_part h hk hs hgl hj fun t ht => (hg _ (in_part hM.len hj ht).1).resolve_right (h1 t ht)
  show (mirPart (secN s) got j).flatten = s
  rw [h2.1, secs_flat (secOk_parts hs).2.1]
end
theorem two_of {l : List Nat} (hn : l.Nodup) (h : 2 ≤ l.length) : ∃ a b, a ∈ l ∧ b ∈ l ∧ a ≠ b := by
  match l, hn, h with
  | a :: b :: l, hn, _ =>
    refine ⟨a, b, List.mem_cons_self, List.mem_cons_of_mem _ List.mem_cons_self, fun e => ?_⟩
    rw [List.nodup_cons] at hn
    exact hn.1 (by rw [e]; exact List.mem_cons_self)
end Go.Proofs.YtbhkbcpljakmjaaGreat

namespace Go.Proofs.YtbhkbcpljakmjaaGreat
set_option linter.unusedVariables false
set_option linter.unusedSimpArgs false
open Go.RowKit

theorem geo_ex (w : World) : GeoAt (w.alloc (.cells #[.int .i64 0, .int .i64 2] 53)) (some ⟨w.heap.size, 0, none⟩) 1 [(0, 2)] := by
  refine ⟨rfl, by decide, fun _ => ⟨w.heap.size, 0, rfl, by simp, fun i x hx => ?_⟩⟩
  have hi : i = 0 := by
    have := (List.getElem?_eq_some_iff.1 hx).1
    simp at this
    exact this
  subst hi
  simp at hx
  subst hx
  exact ⟨(Blk.new _ _ _).at_ rfl, (Blk.new _ _ _).at_ rfl⟩
end Go.Proofs.YtbhkbcpljakmjaaGreat

namespace Go.Proofs.YtbhkbcpljakmjaaGreat
set_option linter.unusedVariables false
set_option linter.unusedSimpArgs false

/-- What a column of the devices reads as. -/
def look (ds : List DevD) (c : Col) : List UInt8 := match ds[c.1.toNat]? with
  | some d => d.rdS c.2.1
  | none => []
theorem rdC_look (aw : List Bool) (ds : List DevD) (c : Col) : rdC aw ds c = if hereD aw ds c.1.toNat then look ds c else [] := rfl
theorem wr_mayE (d : DevD) (a b : Int) (t : List UInt8) : (d.wr a t).mayE b = d.mayE b := by
  unfold DevD.mayE
  rw [wr_lost, DevD.wr_med]
theorem wr_now_same {d : DevD} {a : Int} {t : List UInt8} (h : d.wrE a t = 0) : (d.wr a t).now a.toNat = t := by
  unfold DevD.wr
  rw [if_pos h]
  unfold DevD.now DevD.put
  simp [lastOr]
theorem wr_now_other {d : DevD} {a : Int} {t : List UInt8} {k : Nat} (h : k ≠ a.toNat) : (d.wr a t).now k = d.now k := by
  unfold DevD.wr
  split
  · unfold DevD.now DevD.put DevD.burn DevD.medAt
    simp only [if_neg h]
  · rfl
theorem wr_rd_same {d : DevD} {a : Int} {t : List UInt8} (h : d.wrE a t = 0) : (d.wr a t).rdS a = t := by
  have hm : d.mayE a = 0 := by
    unfold DevD.wrE at h
    split at h
    · rename_i hn; exact absurd h hn
    · rename_i hn; exact Decidable.of_not_not hn
  unfold DevD.rdS
  rw [wr_mayE, if_pos hm, wr_now_same h]
theorem wr_rd_other {d : DevD} {a b : Int} {t : List UInt8} (ha : 0 ≤ a) (hn : a ≠ b) : (d.wr a t).rdS b = d.rdS b := by
  unfold DevD.rdS
  rw [wr_mayE]
  split
  · rename_i hm
    have := DevD.mayE_ok hm
    rw [wr_now_other (by omega)]
  · rfl
/-- Columns that are what a block's may be. -/
structure Cols (n secs : Nat) (L : List Col) (T : List (List UInt8)) : Prop where
  inn : ∀ (j : Nat) (c : Col), L[j]? = some c → 0 ≤ c.1 ∧ c.1 < n ∧ 0 ≤ c.2.1 ∧ c.2.1 < secs
  txt : ∀ j : Nat, j < L.length → ∃ t, T[j]? = some t ∧ t.length = 64
  dis : ∀ (i j : Nat) (c e : Col), i ≠ j → L[i]? = some c → L[j]? = some e → ¬ (c.1 = e.1 ∧ c.2.1 = e.2.1)
theorem wrTo_hereD {aw : List Bool} {L : List Col} {T : List (List UInt8)} {ds : List DevD} (k i : Nat) : hereD aw (wrTo aw L T ds k) i = hereD aw ds i := by
  cases h : (wrTo aw L T ds k)[i]? with
  | none =>
    have h2 : ds[i]? = none := by
      rw [List.getElem?_eq_none_iff] at h ⊢
      rwa [wrTo_len] at h
    unfold hereD
    rw [h, h2]
  | some e =>
    rw [wrTo_at h]
    unfold hereD
    rw [h]
theorem wrTo_look {aw : List Bool} {L : List Col} {T : List (List UInt8)} {ds : List DevD} {N secs : Nat} (ok : DsOk N secs ds) (hc : Cols ds.length secs L T) :
    ∀ k : Nat, k ≤ L.length → ∀ (j : Nat) (c : Col), L[j]? = some c → look (wrTo aw L T ds k) c = if decide (j < k) && hereD aw ds c.1.toNat then T.getD j [] else look ds c
  | 0, _, j, c, _ => by simp [wrTo]
  | k + 1, hk, j, c, hj => by
    have ih := wrTo_look (aw := aw) ok hc k (by omega)
    obtain ⟨e, he⟩ : ∃ e, L[k]? = some e := ⟨_, List.getElem?_eq_getElem (by omega)⟩
    obtain ⟨t, ht, ht64⟩ := hc.txt k (by omega)
    obtain ⟨e1, e2, e3, e4⟩ := hc.inn k e he
    obtain ⟨d, hd⟩ : ∃ d, (wrTo aw L T ds k)[e.1.toNat]? = some d := ⟨_, List.getElem?_eq_getElem (by rw [wrTo_len]; omega)⟩
    have hh := wrTo_at hd
    have okk := wrTo_ok (aw := aw) (L := L) (T := T) ok k
    cases hq : (!(aw.getD e.1.toNat false) && !d.lost) with
    | false =>
      rw [hq] at hh
      rw [wrTo_no he ht (by omega) hd hq]
      by_cases hjk : j = k
      · subst hjk
        rw [he] at hj; cases hj
        rw [ih _ _ he, hh]
        simp
      · rw [ih j c hj, show decide (j < k + 1) = decide (j < k) from decide_eq_decide.2 (by omega)]
    | true =>
      rw [hq] at hh
      rw [wrTo_yes he ht (by omega) hd hq]
      have hdl : d.lost = false := by simp only [Bool.and_eq_true, Bool.not_eq_true'] at hq; exact hq.2
      obtain ⟨o1, o2, o3, o4⟩ := okk d (List.mem_of_getElem? hd)
      have hw : d.wrE e.2.1 t = 0 := by
        have hm : d.mayE e.2.1 = 0 := by
          unfold DevD.mayE
          rw [hdl]
          simp only [Bool.false_eq_true, if_false]
          rw [if_neg (by omega)]
        unfold DevD.wrE
        rw [hm, if_neg (by simp), if_neg (by omega), if_neg (by omega)]
      by_cases hjk : j = k
      · subst hjk
        rw [he] at hj; cases hj
        rw [hh]
        have hlt : c.1.toNat < (wrTo aw L T ds j).length := (List.getElem?_eq_some_iff.1 hd).1
        unfold look
        rw [List.getElem?_set, if_pos rfl, if_pos hlt]
        simp only [Bool.and_true, show decide (j < j + 1) = true from decide_eq_true (by omega), if_true]
        rw [wr_rd_same hw, List.getD_eq_getElem?_getD, ht]
        rfl
      · have hne := hc.dis j k c e hjk hj he
        rw [show decide (j < k + 1) = decide (j < k) from decide_eq_decide.2 (by omega), ← ih j c hj]
        obtain ⟨c1, c2, c3, c4⟩ := hc.inn j c hj
        unfold look
        rw [List.getElem?_set]
        by_cases hdv : e.1.toNat = c.1.toNat
        · have hlt : e.1.toNat < (wrTo aw L T ds k).length := (List.getElem?_eq_some_iff.1 hd).1
          rw [if_pos hdv, if_pos hlt, ← hdv, hd]
          exact wr_rd_other e3 (fun h => hne ⟨by omega, h.symm⟩)
        · rw [if_neg hdv]
/-- A block's columns are such. -/
theorem cols_of {gs : List (Int × Int)} {secs n : Nat} {pg pa : Int} {s : List UInt8} (hr : gRight gs secs = true) (hn : gSum gs = n) (hz : encE gs secs pg pa s = 0) : Cols n secs (ofList gs secs pg pa (secN s)) (encL gs secs pg pa s) := by
  obtain ⟨z1, z2, z3⟩ := encE_zero hz
  have hLc : ofList gs secs pg pa (secN s) = colsOf gs secs pg pa (secN s) := by unfold ofList; rw [if_pos z2]
  have hnd : gDevs gs secs = n := by unfold gDevs; rw [if_pos hr]; exact hn
  obtain ⟨a1, a2, _⟩ := apart_pure z2 z2
  refine ⟨fun j c hj => ?_, fun j hj => ?_, fun i j c e hij hi hj => ?_⟩
  · rw [hLc] at hj
    have := a1 j c hj
    omega
  · have hk : j < (encL gs secs pg pa s).length := by rw [encL_len]; exact hj
    exact ⟨_, List.getElem?_eq_getElem hk, encL_64 z2 _ (List.getElem_mem hk)⟩
  · rw [hLc] at hi hj
    by_cases h : j < i
    · exact a2 i j c e h hi hj
    · intro hh
      exact a2 j i e c (by omega) hj hi ⟨hh.1.symm, hh.2.symm⟩
end Go.Proofs.YtbhkbcpljakmjaaGreat

namespace Go.Proofs.YtbhkbcpljakmjaaGreat
set_option linter.unusedVariables false
set_option linter.unusedSimpArgs false
open Go.RowKit

/-- The boxes of a statement over devices: the measure, the place, the devices. -/
structure KX (w W : World) (A : Option Addr) (m c : Nat) (secs pg pa : Int) (y : VX) (xb : Nat) : Prop where
  g : Blk W w.heap.size 24 #[.slice A m c, .int .i64 secs]
  p : Blk W (w.heap.size + 1) 26 #[.int .i64 pg, .int .i64 pa]
  x : Blk W xb 37 y.cells
  bel : Below w.heap.size w W
section
variable {w W W' : World} {A : Option Addr} {m c : Nat} {secs pg pa : Int} {y : VX} {xb : Nat} {U : Nat → Prop}
theorem KX.stays (h : KX w W A m c secs pg pa y xb) (hs : Stays U W W') (hU : ∀ b, b < w.heap.size + 2 → U b) (hx : U xb) : KX w W' A m c secs pg pa y xb :=
  ⟨(hs.heap (hU _ (by omega)) h.g.lt).trans h.g, (hs.heap (hU _ (by omega)) h.p.lt).trans h.p, (hs.heap hx h.x.lt).trans h.x, h.bel.trans (hs.below h.bel.size (fun i hi => hU i (by omega)))⟩
theorem KX.below (h : KX w W A m c secs pg pa y xb) (hb : Below W.heap.size W W') : KX w W' A m c secs pg pa y xb :=
  ⟨h.g.below hb h.g.lt, h.p.below hb h.p.lt, h.x.below hb h.x.lt, keep_below hb h.bel⟩
theorem KX.far (h : KX w W A m c secs pg pa y xb) {b : Nat} (hb : w.heap.size + 2 ≤ b) (hx : xb ≠ b) (i : Nat) (u : Value) : KX w (W.setCell ⟨b, i, none⟩ u) A m c secs pg pa y xb :=
  ⟨h.g.far (by show w.heap.size ≠ b; omega) u, h.p.far (by show w.heap.size + 1 ≠ b; omega) u, h.x.far hx u, below_set h.bel _ _ _ (by omega)⟩
end
theorem ofErr_good {gs : List (Int × Int)} {secs pg pa size : Int} (h : cMay gs secs pg pa size = true) : ofErr gs secs pg pa size = 0 := by unfold ofErr; rw [if_pos h]
theorem blanks_ok {n secs : Nat} {b : UInt8} (h1 : 1 ≤ secs) (h2 : secs ≤ 4096) : DsOk 0 secs (List.replicate n (DevD.blank secs b)) := fun d hd => by
  rw [List.eq_of_mem_replicate hd]
  exact ⟨blank_ok h1 h2, by simp [DevD.blank], rfl, fun k => Nat.zero_le _⟩
theorem hereD_set {aw : List Bool} {ds : List DevD} {q : Nat} (h : q < aw.length) : hereD (aw.set q true) ds q = false := by
  unfold hereD
  simp [List.getD_eq_getElem?_getD, List.getElem?_set, h]
end Go.Proofs.YtbhkbcpljakmjaaGreat

namespace Go.Proofs.YtbhkbcpljakmjaaGreat
set_option linter.unusedVariables false
set_option linter.unusedSimpArgs false

/-- What is read raw of what was written: the columns on devices that are here. -/
def backG (L : List Col) (T : List (List UInt8)) (hs : Nat → Bool) : List (List UInt8) := (List.range L.length).map fun k => if hs (L.getD k (0, 0, false, 0)).1.toNat then T.getD k [] else []
theorem backG_len (L : List Col) (T : List (List UInt8)) (hs : Nat → Bool) : (backG L T hs).length = L.length := by simp [backG]
theorem backG_get {L : List Col} {T : List (List UInt8)} {hs : Nat → Bool} {i : Nat} (hi : i < L.length) : (backG L T hs).getD i [] = if hs (L.getD i (0, 0, false, 0)).1.toNat then T.getD i [] else [] := by
  unfold backG
  rw [List.getD_eq_getElem?_getD, List.getElem?_map, List.getElem?_range hi]
  rfl
theorem raw_back {gs : List (Int × Int)} {secs n N : Nat} {pg pa : Int} {s : List UInt8} (hr : gRight gs secs = true) (hn : gSum gs = n) (hE : encE gs secs pg pa s = 0) {aw : List Bool} {ds : List DevD} (ok : DsOk N secs ds) (hl : ds.length = n) :
    rawL gs secs pg pa (secN s) aw (wrTo aw (ofList gs secs pg pa (secN s)) (encL gs secs pg pa s) ds (ofList gs secs pg pa (secN s)).length) = backG (ofList gs secs pg pa (secN s)) (encL gs secs pg pa s) (hereD aw ds) := by
  have hc := cols_of hr hn hE
  obtain ⟨L, hL⟩ : ∃ L, ofList gs secs pg pa (secN s) = L := ⟨_, rfl⟩
  unfold rawL backG
  rw [hL] at hc ⊢
  rw [rawL_range]
  apply List.map_congr_left
  intro k hk
  have hk := List.mem_range.1 hk
  have hx := colD_in hk
  unfold rawG
  rw [hx]
  simp only
  rw [rdC_look, wrTo_hereD]
  split
  · rename_i h
    rw [wrTo_look ok (by rw [hl]; exact hc) L.length (Nat.le_refl _) k _ hx, h, decide_eq_true hk]
    rfl
  · rfl
theorem par_row0 : ∀ w ∈ List.range 9, ∀ s ∈ List.range 5, 3 ≤ w → 0 < s → ((List.range 9).all fun i => (((parTo 0 w 0 s).map (·.2.2))[i]?).isNone || (match ((parTo 0 w 0 s).map (·.2.2))[i % w]? with
    | some x => x.2 == 0
    | none => false)) = true := by decide +kernel
/-- Each device of a Parity's block has a column in the first row. -/
theorem row0 {gs : List (Int × Int)} {secs pg pa size : Int} (h : cMay gs secs pg pa size = true) (hk : (grAt gs pg).1 ≠ 0) {i : Nat} (hi : i < (colsOf gs secs pg pa size).length) :
    ∃ j, j < (colsOf gs secs pg pa size).length ∧ ((colsOf gs secs pg pa size).getD j (0, 0, false, 0)).2.2.2 = 0 ∧ ((colsOf gs secs pg pa size).getD j (0, 0, false, 0)).1 = ((colsOf gs secs pg pa size).getD i (0, 0, false, 0)).1 := by
  obtain ⟨hhas, hz1, hz2, hp1, hp2, _⟩ := cMay_true h
  obtain ⟨sz, rfl⟩ := Int.eq_ofNat_of_zero_le (show 0 ≤ size by omega)
  obtain ⟨g, x, rfl, _, hl4, hs1, hs2, hx, hgx, ho⟩ := gHas_true hhas
  obtain ⟨kd, wd⟩ := x
  rw [hgx] at hk
  have ho' := gOne_true ho
  simp only at ho' hk
  obtain ⟨w, rfl⟩ := Int.eq_ofNat_of_zero_le (show 0 ≤ wd by omega)
  rcases ho' with ⟨rfl, _, _⟩ | ⟨rfl, h1, h2⟩
  · exact absurd rfl hk
  have hL : colsOf gs secs g pa sz = parTo (gFirst gs secs g) w pa sz := by unfold colsOf; rw [hgx]; rfl
  rw [hL] at hi ⊢
  have hlen := parTo_len (gFirst gs secs g) w pa sz
  have hsh := parTo_shape (gFirst gs secs g) w pa sz
  have key := par_row0 w (by simp; omega) sz (by simp; omega) (by omega) (by omega)
  rw [← hsh] at key
  have hil : i % w < (parTo (gFirst gs secs g) w pa sz).length := Nat.lt_of_le_of_lt (Nat.mod_le _ _) hi
  have k1 := List.all_eq_true.1 key i (List.mem_range.2 (by omega))
  have hat : ∀ j, j < (parTo (gFirst gs secs g) w pa sz).length → ((parTo (gFirst gs secs g) w pa sz).map (·.2.2))[j]? = some ((parTo (gFirst gs secs g) w pa sz).getD j (0, 0, false, 0)).2.2 := fun j hj => by rw [List.getElem?_map, colD_in hj]; rfl
  rw [hat i hi, hat _ hil, Option.isNone_some, Bool.false_or] at k1
  refine ⟨i % w, hil, by simpa using k1, ?_⟩
  obtain ⟨p1, r1, e1⟩ := parTo_get _ _ _ _ _ _ (colD_in hil)
  obtain ⟨p2, r2, e2⟩ := parTo_get _ _ _ _ _ _ (colD_in hi)
  rw [e1, e2]
  simp only [pcol]
  have e : (pa + (i : Int) % (w : Int)) % (w : Int) = (pa + (i : Int)) % (w : Int) := by rw [Int.add_emod pa ((i : Int) % w), Int.emod_emod_of_dvd _ (Int.dvd_refl _), ← Int.add_emod]
  rw [show ((i % w : Nat) : Int) = (i : Int) % (w : Int) from rfl, e]
theorem fail_mem {L : List Col} {hs : Nat → Bool} {n d : Nat} : d ∈ failL L hs n ↔ d < n ∧ (∃ i, i < L.length ∧ (L.getD i (0, 0, false, 0)).1 = (d : Int)) ∧ hs d = false := by
  unfold failL
  rw [List.mem_filter, List.mem_range, Bool.and_eq_true, List.any_eq_true, Bool.not_eq_true']
  refine and_congr Iff.rfl (and_congr ⟨?_, ?_⟩ Iff.rfl)
  · rintro ⟨c, hc, he⟩
    obtain ⟨i, hi⟩ := List.mem_iff_getElem?.1 hc
    have hil := (List.getElem?_eq_some_iff.1 hi).1
    rw [colD_in hil] at hi
    cases hi
    exact ⟨i, hil, eq_of_beq he⟩
  · rintro ⟨i, hi, he⟩
    exact ⟨_, List.mem_of_getElem? (colD_in hi), beq_iff_eq.2 he⟩
section
variable {gs : List (Int × Int)} {secs pg pa : Int} {s : List UInt8} {hs : Nat → Bool} {n : Nat}
theorem back_fits (h : cMay gs secs pg pa (secN s) = true) : fitsB gs secs pg pa (secN s) (backG (colsOf gs secs pg pa (secN s)) (encL gs secs pg pa s) hs) = true := by
  unfold fitsB
  rw [h, backG_len]
  simp only [Bool.true_and, beq_self_eq_true, Bool.not_eq_true']
  rw [List.any_eq_false]
  intro t ht
  obtain ⟨i, hi, rfl⟩ := List.mem_map.1 ht
  have hi := List.mem_range.1 hi
  have := (enc_encL (s := s) h).all64 i hi
  unfold fitP
  split
  · simp only [this]
    simp
  · simp
theorem fail_nodup : (failL (colsOf gs secs pg pa (secN s)) hs n).Nodup := List.nodup_range.filter _
theorem back_par (h : cMay gs secs pg pa (secN s) = true) (hsk : secOk s = true) (hk : (grAt gs pg).1 ≠ 0) (hn : gDevs gs secs = n) :
    (∃ x ∈ parT (colsOf gs secs pg pa (secN s)) (backG (colsOf gs secs pg pa (secN s)) (encL gs secs pg pa s) hs), x.2 = s) ↔ ¬ 1 < failN (colsOf gs secs pg pa (secN s)) hs n := by
  have hin : ∀ i, i < (colsOf gs secs pg pa (secN s)).length → 0 ≤ ((colsOf gs secs pg pa (secN s)).getD i (0, 0, false, 0)).1 ∧ ((colsOf gs secs pg pa (secN s)).getD i (0, 0, false, 0)).1 < n := fun i hi => by
    obtain ⟨t, hl, _⟩ := cols_lie h (colD_in hi)
    have := lies_in h hl
    omega
  constructor
  · rintro ⟨x, hx, _⟩ hlt
    obtain ⟨a, b, ha, hb, hab⟩ := two_of fail_nodup (show 2 ≤ (failL (colsOf gs secs pg pa (secN s)) hs n).length from hlt)
    obtain ⟨_, ⟨i, hi, hia⟩, hsa⟩ := fail_mem.1 ha
    obtain ⟨_, ⟨j, hj, hjb⟩, hsb⟩ := fail_mem.1 hb
    obtain ⟨i', hi', hr1, hd1⟩ := row0 h hk hi
    obtain ⟨j', hj', hr2, hd2⟩ := row0 h hk hj
    rw [hia] at hd1
    rw [hjb] at hd2
    have hno := par_two_none (parL_of h hk) (got := backG (colsOf gs secs pg pa (secN s)) (encL gs secs pg pa s) hs) hi' hj' (fun e => by rw [e, hd2] at hd1; omega) (by rw [hr1, hr2])
      (by rw [backG_get hi', hd1, Int.toNat_natCast, hsa]; rfl) (by rw [backG_get hj', hd2, Int.toNat_natCast, hsb]; rfl)
    rw [hno] at hx
    cases hx
  · intro hle
    have hone : ∃ d : Int, ∀ i, i < (colsOf gs secs pg pa (secN s)).length → ((colsOf gs secs pg pa (secN s)).getD i (0, 0, false, 0)).1 ≠ d → hs ((colsOf gs secs pg pa (secN s)).getD i (0, 0, false, 0)).1.toNat = true := by
      have hmem : ∀ i, i < (colsOf gs secs pg pa (secN s)).length → hs ((colsOf gs secs pg pa (secN s)).getD i (0, 0, false, 0)).1.toNat = false → ((colsOf gs secs pg pa (secN s)).getD i (0, 0, false, 0)).1.toNat ∈ failL (colsOf gs secs pg pa (secN s)) hs n := fun i hi hf => by
        have := hin i hi
        exact fail_mem.2 ⟨by omega, ⟨i, hi, by omega⟩, hf⟩
      match hf : failL (colsOf gs secs pg pa (secN s)) hs n with
      | [] =>
        refine ⟨-5, fun i hi _ => ?_⟩
        cases hv : hs ((colsOf gs secs pg pa (secN s)).getD i (0, 0, false, 0)).1.toNat with
        | true => rfl
        | false =>
          have := hmem i hi hv
          rw [hf] at this
          cases this
      | [a] =>
        refine ⟨a, fun i hi hne => ?_⟩
        cases hv : hs ((colsOf gs secs pg pa (secN s)).getD i (0, 0, false, 0)).1.toNat with
        | true => rfl
        | false =>
          have := hmem i hi hv
          rw [hf, List.mem_singleton] at this
          have := hin i hi
          omega
      | a :: b :: l =>
        exfalso
        apply hle
        unfold failN
        rw [hf]
        simp
    obtain ⟨d, hd⟩ := hone
    exact par_one_back h hsk hk (d := d) fun i hi hne => by rw [backG_get hi, hd i hi hne, if_pos rfl]
theorem cnt_group (F w r : Nat) : ((List.range (F + w + r)).filter fun d => decide (F ≤ d) && decide (d < F + w)).length = w := by
  rw [List.range_add, List.range_add, List.filter_append, List.filter_append]
  have h1 : (List.range F).filter (fun d => decide (F ≤ d) && decide (d < F + w)) = [] := by
    rw [List.filter_eq_nil_iff]
    intro d hd
    have := List.mem_range.1 hd
    simp
    omega
  have h2 : ((List.range w).map (F + ·)).filter (fun d => decide (F ≤ d) && decide (d < F + w)) = (List.range w).map (F + ·) := by
    rw [List.filter_eq_self]
    intro d hd
    obtain ⟨t, ht, rfl⟩ := List.mem_map.1 hd
    have := List.mem_range.1 ht
    simp
    omega
  have h3 : ((List.range r).map (F + w + ·)).filter (fun d => decide (F ≤ d) && decide (d < F + w)) = [] := by
    rw [List.filter_eq_nil_iff]
    intro d hd
    obtain ⟨t, ht, rfl⟩ := List.mem_map.1 hd
    simp
  rw [h1, h2, h3]
  simp
theorem back_mir (h : cMay gs secs pg pa (secN s) = true) (hsk : secOk s = true) (hk : (grAt gs pg).1 = 0) (hn : gDevs gs secs = n) :
    (∃ x ∈ mirT (colsOf gs secs pg pa (secN s)) (secN s) (backG (colsOf gs secs pg pa (secN s)) (encL gs secs pg pa s) hs) (grAt gs pg).2.toNat, x.2 = s) ↔ ¬ (failN (colsOf gs secs pg pa (secN s)) hs n : Int) = (grAt gs pg).2 := by
  have hM := mirL_of h hk
  rw [Int.toNat_natCast] at hM
  obtain ⟨wd, hwd⟩ : ∃ wd, (grAt gs pg).2.toNat = wd := ⟨_, rfl⟩
  rw [hwd] at hM
  have hin : ∀ i, i < (colsOf gs secs pg pa (secN s)).length → 0 ≤ ((colsOf gs secs pg pa (secN s)).getD i (0, 0, false, 0)).1 ∧ ((colsOf gs secs pg pa (secN s)).getD i (0, 0, false, 0)).1 < n := fun i hi => by
    obtain ⟨t, hl, _⟩ := cols_lie h (colD_in hi)
    have := lies_in h hl
    omega
  obtain ⟨p1, _, _, p4⟩ := in_part hM.len (show wd - 1 < wd by have := hM.wpos; omega) hM.pos
  rw [Nat.add_zero] at p1
  have b1 := hin _ p1
  rw [hM.dev _ p1, show ((wd - 1) * secN s) / secN s = wd - 1 from Nat.mul_div_cancel _ hM.pos] at b1
  obtain ⟨q1, _, _, _⟩ := in_part hM.len hM.wpos hM.pos
  have b0 := hin _ q1
  rw [hM.dev _ q1, show (0 * secN s + 0) / secN s = 0 by simp] at b0
  obtain ⟨F, hF⟩ := Int.eq_ofNat_of_zero_le (show 0 ≤ gFirst gs secs pg by omega)
  rw [hF] at b1
  obtain ⟨r, hr⟩ : ∃ r, n = F + wd + r := ⟨n - (F + wd), by have := hM.wpos; omega⟩
  have hfl : failL (colsOf gs secs pg pa (secN s)) hs n = ((List.range n).filter fun d => decide (F ≤ d) && decide (d < F + wd)).filter fun d => !hs d := by
    unfold failL
    rw [List.filter_filter]
    apply List.filter_congr
    intro d _
    rw [Bool.and_comm]
    congr 1
    rw [Bool.eq_iff_iff, List.any_eq_true, Bool.and_eq_true, decide_eq_true_eq, decide_eq_true_eq]
    constructor
    · rintro ⟨c, hc, he⟩
      obtain ⟨i, hi⟩ := List.mem_iff_getElem?.1 hc
      have hil := (List.getElem?_eq_some_iff.1 hi).1
      have hdv := hM.dev i hil
      rw [colD_in hil] at hi
      cases hi
      have he := eq_of_beq he
      have hlt : i / secN s < wd := by rw [Nat.div_lt_iff_lt_mul hM.pos, ← hM.len]; exact hil
      rw [hF] at hdv
      generalize i / secN s = q at hdv hlt
      omega
    · rintro ⟨h1, h2⟩
      obtain ⟨a1, a2, _, _⟩ := in_part hM.len (show d - F < wd by omega) hM.pos
      refine ⟨_, List.mem_of_getElem? (colD_in a1), ?_⟩
      rw [beq_iff_eq, hM.dev _ a1, a2, hF]
      omega
  have hcnt := cnt_group F wd r
  rw [← hr] at hcnt
  have hw : (grAt gs pg).2 = (wd : Int) := by have := hM.wpos; omega
  rw [hwd, hw]
  constructor
  · rintro ⟨x, hx, _⟩ he
    obtain ⟨j, hj, hx⟩ := mirT_mem.1 hx
    obtain ⟨a1, a2, _, a4⟩ := in_part hM.len hj hM.pos
    unfold mirOne at hx
    split at hx
    · cases hx
    rename_i hno
    have hno2 : hasE (mirPart (secN s) (backG (colsOf gs secs pg pa (secN s)) (encL gs secs pg pa s) hs) j) = false := by simpa using hno
    apply (hasE_part (by rw [backG_len]; exact a4)).1 hno2 0 hM.pos
    rw [backG_get a1, hM.dev _ a1, a2, hF]
    have hall : ∀ d ∈ (List.range n).filter (fun d => decide (F ≤ d) && decide (d < F + wd)), (!hs d) = true := by
      have hlen : (((List.range n).filter fun d => decide (F ≤ d) && decide (d < F + wd)).filter fun d => !hs d).length = ((List.range n).filter fun d => decide (F ≤ d) && decide (d < F + wd)).length := by
        rw [hcnt, ← hfl]
        unfold failN at he
        omega
      rw [List.length_filter_eq_length_iff] at hlen
      exact hlen
    have := hall (F + j) (List.mem_filter.2 ⟨List.mem_range.2 (by omega), by simp; omega⟩)
    rw [show ((F : Int) + (j : Int)).toNat = F + j by omega]
    have hf : hs (F + j) = false := by simpa using this
    rw [hf]
    rfl
  · intro hne
    have hex : ∃ d ∈ (List.range n).filter (fun d => decide (F ≤ d) && decide (d < F + wd)), hs d = true := by
      refine Decidable.byContradiction fun hno => hne ?_
      have hlen : (((List.range n).filter fun d => decide (F ≤ d) && decide (d < F + wd)).filter fun d => !hs d).length = ((List.range n).filter fun d => decide (F ≤ d) && decide (d < F + wd)).length := by
        rw [List.length_filter_eq_length_iff]
        intro d hd
        cases hv : hs d with
        | false => rfl
        | true => exact absurd ⟨d, hd, hv⟩ hno
      rw [hcnt, ← hfl] at hlen
      unfold failN
      omega
    obtain ⟨d, hd, hv⟩ := hex
    obtain ⟨_, hd2⟩ := List.mem_filter.1 hd
    simp only [Bool.and_eq_true, decide_eq_true_eq] at hd2
    have := mir_one_back h hk hsk (j := d - F) (got := backG (colsOf gs secs pg pa (secN s)) (encL gs secs pg pa s) hs) (backG_len _ _ _) (by rw [hwd]; omega) fun t ht => by
      obtain ⟨a1, a2, _, _⟩ := in_part hM.len (show d - F < wd by omega) ht
      rw [backG_get a1, hM.dev _ a1, a2, hF, show ((F : Int) + ((d - F : Nat) : Int)).toNat = d by omega, hv, if_pos rfl]
    rw [hwd] at this
    exact this
/-- The text is among the tries just where not too many are lost. -/
theorem back_found (h : cMay gs secs pg pa (secN s) = true) (hsk : secOk s = true) (hn : gDevs gs secs = n) :
    (∃ x ∈ triesL gs secs pg pa (secN s) (backG (colsOf gs secs pg pa (secN s)) (encL gs secs pg pa s) hs), x.2 = s) ↔ lostB (grAt gs pg) (failN (colsOf gs secs pg pa (secN s)) hs n) = false := by
  obtain ⟨hhas, _, _, _⟩ := cMay_true h
  obtain ⟨g, x, hpk, _, _, _, _, _, hga, ho⟩ := gHas_true hhas
  have hk1 : (grAt gs pg).1 = 0 ∨ (grAt gs pg).1 = 1 := by
    rw [hpk, hga]
    have := gOne_true ho
    omega
  unfold triesL lostB
  rw [back_fits h, if_pos rfl]
  rcases hk1 with hk | hk
  · have hb : ((grAt gs pg).1 == 0) = true := beq_iff_eq.2 hk
    rw [hb, if_pos rfl, Int.toNat_natCast, back_mir h hsk hk hn, hk]
    simp
  · have hk0 : (grAt gs pg).1 ≠ 0 := by omega
    have hb : ((grAt gs pg).1 == 0) = false := beq_eq_false_iff_ne.2 hk0
    rw [hb, if_neg Bool.false_ne_true, back_par h hsk hk0 hn, hk]
    simp
    omega
end
end Go.Proofs.YtbhkbcpljakmjaaGreat
