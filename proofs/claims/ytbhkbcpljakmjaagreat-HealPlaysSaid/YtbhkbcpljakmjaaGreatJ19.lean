/-
  What encoded columns come to when some are spoilt or missing. No program stands here.
  What a Mirror's columns come to; how many are missing. No program stands here.
  The document's example (layer 8).
  What was written is what is read: columns on devices. No program stands here.
  What a statement of layer 8 keeps: its boxes, the measure; devices as they are made.
  What is read raw, some devices away: whether the text is among the tries. No program stands here.
  == on places, sums and pointers.
  Contracts of package ptr: None, Bytes.
  The walks of LeLays, LeUnlike, LePads.
  The walk of LeUnlike.
  Plain words on pointers: unlike pointers have unlike bytes; what is right can be laid.
  What is in a device's cache, in order; a crash, sector by sector. No program stands here.
  Flushed, written again, crashed: what was flushed is read. No program stands here.
  Contracts of package code: again.
-/
import Derived.Test.YtbhkbcpljakmjaaGreatJ18
import Derived.Test.YtbhkbcpljakmjaaGreatJ15
import Derived.Test.YtbhkbcpljakmjaaGreatJ14
import Derived.Test.YtbhkbcpljakmjaaGreatJ16
import Derived.Test.YtbhkbcpljakmjaaGreatJ06
import Derived.Test.YtbhkbcpljakmjaaGreatJ02
namespace Go.Proofs.YtbhkbcpljakmjaaGreat
set_option linter.unusedVariables false
set_option linter.unusedSimpArgs false
theorem dataIx_cnt {L : List Col} : ∀ {k : Nat}, k ≤ L.length → (dataIx L k).map (dataCnt L) = List.range (dataCnt L k)
 | 0, _ => rfl
 | k + 1, hk => by
   have hc := colD_in (L := L) (i := k) (by omega)
   rw [dataIx_step, List.map_append, dataIx_cnt (by omega), dataCnt_succ hc]
   cases (L.getD k (0, 0, false, 0)).2.2.1
   · simp [List.range_succ]
   · simp
theorem dataIx_mem {L : List Col} {i : Nat} : i ∈ dataIx L L.length ↔ i < L.length ∧ (L.getD i (0, 0, false, 0)).2.2.1 = false := by
 unfold dataIx
 simp
theorem secs_to (s : List UInt8) : ∀ n, ((List.range n).map (secAt s)).flatten = s.take (n * 64)
 | 0 => by simp
 | n + 1 => by
   rw [List.range_succ, List.map_append, List.flatten_append, secs_to s n, Nat.succ_mul, List.take_add]
   simp [secAt]
theorem secs_flat {s : List UInt8} (h : s.length % 64 = 0) : (secsL s).flatten = s := by
 unfold secsL
 rw [secs_to, List.take_of_length_le]
 unfold secN
 omega
theorem secOk_parts {s : List UInt8} (h : secOk s = true) : s ≠ [] ∧ s.length % 64 = 0 ∧ s.length ≤ 256 := by
 unfold secOk at h
 simpa using h
theorem secN_pos {s : List UInt8} (h : secOk s = true) : 0 < secN s := by
 obtain ⟨h1, h2, _⟩ := secOk_parts h
 have := List.length_pos_iff.2 h1
 unfold secN
 omega
section
variable {gs : List (Int × Int)} {secs pg pa : Int} {s : List UInt8}
theorem encL_get {L : List Col} (hL : ofList gs secs pg pa (secN s) = L) {i : Nat} (hi : i < L.length) : (encL gs secs pg pa s).getD i [] = outE L (secsL s) i := by
 unfold encL
 rw [hL, List.getD_eq_getElem?_getD, List.getElem?_map, List.getElem?_range hi]
 rfl
theorem ofList_may {size : Int} (h : cMay gs secs pg pa size = true) : ofList gs secs pg pa size = colsOf gs secs pg pa size := by unfold ofList; rw [if_pos h]
theorem enc_encL (h : cMay gs secs pg pa (secN s) = true) : EncL (colsOf gs secs pg pa (secN s)) (encL gs secs pg pa s) := by
 have hO := ofList_may h
 refine ⟨by rw [encL_len, hO], fun i hi => ?_, fun i hi hp => ?_⟩
 · refine encL_64 h _ ?_
   rw [List.getD_eq_getElem?_getD, List.getElem?_eq_getElem (by rw [encL_len, hO]; exact hi)]
   exact List.getElem_mem _
 · rw [encL_get hO hi, outE_par (colD_in hi) hp]
   congr 1
   apply List.map_congr_left
   intro j hj
   obtain ⟨c, hc, _, hd⟩ := rowIx_spec hj
   rw [encL_get hO (List.getElem?_eq_some_iff.1 hc).1, outE_data hc hd]
theorem enc_data (h : cMay gs secs pg pa (secN s) = true) {i : Nat} (hi : i < (colsOf gs secs pg pa (secN s)).length) (hd : ((colsOf gs secs pg pa (secN s)).getD i (0, 0, false, 0)).2.2.1 = false) :
 (encL gs secs pg pa s).getD i [] = (secsL s).getD (dataCnt (colsOf gs secs pg pa (secN s)) i % secN s) [] := by
 rw [encL_get (ofList_may h) hi, outE_data (colD_in hi) hd, outD_data (colD_in hi) hd, secsL_len]
theorem enc_text (h : cMay gs secs pg pa (secN s) = true) (hs : secOk s = true) (hk : (grAt gs pg).1 ≠ 0) :
 ((dataIx (colsOf gs secs pg pa (secN s)) (colsOf gs secs pg pa (secN s)).length).map fun i => (encL gs secs pg pa s).getD i []).flatten = s := by
 have hP := parL_of h hk
 have hm : ((dataIx (colsOf gs secs pg pa (secN s)) (colsOf gs secs pg pa (secN s)).length).map fun i => (encL gs secs pg pa s).getD i []) = ((dataIx (colsOf gs secs pg pa (secN s)) (colsOf gs secs pg pa (secN s)).length).map (dataCnt (colsOf gs secs pg pa (secN s)))).map fun j => (secsL s).getD (j % secN s) [] := by
  rw [List.map_map]
  apply List.map_congr_left
  intro i hi
  obtain ⟨h1, h2⟩ := dataIx_mem.1 hi
  exact enc_data h h1 h2
 have hc : dataCnt (colsOf gs secs pg pa (secN s)) (colsOf gs secs pg pa (secN s)).length = secN s := by
  unfold dataCnt
  rw [List.take_length, hP.cnt, Int.toNat_natCast]
 rw [hm, dataIx_cnt (Nat.le_refl _), hc]
 have : ((List.range (secN s)).map fun j => (secsL s).getD (j % secN s) []) = secsL s := by
  unfold secsL
  apply List.map_congr_left
  intro j hj
  have hj := List.mem_range.1 hj
  rw [Nat.mod_eq_of_lt hj, List.getD_eq_getElem?_getD, List.getElem?_map, List.getElem?_range hj]
  rfl
 rw [this, secs_flat (secOk_parts hs).2.1]
theorem withS_back {L : List Col} {E got : List (List UInt8)} {d : Int} (hE : EncL L E) (h : ∀ i, i < L.length → (L.getD i (0, 0, false, 0)).2.2.1 = false → colTxt L got d i = E.getD i []) :
 withS L got d = ((dataIx L L.length).map fun i => E.getD i []).flatten := by
 have hm : (dataIx L L.length).map (colTxt L got d) = (dataIx L L.length).map fun i => E.getD i [] := by
  apply List.map_congr_left
  intro i hi
  obtain ⟨h1, h2⟩ := dataIx_mem.1 hi
  exact h i h1 h2
 have hno : hasE ((dataIx L L.length).map fun i => E.getD i []) = false := by
  unfold hasE
  rw [List.any_eq_false]
  intro x hx hxe
  obtain ⟨i, hi, rfl⟩ := List.mem_map.1 hx
  have := hE.all64 i (dataIx_mem.1 hi).1
  rw [List.isEmpty_iff.1 hxe] at this
  cases this
 unfold withS
 simp only
 rw [hm, hno]
 rfl
theorem withS_some {L : List Col} {got : List (List UInt8)} {d : Int} (h : withS L got d ≠ []) : ∀ i, i < L.length → (L.getD i (0, 0, false, 0)).2.2.1 = false → colTxt L got d i ≠ [] := by
 intro i h1 h2 he
 apply h
 have : hasE ((dataIx L L.length).map (colTxt L got d)) = true := by
  unfold hasE
  rw [List.any_eq_true]
  exact ⟨[], List.mem_map.2 ⟨i, dataIx_mem.2 ⟨h1, h2⟩, he⟩, rfl⟩
 unfold withS
 simp only
 rw [this, if_pos rfl]
theorem mem_devs {L : List Col} {d : Int} : d ∈ parDevs L ↔ d = -1 ∨ ∃ i, i < L.length ∧ (L.getD i (0, 0, false, 0)).2.2.1 = false ∧ (L.getD i (0, 0, false, 0)).1 = d := by
 unfold parDevs
 rw [List.mem_cons, (devsL_spec _).2]
 refine or_congr Iff.rfl ⟨?_, ?_⟩
 · rintro ⟨c, hc, rfl⟩
   obtain ⟨h1, h2⟩ := List.mem_filter.1 hc
   obtain ⟨i, hi⟩ := List.mem_iff_getElem?.1 h1
   have hil := (List.getElem?_eq_some_iff.1 hi).1
   rw [colD_in hil] at hi
   cases hi
   exact ⟨i, hil, by simpa using h2, rfl⟩
 · rintro ⟨i, hi, h1, rfl⟩
   exact ⟨_, List.mem_filter.2 ⟨List.mem_of_getElem? (colD_in hi), by rw [h1]; rfl⟩, rfl⟩
theorem par_all_back (h : cMay gs secs pg pa (secN s) = true) (hs : secOk s = true) (hk : (grAt gs pg).1 ≠ 0) {got : List (List UInt8)}
 (hg : ∀ i, i < (colsOf gs secs pg pa (secN s)).length → got.getD i [] = (encL gs secs pg pa s).getD i [] ∨ got.getD i [] = []) : ∀ x ∈ parT (colsOf gs secs pg pa (secN s)) got, x.2 = s := by
 have hP := parL_of h hk
 have hE := enc_encL h
 have hT := enc_text h hs hk
 generalize colsOf gs secs pg pa (secN s) = L at *
 generalize encL gs secs pg pa s = E at *
 intro x hx
 obtain ⟨d, _, hd⟩ := List.mem_filterMap.1 hx
 unfold parOne at hd
 split at hd
 · cases hd
 rename_i hne
 cases hd
 have hne : withS L got d ≠ [] := by simpa using hne
 have hsome := withS_some hne
 show withS L got d = s
 rw [withS_back hE, hT]
 intro i hi hdat
 have h1 := hsome i hi hdat
 unfold colTxt at h1 ⊢
 split
 · rename_i he
   rw [if_pos he] at h1
   exact again_back hP hE hi fun j hj hr hne' => (hg j hj).resolve_right (again_some h1 j hj hr hne')
 · rename_i he
   rw [if_neg he] at h1
   exact (hg i hi).resolve_right h1
end
end Go.Proofs.YtbhkbcpljakmjaaGreat

namespace Go.Proofs.YtbhkbcpljakmjaaGreat
set_option linter.unusedVariables false
set_option linter.unusedSimpArgs false
theorem mirPart_eq {sz : Nat} {got : List (List UInt8)} {j : Nat} (h : j * sz + sz ≤ got.length) : mirPart sz got j = (List.range sz).map fun t => got.getD (j * sz + t) [] := by
 unfold mirPart
 apply List.ext_getElem?
 intro t
 by_cases ht : t < sz
 · rw [List.getElem?_take_of_lt ht, List.getElem?_drop, List.getElem?_map, List.getElem?_range ht, Option.map_some, List.getD_eq_getElem?_getD, List.getElem?_eq_getElem (show j * sz + t < got.length by omega)]
   rfl
 · rw [List.getElem?_eq_none (by rw [List.length_take]; omega), List.getElem?_eq_none (by rw [List.length_map, List.length_range]; omega)]
structure MirL (L : List Col) (first : Int) (wd sz : Nat) : Prop where
 pos : 0 < sz
 wpos : 0 < wd
 len : L.length = wd * sz
 dat : ∀ i, i < L.length → (L.getD i (0, 0, false, 0)).2.2.1 = false
 dev : ∀ i, i < L.length → (L.getD i (0, 0, false, 0)).1 = first + ((i / sz : Nat) : Int)
theorem mirL_of {gs : List (Int × Int)} {secs pg pa size : Int} (h : cMay gs secs pg pa size = true) (hk : (grAt gs pg).1 = 0) : MirL (colsOf gs secs pg pa size) (gFirst gs secs pg) (grAt gs pg).2.toNat size.toNat := by
 obtain ⟨hhas, hz1, hz2, hp1, hp2, _⟩ := cMay_true h
 obtain ⟨sz, rfl⟩ := Int.eq_ofNat_of_zero_le (show 0 ≤ size by omega)
 obtain ⟨g, x, rfl, _, hl4, hs1, hs2, hx, hgx, ho⟩ := gHas_true hhas
 obtain ⟨kd, wd⟩ := x
 rw [hgx] at hk
 have ho' := gOne_true ho
 simp only at ho' hk
 obtain ⟨w, rfl⟩ := Int.eq_ofNat_of_zero_le (show 0 ≤ wd by omega)
 subst hk
 have hL : colsOf gs secs g pa sz = mirror (gFirst gs secs g) pa w sz := by unfold colsOf; rw [hgx]; rfl
 rw [hL, hgx]
 simp only [Int.toNat_natCast]
 have hlen : (mirror (gFirst gs secs g) pa w sz).length = w * sz := by unfold mirror; rw [mirTo_len, Nat.add_zero]
 have hat : ∀ i, i < (mirror (gFirst gs secs g) pa w sz).length → (mirror (gFirst gs secs g) pa w sz).getD i (0, 0, false, 0) = mcol (gFirst gs secs g) pa (i / sz) (i % sz) := fun i hi => (mirror_get (colD_in hi) (by omega)).1
 exact ⟨by omega, by omega, hlen, fun i hi => by rw [hat i hi]; rfl, fun i hi => by rw [hat i hi]; rfl⟩
theorem dataCnt_mir {L : List Col} {first : Int} {wd sz : Nat} (hM : MirL L first wd sz) {i : Nat} (hi : i ≤ L.length) : dataCnt L i = i := by
 unfold dataCnt
 rw [List.filter_eq_self.2, List.length_take, Nat.min_eq_left hi]
 intro c hc
 obtain ⟨j, hj⟩ := List.mem_iff_getElem?.1 (List.mem_of_mem_take hc)
 have hjl := (List.getElem?_eq_some_iff.1 hj).1
 have := hM.dat j hjl
 rw [colD_in hjl] at hj
 cases hj
 rw [this]
 rfl
theorem in_part {wd sz j t N : Nat} (hN : N = wd * sz) (hj : j < wd) (ht : t < sz) : j * sz + t < N ∧ (j * sz + t) / sz = j ∧ (j * sz + t) % sz = t ∧ j * sz + sz ≤ N := by
 have h1 : (j + 1) * sz ≤ wd * sz := Nat.mul_le_mul_right sz hj
 rw [Nat.succ_mul] at h1
 refine ⟨by omega, ?_, ?_, by omega⟩
 · rw [Nat.mul_comm, Nat.mul_add_div (by omega), Nat.div_eq_of_lt ht, Nat.add_zero]
 · rw [Nat.mul_comm, Nat.mul_add_mod, Nat.mod_eq_of_lt ht]
section
variable {gs : List (Int × Int)} {secs pg pa : Int} {s : List UInt8}
theorem enc_mir (h : cMay gs secs pg pa (secN s) = true) (hk : (grAt gs pg).1 = 0) {i : Nat} (hi : i < (colsOf gs secs pg pa (secN s)).length) : (encL gs secs pg pa s).getD i [] = (secsL s).getD (i % secN s) [] := by
 have hM := mirL_of h hk
 rw [enc_data h hi (hM.dat i hi), dataCnt_mir hM (Nat.le_of_lt hi)]
theorem enc_part (h : cMay gs secs pg pa (secN s) = true) (hk : (grAt gs pg).1 = 0) (hs : secOk s = true) {got : List (List UInt8)} {j : Nat} (hgl : got.length = (colsOf gs secs pg pa (secN s)).length) (hj : j < (grAt gs pg).2.toNat)
 (hg : ∀ t, t < secN s → got.getD (j * secN s + t) [] = (encL gs secs pg pa s).getD (j * secN s + t) []) : mirPart (secN s) got j = secsL s ∧ hasE (mirPart (secN s) got j) = false := by
 have hM := mirL_of h hk
 rw [Int.toNat_natCast] at hM
 have hlen := hM.len
 have e : mirPart (secN s) got j = secsL s := by
  rw [mirPart_eq (by rw [hgl]; exact (in_part hlen hj (secN_pos hs)).2.2.2)]
  unfold secsL
  apply List.map_congr_left
  intro t ht
  have ht := List.mem_range.1 ht
  obtain ⟨h1, _, h3, _⟩ := in_part hlen hj ht
  rw [hg t ht, enc_mir h hk h1, h3, List.getD_eq_getElem?_getD, secsL_at ht]
  rfl
 refine ⟨e, ?_⟩
 rw [e]
 unfold hasE
 rw [List.any_eq_false]
 intro x hx hxe
 obtain ⟨t, ht, rfl⟩ := List.mem_map.1 hx
 have := secAt_len (List.mem_range.1 ht)
 rw [List.isEmpty_iff.1 hxe] at this
 cases this
theorem mirT_mem {L : List Col} {sz k : Nat} {got : List (List UInt8)} {x : Int × List UInt8} : x ∈ mirT L sz got k ↔ ∃ j, j < k ∧ mirOne L sz got j = some x := by
 unfold mirT
 rw [List.mem_filterMap]
 simp only [List.mem_range]
theorem hasE_part {sz j : Nat} {got : List (List UInt8)} (h : j * sz + sz ≤ got.length) : hasE (mirPart sz got j) = false ↔ ∀ t, t < sz → got.getD (j * sz + t) [] ≠ [] := by
 rw [mirPart_eq h]
 unfold hasE
 rw [List.any_eq_false]
 constructor
 · intro h1 t ht he
   exact h1 _ (List.mem_map.2 ⟨t, List.mem_range.2 ht, rfl⟩) (by rw [he]; rfl)
 · intro h1 x hx hxe
   obtain ⟨t, ht, rfl⟩ := List.mem_map.1 hx
   exact h1 t (List.mem_range.1 ht) (List.isEmpty_iff.1 hxe)
theorem mir_all_back (h : cMay gs secs pg pa (secN s) = true) (hk : (grAt gs pg).1 = 0) (hs : secOk s = true) {got : List (List UInt8)} (hgl : got.length = (colsOf gs secs pg pa (secN s)).length)
 (hg : ∀ i, i < (colsOf gs secs pg pa (secN s)).length → got.getD i [] = (encL gs secs pg pa s).getD i [] ∨ got.getD i [] = []) : ∀ x ∈ mirT (colsOf gs secs pg pa (secN s)) (secN s) got (grAt gs pg).2.toNat, x.2 = s := by
 have hM := mirL_of h hk
 rw [Int.toNat_natCast] at hM
 intro x hx
 obtain ⟨j, hj, hx⟩ := mirT_mem.1 hx
 have hb := (in_part hM.len hj (secN_pos hs)).2.2.2
 unfold mirOne at hx
 split at hx
 · cases hx
 rename_i hne
 have hne : hasE (mirPart (secN s) got j) = false := by simpa using hne
 cases hx
 have h1 := (hasE_part (by rw [hgl]; exact hb)).1 hne
 have h2 := enc_part h hk hs hgl hj fun t ht => (hg _ (in_part hM.len hj ht).1).resolve_right (h1 t ht)
 show (mirPart (secN s) got j).flatten = s
 rw [h2.1, secs_flat (secOk_parts hs).2.1]
end
end Go.Proofs.YtbhkbcpljakmjaaGreat

namespace Go.Proofs.YtbhkbcpljakmjaaGreat
set_option linter.unusedVariables false
set_option linter.unusedSimpArgs false
open Go.RowKit
theorem geo_ex (w : World) : GeoAt (w.alloc (.cells #[.int .i64 0, .int .i64 2] 53)) (some ⟨w.heap.size, 0, none⟩) 1 [(0, 2)] := by
 refine ⟨rfl, by decide, fun _ => ⟨w.heap.size, 0, rfl, by simp, fun i x hx => ?_⟩⟩
 have hi : i = 0 := by
  have := (List.getElem?_eq_some_iff.1 hx).1
  simp at this
  exact this
 subst hi
 simp at hx
 subst hx
 exact ⟨(Blk.new _ _ _).at_ rfl, (Blk.new _ _ _).at_ rfl⟩
end Go.Proofs.YtbhkbcpljakmjaaGreat

namespace Go.Proofs.YtbhkbcpljakmjaaGreat
set_option linter.unusedVariables false
set_option linter.unusedSimpArgs false
def look (ds : List DevD) (c : Col) : List UInt8 := match ds[c.1.toNat]? with
 | some d => d.rdS c.2.1
 | none => []
theorem rdC_look (aw : List Bool) (ds : List DevD) (c : Col) : rdC aw ds c = if hereD aw ds c.1.toNat then look ds c else [] := rfl
theorem wr_mayE (d : DevD) (a b : Int) (t : List UInt8) : (d.wr a t).mayE b = d.mayE b := by
 unfold DevD.mayE
 rw [wr_lost, DevD.wr_med]
theorem wr_now_same {d : DevD} {a : Int} {t : List UInt8} (h : d.wrE a t = 0) : (d.wr a t).now a.toNat = t := by
 unfold DevD.wr
 rw [if_pos h]
 unfold DevD.now DevD.put
 simp [lastOr]
theorem wr_now_other {d : DevD} {a : Int} {t : List UInt8} {k : Nat} (h : k ≠ a.toNat) : (d.wr a t).now k = d.now k := by
 unfold DevD.wr
 split
 · unfold DevD.now DevD.put DevD.burn DevD.medAt
   simp only [if_neg h]
 · rfl
theorem wr_rd_same {d : DevD} {a : Int} {t : List UInt8} (h : d.wrE a t = 0) : (d.wr a t).rdS a = t := by
 have hm : d.mayE a = 0 := by
  unfold DevD.wrE at h
  split at h
  · rename_i hn; exact absurd h hn
  · rename_i hn; exact Decidable.of_not_not hn
 unfold DevD.rdS
 rw [wr_mayE, if_pos hm, wr_now_same h]
theorem wr_rd_other {d : DevD} {a b : Int} {t : List UInt8} (ha : 0 ≤ a) (hn : a ≠ b) : (d.wr a t).rdS b = d.rdS b := by
 unfold DevD.rdS
 rw [wr_mayE]
 split
 · rename_i hm
   have := DevD.mayE_ok hm
   rw [wr_now_other (by omega)]
 · rfl
structure Cols (n secs : Nat) (L : List Col) (T : List (List UInt8)) : Prop where
 inn : ∀ (j : Nat) (c : Col), L[j]? = some c → 0 ≤ c.1 ∧ c.1 < n ∧ 0 ≤ c.2.1 ∧ c.2.1 < secs
 txt : ∀ j : Nat, j < L.length → ∃ t, T[j]? = some t ∧ t.length = 64
 dis : ∀ (i j : Nat) (c e : Col), i ≠ j → L[i]? = some c → L[j]? = some e → ¬ (c.1 = e.1 ∧ c.2.1 = e.2.1)
theorem wrTo_hereD {aw : List Bool} {L : List Col} {T : List (List UInt8)} {ds : List DevD} (k i : Nat) : hereD aw (wrTo aw L T ds k) i = hereD aw ds i := by
 cases h : (wrTo aw L T ds k)[i]? with
 | none =>
  have h2 : ds[i]? = none := by
   rw [List.getElem?_eq_none_iff] at h ⊢
   rwa [wrTo_len] at h
  unfold hereD
  rw [h, h2]
 | some e =>
  rw [wrTo_at h]
  unfold hereD
  rw [h]
theorem cols_of {gs : List (Int × Int)} {secs n : Nat} {pg pa : Int} {s : List UInt8} (hr : gRight gs secs = true) (hn : gSum gs = n) (hz : encE gs secs pg pa s = 0) : Cols n secs (ofList gs secs pg pa (secN s)) (encL gs secs pg pa s) := by
 obtain ⟨z1, z2, z3⟩ := encE_zero hz
 have hLc : ofList gs secs pg pa (secN s) = colsOf gs secs pg pa (secN s) := by unfold ofList; rw [if_pos z2]
 have hnd : gDevs gs secs = n := by unfold gDevs; rw [if_pos hr]; exact hn
 obtain ⟨a1, a2, _⟩ := apart_pure z2 z2
 refine ⟨fun j c hj => ?_, fun j hj => ?_, fun i j c e hij hi hj => ?_⟩
 · rw [hLc] at hj
   have := a1 j c hj
   omega
 · have hk : j < (encL gs secs pg pa s).length := by rw [encL_len]; exact hj
   exact ⟨_, List.getElem?_eq_getElem hk, encL_64 z2 _ (List.getElem_mem hk)⟩
 · rw [hLc] at hi hj
   by_cases h : j < i
   · exact a2 i j c e h hi hj
   · intro hh
     exact a2 j i e c (by omega) hj hi ⟨hh.1.symm, hh.2.symm⟩
end Go.Proofs.YtbhkbcpljakmjaaGreat

namespace Go.Proofs.YtbhkbcpljakmjaaGreat
set_option linter.unusedVariables false
set_option linter.unusedSimpArgs false
open Go.RowKit
structure KX (w W : World) (A : Option Addr) (m c : Nat) (secs pg pa : Int) (y : VX) (xb : Nat) : Prop where
 g : Blk W w.heap.size 24 #[.slice A m c, .int .i64 secs]
 p : Blk W (w.heap.size + 1) 26 #[.int .i64 pg, .int .i64 pa]
 x : Blk W xb 37 y.cells
 bel : Below w.heap.size w W
section
variable {w W W' : World} {A : Option Addr} {m c : Nat} {secs pg pa : Int} {y : VX} {xb : Nat} {U : Nat → Prop}
theorem KX.stays (h : KX w W A m c secs pg pa y xb) (hs : Stays U W W') (hU : ∀ b, b < w.heap.size + 2 → U b) (hx : U xb) : KX w W' A m c secs pg pa y xb :=
 ⟨(hs.heap (hU _ (by omega)) h.g.lt).trans h.g, (hs.heap (hU _ (by omega)) h.p.lt).trans h.p, (hs.heap hx h.x.lt).trans h.x, h.bel.trans (hs.below h.bel.size (fun i hi => hU i (by omega)))⟩
theorem KX.below (h : KX w W A m c secs pg pa y xb) (hb : Below W.heap.size W W') : KX w W' A m c secs pg pa y xb :=
 ⟨h.g.below hb h.g.lt, h.p.below hb h.p.lt, h.x.below hb h.x.lt, keep_below hb h.bel⟩
theorem KX.far (h : KX w W A m c secs pg pa y xb) {b : Nat} (hb : w.heap.size + 2 ≤ b) (hx : xb ≠ b) (i : Nat) (u : Value) : KX w (W.setCell ⟨b, i, none⟩ u) A m c secs pg pa y xb :=
 ⟨h.g.far (by show w.heap.size ≠ b; omega) u, h.p.far (by show w.heap.size + 1 ≠ b; omega) u, h.x.far hx u, below_set h.bel _ _ _ (by omega)⟩
end
theorem ofErr_good {gs : List (Int × Int)} {secs pg pa size : Int} (h : cMay gs secs pg pa size = true) : ofErr gs secs pg pa size = 0 := by unfold ofErr; rw [if_pos h]
theorem blanks_ok {n secs : Nat} {b : UInt8} (h1 : 1 ≤ secs) (h2 : secs ≤ 4096) : DsOk 0 secs (List.replicate n (DevD.blank secs b)) := fun d hd => by
 rw [List.eq_of_mem_replicate hd]
 exact ⟨blank_ok h1 h2, by simp [DevD.blank], rfl, fun k => Nat.zero_le _⟩
end Go.Proofs.YtbhkbcpljakmjaaGreat

namespace Go.Proofs.YtbhkbcpljakmjaaGreat
set_option linter.unusedVariables false
set_option linter.unusedSimpArgs false
def backG (L : List Col) (T : List (List UInt8)) (hs : Nat → Bool) : List (List UInt8) := (List.range L.length).map fun k => if hs (L.getD k (0, 0, false, 0)).1.toNat then T.getD k [] else []
theorem backG_len (L : List Col) (T : List (List UInt8)) (hs : Nat → Bool) : (backG L T hs).length = L.length := by simp [backG]
theorem backG_get {L : List Col} {T : List (List UInt8)} {hs : Nat → Bool} {i : Nat} (hi : i < L.length) : (backG L T hs).getD i [] = if hs (L.getD i (0, 0, false, 0)).1.toNat then T.getD i [] else [] := by
 unfold backG
 rw [List.getD_eq_getElem?_getD, List.getElem?_map, List.getElem?_range hi]
 rfl
section
variable {gs : List (Int × Int)} {secs pg pa : Int} {s : List UInt8} {hs : Nat → Bool} {n : Nat}
theorem back_fits (h : cMay gs secs pg pa (secN s) = true) : fitsB gs secs pg pa (secN s) (backG (colsOf gs secs pg pa (secN s)) (encL gs secs pg pa s) hs) = true := by
 unfold fitsB
 rw [h, backG_len]
 simp only [Bool.true_and, beq_self_eq_true, Bool.not_eq_true']
 rw [List.any_eq_false]
 intro t ht
 obtain ⟨i, hi, rfl⟩ := List.mem_map.1 ht
 have hi := List.mem_range.1 hi
 have := (enc_encL (s := s) h).all64 i hi
 unfold fitP
 split
 · simp only [this]
   simp
 · simp
end
end Go.Proofs.YtbhkbcpljakmjaaGreat

namespace Go.Proofs.YtbhkbcpljakmjaaGreat
open Go.RowKit
set_option linter.unusedVariables false
theorem Tryz.stoodPlace : Tryz.prog.stoodInHeld 26 = false := by kernel_rfl
theorem Tryz.stoodPtr : Tryz.prog.stoodInHeld 31 = false := by kernel_rfl
theorem eqIn_place (w : World) (d : Nat) (a b c e : Int) : (Op.equalIn (d + 2) 26 (.agg #[.int .i64 a, .int .i64 b]) (.agg #[.int .i64 c, .int .i64 e])).run Tryz.prog w = .ok (a == c && b == e) w := by
 rw [run_equalIn_struct w (d + 1) _ _ _ (by kernel_rfl) Tryz.stoodPlace]
 simp [go_sem, Tryz.underlying26]
 by_cases h1 : a = c <;> by_cases h2 : b = e <;> simp [h1, h2]
theorem eqIn_sum (w : World) (d : Nat) (a0 a1 a2 a3 b0 b1 b2 b3 : Nat) : (Op.equalIn (d + 2) 29 (.agg #[.int .u64 a0, .int .u64 a1, .int .u64 a2, .int .u64 a3]) (.agg #[.int .u64 b0, .int .u64 b1, .int .u64 b2, .int .u64 b3])).run Tryz.prog w =
 .ok ((a0 : Int) == b0 && ((a1 : Int) == b1 && ((a2 : Int) == b2 && (a3 : Int) == b3))) w := by
 rw [Op.equalIn]
 simp only [Sem.run_bind, run_underlying Tryz.underlying29, Result.andThen_ok]
 simp [go_sem, Tryz.sizeOf27, Std.Legacy.Range.forIn_eq_forIn_range', Std.Legacy.Range.size, List.range']
 repeat' split
 all_goals (congr 1; simp_all)
def ptrEq (p q : PtrD) : Bool := decide (p = q)
theorem eql_ptr (p q : PtrD) (w : World) : (binOp .eql 31 (.agg p.cells) (.agg q.cells)).run Tryz.prog w = .ok (.bool (ptrEq p q)) w := by
 obtain ⟨a1, a2, a3, a4, a5, a6, a7, a8, a9, aa, ab, ac⟩ := p
 obtain ⟨b1, b2, b3, b4, b5, b6, b7, b8, b9, ba, bb, bc⟩ := q
 rw [run_eql_struct, run_equalIn_struct w 9999 _ _ _ (by kernel_rfl) Tryz.stoodPtr]
 simp [go_sem, Tryz.underlying31, eqIn_place, eqIn_sum, PtrD.cells, ptrEq]
 repeat' split
 all_goals (congr 2; try simp_all)
 all_goals grind
theorem eql_place (a b c e : Int) (w : World) : (binOp .eql 26 (.agg #[.int .i64 a, .int .i64 b]) (.agg #[.int .i64 c, .int .i64 e])).run Tryz.prog w = .ok (.bool (a == c && b == e)) w := by
 rw [run_eql_struct, run_equalIn_struct w 9999 _ _ _ (by kernel_rfl) Tryz.stoodPlace]
 simp [go_sem, Tryz.underlying26]
 by_cases h1 : a = c <;> by_cases h2 : b = e <;> simp [h1, h2]
end Go.Proofs.YtbhkbcpljakmjaaGreat

namespace Go.Proofs.YtbhkbcpljakmjaaGreat
open Go.RowKit
set_option linter.unusedVariables false
def ptrZ : PtrD := ⟨0, 0, 0, 0, false, 0, 0, 0, 0, 0, 0, 0⟩
def noneB (p : PtrD) : Bool := ptrEq p ptrZ
set_option maxRecDepth 100000 in
theorem none_any (p : PtrD) (w : World) :
 Calls Tryz.prog 42 #[.agg p.cells] w fun e w' => e = .returned (.bool (noneB p)) ∧ Below w.heap.size w w' := by
 have h := PtrAt.new w p 31
 obtain ⟨h0, h1, h2, h3, h4, h5, h6, h7, h8, h9, ha, hc⟩ := h
 simp only [Nat.zero_add] at h1 h2 h3 h4 h5 h6 h7 h8 h9 ha hc
 have he : ∀ W, (binOp .eql 31 (.agg #[.int .i64 p.ag, .int .i64 p.aa, .int .i64 p.bg, .int .i64 p.ba, .bool p.two, .int .i64 p.size, .int .i64 p.level, .int .i64 p.birth, .int .u64 p.s0, .int .u64 p.s1, .int .u64 p.s2, .int .u64 p.s3])
  (.agg #[.int .i64 0, .int .i64 0, .int .i64 0, .int .i64 0, .bool false, .int .i64 0, .int .i64 0, .int .i64 0, .int .u64 0, .int .u64 0, .int .u64 0, .int .u64 0])).run Tryz.prog W = .ok (.bool (noneB p)) W := fun W => eql_ptr p ptrZ W
 have hb := (Below.refl w.heap.size w).alloc (Nat.le_refl _) (.cells p.cells 31)
 go_enter Tryz.func42, Tryz.ntmps42
 go_wp2_with fail
 go_ret
 exact ⟨rfl, hb⟩
def layOk (p : PtrD) : Bool := withinL 4294967295 [p.ag, p.aa, p.bg, p.ba, p.birth] && withinL 255 [p.size, p.level]
end Go.Proofs.YtbhkbcpljakmjaaGreat

namespace Go.Proofs.YtbhkbcpljakmjaaGreat
open Go.RowKit
set_option linter.unusedVariables false
end Go.Proofs.YtbhkbcpljakmjaaGreat

namespace Go.Proofs.YtbhkbcpljakmjaaGreat
open Go.RowKit
set_option linter.unusedVariables false
end Go.Proofs.YtbhkbcpljakmjaaGreat

namespace Go.Proofs.YtbhkbcpljakmjaaGreat
open Go.RowKit
def apB (gs : List (Int × Int)) (secs ag aa bg ba size : Int) : Bool := (ag != bg) || (decide (aa + gTakes gs secs ag size ≤ ba) || decide (ba + gTakes gs secs bg size ≤ aa))
def rightB (gs : List (Int × Int)) (secs : Int) (p : PtrD) : Bool :=
 decide (0 ≤ p.level) && decide (p.level ≤ 3) && decide (1 ≤ p.birth) && decide (p.birth ≤ 4294967295) && cMay gs secs p.ag p.aa p.size &&
  (if p.two then cMay gs secs p.bg p.ba p.size && apB gs secs p.ag p.aa p.bg p.ba p.size else p.bg == 0 && p.ba == 0)
theorem cMay_bd {gs : List (Int × Int)} {secs pg pa size : Int} (h : cMay gs secs pg pa size = true) : 0 ≤ pg ∧ pg ≤ 4 ∧ 0 ≤ pa ∧ pa ≤ 100000 ∧ 1 ≤ size ∧ size ≤ 4 := by
 obtain ⟨hhas, hz1, hz2, hp1, hp2, _⟩ := cMay_true h
 have hS := gSectors_bd gs secs pg
 have hT := gTakes_bd gs secs pg size
 obtain ⟨k, x, rfl, hk, hl4, _⟩ := gHas_true hhas
 omega
theorem right_pure {gs : List (Int × Int)} {secs : Int} {p : PtrD} (h : rightB gs secs p = true) : noneB p = false ∧ layOk p = true ∧ (p.two = true → (p.ag == p.bg && p.aa == p.ba) = false) := by
 simp only [rightB, Bool.and_eq_true, decide_eq_true_eq] at h
 obtain ⟨⟨⟨⟨⟨h1, h2⟩, h3⟩, h4⟩, h5⟩, h6⟩ := h
 have b := cMay_bd h5
 obtain ⟨_, _, _, _, _, ht⟩ := cMay_true h5
 refine ⟨?_, ?_, ?_⟩
 · unfold noneB ptrEq
   rw [decide_eq_false]
   intro e
   have : p.birth = 0 := by rw [e]; rfl
   omega
 · simp only [layOk, withinL, List.all_cons, List.all_nil, Bool.and_true, Bool.and_eq_true, decide_eq_true_eq]
   cases ht2 : p.two with
   | true =>
    rw [ht2, if_pos rfl, Bool.and_eq_true] at h6
    have b2 := cMay_bd h6.1
    omega
   | false =>
    rw [ht2, if_neg (by simp)] at h6
    simp at h6
    omega
 · intro ht2
   rw [ht2, if_pos rfl, Bool.and_eq_true] at h6
   obtain ⟨_, h7⟩ := h6
   simp only [apB, Bool.or_eq_true, decide_eq_true_eq] at h7
   rw [Bool.and_eq_false_iff]
   by_cases e1 : p.ag = p.bg
   · right
     rw [← e1] at h7
     simp only [bne_self_eq_false, Bool.false_eq_true, false_or] at h7
     simp; omega
   · left; simp [e1]
end Go.Proofs.YtbhkbcpljakmjaaGreat

namespace Go.Proofs.YtbhkbcpljakmjaaGreat
set_option linter.unusedVariables false
set_option linter.unusedSimpArgs false
def hasL (p : Nat → Bool) (n : Nat) : List Nat := (List.range n).filter p
namespace DevD
def pre (d : DevD) (k : Nat) : Bool := !(d.cac k).isEmpty
def keys (d : DevD) : List Nat := hasL d.pre d.med.length
def crashed (d : DevD) (keep : List Int) (m : Nat) : DevD := { d with med := d.crashMed keep m, fuse := -1 }
end DevD
end Go.Proofs.YtbhkbcpljakmjaaGreat

namespace Go.Proofs.YtbhkbcpljakmjaaGreat
set_option linter.unusedVariables false
set_option linter.unusedSimpArgs false
section
variable {f : DevD → DevD} {ds : List DevD}
end
end Go.Proofs.YtbhkbcpljakmjaaGreat

namespace Go.Proofs.YtbhkbcpljakmjaaGreat
set_option linter.unusedVariables false
set_option linter.unusedSimpArgs false
open Go.RowKit
theorem getD_at {L : List Col} {k : Nat} {x : Col} (h : L[k]? = some x) : L.getD k (0, 0, false, 0) = x := by rw [List.getD_eq_getElem?_getD, h]; rfl
theorem gotD_at {L : List (List UInt8)} {k : Nat} {x : List UInt8} (h : L[k]? = some x) : L.getD k [] = x := by rw [List.getD_eq_getElem?_getD, h]; rfl
set_option maxRecDepth 20000 in
set_option maxHeartbeats 1000000 in
theorem again_any {w : World} {L : List Col} {got : List (List UInt8)} {lv gv : Value} (hl : SlAt w lv L.length (colsCells L)) (hg : SlAt w gv got.length (strC got)) (hgl : got.length = L.length) (hL64 : L.length ≤ 64) (h64 : ∀ s ∈ got, s.length ≤ 64) {at_ : Nat} (hat : at_ < L.length) :
 Calls Tryz.prog 143 #[lv, gv, .int .i64 at_] w fun e w' => e = .returned (str (againS L got at_)) ∧ Below w.heap.size w w' := by
 obtain ⟨Al, cl, rfl⟩ := hl.form
 obtain ⟨Ag, cg, rfl⟩ := hg.form
 rw [hgl] at hg ⊢
 have H := Lib.hid hl
 have HG := Lib.hid hg
 have HGL := Lib.hid hgl
 have H64 := Lib.hid h64
 obtain ⟨ya, hya⟩ : ∃ y, L[at_]? = some y := ⟨_, List.getElem?_eq_getElem hat⟩
 have HYA := Lib.hid hya
 clear hl hg hgl h64 hya
 obtain ⟨i0, hi, hz0, hz1, hz2⟩ := info_parts Tryz.infoStr
 go_enter Tryz.func143, Tryz.ntmps143
 go_wp2_with fail
 go_loopw [7, 8, 9, 14] (fun v _ _ t wr => ∃ k : Nat, k ≤ L.length ∧ t = .int .i64 k ∧ wr.ownsRow w.heap.size 9 1 v (againIx L at_ k).length (strC ((againIx L at_ k).map fun i => got.getD i [])) ∧ Below w.heap.size w wr) (fun _ _ _ t _ => L.length - (RowKit.intOf t).toNat)
 case atStart => exact ⟨0, Nat.zero_le _, rfl, World.ownsRow_nil _ _ _ _, Below.refl _ _⟩
 case round =>
  obtain ⟨k, hk, rfl, hown, hb⟩ := hrel
  have HB := Lib.hid hb
  have HOWN := Lib.hid hown
  clear hb hown
  by_cases hlt : k < L.length
  · obtain ⟨b, o, rfl, hbl, hcell⟩ := H.out.cells (by omega)
    obtain ⟨x, hx⟩ : ∃ x, L[k]? = some x := ⟨_, List.getElem?_eq_getElem hlt⟩
    obtain ⟨q0, q1, q2, q3⟩ := colsCells_at hx
    have hcl : ∀ j u, (colsCells L)[j]? = some u → wr.cell? ⟨b, o + j, none⟩ = some u := fun j u hu => (World.cell?_of_block (HB.out.block b hbl)).trans (hcell j u hu)
    have f0 : wr.cell? ⟨b, o + k * 4, none⟩ = some (.int .i64 x.1) := hcl _ _ q0
    have f1 : wr.cell? ⟨b, o + k * 4 + 1, none⟩ = some (.int .i64 x.2.1) := hcl _ _ q1
    have f2 : wr.cell? ⟨b, o + k * 4 + 2, none⟩ = some (.bool x.2.2.1) := hcl _ _ q2
    have f3 : wr.cell? ⟨b, o + k * 4 + 3, none⟩ = some (.int .i64 x.2.2.2) := hcl _ _ q3
    have hdc : decide (k < L.length) = true := decide_eq_true hlt
    have HLT := Lib.hid hlt
    have HX := Lib.hid hx
    have hi44 : (Tryz.prog.info? 71).map (·.size) = some (#[.int .i64 x.1, .int .i64 x.2.1, .bool x.2.2.1, .int .i64 x.2.2.2] : Array Value).size := by kernel_rfl
    have h1c : (#[.int .i64 x.1, .int .i64 x.2.1, .bool x.2.2.1, .int .i64 x.2.2.2] : Array Value).all (·.oneCell') = true := by kernel_rfl
    have Z2 : Blk (wr.alloc (.cells colZ 71)) wr.heap.size 71 colZ := Blk.new _ _ _
    have hth : (wr.alloc (.cells colZ 71)).there wr.heap.size 0 (#[.int .i64 x.1, .int .i64 x.2.1, .bool x.2.2.1, .int .i64 x.2.2.2] : Array Value).size := Z2.there (Nat.le_refl _)
    obtain ⟨w2, hw2⟩ : ∃ y, (wr.alloc (.cells colZ 71)).setCells wr.heap.size 0 (#[.int .i64 x.1, .int .i64 x.2.1, .bool x.2.2.1, .int .i64 x.2.2.2] : Array Value).toList = y := ⟨_, rfl⟩
    have X2 : Blk w2 wr.heap.size 71 #[.int .i64 x.1, .int .i64 x.2.1, .bool x.2.2.1, .int .i64 x.2.2.2] := by rw [← hw2]; exact Z2.putAll _ rfl
    have hb2 : Below wr.heap.size wr w2 := by rw [← hw2]; exact below_sets _ _ (keep_alloc (Below.refl _ _) _) (Nat.le_refl _)
    have hs2 : w2.heap.size = wr.heap.size + 1 := by rw [← hw2, sets_size', World.size_alloc]
    have HW2 := Lib.hid hw2
    have HX2 := Lib.hid X2
    have HK2 := Lib.hid hb2
    have HS2 := Lib.hid hs2
    have e2 : w2.cell? ⟨wr.heap.size, 2, none⟩ = some (.bool x.2.2.1) := X2.at_ rfl
    have e3 : w2.cell? ⟨wr.heap.size, 3, none⟩ = some (.int .i64 x.2.2.2) := X2.at_ rfl
    clear q0 q1 q2 q3 hcl hcell hx hbl hw2 X2 hb2 hs2 Z2
    have HD2B := Lib.hid (HB.out.trans (HK2.out.mono HB.out.size))
    have HOW2 := Lib.hid (ownsRow_same HOWN.out (fun b hb => HK2.out.block b (HOWN.out.lt b hb).2))
    obtain ⟨q0, q1, q2, q3⟩ := colsCells_at HYA.out
    obtain ⟨b1, o1, e1, hl1, hc1⟩ := H.out.cells (by omega)
    cases e1
    have fy : w2.cell? ⟨b, o + at_ * 4 + 3, none⟩ = some (.int .i64 ya.2.2.2) := keep_cell HD2B.out (hc1 _ _ q3) hl1
    have e3 : w2.cell? ⟨wr.heap.size, 3, none⟩ = some (.int .i64 x.2.2.2) := HX2.out.at_ rfl
    have hla : at_ < L.length := hat
    have hstep := againIx_step L at_ k
    rw [getD_at HX.out, getD_at HYA.out] at hstep
    have HST := Lib.hid hstep
    clear q0 q1 q2 hc1 hstep
    repeat' (first
     | (((with_reducible refine wpList_store_mid ?a1 71 (.tmp 9) (.tmp 18) ?a2 wr.heap.size 0 #[.int .i64 x.1, .int .i64 x.2.1, .bool x.2.2.1, .int .i64 x.2.2.2] ?a3 ?a4 hth hi44 h1c ?_); (case a1 => rfl); (case a2 => rfl); (case a3 => rfl); (case a4 => rfl); simp only [Act.put, List.setIfInBounds_toArray, List.set_cons_zero, List.set_cons_succ]; rw [HW2.out]))
     | go_values
     | go_skip
     | go_guarded
     | ((fail_if_success (with_reducible refine drawn_mark ?_))
        first
         | go_step
         | go_upon
         | go_back
         | (simp only [Int.not_lt, Int.not_le] at *; go_simp)
         | (go_values <;> (try go_simp))
         | (go_ite <;> go_prune <;> (try go_simp))
         | (split <;> (first | (rename_i hx; exact (hx _ rfl).elim) | go_prune))))
    obtain ⟨C, hCd, hCw, hCB, hCK, hCD⟩ := cls_below w2
    have g3 : ∀ W, C W → W.cell? ⟨wr.heap.size, 3, none⟩ = some (.int .i64 x.2.2.2) := fun W h => keep_cell (hCB W h) e3 HX2.out.lt
    have gy : ∀ W, C W → W.cell? ⟨b, o + at_ * 4 + 3, none⟩ = some (.int .i64 ya.2.2.2) := fun W h => keep_cell (hCB W h) fy (Nat.lt_of_lt_of_le hl1 HD2B.out.size)
    cases hrow : (x.2.2.2 == ya.2.2.2) with
    | false =>
     have HT : Hid (againIx L at_ (k + 1) = againIx L at_ k) := Lib.hid (by rw [HST.out, hrow]; simp)
     go_wp2_with fail
     refine wp_region_cls C (by kernel_rfl) (by kernel_rfl) hCd ?_
     repeat (first | go_big_quiet_skip | (go_big_quiet_want; go_big_quiet_op; first | go_big_quiet_on | (apply Exists.intro; refine ⟨fun W hW => ?_, ?_⟩; (focus ((first | exact rfl | exact ⟨rfl, rfl⟩ | (simp only [g3 W hW, gy W hW, Result.andThen_ok]; first | done | exact ⟨trivial, rfl⟩ | exact rfl | exact ⟨rfl, rfl⟩) | (skip)); done)); go_big_quiet_on)))
     refine wpQuiet_nil ?_
     intro wz hwz
     have HBZ := Lib.hid (hCB wz hwz)
     clear g3 gy hCd hCB hwz hCw hCK hCD e2 e3 fy hi44 h1c hth f0 f1 f2 f3 hrow
     go_wp2_with fail
     go_roundw
     case rel => exact ⟨k + 1, HLT.out, by go_num, by rw [HT.out]; exact ownsRow_same HOW2.out (fun b hb => HBZ.out.block b (HOW2.out.lt b hb).2), HD2B.out.trans (HBZ.out.mono HD2B.out.size)⟩
     case measure => have := HLT.out; simp [RowKit.intOf]; omega
    | true =>
     by_cases hka : k = at_
     · have HT : Hid (againIx L at_ (k + 1) = againIx L at_ k) := Lib.hid (by rw [HST.out, hka]; simp)
       have hkb : ((k : Int) != at_) = false := by rw [bne_eq_false_iff_eq]; omega
       clear hka
       go_wp2_with fail
       refine wp_region_cls C (by kernel_rfl) (by kernel_rfl) hCd ?_
       repeat (first | go_big_quiet_skip | (go_big_quiet_want; go_big_quiet_op; first | go_big_quiet_on | (apply Exists.intro; refine ⟨fun W hW => ?_, ?_⟩; (focus ((first | exact rfl | exact ⟨rfl, rfl⟩ | (simp only [g3 W hW, gy W hW, Result.andThen_ok]; first | done | exact ⟨trivial, rfl⟩ | exact rfl | exact ⟨rfl, rfl⟩) | (skip)); done)); go_big_quiet_on)))
       refine wpQuiet_nil ?_
       intro wz hwz
       have HBZ := Lib.hid (hCB wz hwz)
       clear g3 gy hCd hCB hwz hCw hCK hCD e2 e3 fy hi44 h1c hth f0 f1 f2 f3 hrow
       go_wp2_with fail
       go_roundw
       case rel => exact ⟨k + 1, HLT.out, by go_num, by rw [HT.out]; exact ownsRow_same HOW2.out (fun b hb => HBZ.out.block b (HOW2.out.lt b hb).2), HD2B.out.trans (HBZ.out.mono HD2B.out.size)⟩
       case measure => have := HLT.out; simp [RowKit.intOf]; omega
     · have HT : Hid (againIx L at_ (k + 1) = againIx L at_ k ++ [k]) := Lib.hid (by rw [HST.out, hrow]; simp [hka])
       have hkb : ((k : Int) != at_) = true := by rw [bne_iff_ne]; omega
       obtain ⟨s, hs⟩ : ∃ s, got[k]? = some s := ⟨_, List.getElem?_eq_getElem (by rw [HGL.out]; exact hlt)⟩
       obtain ⟨b2, o2, rfl, hl2, hc2⟩ := HG.out.cells (by omega)
       have HGS := Lib.hid (hc2 k (str s) (strC_at hs))
       have HSS := Lib.hid (gotD_at hs)
       have HL2 := Lib.hid hl2
       have hal := againIx_len L at_ k
       have hkg := hlt
       clear hka hs hc2 hl2
       go_wp2_with fail
       refine wp_region_cls C (by kernel_rfl) (by kernel_rfl) hCd ?_
       repeat (first | go_big_quiet_skip | (go_big_quiet_want; go_big_quiet_op; first | go_big_quiet_on | (apply Exists.intro; refine ⟨fun W hW => ?_, ?_⟩; (focus ((first | exact rfl | exact ⟨rfl, rfl⟩ | (simp only [g3 W hW, gy W hW, Result.andThen_ok]; first | done | exact ⟨trivial, rfl⟩ | exact rfl | exact ⟨rfl, rfl⟩) | (skip)); done)); go_big_quiet_on)))
       refine wpQuiet_nil ?_
       intro wz hwz
       have HBZ := Lib.hid (HD2B.out.trans ((hCB wz hwz).mono HD2B.out.size))
       have HOZ := Lib.hid (ownsRow_same HOW2.out (fun b hb => (hCB wz hwz).block b (HOW2.out.lt b hb).2))
       have gs := keep_cell HBZ.out HGS.out HL2.out
       obtain ⟨R, hR⟩ : ∃ R, againIx L at_ k = R := ⟨_, rfl⟩
       rw [hR] at HOZ HT hal
       clear g3 gy hCd hCB hwz hCw hCK hCD e2 e3 fy hi44 h1c hth f0 f1 f2 f3 hrow hR HOWN HOW2
       go_wp2_with (at_builtin; refine wpList_append_own _ rfl _ _ 60 rfl w.heap.size 9 i0 _ 1 16 Tryz.underlying60 hi hz0 hz1 hz2 rfl (by decide) _ _ _ rfl (HOZ.out.alloc _) ⟨wz.heap.size, 0, none⟩ 1 1 [str s] rfl rfl ?c1 ?c2 (by unfold maxLen; omega) (by omega) ?c5 ?_)
       try (case c1 => exact one_new' _ _ _)
       case c2 => first | rfl | (intro u hu; simp at hu; subst hu; rfl)
       case c5 => have := HBZ.out.size; simp; omega
       intro v' w5 hown' hgrow _
       have hown5 : w5.ownsRow w.heap.size 9 1 v' (againIx L at_ (k + 1)).length (strC ((againIx L at_ (k + 1)).map fun i => got.getD i [])) := by
        rw [HT.out, List.length_append, List.map_append, List.map_cons, List.map_nil, HSS.out, strC_snoc]
        exact hown'
       have hb5 : Below w.heap.size w w5 := (HBZ.out.alloc HBZ.out.size _).grown hgrow (by have := HBZ.out.size; simp; omega) (fun k hk => (HOZ.out.lt k hk).1)
       have HO5 := Lib.hid hown5
       have HB5 := Lib.hid hb5
       clear hown' hgrow hown5 hb5 gs
       go_wp2_with fail
       go_roundw
       case rel => exact ⟨k + 1, HLT.out, by go_num, HO5.out, HB5.out⟩
       case measure => have := HLT.out; simp [RowKit.intOf]; omega
  · obtain rfl : k = L.length := by omega
    have hdc : decide ((L.length : Int) < L.length) = false := decide_eq_false (by omega)
    obtain ⟨P, hP⟩ : ∃ P, P = (againIx L at_ L.length).map fun i => got.getD i [] := ⟨_, rfl⟩
    have hso := slAt_own HOWN.out
    have hPl : (againIx L at_ L.length).length = P.length := by rw [hP, List.length_map]
    rw [← hP, hPl] at hso
    have hPn : P.length ≤ 64 := by rw [← hPl]; exact Nat.le_trans (againIx_len _ _ _) hL64
    have hP64 : (P.headD []).length ≤ 64 := by
     cases hq : P with
     | nil => exact Nat.zero_le _
     | cons a r =>
      have hm : a ∈ (againIx L at_ L.length).map fun i => got.getD i [] := by rw [← hP, hq]; exact List.mem_cons_self
      obtain ⟨i, _, hi⟩ := List.mem_map.1 hm
      show a.length ≤ 64
      rw [← hi, List.getD_eq_getElem?_getD]
      cases hgi : got[i]? with
      | none => exact Nat.zero_le _
      | some u => exact H64.out u (List.mem_of_getElem? hgi)
    have HCE := Lib.hid (conE_any hso (by omega))
    have HRES : Hid (againS L got at_ = if hasE P then [] else makeS P) := Lib.hid (by unfold againS; rw [hP])
    have HSO := Lib.hid hso
    have HP64 := Lib.hid hP64
    obtain ⟨Ap, cp, rfl⟩ := hso.form
    clear hso hP hPl hP64 HOWN
    go_wp2_with fail
    refine HCE.out.mono ?_
    rintro e w3 ⟨rfl, hb3⟩
    have HB3 := Lib.hid (keep_below hb3 HB.out)
    have HM := Lib.hid (parMake_any (HSO.out.below hb3) (by have := HP64.out; omega) (by omega))
    clear hb3
    cases hE : hasE P with
    | true =>
     rw [hE] at HRES
     clear hE
     go_wp2_with fail
     go_ret
     rw [HRES.out]
     exact ⟨rfl, HB3.out⟩
    | false =>
     rw [hE] at HRES
     clear hE
     go_wp2_with fail
     refine HM.out.mono ?_
     rintro e w4 ⟨rfl, hb4⟩
     have HB4 := Lib.hid (keep_below hb4 HB3.out)
     clear hb4
     go_wp2_with fail
     go_ret
     rw [HRES.out]
     exact ⟨rfl, HB4.out⟩
end Go.Proofs.YtbhkbcpljakmjaaGreat
