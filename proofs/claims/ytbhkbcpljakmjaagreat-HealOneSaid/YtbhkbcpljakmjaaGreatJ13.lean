/-
  Blocks on a pool's devices, as plain words; len of a map of numbers.
  What is encoded has whole sectors. No program stands here.
  What is encoded has whole sectors; the columns of a block. No program stands here.
-/
import Derived.Test.YtbhkbcpljakmjaaGreatJ07
import Derived.Test.YtbhkbcpljakmjaaGreatJ12
namespace Go.Proofs.YtbhkbcpljakmjaaGreat
set_option linter.unusedVariables false
set_option linter.unusedSimpArgs false
open Go.RowKit

theorem nodup_sub : ∀ (l l' : List Int), l.Nodup → (∀ x ∈ l, x ∈ l') → l.length ≤ l'.length
  | [], _, _, _ => Nat.zero_le _
  | x :: l, l', hn, hs => by
    have hx : x ∈ l' := hs x List.mem_cons_self
    have h2 := List.nodup_cons.1 hn
    have := nodup_sub l (l'.erase x) h2.2 (fun y hy => (List.mem_erase_of_ne (fun e => h2.1 (by rw [← e]; exact hy))).2 (hs y (List.mem_cons_of_mem _ hy)))
    rw [List.length_erase_of_mem hx] at this
    have hp := List.length_pos_of_mem hx
    rw [List.length_cons]
    omega
theorem MapAt.len_eq {P : Program} {kt t et ty : TypeId} {w : World} {b n : Nat} {f : Int → Option Value} (h : MapAt P kt w b n f) (hk : P.underlying kt = some (.int .i64)) (ht : P.underlying t = some (.map kt et)) {l : List Int} (hn : l.Nodup) (hm : ∀ x, x ∈ l ↔ (f x).isSome = true) :
    (Builtin.len_ #[t] ty #[.map (some b)]).run P w = .ok (.int .i64 (l.length : Nat)) w := by
  obtain ⟨D, ho, hf⟩ := h
  obtain ⟨h1, h2, h3⟩ := mapAt_keys ho hk hf
  have e : Maps.size D = l.length := by
    rw [h3]
    exact Nat.le_antisymm (nodup_sub _ _ h1 (fun x hx => (hm x).2 ((h2 x).1 hx))) (nodup_sub _ _ hn (fun x hx => (h2 x).2 ((hm x).1 hx)))
  have := ho.len ht ty
  rw [e] at this
  exact this

/-- Who of the devices is here. -/
def hereD (aw : List Bool) (ds : List DevD) (i : Nat) : Bool := !(aw.getD i false) && match ds[i]? with
  | some d => !d.lost
  | none => false
def putD (aw : List Bool) (ds : List DevD) (c : Col) (t : List UInt8) : List DevD := match ds[c.1.toNat]? with
  | none => ds
  | some d => if !(aw.getD c.1.toNat false) && !d.lost then ds.set c.1.toNat (d.wr c.2.1 t) else ds
/-- A block's columns are written, as far as k. -/
def wrTo (aw : List Bool) (L : List Col) (T : List (List UInt8)) (ds : List DevD) : Nat → List DevD
  | 0 => ds
  | k + 1 => match L[k]?, T[k]? with
    | some c, some t => putD aw (wrTo aw L T ds k) c t
    | _, _ => wrTo aw L T ds k
/-- Devices as all devices are here: without a fuse, with few texts in their caches. -/
def DsOk (N secs : Nat) (ds : List DevD) : Prop := ∀ d ∈ ds, d.Ok ∧ d.med.length = secs ∧ d.fuse = -1 ∧ ∀ k, (d.cac k).length ≤ N
theorem wr_lost (d : DevD) (a : Int) (s : List UInt8) : (d.wr a s).lost = d.lost := by unfold DevD.wr; split <;> rfl
theorem wr_fuse {d : DevD} (a : Int) (s : List UInt8) (h : d.fuse = -1) : (d.wr a s).fuse = -1 := by
  unfold DevD.wr
  split
  · show max (d.fuse - 1) (-1) = -1
    omega
  · exact h
section
variable {aw : List Bool} {ds : List DevD} {L : List Col} {T : List (List UInt8)} {c : Col} {t : List UInt8}
theorem putD_len : (putD aw ds c t).length = ds.length := by
  unfold putD
  split
  · rfl
  · split
    · rw [List.length_set]
    · rfl
theorem wrTo_len : ∀ k, (wrTo aw L T ds k).length = ds.length
  | 0 => rfl
  | k + 1 => by
    rw [wrTo]
    split
    · rw [putD_len, wrTo_len k]
    · exact wrTo_len k
theorem DsOk.mono {N M secs : Nat} (h : DsOk N secs ds) (hm : N ≤ M) : DsOk M secs ds := fun d hd => ⟨(h d hd).1, (h d hd).2.1, (h d hd).2.2.1, fun k => Nat.le_trans ((h d hd).2.2.2 k) hm⟩
theorem putD_ok {N secs : Nat} (h : DsOk N secs ds) : DsOk (N + 1) secs (putD aw ds c t) := by
  unfold putD
  split
  · exact h.mono (Nat.le_succ _)
  · rename_i d hd
    split
    · intro e he
      rcases List.mem_or_eq_of_mem_set he with he | rfl
      · exact h.mono (Nat.le_succ _) e he
      · obtain ⟨h1, h2, h3, h4⟩ := h d (List.mem_of_getElem? hd)
        exact ⟨h1.wr _ _, by rw [DevD.wr_med]; exact h2, wr_fuse _ _ h3, fun k => Nat.le_trans (DevD.wr_len d _ _ k) (Nat.succ_le_succ (h4 k))⟩
    · exact h.mono (Nat.le_succ _)
theorem wrTo_ok {N secs : Nat} (h : DsOk N secs ds) : ∀ k, DsOk (N + k) secs (wrTo aw L T ds k)
  | 0 => h
  | k + 1 => by
    rw [wrTo]
    split
    · exact putD_ok (wrTo_ok h k)
    · exact (wrTo_ok h k).mono (by omega)
theorem putD_lost (i : Nat) : ((putD aw ds c t)[i]?).map DevD.lost = (ds[i]?).map DevD.lost := by
  unfold putD
  split
  · rfl
  · rename_i d hd
    split
    · by_cases e : c.1.toNat = i
      · subst e
        rw [List.getElem?_set, if_pos rfl, if_pos (List.getElem?_eq_some_iff.1 hd).1, hd]
        simp [wr_lost]
      · rw [List.getElem?_set, if_neg e]
    · rfl
theorem wrTo_lost (i : Nat) : ∀ k, ((wrTo aw L T ds k)[i]?).map DevD.lost = (ds[i]?).map DevD.lost
  | 0 => rfl
  | k + 1 => by
    rw [wrTo]
    split
    · rw [putD_lost, wrTo_lost i k]
    · exact wrTo_lost i k
theorem wrTo_at {k i : Nat} {e : DevD} (h : (wrTo aw L T ds k)[i]? = some e) : hereD aw ds i = (!(aw.getD i false) && !e.lost) := by
  have := wrTo_lost (aw := aw) (L := L) (T := T) (ds := ds) i k
  rw [h] at this
  unfold hereD
  cases hd : ds[i]? with
  | none => rw [hd] at this; cases this
  | some d => rw [hd] at this; simp at this; rw [this]
theorem wrTo_yes {k i : Nat} {e : DevD} (hc : L[k]? = some c) (ht : T[k]? = some t) (hi : c.1 = i) (he : (wrTo aw L T ds k)[i]? = some e) (hh : (!(aw.getD i false) && !e.lost) = true) : wrTo aw L T ds (k + 1) = (wrTo aw L T ds k).set i (e.wr c.2.1 t) := by
  rw [wrTo, hc, ht]
  show putD _ _ _ _ = _
  unfold putD
  rw [hi, Int.toNat_natCast, he]
  simp only [hh, if_true]
theorem wrTo_no {k i : Nat} {e : DevD} (hc : L[k]? = some c) (ht : T[k]? = some t) (hi : c.1 = i) (he : (wrTo aw L T ds k)[i]? = some e) (hh : (!(aw.getD i false) && !e.lost) = false) : wrTo aw L T ds (k + 1) = wrTo aw L T ds k := by
  rw [wrTo, hc, ht]
  show putD _ _ _ _ = _
  unfold putD
  rw [hi, Int.toNat_natCast, he]
  simp only [hh, Bool.false_eq_true, if_false]
end
/-- The devices that did not take a column, as far as k. -/
def failF (L : List Col) (hs : Nat → Bool) (k : Nat) : Int → Option Value := fun j => if (L.take k).any (fun c => c.1 == j && !hs c.1.toNat) then some (.bool true) else none
theorem failF_zero (L : List Col) (hs : Nat → Bool) : failF L hs 0 = fun _ => none := by
  funext j
  simp [failF]
theorem fail_any {L : List Col} {hs : Nat → Bool} {k : Nat} {c : Col} (hc : L[k]? = some c) (j : Int) : ((L.take (k + 1)).any fun c => c.1 == j && !hs c.1.toNat) = (((L.take k).any fun c => c.1 == j && !hs c.1.toNat) || (c.1 == j && !hs c.1.toNat)) := by
  rw [List.take_add_one, hc, List.any_append]
  simp
theorem failF_yes {L : List Col} {hs : Nat → Bool} {k : Nat} {c : Col} (hc : L[k]? = some c) (hh : hs c.1.toNat = false) : failF L hs (k + 1) = fun j => if j = c.1 then some (.bool true) else failF L hs k j := by
  funext j
  unfold failF
  rw [fail_any hc, hh]
  by_cases e : j = c.1
  · subst e; simp
  · have e2 : (c.1 == j) = false := by rw [beq_eq_false_iff_ne]; exact fun h => e h.symm
    rw [e2, if_neg e, Bool.false_and, Bool.or_false]
theorem failF_no {L : List Col} {hs : Nat → Bool} {k : Nat} {c : Col} (hc : L[k]? = some c) (hh : hs c.1.toNat = true) : failF L hs (k + 1) = failF L hs k := by
  funext j
  unfold failF
  rw [fail_any hc, hh, Bool.not_true, Bool.and_false, Bool.or_false]
def failL (L : List Col) (hs : Nat → Bool) (n : Nat) : List Nat := (List.range n).filter fun d => (L.any fun c => c.1 == (d : Int)) && !hs d
def failN (L : List Col) (hs : Nat → Bool) (n : Nat) : Nat := (failL L hs n).length
theorem failF_keys {L : List Col} {hs : Nat → Bool} {n : Nat} (hin : ∀ c ∈ L, 0 ≤ c.1 ∧ c.1 < n) : ((failL L hs n).map fun (d : Nat) => (d : Int)).Nodup ∧ ∀ x, x ∈ ((failL L hs n).map fun (d : Nat) => (d : Int)) ↔ (failF L hs L.length x).isSome = true := by
  refine ⟨?_, fun x => ?_⟩
  · exact List.pairwise_map.2 (((List.nodup_range).filter _).imp (fun h e => h (by omega)))
  · unfold failF failL
    rw [List.take_length]
    constructor
    · intro hx
      obtain ⟨d, hd, rfl⟩ := List.mem_map.1 hx
      obtain ⟨_, h2⟩ := List.mem_filter.1 hd
      simp only [Bool.and_eq_true, List.any_eq_true, beq_iff_eq] at h2
      obtain ⟨⟨c, hc, e⟩, h3⟩ := h2
      rw [if_pos]
      · rfl
      · rw [List.any_eq_true]
        exact ⟨c, hc, by rw [e, Int.toNat_natCast, h3]; simp⟩
    · intro hx
      split at hx
      · rename_i h
        obtain ⟨c, hc, h2⟩ := List.any_eq_true.1 h
        simp only [Bool.and_eq_true, beq_iff_eq] at h2
        obtain ⟨e, h3⟩ := h2
        obtain ⟨h4, h5⟩ := hin c hc
        refine List.mem_map.2 ⟨c.1.toNat, List.mem_filter.2 ⟨List.mem_range.2 (by omega), ?_⟩, by omega⟩
        rw [h3, Bool.and_true, List.any_eq_true]
        exact ⟨c, hc, by rw [beq_iff_eq]; omega⟩
      · cases hx
end Go.Proofs.YtbhkbcpljakmjaaGreat

namespace Go.Proofs.YtbhkbcpljakmjaaGreat
set_option linter.unusedVariables false
set_option linter.unusedSimpArgs false

theorem par_data : ∀ w ∈ List.range 9, ∀ s ∈ List.range 5, 3 ≤ w → 0 < s → (((parTo 0 w 0 s).map (·.2.2)).all fun c => !c.1 || ((parTo 0 w 0 s).map (·.2.2)).any fun c' => !c'.1 && c'.2 == c.2) = true := by decide +kernel
theorem mir_data : ∀ w ∈ List.range 9, ∀ s ∈ List.range 5, 0 < w → 0 < s → (((mirror 0 0 w s).map (·.2.2)).all fun c => !c.1 || ((mirror 0 0 w s).map (·.2.2)).any fun c' => !c'.1 && c'.2 == c.2) = true := by decide +kernel
theorem data_shape {gs : List (Int × Int)} {secs pg pa size : Int} (h : cMay gs secs pg pa size = true) {c : Col} (hc : c ∈ colsOf gs secs pg pa size) (hp : c.2.2.1 = true) : ∃ e ∈ colsOf gs secs pg pa size, e.2.2.1 = false ∧ e.2.2.2 = c.2.2.2 := by
  have key : (((colsOf gs secs pg pa size).map (·.2.2)).all fun c => !c.1 || ((colsOf gs secs pg pa size).map (·.2.2)).any fun c' => !c'.1 && c'.2 == c.2) = true := by
    obtain ⟨hhas, hz1, hz2, hp1, hp2, _⟩ := cMay_true h
    obtain ⟨sz, rfl⟩ := Int.eq_ofNat_of_zero_le (show 0 ≤ size by omega)
    obtain ⟨g, x, rfl, hk, hl4, hs1, hs2, hx, hgx, ho⟩ := gHas_true hhas
    obtain ⟨kd, wd⟩ := x
    have ho' := gOne_true ho
    simp only at ho'
    obtain ⟨w, rfl⟩ := Int.eq_ofNat_of_zero_le (show 0 ≤ wd by omega)
    rcases ho' with ⟨rfl, h1, h2⟩ | ⟨rfl, h1, h2⟩
    · have : colsOf gs secs g pa sz = mirror (gFirst gs secs g) pa w sz := by unfold colsOf; rw [hgx]; rfl
      rw [this, mirror_shape]
      exact mir_data w (by simp; omega) sz (by simp; omega) (by omega) (by omega)
    · have : colsOf gs secs g pa sz = parTo (gFirst gs secs g) w pa sz := by unfold colsOf; rw [hgx]; rfl
      rw [this, parTo_shape]
      exact par_data w (by simp; omega) sz (by simp; omega) (by omega) (by omega)
  have h1 := List.all_eq_true.1 key c.2.2 (List.mem_map.2 ⟨c, hc, rfl⟩)
  rw [hp, Bool.not_true, Bool.false_or, List.any_eq_true] at h1
  obtain ⟨y, hy, h2⟩ := h1
  obtain ⟨e, he, rfl⟩ := List.mem_map.1 hy
  simp only [Bool.and_eq_true, Bool.not_eq_true', beq_iff_eq] at h2
  exact ⟨e, he, h2⟩
theorem mem_rowIx {L : List Col} {no : Int} {i : Nat} {c : Col} (h : L[i]? = some c) (h1 : c.2.2.2 = no) (h2 : c.2.2.1 = false) : i ∈ rowIx L no := by
  unfold rowIx
  refine List.mem_filter.2 ⟨List.mem_range.2 (List.getElem?_eq_some_iff.1 h).1, ?_⟩
  simp [h, h1, h2]
theorem even_all {l : List (List UInt8)} {n : Nat} (hne : l ≠ []) (h : ∀ x ∈ l, x.length = n) : (makeS l).length = n := by
  have hh : (l.headD []).length = n := by
    cases l with
    | nil => exact absurd rfl hne
    | cons a r => exact h a List.mem_cons_self
  have he : evenB l = true := by
    unfold evenB
    rw [List.all_eq_true]
    intro x hx
    rw [h x hx, hh]
    exact beq_self_eq_true _
  unfold makeS
  rw [if_pos ⟨hne, he⟩, parN_len (fun x hx => by rw [h x hx, hh]), hh]
theorem outD_64 {L : List Col} {data : List (List UInt8)} (h0 : 0 < data.length) (h : ∀ x ∈ data, x.length = 64) {i : Nat} {c : Col} (hc : L[i]? = some c) (hp : c.2.2.1 = false) : (outD L data i).length = 64 := by
  rw [outD_data hc hp, List.getD_eq_getElem?_getD]
  have hlt : dataCnt L i % data.length < data.length := Nat.mod_lt _ h0
  rw [List.getElem?_eq_getElem hlt]
  exact h _ (List.getElem_mem hlt)
theorem encL_64 {gs : List (Int × Int)} {secs pg pa : Int} {s : List UInt8} (h : cMay gs secs pg pa (secN s) = true) : ∀ t ∈ encL gs secs pg pa s, t.length = 64 := by
  have h0 : 0 < (secsL s).length := by
    rw [secsL_len]
    have := (cMay_true h).2.1
    omega
  have h64 : ∀ x ∈ secsL s, x.length = 64 := fun x hx => by
    obtain ⟨i, hi⟩ := List.mem_iff_getElem?.1 hx
    have hil : i < secN s := by have := (List.getElem?_eq_some_iff.1 hi).1; rwa [secsL_len] at this
    rw [secsL_at hil] at hi
    cases hi
    exact secAt_len hil
  intro t ht
  unfold encL at ht
  rw [show ofList gs secs pg pa (secN s) = colsOf gs secs pg pa (secN s) by unfold ofList; rw [if_pos h]] at ht
  obtain ⟨i, hi, rfl⟩ := List.mem_map.1 ht
  have hi := List.mem_range.1 hi
  have hc := List.getElem?_eq_getElem hi
  obtain ⟨c, hcc⟩ : ∃ c, (colsOf gs secs pg pa (secN s))[i]? = some c := ⟨_, hc⟩
  cases hp : c.2.2.1 with
  | false => rw [outE_data hcc hp]; exact outD_64 h0 h64 hcc hp
  | true =>
    rw [outE_par hcc hp]
    obtain ⟨e, he, h1, h2⟩ := data_shape h (List.mem_of_getElem? hcc) hp
    obtain ⟨j, hj⟩ := List.mem_iff_getElem?.1 he
    refine even_all (fun hn => ?_) (fun x hx => ?_)
    · have := mem_rowIx hj h2 h1
      rw [List.map_eq_nil_iff] at hn
      rw [hn] at this
      cases this
    · obtain ⟨q, hq, rfl⟩ := List.mem_map.1 hx
      obtain ⟨f, hf, _, hff⟩ := rowIx_spec hq
      exact outD_64 h0 h64 hf hff
theorem encL_len (gs : List (Int × Int)) (secs pg pa : Int) (s : List UInt8) : (encL gs secs pg pa s).length = (ofList gs secs pg pa (secN s)).length := by
  unfold encL
  rw [List.length_map, List.length_range]
/-- A block can be written. -/
theorem encE_zero {gs : List (Int × Int)} {secs pg pa : Int} {s : List UInt8} (h : encE gs secs pg pa s = 0) : secOk s = true ∧ cMay gs secs pg pa (secN s) = true ∧ encS gs secs pg pa s = encL gs secs pg pa s := by
  unfold encE at h
  cases hs : secOk s with
  | false => rw [hs] at h; simp at h
  | true =>
    rw [hs] at h
    simp only [if_true] at h
    refine ⟨rfl, ?_, by unfold encS; rw [hs, h]; rfl⟩
    unfold ofErr at h
    split at h
    · assumption
    · cases h
theorem encE_one {gs : List (Int × Int)} {secs pg pa : Int} {s : List UInt8} (h : encE gs secs pg pa s ≠ 0) : encE gs secs pg pa s = 1 := by
  unfold encE at *
  split
  · rename_i hs
    rw [if_pos hs] at h
    unfold ofErr at *
    split
    · rename_i h1; rw [if_pos h1] at h; exact absurd rfl h
    · rfl
  · rfl
end Go.Proofs.YtbhkbcpljakmjaaGreat

namespace Go.Proofs.YtbhkbcpljakmjaaGreat
set_option linter.unusedVariables false
set_option linter.unusedSimpArgs false

/-- What a write answers, and does. -/
def lostB (x : Int × Int) (n : Nat) : Bool := (x.1 == 0 && (n : Int) == x.2) || (x.1 == 1 && decide ((1 : Int) < n))
def wN (gs : List (Int × Int)) (secs pg pa : Int) (s : List UInt8) (hs : Nat → Bool) (n : Nat) : Nat := if encE gs secs pg pa s = 0 then failN (ofList gs secs pg pa (secN s)) hs n else 0
def wE (gs : List (Int × Int)) (secs pg pa : Int) (s : List UInt8) (hs : Nat → Bool) (n : Nat) : Int := if encE gs secs pg pa s = 0 then (if lostB (grAt gs pg) (failN (ofList gs secs pg pa (secN s)) hs n) then 6 else 0) else 1
def wD (gs : List (Int × Int)) (secs pg pa : Int) (s : List UInt8) (aw : List Bool) (ds : List DevD) : List DevD := if encE gs secs pg pa s = 0 then wrTo aw (ofList gs secs pg pa (secN s)) (encL gs secs pg pa s) ds (ofList gs secs pg pa (secN s)).length else ds
end Go.Proofs.YtbhkbcpljakmjaaGreat
