/-
  A device in memory; contracts of package dev: Lost, Secs, may, burnt, now, Read.
-/
import Derived.Test.YtkaijdnaheikeaaRows
import Derived.Test.YtkaijdnaheikeaaStr
import Derived.Test.YtkaijdnaheikeaaOnly
import Derived.Test.YtkaijdnaheikeaaDevM
namespace Go.Proofs.Ytkaijdnaheikeaa
set_option linter.unusedVariables false
set_option linter.unusedSimpArgs false
open Go.RowKit

/-- A device's blocks: the struct's, the medium's, the cache's, a row for each key. -/
structure DevIn (w : World) (S : Nat → Prop) (bd : Nat) (d : DevD) (mb mcap cb : Nat) (g : Int → Option Value) : Prop where
  box : Blk w bd 53 #[.slice (some ⟨mb, 0, none⟩) d.med.length mcap, .map (some cb), .bool d.lost, .int .i64 d.fuse]
  med : w.ownsRow 0 9 1 (.slice (some ⟨mb, 0, none⟩) d.med.length mcap) d.med.length (d.med.map str)
  map : MapAt Try.prog 3 w cb d.med.length g
  keys : ∀ k, (g k).isSome = true → 0 ≤ k ∧ k < d.med.length
  none_ : ∀ k : Nat, g k = none → d.cac k = []
  rows : ∀ (k : Nat) v, g k = some v → d.cac k ≠ [] ∧ w.ownsRow 0 9 1 v (d.cac k).length ((d.cac k).map str)
  apart : ∀ k v, g k = some v → v.ownBlock ≠ some mb ∧ ∀ b, v.ownBlock = some b → S b
  apart2 : ∀ j k v u, g j = some v → g k = some u → v.ownBlock = u.ownBlock → j = k
  sd : S bd
  sm : S mb
  sc : S cb
  lt : ∀ i, S i → i < w.heap.size
def DevAt (w : World) (S : Nat → Prop) (bd : Nat) (d : DevD) : Prop := ∃ mb mcap cb g, DevIn w S bd d mb mcap cb g

section
variable {w w' : World} {S T : Nat → Prop} {bd mb mcap cb : Nat} {d : DevD} {g : Int → Option Value}
theorem DevIn.same (h : DevIn w S bd d mb mcap cb g) (hs : w.heap.size ≤ w'.heap.size) (hb : ∀ i, S i → w'.heap[i]? = w.heap[i]?) : DevIn w' S bd d mb mcap cb g :=
  ⟨(hb bd h.sd).trans h.box, ownsRow_same h.med (fun b e => by cases e; exact hb mb h.sm), h.map.same (hb cb h.sc), h.keys, h.none_, fun k v e => ⟨(h.rows k v e).1, ownsRow_same (h.rows k v e).2 (fun b eb => hb b ((h.apart _ v e).2 b eb))⟩,
    h.apart, h.apart2, h.sd, h.sm, h.sc, fun i hi => Nat.lt_of_lt_of_le (h.lt i hi) hs⟩
theorem DevIn.mono (h : DevIn w S bd d mb mcap cb g) (hT : ∀ i, S i → T i) (hl : ∀ i, T i → i < w.heap.size) : DevIn w T bd d mb mcap cb g :=
  ⟨h.box, h.med, h.map, h.keys, h.none_, h.rows, fun k v e => ⟨(h.apart k v e).1, fun b eb => hT b ((h.apart k v e).2 b eb)⟩, h.apart2, hT _ h.sd, hT _ h.sm, hT _ h.sc, hl⟩
theorem DevAt.lt (h : DevAt w S bd d) : bd < w.heap.size := by
  obtain ⟨mb, mcap, cb, g, h⟩ := h
  exact h.lt bd h.sd
theorem DevAt.lts (h : DevAt w S bd d) : ∀ i, S i → i < w.heap.size := by
  obtain ⟨mb, mcap, cb, g, h⟩ := h
  exact h.lt
theorem DevAt.only (h : DevAt w S bd d) (ho : Only T w w') (hd : ∀ i, S i → ¬ T i) : DevAt w' S bd d := by
  obtain ⟨mb, mcap, cb, g, h⟩ := h
  exact ⟨mb, mcap, cb, g, h.same ho.size (fun i hi => ho.block i (h.lt i hi) (hd i hi))⟩
theorem DevAt.below (h : DevAt w S bd d) (hb : Below w.heap.size w w') : DevAt w' S bd d := h.only (Only.of_below (S := fun _ => False) hb) (fun _ _ h => h)
theorem DevAt.drew (h : DevAt w S bd d) : DevAt w.drew S bd d := h.only (Only.refl (fun _ => False) _).drew (fun _ _ h => h)
theorem DevAt.drewN (h : DevAt w S bd d) (n : Nat) : DevAt (w.drewN n) S bd d := h.only ((Only.refl (fun _ => False) _).drewN n) (fun _ _ h => h)
theorem DevAt.alloc (h : DevAt w S bd d) (o : Obj) : DevAt (w.alloc o) S bd d := h.below ((Below.refl _ _).alloc (Nat.le_refl _) o)
theorem DevAt.mono (h : DevAt w S bd d) (hT : ∀ i, S i → T i) (hl : ∀ i, T i → i < w.heap.size) : DevAt w T bd d := by
  obtain ⟨mb, mcap, cb, g, h⟩ := h
  exact ⟨mb, mcap, cb, g, h.mono hT hl⟩
theorem DevAt.more {w0 : World} (h : DevAt w S bd d) (h0 : w0.heap.size ≤ w.heap.size) (hS : ∀ i, S i → i < w0.heap.size) : DevAt w (Go.Proofs.Ytkaijdnaheikeaa.more S w0 w) bd d := h.mono (fun _ hi => .inl hi) (fun i hi => by
  rcases hi with hi | hi
  · exact Nat.lt_of_lt_of_le (hS i hi) h0
  · exact hi.2)
/-- The cells that the walks read. -/
theorem DevIn.cells (h : DevIn w S bd d mb mcap cb g) : w.cell? ⟨bd, 0, none⟩ = some (.slice (some ⟨mb, 0, none⟩) d.med.length mcap) ∧ w.cell? ⟨bd, 1, none⟩ = some (.map (some cb)) ∧ w.cell? ⟨bd, 2, none⟩ = some (.bool d.lost) ∧ w.cell? ⟨bd, 3, none⟩ = some (.int .i64 d.fuse) :=
  ⟨h.box.at_ rfl, h.box.at_ rfl, h.box.at_ rfl, h.box.at_ rfl⟩
theorem DevIn.med_at (h : DevIn w S bd d mb mcap cb g) {k : Nat} (hk : k < d.med.length) : w.cell? ⟨mb, k, none⟩ = some (str (d.medAt k)) ∧ w.frozen? ⟨mb, k, none⟩ = false :=
  ownsRow_cell h.med (by rw [List.getElem?_map, List.getElem?_eq_getElem hk]; simp [DevD.medAt, List.getD_eq_getElem?_getD, List.getElem?_eq_getElem hk])
/-- The fuse is set. -/
theorem DevIn.set3 (h : DevIn w S bd d mb mcap cb g) (f : Int) : DevIn (w.setCell ⟨bd, 3, none⟩ (.int .i64 f)) S bd { d with fuse := f } mb mcap cb g := by
  have hne : ∀ i, i ≠ bd → (w.setCell ⟨bd, 3, none⟩ (.int .i64 f)).heap[i]? = w.heap[i]? := fun i hi => Below.heap_setCell w _ _ i hi
  have hmb : mb ≠ bd := by
    rintro rfl
    have h1 := h.box
    rcases h.med.2 with ⟨hn, _⟩ | ⟨g', cap, cur, hv, _, h2, _⟩
    · cases hn
    · cases hv
      unfold Blk at h1
      rw [h1] at h2
      injection h2 with h2; injection h2 with _ h2; exact absurd h2 (by decide)
  have hcb : cb ≠ bd := by
    rintro rfl
    have h1 := h.box
    obtain ⟨D, ⟨es, c, h2, _⟩, _⟩ := h.map
    unfold Blk at h1
    rw [h1] at h2; cases h2
  have hrow : ∀ k v, g k = some v → ∀ b, v.ownBlock = some b → b ≠ bd := by
    intro k v e b eb
    have hk := h.keys k (by rw [e]; rfl)
    obtain ⟨n, rfl⟩ := Int.eq_ofNat_of_zero_le hk.1
    rintro rfl
    have h1 := h.box
    rcases (h.rows n v e).2.2 with ⟨rfl, _⟩ | ⟨g', cap, cur, rfl, _, h2, _⟩
    · cases eb
    · cases eb
      unfold Blk at h1
      rw [h1] at h2
      injection h2 with h2; injection h2 with _ h2; exact absurd h2 (by decide)
  refine ⟨h.box.put 3 (.int .i64 f), ownsRow_same h.med (fun b e => by cases e; exact hne mb hmb), h.map.same (hne cb hcb), h.keys, h.none_, fun k v e => ⟨(h.rows k v e).1, ownsRow_same (h.rows k v e).2 (fun b eb => hne b (hrow _ v e b eb))⟩,
    h.apart, h.apart2, h.sd, h.sm, h.sc, fun i hi => by simpa [World.setCell] using h.lt i hi⟩
end

theorem zero_strs (w : World) : (zeroValue 49).run Try.prog w = .ok (.slice none 0 0) w := by kernel_rfl

theorem lost_any {w : World} {S : Nat → Prop} {bd : Nat} {d : DevD} (h : DevAt w S bd d) : Calls Try.prog 22 #[.pointer (some ⟨bd, 0, none⟩)] w fun e w' => e = .returned (.bool d.lost) ∧ w = w' := by
  obtain ⟨mb, mcap, cb, g, h⟩ := h
  obtain ⟨c0, c1, c2, c3⟩ := h.cells
  go_enter Try.func22, Try.ntmps22
  go_wp2_with fail
  go_ret
  exact ⟨rfl, rfl⟩
theorem lost_nil (w : World) : Calls Try.prog 22 #[.pointer none] w fun e w' => e = .returned (.bool true) ∧ w = w' := by
  go_enter Try.func22, Try.ntmps22
  go_wp2_with fail
  go_ret
  exact ⟨rfl, rfl⟩
theorem secs_any {w : World} {S : Nat → Prop} {bd : Nat} {d : DevD} (h : DevAt w S bd d) : Calls Try.prog 23 #[.pointer (some ⟨bd, 0, none⟩)] w fun e w' => e = .returned (.int .i64 d.med.length) ∧ w = w' := by
  obtain ⟨mb, mcap, cb, g, h⟩ := h
  obtain ⟨c0, c1, c2, c3⟩ := h.cells
  go_enter Try.func23, Try.ntmps23
  go_wp2_with fail
  go_ret
  exact ⟨rfl, rfl⟩
theorem may_any {w : World} {S : Nat → Prop} {bd : Nat} {d : DevD} (h : DevAt w S bd d) (a : Int) (hl : d.med.length ≤ 4096) : Calls Try.prog 25 #[.pointer (some ⟨bd, 0, none⟩), .int .i64 a] w fun e w' => e = .returned (.int .i64 (d.mayE a)) ∧ w = w' := by
  have HE : Hid (d.mayE a = if d.lost then 6 else if a < 0 ∨ (d.med.length : Int) ≤ a then 5 else 0) := Lib.hid rfl
  have HLo := Lib.hid (fun W : Unit => lost_any h)
  obtain ⟨mb, mcap, cb, g, h⟩ := h
  obtain ⟨c0, c1, c2, c3⟩ := h.cells
  cases hlo : d.lost with
  | true =>
    rw [hlo] at HE HLo
    clear hlo c2
    go_enter Try.func25, Try.ntmps25
    go_wp2_with fail
    refine (HLo.out ()).mono ?_
    rintro e w1 ⟨rfl, rfl⟩
    go_wp2_with fail
    go_ret
    exact ⟨ret_int (by rw [HE.out]; rfl), rfl⟩
  | false =>
    rw [hlo] at HE HLo
    clear hlo c2
    by_cases h1 : a < 0
    · go_enter Try.func25, Try.ntmps25
      go_wp2_with fail
      refine (HLo.out ()).mono ?_
      rintro e w1 ⟨rfl, rfl⟩
      go_wp2_with fail
      go_ret
      exact ⟨ret_int (by rw [HE.out, if_neg (by simp), if_pos (by omega)]), rfl⟩
    · by_cases h2 : (d.med.length : Int) ≤ a
      · go_enter Try.func25, Try.ntmps25
        go_wp2_with fail
        refine (HLo.out ()).mono ?_
        rintro e w1 ⟨rfl, rfl⟩
        go_wp2_with fail
        go_ret
        exact ⟨ret_int (by rw [HE.out, if_neg (by simp), if_pos (by omega)]), rfl⟩
      · go_enter Try.func25, Try.ntmps25
        go_wp2_with fail
        refine (HLo.out ()).mono ?_
        rintro e w1 ⟨rfl, rfl⟩
        go_wp2_with fail
        go_ret
        exact ⟨ret_int (by rw [HE.out, if_neg (by simp), if_neg (by omega)]), rfl⟩
theorem may_nil (a : Int) (w : World) : Calls Try.prog 25 #[.pointer none, .int .i64 a] w fun e w' => e = .returned (.int .i64 6) ∧ w = w' := by
  go_enter Try.func25, Try.ntmps25
  go_wp2_with fail
  refine (lost_nil _).mono ?_
  rintro e w1 ⟨rfl, rfl⟩
  go_wp2_with fail
  go_ret
  exact ⟨rfl, rfl⟩

theorem burnt_yes {w : World} {S : Nat → Prop} {bd : Nat} {d : DevD} (h : DevAt w S bd d) (hf : d.fuse = 0) : Calls Try.prog 26 #[.pointer (some ⟨bd, 0, none⟩)] w fun e w' => e = .returned (.bool true) ∧ w = w' := by
  obtain ⟨mb, mcap, cb, g, h⟩ := h
  obtain ⟨c0, c1, c2, c3⟩ := h.cells
  rw [hf] at c3
  clear hf
  go_enter Try.func26, Try.ntmps26
  go_wp2_with fail
  go_ret
  exact ⟨rfl, rfl⟩
theorem burnt_no {w : World} {S : Nat → Prop} {bd : Nat} {d : DevD} (h : DevAt w S bd d) (hf : d.fuse ≠ 0) (f1 : -1 ≤ d.fuse) (f2 : d.fuse ≤ 9223372036854775807) :
    Calls Try.prog 26 #[.pointer (some ⟨bd, 0, none⟩)] w fun e w' => e = .returned (.bool false) ∧ DevAt w' S bd d.burn ∧ Only S w w' ∧ w'.heap.size = w.heap.size := by
  obtain ⟨mb, mcap, cb, g, h⟩ := h
  obtain ⟨c0, c1, c2, c3⟩ := h.cells
  have hz : w.frozen? ⟨bd, 3, none⟩ = false := h.box.fr 3
  have H := Lib.hid (h.set3 (max (d.fuse - 1) (-1)))
  have HO : Hid (Only S w (w.setCell ⟨bd, 3, none⟩ (.int .i64 (max (d.fuse - 1) (-1))))) := Lib.hid ((Only.refl S w).set (.inl h.sd) _)
  have hd : d.burn = { d with fuse := max (d.fuse - 1) (-1) } := rfl
  rw [hd]
  clear hd
  generalize d.fuse = f at *
  by_cases hm : f - 1 < -1
  · have hmx : max (f - 1) (-1) = -1 := by omega
    rw [hmx] at H HO ⊢
    have HF := Lib.hid hf
    obtain rfl : f = -1 := by omega
    clear hmx hm hf f1 f2
    go_enter Try.func26, Try.ntmps26
    go_wp2_with fail
    go_ret
    exact ⟨rfl, ⟨mb, mcap, cb, g, H.out⟩, HO.out, by simp [World.setCell]⟩
  · have hmx : max (f - 1) (-1) = f - 1 := by omega
    rw [hmx] at H HO ⊢
    have hne : (f == 0) = false := by simpa using hf
    have hdc : decide (f - 1 < -1) = false := by simpa using hm
    clear hmx
    go_enter Try.func26, Try.ntmps26
    go_wp2_with fail
    go_ret
    exact ⟨rfl, ⟨mb, mcap, cb, g, H.out⟩, HO.out, by simp [World.setCell]⟩

theorem now_any {w : World} {S : Nat → Prop} {bd : Nat} {d : DevD} (h : DevAt w S bd d) (k : Nat) (hk : k < d.med.length) (hl : d.med.length ≤ 4096) :
    Calls Try.prog 27 #[.pointer (some ⟨bd, 0, none⟩), .int .i64 k] w fun e w' => e = .returned (str (d.now k)) ∧ w = w' := by
  obtain ⟨mb, mcap, cb, g, h⟩ := h
  obtain ⟨c0, c1, c2, c3⟩ := h.cells
  have hlk := h.map.look (k := k) (t := 51) Try.underlying3 Try.underlying51 (zero_strs w) (wfz_in (by omega) (by omega))
  have HN : Hid (d.now k = lastOr (d.cac k) (d.medAt k)) := Lib.hid rfl
  obtain ⟨cm, _⟩ := h.med_at hk
  cases hg : g k with
  | none =>
    have HC := Lib.hid (h.none_ k hg)
    rw [hg] at hlk
    simp only [Option.getD_none] at hlk
    clear hg
    go_enter Try.func27, Try.ntmps27
    go_wp2_with fail
    go_ret
    exact ⟨ret_str (by rw [HN.out, HC.out]; rfl), rfl⟩
  | some v =>
    obtain ⟨hc, hr⟩ := h.rows k v hg
    rw [hg] at hlk
    simp only [Option.getD_some] at hlk
    have hpos : 0 < (d.cac k).length := List.length_pos_iff.2 hc
    rcases hr.2 with ⟨_, h0⟩ | ⟨b, cap, cur, rfl, _, hb, hle, hcm, _⟩
    · omega
    have hlast : d.now k = (d.cac k)[(d.cac k).length - 1] := by
      rw [HN.out, lastOr, List.getLast?_eq_getElem?, List.getElem?_eq_getElem (by omega)]; rfl
    obtain ⟨cl, _⟩ := ownsRow_cell hr (j := (d.cac k).length - 1) (u := str (d.now k)) (by rw [List.getElem?_map, List.getElem?_eq_getElem (by omega), hlast]; rfl)
    have hm : (d.cac k).length ≤ 9223372036854775807 := by unfold maxLen at hcm; omega
    clear hg hc hr HN hlast
    generalize (d.cac k).length = n at *
    obtain ⟨m, rfl⟩ : ∃ m, n = m + 1 := ⟨n - 1, by omega⟩
    rw [Nat.add_sub_cancel] at cl
    generalize d.now k = s at *
    go_enter Try.func27, Try.ntmps27
    go_wp2_with fail
    go_ret
    exact ⟨rfl, rfl⟩

theorem read_any {w : World} {S : Nat → Prop} {bd : Nat} {d : DevD} (h : DevAt w S bd d) (a : Int) (hl : d.med.length ≤ 4096) :
    Calls Try.prog 15 #[.pointer (some ⟨bd, 0, none⟩), .int .i64 a] w fun e w' => e = .returned (.tuple #[str (d.rdS a), .int .i64 (d.mayE a)]) ∧ w = w' := by
  have HM := Lib.hid (may_any h a hl)
  have HE : Hid (d.rdS a = if d.mayE a = 0 then d.now a.toNat else []) := Lib.hid rfl
  by_cases h0 : d.mayE a = 0
  · have hr := DevD.mayE_ok h0
    obtain ⟨k, rfl⟩ := Int.eq_ofNat_of_zero_le hr.1
    have HN := Lib.hid (now_any h k (by omega) hl)
    rw [h0] at HM ⊢
    have he : d.rdS k = d.now k := by rw [HE.out, if_pos h0]; rfl
    rw [he]
    clear h0 hr he
    go_enter Try.func15, Try.ntmps15
    go_wp2_with fail
    refine HM.out.mono ?_
    rintro e w1 ⟨rfl, rfl⟩
    go_wp2_with fail
    refine HN.out.mono ?_
    rintro e w1 ⟨rfl, rfl⟩
    go_wp2_with fail
    go_ret2
    exact ⟨rfl, rfl⟩
  · have hne : (d.mayE a != 0) = true := by simpa using h0
    have he : d.rdS a = [] := by rw [HE.out, if_neg h0]
    rw [he]
    clear h0 he
    generalize d.mayE a = E at *
    go_enter Try.func15, Try.ntmps15
    go_wp2_with fail
    refine HM.out.mono ?_
    rintro e w1 ⟨rfl, rfl⟩
    go_wp2_with fail
    go_ret2
    exact ⟨rfl, rfl⟩
theorem read_nil (a : Int) (w : World) : Calls Try.prog 15 #[.pointer none, .int .i64 a] w fun e w' => e = .returned (.tuple #[str [], .int .i64 6]) ∧ w = w' := by
  go_enter Try.func15, Try.ntmps15
  go_wp2_with fail
  refine (may_nil a _).mono ?_
  rintro e w1 ⟨rfl, rfl⟩
  go_wp2_with fail
  go_ret2
  exact ⟨rfl, rfl⟩
end Go.Proofs.Ytkaijdnaheikeaa
