/-
  Arguments that are slices of bytes, of numbers, of acts, opened.
-/
import Derived.Test.YtkaijdnaheikeaaLawF
import Derived.Test.YtkaijdnaheikeaaLawU
import Derived.Test.YtkaijdnaheikeaaDevW
namespace Go.Proofs.Ytkaijdnaheikeaa
set_option linter.unusedVariables false
set_option linter.unusedSimpArgs false
open Go.ChangeShapes Go.WideShapes Go.ChangeAt Go.RowKit Go.Deep Go.Joins

/-- A slice of bytes. -/
def ByteArg (w : World) (v : Value) (l : List UInt8) : Prop :=
  ∃ A c, v = .slice A l.length c ∧ l.length ≤ 9223372036854775807 ∧ (0 < l.length → ∃ b o, A = some ⟨b, o, none⟩ ∧ b < w.heap.size ∧ ∀ i u, l[i]? = some u → w.cell? ⟨b, o + i, none⟩ = some (.int .u8 u.toNat))
/-- A slice of numbers. -/
def IntArg (w : World) (v : Value) (l : List Int) : Prop :=
  ∃ A c, v = .slice A l.length c ∧ i64s l ∧ (0 < l.length → ∃ b o, A = some ⟨b, o, none⟩ ∧ b < w.heap.size ∧ ∀ i x, l[i]? = some x → w.cell? ⟨b, o + i, none⟩ = some (.int .i64 x))
theorem IntArg.keep {w w' : World} {v : Value} {l : List Int} (h : IntArg w v l) (hb : Below w.heap.size w w') (hl : l.length ≤ 1000000) : KeepAt w' (fun i => w.heap.size ≤ i) v l := by
  obtain ⟨A, c, h1, h2, h3⟩ := h
  refine ⟨A, c, h1, h2, hl, fun hp => ?_⟩
  obtain ⟨b, o, e1, e2, e3⟩ := h3 hp
  exact ⟨b, o, e1, by omega, Nat.lt_of_lt_of_le e2 hb.size, fun i x hx => (cell_same (hb.block b e2)).trans (e3 i x hx)⟩

theorem open_bytes {H : Type} {enc : TypeId × Value → H} {w : World} {base b0 : Nat} {held : Bool} {v : Value} {d : DataW H} {p : List MemPlace} (hv : Value.okWide Try.prog w .any b0 40 v)
    (h : DataW.Trod enc Try.prog w base (fun _ => true) held 40 v d p) : ∃ l, ByteArg w v l := by
  obtain ⟨a0, len, cap, rfl⟩ := okWide_slice Try.underlying40 hv
  obtain ⟨fuel, hf⟩ := h
  rcases open_ints Try.underlying40 Try.underlying5 (by kernel_rfl) hf with ⟨hcs, hx⟩ | ⟨a, len', cap', zs, hcs, _, hl, hm, hz, hx, hcell, hwz⟩
  · simp [Value.cells] at hcs
    obtain ⟨rfl, rfl, rfl⟩ := hcs
    exact ⟨[], none, 0, rfl, by simp, fun h => by simp at h⟩
  · simp [Value.cells] at hcs
    obtain ⟨rfl, rfl, rfl⟩ := hcs
    simp only [if_true] at hz
    unfold maxLen at hm
    have hlen : ((zs.take len).map fun z => UInt8.ofNat z.toNat).length = len := by simp; omega
    refine ⟨(zs.take len).map fun z => UInt8.ofNat z.toNat, some a, cap, by rw [hlen], by rw [hlen]; omega, fun hp => ?_⟩
    rw [hlen] at hp
    obtain ⟨b, off, spot⟩ := a
    have h0 := hcell 0 (by omega)
    have hspot : spot = none := by simpa [Addr.add] using World.cell?_spot (by simpa [Addr.add] using h0)
    subst hspot
    refine ⟨b, off, rfl, World.block_lt_of_cell? w _ (by simpa [Addr.add] using h0 : w.cell? ⟨b, off, none⟩ = _), fun j u hu => ?_⟩
    have hj : j < len := by have := (List.getElem?_eq_some_iff.1 hu).1; omega
    have h1 := hcell j (by omega)
    rw [WideShapes.add_plain] at h1
    have hz2 : zs[j]? = some (zs.getD j 0) := by rw [List.getD_eq_getElem?_getD, List.getElem?_eq_getElem (by omega : j < zs.length)]; rfl
    have hm2 : zs.getD j 0 ∈ zs := List.mem_of_getElem? hz2
    have hb := u8_bd (hwz _ hm2)
    rw [List.getElem?_map, List.getElem?_take, if_pos hj, hz2] at hu
    simp only [Option.map_some, Option.some.injEq] at hu
    rw [h1, ← hu, UInt8.toNat_ofNat', Nat.mod_eq_of_lt (by omega)]
    congr 2
    omega
theorem open_i64s {H : Type} {enc : TypeId × Value → H} {w : World} {base b0 : Nat} {held : Bool} {v : Value} {d : DataW H} {p : List MemPlace} (hv : Value.okWide Try.prog w .any b0 23 v)
    (h : DataW.Trod enc Try.prog w base (fun _ => true) held 23 v d p) : ∃ l, IntArg w v l := by
  obtain ⟨a0, len, cap, rfl⟩ := okWide_slice Try.underlying23 hv
  obtain ⟨fuel, hf⟩ := h
  rcases open_ints Try.underlying23 Try.underlying3 (by kernel_rfl) hf with ⟨hcs, hx⟩ | ⟨a, len', cap', zs, hcs, _, hl, hm, hz, hx, hcell, hwz⟩
  · simp [Value.cells] at hcs
    obtain ⟨rfl, rfl, rfl⟩ := hcs
    exact ⟨[], none, 0, rfl, fun x h => by simp at h, fun h => by simp at h⟩
  · simp [Value.cells] at hcs
    obtain ⟨rfl, rfl, rfl⟩ := hcs
    simp only [if_true] at hz
    have hlen : (zs.take len).length = len := by simp; omega
    refine ⟨zs.take len, some a, cap, by rw [hlen], fun x hx => i64_bd (hwz x (List.mem_of_mem_take hx)), fun hp => ?_⟩
    rw [hlen] at hp
    obtain ⟨b, off, spot⟩ := a
    have h0 := hcell 0 (by omega)
    have hspot : spot = none := by simpa [Addr.add] using World.cell?_spot (by simpa [Addr.add] using h0)
    subst hspot
    refine ⟨b, off, rfl, World.block_lt_of_cell? w _ (by simpa [Addr.add] using h0 : w.cell? ⟨b, off, none⟩ = _), fun j u hu => ?_⟩
    have hj : j < len := by have := (List.getElem?_eq_some_iff.1 hu).1; omega
    have h1 := hcell j (by omega)
    rw [WideShapes.add_plain] at h1
    have hz2 : zs[j]? = some (zs.getD j 0) := by rw [List.getD_eq_getElem?_getD, List.getElem?_eq_getElem (by omega : j < zs.length)]; rfl
    rw [List.getElem?_take, if_pos hj, hz2] at hu
    rw [h1]
    exact congrArg some (congrArg _ (Option.some.inj hu))

/-- An act: what, where, how many, what byte; how much is kept. -/
structure ActD where
  do_ : Nat
  at_ : Int
  n : Int
  fill : UInt8
  kl : Nat
/-- A slice of acts. -/
def ActArg (w : World) (v : Value) (l : List ActD) : Prop :=
  ∃ A c, v = .slice A l.length c ∧ l.length ≤ 9223372036854775807 ∧ (0 < l.length → ∃ b o, A = some ⟨b, o, none⟩ ∧ b < w.heap.size ∧ ∀ i x, l[i]? = some x →
    w.cell? ⟨b, o + i * 5, none⟩ = some (.int .u8 x.do_) ∧ w.cell? ⟨b, o + i * 5 + 1, none⟩ = some (.int .i64 x.at_) ∧ w.cell? ⟨b, o + i * 5 + 2, none⟩ = some (.int .i64 x.n) ∧ w.cell? ⟨b, o + i * 5 + 3, none⟩ = some (.int .u8 x.fill.toNat) ∧
    (∃ A' c', w.cell? ⟨b, o + i * 5 + 4, none⟩ = some (.slice A' x.kl c')) ∧ x.do_ ≤ 255 ∧ (-9223372036854775808 ≤ x.at_ ∧ x.at_ ≤ 9223372036854775807) ∧ (-9223372036854775808 ≤ x.n ∧ x.n ≤ 9223372036854775807) ∧ x.kl ≤ 9223372036854775807)
theorem ByteArg.below {w w' : World} {v : Value} {l : List UInt8} (h : ByteArg w v l) (hb : Below w.heap.size w w') : ByteArg w' v l := by
  obtain ⟨A, c, h1, h2, h3⟩ := h
  refine ⟨A, c, h1, h2, fun hp => ?_⟩
  obtain ⟨b, o, e1, e2, e3⟩ := h3 hp
  exact ⟨b, o, e1, Nat.lt_of_lt_of_le e2 hb.size, fun i x hx => (cell_same (hb.block b e2)).trans (e3 i x hx)⟩
theorem ActArg.below {w w' : World} {v : Value} {l : List ActD} (h : ActArg w v l) (hb : Below w.heap.size w w') : ActArg w' v l := by
  obtain ⟨A, c, h1, h2, h3⟩ := h
  refine ⟨A, c, h1, h2, fun hp => ?_⟩
  obtain ⟨b, o, e1, e2, e3⟩ := h3 hp
  have hs : ∀ j, w'.cell? ⟨b, j, none⟩ = w.cell? ⟨b, j, none⟩ := fun j => cell_same (hb.block b e2)
  refine ⟨b, o, e1, Nat.lt_of_lt_of_le e2 hb.size, fun i x hx => ?_⟩
  simp only [hs]
  exact e3 i x hx
theorem open_devacts {H : Type} {enc : TypeId × Value → H} {w : World} {base b0 : Nat} {spare : Nat → Bool} {held : Bool} {v : Value} {d : DataW H} {p : List MemPlace} (hv : Value.okWide Try.prog w .any b0 22 v)
    (h : DataW.Trod enc Try.prog w base spare held 22 v d p) : ∃ l, ActArg w v l := by
  obtain ⟨a0, len0, cap0, rfl⟩ := okWide_slice Try.underlying22 hv
  obtain ⟨fuel, hf⟩ := h
  rcases open_slice_fields Try.underlying22 Try.underlying32 (by kernel_rfl) (by kernel_rfl) hf with ⟨hcs, _⟩ | ⟨a, len, cap, mm, D, Pl, hcs, hba, hl, hm, hmm, hx, hi⟩
  · simp [Value.cells] at hcs
    obtain ⟨rfl, rfl, rfl⟩ := hcs
    exact ⟨[], none, 0, rfl, by simp, fun h => by simp at h⟩
  · simp [Value.cells] at hcs
    obtain ⟨rfl, rfl, rfl⟩ := hcs
    have hlm : len0 ≤ mm := by rw [hmm]; split <;> omega
    have key : ∀ i, i < len0 → ∃ x : ActD, w.cell? (a.add (i * 5)) = some (.int .u8 x.do_) ∧ w.cell? (a.add (i * 5 + 1)) = some (.int .i64 x.at_) ∧ w.cell? (a.add (i * 5 + 2)) = some (.int .i64 x.n) ∧ w.cell? (a.add (i * 5 + 3)) = some (.int .u8 x.fill.toNat) ∧
        (∃ A' c', w.cell? (a.add (i * 5 + 4)) = some (.slice A' x.kl c')) ∧ x.do_ ≤ 255 ∧ (-9223372036854775808 ≤ x.at_ ∧ x.at_ ≤ 9223372036854775807) ∧ (-9223372036854775808 ≤ x.n ∧ x.n ≤ 9223372036854775807) ∧ x.kl ≤ 9223372036854775807 := by
      intro i hil
      obtain ⟨ys, n', _, _, _, hf⟩ := hi i (by omega)
      obtain ⟨v0, z0, hc0, _, ht0⟩ := hf 0 _ rfl
      obtain ⟨v1, z1, hc1, _, ht1⟩ := hf 1 _ rfl
      obtain ⟨v2, z2, hc2, _, ht2⟩ := hf 2 _ rfl
      obtain ⟨v3, z3, hc3, _, ht3⟩ := hf 3 _ rfl
      obtain ⟨v4, z4, hc4, _, ht4⟩ := hf 4 _ rfl
      obtain ⟨n0, e0, _, w0⟩ := DataW.trod_int Try.underlying5 ht0
      obtain ⟨n1, e1, _, w1⟩ := DataW.trod_int Try.underlying3 ht1
      obtain ⟨n2, e2, _, w2⟩ := DataW.trod_int Try.underlying3 ht2
      obtain ⟨n3, e3, _, w3⟩ := DataW.trod_int Try.underlying5 ht3
      simp at e0 e1 e2 e3
      subst e0 e1 e2 e3
      have b0 := u8_bd w0
      have b3 := u8_bd w3
      obtain ⟨k, rfl⟩ := Int.eq_ofNat_of_zero_le b0.1
      obtain ⟨k3, rfl⟩ := Int.eq_ofNat_of_zero_le b3.1
      have h4 : ∃ A' kl c', v4 = .slice A' kl c' ∧ kl ≤ 9223372036854775807 := by
        rcases open_slice Try.underlying23 ht4 with ⟨h0, _⟩ | ⟨a4, l4, c4, _, _, _, _, h0, _, hl4, hm4, _⟩
        · simp at h0; exact ⟨none, 0, 0, h0, by omega⟩
        · simp at h0; exact ⟨some a4, l4, c4, h0, by unfold maxLen at hm4; omega⟩
      obtain ⟨A', kl, c', rfl, hkl⟩ := h4
      exact ⟨⟨k, n1, n2, UInt8.ofNat k3, kl⟩, hc0, hc1, hc2, by rw [UInt8.toNat_ofNat', Nat.mod_eq_of_lt (by omega)]; exact hc3, ⟨A', c', hc4⟩, by have := b0.2; simp only; omega, i64_bd w1, i64_bd w2, hkl⟩
    have hch : ∃ f : Nat → ActD, ∀ i, i < len0 → w.cell? (a.add (i * 5)) = some (.int .u8 (f i).do_) ∧ w.cell? (a.add (i * 5 + 1)) = some (.int .i64 (f i).at_) ∧ w.cell? (a.add (i * 5 + 2)) = some (.int .i64 (f i).n) ∧ w.cell? (a.add (i * 5 + 3)) = some (.int .u8 (f i).fill.toNat) ∧
        (∃ A' c', w.cell? (a.add (i * 5 + 4)) = some (.slice A' (f i).kl c')) ∧ (f i).do_ ≤ 255 ∧ (-9223372036854775808 ≤ (f i).at_ ∧ (f i).at_ ≤ 9223372036854775807) ∧ (-9223372036854775808 ≤ (f i).n ∧ (f i).n ≤ 9223372036854775807) ∧ (f i).kl ≤ 9223372036854775807 := by
      refine ⟨fun i => if h : i < len0 then Classical.choose (key i h) else ⟨0, 0, 0, 0, 0⟩, fun i hi => ?_⟩
      simp only [hi, dif_pos]
      exact Classical.choose_spec (key i hi)
    obtain ⟨f, hf⟩ := hch
    have hlen : ((List.range len0).map f).length = len0 := by simp
    refine ⟨(List.range len0).map f, some a, cap0, by rw [hlen], by rw [hlen]; unfold maxLen at hm; omega, fun hp => ?_⟩
    rw [hlen] at hp
    have h0 := (hf 0 hp).1
    rw [Nat.zero_mul] at h0
    obtain ⟨b, off, rfl, hbl⟩ := slice_spot h0
    refine ⟨b, off, rfl, hbl, fun i x hx => ?_⟩
    have hil : i < len0 := by
      have := (List.getElem?_eq_some_iff.1 hx).1
      simpa using this
    have hx' : x = f i := by simpa [hil] using hx.symm
    subst hx'
    have := hf i hil
    simp only [WideShapes.add_plain] at this
    exact this
end Go.Proofs.Ytkaijdnaheikeaa
