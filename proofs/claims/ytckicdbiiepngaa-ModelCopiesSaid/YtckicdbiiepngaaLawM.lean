/-
  Arguments of the laws of layer 24: an act, a slice of acts.
-/
import Derived.Test.YtckicdbiiepngaaLawF
import Derived.Test.YtckicdbiiepngaaLawU
import Derived.Test.YtckicdbiiepngaaMod11
namespace Go.Proofs.Ytckicdbiiepngaa
set_option linter.unusedVariables false
set_option linter.unusedSimpArgs false
open Go.ChangeShapes Go.WideShapes Go.ChangeAt Go.RowKit Go.Deep Go.Joins

abbrev MAct.cells (a : MAct) : Array Value := #[.int .u8 a.do_, .int .i64 a.id, .int .i64 a.off, .int .i64 a.n, .int .u8 a.fill.toNat]
set_option maxRecDepth 100000 in
theorem open_mact {H : Type} {enc : TypeId × Value → H} {w : World} {base b0 : Nat} {spare : Nat → Bool} {held : Bool} {v : Value} {d : DataW H} {p : List MemPlace} (hv : Value.okWide Try.prog w .any b0 37 v)
    (h : DataW.Trod enc Try.prog w base spare held 37 v d p) : ∃ a : MAct, v = .agg a.cells ∧ a.Ok := by
  obtain ⟨cs, rfl, hsz⟩ := okWide_struct Try.underlying37 hv
  have hk : Try.prog.cellsOf 37 = 5 := by kernel_rfl
  have hk1 : Try.prog.cellsOf 3 = 1 := by kernel_rfl
  have hk2 : Try.prog.cellsOf 5 = 1 := by kernel_rfl
  obtain ⟨fuel, hf⟩ := h
  have hl : cs.toList.length = 5 := by rw [Array.length_toList, hsz, hk]
  obtain ⟨xs, m, _, _, _, hlen, hg⟩ := DataW.trod_struct Try.underlying37 hf
  obtain ⟨l⟩ := cs
  match l, hl, xs, hlen with
  | [c0, c1, c2, c3, c4], _, [y0, y1, y2, y3, y4], _ =>
    have t0 : DataW.trod enc Try.prog w base spare held m 5 [c0] = some y0 := hg 0 _ rfl
    have t1 : DataW.trod enc Try.prog w base spare held m 3 [c1] = some y1 := hg 1 _ rfl
    have t2 : DataW.trod enc Try.prog w base spare held m 3 [c2] = some y2 := hg 2 _ rfl
    have t3 : DataW.trod enc Try.prog w base spare held m 3 [c3] = some y3 := hg 3 _ rfl
    have t4 : DataW.trod enc Try.prog w base spare held m 5 [c4] = some y4 := hg 4 _ rfl
    obtain ⟨n0, e0, _, w0⟩ := DataW.trod_int Try.underlying5 t0
    obtain ⟨n1, e1, _, w1⟩ := DataW.trod_int Try.underlying3 t1
    obtain ⟨n2, e2, _, w2⟩ := DataW.trod_int Try.underlying3 t2
    obtain ⟨n3, e3, _, w3⟩ := DataW.trod_int Try.underlying3 t3
    obtain ⟨n4, e4, _, w4⟩ := DataW.trod_int Try.underlying5 t4
    simp at e0 e1 e2 e3 e4
    subst e0 e1 e2 e3 e4
    have b0 := u8_bd w0
    have b4 := u8_bd w4
    obtain ⟨k, rfl⟩ := Int.eq_ofNat_of_zero_le b0.1
    obtain ⟨k4, rfl⟩ := Int.eq_ofNat_of_zero_le b4.1
    refine ⟨⟨k, n1, n2, n3, UInt8.ofNat k4⟩, ?_, by have := b0.2; simp only; omega, i64_bd w1, i64_bd w2, i64_bd w3⟩
    show Value.agg #[.int .u8 k, .int .i64 n1, .int .i64 n2, .int .i64 n3, .int .u8 k4] = Value.agg #[.int .u8 k, .int .i64 n1, .int .i64 n2, .int .i64 n3, .int .u8 (UInt8.ofNat k4).toNat]
    rw [UInt8.toNat_ofNat', Nat.mod_eq_of_lt (by omega)]

theorem cell_same {w w' : World} {b o : Nat} (h : w'.heap[b]? = w.heap[b]?) : w'.cell? ⟨b, o, none⟩ = w.cell? ⟨b, o, none⟩ := World.cell?_of_block h
/-- A slice of acts. -/
def MActs (w : World) (v : Value) (l : List MAct) : Prop :=
  ∃ A c, v = .slice A l.length c ∧ l.length ≤ 9223372036854775807 ∧ (0 < l.length → ∃ b o, A = some ⟨b, o, none⟩ ∧ b < w.heap.size ∧ ∀ i x, l[i]? = some x →
    w.cell? ⟨b, o + i * 5, none⟩ = some (.int .u8 x.do_) ∧ w.cell? ⟨b, o + i * 5 + 1, none⟩ = some (.int .i64 x.id) ∧ w.cell? ⟨b, o + i * 5 + 2, none⟩ = some (.int .i64 x.off) ∧ w.cell? ⟨b, o + i * 5 + 3, none⟩ = some (.int .i64 x.n) ∧
    w.cell? ⟨b, o + i * 5 + 4, none⟩ = some (.int .u8 x.fill.toNat) ∧ x.Ok)
theorem MActs.below {w w' : World} {v : Value} {l : List MAct} (h : MActs w v l) (hb : Below w.heap.size w w') : MActs w' v l := by
  obtain ⟨A, c, h1, h2, h3⟩ := h
  refine ⟨A, c, h1, h2, fun hp => ?_⟩
  obtain ⟨b, o, e1, e2, e3⟩ := h3 hp
  have hs : ∀ j, w'.cell? ⟨b, j, none⟩ = w.cell? ⟨b, j, none⟩ := fun j => cell_same (hb.block b e2)
  refine ⟨b, o, e1, Nat.lt_of_lt_of_le e2 hb.size, fun i x hx => ?_⟩
  simp only [hs]
  exact e3 i x hx
set_option maxRecDepth 100000 in
theorem open_macts {H : Type} {enc : TypeId × Value → H} {w : World} {base b0 : Nat} {spare : Nat → Bool} {held : Bool} {v : Value} {d : DataW H} {p : List MemPlace} (hv : Value.okWide Try.prog w .any b0 22 v)
    (h : DataW.Trod enc Try.prog w base spare held 22 v d p) : ∃ l, MActs w v l := by
  obtain ⟨a0, len0, cap0, rfl⟩ := okWide_slice Try.underlying22 hv
  obtain ⟨fuel, hf⟩ := h
  rcases open_slice_fields Try.underlying22 Try.underlying37 (by kernel_rfl) (by kernel_rfl) hf with ⟨hcs, _⟩ | ⟨a, len, cap, mm, D, Pl, hcs, hba, hl, hm, hmm, hx, hi⟩
  · simp [Value.cells] at hcs
    obtain ⟨rfl, rfl, rfl⟩ := hcs
    exact ⟨[], none, 0, rfl, by simp, fun h => by simp at h⟩
  · simp [Value.cells] at hcs
    obtain ⟨rfl, rfl, rfl⟩ := hcs
    have hlm : len0 ≤ mm := by rw [hmm]; split <;> omega
    have key : ∀ i, i < len0 → ∃ x : MAct, w.cell? (a.add (i * 5)) = some (.int .u8 x.do_) ∧ w.cell? (a.add (i * 5 + 1)) = some (.int .i64 x.id) ∧ w.cell? (a.add (i * 5 + 2)) = some (.int .i64 x.off) ∧ w.cell? (a.add (i * 5 + 3)) = some (.int .i64 x.n) ∧
        w.cell? (a.add (i * 5 + 4)) = some (.int .u8 x.fill.toNat) ∧ x.Ok := by
      intro i hil
      obtain ⟨ys, n', _, _, _, hf⟩ := hi i (by omega)
      obtain ⟨v0, z0, hc0, _, ht0⟩ := hf 0 _ rfl
      obtain ⟨v1, z1, hc1, _, ht1⟩ := hf 1 _ rfl
      obtain ⟨v2, z2, hc2, _, ht2⟩ := hf 2 _ rfl
      obtain ⟨v3, z3, hc3, _, ht3⟩ := hf 3 _ rfl
      obtain ⟨v4, z4, hc4, _, ht4⟩ := hf 4 _ rfl
      obtain ⟨n0, e0, _, w0⟩ := DataW.trod_int Try.underlying5 ht0
      obtain ⟨n1, e1, _, w1⟩ := DataW.trod_int Try.underlying3 ht1
      obtain ⟨n2, e2, _, w2⟩ := DataW.trod_int Try.underlying3 ht2
      obtain ⟨n3, e3, _, w3⟩ := DataW.trod_int Try.underlying3 ht3
      obtain ⟨n4, e4, _, w4⟩ := DataW.trod_int Try.underlying5 ht4
      simp at e0 e1 e2 e3 e4
      subst e0 e1 e2 e3 e4
      have b0 := u8_bd w0
      have b4 := u8_bd w4
      obtain ⟨k, rfl⟩ := Int.eq_ofNat_of_zero_le b0.1
      obtain ⟨k4, rfl⟩ := Int.eq_ofNat_of_zero_le b4.1
      exact ⟨⟨k, n1, n2, n3, UInt8.ofNat k4⟩, hc0, hc1, hc2, hc3, by rw [UInt8.toNat_ofNat', Nat.mod_eq_of_lt (by omega)]; exact hc4, by have := b0.2; simp only; omega, i64_bd w1, i64_bd w2, i64_bd w3⟩
    have hch : ∃ f : Nat → MAct, ∀ i, i < len0 → w.cell? (a.add (i * 5)) = some (.int .u8 (f i).do_) ∧ w.cell? (a.add (i * 5 + 1)) = some (.int .i64 (f i).id) ∧ w.cell? (a.add (i * 5 + 2)) = some (.int .i64 (f i).off) ∧ w.cell? (a.add (i * 5 + 3)) = some (.int .i64 (f i).n) ∧
        w.cell? (a.add (i * 5 + 4)) = some (.int .u8 (f i).fill.toNat) ∧ (f i).Ok := by
      refine ⟨fun i => if h : i < len0 then Classical.choose (key i h) else ⟨0, 0, 0, 0, 0⟩, fun i hi => ?_⟩
      simp only [hi, dif_pos]
      exact Classical.choose_spec (key i hi)
    obtain ⟨f, hf⟩ := hch
    have hlen : ((List.range len0).map f).length = len0 := by simp
    refine ⟨(List.range len0).map f, some a, cap0, by rw [hlen], by rw [hlen]; unfold maxLen at hm; omega, fun hp => ?_⟩
    rw [hlen] at hp
    have h0 := (hf 0 hp).1
    rw [Nat.zero_mul] at h0
    obtain ⟨b, off, rfl, hbl⟩ := slice_spot h0
    refine ⟨b, off, rfl, hbl, fun i x hx => ?_⟩
    have hil : i < len0 := by
      have := (List.getElem?_eq_some_iff.1 hx).1
      simpa using this
    have hx' : x = f i := by simpa [hil] using hx.symm
    subst hx'
    have := hf i hil
    simp only [WideShapes.add_plain] at this
    exact this
end Go.Proofs.Ytckicdbiiepngaa
