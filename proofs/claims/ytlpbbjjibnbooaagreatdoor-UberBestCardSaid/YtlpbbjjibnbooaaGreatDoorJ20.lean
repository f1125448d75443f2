/-
  Arguments of UberBest: a slice of uberblocks.
  The document's example (layer 8).
  What was written is what is read: columns on devices. No program stands here.
  What a statement of layer 8 keeps: its boxes, the measure; devices as they are made.
-/
import Derived.Test.YtlpbbjjibnbooaaGreatDoorJ12
import Derived.Test.YtlpbbjjibnbooaaGreatDoorJ19
import Derived.Test.YtlpbbjjibnbooaaGreatDoorJ11
import Derived.Test.YtlpbbjjibnbooaaGreatDoorJ10
namespace Go.Proofs.YtlpbbjjibnbooaaGreatDoor
set_option linter.unusedVariables false
set_option linter.unusedSimpArgs false
open Go.ChangeShapes Go.WideShapes Go.ChangeAt Go.RowKit Go.Deep Go.Joins

/-- A slice of uberblocks. -/
def UbersAt (w : World) (v : Value) (l : List UbD) : Prop :=
  ∃ A c, v = .slice A l.length c ∧ l.length ≤ 9223372036854775807 ∧ (0 < l.length → ∃ b o, A = some ⟨b, o, none⟩ ∧ b < w.heap.size ∧ ∀ i x, l[i]? = some x → x.p.Ok ∧ w.cell? ⟨b, o + i * 14, none⟩ = some (.int .i64 x.t) ∧ w.cell? ⟨b, o + i * 14 + 1, none⟩ = some (.int .i64 x.n) ∧ w.cell? ⟨b, o + i * 14 + 2, none⟩ = some (.int .i64 x.p.ag) ∧ w.cell? ⟨b, o + i * 14 + 3, none⟩ = some (.int .i64 x.p.aa) ∧ w.cell? ⟨b, o + i * 14 + 4, none⟩ = some (.int .i64 x.p.bg) ∧ w.cell? ⟨b, o + i * 14 + 5, none⟩ = some (.int .i64 x.p.ba) ∧ w.cell? ⟨b, o + i * 14 + 6, none⟩ = some (.bool x.p.two) ∧ w.cell? ⟨b, o + i * 14 + 7, none⟩ = some (.int .i64 x.p.size) ∧ w.cell? ⟨b, o + i * 14 + 8, none⟩ = some (.int .i64 x.p.level) ∧ w.cell? ⟨b, o + i * 14 + 9, none⟩ = some (.int .i64 x.p.birth) ∧ w.cell? ⟨b, o + i * 14 + 10, none⟩ = some (.int .u64 x.p.s0) ∧ w.cell? ⟨b, o + i * 14 + 11, none⟩ = some (.int .u64 x.p.s1) ∧ w.cell? ⟨b, o + i * 14 + 12, none⟩ = some (.int .u64 x.p.s2) ∧ w.cell? ⟨b, o + i * 14 + 13, none⟩ = some (.int .u64 x.p.s3))
theorem UbersAt.same {w w' : World} {v : Value} {l : List UbD} (h : UbersAt w v l) (hs : w.heap.size ≤ w'.heap.size) (hb : ∀ b, b < w.heap.size → w'.heap[b]? = w.heap[b]?) : UbersAt w' v l := by
  obtain ⟨A, c, h1, h2, h3⟩ := h
  refine ⟨A, c, h1, h2, fun hp => ?_⟩
  obtain ⟨b, o, e1, e2, e3⟩ := h3 hp
  have hs' : ∀ j, w'.cell? ⟨b, j, none⟩ = w.cell? ⟨b, j, none⟩ := fun j => World.cell?_of_block (hb b e2)
  refine ⟨b, o, e1, Nat.lt_of_lt_of_le e2 hs, fun i x hx => ?_⟩
  simp only [hs']
  exact e3 i x hx
theorem UbersAt.below {w w' : World} {v : Value} {l : List UbD} (h : UbersAt w v l) (hb : Below w.heap.size w w') : UbersAt w' v l := h.same hb.size fun b hl => hb.block b hl
theorem UbersAt.form {w : World} {v : Value} {l : List UbD} (h : UbersAt w v l) : ∃ A c, v = .slice A l.length c := by
  obtain ⟨A, c, h1, _⟩ := h
  exact ⟨A, c, h1⟩
section
variable {H : Type} {enc : TypeId × Value → H} {w : World} {base : Nat} {spare : Nat → Bool} {held : Bool}
set_option maxRecDepth 100000 in
theorem open_uberel (k : Nat) (cs : List Value) (z : DataW H × List MemPlace) (h : DataW.trod enc Tryz.prog w base spare held k 35 cs = some z) (hl : cs.length = 14) : ∃ x : UbD, cs = .int .i64 x.t :: .int .i64 x.n :: x.p.cells.toList ∧ x.p.Ok := by
  have hk1 : Tryz.prog.cellsOf 3 = 1 := by kernel_rfl
  have hk2 : Tryz.prog.cellsOf 33 = 13 := by kernel_rfl
  obtain ⟨xs, m, _, _, _, hlen, hg⟩ := DataW.trod_struct Tryz.underlying35 h
  match xs, hlen with
  | [y0, y1], _ =>
    have t0 : DataW.trod enc Tryz.prog w base spare held m 3 ((cs.drop 0).take (Tryz.prog.cellsOf 3)) = [y0, y1][0]? := hg 0 _ rfl
    have t1 : DataW.trod enc Tryz.prog w base spare held m 33 ((cs.drop 1).take (Tryz.prog.cellsOf 33)) = [y0, y1][1]? := hg 1 _ rfl
    rw [hk1] at t0
    rw [hk2] at t1
    obtain ⟨n, x, e1, b1, b2, o1⟩ := open_nodes (cs := (cs.drop 1).take 13) t1 (by rw [List.length_take, List.length_drop]; omega)
    obtain ⟨t, e0, _, wt⟩ := DataW.trod_int Tryz.underlying3 t0
    refine ⟨⟨t, n, x⟩, ?_, o1⟩
    have a1 : (cs.drop 1).take 13 = cs.drop 1 := List.take_of_length_le (by rw [List.length_drop]; omega)
    show cs = .int .i64 t :: .int .i64 n :: x.cells.toList
    rw [← e1, a1]
    have := List.take_append_drop 1 cs
    rw [show cs.take 1 = [.int .i64 t] from e0] at this
    exact this.symm
set_option maxRecDepth 100000 in
theorem open_ubers {b0 : Nat} {v : Value} {d : DataW H} {p : List MemPlace} (hv : Value.okWide Tryz.prog w .any b0 46 v) (h : DataW.Trod enc Tryz.prog w base spare held 46 v d p) : ∃ l, UbersAt w v l := by
  obtain ⟨a0, len0, cap0, rfl⟩ := okWide_slice Tryz.underlying46 hv
  obtain ⟨fuel, hf⟩ := h
  rcases open_slice Tryz.underlying46 hf with ⟨hcs, _⟩ | ⟨a, len, cap, m, n, D, Pl, hcs, hb, hl, hm, hmm, hx, hi⟩
  · simp [Value.cells] at hcs
    obtain ⟨rfl, rfl, rfl⟩ := hcs
    exact ⟨[], none, 0, rfl, by simp, fun h => by simp at h⟩
  · simp [Value.cells] at hcs
    obtain ⟨rfl, rfl, rfl⟩ := hcs
    have hlm : len0 ≤ m := by rw [hmm]; split <;> omega
    rw [show Tryz.prog.cellsOf 35 = 14 by kernel_rfl] at hi
    have key : ∀ i, i < len0 → ∃ y : UbD, y.p.Ok ∧ ∀ j, j < 14 → w.cell? (a.add (i * 14 + j)) = (.int .i64 y.t :: .int .i64 y.n :: y.p.cells.toList)[j]? := by
      intro i hil
      obtain ⟨ds, hc, htr⟩ := hi i (by omega)
      obtain ⟨_, hcl, hat⟩ := World.cells?_some hc
      obtain ⟨y, rfl, hq⟩ := open_uberel _ _ _ htr hcl
      exact ⟨y, hq, fun j hj => by rw [← hat j hj, Addr.add_add]⟩
    have hch : ∃ g : Nat → UbD, ∀ i, i < len0 → (g i).p.Ok ∧ ∀ j, j < 14 → w.cell? (a.add (i * 14 + j)) = (.int .i64 (g i).t :: .int .i64 (g i).n :: (g i).p.cells.toList)[j]? := by
      refine ⟨fun i => if h : i < len0 then Classical.choose (key i h) else ubZ, fun i hi => ?_⟩
      simp only [hi, dif_pos]
      exact Classical.choose_spec (key i hi)
    obtain ⟨g, hg⟩ := hch
    have hlen : ((List.range len0).map g).length = len0 := by simp
    refine ⟨(List.range len0).map g, some a, cap0, by rw [hlen], by rw [hlen]; unfold maxLen at hm; omega, fun hp => ?_⟩
    rw [hlen] at hp
    have h0 := (hg 0 hp).2 0 (by decide)
    rw [Nat.zero_mul, Nat.add_zero] at h0
    obtain ⟨b, off, rfl, hbl⟩ := slice_spot (h0.trans rfl)
    refine ⟨b, off, rfl, hbl, fun i x hx => ?_⟩
    have hil : i < len0 := by
      have := (List.getElem?_eq_some_iff.1 hx).1
      simpa using this
    have hx' : x = g i := by simpa [hil] using hx.symm
    subst hx'
    obtain ⟨o1, hc⟩ := hg i hil
    simp only [WideShapes.add_plain, ← Nat.add_assoc] at hc
    exact ⟨o1, hc 0 (by decide), hc 1 (by decide), hc 2 (by decide), hc 3 (by decide), hc 4 (by decide), hc 5 (by decide), hc 6 (by decide), hc 7 (by decide), hc 8 (by decide), hc 9 (by decide), hc 10 (by decide), hc 11 (by decide), hc 12 (by decide), hc 13 (by decide)⟩
end
end Go.Proofs.YtlpbbjjibnbooaaGreatDoor

namespace Go.Proofs.YtlpbbjjibnbooaaGreatDoor
set_option linter.unusedVariables false
set_option linter.unusedSimpArgs false
open Go.RowKit

theorem geo_ex (w : World) : GeoAt (w.alloc (.cells #[.int .i64 0, .int .i64 2] 71)) (some ⟨w.heap.size, 0, none⟩) 1 [(0, 2)] := by
  refine ⟨rfl, by decide, fun _ => ⟨w.heap.size, 0, rfl, by simp, fun i x hx => ?_⟩⟩
  have hi : i = 0 := by
    have := (List.getElem?_eq_some_iff.1 hx).1
    simp at this
    exact this
  subst hi
  simp at hx
  subst hx
  exact ⟨(Blk.new _ _ _).at_ rfl, (Blk.new _ _ _).at_ rfl⟩
end Go.Proofs.YtlpbbjjibnbooaaGreatDoor

namespace Go.Proofs.YtlpbbjjibnbooaaGreatDoor
set_option linter.unusedVariables false
set_option linter.unusedSimpArgs false

/-- What a column of the devices reads as. -/
def look (ds : List DevD) (c : Col) : List UInt8 := match ds[c.1.toNat]? with
  | some d => d.rdS c.2.1
  | none => []
theorem wr_mayE (d : DevD) (a b : Int) (t : List UInt8) : (d.wr a t).mayE b = d.mayE b := by
  unfold DevD.mayE
  rw [wr_lost, DevD.wr_med]
theorem wr_now_same {d : DevD} {a : Int} {t : List UInt8} (h : d.wrE a t = 0) : (d.wr a t).now a.toNat = t := by
  unfold DevD.wr
  rw [if_pos h]
  unfold DevD.now DevD.put
  simp [lastOr]
theorem wr_now_other {d : DevD} {a : Int} {t : List UInt8} {k : Nat} (h : k ≠ a.toNat) : (d.wr a t).now k = d.now k := by
  unfold DevD.wr
  split
  · unfold DevD.now DevD.put DevD.burn DevD.medAt
    simp only [if_neg h]
  · rfl
theorem wr_rd_same {d : DevD} {a : Int} {t : List UInt8} (h : d.wrE a t = 0) : (d.wr a t).rdS a = t := by
  have hm : d.mayE a = 0 := by
    unfold DevD.wrE at h
    split at h
    · rename_i hn; exact absurd h hn
    · rename_i hn; exact Decidable.of_not_not hn
  unfold DevD.rdS
  rw [wr_mayE, if_pos hm, wr_now_same h]
theorem wr_rd_other {d : DevD} {a b : Int} {t : List UInt8} (ha : 0 ≤ a) (hn : a ≠ b) : (d.wr a t).rdS b = d.rdS b := by
  unfold DevD.rdS
  rw [wr_mayE]
  split
  · rename_i hm
    have := DevD.mayE_ok hm
    rw [wr_now_other (by omega)]
  · rfl
/-- Columns that are what a block's may be. -/
structure Cols (n secs : Nat) (L : List Col) (T : List (List UInt8)) : Prop where
  inn : ∀ (j : Nat) (c : Col), L[j]? = some c → 0 ≤ c.1 ∧ c.1 < n ∧ 0 ≤ c.2.1 ∧ c.2.1 < secs
  txt : ∀ j : Nat, j < L.length → ∃ t, T[j]? = some t ∧ t.length = 64
  dis : ∀ (i j : Nat) (c e : Col), i ≠ j → L[i]? = some c → L[j]? = some e → ¬ (c.1 = e.1 ∧ c.2.1 = e.2.1)
end Go.Proofs.YtlpbbjjibnbooaaGreatDoor

namespace Go.Proofs.YtlpbbjjibnbooaaGreatDoor
set_option linter.unusedVariables false
set_option linter.unusedSimpArgs false
open Go.RowKit

/-- The boxes of a statement over devices: the measure, the place, the devices. -/
structure KX (w W : World) (A : Option Addr) (m c : Nat) (secs pg pa : Int) (y : VX) (xb : Nat) : Prop where
  g : Blk W w.heap.size 24 #[.slice A m c, .int .i64 secs]
  p : Blk W (w.heap.size + 1) 26 #[.int .i64 pg, .int .i64 pa]
  x : Blk W xb 50 y.cells
  bel : Below w.heap.size w W
section
variable {w W W' : World} {A : Option Addr} {m c : Nat} {secs pg pa : Int} {y : VX} {xb : Nat} {U : Nat → Prop}
theorem KX.stays (h : KX w W A m c secs pg pa y xb) (hs : Stays U W W') (hU : ∀ b, b < w.heap.size + 2 → U b) (hx : U xb) : KX w W' A m c secs pg pa y xb :=
  ⟨(hs.heap (hU _ (by omega)) h.g.lt).trans h.g, (hs.heap (hU _ (by omega)) h.p.lt).trans h.p, (hs.heap hx h.x.lt).trans h.x, h.bel.trans (hs.below h.bel.size (fun i hi => hU i (by omega)))⟩
theorem KX.below (h : KX w W A m c secs pg pa y xb) (hb : Below W.heap.size W W') : KX w W' A m c secs pg pa y xb :=
  ⟨h.g.below hb h.g.lt, h.p.below hb h.p.lt, h.x.below hb h.x.lt, keep_below hb h.bel⟩
theorem KX.far (h : KX w W A m c secs pg pa y xb) {b : Nat} (hb : w.heap.size + 2 ≤ b) (hx : xb ≠ b) (i : Nat) (u : Value) : KX w (W.setCell ⟨b, i, none⟩ u) A m c secs pg pa y xb :=
  ⟨h.g.far (by show w.heap.size ≠ b; omega) u, h.p.far (by show w.heap.size + 1 ≠ b; omega) u, h.x.far hx u, below_set h.bel _ _ _ (by omega)⟩
end
theorem blanks_ok {n secs : Nat} {b : UInt8} (h1 : 1 ≤ secs) (h2 : secs ≤ 4096) : DsOk 0 secs (List.replicate n (DevD.blank secs b)) := fun d hd => by
  rw [List.eq_of_mem_replicate hd]
  exact ⟨blank_ok h1 h2, by simp [DevD.blank], rfl, fun k => Nat.zero_le _⟩
end Go.Proofs.YtlpbbjjibnbooaaGreatDoor
