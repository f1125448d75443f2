/-
  What pointers' functions call: cmp.Compare, cmp.Or, ptr.within, ptr.small, fletch.Bytes.
  Contracts of package ptr: None, Less, Places, Bytes.
  An argument that is a pointer, opened.
  Arguments of the laws of layer 10: bytes that are spoilt.
  Contracts of le's reader: New, Left, Take, number, U64.
  strings.Trim at the one byte zero: what is left is empty just if all bytes are zero.
  More contracts of le's reader: numbers as what bytes come to; U32, Int, Zeros; the nil reader.
  A text's words, and its sum: plain words.
  A loop over an iterator that keeps cells of its own between its rounds, and is run to its end: what is said of the rounds abides whatever turns from the loop's beginning on. No program stands here.
-/
import Derived.Test.YtbhkbcpljakmjaaGreatJ15
import Derived.Test.YtbhkbcpljakmjaaGreatJ01
import Derived.StillTailTactics
import Derived.Laws.IdiomArrays
import Derived.Deep.Grids
import Derived.Laws.BitsAllLaws
import Derived.RangeFuncWrites
namespace Go.Proofs.YtbhkbcpljakmjaaGreat
open Go.RowKit
set_option linter.unusedVariables false
def IntsAt (w : World) (b off : Nat) (l : List Int) : Prop := b < w.heap.size ∧ ∀ (i : Nat) (x : Int), l[i]? = some x → w.cell? ⟨b, off + i, none⟩ = some (.int .i64 x)
theorem IntsAt.below {w w' : World} {b off B : Nat} {l : List Int} (h : IntsAt w b off l) (hb : Below B w w') (hB : w.heap.size ≤ B) : IntsAt w' b off l := by
 obtain ⟨h1, h2⟩ := h
 exact ⟨Nat.lt_of_lt_of_le h1 hb.size, fun i x hx => (hb.cell (p := ⟨b, off + i, none⟩) (by show b < B; omega)).trans (h2 i x hx)⟩
theorem IntsAt.new (w : World) (l : List Int) (t : TypeId) : IntsAt (w.alloc (.cells ((l.map (Value.int .i64)).toArray) t)) w.heap.size 0 l := by
 refine ⟨by simp, fun i x hx => ?_⟩
 exact cell_new rfl (by simp [hx])
def withinL (most : Int) (l : List Int) : Bool := l.all fun x => decide (0 ≤ x) && decide (x ≤ most)
end Go.Proofs.YtbhkbcpljakmjaaGreat

namespace Go.Proofs.YtbhkbcpljakmjaaGreat
open Go.RowKit
set_option linter.unusedVariables false
structure PtrD where
 ag : Int
 aa : Int
 bg : Int
 ba : Int
 two : Bool
 size : Int
 level : Int
 birth : Int
 s0 : Nat
 s1 : Nat
 s2 : Nat
 s3 : Nat
deriving DecidableEq
def PtrD.cells (p : PtrD) : Array Value := #[.int .i64 p.ag, .int .i64 p.aa, .int .i64 p.bg, .int .i64 p.ba, .bool p.two, .int .i64 p.size, .int .i64 p.level, .int .i64 p.birth, .int .u64 p.s0, .int .u64 p.s1, .int .u64 p.s2, .int .u64 p.s3]
def PtrD.Ok (p : PtrD) : Prop := p.s0 < 18446744073709551616 ∧ p.s1 < 18446744073709551616 ∧ p.s2 < 18446744073709551616 ∧ p.s3 < 18446744073709551616 ∧
 -9223372036854775808 ≤ p.size ∧ p.size ≤ 9223372036854775807 ∧ -9223372036854775808 ≤ p.level ∧ p.level ≤ 9223372036854775807 ∧ -9223372036854775808 ≤ p.birth ∧ p.birth ≤ 9223372036854775807
def PtrAt (w : World) (b o : Nat) (p : PtrD) : Prop :=
 w.cell? ⟨b, o, none⟩ = some (.int .i64 p.ag) ∧ w.cell? ⟨b, o + 1, none⟩ = some (.int .i64 p.aa) ∧ w.cell? ⟨b, o + 2, none⟩ = some (.int .i64 p.bg) ∧ w.cell? ⟨b, o + 3, none⟩ = some (.int .i64 p.ba) ∧
 w.cell? ⟨b, o + 4, none⟩ = some (.bool p.two) ∧ w.cell? ⟨b, o + 5, none⟩ = some (.int .i64 p.size) ∧ w.cell? ⟨b, o + 6, none⟩ = some (.int .i64 p.level) ∧ w.cell? ⟨b, o + 7, none⟩ = some (.int .i64 p.birth) ∧
 w.cell? ⟨b, o + 8, none⟩ = some (.int .u64 p.s0) ∧ w.cell? ⟨b, o + 9, none⟩ = some (.int .u64 p.s1) ∧ w.cell? ⟨b, o + 10, none⟩ = some (.int .u64 p.s2) ∧ w.cell? ⟨b, o + 11, none⟩ = some (.int .u64 p.s3)
theorem PtrAt.keep {w w' : World} {b o : Nat} {p : PtrD} (h : PtrAt w b o p) (hb : Below w.heap.size w w') (hlt : b < w.heap.size) : PtrAt w' b o p := by
 obtain ⟨h0, h1, h2, h3, h4, h5, h6, h7, h8, h9, ha, hc⟩ := h
 exact ⟨keep_cell hb h0 hlt, keep_cell hb h1 hlt, keep_cell hb h2 hlt, keep_cell hb h3 hlt, keep_cell hb h4 hlt, keep_cell hb h5 hlt, keep_cell hb h6 hlt, keep_cell hb h7 hlt, keep_cell hb h8 hlt, keep_cell hb h9 hlt, keep_cell hb ha hlt, keep_cell hb hc hlt⟩
theorem PtrAt.new (w : World) (p : PtrD) (t : TypeId) : PtrAt (w.alloc (.cells p.cells t)) w.heap.size 0 p :=
 ⟨cell_new rfl rfl, cell_new rfl rfl, cell_new rfl rfl, cell_new rfl rfl, cell_new rfl rfl, cell_new rfl rfl, cell_new rfl rfl, cell_new rfl rfl, cell_new rfl rfl, cell_new rfl rfl, cell_new rfl rfl, cell_new rfl rfl⟩
end Go.Proofs.YtbhkbcpljakmjaaGreat

namespace Go.Proofs.YtbhkbcpljakmjaaGreat
open Go.ChangeShapes Go.WideShapes Go.ChangeAt Go.RowKit Go.Deep Go.Joins
set_option linter.unusedVariables false
section
variable {H : Type} {enc : TypeId × Value → H} {w : World} {base : Nat} {spare : Nat → Bool} {held : Bool}
theorem trod_place {n : Nat} {u v : Value} {x : DataW H × List MemPlace} (h : DataW.trod enc Tryz.prog w base spare held n 26 [u, v] = some x) : ∃ a b : Int, u = .int .i64 a ∧ v = .int .i64 b := by
 obtain ⟨xs, m, _, _, _, hlen, hg⟩ := DataW.trod_struct Tryz.underlying26 h
 match xs, hlen with
 | [y0, y1], _ =>
  have k : Tryz.prog.cellsOf 3 = 1 := by kernel_rfl
  have g0 : DataW.trod enc Tryz.prog w base spare held m 3 [u] = some y0 := by have t : DataW.trod enc Tryz.prog w base spare held m 3 (([u, v].drop 0).take (Tryz.prog.cellsOf 3)) = [y0, y1][0]? := hg 0 _ rfl; rw [k] at t; exact t
  have g1 : DataW.trod enc Tryz.prog w base spare held m 3 [v] = some y1 := by have t : DataW.trod enc Tryz.prog w base spare held m 3 (([u, v].drop 1).take (Tryz.prog.cellsOf 3)) = [y0, y1][1]? := hg 1 _ rfl; rw [k] at t; exact t
  obtain ⟨a, e0, _, _⟩ := DataW.trod_int Tryz.underlying3 g0
  obtain ⟨b, e1, _, _⟩ := DataW.trod_int Tryz.underlying3 g1
  simp at e0 e1
  exact ⟨a, b, e0, e1⟩
theorem open_ptrs {n : Nat} {cs : List Value} {x : DataW H × List MemPlace} (h : DataW.trod enc Tryz.prog w base spare held n 31 cs = some x) (hlen : cs.length = 12) :
 ∃ p : PtrD, cs = p.cells.toList ∧ p.Ok := by
 match cs, hlen with
 | [c0, c1, c2, c3, c4, c5, c6, c7, c8, c9, c10, c11], _ =>
  obtain ⟨xs, m, _, _, _, hl, hg⟩ := DataW.trod_struct Tryz.underlying31 h
  have kp : Tryz.prog.cellsOf 26 = 2 := by kernel_rfl
  have ki : Tryz.prog.cellsOf 3 = 1 := by kernel_rfl
  have kb : Tryz.prog.cellsOf 4 = 1 := by kernel_rfl
  have ks : Tryz.prog.cellsOf 29 = 4 := by kernel_rfl
  have ku : Tryz.prog.cellsOf 27 = 1 := by kernel_rfl
  match xs, hl with
  | [y0, y1, y2, y3, y4, y5, y6], _ =>
   have g0 : DataW.trod enc Tryz.prog w base spare held m 26 [c0, c1] = some y0 := by have t : DataW.trod enc Tryz.prog w base spare held m 26 (([c0, c1, c2, c3, c4, c5, c6, c7, c8, c9, c10, c11].drop 0).take (Tryz.prog.cellsOf 26)) = [y0, y1, y2, y3, y4, y5, y6][0]? := hg 0 _ rfl; rw [kp] at t; exact t
   have g1 : DataW.trod enc Tryz.prog w base spare held m 26 [c2, c3] = some y1 := by have t : DataW.trod enc Tryz.prog w base spare held m 26 (([c0, c1, c2, c3, c4, c5, c6, c7, c8, c9, c10, c11].drop 2).take (Tryz.prog.cellsOf 26)) = [y0, y1, y2, y3, y4, y5, y6][1]? := hg 1 _ rfl; rw [kp] at t; exact t
   have g2 : DataW.trod enc Tryz.prog w base spare held m 4 [c4] = some y2 := by have t : DataW.trod enc Tryz.prog w base spare held m 4 (([c0, c1, c2, c3, c4, c5, c6, c7, c8, c9, c10, c11].drop 4).take (Tryz.prog.cellsOf 4)) = [y0, y1, y2, y3, y4, y5, y6][2]? := hg 2 _ rfl; rw [kb] at t; exact t
   have g3 : DataW.trod enc Tryz.prog w base spare held m 3 [c5] = some y3 := by have t : DataW.trod enc Tryz.prog w base spare held m 3 (([c0, c1, c2, c3, c4, c5, c6, c7, c8, c9, c10, c11].drop 5).take (Tryz.prog.cellsOf 3)) = [y0, y1, y2, y3, y4, y5, y6][3]? := hg 3 _ rfl; rw [ki] at t; exact t
   have g4 : DataW.trod enc Tryz.prog w base spare held m 3 [c6] = some y4 := by have t : DataW.trod enc Tryz.prog w base spare held m 3 (([c0, c1, c2, c3, c4, c5, c6, c7, c8, c9, c10, c11].drop 6).take (Tryz.prog.cellsOf 3)) = [y0, y1, y2, y3, y4, y5, y6][4]? := hg 4 _ rfl; rw [ki] at t; exact t
   have g5 : DataW.trod enc Tryz.prog w base spare held m 3 [c7] = some y5 := by have t : DataW.trod enc Tryz.prog w base spare held m 3 (([c0, c1, c2, c3, c4, c5, c6, c7, c8, c9, c10, c11].drop 7).take (Tryz.prog.cellsOf 3)) = [y0, y1, y2, y3, y4, y5, y6][5]? := hg 5 _ rfl; rw [ki] at t; exact t
   have g6 : DataW.trod enc Tryz.prog w base spare held m 29 [c8, c9, c10, c11] = some y6 := by have t : DataW.trod enc Tryz.prog w base spare held m 29 (([c0, c1, c2, c3, c4, c5, c6, c7, c8, c9, c10, c11].drop 8).take (Tryz.prog.cellsOf 29)) = [y0, y1, y2, y3, y4, y5, y6][6]? := hg 6 _ rfl; rw [ks] at t; exact t
   obtain ⟨ag, aa, rfl, rfl⟩ := trod_place g0
   obtain ⟨bg, ba, rfl, rfl⟩ := trod_place g1
   obtain ⟨two, e2, _⟩ := DataW.trod_bool Tryz.underlying4 g2
   obtain ⟨size, e3, _, w3⟩ := DataW.trod_int Tryz.underlying3 g3
   obtain ⟨level, e4, _, w4⟩ := DataW.trod_int Tryz.underlying3 g4
   obtain ⟨birth, e5, _, w5⟩ := DataW.trod_int Tryz.underlying3 g5
   obtain ⟨z0, z1, z2, z3, q, _, t0, t1, t2, t3⟩ := trod_array4 Tryz.underlying29 ku g6
   obtain ⟨s0, f0, _, v0⟩ := DataW.trod_int Tryz.underlying27 t0
   obtain ⟨s1, f1, _, v1⟩ := DataW.trod_int Tryz.underlying27 t1
   obtain ⟨s2, f2, _, v2⟩ := DataW.trod_int Tryz.underlying27 t2
   obtain ⟨s3, f3, _, v3⟩ := DataW.trod_int Tryz.underlying27 t3
   simp at e2 e3 e4 e5 f0 f1 f2 f3
   subst e2 e3 e4 e5 f0 f1 f2 f3
   have b0 := u64_bd v0
   have b1 := u64_bd v1
   have b2 := u64_bd v2
   have b3 := u64_bd v3
   obtain ⟨n0, rfl⟩ := Int.eq_ofNat_of_zero_le b0.1
   obtain ⟨n1, rfl⟩ := Int.eq_ofNat_of_zero_le b1.1
   obtain ⟨n2, rfl⟩ := Int.eq_ofNat_of_zero_le b2.1
   obtain ⟨n3, rfl⟩ := Int.eq_ofNat_of_zero_le b3.1
   have b4 := i64_bd w3
   have b5 := i64_bd w4
   have b6 := i64_bd w5
   exact ⟨⟨ag, aa, bg, ba, two, size, level, birth, n0, n1, n2, n3⟩, rfl, by unfold PtrD.Ok; dsimp only; omega⟩
set_option maxRecDepth 100000 in
theorem open_ptr {b0 : Nat} {v : Value} {d : DataW H} {p : List MemPlace} (hv : Value.okWide Tryz.prog w .any b0 31 v) (h : DataW.Trod enc Tryz.prog w base spare held 31 v d p) :
 ∃ x : PtrD, v = .agg x.cells ∧ x.Ok := by
 obtain ⟨cs, rfl, hsz⟩ := okWide_struct Tryz.underlying31 hv
 have hk : Tryz.prog.cellsOf 31 = 12 := by kernel_rfl
 obtain ⟨fuel, hf⟩ := h
 obtain ⟨x, hx, hok⟩ := open_ptrs (cs := cs.toList) hf (by rw [Array.length_toList, hsz, hk])
 refine ⟨x, ?_, hok⟩
 congr 1
 rw [← Array.toList_inj]; exact hx
end
end Go.Proofs.YtbhkbcpljakmjaaGreat

namespace Go.Proofs.YtbhkbcpljakmjaaGreat
set_option linter.unusedVariables false
set_option linter.unusedSimpArgs false
open Go.ChangeShapes Go.WideShapes Go.ChangeAt Go.RowKit Go.Deep Go.Joins
structure HitD where
 dev : Int
 at_ : Int
 place : Int
 by_ : UInt8
def HitD.Ok (x : HitD) : Prop := (-9223372036854775808 ≤ x.dev ∧ x.dev ≤ 9223372036854775807) ∧ (-9223372036854775808 ≤ x.at_ ∧ x.at_ ≤ 9223372036854775807) ∧ (-9223372036854775808 ≤ x.place ∧ x.place ≤ 9223372036854775807)
def HitsAt (w : World) (v : Value) (l : List HitD) : Prop :=
 ∃ A c, v = .slice A l.length c ∧ l.length ≤ 9223372036854775807 ∧ (0 < l.length → ∃ b o, A = some ⟨b, o, none⟩ ∧ b < w.heap.size ∧ ∀ i x, l[i]? = some x →
   w.cell? ⟨b, o + i * 4, none⟩ = some (.int .i64 x.dev) ∧ w.cell? ⟨b, o + i * 4 + 1, none⟩ = some (.int .i64 x.at_) ∧ w.cell? ⟨b, o + i * 4 + 2, none⟩ = some (.int .i64 x.place) ∧ w.cell? ⟨b, o + i * 4 + 3, none⟩ = some (.int .u8 x.by_.toNat) ∧ x.Ok)
theorem HitsAt.same {w w' : World} {v : Value} {l : List HitD} (h : HitsAt w v l) (hs : w.heap.size ≤ w'.heap.size) (hb : ∀ b, b < w.heap.size → w'.heap[b]? = w.heap[b]?) : HitsAt w' v l := by
 obtain ⟨A, c, h1, h2, h3⟩ := h
 refine ⟨A, c, h1, h2, fun hp => ?_⟩
 obtain ⟨b, o, e1, e2, e3⟩ := h3 hp
 have hs' : ∀ j, w'.cell? ⟨b, j, none⟩ = w.cell? ⟨b, j, none⟩ := fun j => World.cell?_of_block (hb b e2)
 refine ⟨b, o, e1, Nat.lt_of_lt_of_le e2 hs, fun i x hx => ?_⟩
 simp only [hs']
 exact e3 i x hx
theorem HitsAt.below {w w' : World} {v : Value} {l : List HitD} (h : HitsAt w v l) (hb : Below w.heap.size w w') : HitsAt w' v l := h.same hb.size fun b hl => hb.block b hl
theorem HitsAt.form {w : World} {v : Value} {l : List HitD} (h : HitsAt w v l) : ∃ A c, v = .slice A l.length c := by
 obtain ⟨A, c, h1, _⟩ := h
 exact ⟨A, c, h1⟩
set_option maxRecDepth 100000 in
theorem open_hits {H : Type} {enc : TypeId × Value → H} {w : World} {base b0 : Nat} {spare : Nat → Bool} {held : Bool} {v : Value} {d : DataW H} {p : List MemPlace} (hv : Value.okWide Tryz.prog w .any b0 33 v)
 (h : DataW.Trod enc Tryz.prog w base spare held 33 v d p) : ∃ l, HitsAt w v l := by
 obtain ⟨a0, len0, cap0, rfl⟩ := okWide_slice Tryz.underlying33 hv
 obtain ⟨fuel, hf⟩ := h
 rcases open_slice_fields Tryz.underlying33 Tryz.underlying41 (by kernel_rfl) (by kernel_rfl) hf with ⟨hcs, _⟩ | ⟨a, len, cap, mm, D, Pl, hcs, hba, hl, hm, hmm, hx, hi⟩
 · simp [Value.cells] at hcs
   obtain ⟨rfl, rfl, rfl⟩ := hcs
   exact ⟨[], none, 0, rfl, by simp, fun h => by simp at h⟩
 · simp [Value.cells] at hcs
   obtain ⟨rfl, rfl, rfl⟩ := hcs
   have hlm : len0 ≤ mm := by rw [hmm]; split <;> omega
   have key : ∀ i, i < len0 → ∃ x : HitD, w.cell? (a.add (i * 4)) = some (.int .i64 x.dev) ∧ w.cell? (a.add (i * 4 + 1)) = some (.int .i64 x.at_) ∧ w.cell? (a.add (i * 4 + 2)) = some (.int .i64 x.place) ∧ w.cell? (a.add (i * 4 + 3)) = some (.int .u8 x.by_.toNat) ∧ x.Ok := by
    intro i hil
    obtain ⟨ys, n', _, _, _, hf⟩ := hi i (by omega)
    obtain ⟨v0, z0, hc0, _, ht0⟩ := hf 0 _ rfl
    obtain ⟨v1, z1, hc1, _, ht1⟩ := hf 1 _ rfl
    obtain ⟨v2, z2, hc2, _, ht2⟩ := hf 2 _ rfl
    obtain ⟨v3, z3, hc3, _, ht3⟩ := hf 3 _ rfl
    obtain ⟨n0, e0, _, w0⟩ := DataW.trod_int Tryz.underlying3 ht0
    obtain ⟨n1, e1, _, w1⟩ := DataW.trod_int Tryz.underlying3 ht1
    obtain ⟨n2, e2, _, w2⟩ := DataW.trod_int Tryz.underlying3 ht2
    obtain ⟨n3, e3, _, w3⟩ := DataW.trod_int Tryz.underlying5 ht3
    simp at e0 e1 e2 e3
    subst e0 e1 e2 e3
    have b3 := u8_bd w3
    obtain ⟨k3, rfl⟩ := Int.eq_ofNat_of_zero_le b3.1
    exact ⟨⟨n0, n1, n2, UInt8.ofNat k3⟩, hc0, hc1, hc2, by rw [UInt8.toNat_ofNat', Nat.mod_eq_of_lt (by omega)]; exact hc3, i64_bd w0, i64_bd w1, i64_bd w2⟩
   have hch : ∃ f : Nat → HitD, ∀ i, i < len0 → w.cell? (a.add (i * 4)) = some (.int .i64 (f i).dev) ∧ w.cell? (a.add (i * 4 + 1)) = some (.int .i64 (f i).at_) ∧ w.cell? (a.add (i * 4 + 2)) = some (.int .i64 (f i).place) ∧ w.cell? (a.add (i * 4 + 3)) = some (.int .u8 (f i).by_.toNat) ∧ (f i).Ok := by
    refine ⟨fun i => if h : i < len0 then Classical.choose (key i h) else ⟨0, 0, 0, 0⟩, fun i hi => ?_⟩
    simp only [hi, dif_pos]
    exact Classical.choose_spec (key i hi)
   obtain ⟨f, hf⟩ := hch
   have hlen : ((List.range len0).map f).length = len0 := by simp
   refine ⟨(List.range len0).map f, some a, cap0, by rw [hlen], by rw [hlen]; unfold maxLen at hm; omega, fun hp => ?_⟩
   rw [hlen] at hp
   have h0 := (hf 0 hp).1
   rw [Nat.zero_mul] at h0
   obtain ⟨b, off, rfl, hbl⟩ := slice_spot h0
   refine ⟨b, off, rfl, hbl, fun i x hx => ?_⟩
   have hil : i < len0 := by
    have := (List.getElem?_eq_some_iff.1 hx).1
    simpa using this
   have hx' : x = f i := by simpa [hil] using hx.symm
   subst hx'
   have := hf i hil
   simp only [WideShapes.add_plain] at this
   exact this
end Go.Proofs.YtbhkbcpljakmjaaGreat

namespace Go.Proofs.YtbhkbcpljakmjaaGreat
open Go.RowKit
set_option linter.unusedVariables false
def RdAt (w : World) (b : Nat) (l : List UInt8) (p : Nat) : Prop := w.heap[b]? = some (.cells #[str l, .int .i64 p] 189 (0, 0)) ∧ p ≤ l.length ∧ l.length ≤ 140737488351232
theorem RdAt.lt {w : World} {b p : Nat} {l : List UInt8} (h : RdAt w b l p) : b < w.heap.size := lt_of_block h.1
theorem RdAt.c0 {w : World} {b p : Nat} {l : List UInt8} (h : RdAt w b l p) : w.cell? ⟨b, 0, none⟩ = some (str l) := cell_of_row w b 0 _ _ _ h.1
theorem RdAt.c1 {w : World} {b p : Nat} {l : List UInt8} (h : RdAt w b l p) : w.cell? ⟨b, 1, none⟩ = some (.int .i64 p) := cell_of_row w b 1 _ _ _ h.1
theorem RdAt.fr {w : World} {b p : Nat} {l : List UInt8} (h : RdAt w b l p) (i : Nat) : w.frozen? ⟨b, i, none⟩ = false := by simp [World.frozen?, h.1]
theorem RdAt.keep {w w' : World} {b p B : Nat} {l : List UInt8} (h : RdAt w b l p) (hb : Below B w w') (hB : b < B) : RdAt w' b l p := ⟨(hb.block b hB).trans h.1, h.2⟩
theorem RdAt.drewN {w : World} {b p : Nat} {l : List UInt8} (h : RdAt w b l p) (n : Nat) : RdAt (w.drewN n) b l p := h
theorem RdAt.put {w : World} {b p q : Nat} {l : List UInt8} (h : RdAt w b l p) (hq : q ≤ l.length) : RdAt (w.setCell ⟨b, 1, none⟩ (.int .i64 q)) b l q := by
 refine ⟨?_, hq, h.2.2⟩
 have h1 := h.1
 simp [World.setCell, Array.getElem?_modify, h1]
theorem only_put {a w : World} {b : Nat} (h : a.grownBy w (some b)) (v : Value) : a.grownBy (w.setCell ⟨b, 1, none⟩ v) (some b) :=
 ⟨h.os, h.tape, h.output, by simpa [World.setCell] using h.size, fun i hi hne => (Below.heap_setCell w ⟨b, 1, none⟩ v i (by rintro rfl; exact hne rfl)).trans (h.block i hi hne)⟩
theorem only_drewN {a w : World} {row : Option Nat} (h : a.grownBy w row) (n : Nat) : a.grownBy (w.drewN n) row := ⟨h.os, h.tape, h.output, h.size, h.block⟩
theorem new_any (l : List UInt8) (w : World) (hl : l.length ≤ 140737488351232) :
 Calls Tryz.prog 93 #[str l] w fun e w' => e = .returned (.pointer (some ⟨w.heap.size, 0, none⟩)) ∧ RdAt w' w.heap.size l 0 ∧ Below w.heap.size w w' := by
 go_enter Tryz.func93, Tryz.ntmps93
 go_wp2_with fail
 go_ret
 exact ⟨rfl, ⟨heap_alloc_new w _, Nat.zero_le _, hl⟩, (Below.refl _ _).alloc (Nat.le_refl _) _⟩
theorem left_any (b p : Nat) (l : List UInt8) (w : World) (h : RdAt w b l p) :
 Calls Tryz.prog 95 #[.pointer (some ⟨b, 0, none⟩)] w fun e w' => e = .returned (.int .i64 ((l.length : Int) - p)) ∧ ∃ n, w' = w.drewN n := by
 have c0 := h.c0
 have c1 := h.c1
 have hp := h.2.1
 have hl := h.2.2
 have e1 : IntKind.i64.wrap ((l.length : Int) - p) = (l.length : Int) - p := by rw [IntKind.wrap_i64]; omega
 clear h
 go_enter Tryz.func95, Tryz.ntmps95
 go_wp2_with fail
 go_quiet (fail)
 go_wp2_with fail
 go_ret
 exact ⟨rfl, nq, rfl⟩
def numTo (l : List UInt8) (p : Nat) : Nat → Int
 | 0 => 0
 | k + 1 => bits .or .u64 (numTo l p k) (IntKind.u64.wrap (IntKind.u64.wrap ((l.getD (p + k) 0).toNat : Int) * 2 ^ (8 * k)))
def nbErr (l : List UInt8) (p n : Nat) : Int := if (l.length : Int) - p < n then 2 else 0
def nbVal (l : List UInt8) (p n : Nat) : Int := if (l.length : Int) - p < n then 0 else numTo l p n
def nbPos (l : List UInt8) (p n : Nat) : Nat := if (l.length : Int) - p < n then p else p + n
theorem number_any (b p n : Nat) (l : List UInt8) (w : World) (h : RdAt w b l p) (hn : n ≤ 8) :
 Calls Tryz.prog 122 #[.pointer (some ⟨b, 0, none⟩), .int .i64 n] w fun e w' =>
  e = .returned (.tuple #[.int .u64 (nbVal l p n), .int .i64 (nbErr l p n)]) ∧ RdAt w' b l (nbPos l p n) ∧ w.grownBy w' (some b) := by
 have HL := Lib.hid (left_any b p l w h)
 have HR := Lib.hid h
 by_cases hlt : (l.length : Int) - p < n
 · have he : Hid (nbErr l p n = 2 ∧ nbVal l p n = 0 ∧ nbPos l p n = p) := by unfold Hid nbErr nbVal nbPos; rw [if_pos hlt, if_pos hlt, if_pos hlt]; exact ⟨rfl, rfl, rfl⟩
   clear h
   go_enter Tryz.func122, Tryz.ntmps122
   go_wp2_with fail
   refine HL.out.mono ?_
   rintro e w' ⟨rfl, k, rfl⟩
   go_wp2_with fail
   go_ret2
   rw [he.out.1, he.out.2.1, he.out.2.2]
   exact ⟨rfl, HR.out.drewN k, only_drewN (World.grownBy.refl _ _) k⟩
 · have he : Hid (nbErr l p n = 0 ∧ nbVal l p n = numTo l p n ∧ nbPos l p n = p + n) := by unfold Hid nbErr nbVal nbPos; rw [if_neg hlt, if_neg hlt, if_neg hlt]; exact ⟨rfl, rfl, rfl⟩
   have hp := h.2.1
   have hl := h.2.2
   have hpm : p + n ≤ l.length := by omega
   clear h
   go_enter Tryz.func122, Tryz.ntmps122
   go_wp2_with fail
   refine HL.out.mono ?_
   rintro e w' ⟨rfl, k0, rfl⟩
   go_wp2_with fail
   go_loopw [6, 13] (fun x t wr => ∃ k : Nat, k ≤ n ∧ t = .int .i64 k ∧ x = .int .u64 (numTo l p k) ∧ RdAt wr b l p ∧ w.grownBy wr (some b)) (fun _ t _ => n - (RowKit.intOf t).toNat)
   case atStart => exact ⟨0, Nat.zero_le _, rfl, rfl, HR.out.drewN k0, only_drewN (World.grownBy.refl _ _) k0⟩
   case round =>
    obtain ⟨k, hk, rfl, rfl, hR, hG⟩ := hrel
    have c0 := hR.c0
    have c1 := hR.c1
    have f1 := hR.fr 1
    have HR2 := Lib.hid hR
    clear hR
    by_cases hlt2 : k < n
    · have w1 : IntKind.i64.wrap ((p : Int) + k) = p + k := by rw [IntKind.wrap_i64]; omega
      have w2 : IntKind.i64.wrap (8 * (k : Int)) = 8 * k := by rw [IntKind.wrap_i64]; omega
      have i1 : (0 : Int) ≤ (p : Int) + k := by omega
      have i2 : (p : Int) + k < l.length := by omega
      go_wp2_with fail
      go_quiet (fail)
      go_wp2_with fail
      go_roundw
      case rel =>
       refine ⟨k + 1, by omega, by go_num, ?_, HR2.out.drewN nq, only_drewN hG nq⟩
       have hpk : p + k < l.length := by omega
       have hg : (ByteArray.mk l.toArray)[p + k]'(by rw [ba_size]; exact hpk) = l.getD (p + k) 0 := by
        rw [ba_get, List.getD_eq_getElem?_getD, List.getElem?_eq_getElem hpk]; rfl
       rw [hg]
       rfl
      case measure => simp [RowKit.intOf]; omega
    · obtain rfl : k = n := by omega
      go_wp2_with fail
      go_ret2
      rw [he.out.1, he.out.2.1, he.out.2.2]
      exact ⟨rfl, HR2.out.put hpm, only_put hG _⟩
end Go.Proofs.YtbhkbcpljakmjaaGreat

namespace Go.Proofs.YtbhkbcpljakmjaaGreat
open Go.RowKit
set_option linter.unusedVariables false
end Go.Proofs.YtbhkbcpljakmjaaGreat

namespace Go.Proofs.YtbhkbcpljakmjaaGreat
open Go.RowKit
set_option linter.unusedVariables false
def leNat : List UInt8 → Nat
 | [] => 0
 | x :: r => x.toNat + 256 * leNat r
theorem leNat_snoc (l : List UInt8) (x : UInt8) : leNat (l ++ [x]) = leNat l + x.toNat * 256 ^ l.length := by
 induction l with
 | nil => simp [leNat]
 | cons y l ih =>
  simp only [List.cons_append, leNat, ih, List.length_cons, Nat.pow_succ, Nat.mul_add]
  rw [show x.toNat * (256 ^ l.length * 256) = 256 * (x.toNat * 256 ^ l.length) by rw [Nat.mul_comm (256 ^ l.length) 256, Nat.mul_left_comm]]
  omega
theorem leNat_lt (l : List UInt8) : leNat l < 256 ^ l.length := by
 induction l with
 | nil => simp [leNat]
 | cons x l ih =>
  have := x.toNat_lt
  simp only [leNat, List.length_cons, Nat.pow_succ]
  omega
theorem pow256 (k : Nat) : (256 : Nat) ^ k = 2 ^ (8 * k) := by rw [Nat.pow_mul]
theorem pow256_le {k n : Nat} (h : k ≤ n) : (256 : Nat) ^ k ≤ 256 ^ n := Nat.pow_le_pow_right (by omega) h
theorem or_step (x b k : Nat) (hx : x < 256 ^ k) (hb : b < 256) (hk : k < 8) :
 bits .or .u64 (x : Int) (IntKind.u64.wrap (IntKind.u64.wrap (b : Int) * 2 ^ (8 * k))) = ((x + b * 256 ^ k : Nat) : Int) := by
 have h8 : (256 : Nat) ^ k * 256 ≤ 18446744073709551616 := by
  have := pow256_le (show k + 1 ≤ 8 by omega)
  rw [Nat.pow_succ] at this
  exact Nat.le_trans this (by decide)
 have hbk : b * 256 ^ k < 18446744073709551616 := by
  have : b * 256 ^ k < 256 * 256 ^ k := Nat.mul_lt_mul_of_pos_right hb (Nat.pow_pos (by omega))
  omega
 have w1 : IntKind.u64.wrap (b : Int) = b := IntWalk.u64_in _ (by omega)
 have w2 : ((b : Int) * 2 ^ (8 * k)) = ((b * 256 ^ k : Nat) : Int) := by rw [pow256]; push_cast; rfl
 have w3 : IntKind.u64.wrap ((b * 256 ^ k : Nat) : Int) = ((b * 256 ^ k : Nat) : Int) := IntWalk.u64_in _ (by omega)
 rw [w1, w2, w3, u64_or_nat _ _ (by omega) hbk]
 congr 1
 rw [pow256] at hx ⊢
 rw [Nat.or_comm, ← Nat.shiftLeft_eq, ← Nat.shiftLeft_add_eq_or_of_lt hx]
 omega
theorem numTo_eq (l : List UInt8) (p k : Nat) (h : p + k ≤ l.length) (hk : k ≤ 8) : numTo l p k = (leNat ((l.drop p).take k) : Nat) := by
 induction k with
 | zero => simp [numTo, leNat]
 | succ k ih =>
  have hlt : p + k < l.length := by omega
  have hg : (l.drop p)[k]? = some (l[p + k]'hlt) := by rw [List.getElem?_drop]; exact List.getElem?_eq_getElem hlt
  have e1 : l.getD (p + k) 0 = l[p + k]'hlt := by rw [List.getD_eq_getElem?_getD, List.getElem?_eq_getElem hlt]; rfl
  have e2 : ((l.drop p).take k).length = k := by rw [List.length_take, List.length_drop]; omega
  have e3 := leNat_lt ((l.drop p).take k)
  rw [e2] at e3
  rw [numTo, ih (by omega) (by omega), e1, or_step _ _ _ e3 (UInt8.toNat_lt _) (by omega)]
  congr 1
  rw [List.take_add_one, hg]
  simp only [Option.toList_some]
  rw [leNat_snoc, e2]
def rdN (l : List UInt8) (p n : Nat) : Nat := if (l.length : Int) - p < n then 0 else leNat ((l.drop p).take n)
theorem nbVal_eq {l : List UInt8} {p n : Nat} (hn : n ≤ 8) (hp : p ≤ l.length) : nbVal l p n = (rdN l p n : Nat) := by
 unfold nbVal rdN
 split
 · rfl
 · rename_i h
   exact numTo_eq l p n (by omega) hn
theorem rdN_lt (l : List UInt8) (p n : Nat) : rdN l p n < 256 ^ n := by
 unfold rdN
 split
 · exact Nat.pow_pos (by omega)
 · have := leNat_lt ((l.drop p).take n)
   refine Nat.lt_of_lt_of_le this (pow256_le ?_)
   rw [List.length_take]; omega
theorem num_any (b p n : Nat) (l : List UInt8) (w : World) (h : RdAt w b l p) (hn : n ≤ 8) :
 Calls Tryz.prog 122 #[.pointer (some ⟨b, 0, none⟩), .int .i64 n] w fun e w' =>
  e = .returned (.tuple #[.int .u64 (rdN l p n : Nat), .int .i64 (nbErr l p n)]) ∧ RdAt w' b l (nbPos l p n) ∧ w.grownBy w' (some b) :=
 (number_any b p n l w h hn).mono fun e w' ⟨h1, h2⟩ => ⟨by rw [h1, nbVal_eq hn h.2.1], h2⟩
theorem rU32_any (b p : Nat) (l : List UInt8) (w : World) (h : RdAt w b l p) :
 Calls Tryz.prog 96 #[.pointer (some ⟨b, 0, none⟩)] w fun e w' =>
  e = .returned (.tuple #[.int .i64 (rdN l p 4 : Nat), .int .i64 (nbErr l p 4)]) ∧ RdAt w' b l (nbPos l p 4) ∧ w.grownBy w' (some b) := by
 have H := Lib.hid (num_any b p 4 l w h (by omega))
 have hlt := rdN_lt l p 4
 have hw : IntKind.i64.wrap ((rdN l p 4 : Nat) : Int) = (rdN l p 4 : Nat) := by rw [IntKind.wrap_i64] <;> omega
 clear h
 generalize rdN l p 4 = v at *
 go_enter Tryz.func96, Tryz.ntmps96
 go_wp2_with fail
 refine H.out.mono ?_
 rintro e w' ⟨rfl, hR, hG⟩
 go_wp2_with fail
 go_ret2
 exact ⟨rfl, hR, hG⟩
end Go.Proofs.YtbhkbcpljakmjaaGreat

namespace Go.Proofs.YtbhkbcpljakmjaaGreat
set_option linter.unusedVariables false
set_option linter.unusedSimpArgs false
open Go.RowKit
def wordsP (P : List UInt8) : List Nat := (List.range (P.length / 4)).map fun k => rdN P (4 * k) 4
def wordsL (s : List UInt8) : List Nat := wordsP (padL s 4)
def M64 : Nat := 18446744073709551616
def fstep (x : Nat × Nat × Nat × Nat) (w : Nat) : Nat × Nat × Nat × Nat :=
 ((x.1 + w) % M64, (x.2.1 + (x.1 + w) % M64) % M64, (x.2.2.1 + (x.2.1 + (x.1 + w) % M64) % M64) % M64, (x.2.2.2 + (x.2.2.1 + (x.2.1 + (x.1 + w) % M64) % M64) % M64) % M64)
def fsum (s : List UInt8) : Nat × Nat × Nat × Nat := (wordsL s).foldl fstep (0, 0, 0, 0)
abbrev fcells (x : Nat × Nat × Nat × Nat) : Array Value := #[.int .u64 x.1, .int .u64 x.2.1, .int .u64 x.2.2.1, .int .u64 x.2.2.2]
theorem keepF {W W' : World} {b o : Nat} {v : Value} (h : W.cell? ⟨b, o, none⟩ = some v) (hb : Below W.heap.size W W') : W'.cell? ⟨b, o, none⟩ = some v :=
 (World.cell?_of_block (hb.block b (World.block_lt_of_cell? W _ h))).trans h
end Go.Proofs.YtbhkbcpljakmjaaGreat

namespace Go.Proofs.YtbhkbcpljakmjaaGreat
set_option linter.unusedVariables false
set_option linter.unusedSimpArgs false
open Go.RowKit
def Firm {β : Type} (B : Nat) (I : β → World → Prop) : Prop := ∀ s W W' row, I s W → W.grownBy W' row → (∀ r, row = some r → B ≤ r) → I s W'
def FirmC {β : Type} (B : Nat) (J : β → World → Prop) : Prop := ∀ s W W' row, J s W → W.grownBy W' row → (∀ r, row = some r → B ≤ r ∧ ∃ o : Obj, W.heap[r]? = some o ∧ o.isCells = true) → J s W'
theorem FirmC.mono {β : Type} {B B' : Nat} {J : β → World → Prop} (h : FirmC B J) (hB : B ≤ B') : FirmC B' J := fun s W W' row hs hg hr => h s W W' row hs hg fun r e => ⟨Nat.le_trans hB (hr r e).1, (hr r e).2⟩
theorem FirmC.below {β : Type} {B : Nat} {J : β → World → Prop} (h : FirmC B J) {s : β} {W W' : World} (hs : J s W) (hb : Below W.heap.size W W') : J s W' :=
 h s W W' none hs ⟨hb.os, hb.tape, hb.output, hb.size, fun i hi _ => hb.block i hi⟩ (fun r e => by cases e)
def SeqCells {α : Type} (F : Fence) (n : Nat) (P : Program) (g : Nat) (lb : Array Value) (encs : α → Array Value) (Kp : World → World → Prop) (xs : List α) (w : World) : Prop :=
 ∀ (l : Nat) (J : List α → World → Prop) (W : World), Below w.heap.size w W → FirmC W.heap.size J →
   (∀ pre x W1, J pre W1 → pre ++ [x] <+: xs → YieldAt F (n - 1) P l (encs x) W1 fun e W' => e = .returned (.bool true) ∧ J (pre ++ [x]) W' ∧ Kp W1 W') →
   J [] W → CallsIn F n P g (#[.func (.yield l) #[] #[]] ++ lb) W fun e W' => (∃ v, e = .returned v) ∧ J xs W'
def roundEnd {α : Type} (B : Nat) (Kp : World → World → Prop) (I : List α → World → Prop) (pre : List α) (W : World) : Exit → Act → World → Prop
 | .normal, _, W' => KeepsFrom B W W' ∧ Kp W W' ∧ I pre W'
 | _, _, _ => False
variable {F : Fence} {n : Nat} {P : Program}
theorem wpIn_range_cells {α : Type} {g : Operand} {ps : Array Tmp} {assign body : Code} {Q : Exit → Act → World → Prop} {a : Act} {w : World} (hro : F.round = none) (h1 : 1 ≤ n) {gf : Nat} {lb : Array Value}
 (hg : a.eval g = .func (.func gf) #[] lb) (hFg : F.fn gf) (eg : ∀ args w, (callFunc gf args).run P w = .ok (.enter gf args) w) {encs : α → Array Value} {Kp : World → World → Prop} {xs : List α} (hseq : SeqCells F (n - 1) P gf lb encs Kp xs w)
 (hKt : ∀ {A B C : World}, Kp A B → Kp B C → Kp A C) (hKb : ∀ (W : World) (l : Nat) (o o' : Obj), W.heap[l]? = some o → o.isCells = false → Kp W (W.putObj l o')) (hps : ∀ x, (encs x).size = ps.size)
 (I : List α → World → Prop) (hI : Firm w.heap.size I) (h0 : I [] w) (a₁ : α → Act)
 (hassign : ∀ (l : Nat) (x : α) (W : World) (K : Act → World → Prop), K (a₁ x) W →
   assign.wpIn (F.inRound l) (n - 1 - 1) P (Exit.then K (fun _ _ _ => False)) { tmps := (ps.zip (encs x)).foldl (fun t (p, v) => t.setIfInBounds p v) a.tmps, defers := [] } W)
 (hbody : ∀ (l : Nat) (pre : List α) (x : α) (W : World), I pre W → pre ++ [x] <+: xs → body.wpIn (F.inRound l) (n - 1 - 1) P (roundEnd w.heap.size Kp I (pre ++ [x]) W) (a₁ x) W)
 (hdone : ∀ (D : Nat) (W : World), w.heap.size ≤ D → I xs W → W.heap[D]? = some (.deferred (some [])) → Q .normal { a with defers := { target := .collected D, args := #[] } :: a.defers } W) :
 (Code.rangeFunc g ps assign body).wpIn F n P Q a w := by
 refine wpIn_rangeFunc fun fn hfn => ?_
 rw [hro]
 let L : LoopState → Loop := fun st => { state := st, pending := none, fn, tmps := a.tmps, params := ps, assign, body, defers := w.heap.size }
 let V : World := (w.alloc (.deferred (some []))).alloc (.loop (L .ready))
 have vl : V.heap[w.heap.size + 1]? = some (.loop (L .ready)) := by
  have := World.alloc_heap_new (w.alloc (.deferred (some []))) (.loop (L .ready))
  rwa [World.size_alloc] at this
 have vd : V.heap[w.heap.size]? = some (.deferred (some [])) := (Below.heap_alloc _ _ _ (by simp)).trans (World.alloc_heap_new w _)
 have vb : Below w.heap.size w V := ((Below.refl _ w).alloc (Nat.le_refl _) _).alloc (by simp) _
 have vs : V.heap.size = w.heap.size + 2 := by simp [V]
 have vi : I [] V := hI _ _ _ none h0 ⟨vb.os, vb.tape, vb.output, vb.size, fun i hi _ => vb.block i hi⟩ (fun r e => by cases e)
 have put : ∀ {s : List α} {W : World} {o o' : Obj}, I s W → I s (W.putObj (w.heap.size + 1) o') := fun {s W o o'} hs => hI s W _ (some (w.heap.size + 1)) hs (grownBy_putObj' W _ o') (fun r e => by cases e; omega)
 refine ⟨w.heap.size + 1, [{ target := .collected w.heap.size, args := #[] }], V, { target := .fn (.func gf) lb, args := #[.func (.yield (w.heap.size + 1)) #[] #[]] }, V, gf,
  #[.func (.yield (w.heap.size + 1)) #[] #[]] ++ lb, V, run_enterLoop_outer _ _ _ _ _, by simp only [resolve, hg]; simp [go_sem], fun f' hf' => by simp [Target.leads] at hf'; subst hf'; exact hFg, by simp [invoke, go_sem, eg], fun _ => h1, ?_⟩
 have firm : FirmC V.heap.size fun (pre : List α) W => I pre W ∧ W.heap[w.heap.size + 1]? = some (.loop (L .ready)) ∧ W.heap[w.heap.size]? = some (.deferred (some [])) := by
  rintro s A B row ⟨i1, i2, i3⟩ hgr hr
  have hne : ∀ r, row = some r → w.heap.size + 2 ≤ r := fun r e => by have := (hr r e).1; omega
  refine ⟨hI s A B row i1 hgr fun r e => by have := hne r e; omega, (hgr.block _ (Array.getElem?_eq_some_iff.1 i2).1 fun e => ?_).trans i2, (hgr.block _ (Array.getElem?_eq_some_iff.1 i3).1 fun e => ?_).trans i3⟩
  · have := hne _ e.symm; omega
  · have := hne _ e.symm; omega
 refine (hseq (w.heap.size + 1) _ V vb firm ?_ ⟨vi, vl, vd⟩).mono ?_
 · rintro pre x W ⟨i1, i2, i3⟩ hpre
   have hlt : w.heap.size + 1 < W.heap.size := (Array.getElem?_eq_some_iff.1 i2).1
   refine ⟨fn, _, assign, body, run_yield (args := encs x) i2 (hps x), roundIn_of_wpIn hfn (hassign _ x W _ ⟨_, run_beginRound i2 rfl, ?_⟩)⟩
   have j2 : (W.putObj (w.heap.size + 1) (.loop (L .busy))).heap[w.heap.size + 1]? = some (.loop (L .busy)) := World.putObj_heap_same hlt
   have j3 : (W.putObj (w.heap.size + 1) (.loop (L .busy))).heap[w.heap.size]? = some (.deferred (some [])) := (World.putObj_heap_other (by omega)).trans i3
   refine wpIn_mono (hbody _ pre x _ (put (o := .loop (L .ready)) i1) hpre) ?_
   intro e a3 W3 hp
   cases e with
   | normal =>
    obtain ⟨k1, k2, k3⟩ := hp
    have m2 := k1.same _ _ (by omega) j2 rfl
    have m3 := k1.same _ _ (Nat.le_refl _) j3 rfl
    exact ⟨_, _, run_endRound none m2, ⟨rfl, ⟨put (o := .loop (L .busy)) k3, World.putObj_heap_same (Array.getElem?_eq_some_iff.1 m2).1, (World.putObj_heap_other (by omega)).trans m3⟩,
     hKt (hKt (hKb _ _ _ _ i2 rfl) k2) (hKb _ _ _ _ m2 rfl)⟩⟩
   | ret => exact hp.elim
   | exit id => exact hp.elim
   | goto t => exact hp.elim
   | panic c => exact hp.elim
   | outgrown => exact hp.elim
 · rintro e W2 ⟨⟨v, rfl⟩, i1, i2, i3⟩
   exact ⟨none, _, run_endLoop i2 (by simp), hdone _ _ (Nat.le_refl _) (put (o := .loop (L .ready)) i1) ((World.putObj_heap_other (by omega)).trans i3)⟩
end Go.Proofs.YtbhkbcpljakmjaaGreat
