/-
  Contracts of package le, second part: Pad, its reference, the document's example.
  What pointers' functions call: cmp.Compare, cmp.Or, ptr.within, ptr.small, fletch.Bytes.
  Contracts of package ptr: None, Less, Places, Bytes.
  An argument that is a pointer, opened.
  Arguments of the laws of layer 10: bytes that are spoilt.
  Contracts of package code: Fits, Bad.
-/
import Derived.Test.YtbhkbcpljakmjaaGreatJ17
import Derived.Test.YtbhkbcpljakmjaaGreatShelf
import Derived.Test.YtbhkbcpljakmjaaGreatJ01
import Derived.StillTailTactics
import Derived.Laws.IdiomArrays
import Derived.Deep.Grids
import Derived.Test.YtbhkbcpljakmjaaGreatJ14
namespace Go.Proofs.YtbhkbcpljakmjaaGreat
open Go.RowKit
set_option linter.unusedVariables false

theorem repeat_one (x : UInt8) : ∀ n, Lib.repeatL [x] n = List.replicate n x
  | 0 => rfl
  | n + 1 => by rw [Lib.repeatL, repeat_one x n]; rfl

def padN (len t : Nat) : Nat := (t - len % t) % t
def padL (l : List UInt8) (tt : Int) : List UInt8 := if 1 ≤ tt ∧ tt ≤ 4096 then l ++ List.replicate (padN l.length tt.toNat) 0 else l
theorem padN_lt {len t : Nat} (h : 1 ≤ t) : padN len t < t := Nat.mod_lt _ (by omega)

theorem pad_any (l : List UInt8) (tt : Int) (w : World) (hl : l.length ≤ 140737488351232) :
    Calls Tryz.prog 94 #[str l, .int .i64 tt] w fun e w' => e = .returned (str (padL l tt)) ∧ Below w.heap.size w w' := by
  by_cases h : 1 ≤ tt ∧ tt ≤ 4096
  · obtain ⟨h1, h2⟩ := h
    obtain ⟨t, rfl⟩ := Int.eq_ofNat_of_zero_le (show 0 ≤ tt by omega)
    have he : Hid (padL l t = l ++ List.replicate (padN l.length t) 0) := by unfold Hid padL; rw [if_pos ⟨h1, h2⟩]; simp
    have hk := padN_lt (len := l.length) (t := t) (by omega)
    have r1 : (0 : Int) ≤ (l.length : Int) % t := Int.emod_nonneg _ (by omega)
    have r2 : (l.length : Int) % t < t := Int.emod_lt_of_pos _ (by omega)
    have r3 : (t - (l.length : Int) % t) % t = (padN l.length t : Nat) := by
      unfold padN
      have : l.length % t < t := Nat.mod_lt _ (by omega)
      rw [Int.natCast_emod, Int.natCast_sub (by omega), Int.natCast_emod]
    have r3' : -((l.length : Int) % t) % t = (padN l.length t : Nat) := by rw [← r3]; simp
    have R3 := Lib.hid r3'
    have hd : (Lib.repeatL (⟨#[0]⟩ : ByteArray).data.toList (padN l.length t)) = List.replicate (padN l.length t) 0 := repeat_one 0 _
    have HD := Lib.hid hd
    clear r3 r3' hd
    go_enter Tryz.func94, Tryz.ntmps94
    go_wp2_with fail
    rw [R3.out]
    refine (Tryz.strings_Repeat ⟨#[0]⟩ (padN l.length t) _ (by omega) (by show 1 * _ ≤ _; omega)).mono ?_
    rintro e w1 ⟨rfl, hb⟩
    rw [HD.out]
    go_wp2_with fail
    go_ret
    refine ⟨?_, hb⟩
    rw [he.out]
    exact congrArg (fun b => Ending.returned (Value.string b)) (ByteArray.mk_append_mk l (List.replicate (padN l.length t) 0))
  · have he : Hid (padL l tt = l) := by unfold Hid padL; rw [if_neg h]
    go_enter Tryz.func94, Tryz.ntmps94
    go_wp2_with fail
    all_goals go_ret
    all_goals exact ⟨ret_str he.out.symm, Below.refl _ _⟩

theorem padTo_step (l : List UInt8) (t k : Nat) (h1 : 1 ≤ t) (hk : k ≤ padN l.length t) : (l.length + k) % t = 0 ↔ k = padN l.length t := by
  have hm : l.length % t < t := Nat.mod_lt _ (by omega)
  unfold padN at *
  have hd := Nat.div_add_mod l.length t
  rcases Nat.eq_zero_or_pos (l.length % t) with h0 | h0
  · rw [h0, Nat.sub_zero, Nat.mod_self] at hk ⊢
    have : k = 0 := by omega
    subst this
    simp [h0]
  · rw [Nat.mod_eq_of_lt (by omega : t - l.length % t < t)] at hk ⊢
    constructor
    · intro h
      rcases Nat.lt_or_ge k (t - l.length % t) with hlt | hge
      · have e : (l.length + k) % t = (l.length % t + k) % t := by rw [Nat.mod_add_mod]
        rw [e, Nat.mod_eq_of_lt (by omega)] at h
        omega
      · omega
    · intro h
      rw [← Nat.mod_add_mod, h, show l.length % t + (t - l.length % t) = t from by omega, Nat.mod_self]

def strLen : Value → Nat
  | .string s => s.size
  | _ => 0
theorem refPad_any (l : List UInt8) (tt : Int) (w : World) (hl : l.length ≤ 140737488351232) :
    Calls Tryz.prog 106 #[str l, .int .i64 tt] w fun e w' => e = .returned (str (padL l tt)) ∧ Below w.heap.size w w' := by
  by_cases h : 1 ≤ tt ∧ tt ≤ 4096
  · obtain ⟨h1, h2⟩ := h
    obtain ⟨t, rfl⟩ := Int.eq_ofNat_of_zero_le (show 0 ≤ tt by omega)
    have he : Hid (padL l t = l ++ List.replicate (padN l.length t) 0) := by unfold Hid padL; rw [if_pos ⟨h1, h2⟩]; simp
    have hk := padN_lt (len := l.length) (t := t) (by omega)
    go_enter Tryz.func106, Tryz.ntmps106
    go_wp2_with fail
    go_loop [0] (fun v => ∃ k : Nat, k ≤ padN l.length t ∧ v = str (l ++ List.replicate k 0)) (fun v => padN l.length t - (strLen v - l.length))
    case atStart => exact ⟨0, Nat.zero_le _, by simp⟩
    case round =>
      obtain ⟨k, hk2, rfl⟩ := hrel
      have hs := padTo_step l t k (by omega) hk2
      have hml : (l ++ List.replicate k (0 : UInt8)).length = l.length + k := by simp
      have hcast : (((l ++ List.replicate k (0 : UInt8)).length : Int) % t) = ((l.length + k) % t : Nat) := by rw [hml]; simp
      have hmb : (l ++ List.replicate k (0 : UInt8)).length ≤ 140737488355400 := by rw [hml]; omega
      have hnext : (l ++ List.replicate k (0 : UInt8)) ++ [0] = l ++ List.replicate (k + 1) 0 := by rw [List.append_assoc, ← List.replicate_succ']
      by_cases hlt : k < padN l.length t
      · have hq : ((((l ++ List.replicate k (0 : UInt8)).length : Int) % t) != 0) = true := by
          rw [hcast, bne_iff_ne]; intro h; have := hs.1 (by exact_mod_cast h); omega
        have HN := Lib.hid hnext
        have HM := Lib.hid hml
        clear hs hcast hnext hml
        generalize l ++ List.replicate k (0 : UInt8) = m at *
        go_wp2_with fail
        go_round
        case rel =>
          refine ⟨k + 1, by omega, ?_⟩
          rw [← HN.out]
          exact congrArg Value.string (ByteArray.mk_append_mk m [0])
        case measure =>
          have e : strLen (Value.string ({ data := m.toArray } ++ { data := #[0] })) = m.length + 1 := by simp [strLen, ByteArray.size]
          have e2 : strLen (str m) = m.length := by simp [strLen, ByteArray.size]
          have := HM.out
          omega
      · have hq : ((((l ++ List.replicate k (0 : UInt8)).length : Int) % t) != 0) = false := by
          rw [hcast, bne_eq_false_iff_eq]; exact_mod_cast hs.2 (by omega)
        have hkN : k = padN l.length t := by omega
        have HE := Lib.hid hkN
        clear hs hcast hnext hml hkN
        generalize hm : l ++ List.replicate k (0 : UInt8) = m at *
        have HM := Lib.hid hm
        clear hm
        go_wp2_with fail
        go_ret
        exact ⟨ret_str (by rw [he.out, ← HM.out, HE.out]), Below.refl _ _⟩
  · have he : Hid (padL l tt = l) := by unfold Hid padL; rw [if_neg h]
    go_enter Tryz.func106, Tryz.ntmps106
    go_wp2_with fail
    all_goals go_ret
    all_goals exact ⟨ret_str he.out.symm, Below.refl _ _⟩

end Go.Proofs.YtbhkbcpljakmjaaGreat

namespace Go.Proofs.YtbhkbcpljakmjaaGreat
open Go.RowKit
set_option linter.unusedVariables false

/-- From b, off on lie these integers. -/
def IntsAt (w : World) (b off : Nat) (l : List Int) : Prop := b < w.heap.size ∧ ∀ (i : Nat) (x : Int), l[i]? = some x → w.cell? ⟨b, off + i, none⟩ = some (.int .i64 x)
theorem IntsAt.below {w w' : World} {b off B : Nat} {l : List Int} (h : IntsAt w b off l) (hb : Below B w w') (hB : w.heap.size ≤ B) : IntsAt w' b off l := by
  obtain ⟨h1, h2⟩ := h
  exact ⟨Nat.lt_of_lt_of_le h1 hb.size, fun i x hx => (hb.cell (p := ⟨b, off + i, none⟩) (by show b < B; omega)).trans (h2 i x hx)⟩
theorem IntsAt.new (w : World) (l : List Int) (t : TypeId) : IntsAt (w.alloc (.cells ((l.map (Value.int .i64)).toArray) t)) w.heap.size 0 l := by
  refine ⟨by simp, fun i x hx => ?_⟩
  exact cell_new rfl (by simp [hx])

def cmpInt (x y : Int) : Int := if x < y then -1 else if y < x then 1 else 0
theorem isNaN_any (x : Int) (w : World) : Calls Tryz.prog 151 #[.int .i64 x] w fun e w' => e = .returned (.bool false) ∧ w = w' := by
  go_enter Tryz.func151, Tryz.ntmps151
  go_wp2_with fail
  go_ret
  exact ⟨ret_bool (by simp), rfl⟩
/-- The first of the numbers that is not zero. -/
def orL : List Int → Int
  | [] => 0
  | x :: r => if x = 0 then orL r else x
theorem orL_skip {l : List Int} {k : Nat} (h : ∀ j, j < k → l[j]? = some 0) : orL l = orL (l.drop k) := by
  induction k generalizing l with
  | zero => rfl
  | succ k ih =>
    cases l with
    | nil => simp
    | cons x r =>
      have h0 : x = 0 := by simpa using h 0 (by omega)
      rw [orL, if_pos h0, List.drop_succ_cons]
      exact ih fun j hj => by simpa using h (j + 1) (by omega)

def withinL (most : Int) (l : List Int) : Bool := l.all fun x => decide (0 ≤ x) && decide (x ≤ most)
def smallL (l : List Int) : List UInt8 := l.flatMap u32L
theorem u32L_len (n : Int) : (u32L n).length ≤ 4 := by unfold u32L; split <;> simp [layL_len]
theorem smallL_step {l : List Int} {k : Nat} {x : Int} (h : l[k]? = some x) : smallL (l.take (k + 1)) = smallL (l.take k) ++ u32L x := by
  unfold smallL; rw [List.take_add_one, h]; simp
theorem smallL_len (l : List Int) : (smallL l).length ≤ 4 * l.length := by
  unfold smallL
  induction l with
  | nil => simp
  | cons x r ih => rw [List.flatMap_cons, List.length_append, List.length_cons]; have := u32L_len x; omega
def sumL (s : List Nat) : List UInt8 := s.flatMap fun x => layL x 8
theorem sumL_len (s : List Nat) : (sumL s).length = 8 * s.length := by
  unfold sumL
  induction s with
  | nil => rfl
  | cons x r ih => rw [List.flatMap_cons, List.length_append, List.length_cons, ih, layL_len]; omega
end Go.Proofs.YtbhkbcpljakmjaaGreat

namespace Go.Proofs.YtbhkbcpljakmjaaGreat
open Go.RowKit
set_option linter.unusedVariables false

/-- A pointer's numbers. -/
structure PtrD where
  ag : Int
  aa : Int
  bg : Int
  ba : Int
  two : Bool
  size : Int
  level : Int
  birth : Int
  s0 : Nat
  s1 : Nat
  s2 : Nat
  s3 : Nat
deriving DecidableEq

def PtrD.cells (p : PtrD) : Array Value := #[.int .i64 p.ag, .int .i64 p.aa, .int .i64 p.bg, .int .i64 p.ba, .bool p.two, .int .i64 p.size, .int .i64 p.level, .int .i64 p.birth, .int .u64 p.s0, .int .u64 p.s1, .int .u64 p.s2, .int .u64 p.s3]
def PtrD.Ok (p : PtrD) : Prop := p.s0 < 18446744073709551616 ∧ p.s1 < 18446744073709551616 ∧ p.s2 < 18446744073709551616 ∧ p.s3 < 18446744073709551616 ∧
  -9223372036854775808 ≤ p.size ∧ p.size ≤ 9223372036854775807 ∧ -9223372036854775808 ≤ p.level ∧ p.level ≤ 9223372036854775807 ∧ -9223372036854775808 ≤ p.birth ∧ p.birth ≤ 9223372036854775807

/-- p lies at block b from offset o on. -/
def PtrAt (w : World) (b o : Nat) (p : PtrD) : Prop :=
  w.cell? ⟨b, o, none⟩ = some (.int .i64 p.ag) ∧ w.cell? ⟨b, o + 1, none⟩ = some (.int .i64 p.aa) ∧ w.cell? ⟨b, o + 2, none⟩ = some (.int .i64 p.bg) ∧ w.cell? ⟨b, o + 3, none⟩ = some (.int .i64 p.ba) ∧
  w.cell? ⟨b, o + 4, none⟩ = some (.bool p.two) ∧ w.cell? ⟨b, o + 5, none⟩ = some (.int .i64 p.size) ∧ w.cell? ⟨b, o + 6, none⟩ = some (.int .i64 p.level) ∧ w.cell? ⟨b, o + 7, none⟩ = some (.int .i64 p.birth) ∧
  w.cell? ⟨b, o + 8, none⟩ = some (.int .u64 p.s0) ∧ w.cell? ⟨b, o + 9, none⟩ = some (.int .u64 p.s1) ∧ w.cell? ⟨b, o + 10, none⟩ = some (.int .u64 p.s2) ∧ w.cell? ⟨b, o + 11, none⟩ = some (.int .u64 p.s3)
theorem PtrAt.keep {w w' : World} {b o : Nat} {p : PtrD} (h : PtrAt w b o p) (hb : Below w.heap.size w w') (hlt : b < w.heap.size) : PtrAt w' b o p := by
  obtain ⟨h0, h1, h2, h3, h4, h5, h6, h7, h8, h9, ha, hc⟩ := h
  exact ⟨keep_cell hb h0 hlt, keep_cell hb h1 hlt, keep_cell hb h2 hlt, keep_cell hb h3 hlt, keep_cell hb h4 hlt, keep_cell hb h5 hlt, keep_cell hb h6 hlt, keep_cell hb h7 hlt, keep_cell hb h8 hlt, keep_cell hb h9 hlt, keep_cell hb ha hlt, keep_cell hb hc hlt⟩
theorem PtrAt.new (w : World) (p : PtrD) (t : TypeId) : PtrAt (w.alloc (.cells p.cells t)) w.heap.size 0 p :=
  ⟨cell_new rfl rfl, cell_new rfl rfl, cell_new rfl rfl, cell_new rfl rfl, cell_new rfl rfl, cell_new rfl rfl, cell_new rfl rfl, cell_new rfl rfl, cell_new rfl rfl, cell_new rfl rfl, cell_new rfl rfl, cell_new rfl rfl⟩

def lessB (p q : PtrD) : Bool := decide (orL [cmpInt p.birth q.birth, cmpInt p.ag q.ag, cmpInt p.aa q.aa] < 0)

end Go.Proofs.YtbhkbcpljakmjaaGreat

namespace Go.Proofs.YtbhkbcpljakmjaaGreat
open Go.ChangeShapes Go.WideShapes Go.ChangeAt Go.RowKit Go.Deep Go.Joins
set_option linter.unusedVariables false

section
variable {H : Type} {enc : TypeId × Value → H} {w : World} {base : Nat} {spare : Nat → Bool} {held : Bool}
theorem trod_place {n : Nat} {u v : Value} {x : DataW H × List MemPlace} (h : DataW.trod enc Tryz.prog w base spare held n 26 [u, v] = some x) : ∃ a b : Int, u = .int .i64 a ∧ v = .int .i64 b := by
  obtain ⟨xs, m, _, _, _, hlen, hg⟩ := DataW.trod_struct Tryz.underlying26 h
  match xs, hlen with
  | [y0, y1], _ =>
    have k : Tryz.prog.cellsOf 3 = 1 := by kernel_rfl
    have g0 : DataW.trod enc Tryz.prog w base spare held m 3 [u] = some y0 := by have t : DataW.trod enc Tryz.prog w base spare held m 3 (([u, v].drop 0).take (Tryz.prog.cellsOf 3)) = [y0, y1][0]? := hg 0 _ rfl; rw [k] at t; exact t
    have g1 : DataW.trod enc Tryz.prog w base spare held m 3 [v] = some y1 := by have t : DataW.trod enc Tryz.prog w base spare held m 3 (([u, v].drop 1).take (Tryz.prog.cellsOf 3)) = [y0, y1][1]? := hg 1 _ rfl; rw [k] at t; exact t
    obtain ⟨a, e0, _, _⟩ := DataW.trod_int Tryz.underlying3 g0
    obtain ⟨b, e1, _, _⟩ := DataW.trod_int Tryz.underlying3 g1
    simp at e0 e1
    exact ⟨a, b, e0, e1⟩

theorem open_ptrs {n : Nat} {cs : List Value} {x : DataW H × List MemPlace} (h : DataW.trod enc Tryz.prog w base spare held n 31 cs = some x) (hlen : cs.length = 12) :
    ∃ p : PtrD, cs = p.cells.toList ∧ p.Ok := by
  match cs, hlen with
  | [c0, c1, c2, c3, c4, c5, c6, c7, c8, c9, c10, c11], _ =>
    obtain ⟨xs, m, _, _, _, hl, hg⟩ := DataW.trod_struct Tryz.underlying31 h
    have kp : Tryz.prog.cellsOf 26 = 2 := by kernel_rfl
    have ki : Tryz.prog.cellsOf 3 = 1 := by kernel_rfl
    have kb : Tryz.prog.cellsOf 4 = 1 := by kernel_rfl
    have ks : Tryz.prog.cellsOf 29 = 4 := by kernel_rfl
    have ku : Tryz.prog.cellsOf 27 = 1 := by kernel_rfl
    match xs, hl with
    | [y0, y1, y2, y3, y4, y5, y6], _ =>
      have g0 : DataW.trod enc Tryz.prog w base spare held m 26 [c0, c1] = some y0 := by have t : DataW.trod enc Tryz.prog w base spare held m 26 (([c0, c1, c2, c3, c4, c5, c6, c7, c8, c9, c10, c11].drop 0).take (Tryz.prog.cellsOf 26)) = [y0, y1, y2, y3, y4, y5, y6][0]? := hg 0 _ rfl; rw [kp] at t; exact t
      have g1 : DataW.trod enc Tryz.prog w base spare held m 26 [c2, c3] = some y1 := by have t : DataW.trod enc Tryz.prog w base spare held m 26 (([c0, c1, c2, c3, c4, c5, c6, c7, c8, c9, c10, c11].drop 2).take (Tryz.prog.cellsOf 26)) = [y0, y1, y2, y3, y4, y5, y6][1]? := hg 1 _ rfl; rw [kp] at t; exact t
      have g2 : DataW.trod enc Tryz.prog w base spare held m 4 [c4] = some y2 := by have t : DataW.trod enc Tryz.prog w base spare held m 4 (([c0, c1, c2, c3, c4, c5, c6, c7, c8, c9, c10, c11].drop 4).take (Tryz.prog.cellsOf 4)) = [y0, y1, y2, y3, y4, y5, y6][2]? := hg 2 _ rfl; rw [kb] at t; exact t
      have g3 : DataW.trod enc Tryz.prog w base spare held m 3 [c5] = some y3 := by have t : DataW.trod enc Tryz.prog w base spare held m 3 (([c0, c1, c2, c3, c4, c5, c6, c7, c8, c9, c10, c11].drop 5).take (Tryz.prog.cellsOf 3)) = [y0, y1, y2, y3, y4, y5, y6][3]? := hg 3 _ rfl; rw [ki] at t; exact t
      have g4 : DataW.trod enc Tryz.prog w base spare held m 3 [c6] = some y4 := by have t : DataW.trod enc Tryz.prog w base spare held m 3 (([c0, c1, c2, c3, c4, c5, c6, c7, c8, c9, c10, c11].drop 6).take (Tryz.prog.cellsOf 3)) = [y0, y1, y2, y3, y4, y5, y6][4]? := hg 4 _ rfl; rw [ki] at t; exact t
      have g5 : DataW.trod enc Tryz.prog w base spare held m 3 [c7] = some y5 := by have t : DataW.trod enc Tryz.prog w base spare held m 3 (([c0, c1, c2, c3, c4, c5, c6, c7, c8, c9, c10, c11].drop 7).take (Tryz.prog.cellsOf 3)) = [y0, y1, y2, y3, y4, y5, y6][5]? := hg 5 _ rfl; rw [ki] at t; exact t
      have g6 : DataW.trod enc Tryz.prog w base spare held m 29 [c8, c9, c10, c11] = some y6 := by have t : DataW.trod enc Tryz.prog w base spare held m 29 (([c0, c1, c2, c3, c4, c5, c6, c7, c8, c9, c10, c11].drop 8).take (Tryz.prog.cellsOf 29)) = [y0, y1, y2, y3, y4, y5, y6][6]? := hg 6 _ rfl; rw [ks] at t; exact t
      obtain ⟨ag, aa, rfl, rfl⟩ := trod_place g0
      obtain ⟨bg, ba, rfl, rfl⟩ := trod_place g1
      obtain ⟨two, e2, _⟩ := DataW.trod_bool Tryz.underlying4 g2
      obtain ⟨size, e3, _, w3⟩ := DataW.trod_int Tryz.underlying3 g3
      obtain ⟨level, e4, _, w4⟩ := DataW.trod_int Tryz.underlying3 g4
      obtain ⟨birth, e5, _, w5⟩ := DataW.trod_int Tryz.underlying3 g5
      obtain ⟨z0, z1, z2, z3, q, _, t0, t1, t2, t3⟩ := trod_array4 Tryz.underlying29 ku g6
      obtain ⟨s0, f0, _, v0⟩ := DataW.trod_int Tryz.underlying27 t0
      obtain ⟨s1, f1, _, v1⟩ := DataW.trod_int Tryz.underlying27 t1
      obtain ⟨s2, f2, _, v2⟩ := DataW.trod_int Tryz.underlying27 t2
      obtain ⟨s3, f3, _, v3⟩ := DataW.trod_int Tryz.underlying27 t3
      simp at e2 e3 e4 e5 f0 f1 f2 f3
      subst e2 e3 e4 e5 f0 f1 f2 f3
      have b0 := u64_bd v0
      have b1 := u64_bd v1
      have b2 := u64_bd v2
      have b3 := u64_bd v3
      obtain ⟨n0, rfl⟩ := Int.eq_ofNat_of_zero_le b0.1
      obtain ⟨n1, rfl⟩ := Int.eq_ofNat_of_zero_le b1.1
      obtain ⟨n2, rfl⟩ := Int.eq_ofNat_of_zero_le b2.1
      obtain ⟨n3, rfl⟩ := Int.eq_ofNat_of_zero_le b3.1
      have b4 := i64_bd w3
      have b5 := i64_bd w4
      have b6 := i64_bd w5
      exact ⟨⟨ag, aa, bg, ba, two, size, level, birth, n0, n1, n2, n3⟩, rfl, by unfold PtrD.Ok; dsimp only; omega⟩

set_option maxRecDepth 100000 in
theorem open_ptr {b0 : Nat} {v : Value} {d : DataW H} {p : List MemPlace} (hv : Value.okWide Tryz.prog w .any b0 31 v) (h : DataW.Trod enc Tryz.prog w base spare held 31 v d p) :
    ∃ x : PtrD, v = .agg x.cells ∧ x.Ok := by
  obtain ⟨cs, rfl, hsz⟩ := okWide_struct Tryz.underlying31 hv
  have hk : Tryz.prog.cellsOf 31 = 12 := by kernel_rfl
  obtain ⟨fuel, hf⟩ := h
  obtain ⟨x, hx, hok⟩ := open_ptrs (cs := cs.toList) hf (by rw [Array.length_toList, hsz, hk])
  refine ⟨x, ?_, hok⟩
  congr 1
  rw [← Array.toList_inj]; exact hx
end
end Go.Proofs.YtbhkbcpljakmjaaGreat

namespace Go.Proofs.YtbhkbcpljakmjaaGreat
set_option linter.unusedVariables false
set_option linter.unusedSimpArgs false
open Go.ChangeShapes Go.WideShapes Go.ChangeAt Go.RowKit Go.Deep Go.Joins

/-- A byte of a device's sector that is spoilt. -/
structure HitD where
  dev : Int
  at_ : Int
  place : Int
  by_ : UInt8
def HitD.Ok (x : HitD) : Prop := (-9223372036854775808 ≤ x.dev ∧ x.dev ≤ 9223372036854775807) ∧ (-9223372036854775808 ≤ x.at_ ∧ x.at_ ≤ 9223372036854775807) ∧ (-9223372036854775808 ≤ x.place ∧ x.place ≤ 9223372036854775807)
def hitL (x : HitD) : List Value := [.int .i64 x.dev, .int .i64 x.at_, .int .i64 x.place, .int .u8 x.by_.toNat]
/-- A slice of them. -/
def HitsAt (w : World) (v : Value) (l : List HitD) : Prop :=
  ∃ A c, v = .slice A l.length c ∧ l.length ≤ 9223372036854775807 ∧ (0 < l.length → ∃ b o, A = some ⟨b, o, none⟩ ∧ b < w.heap.size ∧ ∀ i x, l[i]? = some x →
    w.cell? ⟨b, o + i * 4, none⟩ = some (.int .i64 x.dev) ∧ w.cell? ⟨b, o + i * 4 + 1, none⟩ = some (.int .i64 x.at_) ∧ w.cell? ⟨b, o + i * 4 + 2, none⟩ = some (.int .i64 x.place) ∧ w.cell? ⟨b, o + i * 4 + 3, none⟩ = some (.int .u8 x.by_.toNat) ∧ x.Ok)
theorem HitsAt.same {w w' : World} {v : Value} {l : List HitD} (h : HitsAt w v l) (hs : w.heap.size ≤ w'.heap.size) (hb : ∀ b, b < w.heap.size → w'.heap[b]? = w.heap[b]?) : HitsAt w' v l := by
  obtain ⟨A, c, h1, h2, h3⟩ := h
  refine ⟨A, c, h1, h2, fun hp => ?_⟩
  obtain ⟨b, o, e1, e2, e3⟩ := h3 hp
  have hs' : ∀ j, w'.cell? ⟨b, j, none⟩ = w.cell? ⟨b, j, none⟩ := fun j => World.cell?_of_block (hb b e2)
  refine ⟨b, o, e1, Nat.lt_of_lt_of_le e2 hs, fun i x hx => ?_⟩
  simp only [hs']
  exact e3 i x hx
theorem HitsAt.below {w w' : World} {v : Value} {l : List HitD} (h : HitsAt w v l) (hb : Below w.heap.size w w') : HitsAt w' v l := h.same hb.size fun b hl => hb.block b hl
theorem HitsAt.form {w : World} {v : Value} {l : List HitD} (h : HitsAt w v l) : ∃ A c, v = .slice A l.length c := by
  obtain ⟨A, c, h1, _⟩ := h
  exact ⟨A, c, h1⟩
set_option maxRecDepth 100000 in
theorem open_hits {H : Type} {enc : TypeId × Value → H} {w : World} {base b0 : Nat} {spare : Nat → Bool} {held : Bool} {v : Value} {d : DataW H} {p : List MemPlace} (hv : Value.okWide Tryz.prog w .any b0 33 v)
    (h : DataW.Trod enc Tryz.prog w base spare held 33 v d p) : ∃ l, HitsAt w v l := by
  obtain ⟨a0, len0, cap0, rfl⟩ := okWide_slice Tryz.underlying33 hv
  obtain ⟨fuel, hf⟩ := h
  rcases open_slice_fields Tryz.underlying33 Tryz.underlying41 (by kernel_rfl) (by kernel_rfl) hf with ⟨hcs, _⟩ | ⟨a, len, cap, mm, D, Pl, hcs, hba, hl, hm, hmm, hx, hi⟩
  · simp [Value.cells] at hcs
    obtain ⟨rfl, rfl, rfl⟩ := hcs
    exact ⟨[], none, 0, rfl, by simp, fun h => by simp at h⟩
  · simp [Value.cells] at hcs
    obtain ⟨rfl, rfl, rfl⟩ := hcs
    have hlm : len0 ≤ mm := by rw [hmm]; split <;> omega
    have key : ∀ i, i < len0 → ∃ x : HitD, w.cell? (a.add (i * 4)) = some (.int .i64 x.dev) ∧ w.cell? (a.add (i * 4 + 1)) = some (.int .i64 x.at_) ∧ w.cell? (a.add (i * 4 + 2)) = some (.int .i64 x.place) ∧ w.cell? (a.add (i * 4 + 3)) = some (.int .u8 x.by_.toNat) ∧ x.Ok := by
      intro i hil
      obtain ⟨ys, n', _, _, _, hf⟩ := hi i (by omega)
      obtain ⟨v0, z0, hc0, _, ht0⟩ := hf 0 _ rfl
      obtain ⟨v1, z1, hc1, _, ht1⟩ := hf 1 _ rfl
      obtain ⟨v2, z2, hc2, _, ht2⟩ := hf 2 _ rfl
      obtain ⟨v3, z3, hc3, _, ht3⟩ := hf 3 _ rfl
      obtain ⟨n0, e0, _, w0⟩ := DataW.trod_int Tryz.underlying3 ht0
      obtain ⟨n1, e1, _, w1⟩ := DataW.trod_int Tryz.underlying3 ht1
      obtain ⟨n2, e2, _, w2⟩ := DataW.trod_int Tryz.underlying3 ht2
      obtain ⟨n3, e3, _, w3⟩ := DataW.trod_int Tryz.underlying5 ht3
      simp at e0 e1 e2 e3
      subst e0 e1 e2 e3
      have b3 := u8_bd w3
      obtain ⟨k3, rfl⟩ := Int.eq_ofNat_of_zero_le b3.1
      exact ⟨⟨n0, n1, n2, UInt8.ofNat k3⟩, hc0, hc1, hc2, by rw [UInt8.toNat_ofNat', Nat.mod_eq_of_lt (by omega)]; exact hc3, i64_bd w0, i64_bd w1, i64_bd w2⟩
    have hch : ∃ f : Nat → HitD, ∀ i, i < len0 → w.cell? (a.add (i * 4)) = some (.int .i64 (f i).dev) ∧ w.cell? (a.add (i * 4 + 1)) = some (.int .i64 (f i).at_) ∧ w.cell? (a.add (i * 4 + 2)) = some (.int .i64 (f i).place) ∧ w.cell? (a.add (i * 4 + 3)) = some (.int .u8 (f i).by_.toNat) ∧ (f i).Ok := by
      refine ⟨fun i => if h : i < len0 then Classical.choose (key i h) else ⟨0, 0, 0, 0⟩, fun i hi => ?_⟩
      simp only [hi, dif_pos]
      exact Classical.choose_spec (key i hi)
    obtain ⟨f, hf⟩ := hch
    have hlen : ((List.range len0).map f).length = len0 := by simp
    refine ⟨(List.range len0).map f, some a, cap0, by rw [hlen], by rw [hlen]; unfold maxLen at hm; omega, fun hp => ?_⟩
    rw [hlen] at hp
    have h0 := (hf 0 hp).1
    rw [Nat.zero_mul] at h0
    obtain ⟨b, off, rfl, hbl⟩ := slice_spot h0
    refine ⟨b, off, rfl, hbl, fun i x hx => ?_⟩
    have hil : i < len0 := by
      have := (List.getElem?_eq_some_iff.1 hx).1
      simpa using this
    have hx' : x = f i := by simpa [hil] using hx.symm
    subst hx'
    have := hf i hil
    simp only [WideShapes.add_plain] at this
    exact this
end Go.Proofs.YtbhkbcpljakmjaaGreat

namespace Go.Proofs.YtbhkbcpljakmjaaGreat
set_option linter.unusedVariables false
set_option linter.unusedSimpArgs false
open Go.RowKit

def fitP (s : List UInt8) : Bool := !s.isEmpty && ((s.length : Int) != 64)
def fitsB (gs : List (Int × Int)) (secs pg pa size : Int) (got : List (List UInt8)) : Bool := cMay gs secs pg pa size && (got.length == (colsOf gs secs pg pa size).length) && !got.any fitP
def badL (gs : List (Int × Int)) (secs pg pa : Int) (s : List UInt8) (got : List (List UInt8)) : List Nat :=
  if decide (encE gs secs pg pa s = 0) && fitsB gs secs pg pa (secN s) got then (List.range (encL gs secs pg pa s).length).filter fun i => (encL gs secs pg pa s).getD i [] != got.getD i [] else []
theorem fitOne_any (s : List UInt8) (w : World) : Calls Tryz.prog 115 #[str s] w fun e w' => e = .returned (.bool (fitP s)) ∧ Below w.heap.size w w' := by
  by_cases h : s = []
  · subst h
    go_enter Tryz.func115, Tryz.ntmps115
    go_wp2_with fail
    go_ret
    exact ⟨rfl, Below.refl _ _⟩
  · have hb : s.isEmpty = false := by simpa using h
    cases h2 : ((s.length : Int) != 64) with
    | false =>
      have HF : Hid (fitP s = false) := Lib.hid (by unfold fitP; rw [hb, h2]; rfl)
      go_enter Tryz.func115, Tryz.ntmps115
      go_wp2_with fail
      go_ret
      exact ⟨by rw [HF.out]; rfl, Below.refl _ _⟩
    | true =>
      have HF : Hid (fitP s = true) := Lib.hid (by unfold fitP; rw [hb, h2]; rfl)
      go_enter Tryz.func115, Tryz.ntmps115
      go_wp2_with fail
      go_ret
      exact ⟨by rw [HF.out]; rfl, Below.refl _ _⟩
theorem goesFit : ∀ (args : Array Value) (w : World), (callFunc 115 args).run Tryz.prog w = .ok (.enter 115 args) w := enters_of Tryz.func115 (by kernel_rfl) (by kernel_rfl)
theorem ofList_bad {gs : List (Int × Int)} {secs pg pa size : Int} (h : ofErr gs secs pg pa size ≠ 0) : cMay gs secs pg pa size = false := by
  unfold ofErr at h
  split at h
  · exact absurd rfl h
  · rename_i h2; simpa using h2
theorem ofErr_ok {gs : List (Int × Int)} {secs pg pa size : Int} (h : ofErr gs secs pg pa size = 0) : cMay gs secs pg pa size = true ∧ ofList gs secs pg pa size = colsOf gs secs pg pa size := by
  unfold ofErr at h
  split at h
  · rename_i h2; exact ⟨h2, by unfold ofList; rw [if_pos h2]⟩
  · cases h
set_option maxRecDepth 20000 in
theorem fits_any (A : Option Addr) (m cc : Nat) (gs : List (Int × Int)) (secs pg pa size : Int) {gv : Value} {got : List (List UInt8)} {w : World} (hg : GeoAt w A m gs) (hs : SlAt w gv got.length (strC got)) :
    Calls Tryz.prog 88 #[.agg #[.slice A m cc, .int .i64 secs], .agg #[.int .i64 pg, .int .i64 pa], .int .i64 size, gv] w fun e w' => e = .returned (.bool (fitsB gs secs pg pa size got)) ∧ Below w.heap.size w w' := by
  obtain ⟨w2, hw2⟩ : ∃ z, (w.alloc (.cells #[.slice A m cc, .int .i64 secs] 24)).alloc (.cells #[.int .i64 pg, .int .i64 pa] 26) = z := ⟨_, rfl⟩
  have D2 : Below w.heap.size w w2 := by rw [← hw2]; exact keep_alloc (keep_alloc (Below.refl _ _) _) _
  have HO := Lib.hid (of_any A m cc gs secs pg pa size w2 (hg.below D2 (Nat.le_refl _)))
  have HSL := Lib.hid (hs.below D2)
  obtain ⟨Ag, cg, rfl⟩ := hs.form
  have HD2 := Lib.hid D2
  have HW2 := Lib.hid hw2
  clear hg hs D2 hw2
  obtain ⟨oe, hoe0⟩ : ∃ oe, ofErr gs secs pg pa size = oe := ⟨_, rfl⟩
  rw [hoe0] at HO
  have HOE := Lib.hid hoe0
  clear hoe0
  go_enter Tryz.func88, Tryz.ntmps88
  go_wp2_with fail
  rw [HW2.out]
  refine HO.out.mono ?_
  rintro e w3 ⟨cv, rfl, hcol, hb3⟩
  have HB3 := Lib.hid (keep_below hb3 HD2.out)
  by_cases hoe : oe = 0
  · subst hoe
    obtain ⟨z1, z2⟩ := ofErr_ok HOE.out
    rw [z2] at hcol
    obtain ⟨Ac, ccap, rfl⟩ := (slAt_own hcol).form
    have hF : fitsB gs secs pg pa size got = ((got.length == (colsOf gs secs pg pa size).length) && !got.any fitP) := by unfold fitsB; rw [z1, Bool.true_and]
    have h64 : (colsOf gs secs pg pa size).length ≤ 64 := by rw [← z2]; exact ofList_le _ _ _ _ _
    obtain ⟨ln, hln⟩ : ∃ ln, (colsOf gs secs pg pa size).length = ln := ⟨_, rfl⟩
    rw [hln] at hF h64
    rw [hln]
    have HF := Lib.hid hF
    have HS3 := Lib.hid (HSL.out.below hb3)
    clear hcol hb3 z1 z2 hF hln
    by_cases hq : got.length = ln
    · have hd : ((got.length : Int) != ln) = false := by rw [bne_eq_false_iff_eq]; omega
      have HQ : Hid ((got.length == ln) = true) := Lib.hid (beq_iff_eq.2 hq)
      have hcon := Lib.hid (conStr_any 115 #[] fitP HS3.out (by omega) goesFit (fun x W _ _ => fitOne_any x W))
      clear hq
      go_wp2_with fail
      refine hcon.out.mono ?_
      rintro e w4 ⟨rfl, hb4⟩
      have HB4 := Lib.hid (keep_below hb4 HB3.out)
      clear hb4
      go_wp2_with fail
      go_ret
      exact ⟨by rw [HF.out, HQ.out]; rfl, HB4.out⟩
    · have hd : ((got.length : Int) != ln) = true := by rw [bne_iff_ne]; omega
      have HQ : Hid ((got.length == ln) = false) := Lib.hid (beq_eq_false_iff_ne.2 hq)
      clear hq
      go_wp2_with fail
      go_ret
      exact ⟨by rw [HF.out, HQ.out]; rfl, HB3.out⟩
  · have hne : (oe != 0) = true := bne_iff_ne.2 hoe
    have hF : fitsB gs secs pg pa size got = false := by unfold fitsB; rw [ofList_bad (by rw [HOE.out]; exact hoe)]; rfl
    have HF := Lib.hid hF
    clear hcol hb3 hoe hF
    go_wp2_with fail
    go_ret
    exact ⟨by rw [HF.out]; rfl, HB3.out⟩
theorem own_base {W : World} {base base' : Nat} {e : TypeId} {size : Nat} {v : Value} {k : Nat} {xs : List Value} (h : W.ownsRow base e size v k xs) (hb : base' ≤ base) : W.ownsRow base' e size v k xs := by
  refine ⟨h.1, ?_⟩
  rcases h.2 with h2 | ⟨g, cap, cur, e1, e2, r⟩
  · exact .inl h2
  · exact .inr ⟨g, cap, cur, e1, Nat.le_trans hb e2, r⟩
/-- The bad ones, as far as k. -/
def badTo (T got : List (List UInt8)) (k : Nat) : List Nat := (List.range k).filter fun i => T.getD i [] != got.getD i []
theorem badTo_step {T got : List (List UInt8)} {k : Nat} {a b : List UInt8} (ha : T[k]? = some a) (hb : got[k]? = some b) : badTo T got (k + 1) = badTo T got k ++ if a != b then [k] else [] := by
  unfold badTo
  rw [List.range_succ, List.filter_append]
  congr 1
  simp [List.getD_eq_getElem?_getD, ha, hb, List.filter_cons]
theorem badTo_len (T got : List (List UInt8)) (k : Nat) : (badTo T got k).length ≤ k := by
  unfold badTo
  exact Nat.le_trans (List.length_filter_le _ _) (by simp)
set_option maxRecDepth 20000 in
set_option maxHeartbeats 1000000 in
theorem bad_any (A : Option Addr) (m cc : Nat) (gs : List (Int × Int)) (secs pg pa : Int) (s : List UInt8) {gv : Value} {got : List (List UInt8)} {w : World} (hg : GeoAt w A m gs) (hs : SlAt w gv got.length (strC got)) (hl : s.length ≤ 1000) :
    Calls Tryz.prog 69 #[.agg #[.slice A m cc, .int .i64 secs], .agg #[.int .i64 pg, .int .i64 pa], str s, gv] w fun e w' => ∃ v, e = .returned v ∧ w'.ownsRow w.heap.size 3 1 v (badL gs secs pg pa s got).length (ixC (badL gs secs pg pa s got)) ∧ Below w.heap.size w w' := by
  obtain ⟨w2, hw2⟩ : ∃ z, (w.alloc (.cells #[.slice A m cc, .int .i64 secs] 24)).alloc (.cells #[.int .i64 pg, .int .i64 pa] 26) = z := ⟨_, rfl⟩
  have G2 : Blk w2 w.heap.size 24 #[.slice A m cc, .int .i64 secs] := by rw [← hw2]; exact (Blk.new _ _ _).alloc _
  have P2 : Blk w2 (w.heap.size + 1) 26 #[.int .i64 pg, .int .i64 pa] := by rw [← hw2]; exact Blk.new2 w _ _ _
  have D2 : Below w.heap.size w w2 := by rw [← hw2]; exact keep_alloc (keep_alloc (Below.refl _ _) _) _
  have HE := Lib.hid (encode_any A m cc gs secs pg pa s (hg.below D2 (Nat.le_refl _)) (by omega))
  have HSL := Lib.hid (hs.below D2)
  obtain ⟨Ag, cg, rfl⟩ := hs.form
  have HG := Lib.hid hg
  have HG2 := Lib.hid G2
  have HP2 := Lib.hid P2
  have HD2 := Lib.hid D2
  have HW2 := Lib.hid hw2
  have HL := Lib.hid hl
  clear hg hs D2 hw2 G2 P2 hl
  obtain ⟨E, hE⟩ : ∃ E, encE gs secs pg pa s = E := ⟨_, rfl⟩
  rw [hE] at HE
  have HEE := Lib.hid hE
  clear hE
  obtain ⟨i0, hi, hz0, hz1, hz2⟩ := info_parts Tryz.infoIntR
  go_enter Tryz.func69, Tryz.ntmps69
  go_wp2_with fail
  rw [HW2.out]
  refine HE.out.mono ?_
  rintro e w3 ⟨tv, rfl, htv, hb3, hnew⟩
  have HB3 := Lib.hid (keep_below hb3 HD2.out)
  by_cases hz : E = 0
  · subst hz
    obtain ⟨e1, e2, e3⟩ := encE_zero HEE.out
    rw [e3] at htv
    obtain ⟨At, ct, rfl⟩ := htv.form
    have HF := Lib.hid (fits_any A m cc gs secs pg pa (secN s) (HG.out.below HB3.out (Nat.le_refl _)) (HSL.out.below hb3))
    have HT := Lib.hid htv
    have HS3 := Lib.hid (HSL.out.below hb3)
    have g0 := (HG2.out.below hb3 HG2.out.lt).at_ (i := 0) (v := .slice A m cc) rfl
    have g1 := (HG2.out.below hb3 HG2.out.lt).at_ (i := 1) (v := .int .i64 secs) rfl
    have p0 := (HP2.out.below hb3 HP2.out.lt).at_ (i := 0) (v := .int .i64 pg) rfl
    have p1 := (HP2.out.below hb3 HP2.out.lt).at_ (i := 1) (v := .int .i64 pa) rfl
    have hq : Int.tdiv (s.length : Int) 64 = (secN s : Int) := rfl
    have hs15 : secN s ≤ 15 := by have := HL.out; unfold secN; omega
    obtain ⟨fb, hfb⟩ : ∃ fb, fitsB gs secs pg pa (secN s) got = fb := ⟨_, rfl⟩
    rw [hfb] at HF
    have hBL : badL gs secs pg pa s got = if fb then badTo (encL gs secs pg pa s) got (encL gs secs pg pa s).length else [] := by
      unfold badL badTo
      rw [HEE.out, hfb]
      simp
    have hlen : fb = true → got.length = (encL gs secs pg pa s).length ∧ (encL gs secs pg pa s).length ≤ 64 := fun h => by
      rw [h] at hfb
      unfold fitsB at hfb
      simp only [Bool.and_eq_true, beq_iff_eq] at hfb
      rw [encL_len]
      refine ⟨?_, ofList_le _ _ _ _ _⟩
      unfold ofList
      rw [if_pos e2]
      exact hfb.1.2
    have HBL := Lib.hid (And.intro hBL hlen)
    clear hfb hBL hlen e1 e2 e3 htv hb3 hnew
    obtain ⟨T, hT⟩ : ∃ T, encL gs secs pg pa s = T := ⟨_, rfl⟩
    rw [hT] at HT HBL
    rw [hT]
    clear hT
    go_wp2_with fail
    refine HF.out.mono ?_
    rintro e w4 ⟨rfl, hb4⟩
    have HT4 := Lib.hid (HT.out.below hb4)
    have HS4 := Lib.hid (HS3.out.below hb4)
    have HB4 := Lib.hid (keep_below hb4 HB3.out)
    clear g0 g1 p0 p1 hb4
    cases fb with
    | false =>
      go_wp2_with fail
      go_ret
      rw [HBL.out.1]
      exact ⟨_, rfl, World.ownsRow_nil _ _ _ _, HB4.out⟩
    | true =>
      obtain ⟨hl1, hl2⟩ := HBL.out.2 rfl
      have HL1 := Lib.hid hl1
      clear hl1
      go_wp2_with fail
      go_loopw [11, 12, 34] (fun v _ t wr => ∃ k : Nat, k ≤ T.length ∧ t = .int .i64 k ∧ wr.ownsRow w4.heap.size 3 1 v (badTo T got k).length (ixC (badTo T got k)) ∧ Below w4.heap.size w4 wr) (fun _ _ t _ => T.length - (RowKit.intOf t).toNat)
      case atStart => exact ⟨0, Nat.zero_le _, rfl, World.ownsRow_nil _ _ _ _, Below.refl _ _⟩
      case round =>
        obtain ⟨k, hk, rfl, hown, hb⟩ := hrel
        by_cases hlt : k < T.length
        · obtain ⟨a, ha⟩ : ∃ a, T[k]? = some a := ⟨_, List.getElem?_eq_getElem hlt⟩
          obtain ⟨b, hbb⟩ : ∃ b, got[k]? = some b := ⟨_, List.getElem?_eq_getElem (by rw [HL1.out]; exact hlt)⟩
          obtain ⟨b1, o1, rfl, hl3, hc1⟩ := HT4.out.cells (by omega)
          obtain ⟨b2, o2, rfl, hl4, hc2⟩ := HS4.out.cells (by rw [HL1.out]; omega)
          have e1 := hc1 k (str a) (strC_at ha)
          have e2 := hc2 k (str b) (strC_at hbb)
          have hst := badTo_step ha hbb
          have hdc : decide (k < T.length) = true := decide_eq_true hlt
          have hkg : k < got.length := by rw [HL1.out]; exact hlt
          have HB := Lib.hid hb
          have HO := Lib.hid hown
          have HLT := Lib.hid hlt
          have hbl := badTo_len T got k
          obtain ⟨C, hCd, hCw, hCB, hCK, hCD⟩ := cls_below wr
          have f1 : ∀ W, C W → W.cell? ⟨b1, o1 + k, none⟩ = some (str a) := fun W h => keep_cell (hCB W h) (keep_cell hb e1 hl3) (Nat.lt_of_lt_of_le hl3 hb.size)
          have f2 : ∀ W, C W → W.cell? ⟨b2, o2 + k, none⟩ = some (str b) := fun W h => keep_cell (hCB W h) (keep_cell hb e2 hl4) (Nat.lt_of_lt_of_le hl4 hb.size)
          clear hc1 hc2 e1 e2 ha hbb hb hown hCw hCK hCD hl3 hl4
          by_cases hab : a = b
          · have HST : Hid (badTo T got (k + 1) = badTo T got k) := Lib.hid (by rw [hst, hab]; simp)
            subst hab
            clear hst
            go_wp2_with fail
            refine wp_region_cls C (by kernel_rfl) (by kernel_rfl) hCd ?_
            repeat (first
              | go_big_quiet_skip
              | (go_big_quiet_want
                 go_big_quiet_op
                 first
                   | go_big_quiet_on
                   | (apply Exists.intro
                      refine ⟨fun W hW => ?_, ?_⟩
                      · first
                          | exact rfl
                          | exact ⟨rfl, rfl⟩
                          | (have e0 := f1 W hW; have e1 := f2 W hW; simp only [e0, e1, Result.andThen_ok]; done)
                          | (have e0 := f1 W hW; have e1 := f2 W hW; simp only [e0, e1, Result.andThen_ok]; first | exact ⟨trivial, rfl⟩ | exact rfl | exact ⟨rfl, rfl⟩)
                          | (skip)
                      go_big_quiet_on)))
            refine wpQuiet_nil ?_
            intro wz hwz
            have HBZ := Lib.hid (hCB wz hwz)
            clear f1 f2 hCd hCB hwz
            go_wp2_with fail
            go_roundw
            case rel => exact ⟨k + 1, HLT.out, by go_num, by rw [HST.out]; exact ownsRow_same HO.out (fun b hb => HBZ.out.block b (HO.out.lt b hb).2), HB.out.trans (HBZ.out.mono HB.out.size)⟩
            case measure => have := HLT.out; simp [RowKit.intOf]; omega
          · have HST : Hid (badTo T got (k + 1) = badTo T got k ++ [k]) := Lib.hid (by rw [hst]; simp [hab])
            have hab2 : (a == b) = false := beq_eq_false_iff_ne.2 hab
            have hab3 : (a != b) = true := bne_iff_ne.2 hab
            clear hst hab
            go_wp2_with fail
            refine wp_region_cls C (by kernel_rfl) (by kernel_rfl) hCd ?_
            repeat (first
              | go_big_quiet_skip
              | (go_big_quiet_want
                 go_big_quiet_op
                 first
                   | go_big_quiet_on
                   | (apply Exists.intro
                      refine ⟨fun W hW => ?_, ?_⟩
                      · first
                          | exact rfl
                          | exact ⟨rfl, rfl⟩
                          | (have e0 := f1 W hW; have e1 := f2 W hW; simp only [e0, e1, Result.andThen_ok]; done)
                          | (have e0 := f1 W hW; have e1 := f2 W hW; simp only [e0, e1, Result.andThen_ok]; first | exact ⟨trivial, rfl⟩ | exact rfl | exact ⟨rfl, rfl⟩)
                          | (skip)
                      go_big_quiet_on)))
            refine wpQuiet_nil ?_
            intro wz hwz
            have HBZ := Lib.hid (HB.out.trans ((hCB wz hwz).mono HB.out.size))
            have HOZ : Hid (wz.ownsRow w4.heap.size 3 1 u11 (badTo T got k).length (ixC (badTo T got k))) := Lib.hid (ownsRow_same HO.out (fun b hb => (hCB wz hwz).block b (HO.out.lt b hb).2))
            obtain ⟨q, hq'⟩ : ∃ q, badTo T got k = q := ⟨_, rfl⟩
            rw [hq'] at HOZ HST hbl
            clear f1 f2 hCd hCB hwz hq' HO
            go_wp2_with (at_builtin; refine wpList_append_own _ rfl _ _ 74 rfl w4.heap.size 3 i0 _ 1 8 Tryz.underlying74 hi hz0 hz1 hz2 rfl (by decide) _ _ _ rfl (HOZ.out.alloc _) ⟨wz.heap.size, 0, none⟩ 1 1 [.int .i64 k] rfl rfl ?c1 ?c2 (by unfold maxLen; omega) (by omega) ?c5 ?_)
            try (case c1 => exact one_new' _ _ _)
            case c2 => first | rfl | (intro u hu; simp at hu; subst hu; rfl)
            case c5 => have := HBZ.out.size; simp; omega
            intro v' w5 hown' hgrow _
            have hown5 : w5.ownsRow w4.heap.size 3 1 v' (badTo T got (k + 1)).length (ixC (badTo T got (k + 1))) := by
              rw [HST.out, ixC_snoc, List.length_append]
              exact hown'
            have hb5 : Below w4.heap.size w4 w5 := (HBZ.out.alloc HBZ.out.size _).grown hgrow (by have := HBZ.out.size; simp; omega) (fun k hk => (HOZ.out.lt k hk).1)
            have HO5 := Lib.hid hown5
            have HB5 := Lib.hid hb5
            clear hown' hgrow hown5 hb5
            go_wp2_with fail
            go_roundw
            case rel => exact ⟨k + 1, HLT.out, by go_num, HO5.out, HB5.out⟩
            case measure => have := HLT.out; simp [RowKit.intOf]; omega
        · obtain rfl : k = T.length := by omega
          have hdc : decide ((T.length : Int) < T.length) = false := decide_eq_false (by omega)
          have hBL : badL gs secs pg pa s got = badTo T got T.length := by rw [HBL.out.1]; simp
          rw [← hBL] at hown
          have HO := Lib.hid (own_base hown HB4.out.size)
          have HB := Lib.hid (keep_below hb HB4.out)
          clear hown hb hBL
          go_wp2_with fail
          go_ret
          exact ⟨_, rfl, HO.out, HB.out⟩
  · have hne : (E != 0) = true := bne_iff_ne.2 hz
    have hBL : badL gs secs pg pa s got = [] := by unfold badL; rw [decide_eq_false (by rw [HEE.out]; exact hz)]; rfl
    have HBL := Lib.hid hBL
    clear htv hb3 hnew hz hBL
    go_wp2_with fail
    go_ret
    rw [HBL.out]
    exact ⟨_, rfl, World.ownsRow_nil _ _ _ _, HB3.out⟩
end Go.Proofs.YtbhkbcpljakmjaaGreat
