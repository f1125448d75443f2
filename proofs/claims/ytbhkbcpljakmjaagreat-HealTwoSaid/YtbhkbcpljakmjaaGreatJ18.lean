/-
  Contracts of package le, second part: Pad, its reference, the document's example.
  What pointers' functions call: cmp.Compare, cmp.Or, ptr.within, ptr.small, fletch.Bytes.
  Contracts of package ptr: None, Less, Places, Bytes.
  An argument that is a pointer, opened.
  Contracts of le's reader: New, Left, Take, number, U64.
  strings.Trim at the one byte zero: what is left is empty just if all bytes are zero.
  More contracts of le's reader: numbers as what bytes come to; U32, Int, Zeros; the nil reader.
  A text's words, and its sum: plain words.
  A loop over an iterator that keeps cells of its own between its rounds, and is run to its end: what is said of the rounds abides whatever turns from the loop's beginning on. No program stands here.
-/
import Derived.Test.YtbhkbcpljakmjaaGreatJ17
import Derived.Test.YtbhkbcpljakmjaaGreatShelf
import Derived.Test.YtbhkbcpljakmjaaGreatJ01
import Derived.StillTailTactics
import Derived.Laws.IdiomArrays
import Derived.Laws.BitsAllLaws
import Derived.RangeFuncWrites
namespace Go.Proofs.YtbhkbcpljakmjaaGreat
open Go.RowKit
set_option linter.unusedVariables false

theorem repeat_one (x : UInt8) : ∀ n, Lib.repeatL [x] n = List.replicate n x
  | 0 => rfl
  | n + 1 => by rw [Lib.repeatL, repeat_one x n]; rfl

def padN (len t : Nat) : Nat := (t - len % t) % t
def padL (l : List UInt8) (tt : Int) : List UInt8 := if 1 ≤ tt ∧ tt ≤ 4096 then l ++ List.replicate (padN l.length tt.toNat) 0 else l
theorem padN_lt {len t : Nat} (h : 1 ≤ t) : padN len t < t := Nat.mod_lt _ (by omega)

theorem pad_any (l : List UInt8) (tt : Int) (w : World) (hl : l.length ≤ 140737488351232) :
    Calls Tryz.prog 94 #[str l, .int .i64 tt] w fun e w' => e = .returned (str (padL l tt)) ∧ Below w.heap.size w w' := by
  by_cases h : 1 ≤ tt ∧ tt ≤ 4096
  · obtain ⟨h1, h2⟩ := h
    obtain ⟨t, rfl⟩ := Int.eq_ofNat_of_zero_le (show 0 ≤ tt by omega)
    have he : Hid (padL l t = l ++ List.replicate (padN l.length t) 0) := by unfold Hid padL; rw [if_pos ⟨h1, h2⟩]; simp
    have hk := padN_lt (len := l.length) (t := t) (by omega)
    have r1 : (0 : Int) ≤ (l.length : Int) % t := Int.emod_nonneg _ (by omega)
    have r2 : (l.length : Int) % t < t := Int.emod_lt_of_pos _ (by omega)
    have r3 : (t - (l.length : Int) % t) % t = (padN l.length t : Nat) := by
      unfold padN
      have : l.length % t < t := Nat.mod_lt _ (by omega)
      rw [Int.natCast_emod, Int.natCast_sub (by omega), Int.natCast_emod]
    have r3' : -((l.length : Int) % t) % t = (padN l.length t : Nat) := by rw [← r3]; simp
    have R3 := Lib.hid r3'
    have hd : (Lib.repeatL (⟨#[0]⟩ : ByteArray).data.toList (padN l.length t)) = List.replicate (padN l.length t) 0 := repeat_one 0 _
    have HD := Lib.hid hd
    clear r3 r3' hd
    go_enter Tryz.func94, Tryz.ntmps94
    go_wp2_with fail
    rw [R3.out]
    refine (Tryz.strings_Repeat ⟨#[0]⟩ (padN l.length t) _ (by omega) (by show 1 * _ ≤ _; omega)).mono ?_
    rintro e w1 ⟨rfl, hb⟩
    rw [HD.out]
    go_wp2_with fail
    go_ret
    refine ⟨?_, hb⟩
    rw [he.out]
    exact congrArg (fun b => Ending.returned (Value.string b)) (ByteArray.mk_append_mk l (List.replicate (padN l.length t) 0))
  · have he : Hid (padL l tt = l) := by unfold Hid padL; rw [if_neg h]
    go_enter Tryz.func94, Tryz.ntmps94
    go_wp2_with fail
    all_goals go_ret
    all_goals exact ⟨ret_str he.out.symm, Below.refl _ _⟩

theorem padTo_step (l : List UInt8) (t k : Nat) (h1 : 1 ≤ t) (hk : k ≤ padN l.length t) : (l.length + k) % t = 0 ↔ k = padN l.length t := by
  have hm : l.length % t < t := Nat.mod_lt _ (by omega)
  unfold padN at *
  have hd := Nat.div_add_mod l.length t
  rcases Nat.eq_zero_or_pos (l.length % t) with h0 | h0
  · rw [h0, Nat.sub_zero, Nat.mod_self] at hk ⊢
    have : k = 0 := by omega
    subst this
    simp [h0]
  · rw [Nat.mod_eq_of_lt (by omega : t - l.length % t < t)] at hk ⊢
    constructor
    · intro h
      rcases Nat.lt_or_ge k (t - l.length % t) with hlt | hge
      · have e : (l.length + k) % t = (l.length % t + k) % t := by rw [Nat.mod_add_mod]
        rw [e, Nat.mod_eq_of_lt (by omega)] at h
        omega
      · omega
    · intro h
      rw [← Nat.mod_add_mod, h, show l.length % t + (t - l.length % t) = t from by omega, Nat.mod_self]

def strLen : Value → Nat
  | .string s => s.size
  | _ => 0
theorem refPad_any (l : List UInt8) (tt : Int) (w : World) (hl : l.length ≤ 140737488351232) :
    Calls Tryz.prog 106 #[str l, .int .i64 tt] w fun e w' => e = .returned (str (padL l tt)) ∧ Below w.heap.size w w' := by
  by_cases h : 1 ≤ tt ∧ tt ≤ 4096
  · obtain ⟨h1, h2⟩ := h
    obtain ⟨t, rfl⟩ := Int.eq_ofNat_of_zero_le (show 0 ≤ tt by omega)
    have he : Hid (padL l t = l ++ List.replicate (padN l.length t) 0) := by unfold Hid padL; rw [if_pos ⟨h1, h2⟩]; simp
    have hk := padN_lt (len := l.length) (t := t) (by omega)
    go_enter Tryz.func106, Tryz.ntmps106
    go_wp2_with fail
    go_loop [0] (fun v => ∃ k : Nat, k ≤ padN l.length t ∧ v = str (l ++ List.replicate k 0)) (fun v => padN l.length t - (strLen v - l.length))
    case atStart => exact ⟨0, Nat.zero_le _, by simp⟩
    case round =>
      obtain ⟨k, hk2, rfl⟩ := hrel
      have hs := padTo_step l t k (by omega) hk2
      have hml : (l ++ List.replicate k (0 : UInt8)).length = l.length + k := by simp
      have hcast : (((l ++ List.replicate k (0 : UInt8)).length : Int) % t) = ((l.length + k) % t : Nat) := by rw [hml]; simp
      have hmb : (l ++ List.replicate k (0 : UInt8)).length ≤ 140737488355400 := by rw [hml]; omega
      have hnext : (l ++ List.replicate k (0 : UInt8)) ++ [0] = l ++ List.replicate (k + 1) 0 := by rw [List.append_assoc, ← List.replicate_succ']
      by_cases hlt : k < padN l.length t
      · have hq : ((((l ++ List.replicate k (0 : UInt8)).length : Int) % t) != 0) = true := by
          rw [hcast, bne_iff_ne]; intro h; have := hs.1 (by exact_mod_cast h); omega
        have HN := Lib.hid hnext
        have HM := Lib.hid hml
        clear hs hcast hnext hml
        generalize l ++ List.replicate k (0 : UInt8) = m at *
        go_wp2_with fail
        go_round
        case rel =>
          refine ⟨k + 1, by omega, ?_⟩
          rw [← HN.out]
          exact congrArg Value.string (ByteArray.mk_append_mk m [0])
        case measure =>
          have e : strLen (Value.string ({ data := m.toArray } ++ { data := #[0] })) = m.length + 1 := by simp [strLen, ByteArray.size]
          have e2 : strLen (str m) = m.length := by simp [strLen, ByteArray.size]
          have := HM.out
          omega
      · have hq : ((((l ++ List.replicate k (0 : UInt8)).length : Int) % t) != 0) = false := by
          rw [hcast, bne_eq_false_iff_eq]; exact_mod_cast hs.2 (by omega)
        have hkN : k = padN l.length t := by omega
        have HE := Lib.hid hkN
        clear hs hcast hnext hml hkN
        generalize hm : l ++ List.replicate k (0 : UInt8) = m at *
        have HM := Lib.hid hm
        clear hm
        go_wp2_with fail
        go_ret
        exact ⟨ret_str (by rw [he.out, ← HM.out, HE.out]), Below.refl _ _⟩
  · have he : Hid (padL l tt = l) := by unfold Hid padL; rw [if_neg h]
    go_enter Tryz.func106, Tryz.ntmps106
    go_wp2_with fail
    all_goals go_ret
    all_goals exact ⟨ret_str he.out.symm, Below.refl _ _⟩

end Go.Proofs.YtbhkbcpljakmjaaGreat

namespace Go.Proofs.YtbhkbcpljakmjaaGreat
open Go.RowKit
set_option linter.unusedVariables false

/-- From b, off on lie these integers. -/
def IntsAt (w : World) (b off : Nat) (l : List Int) : Prop := b < w.heap.size ∧ ∀ (i : Nat) (x : Int), l[i]? = some x → w.cell? ⟨b, off + i, none⟩ = some (.int .i64 x)
theorem IntsAt.below {w w' : World} {b off B : Nat} {l : List Int} (h : IntsAt w b off l) (hb : Below B w w') (hB : w.heap.size ≤ B) : IntsAt w' b off l := by
  obtain ⟨h1, h2⟩ := h
  exact ⟨Nat.lt_of_lt_of_le h1 hb.size, fun i x hx => (hb.cell (p := ⟨b, off + i, none⟩) (by show b < B; omega)).trans (h2 i x hx)⟩
theorem IntsAt.new (w : World) (l : List Int) (t : TypeId) : IntsAt (w.alloc (.cells ((l.map (Value.int .i64)).toArray) t)) w.heap.size 0 l := by
  refine ⟨by simp, fun i x hx => ?_⟩
  exact cell_new rfl (by simp [hx])

def cmpInt (x y : Int) : Int := if x < y then -1 else if y < x then 1 else 0
theorem isNaN_any (x : Int) (w : World) : Calls Tryz.prog 151 #[.int .i64 x] w fun e w' => e = .returned (.bool false) ∧ w = w' := by
  go_enter Tryz.func151, Tryz.ntmps151
  go_wp2_with fail
  go_ret
  exact ⟨ret_bool (by simp), rfl⟩
/-- The first of the numbers that is not zero. -/
def orL : List Int → Int
  | [] => 0
  | x :: r => if x = 0 then orL r else x
theorem orL_skip {l : List Int} {k : Nat} (h : ∀ j, j < k → l[j]? = some 0) : orL l = orL (l.drop k) := by
  induction k generalizing l with
  | zero => rfl
  | succ k ih =>
    cases l with
    | nil => simp
    | cons x r =>
      have h0 : x = 0 := by simpa using h 0 (by omega)
      rw [orL, if_pos h0, List.drop_succ_cons]
      exact ih fun j hj => by simpa using h (j + 1) (by omega)

def withinL (most : Int) (l : List Int) : Bool := l.all fun x => decide (0 ≤ x) && decide (x ≤ most)
def smallL (l : List Int) : List UInt8 := l.flatMap u32L
theorem u32L_len (n : Int) : (u32L n).length ≤ 4 := by unfold u32L; split <;> simp [layL_len]
theorem smallL_step {l : List Int} {k : Nat} {x : Int} (h : l[k]? = some x) : smallL (l.take (k + 1)) = smallL (l.take k) ++ u32L x := by
  unfold smallL; rw [List.take_add_one, h]; simp
theorem smallL_len (l : List Int) : (smallL l).length ≤ 4 * l.length := by
  unfold smallL
  induction l with
  | nil => simp
  | cons x r ih => rw [List.flatMap_cons, List.length_append, List.length_cons]; have := u32L_len x; omega
def sumL (s : List Nat) : List UInt8 := s.flatMap fun x => layL x 8
theorem sumL_len (s : List Nat) : (sumL s).length = 8 * s.length := by
  unfold sumL
  induction s with
  | nil => rfl
  | cons x r ih => rw [List.flatMap_cons, List.length_append, List.length_cons, ih, layL_len]; omega
end Go.Proofs.YtbhkbcpljakmjaaGreat

namespace Go.Proofs.YtbhkbcpljakmjaaGreat
open Go.RowKit
set_option linter.unusedVariables false

/-- A pointer's numbers. -/
structure PtrD where
  ag : Int
  aa : Int
  bg : Int
  ba : Int
  two : Bool
  size : Int
  level : Int
  birth : Int
  s0 : Nat
  s1 : Nat
  s2 : Nat
  s3 : Nat
deriving DecidableEq

def PtrD.cells (p : PtrD) : Array Value := #[.int .i64 p.ag, .int .i64 p.aa, .int .i64 p.bg, .int .i64 p.ba, .bool p.two, .int .i64 p.size, .int .i64 p.level, .int .i64 p.birth, .int .u64 p.s0, .int .u64 p.s1, .int .u64 p.s2, .int .u64 p.s3]
def PtrD.Ok (p : PtrD) : Prop := p.s0 < 18446744073709551616 ∧ p.s1 < 18446744073709551616 ∧ p.s2 < 18446744073709551616 ∧ p.s3 < 18446744073709551616 ∧
  -9223372036854775808 ≤ p.size ∧ p.size ≤ 9223372036854775807 ∧ -9223372036854775808 ≤ p.level ∧ p.level ≤ 9223372036854775807 ∧ -9223372036854775808 ≤ p.birth ∧ p.birth ≤ 9223372036854775807

/-- p lies at block b from offset o on. -/
def PtrAt (w : World) (b o : Nat) (p : PtrD) : Prop :=
  w.cell? ⟨b, o, none⟩ = some (.int .i64 p.ag) ∧ w.cell? ⟨b, o + 1, none⟩ = some (.int .i64 p.aa) ∧ w.cell? ⟨b, o + 2, none⟩ = some (.int .i64 p.bg) ∧ w.cell? ⟨b, o + 3, none⟩ = some (.int .i64 p.ba) ∧
  w.cell? ⟨b, o + 4, none⟩ = some (.bool p.two) ∧ w.cell? ⟨b, o + 5, none⟩ = some (.int .i64 p.size) ∧ w.cell? ⟨b, o + 6, none⟩ = some (.int .i64 p.level) ∧ w.cell? ⟨b, o + 7, none⟩ = some (.int .i64 p.birth) ∧
  w.cell? ⟨b, o + 8, none⟩ = some (.int .u64 p.s0) ∧ w.cell? ⟨b, o + 9, none⟩ = some (.int .u64 p.s1) ∧ w.cell? ⟨b, o + 10, none⟩ = some (.int .u64 p.s2) ∧ w.cell? ⟨b, o + 11, none⟩ = some (.int .u64 p.s3)
theorem PtrAt.keep {w w' : World} {b o : Nat} {p : PtrD} (h : PtrAt w b o p) (hb : Below w.heap.size w w') (hlt : b < w.heap.size) : PtrAt w' b o p := by
  obtain ⟨h0, h1, h2, h3, h4, h5, h6, h7, h8, h9, ha, hc⟩ := h
  exact ⟨keep_cell hb h0 hlt, keep_cell hb h1 hlt, keep_cell hb h2 hlt, keep_cell hb h3 hlt, keep_cell hb h4 hlt, keep_cell hb h5 hlt, keep_cell hb h6 hlt, keep_cell hb h7 hlt, keep_cell hb h8 hlt, keep_cell hb h9 hlt, keep_cell hb ha hlt, keep_cell hb hc hlt⟩
theorem PtrAt.new (w : World) (p : PtrD) (t : TypeId) : PtrAt (w.alloc (.cells p.cells t)) w.heap.size 0 p :=
  ⟨cell_new rfl rfl, cell_new rfl rfl, cell_new rfl rfl, cell_new rfl rfl, cell_new rfl rfl, cell_new rfl rfl, cell_new rfl rfl, cell_new rfl rfl, cell_new rfl rfl, cell_new rfl rfl, cell_new rfl rfl, cell_new rfl rfl⟩

def lessB (p q : PtrD) : Bool := decide (orL [cmpInt p.birth q.birth, cmpInt p.ag q.ag, cmpInt p.aa q.aa] < 0)

end Go.Proofs.YtbhkbcpljakmjaaGreat

namespace Go.Proofs.YtbhkbcpljakmjaaGreat
open Go.ChangeShapes Go.WideShapes Go.ChangeAt Go.RowKit Go.Deep Go.Joins
set_option linter.unusedVariables false

section
variable {H : Type} {enc : TypeId × Value → H} {w : World} {base : Nat} {spare : Nat → Bool} {held : Bool}
theorem trod_place {n : Nat} {u v : Value} {x : DataW H × List MemPlace} (h : DataW.trod enc Tryz.prog w base spare held n 26 [u, v] = some x) : ∃ a b : Int, u = .int .i64 a ∧ v = .int .i64 b := by
  obtain ⟨xs, m, _, _, _, hlen, hg⟩ := DataW.trod_struct Tryz.underlying26 h
  match xs, hlen with
  | [y0, y1], _ =>
    have k : Tryz.prog.cellsOf 3 = 1 := by kernel_rfl
    have g0 : DataW.trod enc Tryz.prog w base spare held m 3 [u] = some y0 := by have t : DataW.trod enc Tryz.prog w base spare held m 3 (([u, v].drop 0).take (Tryz.prog.cellsOf 3)) = [y0, y1][0]? := hg 0 _ rfl; rw [k] at t; exact t
    have g1 : DataW.trod enc Tryz.prog w base spare held m 3 [v] = some y1 := by have t : DataW.trod enc Tryz.prog w base spare held m 3 (([u, v].drop 1).take (Tryz.prog.cellsOf 3)) = [y0, y1][1]? := hg 1 _ rfl; rw [k] at t; exact t
    obtain ⟨a, e0, _, _⟩ := DataW.trod_int Tryz.underlying3 g0
    obtain ⟨b, e1, _, _⟩ := DataW.trod_int Tryz.underlying3 g1
    simp at e0 e1
    exact ⟨a, b, e0, e1⟩

theorem open_ptrs {n : Nat} {cs : List Value} {x : DataW H × List MemPlace} (h : DataW.trod enc Tryz.prog w base spare held n 31 cs = some x) (hlen : cs.length = 12) :
    ∃ p : PtrD, cs = p.cells.toList ∧ p.Ok := by
  match cs, hlen with
  | [c0, c1, c2, c3, c4, c5, c6, c7, c8, c9, c10, c11], _ =>
    obtain ⟨xs, m, _, _, _, hl, hg⟩ := DataW.trod_struct Tryz.underlying31 h
    have kp : Tryz.prog.cellsOf 26 = 2 := by kernel_rfl
    have ki : Tryz.prog.cellsOf 3 = 1 := by kernel_rfl
    have kb : Tryz.prog.cellsOf 4 = 1 := by kernel_rfl
    have ks : Tryz.prog.cellsOf 29 = 4 := by kernel_rfl
    have ku : Tryz.prog.cellsOf 27 = 1 := by kernel_rfl
    match xs, hl with
    | [y0, y1, y2, y3, y4, y5, y6], _ =>
      have g0 : DataW.trod enc Tryz.prog w base spare held m 26 [c0, c1] = some y0 := by have t : DataW.trod enc Tryz.prog w base spare held m 26 (([c0, c1, c2, c3, c4, c5, c6, c7, c8, c9, c10, c11].drop 0).take (Tryz.prog.cellsOf 26)) = [y0, y1, y2, y3, y4, y5, y6][0]? := hg 0 _ rfl; rw [kp] at t; exact t
      have g1 : DataW.trod enc Tryz.prog w base spare held m 26 [c2, c3] = some y1 := by have t : DataW.trod enc Tryz.prog w base spare held m 26 (([c0, c1, c2, c3, c4, c5, c6, c7, c8, c9, c10, c11].drop 2).take (Tryz.prog.cellsOf 26)) = [y0, y1, y2, y3, y4, y5, y6][1]? := hg 1 _ rfl; rw [kp] at t; exact t
      have g2 : DataW.trod enc Tryz.prog w base spare held m 4 [c4] = some y2 := by have t : DataW.trod enc Tryz.prog w base spare held m 4 (([c0, c1, c2, c3, c4, c5, c6, c7, c8, c9, c10, c11].drop 4).take (Tryz.prog.cellsOf 4)) = [y0, y1, y2, y3, y4, y5, y6][2]? := hg 2 _ rfl; rw [kb] at t; exact t
      have g3 : DataW.trod enc Tryz.prog w base spare held m 3 [c5] = some y3 := by have t : DataW.trod enc Tryz.prog w base spare held m 3 (([c0, c1, c2, c3, c4, c5, c6, c7, c8, c9, c10, c11].drop 5).take (Tryz.prog.cellsOf 3)) = [y0, y1, y2, y3, y4, y5, y6][3]? := hg 3 _ rfl; rw [ki] at t; exact t
      have g4 : DataW.trod enc Tryz.prog w base spare held m 3 [c6] = some y4 := by have t : DataW.trod enc Tryz.prog w base spare held m 3 (([c0, c1, c2, c3, c4, c5, c6, c7, c8, c9, c10, c11].drop 6).take (Tryz.prog.cellsOf 3)) = [y0, y1, y2, y3, y4, y5, y6][4]? := hg 4 _ rfl; rw [ki] at t; exact t
      have g5 : DataW.trod enc Tryz.prog w base spare held m 3 [c7] = some y5 := by have t : DataW.trod enc Tryz.prog w base spare held m 3 (([c0, c1, c2, c3, c4, c5, c6, c7, c8, c9, c10, c11].drop 7).take (Tryz.prog.cellsOf 3)) = [y0, y1, y2, y3, y4, y5, y6][5]? := hg 5 _ rfl; rw [ki] at t; exact t
      have g6 : DataW.trod enc Tryz.prog w base spare held m 29 [c8, c9, c10, c11] = some y6 := by have t : DataW.trod enc Tryz.prog w base spare held m 29 (([c0, c1, c2, c3, c4, c5, c6, c7, c8, c9, c10, c11].drop 8).take (Tryz.prog.cellsOf 29)) = [y0, y1, y2, y3, y4, y5, y6][6]? := hg 6 _ rfl; rw [ks] at t; exact t
      obtain ⟨ag, aa, rfl, rfl⟩ := trod_place g0
      obtain ⟨bg, ba, rfl, rfl⟩ := trod_place g1
      obtain ⟨two, e2, _⟩ := DataW.trod_bool Tryz.underlying4 g2
      obtain ⟨size, e3, _, w3⟩ := DataW.trod_int Tryz.underlying3 g3
      obtain ⟨level, e4, _, w4⟩ := DataW.trod_int Tryz.underlying3 g4
      obtain ⟨birth, e5, _, w5⟩ := DataW.trod_int Tryz.underlying3 g5
      obtain ⟨z0, z1, z2, z3, q, _, t0, t1, t2, t3⟩ := trod_array4 Tryz.underlying29 ku g6
      obtain ⟨s0, f0, _, v0⟩ := DataW.trod_int Tryz.underlying27 t0
      obtain ⟨s1, f1, _, v1⟩ := DataW.trod_int Tryz.underlying27 t1
      obtain ⟨s2, f2, _, v2⟩ := DataW.trod_int Tryz.underlying27 t2
      obtain ⟨s3, f3, _, v3⟩ := DataW.trod_int Tryz.underlying27 t3
      simp at e2 e3 e4 e5 f0 f1 f2 f3
      subst e2 e3 e4 e5 f0 f1 f2 f3
      have b0 := u64_bd v0
      have b1 := u64_bd v1
      have b2 := u64_bd v2
      have b3 := u64_bd v3
      obtain ⟨n0, rfl⟩ := Int.eq_ofNat_of_zero_le b0.1
      obtain ⟨n1, rfl⟩ := Int.eq_ofNat_of_zero_le b1.1
      obtain ⟨n2, rfl⟩ := Int.eq_ofNat_of_zero_le b2.1
      obtain ⟨n3, rfl⟩ := Int.eq_ofNat_of_zero_le b3.1
      have b4 := i64_bd w3
      have b5 := i64_bd w4
      have b6 := i64_bd w5
      exact ⟨⟨ag, aa, bg, ba, two, size, level, birth, n0, n1, n2, n3⟩, rfl, by unfold PtrD.Ok; dsimp only; omega⟩

set_option maxRecDepth 100000 in
theorem open_ptr {b0 : Nat} {v : Value} {d : DataW H} {p : List MemPlace} (hv : Value.okWide Tryz.prog w .any b0 31 v) (h : DataW.Trod enc Tryz.prog w base spare held 31 v d p) :
    ∃ x : PtrD, v = .agg x.cells ∧ x.Ok := by
  obtain ⟨cs, rfl, hsz⟩ := okWide_struct Tryz.underlying31 hv
  have hk : Tryz.prog.cellsOf 31 = 12 := by kernel_rfl
  obtain ⟨fuel, hf⟩ := h
  obtain ⟨x, hx, hok⟩ := open_ptrs (cs := cs.toList) hf (by rw [Array.length_toList, hsz, hk])
  refine ⟨x, ?_, hok⟩
  congr 1
  rw [← Array.toList_inj]; exact hx
end
end Go.Proofs.YtbhkbcpljakmjaaGreat

namespace Go.Proofs.YtbhkbcpljakmjaaGreat
open Go.RowKit
set_option linter.unusedVariables false

/-- Block b is a reader of the bytes l that stands at p. -/
def RdAt (w : World) (b : Nat) (l : List UInt8) (p : Nat) : Prop := w.heap[b]? = some (.cells #[str l, .int .i64 p] 189 (0, 0)) ∧ p ≤ l.length ∧ l.length ≤ 140737488351232
theorem RdAt.lt {w : World} {b p : Nat} {l : List UInt8} (h : RdAt w b l p) : b < w.heap.size := lt_of_block h.1
theorem RdAt.c0 {w : World} {b p : Nat} {l : List UInt8} (h : RdAt w b l p) : w.cell? ⟨b, 0, none⟩ = some (str l) := cell_of_row w b 0 _ _ _ h.1
theorem RdAt.c1 {w : World} {b p : Nat} {l : List UInt8} (h : RdAt w b l p) : w.cell? ⟨b, 1, none⟩ = some (.int .i64 p) := cell_of_row w b 1 _ _ _ h.1
theorem RdAt.fr {w : World} {b p : Nat} {l : List UInt8} (h : RdAt w b l p) (i : Nat) : w.frozen? ⟨b, i, none⟩ = false := by simp [World.frozen?, h.1]
theorem RdAt.keep {w w' : World} {b p B : Nat} {l : List UInt8} (h : RdAt w b l p) (hb : Below B w w') (hB : b < B) : RdAt w' b l p := ⟨(hb.block b hB).trans h.1, h.2⟩
theorem RdAt.drewN {w : World} {b p : Nat} {l : List UInt8} (h : RdAt w b l p) (n : Nat) : RdAt (w.drewN n) b l p := h
theorem RdAt.put {w : World} {b p q : Nat} {l : List UInt8} (h : RdAt w b l p) (hq : q ≤ l.length) : RdAt (w.setCell ⟨b, 1, none⟩ (.int .i64 q)) b l q := by
  refine ⟨?_, hq, h.2.2⟩
  have h1 := h.1
  simp [World.setCell, Array.getElem?_modify, h1]
/-- Only block b, and what is new, has turned. -/
theorem only_put {a w : World} {b : Nat} (h : a.grownBy w (some b)) (v : Value) : a.grownBy (w.setCell ⟨b, 1, none⟩ v) (some b) :=
  ⟨h.os, h.tape, h.output, by simpa [World.setCell] using h.size, fun i hi hne => (Below.heap_setCell w ⟨b, 1, none⟩ v i (by rintro rfl; exact hne rfl)).trans (h.block i hi hne)⟩
theorem only_drewN {a w : World} {row : Option Nat} (h : a.grownBy w row) (n : Nat) : a.grownBy (w.drewN n) row := ⟨h.os, h.tape, h.output, h.size, h.block⟩

theorem new_any (l : List UInt8) (w : World) (hl : l.length ≤ 140737488351232) :
    Calls Tryz.prog 93 #[str l] w fun e w' => e = .returned (.pointer (some ⟨w.heap.size, 0, none⟩)) ∧ RdAt w' w.heap.size l 0 ∧ Below w.heap.size w w' := by
  go_enter Tryz.func93, Tryz.ntmps93
  go_wp2_with fail
  go_ret
  exact ⟨rfl, ⟨heap_alloc_new w _, Nat.zero_le _, hl⟩, (Below.refl _ _).alloc (Nat.le_refl _) _⟩

theorem left_any (b p : Nat) (l : List UInt8) (w : World) (h : RdAt w b l p) :
    Calls Tryz.prog 95 #[.pointer (some ⟨b, 0, none⟩)] w fun e w' => e = .returned (.int .i64 ((l.length : Int) - p)) ∧ ∃ n, w' = w.drewN n := by
  have c0 := h.c0
  have c1 := h.c1
  have hp := h.2.1
  have hl := h.2.2
  have e1 : IntKind.i64.wrap ((l.length : Int) - p) = (l.length : Int) - p := by rw [IntKind.wrap_i64]; omega
  clear h
  go_enter Tryz.func95, Tryz.ntmps95
  go_wp2_with fail
  go_quiet (fail)
  go_wp2_with fail
  go_ret
  exact ⟨rfl, nq, rfl⟩

theorem rd_extract (l : List UInt8) (p m : Nat) : (ByteArray.mk l.toArray).extract p (p + m) = ⟨((l.drop p).take m).toArray⟩ := by
  apply ByteArray.ext
  rw [ByteArray.data_extract]
  simp [List.extract_eq_take_drop]

def tkErr (l : List UInt8) (p : Nat) (n : Int) : Int := if n < 0 then 1 else if (l.length : Int) - p < n then 2 else 0
def tkStr (l : List UInt8) (p : Nat) (n : Int) : List UInt8 := if tkErr l p n = 0 then (l.drop p).take n.toNat else []
def tkPos (l : List UInt8) (p : Nat) (n : Int) : Nat := if tkErr l p n = 0 then p + n.toNat else p

/-- The number that the first k bytes from p on are. -/
def numTo (l : List UInt8) (p : Nat) : Nat → Int
  | 0 => 0
  | k + 1 => bits .or .u64 (numTo l p k) (IntKind.u64.wrap (IntKind.u64.wrap ((l.getD (p + k) 0).toNat : Int) * 2 ^ (8 * k)))

def nbErr (l : List UInt8) (p n : Nat) : Int := if (l.length : Int) - p < n then 2 else 0
def nbVal (l : List UInt8) (p n : Nat) : Int := if (l.length : Int) - p < n then 0 else numTo l p n
def nbPos (l : List UInt8) (p n : Nat) : Nat := if (l.length : Int) - p < n then p else p + n

theorem number_any (b p n : Nat) (l : List UInt8) (w : World) (h : RdAt w b l p) (hn : n ≤ 8) :
    Calls Tryz.prog 122 #[.pointer (some ⟨b, 0, none⟩), .int .i64 n] w fun e w' =>
      e = .returned (.tuple #[.int .u64 (nbVal l p n), .int .i64 (nbErr l p n)]) ∧ RdAt w' b l (nbPos l p n) ∧ w.grownBy w' (some b) := by
  have HL := Lib.hid (left_any b p l w h)
  have HR := Lib.hid h
  by_cases hlt : (l.length : Int) - p < n
  · have he : Hid (nbErr l p n = 2 ∧ nbVal l p n = 0 ∧ nbPos l p n = p) := by unfold Hid nbErr nbVal nbPos; rw [if_pos hlt, if_pos hlt, if_pos hlt]; exact ⟨rfl, rfl, rfl⟩
    clear h
    go_enter Tryz.func122, Tryz.ntmps122
    go_wp2_with fail
    refine HL.out.mono ?_
    rintro e w' ⟨rfl, k, rfl⟩
    go_wp2_with fail
    go_ret2
    rw [he.out.1, he.out.2.1, he.out.2.2]
    exact ⟨rfl, HR.out.drewN k, only_drewN (World.grownBy.refl _ _) k⟩
  · have he : Hid (nbErr l p n = 0 ∧ nbVal l p n = numTo l p n ∧ nbPos l p n = p + n) := by unfold Hid nbErr nbVal nbPos; rw [if_neg hlt, if_neg hlt, if_neg hlt]; exact ⟨rfl, rfl, rfl⟩
    have hp := h.2.1
    have hl := h.2.2
    have hpm : p + n ≤ l.length := by omega
    clear h
    go_enter Tryz.func122, Tryz.ntmps122
    go_wp2_with fail
    refine HL.out.mono ?_
    rintro e w' ⟨rfl, k0, rfl⟩
    go_wp2_with fail
    go_loopw [6, 13] (fun x t wr => ∃ k : Nat, k ≤ n ∧ t = .int .i64 k ∧ x = .int .u64 (numTo l p k) ∧ RdAt wr b l p ∧ w.grownBy wr (some b)) (fun _ t _ => n - (RowKit.intOf t).toNat)
    case atStart => exact ⟨0, Nat.zero_le _, rfl, rfl, HR.out.drewN k0, only_drewN (World.grownBy.refl _ _) k0⟩
    case round =>
      obtain ⟨k, hk, rfl, rfl, hR, hG⟩ := hrel
      have c0 := hR.c0
      have c1 := hR.c1
      have f1 := hR.fr 1
      have HR2 := Lib.hid hR
      clear hR
      by_cases hlt2 : k < n
      · have w1 : IntKind.i64.wrap ((p : Int) + k) = p + k := by rw [IntKind.wrap_i64]; omega
        have w2 : IntKind.i64.wrap (8 * (k : Int)) = 8 * k := by rw [IntKind.wrap_i64]; omega
        have i1 : (0 : Int) ≤ (p : Int) + k := by omega
        have i2 : (p : Int) + k < l.length := by omega
        go_wp2_with fail
        go_quiet (fail)
        go_wp2_with fail
        go_roundw
        case rel =>
          refine ⟨k + 1, by omega, by go_num, ?_, HR2.out.drewN nq, only_drewN hG nq⟩
          have hpk : p + k < l.length := by omega
          have hg : (ByteArray.mk l.toArray)[p + k]'(by rw [ba_size]; exact hpk) = l.getD (p + k) 0 := by
            rw [ba_get, List.getD_eq_getElem?_getD, List.getElem?_eq_getElem hpk]; rfl
          rw [hg]
          rfl
        case measure => simp [RowKit.intOf]; omega
      · obtain rfl : k = n := by omega
        go_wp2_with fail
        go_ret2
        rw [he.out.1, he.out.2.1, he.out.2.2]
        exact ⟨rfl, HR2.out.put hpm, only_put hG _⟩

end Go.Proofs.YtbhkbcpljakmjaaGreat

namespace Go.Proofs.YtbhkbcpljakmjaaGreat
open Go.RowKit
set_option linter.unusedVariables false

def tLen : Value → Nat
  | .string b => b.size
  | _ => 0
theorem ex_drop1 (l : List UInt8) (h : 0 < l.length) : (ByteArray.mk l.toArray).extract 1 l.length = ⟨(l.drop 1).toArray⟩ := by
  apply ByteArray.ext
  rw [ByteArray.data_extract]
  simp [List.take_of_length_le]
theorem ex_take1 (l : List UInt8) (m : Nat) (h : m ≤ l.length) : (ByteArray.mk l.toArray).extract 0 m = ⟨(l.take m).toArray⟩ := by
  apply ByteArray.ext
  rw [ByteArray.data_extract]
  simp [List.extract_eq_take_drop]

theorem right_ex (c : UInt8) (l : List UInt8) : ∀ n, n ≤ l.length → ∃ k, k ≤ n ∧ (∀ j, k ≤ j → j < n → l[j]? = some c) ∧ ∀ x, 0 < k → l[k - 1]? = some x → x ≠ c
  | 0, _ => ⟨0, Nat.le_refl _, fun j _ h => absurd h (by omega), fun x h => absurd h (by omega)⟩
  | n + 1, hn => by
    by_cases h : l[n]? = some c
    · obtain ⟨k, h1, h2, h3⟩ := right_ex c l n (by omega)
      refine ⟨k, by omega, fun j hj hj2 => ?_, h3⟩
      rcases Nat.lt_or_ge j n with h4 | h4
      · exact h2 j hj h4
      · obtain rfl : j = n := by omega
        exact h
    · exact ⟨n + 1, Nat.le_refl _, fun j h1 h2 => absurd h1 (by omega), fun x _ hx e => h (by rw [← e]; exact hx)⟩
theorem left_ex (c : UInt8) : ∀ l : List UInt8, ∃ k, k ≤ l.length ∧ (∀ j, j < k → l[j]? = some c) ∧ ∀ x, l[k]? = some x → x ≠ c
  | [] => ⟨0, Nat.le_refl _, fun j h => absurd h (by omega), fun x h => by simp at h⟩
  | x :: r => by
    by_cases h : x = c
    · obtain ⟨k, h1, h2, h3⟩ := left_ex c r
      refine ⟨k + 1, by simp; omega, fun j hj => ?_, fun y hy => h3 y (by simpa using hy)⟩
      match j, hj with
      | 0, _ => simp [h]
      | j + 1, hj => simpa using h2 j (by omega)
    · exact ⟨0, Nat.zero_le _, fun j h => absurd h (by omega), fun y hy => by simp at hy; rw [← hy]; exact h⟩

end Go.Proofs.YtbhkbcpljakmjaaGreat

namespace Go.Proofs.YtbhkbcpljakmjaaGreat
open Go.RowKit
set_option linter.unusedVariables false

/-- What bytes come to, the lowest first. -/
def leNat : List UInt8 → Nat
  | [] => 0
  | x :: r => x.toNat + 256 * leNat r
theorem leNat_snoc (l : List UInt8) (x : UInt8) : leNat (l ++ [x]) = leNat l + x.toNat * 256 ^ l.length := by
  induction l with
  | nil => simp [leNat]
  | cons y l ih =>
    simp only [List.cons_append, leNat, ih, List.length_cons, Nat.pow_succ, Nat.mul_add]
    rw [show x.toNat * (256 ^ l.length * 256) = 256 * (x.toNat * 256 ^ l.length) by rw [Nat.mul_comm (256 ^ l.length) 256, Nat.mul_left_comm]]
    omega
theorem leNat_lt (l : List UInt8) : leNat l < 256 ^ l.length := by
  induction l with
  | nil => simp [leNat]
  | cons x l ih =>
    have := x.toNat_lt
    simp only [leNat, List.length_cons, Nat.pow_succ]
    omega
theorem leNat_layL (x n : Nat) : leNat (layL x n) = x % 256 ^ n := by
  induction n with
  | zero => simp [layL, leNat, Nat.mod_one]
  | succ n ih =>
    have e : x % 256 ^ (n + 1) = x % 256 ^ n + 256 ^ n * (x / 256 ^ n % 256) := by rw [Nat.pow_succ, Nat.mod_mul]
    rw [layL_succ, leNat_snoc, ih, layL_len, UInt8.toNat_ofNat', e, Nat.mul_comm]
theorem pow256 (k : Nat) : (256 : Nat) ^ k = 2 ^ (8 * k) := by rw [Nat.pow_mul]
theorem pow256_le {k n : Nat} (h : k ≤ n) : (256 : Nat) ^ k ≤ 256 ^ n := Nat.pow_le_pow_right (by omega) h

theorem or_step (x b k : Nat) (hx : x < 256 ^ k) (hb : b < 256) (hk : k < 8) :
    bits .or .u64 (x : Int) (IntKind.u64.wrap (IntKind.u64.wrap (b : Int) * 2 ^ (8 * k))) = ((x + b * 256 ^ k : Nat) : Int) := by
  have h8 : (256 : Nat) ^ k * 256 ≤ 18446744073709551616 := by
    have := pow256_le (show k + 1 ≤ 8 by omega)
    rw [Nat.pow_succ] at this
    exact Nat.le_trans this (by decide)
  have hbk : b * 256 ^ k < 18446744073709551616 := by
    have : b * 256 ^ k < 256 * 256 ^ k := Nat.mul_lt_mul_of_pos_right hb (Nat.pow_pos (by omega))
    omega
  have w1 : IntKind.u64.wrap (b : Int) = b := IntWalk.u64_in _ (by omega)
  have w2 : ((b : Int) * 2 ^ (8 * k)) = ((b * 256 ^ k : Nat) : Int) := by rw [pow256]; push_cast; rfl
  have w3 : IntKind.u64.wrap ((b * 256 ^ k : Nat) : Int) = ((b * 256 ^ k : Nat) : Int) := IntWalk.u64_in _ (by omega)
  rw [w1, w2, w3, u64_or_nat _ _ (by omega) hbk]
  congr 1
  rw [pow256] at hx ⊢
  rw [Nat.or_comm, ← Nat.shiftLeft_eq, ← Nat.shiftLeft_add_eq_or_of_lt hx]
  omega

theorem numTo_eq (l : List UInt8) (p k : Nat) (h : p + k ≤ l.length) (hk : k ≤ 8) : numTo l p k = (leNat ((l.drop p).take k) : Nat) := by
  induction k with
  | zero => simp [numTo, leNat]
  | succ k ih =>
    have hlt : p + k < l.length := by omega
    have hg : (l.drop p)[k]? = some (l[p + k]'hlt) := by rw [List.getElem?_drop]; exact List.getElem?_eq_getElem hlt
    have e1 : l.getD (p + k) 0 = l[p + k]'hlt := by rw [List.getD_eq_getElem?_getD, List.getElem?_eq_getElem hlt]; rfl
    have e2 : ((l.drop p).take k).length = k := by rw [List.length_take, List.length_drop]; omega
    have e3 := leNat_lt ((l.drop p).take k)
    rw [e2] at e3
    rw [numTo, ih (by omega) (by omega), e1, or_step _ _ _ e3 (UInt8.toNat_lt _) (by omega)]
    congr 1
    rw [List.take_add_one, hg]
    simp only [Option.toList_some]
    rw [leNat_snoc, e2]

/-- What is read: n bytes from p on, if there are so many. -/
def rdN (l : List UInt8) (p n : Nat) : Nat := if (l.length : Int) - p < n then 0 else leNat ((l.drop p).take n)
theorem nbVal_eq {l : List UInt8} {p n : Nat} (hn : n ≤ 8) (hp : p ≤ l.length) : nbVal l p n = (rdN l p n : Nat) := by
  unfold nbVal rdN
  split
  · rfl
  · rename_i h
    exact numTo_eq l p n (by omega) hn
theorem rdN_lt (l : List UInt8) (p n : Nat) : rdN l p n < 256 ^ n := by
  unfold rdN
  split
  · exact Nat.pow_pos (by omega)
  · have := leNat_lt ((l.drop p).take n)
    refine Nat.lt_of_lt_of_le this (pow256_le ?_)
    rw [List.length_take]; omega

theorem num_any (b p n : Nat) (l : List UInt8) (w : World) (h : RdAt w b l p) (hn : n ≤ 8) :
    Calls Tryz.prog 122 #[.pointer (some ⟨b, 0, none⟩), .int .i64 n] w fun e w' =>
      e = .returned (.tuple #[.int .u64 (rdN l p n : Nat), .int .i64 (nbErr l p n)]) ∧ RdAt w' b l (nbPos l p n) ∧ w.grownBy w' (some b) :=
  (number_any b p n l w h hn).mono fun e w' ⟨h1, h2⟩ => ⟨by rw [h1, nbVal_eq hn h.2.1], h2⟩

theorem rU32_any (b p : Nat) (l : List UInt8) (w : World) (h : RdAt w b l p) :
    Calls Tryz.prog 96 #[.pointer (some ⟨b, 0, none⟩)] w fun e w' =>
      e = .returned (.tuple #[.int .i64 (rdN l p 4 : Nat), .int .i64 (nbErr l p 4)]) ∧ RdAt w' b l (nbPos l p 4) ∧ w.grownBy w' (some b) := by
  have H := Lib.hid (num_any b p 4 l w h (by omega))
  have hlt := rdN_lt l p 4
  have hw : IntKind.i64.wrap ((rdN l p 4 : Nat) : Int) = (rdN l p 4 : Nat) := by rw [IntKind.wrap_i64] <;> omega
  clear h
  generalize rdN l p 4 = v at *
  go_enter Tryz.func96, Tryz.ntmps96
  go_wp2_with fail
  refine H.out.mono ?_
  rintro e w' ⟨rfl, hR, hG⟩
  go_wp2_with fail
  go_ret2
  exact ⟨rfl, hR, hG⟩

def inErr (l : List UInt8) (p : Nat) : Int := if (l.length : Int) - p < 8 then 2 else if 4611686018427387904 ≤ leNat ((l.drop p).take 8) then 3 else 0
def inVal (l : List UInt8) (p : Nat) : Nat := if inErr l p = 0 then rdN l p 8 else 0
def inPos (l : List UInt8) (p : Nat) : Nat := if inErr l p = 0 then p + 8 else p

theorem rd_rest (l : List UInt8) (p : Nat) (hp : p ≤ l.length) : (ByteArray.mk l.toArray).extract p l.length = ⟨(l.drop p).toArray⟩ := by
  apply ByteArray.ext
  rw [ByteArray.data_extract]
  simp [List.take_of_length_le]

theorem nilLeft_any (w : World) : Calls Tryz.prog 95 #[.pointer none] w fun e w' => e = .returned (.int .i64 0) ∧ w = w' := by
  go_enter Tryz.func95, Tryz.ntmps95
  go_wp2_with fail
  go_ret
  exact ⟨rfl, rfl⟩
theorem nilNum_any (n : Nat) (w : World) (hn : 0 < n) (hn2 : n ≤ 8) :
    Calls Tryz.prog 122 #[.pointer none, .int .i64 n] w fun e w' => e = .returned (.tuple #[.int .u64 0, .int .i64 2]) ∧ w = w' := by
  go_enter Tryz.func122, Tryz.ntmps122
  go_wp2_with fail
  refine (nilLeft_any w).mono ?_
  rintro e w' ⟨rfl, rfl⟩
  go_wp2_with fail
  go_ret2
  exact ⟨rfl, rfl⟩
end Go.Proofs.YtbhkbcpljakmjaaGreat

namespace Go.Proofs.YtbhkbcpljakmjaaGreat
set_option linter.unusedVariables false
set_option linter.unusedSimpArgs false
open Go.RowKit

/-- A text's words, and its sum. -/
def wordsP (P : List UInt8) : List Nat := (List.range (P.length / 4)).map fun k => rdN P (4 * k) 4
def wordsL (s : List UInt8) : List Nat := wordsP (padL s 4)
def M64 : Nat := 18446744073709551616
def fstep (x : Nat × Nat × Nat × Nat) (w : Nat) : Nat × Nat × Nat × Nat :=
  ((x.1 + w) % M64, (x.2.1 + (x.1 + w) % M64) % M64, (x.2.2.1 + (x.2.1 + (x.1 + w) % M64) % M64) % M64, (x.2.2.2 + (x.2.2.1 + (x.2.1 + (x.1 + w) % M64) % M64) % M64) % M64)
def fsum (s : List UInt8) : Nat × Nat × Nat × Nat := (wordsL s).foldl fstep (0, 0, 0, 0)
abbrev fcells (x : Nat × Nat × Nat × Nat) : Array Value := #[.int .u64 x.1, .int .u64 x.2.1, .int .u64 x.2.2.1, .int .u64 x.2.2.2]
theorem keepF {W W' : World} {b o : Nat} {v : Value} (h : W.cell? ⟨b, o, none⟩ = some v) (hb : Below W.heap.size W W') : W'.cell? ⟨b, o, none⟩ = some v :=
  (World.cell?_of_block (hb.block b (World.block_lt_of_cell? W _ h))).trans h
end Go.Proofs.YtbhkbcpljakmjaaGreat

namespace Go.Proofs.YtbhkbcpljakmjaaGreat
set_option linter.unusedVariables false
set_option linter.unusedSimpArgs false
open Go.RowKit

/-- What is said abides whatever turns from block B on. -/
def Firm {β : Type} (B : Nat) (I : β → World → Prop) : Prop := ∀ s W W' row, I s W → W.grownBy W' row → (∀ r, row = some r → B ≤ r) → I s W'
/-- What is said abides cells that turn from block B on. -/
def FirmC {β : Type} (B : Nat) (J : β → World → Prop) : Prop := ∀ s W W' row, J s W → W.grownBy W' row → (∀ r, row = some r → B ≤ r ∧ ∃ o : Obj, W.heap[r]? = some o ∧ o.isCells = true) → J s W'
theorem FirmC.mono {β : Type} {B B' : Nat} {J : β → World → Prop} (h : FirmC B J) (hB : B ≤ B') : FirmC B' J := fun s W W' row hs hg hr => h s W W' row hs hg fun r e => ⟨Nat.le_trans hB (hr r e).1, (hr r e).2⟩
theorem FirmC.below {β : Type} {B : Nat} {J : β → World → Prop} (h : FirmC B J) {s : β} {W W' : World} (hs : J s W) (hb : Below W.heap.size W W') : J s W' :=
  h s W W' none hs ⟨hb.os, hb.tape, hb.output, hb.size, fun i hi _ => hb.block i hi⟩ (fun r e => by cases e)
/-- An iterator that gives just these, and then returns. -/
def SeqCells {α : Type} (F : Fence) (n : Nat) (P : Program) (g : Nat) (lb : Array Value) (encs : α → Array Value) (Kp : World → World → Prop) (xs : List α) (w : World) : Prop :=
  ∀ (l : Nat) (J : List α → World → Prop) (W : World), Below w.heap.size w W → FirmC W.heap.size J →
    (∀ pre x W1, J pre W1 → pre ++ [x] <+: xs → YieldAt F (n - 1) P l (encs x) W1 fun e W' => e = .returned (.bool true) ∧ J (pre ++ [x]) W' ∧ Kp W1 W') →
    J [] W → CallsIn F n P g (#[.func (.yield l) #[] #[]] ++ lb) W fun e W' => (∃ v, e = .returned v) ∧ J xs W'
/-- How a round ends. -/
def roundEnd {α : Type} (B : Nat) (Kp : World → World → Prop) (I : List α → World → Prop) (pre : List α) (W : World) : Exit → Act → World → Prop
  | .normal, _, W' => KeepsFrom B W W' ∧ Kp W W' ∧ I pre W'
  | _, _, _ => False
variable {F : Fence} {n : Nat} {P : Program}
theorem wpIn_range_cells {α : Type} {g : Operand} {ps : Array Tmp} {assign body : Code} {Q : Exit → Act → World → Prop} {a : Act} {w : World} (hro : F.round = none) (h1 : 1 ≤ n) {gf : Nat} {lb : Array Value}
    (hg : a.eval g = .func (.func gf) #[] lb) (hFg : F.fn gf) (eg : ∀ args w, (callFunc gf args).run P w = .ok (.enter gf args) w) {encs : α → Array Value} {Kp : World → World → Prop} {xs : List α} (hseq : SeqCells F (n - 1) P gf lb encs Kp xs w)
    (hKt : ∀ {A B C : World}, Kp A B → Kp B C → Kp A C) (hKb : ∀ (W : World) (l : Nat) (o o' : Obj), W.heap[l]? = some o → o.isCells = false → Kp W (W.putObj l o')) (hps : ∀ x, (encs x).size = ps.size)
    (I : List α → World → Prop) (hI : Firm w.heap.size I) (h0 : I [] w) (a₁ : α → Act)
    (hassign : ∀ (l : Nat) (x : α) (W : World) (K : Act → World → Prop), K (a₁ x) W →
      assign.wpIn (F.inRound l) (n - 1 - 1) P (Exit.then K (fun _ _ _ => False)) { tmps := (ps.zip (encs x)).foldl (fun t (p, v) => t.setIfInBounds p v) a.tmps, defers := [] } W)
    (hbody : ∀ (l : Nat) (pre : List α) (x : α) (W : World), I pre W → pre ++ [x] <+: xs → body.wpIn (F.inRound l) (n - 1 - 1) P (roundEnd w.heap.size Kp I (pre ++ [x]) W) (a₁ x) W)
    (hdone : ∀ (D : Nat) (W : World), w.heap.size ≤ D → I xs W → W.heap[D]? = some (.deferred (some [])) → Q .normal { a with defers := { target := .collected D, args := #[] } :: a.defers } W) :
    (Code.rangeFunc g ps assign body).wpIn F n P Q a w := by
  refine wpIn_rangeFunc fun fn hfn => ?_
  rw [hro]
  let L : LoopState → Loop := fun st => { state := st, pending := none, fn, tmps := a.tmps, params := ps, assign, body, defers := w.heap.size }
  let V : World := (w.alloc (.deferred (some []))).alloc (.loop (L .ready))
  have vl : V.heap[w.heap.size + 1]? = some (.loop (L .ready)) := by
    have := World.alloc_heap_new (w.alloc (.deferred (some []))) (.loop (L .ready))
    rwa [World.size_alloc] at this
  have vd : V.heap[w.heap.size]? = some (.deferred (some [])) := (Below.heap_alloc _ _ _ (by simp)).trans (World.alloc_heap_new w _)
  have vb : Below w.heap.size w V := ((Below.refl _ w).alloc (Nat.le_refl _) _).alloc (by simp) _
  have vs : V.heap.size = w.heap.size + 2 := by simp [V]
  have vi : I [] V := hI _ _ _ none h0 ⟨vb.os, vb.tape, vb.output, vb.size, fun i hi _ => vb.block i hi⟩ (fun r e => by cases e)
  have put : ∀ {s : List α} {W : World} {o o' : Obj}, I s W → I s (W.putObj (w.heap.size + 1) o') := fun {s W o o'} hs => hI s W _ (some (w.heap.size + 1)) hs (grownBy_putObj' W _ o') (fun r e => by cases e; omega)
  refine ⟨w.heap.size + 1, [{ target := .collected w.heap.size, args := #[] }], V, { target := .fn (.func gf) lb, args := #[.func (.yield (w.heap.size + 1)) #[] #[]] }, V, gf,
    #[.func (.yield (w.heap.size + 1)) #[] #[]] ++ lb, V, run_enterLoop_outer _ _ _ _ _, by simp only [resolve, hg]; simp [go_sem], fun f' hf' => by simp [Target.leads] at hf'; subst hf'; exact hFg, by simp [invoke, go_sem, eg], fun _ => h1, ?_⟩
  have firm : FirmC V.heap.size fun (pre : List α) W => I pre W ∧ W.heap[w.heap.size + 1]? = some (.loop (L .ready)) ∧ W.heap[w.heap.size]? = some (.deferred (some [])) := by
    rintro s A B row ⟨i1, i2, i3⟩ hgr hr
    have hne : ∀ r, row = some r → w.heap.size + 2 ≤ r := fun r e => by have := (hr r e).1; omega
    refine ⟨hI s A B row i1 hgr fun r e => by have := hne r e; omega, (hgr.block _ (Array.getElem?_eq_some_iff.1 i2).1 fun e => ?_).trans i2, (hgr.block _ (Array.getElem?_eq_some_iff.1 i3).1 fun e => ?_).trans i3⟩
    · have := hne _ e.symm; omega
    · have := hne _ e.symm; omega
  refine (hseq (w.heap.size + 1) _ V vb firm ?_ ⟨vi, vl, vd⟩).mono ?_
  · rintro pre x W ⟨i1, i2, i3⟩ hpre
    have hlt : w.heap.size + 1 < W.heap.size := (Array.getElem?_eq_some_iff.1 i2).1
    refine ⟨fn, _, assign, body, run_yield (args := encs x) i2 (hps x), roundIn_of_wpIn hfn (hassign _ x W _ ⟨_, run_beginRound i2 rfl, ?_⟩)⟩
    have j2 : (W.putObj (w.heap.size + 1) (.loop (L .busy))).heap[w.heap.size + 1]? = some (.loop (L .busy)) := World.putObj_heap_same hlt
    have j3 : (W.putObj (w.heap.size + 1) (.loop (L .busy))).heap[w.heap.size]? = some (.deferred (some [])) := (World.putObj_heap_other (by omega)).trans i3
    refine wpIn_mono (hbody _ pre x _ (put (o := .loop (L .ready)) i1) hpre) ?_
    intro e a3 W3 hp
    cases e with
    | normal =>
      obtain ⟨k1, k2, k3⟩ := hp
      have m2 := k1.same _ _ (by omega) j2 rfl
      have m3 := k1.same _ _ (Nat.le_refl _) j3 rfl
      exact ⟨_, _, run_endRound none m2, ⟨rfl, ⟨put (o := .loop (L .busy)) k3, World.putObj_heap_same (Array.getElem?_eq_some_iff.1 m2).1, (World.putObj_heap_other (by omega)).trans m3⟩,
        hKt (hKt (hKb _ _ _ _ i2 rfl) k2) (hKb _ _ _ _ m2 rfl)⟩⟩
    | ret => exact hp.elim
    | exit id => exact hp.elim
    | goto t => exact hp.elim
    | panic c => exact hp.elim
    | outgrown => exact hp.elim
  · rintro e W2 ⟨⟨v, rfl⟩, i1, i2, i3⟩
    exact ⟨none, _, run_endLoop i2 (by simp), hdone _ _ (Nat.le_refl _) (put (o := .loop (L .ready)) i1) ((World.putObj_heap_other (by omega)).trans i3)⟩
end Go.Proofs.YtbhkbcpljakmjaaGreat
