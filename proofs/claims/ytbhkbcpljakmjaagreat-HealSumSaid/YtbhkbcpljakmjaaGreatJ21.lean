/-
  == on places, sums and pointers.
  Contracts of package ptr: None, Bytes.
  The walks of LeLays, LeUnlike, LePads.
  The walk of LeUnlike.
  Plain words on pointers: unlike pointers have unlike bytes; what is right can be laid.
  Contracts of le's reader: New, Left, Take, number, U64.
  strings.Trim at the one byte zero: what is left is empty just if all bytes are zero.
  More contracts of le's reader: numbers as what bytes come to; U32, Int, Zeros; the nil reader.
  What is in a device's cache, in order; a crash, sector by sector. No program stands here.
-/
import Derived.Test.YtbhkbcpljakmjaaGreatJ18
import Derived.Test.YtbhkbcpljakmjaaGreatJ07
import Derived.Test.YtbhkbcpljakmjaaGreatJ17
import Derived.Laws.BitsAllLaws
import Derived.Test.YtbhkbcpljakmjaaGreatJ02
namespace Go.Proofs.YtbhkbcpljakmjaaGreat
open Go.RowKit
set_option linter.unusedVariables false

theorem Tryz.stoodPlace : Tryz.prog.stoodInHeld 26 = false := by kernel_rfl
theorem Tryz.stoodPtr : Tryz.prog.stoodInHeld 31 = false := by kernel_rfl

theorem eqIn_place (w : World) (d : Nat) (a b c e : Int) : (Op.equalIn (d + 2) 26 (.agg #[.int .i64 a, .int .i64 b]) (.agg #[.int .i64 c, .int .i64 e])).run Tryz.prog w = .ok (a == c && b == e) w := by
  rw [run_equalIn_struct w (d + 1) _ _ _ (by kernel_rfl) Tryz.stoodPlace]
  simp [go_sem, Tryz.underlying26]
  by_cases h1 : a = c <;> by_cases h2 : b = e <;> simp [h1, h2]

theorem eqIn_sum (w : World) (d : Nat) (a0 a1 a2 a3 b0 b1 b2 b3 : Nat) : (Op.equalIn (d + 2) 29 (.agg #[.int .u64 a0, .int .u64 a1, .int .u64 a2, .int .u64 a3]) (.agg #[.int .u64 b0, .int .u64 b1, .int .u64 b2, .int .u64 b3])).run Tryz.prog w =
    .ok ((a0 : Int) == b0 && ((a1 : Int) == b1 && ((a2 : Int) == b2 && (a3 : Int) == b3))) w := by
  rw [Op.equalIn]
  simp only [Sem.run_bind, run_underlying Tryz.underlying29, Result.andThen_ok]
  simp [go_sem, Tryz.sizeOf27, Std.Legacy.Range.forIn_eq_forIn_range', Std.Legacy.Range.size, List.range']
  repeat' split
  all_goals (congr 1; simp_all)

def ptrEq (p q : PtrD) : Bool := decide (p = q)
theorem eql_ptr (p q : PtrD) (w : World) : (binOp .eql 31 (.agg p.cells) (.agg q.cells)).run Tryz.prog w = .ok (.bool (ptrEq p q)) w := by
  obtain ⟨a1, a2, a3, a4, a5, a6, a7, a8, a9, aa, ab, ac⟩ := p
  obtain ⟨b1, b2, b3, b4, b5, b6, b7, b8, b9, ba, bb, bc⟩ := q
  rw [run_eql_struct, run_equalIn_struct w 9999 _ _ _ (by kernel_rfl) Tryz.stoodPtr]
  simp [go_sem, Tryz.underlying31, eqIn_place, eqIn_sum, PtrD.cells, ptrEq]
  repeat' split
  all_goals (congr 2; try simp_all)
  all_goals grind
theorem neq_ptr (p q : PtrD) (w : World) : (binOp .neq 31 (.agg p.cells) (.agg q.cells)).run Tryz.prog w = .ok (.bool (!ptrEq p q)) w := by
  obtain ⟨a1, a2, a3, a4, a5, a6, a7, a8, a9, aa, ab, ac⟩ := p
  obtain ⟨b1, b2, b3, b4, b5, b6, b7, b8, b9, ba, bb, bc⟩ := q
  rw [run_neq_struct, run_equalIn_struct w 9999 _ _ _ (by kernel_rfl) Tryz.stoodPtr]
  simp [go_sem, Tryz.underlying31, eqIn_place, eqIn_sum, PtrD.cells, ptrEq]
  repeat' split
  all_goals (congr 2; try simp_all)
  all_goals grind
theorem eql_place (a b c e : Int) (w : World) : (binOp .eql 26 (.agg #[.int .i64 a, .int .i64 b]) (.agg #[.int .i64 c, .int .i64 e])).run Tryz.prog w = .ok (.bool (a == c && b == e)) w := by
  rw [run_eql_struct, run_equalIn_struct w 9999 _ _ _ (by kernel_rfl) Tryz.stoodPlace]
  simp [go_sem, Tryz.underlying26]
  by_cases h1 : a = c <;> by_cases h2 : b = e <;> simp [h1, h2]
end Go.Proofs.YtbhkbcpljakmjaaGreat

namespace Go.Proofs.YtbhkbcpljakmjaaGreat
open Go.RowKit
set_option linter.unusedVariables false

def ptrZ : PtrD := ⟨0, 0, 0, 0, false, 0, 0, 0, 0, 0, 0, 0⟩
/-- All of it is zero. -/
def noneB (p : PtrD) : Bool := ptrEq p ptrZ
set_option maxRecDepth 100000 in
theorem none_any (p : PtrD) (w : World) :
    Calls Tryz.prog 42 #[.agg p.cells] w fun e w' => e = .returned (.bool (noneB p)) ∧ Below w.heap.size w w' := by
  have h := PtrAt.new w p 31
  obtain ⟨h0, h1, h2, h3, h4, h5, h6, h7, h8, h9, ha, hc⟩ := h
  simp only [Nat.zero_add] at h1 h2 h3 h4 h5 h6 h7 h8 h9 ha hc
  have he : ∀ W, (binOp .eql 31 (.agg #[.int .i64 p.ag, .int .i64 p.aa, .int .i64 p.bg, .int .i64 p.ba, .bool p.two, .int .i64 p.size, .int .i64 p.level, .int .i64 p.birth, .int .u64 p.s0, .int .u64 p.s1, .int .u64 p.s2, .int .u64 p.s3])
      (.agg #[.int .i64 0, .int .i64 0, .int .i64 0, .int .i64 0, .bool false, .int .i64 0, .int .i64 0, .int .i64 0, .int .u64 0, .int .u64 0, .int .u64 0, .int .u64 0])).run Tryz.prog W = .ok (.bool (noneB p)) W := fun W => eql_ptr p ptrZ W
  have hb := (Below.refl w.heap.size w).alloc (Nat.le_refl _) (.cells p.cells 31)
  go_enter Tryz.func42, Tryz.ntmps42
  go_wp2_with fail
  go_ret
  exact ⟨rfl, hb⟩
/-- Whether a pointer can be laid; its bytes. -/
def layOk (p : PtrD) : Bool := withinL 4294967295 [p.ag, p.aa, p.bg, p.ba, p.birth] && withinL 255 [p.size, p.level]
def ptrOne (p : PtrD) : Int := p.size + p.level * 256 + if p.two then 65536 else 0
def ptrL (p : PtrD) : List UInt8 := padL (smallL [p.ag, p.aa, p.bg, p.ba, ptrOne p, p.birth] ++ sumL [p.s0, p.s1, p.s2, p.s3]) 64

end Go.Proofs.YtbhkbcpljakmjaaGreat

namespace Go.Proofs.YtbhkbcpljakmjaaGreat
open Go.RowKit
set_option linter.unusedVariables false

theorem long_any {n : Nat} (l : List UInt8) (h : 3000 < l.length) (hl : l.length ≤ 140737488351232) : (3000 : Int) < (l.length : Int) := by omega

end Go.Proofs.YtbhkbcpljakmjaaGreat

namespace Go.Proofs.YtbhkbcpljakmjaaGreat
open Go.RowKit
set_option linter.unusedVariables false

theorem layL_mod (x y : Nat) : ∀ n, layL x n = layL y n → x % 256 ^ n = y % 256 ^ n
  | 0, _ => by simp [Nat.mod_one]
  | n + 1, h => by
    rw [layL_succ, layL_succ] at h
    obtain ⟨h1, h2⟩ := List.append_inj h (by rw [layL_len, layL_len])
    have h3 := layL_mod x y n h1
    simp only [List.cons.injEq, and_true] at h2
    have h4 : (UInt8.ofNat (x / 256 ^ n)).toNat = (UInt8.ofNat (y / 256 ^ n)).toNat := by rw [h2]
    rw [UInt8.toNat_ofNat', UInt8.toNat_ofNat'] at h4
    have h5 : x / 256 ^ n % 256 = y / 256 ^ n % 256 := h4
    rw [Nat.mod_pow_succ, Nat.mod_pow_succ, h3, h5]
theorem layL_inj {x y n : Nat} (hx : x < 256 ^ n) (hy : y < 256 ^ n) (h : layL x n = layL y n) : x = y := by
  have := layL_mod x y n h
  rwa [Nat.mod_eq_of_lt hx, Nat.mod_eq_of_lt hy] at this
theorem layL_ne {x n : Nat} (h : 0 < n) : layL x n ≠ [] := by
  intro e
  have := layL_len x n
  rw [e] at this
  simp at this; omega
theorem u32L_eq {n m : Int} (h1 : u32L n ≠ []) (h2 : u32L m ≠ []) : u32L n = u32L m ↔ n = m := by
  unfold u32L at *
  split at h1
  · next h =>
    split at h2
    · next h' =>
      rw [if_pos h, if_pos h']
      constructor
      · intro e
        have := layL_inj (n := 4) (by omega) (by omega) e
        omega
      · rintro rfl; rfl
    · exact absurd rfl h2
  · exact absurd rfl h1
theorem intL_eq {n m : Int} (h1 : intL n ≠ []) (h2 : intL m ≠ []) : intL n = intL m ↔ n = m := by
  unfold intL at *
  split at h1
  · next h =>
    split at h2
    · next h' =>
      rw [if_pos h, if_pos h']
      constructor
      · intro e
        have := layL_inj (n := 8) (by omega) (by omega) e
        omega
      · rintro rfl; rfl
    · exact absurd rfl h2
  · exact absurd rfl h1

end Go.Proofs.YtbhkbcpljakmjaaGreat

namespace Go.Proofs.YtbhkbcpljakmjaaGreat
open Go.RowKit

theorem u32L_in {x : Int} (h0 : 0 ≤ x) (h1 : x ≤ 4294967295) : u32L x = layL x.toNat 4 := by
  unfold u32L
  first | rw [if_pos ⟨h0, h1⟩] | (split <;> first | rfl | omega)
theorem layOk_bd {p : PtrD} (h : layOk p = true) : (0 ≤ p.ag ∧ p.ag ≤ 4294967295) ∧ (0 ≤ p.aa ∧ p.aa ≤ 4294967295) ∧ (0 ≤ p.bg ∧ p.bg ≤ 4294967295) ∧ (0 ≤ p.ba ∧ p.ba ≤ 4294967295) ∧ (0 ≤ p.birth ∧ p.birth ≤ 4294967295) ∧
    (0 ≤ p.size ∧ p.size ≤ 255) ∧ (0 ≤ p.level ∧ p.level ≤ 255) := by
  simp only [layOk, withinL, List.all_cons, List.all_nil, Bool.and_true, Bool.and_eq_true, decide_eq_true_eq] at h
  obtain ⟨⟨h1, h2, h3, h4, h5⟩, h6, h7⟩ := h
  exact ⟨h1, h2, h3, h4, h5, h6, h7⟩
theorem ptrOne_bd {p : PtrD} (h : layOk p = true) : 0 ≤ ptrOne p ∧ ptrOne p ≤ 4294967295 := by
  obtain ⟨_, _, _, _, _, _, _⟩ := layOk_bd h
  unfold ptrOne; split <;> omega
theorem ptrL_eq {p : PtrD} (h : layOk p = true) : ptrL p = (layL p.ag.toNat 4 ++ (layL p.aa.toNat 4 ++ (layL p.bg.toNat 4 ++ (layL p.ba.toNat 4 ++ (layL (ptrOne p).toNat 4 ++ (layL p.birth.toNat 4 ++
    (layL p.s0 8 ++ (layL p.s1 8 ++ (layL p.s2 8 ++ layL p.s3 8))))))))) ++ List.replicate 8 0 := by
  obtain ⟨⟨a1, a2⟩, ⟨b1, b2⟩, ⟨c1, c2⟩, ⟨d1, d2⟩, ⟨e1, e2⟩, _, _⟩ := layOk_bd h
  obtain ⟨o1, o2⟩ := ptrOne_bd h
  have hb : smallL [p.ag, p.aa, p.bg, p.ba, ptrOne p, p.birth] ++ sumL [p.s0, p.s1, p.s2, p.s3] = (layL p.ag.toNat 4 ++ (layL p.aa.toNat 4 ++ (layL p.bg.toNat 4 ++ (layL p.ba.toNat 4 ++ (layL (ptrOne p).toNat 4 ++ (layL p.birth.toNat 4 ++
      (layL p.s0 8 ++ (layL p.s1 8 ++ (layL p.s2 8 ++ layL p.s3 8))))))))) := by
    unfold smallL sumL
    simp only [List.flatMap_cons, List.flatMap_nil, List.append_nil, List.append_assoc]
    rw [u32L_in a1 a2, u32L_in b1 b2, u32L_in c1 c2, u32L_in d1 d2, u32L_in o1 o2, u32L_in e1 e2]
  have hl : (smallL [p.ag, p.aa, p.bg, p.ba, ptrOne p, p.birth] ++ sumL [p.s0, p.s1, p.s2, p.s3]).length = 56 := by
    rw [hb]; simp [layL_len]
  unfold ptrL padL
  rw [if_pos (by decide), hl, hb]
  rfl
theorem ptrL_inj {p q : PtrD} (hp : layOk p = true) (hq : layOk q = true) (op : p.Ok) (oq : q.Ok) (h : ptrL p = ptrL q) : p = q := by
  rw [ptrL_eq hp, ptrL_eq hq] at h
  have h := List.append_inj_left' h rfl
  obtain ⟨e1, h⟩ := List.append_inj h (by simp [layL_len])
  obtain ⟨e2, h⟩ := List.append_inj h (by simp [layL_len])
  obtain ⟨e3, h⟩ := List.append_inj h (by simp [layL_len])
  obtain ⟨e4, h⟩ := List.append_inj h (by simp [layL_len])
  obtain ⟨e5, h⟩ := List.append_inj h (by simp [layL_len])
  obtain ⟨e6, h⟩ := List.append_inj h (by simp [layL_len])
  obtain ⟨e7, h⟩ := List.append_inj h (by simp [layL_len])
  obtain ⟨e8, h⟩ := List.append_inj h (by simp [layL_len])
  obtain ⟨e9, e10⟩ := List.append_inj h (by simp [layL_len])
  obtain ⟨⟨a1, a2⟩, ⟨b1, b2⟩, ⟨c1, c2⟩, ⟨d1, d2⟩, ⟨g1, g2⟩, ⟨i1, i2⟩, ⟨j1, j2⟩⟩ := layOk_bd hp
  obtain ⟨o1, o2⟩ := ptrOne_bd hp
  obtain ⟨⟨a3, a4⟩, ⟨b3, b4⟩, ⟨c3, c4⟩, ⟨d3, d4⟩, ⟨g3, g4⟩, ⟨i3, i4⟩, ⟨j3, j4⟩⟩ := layOk_bd hq
  obtain ⟨o3, o4⟩ := ptrOne_bd hq
  obtain ⟨p0, p1, p2, p3, _⟩ := op
  obtain ⟨q0, q1, q2, q3, _⟩ := oq
  have f1 := layL_inj (n := 4) (by omega) (by omega) e1
  have f2 := layL_inj (n := 4) (by omega) (by omega) e2
  have f3 := layL_inj (n := 4) (by omega) (by omega) e3
  have f4 := layL_inj (n := 4) (by omega) (by omega) e4
  have f5 := layL_inj (n := 4) (by omega) (by omega) e5
  have f6 := layL_inj (n := 4) (by omega) (by omega) e6
  have f7 := layL_inj (n := 8) (by omega) (by omega) e7
  have f8 := layL_inj (n := 8) (by omega) (by omega) e8
  have f9 := layL_inj (n := 8) (by omega) (by omega) e9
  have f10 := layL_inj (n := 8) (by omega) (by omega) e10
  have g5 : ptrOne p = ptrOne q := by omega
  have k1 : p.ag = q.ag := by omega
  have k2 : p.aa = q.aa := by omega
  have k3 : p.bg = q.bg := by omega
  have k4 : p.ba = q.ba := by omega
  have k6 : p.birth = q.birth := by omega
  have t : p.two = q.two ∧ p.size = q.size ∧ p.level = q.level := by
    clear k1 k2 k3 k4 k6 f1 f2 f3 f4 f5 f6 f7 f8 f9 f10 e1 e2 e3 e4 e5 e6 e7 e8 e9 e10 hp hq h o1 o2 o3 o4
    unfold ptrOne at g5
    cases hx : p.two <;> cases hy : q.two <;> simp only [hx, hy, Bool.false_eq_true, if_true, if_false, Int.add_zero] at g5 <;> refine ⟨?_, ?_, ?_⟩ <;> first | rfl | omega
  obtain ⟨t1, t2, t3⟩ := t
  cases p; cases q
  simp only at *
  subst k1 k2 k3 k4 k6 t1 t2 t3 f7 f8 f9 f10
  rfl
theorem ptrL_iff {p q : PtrD} (hp : layOk p = true) (hq : layOk q = true) (op : p.Ok) (oq : q.Ok) : decide (ptrL p = ptrL q) = ptrEq p q := by
  unfold ptrEq
  by_cases h : p = q
  · subst h; simp
  · rw [decide_eq_false h, decide_eq_false fun e => h (ptrL_inj hp hq op oq e)]

/-- Two stretches are apart; a pointer is right. -/
def apB (gs : List (Int × Int)) (secs ag aa bg ba size : Int) : Bool := (ag != bg) || (decide (aa + gTakes gs secs ag size ≤ ba) || decide (ba + gTakes gs secs bg size ≤ aa))
def rightB (gs : List (Int × Int)) (secs : Int) (p : PtrD) : Bool :=
  decide (0 ≤ p.level) && decide (p.level ≤ 3) && decide (1 ≤ p.birth) && decide (p.birth ≤ 4294967295) && cMay gs secs p.ag p.aa p.size &&
    (if p.two then cMay gs secs p.bg p.ba p.size && apB gs secs p.ag p.aa p.bg p.ba p.size else p.bg == 0 && p.ba == 0)
theorem cMay_bd {gs : List (Int × Int)} {secs pg pa size : Int} (h : cMay gs secs pg pa size = true) : 0 ≤ pg ∧ pg ≤ 4 ∧ 0 ≤ pa ∧ pa ≤ 100000 ∧ 1 ≤ size ∧ size ≤ 4 := by
  obtain ⟨hhas, hz1, hz2, hp1, hp2, _⟩ := cMay_true h
  have hS := gSectors_bd gs secs pg
  have hT := gTakes_bd gs secs pg size
  obtain ⟨k, x, rfl, hk, hl4, _⟩ := gHas_true hhas
  omega
theorem right_pure {gs : List (Int × Int)} {secs : Int} {p : PtrD} (h : rightB gs secs p = true) : noneB p = false ∧ layOk p = true ∧ (p.two = true → (p.ag == p.bg && p.aa == p.ba) = false) := by
  simp only [rightB, Bool.and_eq_true, decide_eq_true_eq] at h
  obtain ⟨⟨⟨⟨⟨h1, h2⟩, h3⟩, h4⟩, h5⟩, h6⟩ := h
  have b := cMay_bd h5
  obtain ⟨_, _, _, _, _, ht⟩ := cMay_true h5
  refine ⟨?_, ?_, ?_⟩
  · unfold noneB ptrEq
    rw [decide_eq_false]
    intro e
    have : p.birth = 0 := by rw [e]; rfl
    omega
  · simp only [layOk, withinL, List.all_cons, List.all_nil, Bool.and_true, Bool.and_eq_true, decide_eq_true_eq]
    cases ht2 : p.two with
    | true =>
      rw [ht2, if_pos rfl, Bool.and_eq_true] at h6
      have b2 := cMay_bd h6.1
      omega
    | false =>
      rw [ht2, if_neg (by simp)] at h6
      simp at h6
      omega
  · intro ht2
    rw [ht2, if_pos rfl, Bool.and_eq_true] at h6
    obtain ⟨_, h7⟩ := h6
    simp only [apB, Bool.or_eq_true, decide_eq_true_eq] at h7
    rw [Bool.and_eq_false_iff]
    by_cases e1 : p.ag = p.bg
    · right
      rw [← e1] at h7
      simp only [bne_self_eq_false, Bool.false_eq_true, false_or] at h7
      simp; omega
    · left; simp [e1]
end Go.Proofs.YtbhkbcpljakmjaaGreat

namespace Go.Proofs.YtbhkbcpljakmjaaGreat
open Go.RowKit
set_option linter.unusedVariables false

/-- Block b is a reader of the bytes l that stands at p. -/
def RdAt (w : World) (b : Nat) (l : List UInt8) (p : Nat) : Prop := w.heap[b]? = some (.cells #[str l, .int .i64 p] 189 (0, 0)) ∧ p ≤ l.length ∧ l.length ≤ 140737488351232
theorem RdAt.lt {w : World} {b p : Nat} {l : List UInt8} (h : RdAt w b l p) : b < w.heap.size := lt_of_block h.1
theorem RdAt.c0 {w : World} {b p : Nat} {l : List UInt8} (h : RdAt w b l p) : w.cell? ⟨b, 0, none⟩ = some (str l) := cell_of_row w b 0 _ _ _ h.1
theorem RdAt.c1 {w : World} {b p : Nat} {l : List UInt8} (h : RdAt w b l p) : w.cell? ⟨b, 1, none⟩ = some (.int .i64 p) := cell_of_row w b 1 _ _ _ h.1
theorem RdAt.fr {w : World} {b p : Nat} {l : List UInt8} (h : RdAt w b l p) (i : Nat) : w.frozen? ⟨b, i, none⟩ = false := by simp [World.frozen?, h.1]
theorem RdAt.keep {w w' : World} {b p B : Nat} {l : List UInt8} (h : RdAt w b l p) (hb : Below B w w') (hB : b < B) : RdAt w' b l p := ⟨(hb.block b hB).trans h.1, h.2⟩
theorem RdAt.drewN {w : World} {b p : Nat} {l : List UInt8} (h : RdAt w b l p) (n : Nat) : RdAt (w.drewN n) b l p := h
theorem RdAt.put {w : World} {b p q : Nat} {l : List UInt8} (h : RdAt w b l p) (hq : q ≤ l.length) : RdAt (w.setCell ⟨b, 1, none⟩ (.int .i64 q)) b l q := by
  refine ⟨?_, hq, h.2.2⟩
  have h1 := h.1
  simp [World.setCell, Array.getElem?_modify, h1]
/-- Only block b, and what is new, has turned. -/
theorem only_put {a w : World} {b : Nat} (h : a.grownBy w (some b)) (v : Value) : a.grownBy (w.setCell ⟨b, 1, none⟩ v) (some b) :=
  ⟨h.os, h.tape, h.output, by simpa [World.setCell] using h.size, fun i hi hne => (Below.heap_setCell w ⟨b, 1, none⟩ v i (by rintro rfl; exact hne rfl)).trans (h.block i hi hne)⟩
theorem only_drewN {a w : World} {row : Option Nat} (h : a.grownBy w row) (n : Nat) : a.grownBy (w.drewN n) row := ⟨h.os, h.tape, h.output, h.size, h.block⟩

theorem new_any (l : List UInt8) (w : World) (hl : l.length ≤ 140737488351232) :
    Calls Tryz.prog 93 #[str l] w fun e w' => e = .returned (.pointer (some ⟨w.heap.size, 0, none⟩)) ∧ RdAt w' w.heap.size l 0 ∧ Below w.heap.size w w' := by
  go_enter Tryz.func93, Tryz.ntmps93
  go_wp2_with fail
  go_ret
  exact ⟨rfl, ⟨heap_alloc_new w _, Nat.zero_le _, hl⟩, (Below.refl _ _).alloc (Nat.le_refl _) _⟩

theorem left_any (b p : Nat) (l : List UInt8) (w : World) (h : RdAt w b l p) :
    Calls Tryz.prog 95 #[.pointer (some ⟨b, 0, none⟩)] w fun e w' => e = .returned (.int .i64 ((l.length : Int) - p)) ∧ ∃ n, w' = w.drewN n := by
  have c0 := h.c0
  have c1 := h.c1
  have hp := h.2.1
  have hl := h.2.2
  have e1 : IntKind.i64.wrap ((l.length : Int) - p) = (l.length : Int) - p := by rw [IntKind.wrap_i64]; omega
  clear h
  go_enter Tryz.func95, Tryz.ntmps95
  go_wp2_with fail
  go_quiet (fail)
  go_wp2_with fail
  go_ret
  exact ⟨rfl, nq, rfl⟩

theorem rd_extract (l : List UInt8) (p m : Nat) : (ByteArray.mk l.toArray).extract p (p + m) = ⟨((l.drop p).take m).toArray⟩ := by
  apply ByteArray.ext
  rw [ByteArray.data_extract]
  simp [List.extract_eq_take_drop]

def tkErr (l : List UInt8) (p : Nat) (n : Int) : Int := if n < 0 then 1 else if (l.length : Int) - p < n then 2 else 0
def tkStr (l : List UInt8) (p : Nat) (n : Int) : List UInt8 := if tkErr l p n = 0 then (l.drop p).take n.toNat else []
def tkPos (l : List UInt8) (p : Nat) (n : Int) : Nat := if tkErr l p n = 0 then p + n.toNat else p

/-- The number that the first k bytes from p on are. -/
def numTo (l : List UInt8) (p : Nat) : Nat → Int
  | 0 => 0
  | k + 1 => bits .or .u64 (numTo l p k) (IntKind.u64.wrap (IntKind.u64.wrap ((l.getD (p + k) 0).toNat : Int) * 2 ^ (8 * k)))

def nbErr (l : List UInt8) (p n : Nat) : Int := if (l.length : Int) - p < n then 2 else 0
def nbVal (l : List UInt8) (p n : Nat) : Int := if (l.length : Int) - p < n then 0 else numTo l p n
def nbPos (l : List UInt8) (p n : Nat) : Nat := if (l.length : Int) - p < n then p else p + n

theorem number_any (b p n : Nat) (l : List UInt8) (w : World) (h : RdAt w b l p) (hn : n ≤ 8) :
    Calls Tryz.prog 122 #[.pointer (some ⟨b, 0, none⟩), .int .i64 n] w fun e w' =>
      e = .returned (.tuple #[.int .u64 (nbVal l p n), .int .i64 (nbErr l p n)]) ∧ RdAt w' b l (nbPos l p n) ∧ w.grownBy w' (some b) := by
  have HL := Lib.hid (left_any b p l w h)
  have HR := Lib.hid h
  by_cases hlt : (l.length : Int) - p < n
  · have he : Hid (nbErr l p n = 2 ∧ nbVal l p n = 0 ∧ nbPos l p n = p) := by unfold Hid nbErr nbVal nbPos; rw [if_pos hlt, if_pos hlt, if_pos hlt]; exact ⟨rfl, rfl, rfl⟩
    clear h
    go_enter Tryz.func122, Tryz.ntmps122
    go_wp2_with fail
    refine HL.out.mono ?_
    rintro e w' ⟨rfl, k, rfl⟩
    go_wp2_with fail
    go_ret2
    rw [he.out.1, he.out.2.1, he.out.2.2]
    exact ⟨rfl, HR.out.drewN k, only_drewN (World.grownBy.refl _ _) k⟩
  · have he : Hid (nbErr l p n = 0 ∧ nbVal l p n = numTo l p n ∧ nbPos l p n = p + n) := by unfold Hid nbErr nbVal nbPos; rw [if_neg hlt, if_neg hlt, if_neg hlt]; exact ⟨rfl, rfl, rfl⟩
    have hp := h.2.1
    have hl := h.2.2
    have hpm : p + n ≤ l.length := by omega
    clear h
    go_enter Tryz.func122, Tryz.ntmps122
    go_wp2_with fail
    refine HL.out.mono ?_
    rintro e w' ⟨rfl, k0, rfl⟩
    go_wp2_with fail
    go_loopw [6, 13] (fun x t wr => ∃ k : Nat, k ≤ n ∧ t = .int .i64 k ∧ x = .int .u64 (numTo l p k) ∧ RdAt wr b l p ∧ w.grownBy wr (some b)) (fun _ t _ => n - (RowKit.intOf t).toNat)
    case atStart => exact ⟨0, Nat.zero_le _, rfl, rfl, HR.out.drewN k0, only_drewN (World.grownBy.refl _ _) k0⟩
    case round =>
      obtain ⟨k, hk, rfl, rfl, hR, hG⟩ := hrel
      have c0 := hR.c0
      have c1 := hR.c1
      have f1 := hR.fr 1
      have HR2 := Lib.hid hR
      clear hR
      by_cases hlt2 : k < n
      · have w1 : IntKind.i64.wrap ((p : Int) + k) = p + k := by rw [IntKind.wrap_i64]; omega
        have w2 : IntKind.i64.wrap (8 * (k : Int)) = 8 * k := by rw [IntKind.wrap_i64]; omega
        have i1 : (0 : Int) ≤ (p : Int) + k := by omega
        have i2 : (p : Int) + k < l.length := by omega
        go_wp2_with fail
        go_quiet (fail)
        go_wp2_with fail
        go_roundw
        case rel =>
          refine ⟨k + 1, by omega, by go_num, ?_, HR2.out.drewN nq, only_drewN hG nq⟩
          have hpk : p + k < l.length := by omega
          have hg : (ByteArray.mk l.toArray)[p + k]'(by rw [ba_size]; exact hpk) = l.getD (p + k) 0 := by
            rw [ba_get, List.getD_eq_getElem?_getD, List.getElem?_eq_getElem hpk]; rfl
          rw [hg]
          rfl
        case measure => simp [RowKit.intOf]; omega
      · obtain rfl : k = n := by omega
        go_wp2_with fail
        go_ret2
        rw [he.out.1, he.out.2.1, he.out.2.2]
        exact ⟨rfl, HR2.out.put hpm, only_put hG _⟩

end Go.Proofs.YtbhkbcpljakmjaaGreat

namespace Go.Proofs.YtbhkbcpljakmjaaGreat
open Go.RowKit
set_option linter.unusedVariables false

def tLen : Value → Nat
  | .string b => b.size
  | _ => 0
theorem ex_drop1 (l : List UInt8) (h : 0 < l.length) : (ByteArray.mk l.toArray).extract 1 l.length = ⟨(l.drop 1).toArray⟩ := by
  apply ByteArray.ext
  rw [ByteArray.data_extract]
  simp [List.take_of_length_le]
theorem ex_take1 (l : List UInt8) (m : Nat) (h : m ≤ l.length) : (ByteArray.mk l.toArray).extract 0 m = ⟨(l.take m).toArray⟩ := by
  apply ByteArray.ext
  rw [ByteArray.data_extract]
  simp [List.extract_eq_take_drop]

theorem right_ex (c : UInt8) (l : List UInt8) : ∀ n, n ≤ l.length → ∃ k, k ≤ n ∧ (∀ j, k ≤ j → j < n → l[j]? = some c) ∧ ∀ x, 0 < k → l[k - 1]? = some x → x ≠ c
  | 0, _ => ⟨0, Nat.le_refl _, fun j _ h => absurd h (by omega), fun x h => absurd h (by omega)⟩
  | n + 1, hn => by
    by_cases h : l[n]? = some c
    · obtain ⟨k, h1, h2, h3⟩ := right_ex c l n (by omega)
      refine ⟨k, by omega, fun j hj hj2 => ?_, h3⟩
      rcases Nat.lt_or_ge j n with h4 | h4
      · exact h2 j hj h4
      · obtain rfl : j = n := by omega
        exact h
    · exact ⟨n + 1, Nat.le_refl _, fun j h1 h2 => absurd h1 (by omega), fun x _ hx e => h (by rw [← e]; exact hx)⟩
theorem left_ex (c : UInt8) : ∀ l : List UInt8, ∃ k, k ≤ l.length ∧ (∀ j, j < k → l[j]? = some c) ∧ ∀ x, l[k]? = some x → x ≠ c
  | [] => ⟨0, Nat.le_refl _, fun j h => absurd h (by omega), fun x h => by simp at h⟩
  | x :: r => by
    by_cases h : x = c
    · obtain ⟨k, h1, h2, h3⟩ := left_ex c r
      refine ⟨k + 1, by simp; omega, fun j hj => ?_, fun y hy => h3 y (by simpa using hy)⟩
      match j, hj with
      | 0, _ => simp [h]
      | j + 1, hj => simpa using h2 j (by omega)
    · exact ⟨0, Nat.zero_le _, fun j h => absurd h (by omega), fun y hy => by simp at hy; rw [← hy]; exact h⟩

end Go.Proofs.YtbhkbcpljakmjaaGreat

namespace Go.Proofs.YtbhkbcpljakmjaaGreat
open Go.RowKit
set_option linter.unusedVariables false

/-- What bytes come to, the lowest first. -/
def leNat : List UInt8 → Nat
  | [] => 0
  | x :: r => x.toNat + 256 * leNat r
theorem leNat_snoc (l : List UInt8) (x : UInt8) : leNat (l ++ [x]) = leNat l + x.toNat * 256 ^ l.length := by
  induction l with
  | nil => simp [leNat]
  | cons y l ih =>
    simp only [List.cons_append, leNat, ih, List.length_cons, Nat.pow_succ, Nat.mul_add]
    rw [show x.toNat * (256 ^ l.length * 256) = 256 * (x.toNat * 256 ^ l.length) by rw [Nat.mul_comm (256 ^ l.length) 256, Nat.mul_left_comm]]
    omega
theorem leNat_lt (l : List UInt8) : leNat l < 256 ^ l.length := by
  induction l with
  | nil => simp [leNat]
  | cons x l ih =>
    have := x.toNat_lt
    simp only [leNat, List.length_cons, Nat.pow_succ]
    omega
theorem leNat_layL (x n : Nat) : leNat (layL x n) = x % 256 ^ n := by
  induction n with
  | zero => simp [layL, leNat, Nat.mod_one]
  | succ n ih =>
    have e : x % 256 ^ (n + 1) = x % 256 ^ n + 256 ^ n * (x / 256 ^ n % 256) := by rw [Nat.pow_succ, Nat.mod_mul]
    rw [layL_succ, leNat_snoc, ih, layL_len, UInt8.toNat_ofNat', e, Nat.mul_comm]
theorem pow256 (k : Nat) : (256 : Nat) ^ k = 2 ^ (8 * k) := by rw [Nat.pow_mul]
theorem pow256_le {k n : Nat} (h : k ≤ n) : (256 : Nat) ^ k ≤ 256 ^ n := Nat.pow_le_pow_right (by omega) h

theorem or_step (x b k : Nat) (hx : x < 256 ^ k) (hb : b < 256) (hk : k < 8) :
    bits .or .u64 (x : Int) (IntKind.u64.wrap (IntKind.u64.wrap (b : Int) * 2 ^ (8 * k))) = ((x + b * 256 ^ k : Nat) : Int) := by
  have h8 : (256 : Nat) ^ k * 256 ≤ 18446744073709551616 := by
    have := pow256_le (show k + 1 ≤ 8 by omega)
    rw [Nat.pow_succ] at this
    exact Nat.le_trans this (by decide)
  have hbk : b * 256 ^ k < 18446744073709551616 := by
    have : b * 256 ^ k < 256 * 256 ^ k := Nat.mul_lt_mul_of_pos_right hb (Nat.pow_pos (by omega))
    omega
  have w1 : IntKind.u64.wrap (b : Int) = b := IntWalk.u64_in _ (by omega)
  have w2 : ((b : Int) * 2 ^ (8 * k)) = ((b * 256 ^ k : Nat) : Int) := by rw [pow256]; push_cast; rfl
  have w3 : IntKind.u64.wrap ((b * 256 ^ k : Nat) : Int) = ((b * 256 ^ k : Nat) : Int) := IntWalk.u64_in _ (by omega)
  rw [w1, w2, w3, u64_or_nat _ _ (by omega) hbk]
  congr 1
  rw [pow256] at hx ⊢
  rw [Nat.or_comm, ← Nat.shiftLeft_eq, ← Nat.shiftLeft_add_eq_or_of_lt hx]
  omega

theorem numTo_eq (l : List UInt8) (p k : Nat) (h : p + k ≤ l.length) (hk : k ≤ 8) : numTo l p k = (leNat ((l.drop p).take k) : Nat) := by
  induction k with
  | zero => simp [numTo, leNat]
  | succ k ih =>
    have hlt : p + k < l.length := by omega
    have hg : (l.drop p)[k]? = some (l[p + k]'hlt) := by rw [List.getElem?_drop]; exact List.getElem?_eq_getElem hlt
    have e1 : l.getD (p + k) 0 = l[p + k]'hlt := by rw [List.getD_eq_getElem?_getD, List.getElem?_eq_getElem hlt]; rfl
    have e2 : ((l.drop p).take k).length = k := by rw [List.length_take, List.length_drop]; omega
    have e3 := leNat_lt ((l.drop p).take k)
    rw [e2] at e3
    rw [numTo, ih (by omega) (by omega), e1, or_step _ _ _ e3 (UInt8.toNat_lt _) (by omega)]
    congr 1
    rw [List.take_add_one, hg]
    simp only [Option.toList_some]
    rw [leNat_snoc, e2]

/-- What is read: n bytes from p on, if there are so many. -/
def rdN (l : List UInt8) (p n : Nat) : Nat := if (l.length : Int) - p < n then 0 else leNat ((l.drop p).take n)
theorem nbVal_eq {l : List UInt8} {p n : Nat} (hn : n ≤ 8) (hp : p ≤ l.length) : nbVal l p n = (rdN l p n : Nat) := by
  unfold nbVal rdN
  split
  · rfl
  · rename_i h
    exact numTo_eq l p n (by omega) hn
theorem rdN_lt (l : List UInt8) (p n : Nat) : rdN l p n < 256 ^ n := by
  unfold rdN
  split
  · exact Nat.pow_pos (by omega)
  · have := leNat_lt ((l.drop p).take n)
    refine Nat.lt_of_lt_of_le this (pow256_le ?_)
    rw [List.length_take]; omega

theorem num_any (b p n : Nat) (l : List UInt8) (w : World) (h : RdAt w b l p) (hn : n ≤ 8) :
    Calls Tryz.prog 122 #[.pointer (some ⟨b, 0, none⟩), .int .i64 n] w fun e w' =>
      e = .returned (.tuple #[.int .u64 (rdN l p n : Nat), .int .i64 (nbErr l p n)]) ∧ RdAt w' b l (nbPos l p n) ∧ w.grownBy w' (some b) :=
  (number_any b p n l w h hn).mono fun e w' ⟨h1, h2⟩ => ⟨by rw [h1, nbVal_eq hn h.2.1], h2⟩

theorem rU32_any (b p : Nat) (l : List UInt8) (w : World) (h : RdAt w b l p) :
    Calls Tryz.prog 96 #[.pointer (some ⟨b, 0, none⟩)] w fun e w' =>
      e = .returned (.tuple #[.int .i64 (rdN l p 4 : Nat), .int .i64 (nbErr l p 4)]) ∧ RdAt w' b l (nbPos l p 4) ∧ w.grownBy w' (some b) := by
  have H := Lib.hid (num_any b p 4 l w h (by omega))
  have hlt := rdN_lt l p 4
  have hw : IntKind.i64.wrap ((rdN l p 4 : Nat) : Int) = (rdN l p 4 : Nat) := by rw [IntKind.wrap_i64] <;> omega
  clear h
  generalize rdN l p 4 = v at *
  go_enter Tryz.func96, Tryz.ntmps96
  go_wp2_with fail
  refine H.out.mono ?_
  rintro e w' ⟨rfl, hR, hG⟩
  go_wp2_with fail
  go_ret2
  exact ⟨rfl, hR, hG⟩

def inErr (l : List UInt8) (p : Nat) : Int := if (l.length : Int) - p < 8 then 2 else if 4611686018427387904 ≤ leNat ((l.drop p).take 8) then 3 else 0
def inVal (l : List UInt8) (p : Nat) : Nat := if inErr l p = 0 then rdN l p 8 else 0
def inPos (l : List UInt8) (p : Nat) : Nat := if inErr l p = 0 then p + 8 else p

theorem rd_rest (l : List UInt8) (p : Nat) (hp : p ≤ l.length) : (ByteArray.mk l.toArray).extract p l.length = ⟨(l.drop p).toArray⟩ := by
  apply ByteArray.ext
  rw [ByteArray.data_extract]
  simp [List.take_of_length_le]

theorem nilLeft_any (w : World) : Calls Tryz.prog 95 #[.pointer none] w fun e w' => e = .returned (.int .i64 0) ∧ w = w' := by
  go_enter Tryz.func95, Tryz.ntmps95
  go_wp2_with fail
  go_ret
  exact ⟨rfl, rfl⟩
theorem nilNum_any (n : Nat) (w : World) (hn : 0 < n) (hn2 : n ≤ 8) :
    Calls Tryz.prog 122 #[.pointer none, .int .i64 n] w fun e w' => e = .returned (.tuple #[.int .u64 0, .int .i64 2]) ∧ w = w' := by
  go_enter Tryz.func122, Tryz.ntmps122
  go_wp2_with fail
  refine (nilLeft_any w).mono ?_
  rintro e w' ⟨rfl, rfl⟩
  go_wp2_with fail
  go_ret2
  exact ⟨rfl, rfl⟩
end Go.Proofs.YtbhkbcpljakmjaaGreat

namespace Go.Proofs.YtbhkbcpljakmjaaGreat
set_option linter.unusedVariables false
set_option linter.unusedSimpArgs false

/-- The numbers below n that have something. -/
def hasL (p : Nat → Bool) (n : Nat) : List Nat := (List.range n).filter p
theorem hasL_succ (p : Nat → Bool) (n : Nat) : hasL p (n + 1) = if p n then hasL p n ++ [n] else hasL p n := by
  unfold hasL
  rw [List.range_succ, List.filter_append]
  cases h : p n <;> simp [h]
theorem hasL_at (p : Nat → Bool) : ∀ (n i k : Nat), (hasL p n)[i]? = some k → p k = true ∧ k < n ∧ (hasL p k).length = i
  | 0, i, k, h => by simp [hasL] at h
  | n + 1, i, k, h => by
    rw [hasL_succ] at h
    split at h
    · rename_i hp
      by_cases hi : i < (hasL p n).length
      · rw [List.getElem?_append_left hi] at h
        have := hasL_at p n i k h
        exact ⟨this.1, by omega, this.2.2⟩
      · rw [List.getElem?_append_right (by omega)] at h
        have h1 : i - (hasL p n).length = 0 := by
          cases hh : i - (hasL p n).length with
          | zero => rfl
          | succ m => rw [hh] at h; simp at h
        rw [h1] at h
        simp at h
        subst h
        exact ⟨hp, by omega, by omega⟩
    · have := hasL_at p n i k h
      exact ⟨this.1, by omega, this.2.2⟩
theorem hasL_rank (p : Nat → Bool) : ∀ (n k : Nat), k < n → p k = true → (hasL p n)[(hasL p k).length]? = some k
  | 0, k, h, _ => by omega
  | n + 1, k, h, hp => by
    rw [hasL_succ]
    by_cases e : k = n
    · subst e; rw [if_pos hp]; simp
    · have h1 := hasL_rank p n k (by omega) hp
      split
      · rw [List.getElem?_append_left (List.getElem?_eq_some_iff.1 h1).1]; exact h1
      · exact h1
theorem hasL_pair (p : Nat → Bool) (n : Nat) : (hasL p n).Pairwise (· < ·) := (List.pairwise_lt_range).filter _
theorem hasL_mem (p : Nat → Bool) (n k : Nat) : k ∈ hasL p n ↔ k < n ∧ p k = true := by simp [hasL]
theorem hasL_len (p : Nat → Bool) (n : Nat) : (hasL p n).length ≤ n := by
  have := List.length_filter_le p (List.range n)
  simpa [hasL] using this

namespace DevD
def pre (d : DevD) (k : Nat) : Bool := !(d.cac k).isEmpty
def keys (d : DevD) : List Nat := hasL d.pre d.med.length
theorem rank_eq (d : DevD) (k : Nat) : d.rank k = (hasL d.pre k).length := rfl
theorem keys_at {d : DevD} {i k : Nat} (h : d.keys[i]? = some k) : d.cac k ≠ [] ∧ k < d.med.length ∧ d.rank k = i := by
  have := hasL_at _ _ _ _ h
  refine ⟨fun e => ?_, this.2.1, this.2.2⟩
  have h1 := this.1
  simp [pre, e] at h1
/-- After the first m of the cache. -/
def crashed (d : DevD) (keep : List Int) (m : Nat) : DevD := { d with med := d.crashMed keep m, fuse := -1 }
theorem crashed_len (d : DevD) (keep : List Int) (m : Nat) : (d.crashed keep m).med.length = d.med.length := by simp [crashed, crashMed]
theorem crashMed_get (d : DevD) (keep : List Int) (m : Nat) {k : Nat} (hk : k < d.med.length) (h1 : k < (d.crashMed keep m).length) :
    (d.crashMed keep m)[k] = if (d.cac k).isEmpty = false ∧ d.rank k < m then pick keep (d.rank k) (d.cac k) d.med[k] else d.med[k] := by simp [crashMed]
theorem crashMed_zero (d : DevD) (keep : List Int) : d.crashMed keep 0 = d.med := by
  refine List.ext_getElem (by simp [crashMed]) fun k h1 h2 => ?_
  rw [crashMed_get d keep 0 h2, if_neg (by omega)]
/-- One more. -/
theorem crashMed_succ (d : DevD) (keep : List Int) {i k : Nat} (hi : d.keys[i]? = some k) (h : k < d.med.length) : d.crashMed keep (i + 1) = (d.crashMed keep i).set k (pick keep i (d.cac k) d.med[k]) := by
  have hk := keys_at hi
  refine List.ext_getElem (by simp [crashMed]) fun j h1 h2 => ?_
  have hj : j < d.med.length := by simpa [crashMed] using h1
  rw [crashMed_get d keep _ hj, List.getElem_set, crashMed_get d keep _ hj]
  by_cases e : k = j
  · subst e
    rw [if_pos rfl, if_pos ⟨by simpa using hk.1, by omega⟩, hk.2.2]
  · rw [if_neg e]
    by_cases hp : (d.cac j).isEmpty = false
    · have hr : d.rank j ≠ i := by
        intro hr
        have h3 := hasL_rank d.pre d.med.length j hj (by simp [pre, hp])
        rw [show (hasL d.pre j).length = i from hr] at h3
        exact e (Option.some.inj (hi.symm.trans h3))
      by_cases h4 : d.rank j < i
      · rw [if_pos ⟨hp, by omega⟩, if_pos ⟨hp, h4⟩]
      · rw [if_neg (by omega), if_neg (by omega)]
    · rw [if_neg (fun h => hp h.1), if_neg (fun h => hp h.1)]
/-- No more. -/
theorem crashMed_end (d : DevD) (keep : List Int) {i : Nat} (hi : keep.length ≤ i ∨ d.keys.length ≤ i) : d.crashMed keep i = d.crashMed keep d.med.length := by
  refine List.ext_getElem (by simp [crashMed]) fun j h1 h2 => ?_
  have hj : j < d.med.length := by simpa [crashMed] using h1
  rw [crashMed_get d keep _ hj, crashMed_get d keep _ hj]
  by_cases hp : (d.cac j).isEmpty = false
  · have h3 := hasL_rank d.pre d.med.length j hj (by simp [pre, hp])
    have h4 : d.rank j < d.keys.length := (List.getElem?_eq_some_iff.1 h3).1
    have h5 : d.keys.length ≤ d.med.length := hasL_len _ _
    by_cases h6 : d.rank j < i
    · rw [if_pos ⟨hp, h6⟩, if_pos ⟨hp, by omega⟩]
    · rw [if_neg (by omega), if_pos ⟨hp, by omega⟩]
      rcases hi with hi | hi
      · have : keep[d.rank j]? = none := List.getElem?_eq_none (by omega)
        unfold pick
        rw [this]
      · omega
  · rw [if_neg (fun h => hp h.1), if_neg (fun h => hp h.1)]
theorem crash_eq (d : DevD) (keep : List Int) (hl : d.lost = false) {i : Nat} (hi : keep.length ≤ i ∨ d.keys.length ≤ i) : d.crash keep = { d.crashed keep i with cac := fun _ => [] } := by
  unfold crash crashed
  rw [if_neg (by simp [hl]), crashMed_end d keep hi]
theorem crashed_set (d : DevD) (keep : List Int) {i k : Nat} (hi : d.keys[i]? = some k) : d.crashed keep (i + 1) = { d.crashed keep i with med := (d.crashed keep i).med.set k (pick keep i (d.cac k) (d.med.getD k [])) } := by
  have hk := (keys_at hi).2.1
  unfold crashed
  rw [crashMed_succ d keep hi hk, List.getD_eq_getElem?_getD, List.getElem?_eq_getElem hk]
  rfl
theorem crashed_same (d : DevD) (keep : List Int) {i k : Nat} (hi : d.keys[i]? = some k) (hp : pick keep i (d.cac k) (d.med.getD k []) = d.med.getD k []) : d.crashed keep (i + 1) = d.crashed keep i := by
  have hk := keys_at hi
  rw [crashed_set d keep hi, hp]
  have e : (d.crashed keep i).med.set k (d.med.getD k []) = (d.crashed keep i).med := by
    refine List.ext_getElem (by simp) fun j h1 h2 => ?_
    rw [List.getElem_set]
    by_cases e : k = j
    · subst e
      rw [if_pos rfl, List.getD_eq_getElem?_getD, List.getElem?_eq_getElem hk.2.1]
      have h3 : k < (d.crashMed keep i).length := h2
      have h4 := crashMed_get d keep i hk.2.1 h3
      rw [if_neg (by omega)] at h4
      exact h4.symm
    · rw [if_neg e]
  rw [e]
end DevD

/-- The greatest and the least. -/
def i64s (l : List Int) : Prop := ∀ x ∈ l, -9223372036854775808 ≤ x ∧ x ≤ 9223372036854775807
theorem vers_steps {x : Int} {n : Nat} (hx : -9223372036854775808 ≤ x ∧ x ≤ 9223372036854775807) (hn : n ≤ 1000000) :
    -((n : Int)) ≤ x.tmod (n + 1) ∧ x.tmod (n + 1) ≤ n ∧ 0 ≤ (x.tmod (n + 1) + n + 1).tmod (n + 1) ∧ (x.tmod (n + 1) + n + 1).tmod (n + 1) ≤ n := by
  have h1 : x.tmod (n + 1) < n + 1 := Int.tmod_lt_of_pos _ (by omega)
  have h2 : -(n + 1 : Int) < x.tmod (n + 1) := by
    have := Int.lt_tmod_of_pos x (show (0 : Int) < n + 1 by omega)
    exact this
  have h3 : (x.tmod (n + 1) + n + 1).tmod (n + 1) < n + 1 := Int.tmod_lt_of_pos _ (by omega)
  have h4 : 0 ≤ (x.tmod (n + 1) + n + 1).tmod (n + 1) := Int.tmod_nonneg _ (by omega)
  omega
end Go.Proofs.YtbhkbcpljakmjaaGreat
