/-
  What every device keeps, from act to act. No program stands here.
  Slices, and what their cells hold; predicates over them. No program stands here but slices.ContainsFunc over texts.
  Rows of bytes: made, and turned into texts.
  Parities, as plain words. No program stands here.
  Contracts of package par.
  Contracts of package code: sectors.
-/
import Derived.Test.YtbhkbcpljakmjaaGreatJ02
import Derived.Test.YtbhkbcpljakmjaaGreatRows
import Derived.Test.YtbhkbcpljakmjaaGreatJ01
import Derived.Maps.AppendAt
import Derived.Test.YtbhkbcpljakmjaaGreatJ03
namespace Go.Proofs.YtbhkbcpljakmjaaGreat
set_option linter.unusedVariables false
set_option linter.unusedSimpArgs false

namespace DevD
theorem wrE_ok {d : DevD} {a : Int} {s : List UInt8} (h : d.wrE a s = 0) : d.mayE a = 0 ∧ s.length = 64 ∧ d.fuse ≠ 0 := by
  unfold wrE at h
  by_cases e : d.mayE a = 0
  · rw [if_neg (by simpa using e)] at h
    split at h
    · omega
    · split at h
      · omega
      · exact ⟨e, by omega, by omega⟩
  · rw [if_pos e] at h; exact absurd h e
theorem Ok.burn {d : DevD} (h : d.Ok) : d.burn.Ok := ⟨h.pos, h.few, h.med, h.cac, h.inn, by have := h.f1; show -1 ≤ max (d.fuse - 1) (-1); omega, by have := h.f2; show max (d.fuse - 1) (-1) ≤ _; omega⟩
theorem Ok.put {d : DevD} (h : d.Ok) {k : Nat} (hk : k < d.med.length) {s : List UInt8} (hs : s.length = 64) : (d.put k s).Ok := by
  refine ⟨h.pos, h.few, h.med, fun j t ht => ?_, fun j hj => ?_, h.f1, h.f2⟩
  · simp only [DevD.put] at ht
    split at ht
    · rcases List.mem_append.1 ht with ht | ht
      · exact h.cac j t ht
      · simp at ht; rw [ht]; exact hs
    · exact h.cac j t ht
  · have hj : d.med.length ≤ j := hj
    show (if j = k then _ else d.cac j) = []
    rw [if_neg (by omega)]; exact h.inn j hj
theorem Ok.wr {d : DevD} (h : d.Ok) (a : Int) (s : List UInt8) : (d.wr a s).Ok := by
  unfold DevD.wr
  split
  · rename_i h0
    have h1 := wrE_ok h0
    have h2 := mayE_ok h1.1
    exact h.burn.put (by show a.toNat < d.med.length; omega) h1.2.1
  · exact h
theorem lastOr_len {l : List (List UInt8)} {s : List UInt8} (h1 : ∀ x ∈ l, x.length = 64) (h2 : s.length = 64) : (lastOr l s).length = 64 := by
  unfold lastOr
  cases h : l.getLast? with
  | none => exact h2
  | some x => exact h1 x (List.mem_of_getLast? h)
theorem Ok.settled {d : DevD} (h : d.Ok) : d.settled.Ok := by
  refine ⟨by simpa [DevD.settled] using h.pos, by simpa [DevD.settled] using h.few, fun s hs => ?_, fun k s hs => by simp [DevD.settled] at hs, fun k _ => rfl, h.f1, h.f2⟩
  simp only [DevD.settled, List.mem_mapIdx] at hs
  obtain ⟨k, hk, rfl⟩ := hs
  exact lastOr_len (h.cac k) (h.med _ (List.getElem_mem hk))
theorem Ok.fl {d : DevD} (h : d.Ok) : d.fl.Ok := by
  unfold DevD.fl
  split
  · exact h.burn.settled
  · exact h
theorem pick_len {keep : List Int} {i : Nat} {l : List (List UInt8)} {s : List UInt8} (h1 : ∀ x ∈ l, x.length = 64) (h2 : s.length = 64) : (pick keep i l s).length = 64 := by
  unfold pick
  split
  · exact h2
  · rename_i x hx
    split
    · rename_i hv
      have hlt : vers x l.length - 1 < l.length := by
        have h3 : (x.tmod (l.length + 1) + l.length + 1).tmod (l.length + 1) < l.length + 1 := Int.tmod_lt_of_pos _ (by omega)
        unfold vers at *
        omega
      rw [List.getD_eq_getElem?_getD, List.getElem?_eq_getElem hlt]
      exact h1 _ (List.getElem_mem hlt)
    · exact h2
theorem Ok.crash {d : DevD} (h : d.Ok) (keep : List Int) : (d.crash keep).Ok := by
  unfold DevD.crash
  split
  · exact h
  · refine ⟨by simpa [crashMed] using h.pos, by simpa [crashMed] using h.few, fun s hs => ?_, fun k s hs => by simp at hs, fun k _ => rfl, by simp, by simp⟩
    simp only [crashMed, List.mem_mapIdx] at hs
    obtain ⟨k, hk, rfl⟩ := hs
    split
    · exact pick_len (h.cac k) (h.med _ (List.getElem_mem hk))
    · exact h.med _ (List.getElem_mem hk)
theorem Ok.lose {d : DevD} (h : d.Ok) : d.lose.Ok := ⟨h.pos, h.few, h.med, fun k s hs => by simp [DevD.lose] at hs, fun k _ => rfl, h.f1, h.f2⟩
theorem Ok.spoil {d : DevD} (h : d.Ok) (a place : Int) (b : UInt8) : (d.spoil a place b).Ok := by
  unfold DevD.spoil
  split
  · rename_i h0
    have hm : d.mayE a = 0 := by simp only [spoilOk, Bool.and_eq_true, decide_eq_true_eq] at h0; exact h0.1
    have h2 := mayE_ok hm
    have hk : a.toNat < d.med.length := by omega
    have hn : (d.now a.toNat).length = 64 := by
      refine lastOr_len (h.cac _) ?_
      unfold medAt
      rw [List.getD_eq_getElem?_getD, List.getElem?_eq_getElem hk]
      exact h.med _ (List.getElem_mem hk)
    have hf : (flip (d.now a.toNat) (spot place) b).length = 64 := by unfold flip; rw [List.length_set]; exact hn
    generalize flip (d.now a.toNat) (spot place) b = t at *
    unfold spoiled
    split
    · refine ⟨by simpa using h.pos, by simpa using h.few, fun s hs => ?_, h.cac, fun k hk => h.inn k (by simpa using hk), h.f1, h.f2⟩
      rcases List.mem_or_eq_of_mem_set hs with hs | rfl
      · exact h.med s hs
      · exact hf
    · rename_i hne
      refine ⟨h.pos, h.few, h.med, fun k s hs => ?_, fun k hk2 => ?_, h.f1, h.f2⟩
      · simp only at hs
        split at hs
        · rcases List.mem_or_eq_of_mem_set hs with hs | rfl
          · exact h.cac k s hs
          · exact hf
        · exact h.cac k s hs
      · have hk2 : d.med.length ≤ k := hk2
        show (if k = a.toNat then _ else d.cac k) = []
        rw [if_neg (by omega)]; exact h.inn k hk2
  · exact h
theorem put_len (d : DevD) (k : Nat) (s : List UInt8) (j : Nat) : ((d.put k s).cac j).length ≤ (d.cac j).length + 1 := by
  simp only [DevD.put]
  split <;> simp
theorem wr_len (d : DevD) (a : Int) (s : List UInt8) (j : Nat) : ((d.wr a s).cac j).length ≤ (d.cac j).length + 1 := by
  unfold wr
  split
  · exact put_len d.burn _ s j
  · omega
theorem wr_med (d : DevD) (a : Int) (s : List UInt8) : (d.wr a s).med.length = d.med.length := by
  unfold wr
  split <;> rfl
theorem fl_len (d : DevD) (j : Nat) : (d.fl.cac j).length ≤ (d.cac j).length := by
  unfold fl
  split
  · simp [settled]
  · exact Nat.le_refl _
end DevD
end Go.Proofs.YtbhkbcpljakmjaaGreat

namespace Go.Proofs.YtbhkbcpljakmjaaGreat
set_option linter.unusedVariables false
set_option linter.unusedSimpArgs false
open Go.RowKit

theorem flat_len' {α : Type} (f : α → List Value) (sz : Nat) (hf : ∀ x, (f x).length = sz) : ∀ l : List α, (l.flatMap f).length = l.length * sz
  | [] => by simp
  | x :: l => by
    rw [List.flatMap_cons, List.length_append, flat_len' f sz hf l, hf, List.length_cons, Nat.add_mul, Nat.one_mul, Nat.add_comm]
theorem flat_at' {α : Type} (f : α → List Value) (sz : Nat) (hf : ∀ x, (f x).length = sz) : ∀ (l : List α) (i : Nat) (x : α), l[i]? = some x → ∀ j, j < sz → (l.flatMap f)[i * sz + j]? = (f x)[j]?
  | [], i, x, h, _, _ => by simp at h
  | y :: l, 0, x, h, j, hj => by
    simp at h
    subst h
    rw [List.flatMap_cons, Nat.zero_mul, Nat.zero_add, List.getElem?_append_left (by rw [hf]; exact hj)]
  | y :: l, i + 1, x, h, j, hj => by
    have h2 := flat_at' f sz hf l i x (by simpa using h) j hj
    rw [List.flatMap_cons, List.getElem?_append_right (by rw [hf, Nat.add_mul, Nat.one_mul]; omega), hf, ← h2]
    congr 1
    rw [Nat.add_mul, Nat.one_mul]; omega
/-- A slice, and what its cells hold. -/
def SlAt (w : World) (v : Value) (n : Nat) (cs : List Value) : Prop :=
  ∃ A c, v = .slice A n c ∧ n ≤ c ∧ (0 < n → ∃ b o, A = some ⟨b, o, none⟩ ∧ b < w.heap.size ∧ ∀ j u, cs[j]? = some u → w.cell? ⟨b, o + j, none⟩ = some u)
section
variable {w w' : World} {v : Value} {n : Nat} {cs : List Value}
theorem SlAt.below (h : SlAt w v n cs) (hb : Below w.heap.size w w') : SlAt w' v n cs := by
  obtain ⟨A, c, h1, hc, h2⟩ := h
  refine ⟨A, c, h1, hc, fun hp => ?_⟩
  obtain ⟨b, o, e1, e2, e3⟩ := h2 hp
  exact ⟨b, o, e1, Nat.lt_of_lt_of_le e2 hb.size, fun j u hu => (World.cell?_of_block (hb.block b e2)).trans (e3 j u hu)⟩
theorem SlAt.form (h : SlAt w v n cs) : ∃ A c, v = .slice A n c := by
  obtain ⟨A, c, h1, _⟩ := h
  exact ⟨A, c, h1⟩
theorem SlAt.cells {A : Option Addr} {c : Nat} (h : SlAt w (.slice A n c) n cs) (hp : 0 < n) : ∃ b o, A = some ⟨b, o, none⟩ ∧ b < w.heap.size ∧ ∀ j u, cs[j]? = some u → w.cell? ⟨b, o + j, none⟩ = some u := by
  obtain ⟨A', c', h1, _, h2⟩ := h
  cases h1
  exact h2 hp
theorem slAt_own {base sz : Nat} {t : TypeId} (h : w.ownsRow base t sz v n cs) : SlAt w v n cs := by
  rcases h.2 with ⟨rfl, h0⟩ | ⟨g, cap, cur, rfl, h1, h2, h3⟩
  · subst h0
    exact ⟨none, 0, rfl, Nat.le_refl _, fun h => absurd h (by omega)⟩
  · refine ⟨some ⟨g, 0, none⟩, cap, rfl, h3.1, fun _ => ⟨g, 0, rfl, lt_of_block h2, fun j u hu => ?_⟩⟩
    have := h.cells rfl j u hu
    rwa [Addr.add_mid] at this
end
def strL (s : List UInt8) : List Value := [str s]
def strC (l : List (List UInt8)) : List Value := l.flatMap strL
theorem strC_at {l : List (List UInt8)} {i : Nat} {s : List UInt8} (h : l[i]? = some s) : (strC l)[i]? = some (str s) := by
  have := flat_at' strL 1 (fun _ => rfl) l i s h 0 (by omega)
  rw [Nat.mul_one, Nat.add_zero] at this
  exact this
theorem strC_snoc (l : List (List UInt8)) (s : List UInt8) : strC (l ++ [s]) = strC l ++ [str s] := by simp [strC, strL]
/-- What a predicate answers, wherever it is called. -/
def SlPred {α : Type} (E : α → Value) (fn : FuncId) (caps : Array Value) (p : α → Bool) (l : List α) (w0 : World) : Prop :=
  ∀ (x : α) (w : World), x ∈ l → Below w0.heap.size w0 w → Calls Tryz.prog fn (#[E x] ++ caps) w fun e w' => e = .returned (.bool (p x)) ∧ Below w.heap.size w w'

set_option maxRecDepth 20000 in
theorem idxStr_any (fn : FuncId) (caps : Array Value) {w : World} {ss : List (List UInt8)} {sv : Value} (p : List UInt8 → Bool) (h1 : SlAt w sv ss.length (strC ss)) (f1 : ss.length ≤ 1000000) (hgo : ∀ (args : Array Value) (w : World), (callFunc fn args).run Tryz.prog w = .ok (.enter fn args) w) (hp : SlPred str fn caps p ss w) :
    Calls Tryz.prog 140 #[sv, .func (.func fn) #[] caps] w fun e w' => e = .returned (.int .i64 (firstAt p ss)) ∧ Below w.heap.size w w' := by
  obtain ⟨A, c1, rfl⟩ := h1.form
  have H1 := Lib.hid h1
  have HP := Lib.hid hp
  clear h1 hp
  go_enter Tryz.func140, Tryz.ntmps140
  go_wp2_with fail
  go_loopw [5, 8] (fun _ t wr => ∃ k : Nat, k ≤ ss.length ∧ t = .int .i64 k ∧ Below w.heap.size w wr ∧ ∀ j, j < k → ∀ x, ss[j]? = some x → p x = false) (fun _ t _ => ss.length - (RowKit.intOf t).toNat)
  case atStart => exact ⟨0, Nat.zero_le _, rfl, Below.refl _ _, fun j hj => absurd hj (Nat.not_lt_zero _)⟩
  case round =>
    obtain ⟨k, hk, rfl, hb, hal⟩ := hrel
    have HB := Lib.hid hb
    have HAL := Lib.hid hal
    by_cases hlt : k < ss.length
    · obtain ⟨b, oo, rfl, hbl, hcell⟩ := H1.out.cells (by omega)
      obtain ⟨x, hx⟩ : ∃ x, ss[k]? = some x := ⟨_, List.getElem?_eq_getElem hlt⟩
      have f0 : wr.cell? ⟨b, oo + k, none⟩ = some (str x) := (World.cell?_of_block (hb.block b hbl)).trans (hcell _ _ (strC_at hx))
      have hdc : decide (k < ss.length) = true := decide_eq_true hlt
      have HLT := Lib.hid hlt
      have HXX := Lib.hid hx
      clear hcell hx hb hal hbl
      go_wp2_with fail
      refine (HP.out x wr (List.mem_of_getElem? HXX.out) HB.out).mono ?_
      rintro e w1 ⟨rfl, hb1⟩
      have HB1 := Lib.hid (keep_below hb1 HB.out)
      clear hb1
      cases hpx : p x with
      | true =>
        have HE := Lib.hid hpx
        clear hpx
        go_wp2_with fail
        go_ret
        exact ⟨ret_int (firstAt_hit HXX.out HE.out HAL.out).symm, HB1.out⟩
      | false =>
        have HE := Lib.hid hpx
        clear hpx
        go_wp2_with fail
        go_roundw
        case rel =>
          refine ⟨k + 1, HLT.out, by go_num, HB1.out, fun j hj y hy => ?_⟩
          by_cases e : j < k
          · exact HAL.out j e y hy
          · obtain rfl : j = k := by omega
            have h2 := HXX.out
            rw [hy] at h2
            cases h2
            exact HE.out
        case measure => have := HLT.out; simp [RowKit.intOf]; omega
    · obtain rfl : k = ss.length := by omega
      have hdc : decide ((ss.length : Int) < ss.length) = false := decide_eq_false (by omega)
      clear hb hal
      go_wp2_with fail
      go_ret
      exact ⟨ret_int (firstAt_miss HAL.out).symm, HB.out⟩
theorem conStr_any (fn : FuncId) (caps : Array Value) {w : World} {ss : List (List UInt8)} {sv : Value} (p : List UInt8 → Bool) (h1 : SlAt w sv ss.length (strC ss)) (f1 : ss.length ≤ 1000000) (hgo : ∀ (args : Array Value) (w : World), (callFunc fn args).run Tryz.prog w = .ok (.enter fn args) w) (hp : SlPred str fn caps p ss w) :
    Calls Tryz.prog 114 #[sv, .func (.func fn) #[] caps] w fun e w' => e = .returned (.bool (ss.any p)) ∧ Below w.heap.size w w' := by
  have H := Lib.hid (idxStr_any fn caps p h1 f1 hgo hp)
  clear hp hgo h1
  go_enter Tryz.func114, Tryz.ntmps114
  go_wp2_with fail
  refine H.out.mono ?_
  rintro e w1 ⟨rfl, hb1⟩
  go_wp2_with fail
  go_ret
  exact ⟨ret_bool (firstAt_nonneg _ _), hb1⟩
end Go.Proofs.YtbhkbcpljakmjaaGreat

namespace Go.Proofs.YtbhkbcpljakmjaaGreat
set_option linter.unusedVariables false
set_option linter.unusedSimpArgs false
open Go.RowKit

/-- Bytes as cells. -/
def bytC (X : List UInt8) : List Value := X.map fun b => Value.int .u8 (b.toNat : Int)
theorem Tryz.infoU8 : (Tryz.prog.info? 5).map (fun i => (i.zero, i.size, i.bytes)) = some (some (.int .u8 0), 1, 1) := by kernel_rfl
theorem mk_bytes (w : World) (n : Nat) (hn : n ≤ 16384) : ∃ w1, (Instr.makeSlice 79 (.int .i64 n) (.int .i64 n)).run Tryz.prog w = .ok (.slice (some ⟨w.heap.size, 0, none⟩) n n) w1 ∧
    Blk w1 w.heap.size 5 (bytC (List.replicate n 0)).toArray ∧ w1.heap.size = w.heap.size + 1 ∧ Below w.heap.size w w1 := by
  obtain ⟨i0, hi, hz0, hz1, hz2⟩ := info_parts Tryz.infoU8
  have hrun := run_makeSlice w 79 5 i0 (.int .u8 0) Tryz.underlying79 hi hz0 .i64 .i64 n n (by omega) (Int.le_refl _) (by rw [hz1]; omega) (by rw [hz2]; omega) (by omega)
  have hc : madeCells (Value.int .u8 0).cells ((n : Int).toNat * i0.size) = (bytC (List.replicate n 0)).toArray := by
    rw [hz1, Int.toNat_natCast, Nat.mul_one]
    apply Array.ext'
    have : (Value.int .u8 0).cells = #[.int .u8 0] := rfl
    rw [this, toList_madeCells_one]
    simp [bytC]
  rw [hc, Int.toNat_natCast] at hrun
  exact ⟨_, hrun, Blk.new _ _ _, by simp, keep_alloc (Below.refl _ _) _⟩
theorem conv_bytes {w : World} {g : Nat} {X : List UInt8} (hX : Blk w g 5 (bytC X).toArray) (n cap : Nat) (hn : n = X.length) : (convert 79 9 (.slice (some ⟨g, 0, none⟩) n cap)).run Tryz.prog w = .ok (str X) w := by
  subst hn
  refine run_convert_bytes_back (P := Tryz.prog) w 79 9 5 ⟨g, 0, none⟩ cap X Tryz.underlying79 Tryz.underlying5 Tryz.underlying9 (fun j hj => ?_)
  rw [Addr.add_mid, Nat.zero_add]
  refine hX.at_ ?_
  simp [bytC, List.getElem?_eq_getElem hj]
theorem bytC_at {X : List UInt8} {j : Nat} {x : UInt8} (h : X[j]? = some x) : (bytC X).toArray[j]? = some (.int .u8 (x.toNat : Int)) := by
  simp [bytC, h]
theorem bytC_set {X : List UInt8} {j : Nat} (x : UInt8) : (bytC X).toArray.setIfInBounds j (.int .u8 (x.toNat : Int)) = (bytC (X.set j x)).toArray := by
  simp [bytC, List.map_set]
theorem xor_cell (a b : UInt8) : bits .xor .u8 (a.toNat : Int) (b.toNat : Int) = (((a ^^^ b).toNat : Nat) : Int) := by
  rw [u8_xor_nat _ _ a.toNat_lt b.toNat_lt, UInt8.toNat_xor]
end Go.Proofs.YtbhkbcpljakmjaaGreat

namespace Go.Proofs.YtbhkbcpljakmjaaGreat
set_option linter.unusedVariables false
set_option linter.unusedSimpArgs false

def xorL (a b : List UInt8) : List UInt8 := List.zipWith (fun x y => x ^^^ y) a b
def parN (n : Nat) (l : List (List UInt8)) : List UInt8 := l.foldl xorL (List.replicate n 0)
def evenB (l : List (List UInt8)) : Bool := l.all fun s => s.length == (l.headD []).length
def makeS (l : List (List UInt8)) : List UInt8 := if l ≠ [] ∧ evenB l = true then parN (l.headD []).length l else []
def makeE (l : List (List UInt8)) : Int := if l ≠ [] ∧ evenB l = true then 0 else 1
theorem xorL_len {a b : List UInt8} (h : a.length = b.length) : (xorL a b).length = a.length := by unfold xorL; rw [List.length_zipWith]; omega
theorem parN_snoc (n : Nat) (l : List (List UInt8)) (s : List UInt8) : parN n (l ++ [s]) = xorL (parN n l) s := by simp [parN]
theorem fold_len (n : Nat) : ∀ (l : List (List UInt8)) (a : List UInt8), a.length = n → (∀ s ∈ l, s.length = n) → (l.foldl xorL a).length = n
  | [], a, ha, _ => ha
  | s :: l, a, ha, h => by
    rw [List.foldl_cons]
    exact fold_len n l _ (by rw [xorL_len (by rw [ha, h s List.mem_cons_self])]; exact ha) (fun x hx => h x (List.mem_cons_of_mem _ hx))
theorem parN_len {n : Nat} {l : List (List UInt8)} (h : ∀ s ∈ l, s.length = n) : (parN n l).length = n := fold_len n l _ (by simp) h
theorem evenB_spec {l : List (List UInt8)} (h : evenB l = true) : ∀ s ∈ l, s.length = (l.headD []).length := fun s hs => by
  have := List.all_eq_true.1 h s hs
  simpa using this
/-- What a round has made of the bytes. -/
def xorTo (a b : List UInt8) (k : Nat) : List UInt8 := (xorL (a.take k) (b.take k)) ++ a.drop k
theorem xorTo_zero (a b : List UInt8) : xorTo a b 0 = a := by simp [xorTo, xorL]
theorem xorTo_all {a b : List UInt8} (h : a.length = b.length) : xorTo a b a.length = xorL a b := by
  unfold xorTo
  rw [List.take_length, h, List.take_length, ← h, List.drop_length, List.append_nil]
theorem xorTo_get {a b : List UInt8} {k : Nat} {x : UInt8} (hx : a[k]? = some x) (h : a.length = b.length) : (xorTo a b k)[k]? = some x := by
  have hk := (List.getElem?_eq_some_iff.1 hx).1
  have hl : (xorL (a.take k) (b.take k)).length = k := by unfold xorL; rw [List.length_zipWith, List.length_take, List.length_take]; omega
  unfold xorTo
  rw [List.getElem?_append_right (by omega), hl, Nat.sub_self, List.getElem?_drop, Nat.add_zero]
  exact hx
theorem xorTo_set {a b : List UInt8} {k : Nat} {x y : UInt8} (hx : a[k]? = some x) (hy : b[k]? = some y) (h : a.length = b.length) : (xorTo a b k).set k (x ^^^ y) = xorTo a b (k + 1) := by
  have hk := (List.getElem?_eq_some_iff.1 hx).1
  have hl : (xorL (a.take k) (b.take k)).length = k := by unfold xorL; rw [List.length_zipWith, List.length_take, List.length_take]; omega
  have e1 : a.drop k = x :: a.drop (k + 1) := by
    rw [List.drop_eq_getElem_cons hk]
    rw [List.getElem?_eq_getElem hk] at hx
    rw [Option.some.inj hx]
  have e2 : xorL (a.take (k + 1)) (b.take (k + 1)) = xorL (a.take k) (b.take k) ++ [x ^^^ y] := by
    rw [List.take_add_one, List.take_add_one, hx, hy]
    unfold xorL
    rw [List.zipWith_append (by rw [List.length_take, List.length_take]; omega)]
    rfl
  unfold xorTo
  rw [List.set_append_right _ _ (by omega), hl, Nat.sub_self, e1, List.set_cons_zero, e2, List.append_assoc]
  rfl
def secN (s : List UInt8) : Nat := s.length / 64
def secAt (s : List UInt8) (i : Nat) : List UInt8 := (s.drop (i * 64)).take 64
def secsL (s : List UInt8) : List (List UInt8) := (List.range (secN s)).map (secAt s)
def secOk (s : List UInt8) : Bool := decide (s ≠ []) && (decide (s.length % 64 = 0) && decide (s.length ≤ 256))
theorem secsL_len (s : List UInt8) : (secsL s).length = secN s := by simp [secsL]
theorem secAt_len {s : List UInt8} {i : Nat} (h : i < secN s) : (secAt s i).length = 64 := by
  unfold secN at h
  unfold secAt
  rw [List.length_take, List.length_drop]
  omega
theorem secsL_at {s : List UInt8} {i : Nat} (h : i < secN s) : (secsL s)[i]? = some (secAt s i) := by simp [secsL, h]
end Go.Proofs.YtbhkbcpljakmjaaGreat

namespace Go.Proofs.YtbhkbcpljakmjaaGreat
set_option linter.unusedVariables false
set_option linter.unusedSimpArgs false
open Go.RowKit

theorem parEven1_any {w : World} {g b o n c : Nat} {x0 : List UInt8} (hg : w.cell? ⟨g, 0, none⟩ = some (.slice (some ⟨b, o, none⟩) n c)) (h0 : w.cell? ⟨b, o, none⟩ = some (str x0)) (hn : 0 < n) (s : List UInt8) :
    Calls Tryz.prog 139 #[str s, .pointer (some ⟨g, 0, none⟩)] w fun e w' => e = .returned (.bool (!(s.length == x0.length))) ∧ Below w.heap.size w w' := by
  have hnn : (0 : Int) < n := by omega
  cases hb : (s.length == x0.length) with
  | true =>
    have hi : ((s.length : Int) != (x0.length : Int)) = false := by have := eq_of_beq hb; rw [this]; simp
    go_enter Tryz.func139, Tryz.ntmps139
    go_wp2_with fail
    go_ret
    exact ⟨rfl, Below.refl _ _⟩
  | false =>
    have hi : ((s.length : Int) != (x0.length : Int)) = true := by have := ne_of_beq_false hb; rw [bne_iff_ne]; omega
    go_enter Tryz.func139, Tryz.ntmps139
    go_wp2_with fail
    go_ret
    exact ⟨rfl, Below.refl _ _⟩
theorem below_drew {B : Nat} {w w' : World} (h : Below B w w') : Below B w w'.drew := ⟨h.os, h.tape, h.output, h.size, h.block⟩
theorem goesEven : ∀ (args : Array Value) (w : World), (callFunc 139 args).run Tryz.prog w = .ok (.enter 139 args) w := enters_of Tryz.func139 (by kernel_rfl) (by kernel_rfl)
theorem any_even (l : List (List UInt8)) (n : Nat) : (l.any fun s => !(s.length == n)) = !l.all fun s => s.length == n := by
  induction l with
  | nil => rfl
  | cons x l ih => rw [List.any_cons, List.all_cons, ih, Bool.not_and]
theorem parEven_any {l : List (List UInt8)} {sv : Value} {w : World} (h : SlAt w sv l.length (strC l)) (f1 : l.length ≤ 1000000) :
    Calls Tryz.prog 112 #[sv] w fun e w' => e = .returned (.bool (evenB l)) ∧ Below w.heap.size w w' := by
  obtain ⟨w1, hw1⟩ : ∃ x, w.alloc (.cells #[sv] 60) = x := ⟨_, rfl⟩
  have B1 : Blk w1 w.heap.size 60 #[sv] := by rw [← hw1]; exact Blk.new _ _ _
  have D1 : Below w.heap.size w w1 := by rw [← hw1]; exact keep_alloc (Below.refl _ _) _
  have h1 := h.below D1
  have HC := Lib.hid (conStr_any 139 #[.pointer (some ⟨w.heap.size, 0, none⟩)] (fun s => !(s.length == (l.headD []).length)) h1 f1 goesEven (fun s W hs hW => by
    obtain ⟨A, c, rfl⟩ := h1.form
    have hp : 0 < l.length := List.length_pos_of_mem hs
    obtain ⟨b, o, rfl, hbl, hcell⟩ := h1.cells hp
    obtain ⟨x0, hx0⟩ : ∃ x, l[0]? = some x := ⟨_, List.getElem?_eq_getElem hp⟩
    have hh : l.headD [] = x0 := by cases l with
      | nil => cases hx0
      | cons y r => simp at hx0; simp [hx0]
    rw [hh]
    have c0 : W.cell? ⟨b, o, none⟩ = some (str x0) := (World.cell?_of_block (hW.block b hbl)).trans (hcell 0 _ (strC_at hx0))
    exact parEven1_any ((B1.below hW B1.lt).at_ rfl) c0 hp s))
  have c0 : w1.cell? ⟨w.heap.size, 0, none⟩ = some sv := B1.at_ rfl
  have HD := Lib.hid D1
  have HW := Lib.hid hw1
  obtain ⟨A, c, rfl⟩ := h.form
  rw [any_even] at HC
  have HE : Hid (evenB l = l.all fun s => s.length == (l.headD []).length) := Lib.hid rfl
  clear h h1 D1 B1 hw1
  generalize (l.all fun s => s.length == (l.headD []).length) = r at *
  go_enter Tryz.func112, Tryz.ntmps112
  go_wp2_with fail
  rw [HW.out]
  clear HW
  go_wp2_with fail
  refine HC.out.mono ?_
  rintro e w2 ⟨rfl, hb2⟩
  have HD2 := Lib.hid (keep_below hb2 HD.out)
  clear hb2
  cases r with
  | true =>
    go_wp2_with fail
    go_ret
    exact ⟨by rw [HE.out]; rfl, HD2.out⟩
  | false =>
    go_wp2_with fail
    go_ret
    exact ⟨by rw [HE.out]; rfl, HD2.out⟩

set_option maxRecDepth 20000 in
theorem parOne_any {l : List (List UInt8)} {sv : Value} {w : World} (h : SlAt w sv l.length (strC l)) (hne : l ≠ []) (he : evenB l = true) (hn : (l.headD []).length ≤ 16384) (f1 : l.length ≤ 1000000) :
    Calls Tryz.prog 113 #[sv] w fun e w' => e = .returned (str (parN (l.headD []).length l)) ∧ Below w.heap.size w w' := by
  have hp : 0 < l.length := List.length_pos_iff.2 hne
  obtain ⟨A, c, rfl⟩ := h.form
  obtain ⟨b, o, rfl, hbl, hcell⟩ := h.cells hp
  obtain ⟨x0, hx0⟩ : ∃ x, l[0]? = some x := ⟨_, List.getElem?_eq_getElem hp⟩
  have hh : l.headD [] = x0 := by cases l with
    | nil => cases hx0
    | cons y r => simp at hx0; simp [hx0]
  have hal := evenB_spec he
  rw [hh] at hal hn ⊢
  have c0 : w.cell? ⟨b, o, none⟩ = some (str x0) := hcell 0 _ (strC_at hx0)
  obtain ⟨N, hN⟩ : ∃ n, n = x0.length := ⟨_, rfl⟩
  obtain ⟨w1, r1, hb1, hs1, hbel1⟩ := mk_bytes w x0.length hn
  have hpi : (0 : Int) < l.length := by omega
  have HB1 : Hid (Blk w1 w.heap.size 5 (bytC (parN x0.length (l.take 0))).toArray) := Lib.hid hb1
  have HBEL := Lib.hid hbel1
  have HCELL := Lib.hid hcell
  have HAL := Lib.hid hal
  have HBL := Lib.hid hbl
  clear h hcell hal hbl hb1 hbel1 hh hx0 hs1 he hN
  go_enter Tryz.func113, Tryz.ntmps113
  go_wp2_with fail
  clear r1 c0
  go_loopw [5, 6, 14] (fun _ _ t wr => ∃ k : Nat, k ≤ l.length ∧ t = .int .i64 k ∧ Below w.heap.size w wr ∧ Blk wr w.heap.size 5 (bytC (parN x0.length (l.take k))).toArray) (fun _ _ t _ => l.length - (RowKit.intOf t).toNat)
  case atStart => exact ⟨0, Nat.zero_le _, rfl, HBEL.out, HB1.out⟩
  case round =>
    obtain ⟨k, hk, rfl, hb, hblk⟩ := hrel
    have HB := Lib.hid hb
    have HK := Lib.hid hblk
    clear hb hblk HB1 HBEL
    by_cases hlt : k < l.length
    · obtain ⟨s, hs⟩ : ∃ s, l[k]? = some s := ⟨_, List.getElem?_eq_getElem hlt⟩
      have f0 : wr.cell? ⟨b, o + k, none⟩ = some (str s) := (World.cell?_of_block (HB.out.block b HBL.out)).trans (HCELL.out k _ (strC_at hs))
      have hdc : decide (k < l.length) = true := decide_eq_true hlt
      have HLT := Lib.hid hlt
      have hsl : s.length = x0.length := HAL.out s (List.mem_of_getElem? hs)
      obtain ⟨a, ha⟩ : ∃ a, a = parN x0.length (l.take k) := ⟨_, rfl⟩
      have hal : a.length = x0.length := by rw [ha]; exact parN_len fun y hy => HAL.out y (List.mem_of_mem_take hy)
      have HTK : Hid (parN x0.length (l.take (k + 1)) = xorL a s) := Lib.hid (by rw [List.take_add_one, hs, ha]; exact parN_snoc _ _ _)
      rw [← ha] at HK
      have HSL := Lib.hid (And.intro hsl hal)
      clear hs hsl ha hal
      go_wp2_with fail
      have hx0 : xorTo a s 0 = a := xorTo_zero a s
      go_loopw [6, 20] (fun _ t wq => ∃ j : Nat, j ≤ x0.length ∧ t = .int .i64 j ∧ Below w.heap.size w wq ∧ Blk wq w.heap.size 5 (bytC (xorTo a s j)).toArray) (fun _ t _ => x0.length - (RowKit.intOf t).toNat)
      case atStart => exact ⟨0, Nat.zero_le _, rfl, HB.out, by rw [hx0]; exact HK.out⟩
      case round =>
        clear hx0 f0 HB HK
        obtain ⟨j, hj, rfl, hb, hblk⟩ := hrel
        have HB := Lib.hid hb
        have HK := Lib.hid hblk
        clear hb hblk
        by_cases hjt : j < x0.length
        · obtain ⟨x, hx⟩ : ∃ x, a[j]? = some x := ⟨_, List.getElem?_eq_getElem (by have := HSL.out; omega)⟩
          obtain ⟨y, hy⟩ : ∃ y, s[j]? = some y := ⟨_, List.getElem?_eq_getElem (by have := HSL.out; omega)⟩
          have hdj : decide (j < x0.length) = true := decide_eq_true hjt
          have hlen : a.length = s.length := by have := HSL.out; omega
          have HJT := Lib.hid hjt
          have HST : Hid ((xorTo a s j).set j (x ^^^ y) = xorTo a s (j + 1)) := Lib.hid (xorTo_set hx hy hlen)
          have hxc := xorTo_get hx hlen
          have hjs : j < s.length := by have := HSL.out; omega
          clear hx hlen
          repeat' (first
            | go_values
            | go_skip
            | go_guarded
            | ((fail_if_success (with_reducible refine drawn_mark ?_))
               first
                 | go_step
                 | go_upon
                 | go_back
                 | (simp only [Int.not_lt, Int.not_le] at *; go_simp)
                 | (go_values <;> (try go_simp))
                 | (go_ite <;> go_prune <;> (try go_simp))
                 | (split <;> (first | (rename_i hx; exact (hx _ rfl).elim) | go_prune))))
          obtain ⟨S0, hS0⟩ : ∃ S0 : World → Prop, S0 = fun W => Blk W w.heap.size 5 (bytC (xorTo a s j)).toArray := ⟨_, rfl⟩
          have f1 : ∀ W, S0 W → W.cell? ⟨w.heap.size, j, none⟩ = some (.int .u8 (x.toNat : Int)) := fun W hW => by rw [hS0] at hW; exact hW.at_ (bytC_at hxc)
          have hSw : S0 wr.drew := by rw [hS0]; exact HK.out
          have hxr := xor_cell x y
          clear hS0 hxc
          refine wp_region_eff S0 [] 9 (by kernel_rfl) (by kernel_rfl) (by kernel_rfl) hSw ?_
          simp only [List.take_succ_cons, List.take_zero, List.drop_succ_cons, List.drop_zero]
          refine wpLexE_take 9 (by kernel_rfl) (by kernel_rfl) ?_
          simp only [List.take_succ_cons, List.take_zero, List.drop_succ_cons, List.drop_zero]
          repeat (first
            | go_big_quiet_skip
            | (go_big_quiet_want
               go_big_quiet_op
               first
                 | go_big_quiet_on
                 | (apply Exists.intro
                    refine ⟨fun W hW => ?_, ?_⟩
                    · first
                        | exact rfl
                        | exact ⟨rfl, rfl⟩
                        | (have e0 := f1 W hW; simp only [e0, Result.andThen_ok]; done)
                        | (have e0 := f1 W hW; simp only [e0, Result.andThen_ok]; first | exact ⟨trivial, rfl⟩ | exact rfl | exact ⟨rfl, rfl⟩)
                        | (skip)
                    go_big_quiet_on)))
          refine wpQuiet_nil ?_
          show wpList _ _ _ _ _ _
          have c1 := f1 wr.drew hSw
          have z1 : wr.drew.frozen? ⟨w.heap.size, j, none⟩ = false := (show Blk wr.drew _ _ _ from HK.out).fr j
          clear f1 hSw
          have hyb : j < (ByteArray.mk s.toArray).size := by simp [ByteArray.size]; exact hjs
          have hidx : (ByteArray.mk s.toArray)[j]'hyb = y := by
            have e : s[j]'hjs = y := by rw [List.getElem?_eq_getElem hjs] at hy; exact Option.some.inj hy
            rw [← e]; rfl
          have HIDX := Lib.hid hidx
          have HXR := Lib.hid hxr
          clear hidx hxr hy
          go_wp2_with fail
          rw [HIDX.out, HXR.out]
          obtain ⟨wy, hwy⟩ : ∃ z, z = (wr.setCell ⟨w.heap.size, j, none⟩ (.int .u8 ((x ^^^ y).toNat : Int))).drew := ⟨_, rfl⟩
          have hKy : Blk wy w.heap.size 5 (bytC (xorTo a s (j + 1))).toArray := by rw [hwy, ← HST.out, ← bytC_set]; exact HK.out.put j _
          have hBy : Below w.heap.size w wy := by rw [hwy]; exact below_drew (below_set HB.out _ _ _ (Nat.le_refl _))
          rw [← hwy]
          go_roundw
          case rel => exact ⟨j + 1, HJT.out, by go_num, hBy, hKy⟩
          case measure => have := HJT.out; simp [RowKit.intOf]; omega
        · obtain rfl : j = x0.length := by omega
          have hdj : decide ((x0.length : Int) < x0.length) = false := decide_eq_false (by omega)
          have hxx : xorTo a s x0.length = xorL a s := by rw [← HSL.out.2]; exact xorTo_all (by have := HSL.out; omega)
          rw [hxx] at HK
          clear hxx
          go_wp2_with fail
          go_roundw
          case rel => exact ⟨k + 1, HLT.out, by go_num, HB.out, by rw [HTK.out]; exact HK.out⟩
          case measure => have := HLT.out; simp [RowKit.intOf]; omega
    · obtain rfl : k = l.length := by omega
      have hdc : decide ((l.length : Int) < l.length) = false := decide_eq_false (by omega)
      have hcv := conv_bytes HK.out x0.length x0.length (parN_len fun y hy => HAL.out y (List.mem_of_mem_take hy)).symm
      rw [List.take_length] at hcv
      go_wp2_with fail
      go_ret
      exact ⟨rfl, HB.out⟩

theorem parMake_any {l : List (List UInt8)} {sv : Value} {w : World} (h : SlAt w sv l.length (strC l)) (hn : (l.headD []).length ≤ 16384) (f1 : l.length ≤ 1000000) :
    Calls Tryz.prog 83 #[sv] w fun e w' => e = .returned (.tuple #[str (makeS l), .int .i64 (makeE l)]) ∧ Below w.heap.size w w' := by
  obtain ⟨A, c, rfl⟩ := h.form
  have H := Lib.hid h
  have HEV := Lib.hid (parEven_any h f1)
  clear h
  by_cases h0 : l.length = 0
  · have hl : l = [] := List.length_eq_zero_iff.1 h0
    have hz : ((l.length : Int) == 0) = true := by rw [h0]; rfl
    have hv : Hid (makeS l = [] ∧ makeE l = 1) := Lib.hid (by rw [hl]; exact ⟨rfl, rfl⟩)
    clear h0 hl
    go_enter Tryz.func83, Tryz.ntmps83
    go_wp2_with fail
    go_ret2
    rw [hv.out.1, hv.out.2]
    exact ⟨rfl, Below.refl _ _⟩
  · have hz : ((l.length : Int) == 0) = false := by rw [beq_eq_false_iff_ne]; omega
    have hne : l ≠ [] := fun hh => h0 (by rw [hh]; rfl)
    have HNE := Lib.hid hne
    clear h0 hne
    go_enter Tryz.func83, Tryz.ntmps83
    go_wp2_with fail
    refine HEV.out.mono ?_
    rintro e w1 ⟨rfl, hb1⟩
    have HB1 := Lib.hid hb1
    clear hb1
    cases he : evenB l with
    | false =>
      have hv : Hid (makeS l = [] ∧ makeE l = 1) := Lib.hid (by unfold makeS makeE; rw [he]; simp)
      clear he
      go_wp2_with fail
      go_ret2
      rw [hv.out.1, hv.out.2]
      exact ⟨rfl, HB1.out⟩
    | true =>
      have hv : Hid (makeS l = parN (l.headD []).length l ∧ makeE l = 0) := Lib.hid (by
        unfold makeS makeE
        rw [if_pos ⟨HNE.out, he⟩, if_pos ⟨HNE.out, he⟩]
        exact ⟨rfl, rfl⟩)
      have HO := Lib.hid (parOne_any (H.out.below HB1.out) HNE.out he hn f1)
      clear he hn
      generalize parN (l.headD []).length l = Y at *
      go_wp2_with fail
      refine HO.out.mono ?_
      rintro e w2 ⟨rfl, hb2⟩
      have HB2 := Lib.hid (keep_below hb2 HB1.out)
      clear hb2
      go_wp2_with fail
      go_ret2
      rw [hv.out.1, hv.out.2]
      exact ⟨rfl, HB2.out⟩
end Go.Proofs.YtbhkbcpljakmjaaGreat

namespace Go.Proofs.YtbhkbcpljakmjaaGreat
set_option linter.unusedVariables false
set_option linter.unusedSimpArgs false
open Go.RowKit

theorem Tryz.infoStr : (Tryz.prog.info? 9).map (fun i => (i.zero, i.size, i.bytes)) = some (some (.string ⟨#[]⟩), 1, 16) := by kernel_rfl
theorem Tryz.infoIntR : (Tryz.prog.info? 3).map (fun i => (i.zero, i.size, i.bytes)) = some (some (.int .i64 0), 1, 8) := by kernel_rfl
theorem one_new' (w : World) (u : Value) (t : TypeId) : ∀ j v, [u][j]? = some v → (w.alloc (.cells #[u] t)).cell? ((⟨w.heap.size, 0, none⟩ : Addr).add j) = some v := by
  intro j v h
  rw [Addr.add_mid, Nat.zero_add]
  refine cell_new rfl ?_
  simpa using h
set_option maxRecDepth 20000 in
theorem codeSectors_any (s : List UInt8) (w : World) (hl : s.length ≤ 140737488355328) : Calls Tryz.prog 81 #[str s] w fun e w' =>
    ∃ v, e = .returned (.tuple #[v, .bool (secOk s)]) ∧ (secOk s = true → w'.ownsRow w.heap.size 9 1 v (secN s) (strC (secsL s))) ∧ Below w.heap.size w w' := by
  obtain ⟨i0, hi, hz0, hz1, hz2⟩ := info_parts Tryz.infoStr
  by_cases h1 : s = []
  · have hv : Hid (secOk s = false) := Lib.hid (by rw [h1]; rfl)
    have hb : (s == []) = true := by rw [h1]; rfl
    clear h1
    go_enter Tryz.func81, Tryz.ntmps81
    go_wp2_with fail
    go_ret2
    exact ⟨_, by rw [hv.out]; rfl, fun h => (by rw [hv.out] at h; cases h), Below.refl _ _⟩
  have hb : (s == []) = false := beq_eq_false_iff_ne.2 h1
  by_cases h2 : s.length % 64 ≠ 0
  · have hv : Hid (secOk s = false) := Lib.hid (by unfold secOk; rw [decide_eq_false h2]; simp)
    have hb2 : (((s.length : Int) % 64) != 0) = true := by rw [bne_iff_ne]; omega
    clear h1 h2
    go_enter Tryz.func81, Tryz.ntmps81
    go_wp2_with fail
    go_ret2
    exact ⟨_, by rw [hv.out]; rfl, fun h => (by rw [hv.out] at h; cases h), Below.refl _ _⟩
  replace h2 : s.length % 64 = 0 := by omega
  have hb2 : (((s.length : Int) % 64) != 0) = false := by rw [bne_eq_false_iff_eq]; omega
  by_cases h3 : 256 < s.length
  · have hv : Hid (secOk s = false) := Lib.hid (by unfold secOk; rw [decide_eq_false (by omega : ¬ s.length ≤ 256)]; simp)
    have hb3 : decide ((256 : Int) < s.length) = true := decide_eq_true (by omega)
    clear h1 h2 h3
    go_enter Tryz.func81, Tryz.ntmps81
    go_wp2_with fail
    go_ret2
    exact ⟨_, by rw [hv.out]; rfl, fun h => (by rw [hv.out] at h; cases h), Below.refl _ _⟩
  have hb3 : decide ((256 : Int) < s.length) = false := decide_eq_false (by omega)
  have hv : Hid (secOk s = true) := Lib.hid (by unfold secOk; rw [decide_eq_true h1, decide_eq_true h2, decide_eq_true (by omega : s.length ≤ 256)]; rfl)
  obtain ⟨n, hn⟩ : ∃ n, n = secN s := ⟨_, rfl⟩
  have hnl : s.length = n * 64 := by rw [hn]; unfold secN; omega
  have HN := Lib.hid (And.intro hn hnl)
  have hn4 : n ≤ 4 := by omega
  clear h1 h2 h3 hn hl hnl
  go_enter Tryz.func81, Tryz.ntmps81
  go_wp2_with fail
  go_loopw [4, 5] (fun v t wr => ∃ k : Nat, k ≤ n ∧ t = .int .i64 ((k : Int) * 64) ∧ wr.ownsRow w.heap.size 9 1 v k (strC ((secsL s).take k)) ∧ Below w.heap.size w wr) (fun _ t _ => n * 64 - (RowKit.intOf t).toNat)
  case atStart => exact ⟨0, Nat.zero_le _, rfl, World.ownsRow_nil _ _ _ _, Below.refl _ _⟩
  case round =>
    obtain ⟨k, hk, rfl, hown, hb⟩ := hrel
    by_cases hlt : k < n
    · have hdc : decide ((k : Int) * 64 < s.length) = true := decide_eq_true (by have := HN.out.2; omega)
      have hsl : ∀ W, (Instr.slice 9 (str s) (some (.int .i64 ((k : Int) * 64))) (some (.int .i64 ((k : Int) * 64 + 64))) none).run Tryz.prog W = .ok (str (secAt s k)) W := fun W => by
        have h5 := HN.out.2
        have := run_slice_string (P := Tryz.prog) W 9 (ByteArray.mk s.toArray) .i64 .i64 ((k : Int) * 64) ((k : Int) * 64 + 64) Tryz.underlying9 (by omega) (by omega) (by simp [ByteArray.size]; omega)
        rw [this]
        have e1 : ((k : Int) * 64).toNat = k * 64 := by omega
        have e2 : ((k : Int) * 64 + 64).toNat = k * 64 + 64 := by omega
        have e3 : (ByteArray.mk s.toArray).extract (k * 64) (k * 64 + 64) = ⟨(secAt s k).toArray⟩ := by
          apply ByteArray.ext
          have h6 : (k * 64 + 64) - k * 64 = 64 := by omega
          simp only [secAt, ByteArray.data_extract, List.extract_toArray, List.extract_eq_take_drop, h6]
        rw [e1, e2, e3]
      have hx : (secsL s)[k]? = some (secAt s k) := secsL_at (by have := HN.out.1; omega)
      have hown := Lib.hid hown
      have HB := Lib.hid hb
      have HX := Lib.hid hx
      clear hb hx
      go_wp2_with (at_builtin; refine wpList_append_own _ rfl _ _ 60 rfl w.heap.size 9 i0 _ 1 16 Tryz.underlying60 hi hz0 hz1 hz2 rfl (by decide) _ _ _ rfl (hown.out.alloc _) ⟨wr.heap.size, 0, none⟩ 1 1 [str (secAt s k)] rfl rfl ?c1 ?c2 (by unfold maxLen; omega) (by omega) ?c5 ?_)
      case c1 => exact one_new' _ _ _
      case c2 => intro u hu; simp at hu; subst hu; rfl
      case c5 => have := HB.out.size; simp; omega
      intro v' w3 hown' hgrow _
      have hown3 : w3.ownsRow w.heap.size 9 1 v' (k + 1) (strC ((secsL s).take (k + 1))) := by
        rw [List.take_add_one, HX.out]
        show w3.ownsRow _ _ _ _ _ (strC ((secsL s).take k ++ [secAt s k]))
        rw [strC_snoc]
        exact hown'
      have hb3 : Below w.heap.size w w3 := (HB.out.alloc HB.out.size _).grown hgrow (by have := HB.out.size; simp; omega) (fun k hk => (hown.out.lt k hk).1)
      have HO3 := Lib.hid hown3
      have HB3 := Lib.hid hb3
      clear hown' hgrow hown3 hb3 hsl
      go_wp2_with fail
      go_roundw
      case rel => exact ⟨k + 1, by omega, by go_num, HO3.out, HB3.out⟩
      case measure => simp [RowKit.intOf]; omega
    · obtain rfl : k = n := by omega
      have hdc : decide ((k : Int) * 64 < s.length) = false := decide_eq_false (by have := HN.out.2; omega)
      go_wp2_with fail
      go_ret2
      refine ⟨_, by rw [hv.out]; rfl, fun _ => ?_, hb⟩
      have h5 : (secsL s).take k = secsL s := List.take_of_length_le (by rw [secsL_len, ← HN.out.1]; exact Nat.le_refl _)
      rw [h5, HN.out.1] at hown
      exact hown
end Go.Proofs.YtbhkbcpljakmjaaGreat
