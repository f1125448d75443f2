/-
  Package model: Write, Truncate.
-/
import Derived.Test.YtckicdbiiepngaaMod6
namespace Go.Proofs.Ytckicdbiiepngaa
set_option linter.unusedVariables false
set_option linter.unusedSimpArgs false
open Go.RowKit Go.Maps Go.Lib Go.Shelf

def padT (o : List UInt8) (n : Nat) : List UInt8 := o ++ List.replicate (n - o.length) 0
def layT (X : List UInt8) (off : Nat) (s : List UInt8) : List UInt8 := X.take off ++ s ++ X.drop (off + s.length)
theorem padT_len {o : List UInt8} {n : Nat} (h : o.length ≤ n) : (padT o n).length = n := by unfold padT; rw [List.length_append, List.length_replicate]; omega
theorem layT_len {X s : List UInt8} {off : Nat} (h : off + s.length ≤ X.length) : (layT X off s).length = X.length := by
  unfold layT; rw [List.length_append, List.length_append, List.length_take, List.length_drop]; omega
theorem lay_pad (o : List UInt8) (n : Nat) (h : o.length ≤ n) : layT (List.replicate n 0) 0 o = padT o n := by
  unfold layT padT
  rw [List.take_zero, List.nil_append, Nat.zero_add, List.drop_replicate]
theorem Try.infoU8 : (Try.prog.info? 5).map (fun i => (i.zero, i.size, i.bytes)) = some (some (.int .u8 0), 1, 1) := by kernel_rfl
theorem cells_bytes (X : List UInt8) : byteCells X = X.map fun b => Value.int .u8 (b.toNat : Int) := rfl

theorem mk_bytes (w : World) (n : Nat) (hn : n ≤ 16384) : ∃ w1, (Instr.makeSlice 83 (.int .i64 n) (.int .i64 n)).run Try.prog w = .ok (.slice (some ⟨w.heap.size, 0, none⟩) n n) w1 ∧
    Blk w1 w.heap.size 5 (byteCells (List.replicate n 0)).toArray ∧ w1.heap.size = w.heap.size + 1 ∧ Below w.heap.size w w1 := by
  obtain ⟨i0, hi, hz0, hz1, hz2⟩ := info_parts Try.infoU8
  have hrun := run_makeSlice w 83 5 i0 (.int .u8 0) Try.underlying83 hi hz0 .i64 .i64 n n (by omega) (Int.le_refl _) (by rw [hz1]; omega) (by rw [hz2]; omega) (by omega)
  have hc : madeCells (Value.int .u8 0).cells ((n : Int).toNat * i0.size) = (byteCells (List.replicate n 0)).toArray := by
    rw [hz1, Int.toNat_natCast, Nat.mul_one]
    apply Array.ext'
    have : (Value.int .u8 0).cells = #[.int .u8 0] := rfl
    rw [this, toList_madeCells_one]
    simp [byteCells]
  rw [hc, Int.toNat_natCast] at hrun
  exact ⟨_, hrun, Blk.new _ _ _, by simp, keep_alloc (Below.refl _ _) _⟩
theorem cp_bytes {w : World} {g : Nat} {X : List UInt8} (hX : Blk w g 5 (byteCells X).toArray) (off : Nat) (s : List UInt8) (h : off + s.length ≤ X.length) (dLen dCap : Nat) (hd : s.length ≤ dLen) (ty : TypeId) :
    ∃ w', (Builtin.copy_ #[83, 9] ty #[.slice (some ⟨g, off, none⟩) dLen dCap, str s]).run Try.prog w = .ok (.int .i64 s.length) w' ∧ Blk w' g 5 (byteCells (layT X off s)).toArray ∧
      w'.heap.size = w.heap.size ∧ w.grownBy w' (some g) := by
  obtain ⟨i0, hi, hz0, hz1, hz2⟩ := info_parts Try.infoU8
  have hsz : (ByteArray.mk s.toArray).size = s.length := by simp [ByteArray.size]
  have hrun := run_copy_row_string w 83 9 ty 5 g off dLen dCap ⟨s.toArray⟩ (byteCells X).toArray 5 Try.underlying83 (by rw [hi]; simp [hz1]) hX (by rw [hsz]; exact hd) (by rw [hsz]; simp [byteCells]; exact h)
  have hc : ((byteCells X).toArray.toList.take off ++ byteCells (ByteArray.mk s.toArray).data.toList ++ (byteCells X).toArray.toList.drop (off + (ByteArray.mk s.toArray).size)).toArray = (byteCells (layT X off s)).toArray := by
    rw [hsz]
    simp [layT, byteCells, List.map_take, List.map_drop]
  rw [hc, hsz] at hrun
  refine ⟨_, hrun, setRow_heap w g _ _ _ _ hX, by simp, ⟨rfl, rfl, rfl, by simp, fun i hi hne => setRow_other w g i _ (fun e => hne (by rw [e]))⟩⟩
theorem conv_bytes {w : World} {g : Nat} {X : List UInt8} (hX : Blk w g 5 (byteCells X).toArray) (n cap : Nat) (hn : n = X.length) : (convert 83 9 (.slice (some ⟨g, 0, none⟩) n cap)).run Try.prog w = .ok (str X) w := by
  subst hn
  refine run_convert_bytes_back (P := Try.prog) w 83 9 5 ⟨g, 0, none⟩ cap X Try.underlying83 Try.underlying5 Try.underlying9 (fun j hj => ?_)
  rw [Addr.add_mid, Nat.zero_add]
  refine hX.at_ ?_
  simp [byteCells, List.getElem?_eq_getElem hj]

def offT (off : Int) (s : List UInt8) : Nat := if s = [] then 0 else off.toNat
def wrT (o : List UInt8) (off : Int) (s : List UInt8) : List UInt8 := layT (padT o (max o.length (offT off s + s.length))) (offT off s) s
def wrE (id off : Int) (n : Nat) : Int := if mayE id ≠ 0 then mayE id else if off < 0 ∨ 16384 < off ∨ 16384 - off < n then 1 else 0
def wrD (d : ModD) (id off : Int) (s : List UInt8) : ModD := if wrE id off s.length = 0 then ⟨⟨d.now.live.put (.int .i64 id) (.lit (.string (wrT (txt d.now.live id) off s))), d.now.snaps⟩, d.kept⟩ else d
theorem wrT_len (o : List UInt8) (off : Int) (s : List UInt8) (h1 : o.length ≤ 16384) (h2 : offT off s + s.length ≤ 16384) : (wrT o off s).length ≤ 16384 := by
  unfold wrT
  rw [layT_len (by rw [padT_len (by omega)]; omega), padT_len (by omega)]
  omega
theorem eq_empty (s : List UInt8) (W : World) : (binOp .eql 9 (str s) (.string ⟨#[]⟩)).run Try.prog W = .ok (.bool s.isEmpty) W := by
  simp [go_sem, binOp, Op.stringOp, str]

theorem lay_runs (w : World) (o s : List UInt8) (n k : Nat) (hn : n ≤ 16384) (hon : o.length ≤ n) (hkn : k + s.length ≤ n) : ∃ w1 w2 w3,
    (Instr.makeSlice 83 (.int .i64 n) (.int .i64 n)).run Try.prog w = .ok (.slice (some ⟨w.heap.size, 0, none⟩) n n) w1 ∧
    (Builtin.copy_ #[83, 9] 3 #[.slice (some ⟨w.heap.size, 0, none⟩) n n, str o]).run Try.prog w1 = .ok (.int .i64 o.length) w2 ∧
    (Builtin.copy_ #[83, 9] 3 #[.slice (some ⟨w.heap.size, k, none⟩) (n - k) (n - k), str s]).run Try.prog w2 = .ok (.int .i64 s.length) w3 ∧
    (convert 83 9 (.slice (some ⟨w.heap.size, 0, none⟩) n n)).run Try.prog w3.drew = .ok (str (layT (padT o n) k s)) w3.drew ∧ Below w.heap.size w w3 := by
  obtain ⟨w1, r1, hb1, hs1, hbel1⟩ := mk_bytes w n hn
  obtain ⟨w2, r2, hb2, hs2, hg2⟩ := cp_bytes hb1 0 o (by rw [List.length_replicate]; omega) n n hon 3
  rw [lay_pad o n hon] at hb2
  obtain ⟨w3, r3, hb3, hs3, hg3⟩ := cp_bytes hb2 k s (by rw [padT_len hon]; omega) (n - k) (n - k) (by omega) 3
  have r4 := conv_bytes (w := w3.drew) hb3 n n (by rw [layT_len (by rw [padT_len hon]; omega), padT_len hon])
  exact ⟨w1, w2, w3, r1, r2, r3, r4, (hbel1.grown hg2 (by omega) (fun j e => by cases e; omega)).grown hg3 (by omega) (fun j e => by cases e; omega)⟩

theorem below_drew {B : Nat} {w w' : World} (h : Below B w w') : Below B w w'.drew := ⟨h.os, h.tape, h.output, h.size, h.block⟩

/-- The live map, and what comes when a text is put there, behind what made new blocks alone. -/
theorem ModAt.live_put {w : World} {S : Nat → Prop} {b : Nat} {d : ModD} {N : Nat} (h : ModAt w S b d N) (hN : N ≤ 1000000) : ∃ m, w.cell? ⟨b, 0, none⟩ = some (.map (some m)) ∧ MapT w m N d.now.live ∧ b < w.heap.size ∧
    ∀ w3, Below w.heap.size w w3 → w3.cell? ⟨b, 0, none⟩ = some (.map (some m)) ∧ MapT w3 m N d.now.live ∧ ∀ (id : Int) (X : List UInt8), 0 ≤ id ∧ id < 32 → X.length ≤ 16384 →
      ∃ w4, (Instr.mapUpdate 57 (.map (some m)) (.int .i64 id) (str X)).run Try.prog w3 = .ok () w4 ∧
        ModAt w4 (more S w w4) b ⟨⟨d.now.live.put (.int .i64 id) (.lit (.string X)), d.now.snaps⟩, d.kept⟩ (N + 1) ∧ Only S w w4 := by
  obtain ⟨m, cs, hb, h0, hm, hSm, hmb, hturn⟩ := h.live_at
  refine ⟨m, hb.at_ h0, hm, hb.lt, fun w3 hbel => ?_⟩
  have hm3 : MapT w3 m N d.now.live := MapT.same hm (hbel.block m (World.ownsMap.lt hm))
  refine ⟨(show Blk w3 b _ _ from (hbel.block b hb.lt).trans hb).at_ h0, hm3, fun id X hid hX => ?_⟩
  obtain ⟨w4, r5, hm4, ht4⟩ := World.ownsMap.store hm3 kint Try.underlying57 (by unfold maxLen; omega) (keyOf_int_mk Try.underlying3 (wfz_in (k := id) (by omega) (by omega))) (rt_str X hX)
  have hg := ht4.grown
  have hlt := World.ownsMap.lt hm
  refine ⟨w4, r5, hturn w4 (N + 1) _ (by omega) (Nat.le_trans hbel.size hg.size) (fun i hi hlt => (hg.block i (Nat.lt_of_lt_of_le hlt hbel.size) (fun e => hi (by injection e))).trans (hbel.block i hlt)) hm4, ?_⟩
  exact (Only.of_below (S := S) hbel).trans (Only.of_grown (S := S) hg hSm) (fun i hi => .inl hi)

set_option maxRecDepth 20000 in
theorem write_any {w : World} {S : Nat → Prop} {b : Nat} {d : ModD} {N : Nat} (h : ModAt w S b d N) (hN : N ≤ 1000000) (id off : Int) (s : List UInt8) (hl : s.length ≤ 1000000000) (ho1 : -9223372036854775808 ≤ off) (ho2 : off ≤ 9223372036854775807) :
    Calls Try.prog 23 #[.pointer (some ⟨b, 0, none⟩), .int .i64 id, .int .i64 off, str s] w fun e w' => e = .returned (.int .i64 (wrE id off s.length)) ∧
      ModAt w' (more S w w') b (wrD d id off s) (N + 1) ∧ Only S w w' := by
  have hH := Lib.hid h
  obtain ⟨m, c0, hm, hbl, hput⟩ := h.live_put hN
  have HM := Lib.hid hm
  have HT := Lib.hid hput
  have HP := Lib.hid (fun W => may_any b id W)
  have hls : (ByteArray.mk s.toArray).size = s.length := by simp [ByteArray.size]
  clear h hm hput
  go_enter Try.func23, Try.ntmps23
  go_wp2_with fail
  refine (HP.out w).mono ?_
  rintro e w1 ⟨rfl, rfl⟩
  by_cases hz : mayE id = 0
  · have hid := mayE_ok hz
    have HZ := Lib.hid hz
    have HI := Lib.hid hid
    rw [hz]
    clear hz hid HP
    by_cases hbad : off < 0 ∨ 16384 < off ∨ 16384 - off < s.length
    · have hE : wrE id off s.length = 1 := by unfold wrE; rw [if_neg (by simpa using HZ.out), if_pos hbad]
      have HE := Lib.hid hE
      have fin : ∀ v : Ending, v = .returned (.int .i64 1) → v = .returned (.int .i64 (wrE id off s.length)) ∧ ModAt w (more S w w) b (wrD d id off s) (N + 1) ∧ Only S w w := by
        rintro v rfl
        exact ⟨by rw [HE.out], by unfold wrD; rw [if_neg (by rw [HE.out]; omega)]; exact hH.out.stay, Only.refl _ _⟩
      have FIN := Lib.hid fin
      clear hE fin
      by_cases h1 : off < 0
      · have g1 : decide (off < 0) = true := decide_eq_true h1
        clear hbad
        go_wp2_with fail
        go_ret
        exact FIN.out _ rfl
      · have g1 : decide (off < 0) = false := decide_eq_false h1
        by_cases h2 : 16384 < off
        · have g2 : decide (16384 < off) = true := decide_eq_true h2
          clear hbad
          go_wp2_with fail
          go_ret
          exact FIN.out _ rfl
        · have g2 : decide (16384 < off) = false := decide_eq_false h2
          have h3 : 16384 - off < s.length := by omega
          have g3 : decide (16384 - off < (s.length : Int)) = true := decide_eq_true h3
          have g4 : wrap64 (16384 - off) = 16384 - off := IntWalk.wrap64_in _ (by omega)
          clear hbad
          go_wp2_with fail
          go_ret
          exact FIN.out _ rfl
    · have hE : wrE id off s.length = 0 := by unfold wrE; rw [if_neg (by simpa using HZ.out), if_neg hbad]
      obtain ⟨k, rfl⟩ : ∃ k : Nat, off = k := ⟨off.toNat, by omega⟩
      have hk : k + s.length ≤ 16384 := by omega
      have HE := Lib.hid hE
      have HK := Lib.hid hk
      have hidx := HI.out
      have hlk := MapT.look HM.out (k := id) (wfz_in (by omega) (by omega))
      have g0 := hlk.1
      have HO := Lib.hid hlk.2
      have g1 : decide ((k : Int) < 0) = false := decide_eq_false (by omega)
      have g2 : decide ((16384 : Int) < k) = false := decide_eq_false (by omega)
      have g3 : decide (16384 - (k : Int) < s.length) = false := decide_eq_false (by omega)
      have g4 : wrap64 (16384 - (k : Int)) = 16384 - k := IntWalk.wrap64_in _ (by omega)
      have g5 := fun W => eq_empty s W
      have htx : ∃ o, o = txt d.now.live id := ⟨_, rfl⟩
      obtain ⟨o, htx⟩ := htx
      rw [← htx] at g0 HO
      have HTX := Lib.hid htx
      have hlo : (ByteArray.mk o.toArray).size = o.length := by simp [ByteArray.size]
      clear hE hbad hk hlk hidx htx ho1 ho2 hl
      by_cases hs : s = []
      · subst hs
        have g6 : ([] : List UInt8).isEmpty = true := rfl
        have g3b : decide (16384 - (k : Int) < 0) = false := decide_eq_false (by have := HK.out; omega)
        obtain ⟨w1, w2, w3, r1, r2, r3, r4, hbel3⟩ := lay_runs w o [] o.length 0 HO.out (Nat.le_refl _) (by simp)
        simp only [Nat.sub_zero, List.length_nil] at r3
        have hlx : (layT (padT o o.length) 0 []).length ≤ 16384 := by rw [layT_len (by rw [padT_len (Nat.le_refl _)]; simp), padT_len (Nat.le_refl _)]; exact HO.out
        obtain ⟨c3, hm3, hst⟩ := HT.out w3.drew (below_drew hbel3)
        obtain ⟨w4, r5, hfin⟩ := hst id (layT (padT o o.length) 0 []) HI.out hlx
        have HF := Lib.hid hfin
        clear hm3 hst hfin hbel3 hlx
        have c4 : w3.cell? ⟨b, 0, none⟩ = some (.map (some m)) := c3
        go_wp2_with fail
        refine wp_region_still_tail 8 (by kernel_rfl) (by kernel_rfl) ?_
        simp only [List.take_succ_cons, List.take_zero, List.drop_succ_cons, List.drop_zero]
        repeat still_step
        try refine wpStill_nil ?_
        change wpList _ _ _ _ _ w3.drew
        go_wp2_with fail
        go_ret
        refine ⟨by rw [HE.out]; rfl, ?_, HF.out.2⟩
        unfold wrD
        rw [if_pos HE.out]
        unfold wrT offT
        rw [if_pos rfl, ← HTX.out, show max o.length (0 + ([] : List UInt8).length) = o.length by simp]
        exact HF.out.1
      · have g6 : s.isEmpty = false := by cases s with | nil => exact absurd rfl hs | cons a l => rfl
        have g7 : wrap64 ((k : Int) + s.length) = k + s.length := IntWalk.wrap64_in _ (by have := HK.out; omega)
        have HNS := Lib.hid hs
        clear hs
        have hn : max o.length (k + s.length) ≤ 16384 := by have := HO.out; have := HK.out; omega
        obtain ⟨n, hnn⟩ : ∃ n, n = max o.length (k + s.length) := ⟨_, rfl⟩
        have hon : o.length ≤ n := by omega
        have hkn : k + s.length ≤ n := by omega
        have hk1 : k < n := by have : s.length ≠ 0 := fun h => HNS.out (List.length_eq_zero_iff.1 h); omega
        obtain ⟨w1, w2, w3, r1, r2, r3, r4, hbel3⟩ := lay_runs w o s n k (by omega) hon hkn
        rw [show ((n : Nat) : Int) = max (o.length : Int) (k + s.length) by rw [hnn]; omega] at r1
        have k1 : decide ((k : Int) < 0) = false := decide_eq_false (by omega)
        have k2 : decide (k ≤ n) = true := decide_eq_true (by omega)
        have HNN := Lib.hid hnn
        have HON := Lib.hid hon
        have HKN := Lib.hid hkn
        have hlx : (layT (padT o n) k s).length ≤ 16384 := by rw [layT_len (by rw [padT_len hon]; omega), padT_len hon]; omega
        clear hnn hon hkn
        obtain ⟨c3, hm3, hst⟩ := HT.out w3.drew (below_drew hbel3)
        obtain ⟨w4, r5, hfin⟩ := hst id (layT (padT o n) k s) HI.out hlx
        have HF := Lib.hid hfin
        clear hm3 hst hfin hbel3 hlx
        have c4 : w3.cell? ⟨b, 0, none⟩ = some (.map (some m)) := c3
        go_wp2_with fail
        refine wp_region_still_tail 8 (by kernel_rfl) (by kernel_rfl) ?_
        simp only [List.take_succ_cons, List.take_zero, List.drop_succ_cons, List.drop_zero]
        repeat still_step
        try refine wpStill_nil ?_
        change wpList _ _ _ _ _ w3.drew
        go_wp2_with fail
        go_ret
        refine ⟨by rw [HE.out]; rfl, ?_, HF.out.2⟩
        unfold wrD
        rw [if_pos HE.out]
        unfold wrT offT
        rw [if_neg HNS.out, Int.toNat_natCast, ← HTX.out, ← HNN.out]
        exact HF.out.1
  · have hm1 : mayE id = 1 := by unfold mayE at hz ⊢; split at hz <;> simp_all
    have HE : Hid (wrE id off s.length = 1) := Lib.hid (by unfold wrE; rw [if_pos hz, hm1])
    rw [hm1]
    clear hz hm1 HP
    go_wp2_with fail
    go_ret
    exact ⟨by rw [HE.out]; rfl, by unfold wrD; rw [if_neg (by rw [HE.out]; omega)]; exact hH.out.stay, Only.refl _ _⟩
end Go.Proofs.Ytckicdbiiepngaa
