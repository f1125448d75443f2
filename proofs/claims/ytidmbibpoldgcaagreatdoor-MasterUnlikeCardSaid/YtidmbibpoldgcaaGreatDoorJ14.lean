/-
  Layer 17: the writer of a state's bytes, whatever the numbers.
  Layer 17: a state's bytes, whatever the state.
-/
import Derived.Test.YtidmbibpoldgcaaGreatDoorJ10
import Derived.Test.YtidmbibpoldgcaaGreatDoorJ13
namespace Go.Proofs.YtidmbibpoldgcaaGreatDoor
set_option linter.unusedVariables false
set_option linter.unusedSimpArgs false
open Go.RowKit

def inCnt (x : Int) : Bool := decide (0 ≤ x ∧ x ≤ 4611686018427387903)
def cntS (l : List Int) : List UInt8 := l.flatMap intL
def cntE (e : Int) (l : List Int) : Int := if l.all inCnt then e else 1
theorem cntS_snoc (l : List Int) (x : Int) : cntS (l ++ [x]) = cntS l ++ intL x := by simp [cntS]
theorem intL_len (x : Int) : (intL x).length ≤ 8 := by unfold intL; split <;> simp [layL_len]
theorem cntS_len : ∀ l : List Int, (cntS l).length ≤ l.length * 8
  | [] => Nat.le_refl _
  | x :: l => by
    have := cntS_len l
    have := intL_len x
    simp only [cntS, List.flatMap_cons, List.length_append, List.length_cons] at *
    omega
theorem intL_nil (x : Int) : intL x = [] ↔ inCnt x = false := by
  unfold intL inCnt
  split
  · rename_i h
    exact ⟨fun e => absurd (congrArg List.length e) (by rw [layL_len]; simp), fun e => by rw [decide_eq_true h] at e; cases e⟩
  · rename_i h
    exact ⟨fun _ => decide_eq_false h, fun _ => rfl⟩
theorem cntE_bad (e : Int) (l : List Int) {x : Int} (h : inCnt x = false) : cntE e (l ++ [x]) = 1 := by unfold cntE; rw [List.all_append]; simp [h]
theorem cntE_good (e : Int) (l : List Int) {x : Int} (h : inCnt x = true) : cntE e (l ++ [x]) = cntE e l := by unfold cntE; rw [List.all_append]; simp [h]

set_option maxRecDepth 20000 in
theorem wcounts_any {w : World} {b g c : Nat} {o : List UInt8} {er : Int} {l : List Int} (hb : Blk w b 79 #[str o, .int .i64 er]) (hn : l.length ≤ 9) (ho : o.length ≤ 20000)
    (hg : g < w.heap.size) (hgb : g ≠ b) (hc : ∀ i x, l[i]? = some x → w.cell? ⟨g, i, none⟩ = some (.int .i64 x)) :
    Calls Tryz.prog 25 #[.pointer (some ⟨b, 0, none⟩), .slice (some ⟨g, 0, none⟩) l.length c] w fun e w' => e = .returned (.tuple #[]) ∧ Blk w' b 79 #[str (o ++ cntS l), .int .i64 (cntE er l)] ∧ Only (fun i => i = b) w w' := by
  have HB := Lib.hid hb
  have HC := Lib.hid hc
  have HG := Lib.hid (And.intro hg hgb)
  have h0 : cntS (l.take 0) = [] := rfl
  have h1 : cntE er (l.take 0) = er := rfl
  clear hb hc hg hgb
  go_enter Tryz.func25, Tryz.ntmps25
  go_wp2_with fail
  go_loopw [5, 6, 9] (fun _ _ t wr => ∃ k : Nat, k ≤ l.length ∧ t = .int .i64 k ∧ Blk wr b 79 #[str (o ++ cntS (l.take k)), .int .i64 (cntE er (l.take k))] ∧ Only (fun i => i = b) w wr) (fun _ _ t _ => l.length - (RowKit.intOf t).toNat)
  case atStart => exact ⟨0, Nat.zero_le _, rfl, by rw [h0, h1, List.append_nil]; exact HB.out, Only.refl _ _⟩
  case round =>
    clear h0 h1
    obtain ⟨k, hk, rfl, hbk, hon⟩ := hrel
    have HBK := Lib.hid hbk
    have HON := Lib.hid hon
    by_cases hlt : k < l.length
    · obtain ⟨x, hx⟩ : ∃ x, l[k]? = some x := ⟨_, List.getElem?_eq_getElem hlt⟩
      have hcx : wr.cell? ⟨g, k, none⟩ = some (.int .i64 x) := (World.cell?_of_block (only_one hon HG.out.1 HG.out.2)).trans (HC.out k x hx)
      have HI : Hid (∀ W, Calls Tryz.prog 45 #[.int .i64 x] W fun e w' => e = .returned (str (intL x)) ∧ Below W.heap.size W w') := Lib.hid fun W => int_any x W
      have hll := intL_len x
      have htk : l.take (k + 1) = l.take k ++ [x] := by rw [List.take_add_one, hx]; rfl
      have HTK : Hid (cntS (l.take (k + 1)) = cntS (l.take k) ++ intL x) := Lib.hid (by rw [htk, cntS_snoc])
      have HTE : Hid ((intL x = [] → cntE er (l.take (k + 1)) = 1) ∧ (intL x ≠ [] → cntE er (l.take (k + 1)) = cntE er (l.take k))) := Lib.hid ⟨fun h => by
        rw [htk]; exact cntE_bad _ _ ((intL_nil x).1 h), fun h => by
        rw [htk]; exact cntE_good _ _ (by
          cases hh : inCnt x with
          | true => rfl
          | false => exact absurd ((intL_nil x).2 hh) h)⟩
      have hol : (o ++ cntS (l.take k)).length ≤ 20072 := by
        have := cntS_len (l.take k)
        rw [List.length_take] at this
        rw [List.length_append]; omega
      have HLT := Lib.hid hlt
      have hdc : decide (k < l.length) = true := decide_eq_true hlt
      clear hx htk hbk hon
      generalize intL x = y at *
      obtain ⟨oo, hoo⟩ : ∃ z, z = o ++ cntS (l.take k) := ⟨_, rfl⟩
      obtain ⟨ee, hee⟩ : ∃ z, z = cntE er (l.take k) := ⟨_, rfl⟩
      rw [← hoo, ← hee] at HBK
      rw [← hoo] at hol
      rw [← hee] at HTE
      have HOO := Lib.hid hoo
      clear hoo hee
      by_cases hy : y = []
      · have HY := Lib.hid hy
        have HTF := Lib.hid (HTE.out.1 hy)
        have hyy : (y == []) = true := by rw [hy]; rfl
        clear hy HTE
        go_wp2_with fail
        refine (HI.out _).mono ?_
        rintro e w1 ⟨rfl, hb1⟩
        have hk1 := HBK.out.below hb1 HBK.out.lt
        have c0 := hk1.at_ (i := 0) rfl
        have c1 := hk1.at_ (i := 1) rfl
        have z0 := hk1.fr 0
        have z1 := hk1.fr 1
        have HK1 := Lib.hid hk1
        have HB1 := Lib.hid hb1
        have k1 : oo.length + y.length ≤ 9223372036854775807 := by omega
        clear hk1 hb1 hcx
        go_wp2_with fail
        rw [ByteArray.mk_append_mk]
        obtain ⟨w2, hw2⟩ : ∃ z, z = (w1.setCell ⟨b, 1, none⟩ (.int .i64 1)).setCell ⟨b, 0, none⟩ (str (oo ++ y)) := ⟨_, rfl⟩
        rw [← hw2]
        have hk2 : Blk w2 b 79 #[str (oo ++ y), .int .i64 1] := by
          rw [hw2]
          exact (HK1.out.put 1 (.int .i64 1)).put 0 (str (oo ++ y))
        have ho2 : Only (fun i => i = b) w w2 := by rw [hw2]; exact ((HON.out.then_below HB1.out).set (.inl rfl) _).set (.inl rfl) _
        go_roundw
        case rel => exact ⟨k + 1, HLT.out, by go_num, by rw [HTK.out, HTF.out, ← List.append_assoc, ← HOO.out]; exact hk2, ho2⟩
        case measure => have := HLT.out; simp [RowKit.intOf]; omega
      · have HTF := Lib.hid (HTE.out.2 hy)
        have hyy : (y == []) = false := beq_eq_false_iff_ne.2 hy
        clear hy HTE
        go_wp2_with fail
        refine (HI.out _).mono ?_
        rintro e w1 ⟨rfl, hb1⟩
        have hk1 := HBK.out.below hb1 HBK.out.lt
        have c0 := hk1.at_ (i := 0) rfl
        have z0 := hk1.fr 0
        have HK1 := Lib.hid hk1
        have HB1 := Lib.hid hb1
        have k1 : oo.length + y.length ≤ 9223372036854775807 := by omega
        clear hk1 hb1 hcx
        go_wp2_with fail
        rw [ByteArray.mk_append_mk]
        obtain ⟨w2, hw2⟩ : ∃ z, z = w1.setCell ⟨b, 0, none⟩ (str (oo ++ y)) := ⟨_, rfl⟩
        rw [← hw2]
        have hk2 : Blk w2 b 79 #[str (oo ++ y), .int .i64 ee] := by
          rw [hw2]
          exact HK1.out.put 0 (str (oo ++ y))
        have ho2 : Only (fun i => i = b) w w2 := by rw [hw2]; exact (HON.out.then_below HB1.out).set (.inl rfl) _
        go_roundw
        case rel => exact ⟨k + 1, HLT.out, by go_num, by rw [HTK.out, HTF.out, ← List.append_assoc, ← HOO.out]; exact hk2, ho2⟩
        case measure => have := HLT.out; simp [RowKit.intOf]; omega
    · obtain rfl : k = l.length := by omega
      have hdc : decide ((l.length : Int) < l.length) = false := decide_eq_false (by omega)
      go_wp2_with fail
      go_end0
      exact ⟨rfl, by rw [List.take_length] at HBK; exact HBK.out, HON.out⟩

def wnE (er n : Int) (p : PtrD) : Int := if nodeOk n p then er else 1
theorem padL_le (l : List UInt8) (tt : Int) (h : 1 ≤ tt) : (padL l tt).length ≤ l.length + tt.toNat := by
  unfold padL; split
  · rw [List.length_append, List.length_replicate]
    have := padN_lt (len := l.length) (t := tt.toNat) (by omega)
    omega
  · omega
theorem nbS_len (n : Int) (p : PtrD) : (nbS n p).length ≤ 270 := by
  unfold nbS; split
  · unfold nodeL
    have h1 := padL_le (layL n.toNat 8 ++ (layL 1 8 ++ ptrL p)) 128 (by omega)
    have h2 : (ptrL p).length ≤ 120 := by
      unfold ptrL
      have h3 := padL_le (smallL [p.ag, p.aa, p.bg, p.ba, ptrOne p, p.birth] ++ sumL [p.s0, p.s1, p.s2, p.s3]) 64 (by omega)
      have h4 := smallL_len [p.ag, p.aa, p.bg, p.ba, ptrOne p, p.birth]
      have h5 := sumL_len [p.s0, p.s1, p.s2, p.s3]
      simp only [List.length_append, List.length_cons, List.length_nil] at *
      omega
    simp only [List.length_append, layL_len] at *
    omega
  · simp
theorem wnode2_any {w : World} {b : Nat} {o : List UInt8} {er n : Int} {p : PtrD} (op : p.Ok) (hb : Blk w b 79 #[str o, .int .i64 er]) (ho : o.length ≤ 20000) :
    Calls Tryz.prog 24 #[.pointer (some ⟨b, 0, none⟩), .agg #[.int .i64 n, .int .i64 p.ag, .int .i64 p.aa, .int .i64 p.bg, .int .i64 p.ba, .bool p.two, .int .i64 p.size, .int .i64 p.level, .int .i64 p.birth, .int .u64 p.s0, .int .u64 p.s1, .int .u64 p.s2, .int .u64 p.s3]] w fun e w' => e = .returned (.tuple #[]) ∧ Blk w' b 79 #[str (o ++ nbS n p), .int .i64 (wnE er n p)] ∧ Only (fun i => i = b) w w' := by
  have HB := Lib.hid hb
  have HN : Hid (∀ W, Calls Tryz.prog 44 #[.agg #[.int .i64 n, .int .i64 p.ag, .int .i64 p.aa, .int .i64 p.bg, .int .i64 p.ba, .bool p.two, .int .i64 p.size, .int .i64 p.level, .int .i64 p.birth, .int .u64 p.s0, .int .u64 p.s1, .int .u64 p.s2, .int .u64 p.s3]] W fun e w' => e = .returned (.tuple #[str (nbS n p), .int .i64 (nbE n p)]) ∧ Below W.heap.size W w') := Lib.hid fun W => nbytes_any n p W op
  have hz := nbS_len n p
  have hzz : (nbE n p = 0 ∧ wnE er n p = er) ∨ (nbE n p = 1 ∧ wnE er n p = 1) := by unfold nbE wnE; split <;> simp
  clear hb
  generalize nbS n p = z at *
  generalize nbE n p = ze at *
  generalize wnE er n p = zw at *
  obtain ⟨w1, hw1⟩ : ∃ x, w.alloc (.cells #[.int .i64 n, .int .i64 p.ag, .int .i64 p.aa, .int .i64 p.bg, .int .i64 p.ba, .bool p.two, .int .i64 p.size, .int .i64 p.level, .int .i64 p.birth, .int .u64 p.s0, .int .u64 p.s1, .int .u64 p.s2, .int .u64 p.s3] 33) = x := ⟨_, rfl⟩
  have N1 : Blk w1 w.heap.size 33 #[.int .i64 n, .int .i64 p.ag, .int .i64 p.aa, .int .i64 p.bg, .int .i64 p.ba, .bool p.two, .int .i64 p.size, .int .i64 p.level, .int .i64 p.birth, .int .u64 p.s0, .int .u64 p.s1, .int .u64 p.s2, .int .u64 p.s3] := by rw [← hw1]; exact Blk.new _ _ _
  have B1 : Blk w1 b 79 #[str o, .int .i64 er] := by rw [← hw1]; exact HB.out.alloc _
  have D1 : Hid (Only (fun i => i = b) w w1) := Lib.hid (by rw [← hw1]; exact (Only.refl _ _).alloc _)
  have s1 : w.heap.size < w1.heap.size := N1.lt
  have c0 := N1.at_ (i := 0) rfl
  have c1 := N1.at_ (i := 1) rfl
  have c2 := N1.at_ (i := 2) rfl
  have c3 := N1.at_ (i := 3) rfl
  have c4 := N1.at_ (i := 4) rfl
  have c5 := N1.at_ (i := 5) rfl
  have c6 := N1.at_ (i := 6) rfl
  have c7 := N1.at_ (i := 7) rfl
  have c8 := N1.at_ (i := 8) rfl
  have c9 := N1.at_ (i := 9) rfl
  have c10 := N1.at_ (i := 10) rfl
  have c11 := N1.at_ (i := 11) rfl
  have c12 := N1.at_ (i := 12) rfl
  have HB1 := Lib.hid B1
  clear N1 B1 s1
  rcases hzz with ⟨rfl, rfl⟩ | ⟨rfl, rfl⟩
  · go_enter Tryz.func24, Tryz.ntmps24
    go_wp2_with fail
    refine (HN.out _).mono ?_
    rintro e w2 ⟨rfl, hb2⟩
    have hk2 := HB1.out.below hb2 HB1.out.lt
    have q0 := hk2.at_ (i := 0) rfl
    have z0 := hk2.fr 0
    have HK2 := Lib.hid hk2
    have HD2 := Lib.hid (D1.out.then_below hb2)
    have k1 : o.length + z.length ≤ 9223372036854775807 := by omega
    clear hk2 hb2 c0 c1 c2 c3 c4 c5 c6 c7 c8 c9 c10 c11 c12
    go_wp2_with fail
    rw [ByteArray.mk_append_mk]
    go_end0
    refine ⟨rfl, ?_, HD2.out.set (.inl rfl) _⟩
    have := HK2.out.put 0 (.string ⟨o.toArray ++ z.toArray⟩)
    simpa [str] using this
  · go_enter Tryz.func24, Tryz.ntmps24
    go_wp2_with fail
    refine (HN.out _).mono ?_
    rintro e w2 ⟨rfl, hb2⟩
    have hk2 := HB1.out.below hb2 HB1.out.lt
    have q0 := hk2.at_ (i := 0) rfl
    have q1 := hk2.at_ (i := 1) rfl
    have z0 := hk2.fr 0
    have z1 := hk2.fr 1
    have HK2 := Lib.hid hk2
    have HD2 := Lib.hid (D1.out.then_below hb2)
    have k1 : o.length + z.length ≤ 9223372036854775807 := by omega
    clear hk2 hb2 c0 c1 c2 c3 c4 c5 c6 c7 c8 c9 c10 c11 c12
    go_wp2_with fail
    rw [ByteArray.mk_append_mk]
    go_end0
    refine ⟨rfl, ?_, (HD2.out.set (.inl rfl) _).set (.inl rfl) _⟩
    have := (HK2.out.put 1 (.int .i64 1)).put 0 (.string ⟨o.toArray ++ z.toArray⟩)
    simpa [str] using this
end Go.Proofs.YtidmbibpoldgcaaGreatDoor

namespace Go.Proofs.YtidmbibpoldgcaaGreatDoor
set_option linter.unusedVariables false
set_option linter.unusedSimpArgs false
open Go.RowKit

def erV (b : Bool) : Int := if b then 0 else 1
theorem erV_cnt (b : Bool) (l : List Int) : cntE (erV b) l = erV (b && l.all inCnt) := by
  unfold cntE erV; cases b <;> cases l.all inCnt <;> rfl
theorem erV_node (b : Bool) (n : Int) (p : PtrD) : wnE (erV b) n p = erV (b && nodeOk n p) := by
  unfold wnE erV; cases b <;> cases nodeOk n p <;> rfl
def scanI (z : ScanA) : List Int := [z.x0, z.x1, z.x2, z.x3, z.x4, z.x5, z.x6, z.x7, z.x8]
def snB (x : SnapA) : List UInt8 := cntS [x.id, x.txg] ++ nbS x.n x.p
def snOk (x : SnapA) : Bool := [x.id, x.txg].all inCnt && nodeOk x.n x.p
def snsB (l : List SnapA) : List UInt8 := l.flatMap snB
def stB (l : List (Int × Int)) : List UInt8 := l.flatMap fun r => cntS [r.1, r.2]
def stOk (r : Int × Int) : Bool := [r.1, r.2].all inCnt
def mB (s : StA) : List UInt8 := ((((nbS s.n s.p ++ cntS [(s.snaps.length : Int)]) ++ snsB s.snaps) ++ cntS (scanI s.z)) ++ cntS [(s.stale.length : Int)]) ++ stB s.stale
def mOk (s : StA) : Bool := nodeOk s.n s.p && s.snaps.all snOk && (scanI s.z).all inCnt && s.stale.all stOk
def mbS (s : StA) : List UInt8 := if mOk s then mB s else []
def mbE (s : StA) : Int := erV (mOk s)
theorem inCnt_nat {n : Nat} (h : n ≤ 60) : [(n : Int)].all inCnt = true := by
  simp only [List.all_cons, List.all_nil, Bool.and_true]
  exact decide_eq_true (by omega)
theorem snB_len (x : SnapA) : (snB x).length ≤ 286 := by
  have := cntS_len [x.id, x.txg]
  have := nbS_len x.n x.p
  simp only [List.length_cons, List.length_nil] at *
  unfold snB; rw [List.length_append]; omega
theorem flat_le {α β : Type} (f : α → List β) (k : Nat) (hf : ∀ x, (f x).length ≤ k) : ∀ l : List α, (l.flatMap f).length ≤ l.length * k
  | [] => Nat.zero_le _
  | x :: l => by
    have := flat_le f k hf l
    have := hf x
    rw [List.flatMap_cons, List.length_append, List.length_cons, Nat.add_mul]; omega
theorem snsB_len (l : List SnapA) : (snsB l).length ≤ l.length * 286 := flat_le snB 286 snB_len l
theorem stB_len (l : List (Int × Int)) : (stB l).length ≤ l.length * 16 := flat_le _ 16 (fun r => by have := cntS_len [r.1, r.2]; simpa using this) l
theorem snsB_snoc (l : List SnapA) (x : SnapA) : snsB (l ++ [x]) = (snsB l ++ cntS [x.id, x.txg]) ++ nbS x.n x.p := by simp [snsB, snB]
theorem stB_snoc (l : List (Int × Int)) (r : Int × Int) : stB (l ++ [r]) = stB l ++ cntS [r.1, r.2] := by simp [stB]

theorem numbers2_any (z : ScanA) (w : World) : Calls Tryz.prog 19 #[.agg #[.int .i64 z.x0, .int .i64 z.x1, .int .i64 z.x2, .int .i64 z.x3, .int .i64 z.x4, .int .i64 z.x5, .int .i64 z.x6, .int .i64 z.x7, .int .i64 z.x8]] w fun e w' => ∃ g, e = .returned (.slice (some ⟨g, 0, none⟩) 9 9) ∧ Blk w' g 3 #[.int .i64 z.x0, .int .i64 z.x1, .int .i64 z.x2, .int .i64 z.x3, .int .i64 z.x4, .int .i64 z.x5, .int .i64 z.x6, .int .i64 z.x7, .int .i64 z.x8] ∧ w.heap.size ≤ g ∧ Below w.heap.size w w' := by
  obtain ⟨w1, hw1⟩ : ∃ x, w.alloc (.cells #[.int .i64 z.x0, .int .i64 z.x1, .int .i64 z.x2, .int .i64 z.x3, .int .i64 z.x4, .int .i64 z.x5, .int .i64 z.x6, .int .i64 z.x7, .int .i64 z.x8] 45) = x := ⟨_, rfl⟩
  have N1 : Blk w1 w.heap.size 45 #[.int .i64 z.x0, .int .i64 z.x1, .int .i64 z.x2, .int .i64 z.x3, .int .i64 z.x4, .int .i64 z.x5, .int .i64 z.x6, .int .i64 z.x7, .int .i64 z.x8] := by rw [← hw1]; exact Blk.new _ _ _
  have D1 : Hid (Below w.heap.size w w1) := Lib.hid (by rw [← hw1]; exact keep_alloc (Below.refl _ _) _)
  have c0 := N1.at_ (i := 0) rfl
  have c1 := N1.at_ (i := 1) rfl
  have c2 := N1.at_ (i := 2) rfl
  have c3 := N1.at_ (i := 3) rfl
  have c4 := N1.at_ (i := 4) rfl
  have c5 := N1.at_ (i := 5) rfl
  have c6 := N1.at_ (i := 6) rfl
  have c7 := N1.at_ (i := 7) rfl
  have c8 := N1.at_ (i := 8) rfl
  have hlt : w.heap.size < w1.heap.size := N1.lt
  have HLT := Lib.hid hlt
  clear N1 hlt
  go_enter Tryz.func19, Tryz.ntmps19
  go_wp2_with fail
  go_ret
  exact ⟨_, rfl, Blk.new _ _ _, by have := HLT.out; omega, keep_alloc D1.out _⟩
theorem nine_z (z : ScanA) : ∀ (i : Nat) (x : Int), (scanI z)[i]? = some x → (#[.int .i64 z.x0, .int .i64 z.x1, .int .i64 z.x2, .int .i64 z.x3, .int .i64 z.x4, .int .i64 z.x5, .int .i64 z.x6, .int .i64 z.x7, .int .i64 z.x8] : Array Value)[i]? = some (.int .i64 x)
  | 0, _, h | 1, _, h | 2, _, h | 3, _, h | 4, _, h | 5, _, h | 6, _, h | 7, _, h | 8, _, h => by simp [scanI] at h; subst h; rfl
  | n + 9, _, h => by simp [scanI] at h

set_option maxRecDepth 20000 in
set_option maxHeartbeats 4000000 in
theorem mbytes_any (s : StA) (sv tv : Value) (w : World) (h : StIn w s sv tv) (f1 : s.snaps.length ≤ 30) (f2 : s.stale.length ≤ 60) (op : s.p.Ok) (ops : ∀ x ∈ s.snaps, x.p.Ok) :
    Calls Tryz.prog 9 #[.agg (stC s sv tv)] w fun e w' => e = .returned (.tuple #[str (mbS s), .int .i64 (mbE s)]) ∧ Below w.heap.size w w' := by
  obtain ⟨A1, cc1, rfl⟩ := h.snaps.form
  obtain ⟨A2, cc2, rfl⟩ := h.stale.form
  have H := Lib.hid h
  have HOP := Lib.hid op
  have HOPS := Lib.hid ops
  clear h op ops
  obtain ⟨cA, hcA⟩ : ∃ x, x = stC s (.slice A1 s.snaps.length cc1) (.slice A2 s.stale.length cc2) := ⟨_, rfl⟩
  rw [← hcA]
  obtain ⟨w2, hw2⟩ : ∃ x, (w.alloc (.cells cA 48)).alloc (.cells #[.string ⟨#[]⟩, .int .i64 0] 79) = x := ⟨_, rfl⟩
  have B2 : Blk w2 w.heap.size 48 cA := by rw [← hw2]; exact (Blk.new _ _ _).alloc _
  have W2 : Blk w2 (w.heap.size + 1) 79 #[str [], .int .i64 (erV true)] := by rw [← hw2]; exact Blk.new2 w _ _ _
  have d2 : Below w.heap.size w w2 := by rw [← hw2]; exact keep_alloc (keep_alloc (Below.refl _ _) _) _
  have b2 : ∀ i v, cA[i]? = some v → w2.cell? ⟨w.heap.size, i, none⟩ = some v := fun i v hv => B2.at_ hv
  rw [hcA] at b2
  have c0 : w2.cell? ⟨w.heap.size, 0, none⟩ = some (.int .i64 s.n) := b2 0 _ rfl
  have c1 : w2.cell? ⟨w.heap.size, 1, none⟩ = some (.int .i64 s.p.ag) := b2 1 _ rfl
  have c2 : w2.cell? ⟨w.heap.size, 2, none⟩ = some (.int .i64 s.p.aa) := b2 2 _ rfl
  have c3 : w2.cell? ⟨w.heap.size, 3, none⟩ = some (.int .i64 s.p.bg) := b2 3 _ rfl
  have c4 : w2.cell? ⟨w.heap.size, 4, none⟩ = some (.int .i64 s.p.ba) := b2 4 _ rfl
  have c5 : w2.cell? ⟨w.heap.size, 5, none⟩ = some (.bool s.p.two) := b2 5 _ rfl
  have c6 : w2.cell? ⟨w.heap.size, 6, none⟩ = some (.int .i64 s.p.size) := b2 6 _ rfl
  have c7 : w2.cell? ⟨w.heap.size, 7, none⟩ = some (.int .i64 s.p.level) := b2 7 _ rfl
  have c8 : w2.cell? ⟨w.heap.size, 8, none⟩ = some (.int .i64 s.p.birth) := b2 8 _ rfl
  have c9 : w2.cell? ⟨w.heap.size, 9, none⟩ = some (.int .u64 s.p.s0) := b2 9 _ rfl
  have c10 : w2.cell? ⟨w.heap.size, 10, none⟩ = some (.int .u64 s.p.s1) := b2 10 _ rfl
  have c11 : w2.cell? ⟨w.heap.size, 11, none⟩ = some (.int .u64 s.p.s2) := b2 11 _ rfl
  have c12 : w2.cell? ⟨w.heap.size, 12, none⟩ = some (.int .u64 s.p.s3) := b2 12 _ rfl
  have HA2 : Hid (Blk w2 w.heap.size 48 (stC s (.slice A1 s.snaps.length cc1) (.slice A2 s.stale.length cc2))) := Lib.hid (by rw [← hcA]; exact B2)
  have HW2 := Lib.hid W2
  have HD2 := Lib.hid d2
  clear hcA B2 W2 d2 b2
  go_enter Tryz.func9, Tryz.ntmps9
  go_wp2_with fail
  refine (wnode2_any HOP.out HW2.out (by simp)).mono ?_
  rintro e w3 ⟨rfl, hw3, ho3⟩
  rw [erV_node] at hw3
  have hne0 : w.heap.size ≠ w.heap.size + 1 := by omega
  have HNE := Lib.hid hne0
  have HA3 := Lib.hid (only_blk HA2.out ho3 hne0)
  have HW3 := Lib.hid hw3
  have HD3 : Hid (Below w.heap.size w w3) := Lib.hid (HD2.out.trans (ho3.below HD2.out.size (fun i hi => by omega)))
  have e13 : w3.cell? ⟨w.heap.size, 13, none⟩ = some (.slice A1 s.snaps.length cc1) := HA3.out.at_ rfl
  clear hw3 ho3 hne0 c0 c1 c2 c3 c4 c5 c6 c7 c8 c9 c10 c11 c12
  go_wp2_with fail
  have ha1 : [(s.snaps.length : Int)].all inCnt = true := inCnt_nat (by omega)
  have HA1 := Lib.hid ha1
  have HNL := Lib.hid (nbS_len s.n s.p)
  clear ha1
  refine (wcounts_any (l := [(s.snaps.length : Int)]) (HW3.out.alloc _) (by simp) (by have := HNL.out; simp; omega) (by simp) (by have := HW3.out.lt; omega) (row1 w3 _ _)).mono ?_
  rintro e w4 ⟨rfl, hw4, ho4⟩
  rw [erV_cnt, HA1.out, Bool.true_and, Bool.and_true] at hw4
  have ho4 := ((Only.refl (fun i => i = w.heap.size + 1) w3).alloc _).trans ho4 (fun i hi => .inl hi)
  have HA4 := Lib.hid (only_blk HA3.out ho4 HNE.out)
  obtain ⟨T4, hT4⟩ : ∃ T : List UInt8, T = ([] ++ nbS s.n s.p) ++ cntS [(s.snaps.length : Int)] := ⟨_, rfl⟩
  obtain ⟨k4, hk4⟩ : ∃ k : Bool, k = nodeOk s.n s.p := ⟨_, rfl⟩
  rw [← hT4, ← hk4] at hw4
  have HL4 : Hid (T4.length ≤ 278) := Lib.hid (by
    have := cntS_len [(s.snaps.length : Int)]
    have := HNL.out
    rw [hT4]; simp only [List.length_append, List.length_nil, List.length_cons] at *; omega)
  have HT4 := Lib.hid (And.intro hT4 hk4)
  have HW4 := Lib.hid hw4
  have HD4 : Hid (Below w.heap.size w w4) := Lib.hid (HD3.out.trans (ho4.below HD3.out.size (fun i hi => by omega)))
  have e13 : w4.cell? ⟨w.heap.size, 13, none⟩ = some (.slice A1 s.snaps.length cc1) := HA4.out.at_ rfl
  have h0 : snsB (s.snaps.take 0) = [] := rfl
  have h1 : (s.snaps.take 0).all snOk = true := rfl
  clear hw4 ho4 hT4 hk4
  go_wp2_with fail
  go_loopw [6, 24] (fun _ t wr => ∃ k : Nat, k ≤ s.snaps.length ∧ t = .int .i64 k ∧ Below w.heap.size w wr ∧ Blk wr w.heap.size 48 (stC s (.slice A1 s.snaps.length cc1) (.slice A2 s.stale.length cc2)) ∧ Blk wr (w.heap.size + 1) 79 #[str (T4 ++ snsB (s.snaps.take k)), .int .i64 (erV (k4 && (s.snaps.take k).all snOk))]) (fun _ t _ => s.snaps.length - (RowKit.intOf t).toNat)
  case atStart => exact ⟨0, Nat.zero_le _, rfl, HD4.out, HA4.out, by rw [h0, h1, List.append_nil, Bool.and_true]; exact HW4.out⟩
  case round =>
    obtain ⟨k, hk, rfl, hd, ha, hw⟩ := hrel
    have HD := Lib.hid hd
    have HA := Lib.hid ha
    have HW := Lib.hid hw
    clear hd ha hw h0 h1 HA4 HW4 HD4 e13
    by_cases hlt : k < s.snaps.length
    · obtain ⟨b, o, rfl, hbl, hcell⟩ := H.out.snaps.cells (by omega)
      obtain ⟨x, hx⟩ : ∃ x, s.snaps[k]? = some x := ⟨_, List.getElem?_eq_getElem hlt⟩
      have hsn : ∀ j u, j < 15 → (snapL x)[j]? = some u → wr.cell? ⟨b, o + k * 15 + j, none⟩ = some u := fun j u hj hu => by
        rw [Nat.add_assoc]
        exact (World.cell?_of_block (HD.out.block b hbl)).trans <| hcell _ _ ((flat_at snapL 15 (fun _ => rfl) s.snaps k x hx j hj).trans hu)
      have hdc : decide (k < s.snaps.length) = true := decide_eq_true hlt
      have HLT := Lib.hid hlt
      have HX := Lib.hid hx
      have q0 : wr.cell? ⟨b, o + k * 15, none⟩ = some (.int .i64 x.id) := hsn 0 _ (by omega) rfl
      have q1 : wr.cell? ⟨b, o + k * 15 + 1, none⟩ = some (.int .i64 x.txg) := hsn 1 _ (by omega) rfl
      have q2 : wr.cell? ⟨b, o + k * 15 + 2, none⟩ = some (.int .i64 x.n) := hsn 2 _ (by omega) rfl
      have q3 : wr.cell? ⟨b, o + k * 15 + 3, none⟩ = some (.int .i64 x.p.ag) := hsn 3 _ (by omega) rfl
      have q4 : wr.cell? ⟨b, o + k * 15 + 4, none⟩ = some (.int .i64 x.p.aa) := hsn 4 _ (by omega) rfl
      have q5 : wr.cell? ⟨b, o + k * 15 + 5, none⟩ = some (.int .i64 x.p.bg) := hsn 5 _ (by omega) rfl
      have q6 : wr.cell? ⟨b, o + k * 15 + 6, none⟩ = some (.int .i64 x.p.ba) := hsn 6 _ (by omega) rfl
      have q7 : wr.cell? ⟨b, o + k * 15 + 7, none⟩ = some (.bool x.p.two) := hsn 7 _ (by omega) rfl
      have q8 : wr.cell? ⟨b, o + k * 15 + 8, none⟩ = some (.int .i64 x.p.size) := hsn 8 _ (by omega) rfl
      have q9 : wr.cell? ⟨b, o + k * 15 + 9, none⟩ = some (.int .i64 x.p.level) := hsn 9 _ (by omega) rfl
      have q10 : wr.cell? ⟨b, o + k * 15 + 10, none⟩ = some (.int .i64 x.p.birth) := hsn 10 _ (by omega) rfl
      have q11 : wr.cell? ⟨b, o + k * 15 + 11, none⟩ = some (.int .u64 x.p.s0) := hsn 11 _ (by omega) rfl
      have q12 : wr.cell? ⟨b, o + k * 15 + 12, none⟩ = some (.int .u64 x.p.s1) := hsn 12 _ (by omega) rfl
      have q13 : wr.cell? ⟨b, o + k * 15 + 13, none⟩ = some (.int .u64 x.p.s2) := hsn 13 _ (by omega) rfl
      have q14 : wr.cell? ⟨b, o + k * 15 + 14, none⟩ = some (.int .u64 x.p.s3) := hsn 14 _ (by omega) rfl
      have htk : s.snaps.take (k + 1) = s.snaps.take k ++ [x] := by rw [List.take_add_one, hx]; rfl
      have HTK : Hid (snsB (s.snaps.take (k + 1)) = (snsB (s.snaps.take k) ++ cntS [x.id, x.txg]) ++ nbS x.n x.p) := Lib.hid (by rw [htk, snsB_snoc])
      have HTO : Hid ((s.snaps.take (k + 1)).all snOk = ((s.snaps.take k).all snOk && ([x.id, x.txg].all inCnt && nodeOk x.n x.p))) := Lib.hid (by rw [htk, List.all_append]; simp only [List.all_cons, List.all_nil, Bool.and_true, snOk])
      have HSL : Hid ((snsB (s.snaps.take k)).length ≤ 8580) := Lib.hid (by have := snsB_len (s.snaps.take k); rw [List.length_take] at this; omega)
      have HCL := Lib.hid (cntS_len [x.id, x.txg])
      clear hcell hx hsn htk
      go_wp2_with fail
      have hrow := row2 (wr.alloc (.cells #[.int .i64 x.id, .int .i64 x.txg, .int .i64 x.n, .int .i64 x.p.ag, .int .i64 x.p.aa, .int .i64 x.p.bg, .int .i64 x.p.ba, .bool x.p.two, .int .i64 x.p.size, .int .i64 x.p.level, .int .i64 x.p.birth, .int .u64 x.p.s0, .int .u64 x.p.s1, .int .u64 x.p.s2, .int .u64 x.p.s3] 75)) x.id x.txg 3
      rw [World.size_alloc] at hrow
      refine (wcounts_any (l := [x.id, x.txg]) (g := wr.heap.size + 1) ((HW.out.alloc _).alloc _) (by simp) (by have := HSL.out; have := HL4.out; rw [List.length_append]; omega) (by simp) (by have := HW.out.lt; omega) hrow).mono ?_
      rintro e w5 ⟨rfl, hw5, ho5⟩
      rw [erV_cnt] at hw5
      have HX5 : Hid (Blk w5 wr.heap.size 75 #[.int .i64 x.id, .int .i64 x.txg, .int .i64 x.n, .int .i64 x.p.ag, .int .i64 x.p.aa, .int .i64 x.p.bg, .int .i64 x.p.ba, .bool x.p.two, .int .i64 x.p.size, .int .i64 x.p.level, .int .i64 x.p.birth, .int .u64 x.p.s0, .int .u64 x.p.s1, .int .u64 x.p.s2, .int .u64 x.p.s3]) := Lib.hid (only_blk ((Blk.new wr _ _).alloc _) ho5 (by have := HW.out.lt; omega))
      have ho5 := (((Only.refl (fun i => i = w.heap.size + 1) wr).alloc _).alloc _).trans ho5 (fun i hi => .inl hi)
      have HA5 := Lib.hid (only_blk HA.out ho5 HNE.out)
      have HW5 := Lib.hid hw5
      have HD5 : Hid (Below w.heap.size w w5) := Lib.hid (HD.out.trans (ho5.below HD.out.size (fun i hi => by omega)))
      have r2 : w5.cell? ⟨wr.heap.size, 2, none⟩ = some (.int .i64 x.n) := HX5.out.at_ rfl
      have r3 : w5.cell? ⟨wr.heap.size, 3, none⟩ = some (.int .i64 x.p.ag) := HX5.out.at_ rfl
      have r4 : w5.cell? ⟨wr.heap.size, 4, none⟩ = some (.int .i64 x.p.aa) := HX5.out.at_ rfl
      have r5 : w5.cell? ⟨wr.heap.size, 5, none⟩ = some (.int .i64 x.p.bg) := HX5.out.at_ rfl
      have r6 : w5.cell? ⟨wr.heap.size, 6, none⟩ = some (.int .i64 x.p.ba) := HX5.out.at_ rfl
      have r7 : w5.cell? ⟨wr.heap.size, 7, none⟩ = some (.bool x.p.two) := HX5.out.at_ rfl
      have r8 : w5.cell? ⟨wr.heap.size, 8, none⟩ = some (.int .i64 x.p.size) := HX5.out.at_ rfl
      have r9 : w5.cell? ⟨wr.heap.size, 9, none⟩ = some (.int .i64 x.p.level) := HX5.out.at_ rfl
      have r10 : w5.cell? ⟨wr.heap.size, 10, none⟩ = some (.int .i64 x.p.birth) := HX5.out.at_ rfl
      have r11 : w5.cell? ⟨wr.heap.size, 11, none⟩ = some (.int .u64 x.p.s0) := HX5.out.at_ rfl
      have r12 : w5.cell? ⟨wr.heap.size, 12, none⟩ = some (.int .u64 x.p.s1) := HX5.out.at_ rfl
      have r13 : w5.cell? ⟨wr.heap.size, 13, none⟩ = some (.int .u64 x.p.s2) := HX5.out.at_ rfl
      have r14 : w5.cell? ⟨wr.heap.size, 14, none⟩ = some (.int .u64 x.p.s3) := HX5.out.at_ rfl
      clear hw5 ho5 hrow q0 q1 q2 q3 q4 q5 q6 q7 q8 q9 q10 q11 q12 q13 q14
      go_wp2_with fail
      refine (wnode2_any (HOPS.out x (List.mem_of_getElem? HX.out)) HW5.out (by have := HSL.out; have := HL4.out; have := HCL.out; simp only [List.length_append, List.length_cons, List.length_nil] at *; omega)).mono ?_
      rintro e w6 ⟨rfl, hw6, ho6⟩
      rw [erV_node] at hw6
      have HA6 := Lib.hid (only_blk HA5.out ho6 HNE.out)
      have HW6 := Lib.hid hw6
      have HD6 : Hid (Below w.heap.size w w6) := Lib.hid (HD5.out.trans (ho6.below HD5.out.size (fun i hi => by omega)))
      clear hw6 ho6 r2 r3 r4 r5 r6 r7 r8 r9 r10 r11 r12 r13 r14
      go_wp2_with fail
      go_roundw
      case rel => exact ⟨k + 1, HLT.out, by go_num, HD6.out, HA6.out, by
        have h := HW6.out
        rw [HTK.out, HTO.out]
        rw [List.append_assoc, List.append_assoc, Bool.and_assoc, Bool.and_assoc] at h
        rw [List.append_assoc]; exact h⟩
      case measure => have := HLT.out; simp [RowKit.intOf]; omega
    · obtain rfl : k = s.snaps.length := by omega
      have hdc : decide ((s.snaps.length : Int) < s.snaps.length) = false := decide_eq_false (by omega)
      have e14 : wr.cell? ⟨w.heap.size, 14, none⟩ = some (.int .i64 s.z.x0) := HA.out.at_ rfl
      have e15 : wr.cell? ⟨w.heap.size, 15, none⟩ = some (.int .i64 s.z.x1) := HA.out.at_ rfl
      have e16 : wr.cell? ⟨w.heap.size, 16, none⟩ = some (.int .i64 s.z.x2) := HA.out.at_ rfl
      have e17 : wr.cell? ⟨w.heap.size, 17, none⟩ = some (.int .i64 s.z.x3) := HA.out.at_ rfl
      have e18 : wr.cell? ⟨w.heap.size, 18, none⟩ = some (.int .i64 s.z.x4) := HA.out.at_ rfl
      have e19 : wr.cell? ⟨w.heap.size, 19, none⟩ = some (.int .i64 s.z.x5) := HA.out.at_ rfl
      have e20 : wr.cell? ⟨w.heap.size, 20, none⟩ = some (.int .i64 s.z.x6) := HA.out.at_ rfl
      have e21 : wr.cell? ⟨w.heap.size, 21, none⟩ = some (.int .i64 s.z.x7) := HA.out.at_ rfl
      have e22 : wr.cell? ⟨w.heap.size, 22, none⟩ = some (.int .i64 s.z.x8) := HA.out.at_ rfl
      rw [List.take_length] at HW
      obtain ⟨T5, hT5⟩ : ∃ T : List UInt8, T = T4 ++ snsB s.snaps := ⟨_, rfl⟩
      obtain ⟨k5, hk5⟩ : ∃ k : Bool, k = (k4 && s.snaps.all snOk) := ⟨_, rfl⟩
      rw [← hT5, ← hk5] at HW
      have HL5 : Hid (T5.length ≤ 8858) := Lib.hid (by
        have := snsB_len s.snaps
        have := HL4.out
        rw [hT5, List.length_append]; omega)
      have HT5 := Lib.hid (And.intro hT5 hk5)
      clear hT5 hk5
      go_wp2_with fail
      refine (numbers2_any s.z wr).mono ?_
      rintro e w5 ⟨gn, rfl, hgn, hgn4, hb5⟩
      have HA5 := Lib.hid (HA.out.below hb5 HA.out.lt)
      have HW5 := Lib.hid (HW.out.below hb5 HW.out.lt)
      have HD5 := Lib.hid (keep_below hb5 HD.out)
      have HGN := Lib.hid hgn
      have HGN4 := Lib.hid hgn4
      have HN9 : Hid ((scanI s.z).length = 9) := Lib.hid rfl
      clear hgn hb5 hgn4 e14 e15 e16 e17 e18 e19 e20 e21 e22
      go_wp2_with fail
      refine (wcounts_any (l := scanI s.z) HW5.out (by rw [HN9.out]; omega) (by have := HL5.out; omega) HGN.out.lt (by have := HGN4.out; have := HW.out.lt; omega) (fun i x hx => HGN.out.at_ (nine_z s.z i x hx))).mono ?_
      rintro e w6 ⟨rfl, hw6, ho6⟩
      rw [erV_cnt] at hw6
      have HA6 := Lib.hid (only_blk HA5.out ho6 HNE.out)
      have HD6 : Hid (Below w.heap.size w w6) := Lib.hid (HD5.out.trans (ho6.below HD5.out.size (fun i hi => by omega)))
      obtain ⟨T6, hT6⟩ : ∃ T : List UInt8, T = T5 ++ cntS (scanI s.z) := ⟨_, rfl⟩
      obtain ⟨k6, hk6⟩ : ∃ k : Bool, k = (k5 && (scanI s.z).all inCnt) := ⟨_, rfl⟩
      rw [← hT6, ← hk6] at hw6
      have HL6 : Hid (T6.length ≤ 8930) := Lib.hid (by
        have := cntS_len (scanI s.z)
        have := HL5.out
        have := HN9.out
        rw [hT6, List.length_append]; omega)
      have HT6 := Lib.hid (And.intro hT6 hk6)
      have HW6 := Lib.hid hw6
      have e23 : w6.cell? ⟨w.heap.size, 23, none⟩ = some (.slice A2 s.stale.length cc2) := HA6.out.at_ rfl
      have ha2 : [(s.stale.length : Int)].all inCnt = true := inCnt_nat (by omega)
      have HA22 := Lib.hid ha2
      clear hw6 ho6 hT6 hk6 ha2
      go_wp2_with fail
      refine (wcounts_any (l := [(s.stale.length : Int)]) (HW6.out.alloc _) (by simp) (by have := HL6.out; omega) (by simp) (by have := HW6.out.lt; omega) (row1 w6 _ _)).mono ?_
      rintro e w7 ⟨rfl, hw7, ho7⟩
      rw [erV_cnt, HA22.out, Bool.and_true] at hw7
      have ho7 := ((Only.refl (fun i => i = w.heap.size + 1) w6).alloc _).trans ho7 (fun i hi => .inl hi)
      have HA7 := Lib.hid (only_blk HA6.out ho7 HNE.out)
      have HD7 : Hid (Below w.heap.size w w7) := Lib.hid (HD6.out.trans (ho7.below HD6.out.size (fun i hi => by omega)))
      obtain ⟨T7, hT7⟩ : ∃ T : List UInt8, T = T6 ++ cntS [(s.stale.length : Int)] := ⟨_, rfl⟩
      rw [← hT7] at hw7
      have HL7 : Hid (T7.length ≤ 8938) := Lib.hid (by
        have := cntS_len [(s.stale.length : Int)]
        have := HL6.out
        rw [hT7, List.length_append]; simp only [List.length_cons, List.length_nil] at *; omega)
      have HT7 := Lib.hid hT7
      have HW7 := Lib.hid hw7
      have e23 : w7.cell? ⟨w.heap.size, 23, none⟩ = some (.slice A2 s.stale.length cc2) := HA7.out.at_ rfl
      have h0 : stB (s.stale.take 0) = [] := rfl
      have h1 : (s.stale.take 0).all stOk = true := rfl
      clear hw7 ho7 hT7 hlt hdc
      go_wp2_with fail
      go_loopw [8, 54] (fun _ t wr => ∃ k : Nat, k ≤ s.stale.length ∧ t = .int .i64 k ∧ Below w.heap.size w wr ∧ Blk wr (w.heap.size + 1) 79 #[str (T7 ++ stB (s.stale.take k)), .int .i64 (erV (k6 && (s.stale.take k).all stOk))]) (fun _ t _ => s.stale.length - (RowKit.intOf t).toNat)
      case atStart => exact ⟨0, Nat.zero_le _, rfl, HD7.out, by rw [h0, h1, List.append_nil, Bool.and_true]; exact HW7.out⟩
      case round =>
        obtain ⟨k, hk, rfl, hd, hw⟩ := hrel
        have HDR := Lib.hid hd
        have HWR := Lib.hid hw
        clear hd hw h0 h1 HA7 HW7 HD7 e23
        by_cases hlt : k < s.stale.length
        · obtain ⟨b, o, rfl, hbl, hcell⟩ := H.out.stale.cells (by omega)
          obtain ⟨x, hx⟩ : ∃ x, s.stale[k]? = some x := ⟨_, List.getElem?_eq_getElem hlt⟩
          have hsn : ∀ j u, j < 2 → (staL x)[j]? = some u → wr.cell? ⟨b, o + k * 2 + j, none⟩ = some u := fun j u hj hu => by
            rw [Nat.add_assoc]
            exact (World.cell?_of_block (HDR.out.block b hbl)).trans <| hcell _ _ ((flat_at staL 2 (fun _ => rfl) s.stale k x hx j hj).trans hu)
          have hdc : decide (k < s.stale.length) = true := decide_eq_true hlt
          have HLT := Lib.hid hlt
          have q0 : wr.cell? ⟨b, o + k * 2, none⟩ = some (.int .i64 x.1) := hsn 0 _ (by omega) rfl
          have q1 : wr.cell? ⟨b, o + k * 2 + 1, none⟩ = some (.int .i64 x.2) := hsn 1 _ (by omega) rfl
          have htk : s.stale.take (k + 1) = s.stale.take k ++ [x] := by rw [List.take_add_one, hx]; rfl
          have HTK : Hid (stB (s.stale.take (k + 1)) = stB (s.stale.take k) ++ cntS [x.1, x.2]) := Lib.hid (by rw [htk, stB_snoc])
          have HTO : Hid ((s.stale.take (k + 1)).all stOk = ((s.stale.take k).all stOk && [x.1, x.2].all inCnt)) := Lib.hid (by rw [htk, List.all_append]; simp only [List.all_cons, List.all_nil, Bool.and_true, stOk])
          have HSL : Hid ((stB (s.stale.take k)).length ≤ 960) := Lib.hid (by have := stB_len (s.stale.take k); rw [List.length_take] at this; omega)
          clear hcell hx hsn htk
          go_wp2_with fail
          have hrow := row2 (wr.alloc (.cells #[.int .i64 x.1, .int .i64 x.2] 61)) x.1 x.2 3
          rw [World.size_alloc] at hrow
          refine (wcounts_any (l := [x.1, x.2]) (g := wr.heap.size + 1) ((HWR.out.alloc _).alloc _) (by simp) (by have := HSL.out; have := HL7.out; rw [List.length_append]; omega) (by simp) (by have := HWR.out.lt; omega) hrow).mono ?_
          rintro e w9 ⟨rfl, hw9, ho9⟩
          rw [erV_cnt] at hw9
          have ho9 := (((Only.refl (fun i => i = w.heap.size + 1) wr).alloc _).alloc _).trans ho9 (fun i hi => .inl hi)
          have HW9 := Lib.hid hw9
          have HD9 : Hid (Below w.heap.size w w9) := Lib.hid (HDR.out.trans (ho9.below HDR.out.size (fun i hi => by omega)))
          clear hw9 ho9 hrow q0 q1
          go_wp2_with fail
          go_roundw
          case rel => exact ⟨k + 1, HLT.out, by go_num, HD9.out, by
            have h := HW9.out
            rw [HTK.out, HTO.out]
            rw [List.append_assoc, Bool.and_assoc] at h
            exact h⟩
          case measure => have := HLT.out; simp [RowKit.intOf]; omega
        · obtain rfl : k = s.stale.length := by omega
          have hdc : decide ((s.stale.length : Int) < s.stale.length) = false := decide_eq_false (by omega)
          rw [List.take_length] at HWR
          have HMB : Hid (T7 ++ stB s.stale = mB s) := Lib.hid (by
            rw [HT7.out, HT6.out.1, HT5.out.1, HT4.out.1]; unfold mB; rw [List.nil_append])
          have HMO : Hid ((k6 && s.stale.all stOk) = mOk s) := Lib.hid (by
            rw [HT6.out.2, HT5.out.2, HT4.out.2]; rfl)
          rw [HMB.out, HMO.out] at HWR
          have hw := HWR.out
          clear hlt
          cases hok : mOk s with
          | true =>
            rw [hok] at hw
            have HSE : Hid (mbS s = mB s ∧ mbE s = 0) := Lib.hid (by unfold mbS mbE; rw [hok]; exact ⟨rfl, rfl⟩)
            have y0 : wr.cell? ⟨w.heap.size + 1, 0, none⟩ = some (str (mB s)) := hw.at_ rfl
            have y1 : wr.cell? ⟨w.heap.size + 1, 1, none⟩ = some (.int .i64 0) := hw.at_ rfl
            clear hw hok
            go_wp2_with fail
            go_ret2
            exact ⟨by rw [HSE.out.1, HSE.out.2]; rfl, HDR.out⟩
          | false =>
            rw [hok] at hw
            have HSE : Hid (mbS s = [] ∧ mbE s = 1) := Lib.hid (by unfold mbS mbE; rw [hok]; exact ⟨rfl, rfl⟩)
            have y0 : wr.cell? ⟨w.heap.size + 1, 0, none⟩ = some (str (mB s)) := hw.at_ rfl
            have y1 : wr.cell? ⟨w.heap.size + 1, 1, none⟩ = some (.int .i64 1) := hw.at_ rfl
            clear hw hok
            go_wp2_with fail
            have hwl := HWR.out.lt
            repeat' (first
              | go_values
              | go_skip
              | go_guarded
              | ((fail_if_success (with_reducible refine drawn_mark ?_))
                 first
                   | go_step
                   | go_upon
                   | go_back
                   | (simp only [Int.not_lt, Int.not_le] at *; go_simp)
                   | (go_values <;> (try go_simp))
                   | (go_ite <;> go_prune <;> (try go_simp))
                   | (split <;> (first | (rename_i hx; exact (hx _ rfl).elim) | go_prune))))
            obtain ⟨C, hC, hC0, hCB, hCK, hCd⟩ := cls_below wr
            have f1 : ∀ W, C W → W.cell? ⟨w.heap.size + 1, 1, none⟩ = some (.int .i64 1) := fun W hW => keep_cell (hCB W hW) y1 hwl
            refine wp_region_cls C (by kernel_rfl) (by kernel_rfl) hC ?_
            repeat (first
              | go_big_quiet_skip
              | (go_big_quiet_want
                 go_big_quiet_op
                 first
                   | go_big_quiet_on
                   | (apply Exists.intro
                      refine ⟨fun W hW => ?_, ?_⟩
                      · first
                          | exact rfl
                          | exact ⟨rfl, rfl⟩
                          | (have e0 := f1 W hW; simp only [e0, Result.andThen_ok]; done)
                          | (have e0 := f1 W hW; simp only [e0, Result.andThen_ok]; first | exact ⟨trivial, rfl⟩ | exact rfl | exact ⟨rfl, rfl⟩)
                          | (skip)
                      go_big_quiet_on)))
            refine wpQuiet_nil ?_
            intro wz hwz
            have HBZ := Lib.hid (keep_below (hCB wz hwz) HDR.out)
            clear f1 hC hC0 hCB hCK hCd hwz y0 y1
            go_wp2_with fail
            go_ret2
            exact ⟨by rw [HSE.out.1, HSE.out.2]; rfl, HBZ.out⟩
end Go.Proofs.YtidmbibpoldgcaaGreatDoor
