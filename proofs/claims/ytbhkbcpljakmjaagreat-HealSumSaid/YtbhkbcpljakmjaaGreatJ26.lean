/-
  A loop over an iterator that keeps cells of its own between its rounds, and is run to its end: what is said of the rounds abides whatever turns from the loop's beginning on. No program stands here.
  Contracts of package fletch: Words.
  Contracts of package fletch: more, Sum.
  What is mended is read again: plain laws of heal.
-/
import Derived.RangeFuncWrites
import Derived.Test.YtbhkbcpljakmjaaGreatJ01
import Derived.Test.YtbhkbcpljakmjaaGreatJ25
import Derived.Test.YtbhkbcpljakmjaaGreatJ24
namespace Go.Proofs.YtbhkbcpljakmjaaGreat
set_option linter.unusedVariables false
set_option linter.unusedSimpArgs false
open Go.RowKit

/-- What is said abides whatever turns from block B on. -/
def Firm {β : Type} (B : Nat) (I : β → World → Prop) : Prop := ∀ s W W' row, I s W → W.grownBy W' row → (∀ r, row = some r → B ≤ r) → I s W'
/-- What is said abides cells that turn from block B on. -/
def FirmC {β : Type} (B : Nat) (J : β → World → Prop) : Prop := ∀ s W W' row, J s W → W.grownBy W' row → (∀ r, row = some r → B ≤ r ∧ ∃ o : Obj, W.heap[r]? = some o ∧ o.isCells = true) → J s W'
theorem FirmC.mono {β : Type} {B B' : Nat} {J : β → World → Prop} (h : FirmC B J) (hB : B ≤ B') : FirmC B' J := fun s W W' row hs hg hr => h s W W' row hs hg fun r e => ⟨Nat.le_trans hB (hr r e).1, (hr r e).2⟩
theorem FirmC.below {β : Type} {B : Nat} {J : β → World → Prop} (h : FirmC B J) {s : β} {W W' : World} (hs : J s W) (hb : Below W.heap.size W W') : J s W' :=
  h s W W' none hs ⟨hb.os, hb.tape, hb.output, hb.size, fun i hi _ => hb.block i hi⟩ (fun r e => by cases e)
/-- An iterator that gives just these, and then returns. -/
def SeqCells {α : Type} (F : Fence) (n : Nat) (P : Program) (g : Nat) (lb : Array Value) (encs : α → Array Value) (Kp : World → World → Prop) (xs : List α) (w : World) : Prop :=
  ∀ (l : Nat) (J : List α → World → Prop) (W : World), Below w.heap.size w W → FirmC W.heap.size J →
    (∀ pre x W1, J pre W1 → pre ++ [x] <+: xs → YieldAt F (n - 1) P l (encs x) W1 fun e W' => e = .returned (.bool true) ∧ J (pre ++ [x]) W' ∧ Kp W1 W') →
    J [] W → CallsIn F n P g (#[.func (.yield l) #[] #[]] ++ lb) W fun e W' => (∃ v, e = .returned v) ∧ J xs W'
/-- How a round ends. -/
def roundEnd {α : Type} (B : Nat) (Kp : World → World → Prop) (I : List α → World → Prop) (pre : List α) (W : World) : Exit → Act → World → Prop
  | .normal, _, W' => KeepsFrom B W W' ∧ Kp W W' ∧ I pre W'
  | _, _, _ => False
variable {F : Fence} {n : Nat} {P : Program}
theorem wpIn_range_cells {α : Type} {g : Operand} {ps : Array Tmp} {assign body : Code} {Q : Exit → Act → World → Prop} {a : Act} {w : World} (hro : F.round = none) (h1 : 1 ≤ n) {gf : Nat} {lb : Array Value}
    (hg : a.eval g = .func (.func gf) #[] lb) (hFg : F.fn gf) (eg : ∀ args w, (callFunc gf args).run P w = .ok (.enter gf args) w) {encs : α → Array Value} {Kp : World → World → Prop} {xs : List α} (hseq : SeqCells F (n - 1) P gf lb encs Kp xs w)
    (hKt : ∀ {A B C : World}, Kp A B → Kp B C → Kp A C) (hKb : ∀ (W : World) (l : Nat) (o o' : Obj), W.heap[l]? = some o → o.isCells = false → Kp W (W.putObj l o')) (hps : ∀ x, (encs x).size = ps.size)
    (I : List α → World → Prop) (hI : Firm w.heap.size I) (h0 : I [] w) (a₁ : α → Act)
    (hassign : ∀ (l : Nat) (x : α) (W : World) (K : Act → World → Prop), K (a₁ x) W →
      assign.wpIn (F.inRound l) (n - 1 - 1) P (Exit.then K (fun _ _ _ => False)) { tmps := (ps.zip (encs x)).foldl (fun t (p, v) => t.setIfInBounds p v) a.tmps, defers := [] } W)
    (hbody : ∀ (l : Nat) (pre : List α) (x : α) (W : World), I pre W → pre ++ [x] <+: xs → body.wpIn (F.inRound l) (n - 1 - 1) P (roundEnd w.heap.size Kp I (pre ++ [x]) W) (a₁ x) W)
    (hdone : ∀ (D : Nat) (W : World), w.heap.size ≤ D → I xs W → W.heap[D]? = some (.deferred (some [])) → Q .normal { a with defers := { target := .collected D, args := #[] } :: a.defers } W) :
    (Code.rangeFunc g ps assign body).wpIn F n P Q a w := by
  refine wpIn_rangeFunc fun fn hfn => ?_
  rw [hro]
  let L : LoopState → Loop := fun st => { state := st, pending := none, fn, tmps := a.tmps, params := ps, assign, body, defers := w.heap.size }
  let V : World := (w.alloc (.deferred (some []))).alloc (.loop (L .ready))
  have vl : V.heap[w.heap.size + 1]? = some (.loop (L .ready)) := by
    have := World.alloc_heap_new (w.alloc (.deferred (some []))) (.loop (L .ready))
    rwa [World.size_alloc] at this
  have vd : V.heap[w.heap.size]? = some (.deferred (some [])) := (Below.heap_alloc _ _ _ (by simp)).trans (World.alloc_heap_new w _)
  have vb : Below w.heap.size w V := ((Below.refl _ w).alloc (Nat.le_refl _) _).alloc (by simp) _
  have vs : V.heap.size = w.heap.size + 2 := by simp [V]
  have vi : I [] V := hI _ _ _ none h0 ⟨vb.os, vb.tape, vb.output, vb.size, fun i hi _ => vb.block i hi⟩ (fun r e => by cases e)
  have put : ∀ {s : List α} {W : World} {o o' : Obj}, I s W → I s (W.putObj (w.heap.size + 1) o') := fun {s W o o'} hs => hI s W _ (some (w.heap.size + 1)) hs (grownBy_putObj' W _ o') (fun r e => by cases e; omega)
  refine ⟨w.heap.size + 1, [{ target := .collected w.heap.size, args := #[] }], V, { target := .fn (.func gf) lb, args := #[.func (.yield (w.heap.size + 1)) #[] #[]] }, V, gf,
    #[.func (.yield (w.heap.size + 1)) #[] #[]] ++ lb, V, run_enterLoop_outer _ _ _ _ _, by simp only [resolve, hg]; simp [go_sem], fun f' hf' => by simp [Target.leads] at hf'; subst hf'; exact hFg, by simp [invoke, go_sem, eg], fun _ => h1, ?_⟩
  have firm : FirmC V.heap.size fun (pre : List α) W => I pre W ∧ W.heap[w.heap.size + 1]? = some (.loop (L .ready)) ∧ W.heap[w.heap.size]? = some (.deferred (some [])) := by
    rintro s A B row ⟨i1, i2, i3⟩ hgr hr
    have hne : ∀ r, row = some r → w.heap.size + 2 ≤ r := fun r e => by have := (hr r e).1; omega
    refine ⟨hI s A B row i1 hgr fun r e => by have := hne r e; omega, (hgr.block _ (Array.getElem?_eq_some_iff.1 i2).1 fun e => ?_).trans i2, (hgr.block _ (Array.getElem?_eq_some_iff.1 i3).1 fun e => ?_).trans i3⟩
    · have := hne _ e.symm; omega
    · have := hne _ e.symm; omega
  refine (hseq (w.heap.size + 1) _ V vb firm ?_ ⟨vi, vl, vd⟩).mono ?_
  · rintro pre x W ⟨i1, i2, i3⟩ hpre
    have hlt : w.heap.size + 1 < W.heap.size := (Array.getElem?_eq_some_iff.1 i2).1
    refine ⟨fn, _, assign, body, run_yield (args := encs x) i2 (hps x), roundIn_of_wpIn hfn (hassign _ x W _ ⟨_, run_beginRound i2 rfl, ?_⟩)⟩
    have j2 : (W.putObj (w.heap.size + 1) (.loop (L .busy))).heap[w.heap.size + 1]? = some (.loop (L .busy)) := World.putObj_heap_same hlt
    have j3 : (W.putObj (w.heap.size + 1) (.loop (L .busy))).heap[w.heap.size]? = some (.deferred (some [])) := (World.putObj_heap_other (by omega)).trans i3
    refine wpIn_mono (hbody _ pre x _ (put (o := .loop (L .ready)) i1) hpre) ?_
    intro e a3 W3 hp
    cases e with
    | normal =>
      obtain ⟨k1, k2, k3⟩ := hp
      have m2 := k1.same _ _ (by omega) j2 rfl
      have m3 := k1.same _ _ (Nat.le_refl _) j3 rfl
      exact ⟨_, _, run_endRound none m2, ⟨rfl, ⟨put (o := .loop (L .busy)) k3, World.putObj_heap_same (Array.getElem?_eq_some_iff.1 m2).1, (World.putObj_heap_other (by omega)).trans m3⟩,
        hKt (hKt (hKb _ _ _ _ i2 rfl) k2) (hKb _ _ _ _ m2 rfl)⟩⟩
    | ret => exact hp.elim
    | exit id => exact hp.elim
    | goto t => exact hp.elim
    | panic c => exact hp.elim
    | outgrown => exact hp.elim
  · rintro e W2 ⟨⟨v, rfl⟩, i1, i2, i3⟩
    exact ⟨none, _, run_endLoop i2 (by simp), hdone _ _ (Nat.le_refl _) (put (o := .loop (L .ready)) i1) ((World.putObj_heap_other (by omega)).trans i3)⟩
end Go.Proofs.YtbhkbcpljakmjaaGreat

namespace Go.Proofs.YtbhkbcpljakmjaaGreat
set_option linter.unusedVariables false
set_option linter.unusedSimpArgs false
open Go.RowKit
attribute [local go_sem] Oper.semAt_some

/-- Blocks of cells are kept, but those of V. -/
def KB (V : Nat → Prop) (W W' : World) : Prop := W.heap.size ≤ W'.heap.size ∧ ∀ b t cs, ¬ V b → Blk W b t cs → Blk W' b t cs
theorem KB.trans {V : Nat → Prop} {A B C : World} (h : KB V A B) (k : KB V B C) : KB V A C := ⟨Nat.le_trans h.1 k.1, fun b t cs hn hb => k.2 b t cs hn (h.2 b t cs hn hb)⟩
theorem kb_putObj {V : Nat → Prop} (W : World) (l : Nat) (o o' : Obj) (hl : W.heap[l]? = some o) (ho : o.isCells = false) : KB V W (W.putObj l o') :=
  ⟨by simp, fun b t cs _ hb => (World.putObj_heap_other (fun e => by subst e; unfold Blk at hb; rw [hb] at hl; cases hl; cases ho)).trans hb⟩
theorem kb_set {V : Nat → Prop} (W : World) {b : Nat} (i : Nat) (u : Value) (hb : V b) : KB V W (W.setCell ⟨b, i, none⟩ u) :=
  ⟨by simp [World.setCell], fun b' t cs hn h => (Below.heap_setCell W ⟨b, i, none⟩ u b' (fun e => hn (by rw [e]; exact hb))).trans h⟩
theorem kb_below {V : Nat → Prop} {W W' : World} (h : Below W.heap.size W W') : KB V W W' := ⟨h.size, fun b _ _ _ hb => (h.block b hb.lt).trans hb⟩
def wordE (x : Nat) : Array Value := #[.int .u64 x]
/-- Where a reader stands. -/
def posW (W : World) (b : Nat) : Nat := match W.cell? ⟨b, 1, none⟩ with
  | some (.int _ p) => p.toNat
  | _ => 0
theorem posW_at {W : World} {b p : Nat} {l : List UInt8} (h : RdAt W b l p) : posW W b = p := by unfold posW; rw [h.c1]; rfl
theorem padL_4 (s : List UInt8) : (padL s 4).length % 4 = 0 ∧ (padL s 4).length ≤ s.length + 3 := by
  unfold padL
  rw [if_pos (by omega), List.length_append, List.length_replicate]
  unfold padN
  have : ((4 : Int).toNat) = 4 := rfl
  rw [this]
  omega
theorem words_len (s : List UInt8) : (wordsL s).length = (padL s 4).length / 4 := by simp [wordsL, wordsP]
theorem words_at {s : List UInt8} {k : Nat} (hk : k < (wordsL s).length) : (wordsL s)[k]? = some (rdN (padL s 4) (4 * k) 4) := by
  rw [words_len] at hk
  unfold wordsL wordsP
  rw [List.getElem?_map, List.getElem?_range hk]
  rfl
theorem words_lt {s : List UInt8} : ∀ x ∈ wordsL s, x < 4294967296 := by
  intro x hx
  unfold wordsL wordsP at hx
  obtain ⟨k, _, rfl⟩ := List.mem_map.1 hx
  have := rdN_lt (padL s 4) (4 * k) 4
  omega
set_option maxRecDepth 20000 in
set_option maxHeartbeats 1000000 in
theorem words_seq (n : Nat) {w : World} {V : Nat → Prop} {b0 : Nat} {s : List UInt8} (h0 : w.cell? ⟨b0, 0, none⟩ = some (str s)) (hl : s.length ≤ 140737488351000) (hV : ∀ b, V b → b < w.heap.size) :
    SeqCells Fence.wide n Tryz.prog 92 #[.pointer (some ⟨b0, 0, none⟩)] wordE (KB V) (wordsL s) w := by
  intro l J W hb hJ hY hJ0
  have c0 := keep_cell' h0 hb
  have HPD := Lib.hid (pad_any s 4 W (by omega))
  have hp4 := padL_4 s
  obtain ⟨P, hP⟩ : ∃ P, padL s 4 = P := ⟨_, rfl⟩
  have hwl := words_len s
  have hwa := fun k (hk : k < (wordsL s).length) => words_at hk
  rw [hP] at HPD hp4 hwl hwa
  have HV : Hid (∀ b, V b → b < W.heap.size) := Lib.hid fun b h => Nat.lt_of_lt_of_le (hV b h) hb.size
  have HJ := Lib.hid hJ
  have HY := Lib.hid hY
  have HJ0 := Lib.hid hJ0
  obtain ⟨ws, hws⟩ : ∃ ws, wordsL s = ws := ⟨_, rfl⟩
  have hlt := @words_lt s
  rw [hws] at hwl hwa HY hlt
  rw [hws]
  have HW := Lib.hid (And.intro hwl (And.intro hwa hlt))
  obtain ⟨hp41, hp42⟩ := hp4
  have hPl : P.length ≤ 140737488351232 := by omega
  clear h0 hV hb hJ hY hJ0 hwl hwa hlt hws hP
  show CallsIn Fence.wide n Tryz.prog 92 #[.func (.yield l) #[] #[], .pointer (some ⟨b0, 0, none⟩)] W _
  refine callsIn_of_wp Tryz.func92 rfl trivial ?_ rfl
  simp only [Tryz.ntmps92, List.size_toArray, List.length_cons, List.length_nil, Nat.reduceAdd, Nat.reduceSub, Array.replicate_succ, Array.replicate_zero, List.push_toArray, List.append_toArray, List.nil_append, List.cons_append]
  gi_wp2_with fail
  refine ⟨trivial, fun h => (by cases h), callsIn_wide.2 (HPD.out.mono ?_)⟩
  rintro e w1 ⟨rfl, hb1⟩
  have HB1 := Lib.hid hb1
  have HNW := Lib.hid (new_any P w1 hPl)
  clear hb1
  gi_wp2_with fail
  refine ⟨trivial, fun h => (by cases h), callsIn_wide.2 (HNW.out.mono ?_)⟩
  rintro e w2 ⟨rfl, hR2, hb2⟩
  have HB2 := Lib.hid (keep_below hb2 HB1.out)
  have HR2 := Lib.hid hR2
  obtain ⟨rb, hrb⟩ : ∃ rb, w1.heap.size = rb := ⟨_, rfl⟩
  have hge : W.heap.size ≤ rb := by rw [← hrb]; exact HB1.out.size
  rw [hrb] at HR2
  rw [hrb]
  have HRB := Lib.hid hge
  clear hb2 hR2 hrb hge
  gi_wp2_with fail
  gi_loopw [4] (fun _ wr => ∃ k : Nat, k ≤ ws.length ∧ RdAt wr rb P (4 * k) ∧ J (ws.take k) wr ∧ W.heap.size ≤ wr.heap.size) (fun _ wr => P.length - posW wr rb)
  case atStart => exact ⟨0, Nat.zero_le _, HR2.out, HJ.out.below HJ0.out HB2.out, HB2.out.size⟩
  case round =>
    obtain ⟨k, hk, hrd, hj, hsz⟩ := hrel
    have HK := Lib.hid (And.intro hrd (And.intro hj hsz))
    have HLF := Lib.hid (left_any rb (4 * k) P wr hrd)
    have hwl := HW.out.1
    clear hrd hj hsz
    by_cases hlt : k < ws.length
    · have hd1 : decide (4 * (k : Int) < (P.length : Int)) = true := decide_eq_true (by omega)
      have HKL := Lib.hid hlt
      clear hlt hwl
      gi_wp2_with fail
      refine ⟨trivial, fun h => (by cases h), callsIn_wide.2 (HLF.out.mono ?_)⟩
      rintro e w3 ⟨rfl, j, rfl⟩
      have hrd3 := HK.out.1.drewN j
      have HU := Lib.hid (rU32_any rb (4 * k) P _ hrd3)
      have hle4 : 4 * k + 4 ≤ P.length := by have := HW.out.1; have := HKL.out; omega
      have hnp : nbPos P (4 * k) 4 = 4 * (k + 1) := by unfold nbPos; rw [if_neg (by omega)]; omega
      have hxl : rdN P (4 * k) 4 < 4294967296 := by have := rdN_lt P (4 * k) 4; omega
      have hwk := HW.out.2.1 k HKL.out
      rw [hnp] at HU
      obtain ⟨x, hx⟩ : ∃ x, rdN P (4 * k) 4 = x := ⟨_, rfl⟩
      obtain ⟨ne, hne⟩ : ∃ ne, nbErr P (4 * k) 4 = ne := ⟨_, rfl⟩
      rw [hx] at HU hxl hwk
      rw [hne] at HU
      have hJ3 : J (ws.take k) (wr.drewN j) := HJ.out.below HK.out.2.1 ⟨rfl, rfl, rfl, Nat.le_refl _, fun _ _ => rfl⟩
      have HJ3 := Lib.hid hJ3
      have HRD3 := Lib.hid hrd3
      have HTK : Hid (ws.take (k + 1) = ws.take k ++ [x]) := Lib.hid (by rw [List.take_add_one, hwk]; rfl)
      clear hrd3 hJ3 hwk hx hne hnp hd1
      gi_wp2_with fail
      refine ⟨trivial, fun h => (by cases h), callsIn_wide.2 (HU.out.mono ?_)⟩
      rintro e w4 ⟨rfl, hrd4, hg4⟩
      have hszd : (wr.drewN j).heap.size = wr.heap.size := rfl
      have hJ4 : J (ws.take k) w4 := HJ.out _ (wr.drewN j) w4 (some rb) HJ3.out hg4 fun r e => by
        cases e
        exact ⟨HRB.out, _, HRD3.out.1, rfl⟩
      obtain ⟨fn, tmps, assign, body, hy, hR⟩ := HY.out (ws.take k) x w4 hJ4 (by rw [← HTK.out]; exact List.take_prefix _ _)
      dsimp only [wordE] at hy
      have HR := Lib.hid hR
      have HRD4 := Lib.hid (And.intro hrd4 (Nat.le_trans HK.out.2.2 (show wr.heap.size ≤ w4.heap.size from hg4.size)))
      clear hrd4 hg4 hJ4 hR hszd HU
      gi_wp2_with fail
      refine ⟨fun h => (by cases h), HR.out.mono ?_⟩
      rintro e w5 ⟨rfl, hJ5, hk5⟩
      have hrd5 : RdAt w5 rb P (4 * (k + 1)) := ⟨hk5.2 rb _ _ (fun h => by have := HV.out rb h; have := HRB.out; omega) HRD4.out.1.1, HRD4.out.1.2⟩
      have HKF := Lib.hid (And.intro hrd5 (And.intro hJ5 (Nat.le_trans HRD4.out.2 hk5.1)))
      clear hrd5 hJ5 hk5 hy
      gi_wp2_with fail
      go_roundw
      case rel => exact ⟨k + 1, HKL.out, HKF.out.1, by rw [HTK.out]; exact HKF.out.2.1, HKF.out.2.2⟩
      case measure => rw [posW_at HKF.out.1, posW_at HK.out.1]; omega
    · obtain rfl : k = ws.length := by omega
      have hd1 : decide (4 * (ws.length : Int) < (P.length : Int)) = false := decide_eq_false (by omega)
      clear hlt hwl
      gi_wp2_with fail
      refine ⟨trivial, fun h => (by cases h), callsIn_wide.2 (HLF.out.mono ?_)⟩
      rintro e w3 ⟨rfl, j, rfl⟩
      have HJF : Hid (J ws (wr.drewN j)) := Lib.hid (by
        have : J (ws.take ws.length) (wr.drewN j) := HJ.out.below HK.out.2.1 ⟨rfl, rfl, rfl, Nat.le_refl _, fun _ _ => rfl⟩
        rwa [List.take_length] at this)
      gi_wp2_with fail
      go_end0
      exact ⟨⟨_, rfl⟩, HJF.out⟩
end Go.Proofs.YtbhkbcpljakmjaaGreat

namespace Go.Proofs.YtbhkbcpljakmjaaGreat
set_option linter.unusedVariables false
set_option linter.unusedSimpArgs false
open Go.RowKit
attribute [local go_sem] Oper.semAt_some

theorem words_any (s : List UInt8) (w : World) : Calls Tryz.prog 66 #[str s] w fun e w' =>
    e = .returned (.func (.func 92) #[] #[.pointer (some ⟨w.heap.size, 0, none⟩)]) ∧ w'.cell? ⟨w.heap.size, 0, none⟩ = some (str s) ∧ Below w.heap.size w w' := by
  go_enter Tryz.func66, Tryz.ntmps66
  go_wp2_with fail
  go_ret
  exact ⟨rfl, cell_new' (by simp) rfl, keep_alloc (Below.refl _ _) _⟩
theorem wrap_sum (a b : Nat) : IntKind.u64.wrap ((a : Int) + (b : Int)) = (((a + b) % M64 : Nat) : Int) := by
  have : (a : Int) + (b : Int) = ((a + b : Nat) : Int) := by omega
  rw [this, IntKind.wrap_u64]
  rfl
/-- The state amid a word. -/
def fpart (x : Nat × Nat × Nat × Nat) (w : Nat) : Nat → (Nat × Nat × Nat × Nat) × Nat
  | 0 => (x, w)
  | 1 => (((x.1 + w) % M64, x.2.1, x.2.2.1, x.2.2.2), (x.1 + w) % M64)
  | 2 => (((x.1 + w) % M64, (x.2.1 + (x.1 + w) % M64) % M64, x.2.2.1, x.2.2.2), (x.2.1 + (x.1 + w) % M64) % M64)
  | 3 => (((x.1 + w) % M64, (x.2.1 + (x.1 + w) % M64) % M64, (x.2.2.1 + (x.2.1 + (x.1 + w) % M64) % M64) % M64, x.2.2.2), (x.2.2.1 + (x.2.1 + (x.1 + w) % M64) % M64) % M64)
  | _ => (fstep x w, (fstep x w).2.2.2)
set_option maxRecDepth 20000 in
set_option maxHeartbeats 1000000 in
theorem fmore_any (x : Nat × Nat × Nat × Nat) (s : List UInt8) (hl : s.length ≤ 140737488351000) (w : World) : Calls Tryz.prog 37 #[.agg (fcells x), str s] w fun e w' => e = .returned (.agg (fcells ((wordsL s).foldl fstep x))) ∧ Below w.heap.size w w' := by
  obtain ⟨w2, hw2⟩ : ∃ z, (w.alloc (.cells (fcells x) 29)).alloc (.cells #[.int .u64 0, .int .u64 0, .int .u64 0, .int .u64 0] 29) = z := ⟨_, rfl⟩
  have B1 : Blk w2 w.heap.size 29 (fcells x) := by rw [← hw2]; exact (Blk.new _ _ _).alloc _
  have B2 : Blk w2 (w.heap.size + 1) 29 #[.int .u64 0, .int .u64 0, .int .u64 0, .int .u64 0] := by rw [← hw2]; exact Blk.new2 _ _ _ _
  have D2 : Below w.heap.size w w2 := by rw [← hw2]; exact keep_alloc (keep_alloc (Below.refl _ _) _) _
  have HB1 := Lib.hid B1
  have HB2 := Lib.hid B2
  have HD2 := Lib.hid D2
  have HW2 := Lib.hid hw2
  have HWD := Lib.hid (words_any s w2)
  clear B1 B2 D2 hw2
  refine (callsIn_wide (n := 9)).1 ?_
  refine callsIn_of_wp_marks Tryz.func37 rfl trivial (wpIn_wide.2 ?_) rfl
  simp only [Tryz.ntmps37, List.size_toArray, List.length_cons, List.length_nil, Nat.reduceAdd, Nat.reduceSub, Array.replicate_succ, Array.replicate_zero, List.push_toArray, List.append_toArray, List.nil_append, List.cons_append]
  go_wp2_with fail
  rw [HW2.out]
  refine HWD.out.mono ?_
  rintro e w3 ⟨rfl, hc3, hb3⟩
  have b13 := HB1.out.below hb3 HB1.out.lt
  have b23 := HB2.out.below hb3 HB2.out.lt
  have d3 := keep_below hb3 HD2.out
  have HLT : Hid (w.heap.size + 1 < w3.heap.size) := Lib.hid b23.lt
  have HS := Lib.hid (words_seq (9 - 1) (V := fun b => b = w.heap.size) hc3 hl (fun b h => by rw [h]; exact b13.lt))
  have H0 := Lib.hid (And.intro b13 (And.intro b23 d3))
  clear b13 b23 d3 hc3 hb3
  go_wp2_with fail
  refine (wpIn_wide (n := 9)).1 ?_
  refine wpIn_range_cells rfl (by decide) (gf := 92) (lb := _) rfl trivial (enters_of Tryz.func92 (by kernel_rfl) rfl) HS.out KB.trans kb_putObj (fun _ => rfl)
    (fun pre W => Blk W w.heap.size 29 (fcells (pre.foldl fstep x)) ∧ Blk W (w.heap.size + 1) 29 #[.int .u64 0, .int .u64 0, .int .u64 0, .int .u64 0] ∧ Below w.heap.size w W) ?hI H0.out ?a1 ?assign ?body ?done
  case hI =>
    rintro pre A B row ⟨h1, h2, h3⟩ hg hr
    have hne : ∀ i, i < w3.heap.size → row ≠ some i := fun i hi e => by have := hr i e; omega
    exact ⟨(hg.block _ h1.lt (fun e => hne _ (by have := HLT.out; omega) e.symm)).trans h1, (hg.block _ h2.lt (fun e => hne _ HLT.out e.symm)).trans h2,
      ⟨hg.os.trans h3.os, hg.tape.trans h3.tape, hg.output.trans h3.output, Nat.le_trans h3.size hg.size, fun i hi => (hg.block i (Nat.lt_of_lt_of_le hi h3.size) (fun e => hne i (by have := HLT.out; omega) e.symm)).trans (h3.block i hi)⟩⟩
  case assign =>
    intro l x W K hK
    simp only [wordE, List.zip_toArray, List.zip_cons_cons, List.zip_nil_left, List.zip_nil_right, List.foldl_toArray, List.foldl_cons, List.foldl_nil, List.size_toArray, List.length_cons, List.length_nil, List.setIfInBounds_toArray, List.set_cons_succ, List.set_cons_zero]
    gi_wp2
    exact hK
  case body =>
    rintro l pre v W ⟨h1, h2, h3⟩ hpre
    have hvm : v < 4294967296 := words_lt v (hpre.subset (List.mem_append_right _ List.mem_cons_self))
    obtain ⟨y, hy⟩ : ∃ y, pre.foldl fstep x = y := ⟨_, rfl⟩
    have hst : (pre ++ [v]).foldl fstep x = fstep y v := by rw [List.foldl_append, hy]; rfl
    rw [hy] at h1
    have HW := Lib.hid (And.intro h1 (And.intro h2 h3))
    have HST := Lib.hid hst
    clear h1 h2 h3 hpre hy hst
    gi_wp2_with fail
    gi_loopw [5, 10] (fun wv t wr => ∃ k : Nat, k ≤ 4 ∧ t = .int .i64 k ∧ wv = .int .u64 (fpart y v k).2 ∧ Blk wr w.heap.size 29 (fcells (fpart y v k).1) ∧ W.grownBy wr (some w.heap.size)) (fun _ t _ => 4 - (RowKit.intOf t).toNat)
    case atStart => exact ⟨0, Nat.zero_le _, rfl, rfl, HW.out.1, rfl, rfl, rfl, Nat.le_refl _, fun _ _ _ => rfl⟩
    case round =>
      obtain ⟨k, hk, rfl, rfl, hbk, hgr⟩ := hrel
      have HB := Lib.hid (And.intro hbk hgr)
      rcases (show k = 0 ∨ k = 1 ∨ k = 2 ∨ k = 3 ∨ k = 4 by omega) with rfl | rfl | rfl | rfl | rfl
      · have c0 : wr.cell? ⟨w.heap.size, 0, none⟩ = some (.int .u64 (y.1 : Nat)) := hbk.at_ rfl
        have f0 := hbk.fr 0
        have hs := wrap_sum (y.1) (v)
        obtain ⟨z, hz⟩ : ∃ z, ((y.1) + (v)) % M64 = z := ⟨_, rfl⟩
        rw [hz] at hs
        have HZ := Lib.hid hz
        have hv2 : (fpart y v 0).2 = v := rfl
        rw [hv2]
        obtain ⟨v2, hv3⟩ : ∃ v2, v = v2 := ⟨_, rfl⟩
        rw [hv3] at hs
        rw [hv3]
        obtain ⟨y2, hy3⟩ : ∃ y2, y.1 = y2 := ⟨_, rfl⟩
        rw [hy3] at hs c0
        have HY := Lib.hid (And.intro hv3 hy3)
        clear hv2 hz hbk hgr hv3 hy3
        gi_wp2_with fail
        obtain ⟨hv3, hy3⟩ := HY.out
        have hz := HZ.out
        subst hv3 hy3 hz
        exact ⟨⟨0 + 1, by omega, rfl, rfl, HB.out.1.put 0 _, only_set HB.out.2 (.inl rfl) _⟩, by simp [RowKit.intOf]⟩
      · have c0 : wr.cell? ⟨w.heap.size, 1, none⟩ = some (.int .u64 (y.2.1 : Nat)) := hbk.at_ rfl
        have f0 := hbk.fr 1
        have hs := wrap_sum (y.2.1) (((y.1 + v) % M64))
        obtain ⟨z, hz⟩ : ∃ z, ((y.2.1) + (((y.1 + v) % M64))) % M64 = z := ⟨_, rfl⟩
        rw [hz] at hs
        have HZ := Lib.hid hz
        have hv2 : (fpart y v 1).2 = ((y.1 + v) % M64) := rfl
        rw [hv2]
        obtain ⟨v2, hv3⟩ : ∃ v2, ((y.1 + v) % M64) = v2 := ⟨_, rfl⟩
        rw [hv3] at hs
        rw [hv3]
        obtain ⟨y2, hy3⟩ : ∃ y2, y.2.1 = y2 := ⟨_, rfl⟩
        rw [hy3] at hs c0
        have HY := Lib.hid (And.intro hv3 hy3)
        clear hv2 hz hbk hgr hv3 hy3
        gi_wp2_with fail
        obtain ⟨hv3, hy3⟩ := HY.out
        have hz := HZ.out
        subst hv3 hy3 hz
        exact ⟨⟨1 + 1, by omega, rfl, rfl, HB.out.1.put 1 _, only_set HB.out.2 (.inl rfl) _⟩, by simp [RowKit.intOf]⟩
      · have c0 : wr.cell? ⟨w.heap.size, 2, none⟩ = some (.int .u64 (y.2.2.1 : Nat)) := hbk.at_ rfl
        have f0 := hbk.fr 2
        have hs := wrap_sum (y.2.2.1) (((y.2.1 + (y.1 + v) % M64) % M64))
        obtain ⟨z, hz⟩ : ∃ z, ((y.2.2.1) + (((y.2.1 + (y.1 + v) % M64) % M64))) % M64 = z := ⟨_, rfl⟩
        rw [hz] at hs
        have HZ := Lib.hid hz
        have hv2 : (fpart y v 2).2 = ((y.2.1 + (y.1 + v) % M64) % M64) := rfl
        rw [hv2]
        obtain ⟨v2, hv3⟩ : ∃ v2, ((y.2.1 + (y.1 + v) % M64) % M64) = v2 := ⟨_, rfl⟩
        rw [hv3] at hs
        rw [hv3]
        obtain ⟨y2, hy3⟩ : ∃ y2, y.2.2.1 = y2 := ⟨_, rfl⟩
        rw [hy3] at hs c0
        have HY := Lib.hid (And.intro hv3 hy3)
        clear hv2 hz hbk hgr hv3 hy3
        gi_wp2_with fail
        obtain ⟨hv3, hy3⟩ := HY.out
        have hz := HZ.out
        subst hv3 hy3 hz
        exact ⟨⟨2 + 1, by omega, rfl, rfl, HB.out.1.put 2 _, only_set HB.out.2 (.inl rfl) _⟩, by simp [RowKit.intOf]⟩
      · have c0 : wr.cell? ⟨w.heap.size, 3, none⟩ = some (.int .u64 (y.2.2.2 : Nat)) := hbk.at_ rfl
        have f0 := hbk.fr 3
        have hs := wrap_sum (y.2.2.2) (((y.2.2.1 + (y.2.1 + (y.1 + v) % M64) % M64) % M64))
        obtain ⟨z, hz⟩ : ∃ z, ((y.2.2.2) + (((y.2.2.1 + (y.2.1 + (y.1 + v) % M64) % M64) % M64))) % M64 = z := ⟨_, rfl⟩
        rw [hz] at hs
        have HZ := Lib.hid hz
        have hv2 : (fpart y v 3).2 = ((y.2.2.1 + (y.2.1 + (y.1 + v) % M64) % M64) % M64) := rfl
        rw [hv2]
        obtain ⟨v2, hv3⟩ : ∃ v2, ((y.2.2.1 + (y.2.1 + (y.1 + v) % M64) % M64) % M64) = v2 := ⟨_, rfl⟩
        rw [hv3] at hs
        rw [hv3]
        obtain ⟨y2, hy3⟩ : ∃ y2, y.2.2.2 = y2 := ⟨_, rfl⟩
        rw [hy3] at hs c0
        have HY := Lib.hid (And.intro hv3 hy3)
        clear hv2 hz hbk hgr hv3 hy3
        gi_wp2_with fail
        obtain ⟨hv3, hy3⟩ := HY.out
        have hz := HZ.out
        subst hv3 hy3 hz
        exact ⟨⟨3 + 1, by omega, rfl, rfl, HB.out.1.put 3 _, only_set HB.out.2 (.inl rfl) _⟩, by simp [RowKit.intOf]⟩
      · gi_wp2_with fail
        have hne : w.heap.size + 1 ≠ w.heap.size := by omega
        refine ⟨KeepsFrom.of_grownBy HB.out.2 (fun j e => by cases e; have := HLT.out; omega), ⟨HB.out.2.size, fun b t cs hn hb => (HB.out.2.block b hb.lt (fun e => hn (by injection e))).trans hb⟩, ?_, HW.out.2.1.grown HB.out.2 hne, below_only HW.out.2.2 HB.out.2 (Nat.le_refl _)⟩
        rw [HST.out]
        exact HB.out.1
  case done =>
    rintro D W hD ⟨h1, h2, h3⟩ hK
    obtain ⟨S, hS⟩ : ∃ S, (wordsL s).foldl fstep x = S := ⟨_, rfl⟩
    rw [hS] at h1
    have HSS := Lib.hid hS
    clear hS
    have c0 : W.cell? ⟨w.heap.size, 0, none⟩ = some (.int .u64 S.1) := h1.at_ rfl
    have c1 : W.cell? ⟨w.heap.size, 1, none⟩ = some (.int .u64 S.2.1) := h1.at_ rfl
    have c2 : W.cell? ⟨w.heap.size, 2, none⟩ = some (.int .u64 S.2.2.1) := h1.at_ rfl
    have c3 : W.cell? ⟨w.heap.size, 3, none⟩ = some (.int .u64 S.2.2.2) := h1.at_ rfl
    have f0 := h2.fr 0
    have f1 := h2.fr 1
    have f2 := h2.fr 2
    have f3 := h2.fr 3
    have z0 := h2.at_ (i := 0) (v := .int .u64 0) rfl
    have z1 := h2.at_ (i := 1) (v := .int .u64 0) rfl
    have z2 := h2.at_ (i := 2) (v := .int .u64 0) rfl
    have z3 := h2.at_ (i := 3) (v := .int .u64 0) rfl
    have hP := ((((h2.put 0 (.int .u64 S.1)).put 1 (.int .u64 S.2.1)).put 2 (.int .u64 S.2.2.1)).put 3 (.int .u64 S.2.2.2))
    obtain ⟨W4, hW4⟩ : ∃ z, (((W.setCell ⟨w.heap.size + 1, 0, none⟩ (.int .u64 S.1)).setCell ⟨w.heap.size + 1, 1, none⟩ (.int .u64 S.2.1)).setCell ⟨w.heap.size + 1, 2, none⟩ (.int .u64 S.2.2.1)).setCell ⟨w.heap.size + 1, 3, none⟩ (.int .u64 S.2.2.2) = z := ⟨_, rfl⟩
    have hK4 : W4.heap[D]? = some (.deferred (some [])) := by rw [← hW4]; exact (KeepsOthers.setCell _ _ _).same D _ ((KeepsOthers.setCell _ _ _).same D _ ((KeepsOthers.setCell _ _ _).same D _ ((KeepsOthers.setCell _ _ _).same D _ hK rfl) rfl) rfl) rfl
    rw [hW4] at hP
    have hB4 : Below w.heap.size w W4 := by rw [← hW4]; exact below_set (below_set (below_set (below_set h3 _ _ _ (Nat.le_succ _)) _ _ _ (Nat.le_succ _)) _ _ _ (Nat.le_succ _)) _ _ _ (Nat.le_succ _)
    have hP5 : Blk (W4.putObj D (.deferred none)) (w.heap.size + 1) 29 (fcells S) := (World.putObj_heap_other (by have := HLT.out; omega)).trans hP
    have HP5 := Lib.hid hP5
    have HK4 := Lib.hid hK4
    have HB5 : Hid (Below w.heap.size w (W4.putObj D (.deferred none))) := Lib.hid (hB4.trans (belowK_b (w := w) (Nat.le_refl _) _ D _ _ (by have := HLT.out; omega) hK4 rfl rfl))
    have HW4 := Lib.hid hW4
    clear h1 h2 h3 hK hP hK4 hB4 hP5 hW4
    go_wp2_with fail
    rw [HW4.out]
    refine ⟨by simp, .inl ⟨_, _, rfl, run_takeDeferred HK4.out, ?_⟩⟩
    refine ⟨.agg (fcells S), ?_, by rw [HSS.out], HB5.out⟩
    have e0 := HP5.out.at_ (i := 0) (v := .int .u64 S.1) rfl
    have e1 := HP5.out.at_ (i := 1) (v := .int .u64 S.2.1) rfl
    have e2 := HP5.out.at_ (i := 2) (v := .int .u64 S.2.2.1) rfl
    have e3 := HP5.out.at_ (i := 3) (v := .int .u64 S.2.2.2) rfl
    simp [results, Tryz.f37, go_sem, e0, e1, e2, e3]
theorem fsum_any (s : List UInt8) (hl : s.length ≤ 140737488351000) (w : World) : Calls Tryz.prog 14 #[str s] w fun e w' => e = .returned (.agg (fcells (fsum s))) ∧ Below w.heap.size w w' := by
  obtain ⟨w2, hw2⟩ : ∃ z, w.alloc (.cells #[.int .u64 0, .int .u64 0, .int .u64 0, .int .u64 0] 29) = z := ⟨_, rfl⟩
  have B2 : Blk w2 w.heap.size 29 #[.int .u64 0, .int .u64 0, .int .u64 0, .int .u64 0] := by rw [← hw2]; exact Blk.new _ _ _
  have D2 : Below w.heap.size w w2 := by rw [← hw2]; exact keep_alloc (Below.refl _ _) _
  have HB2 := Lib.hid B2
  have HD2 := Lib.hid D2
  have HW2 := Lib.hid hw2
  have HM := Lib.hid (fmore_any (0, 0, 0, 0) s hl w2)
  clear B2 D2 hw2
  go_enter Tryz.func14, Tryz.ntmps14
  go_wp2_with fail
  rw [HW2.out]
  refine HM.out.mono ?_
  rintro e w3 ⟨rfl, hb3⟩
  have h2 := HB2.out.below hb3 HB2.out.lt
  obtain ⟨S, hS⟩ : ∃ S, (wordsL s).foldl fstep (0, 0, 0, 0) = S := ⟨_, rfl⟩
  have hF : fsum s = S := hS
  have HF := Lib.hid hF
  have f0 := h2.fr 0
  have f1 := h2.fr 1
  have f2 := h2.fr 2
  have f3 := h2.fr 3
  have z0 := h2.at_ (i := 0) (v := .int .u64 0) rfl
  have z1 := h2.at_ (i := 1) (v := .int .u64 0) rfl
  have z2 := h2.at_ (i := 2) (v := .int .u64 0) rfl
  have z3 := h2.at_ (i := 3) (v := .int .u64 0) rfl
  have HP := Lib.hid ((((h2.put 0 (.int .u64 S.1)).put 1 (.int .u64 S.2.1)).put 2 (.int .u64 S.2.2.1)).put 3 (.int .u64 S.2.2.2))
  have HB3 := Lib.hid (keep_below hb3 HD2.out)
  rw [hS]
  clear hb3 h2 hF hS
  go_wp2_with fail
  have e0 := HP.out.at_ (i := 0) (v := .int .u64 S.1) rfl
  have e1 := HP.out.at_ (i := 1) (v := .int .u64 S.2.1) rfl
  have e2 := HP.out.at_ (i := 2) (v := .int .u64 S.2.2.1) rfl
  have e3 := HP.out.at_ (i := 3) (v := .int .u64 S.2.2.2) rfl
  refine bodyPost_ret (v := .agg (fcells S)) (by simp [results, Tryz.f14, go_sem, e0, e1, e2, e3]) rfl ⟨by rw [HF.out], below_set (below_set (below_set (below_set HB3.out _ _ _ (Nat.le_refl _)) _ _ _ (Nat.le_refl _)) _ _ _ (Nat.le_refl _)) _ _ _ (Nat.le_refl _)⟩
end Go.Proofs.YtbhkbcpljakmjaaGreat

namespace Go.Proofs.YtbhkbcpljakmjaaGreat
set_option linter.unusedVariables false
set_option linter.unusedSimpArgs false
open Go.RowKit

theorem fits_full10 {gs : List (Int × Int)} {secs pg pa size : Int} {got : List (List UInt8)} (h : fitsB gs secs pg pa size got = true) : ∀ s ∈ got, s ≠ [] → s.length = 64 := fun s hs hne => by
  unfold fitsB at h
  simp only [Bool.and_eq_true, beq_iff_eq, Bool.not_eq_true', List.any_eq_false] at h
  have h4 := h.2 s hs
  unfold fitP at h4
  cases s with
  | nil => exact absurd rfl hne
  | cons x r =>
    simp only [List.isEmpty_cons, Bool.not_false, Bool.true_and, bne_iff_ne, ne_eq, Decidable.not_not] at h4
    omega
theorem hasE_cons10 {l : List (List UInt8)} (hne : l ≠ []) (h : hasE l = false) : l.flatten.isEmpty = false := by
  cases l with
  | nil => exact absurd rfl hne
  | cons a r =>
    unfold hasE at h
    rw [List.any_cons, Bool.or_eq_false_iff] at h
    cases a with
    | nil => exact absurd h.1 (by decide)
    | cons x y => rfl
theorem flat_64 {l : List (List UInt8)} (h : ∀ x ∈ l, x.length = 64) : l.flatten.length = l.length * 64 := by
  induction l with
  | nil => rfl
  | cons a r ih =>
    rw [List.flatten_cons, List.length_append, ih (fun x hx => h x (List.mem_cons_of_mem _ hx)), h a List.mem_cons_self, List.length_cons, Nat.add_mul]
    omega
theorem again_full {L : List Col} {got : List (List UInt8)} {sz i : Nat} (hL : ParL L sz) (hi : i < L.length) (h64 : ∀ j, got.getD j [] ≠ [] → (got.getD j []).length = 64)
    (h : ∀ j, j < L.length → (L.getD j (0, 0, false, 0)).2.2.2 = (L.getD i (0, 0, false, 0)).2.2.2 → j ≠ i → got.getD j [] ≠ []) : (againS L got i).length = 64 := by
  have hne := again_ne hL hi
  have hall : ∀ x ∈ (againIx L i L.length).map (fun j => got.getD j []), x.length = 64 := fun x hx => by
    obtain ⟨j, hj, rfl⟩ := List.mem_map.1 hx
    obtain ⟨h1, h2, h3⟩ := againIx_mem.1 hj
    exact h64 j (h j h1 h2 h3)
  have hE : hasE ((againIx L i L.length).map fun j => got.getD j []) = false := by
    unfold hasE
    rw [List.any_eq_false]
    intro x hx he
    have := hall x hx
    rw [List.isEmpty_iff.1 he] at this
    cases this
  unfold againS
  simp only
  rw [hE, if_neg Bool.false_ne_true]
  rw [makeS_64 (by simpa using hne) hall]
  exact parN_len hall
section
variable {gs : List (Int × Int)} {secs pg pa size : Int} {got got' : List (List UInt8)}
theorem fits_getD (h : fitsB gs secs pg pa size got = true) (j : Nat) : got.getD j [] ≠ [] → (got.getD j []).length = 64 := fun hne => by
  rw [List.getD_eq_getElem?_getD] at hne ⊢
  cases hg : got[j]? with
  | none => rw [hg] at hne; exact absurd rfl hne
  | some s =>
    rw [hg] at hne
    exact fits_full10 h s (List.mem_of_getElem? hg) hne
theorem kind_or (h : cMay gs secs pg pa size = true) : (grAt gs pg).1 = 0 ∨ (grAt gs pg).1 = 1 := by
  obtain ⟨hhas, _⟩ := cMay_true h
  obtain ⟨g, x, rfl, _, _, _, _, hx, hgx, ho⟩ := gHas_true hhas
  rw [hgx]
  rcases gOne_true ho with h | h
  · exact .inl h.1
  · exact .inr h.1
theorem tries_mir (h : fitsB gs secs pg pa size got = true) (hk : (grAt gs pg).1 = 0) : triesL gs secs pg pa size got = mirT (colsOf gs secs pg pa size) size.toNat got (grAt gs pg).2.toNat := by
  unfold triesL
  rw [if_pos h, hk]
  rfl
theorem tries_par (h : fitsB gs secs pg pa size got = true) (hk : (grAt gs pg).1 = 1) : triesL gs secs pg pa size got = parT (colsOf gs secs pg pa size) got := by
  unfold triesL
  rw [if_pos h, hk]
  rfl
theorem parT_mem {L : List Col} {x : Int × List UInt8} : x ∈ parT L got ↔ ∃ d ∈ parDevs L, withS L got d ≠ [] ∧ x = (d, withS L got d) := by
  unfold parT
  rw [List.mem_filterMap]
  refine exists_congr fun d => and_congr Iff.rfl ?_
  unfold parOne
  cases hw : withS L got d with
  | nil => simp
  | cons a r => simp [eq_comm]
theorem colTxt_full (h : fitsB gs secs pg pa size got = true) (hk : (grAt gs pg).1 = 1) {d : Int} {i : Nat} (hi : i < (colsOf gs secs pg pa size).length) (hne : colTxt (colsOf gs secs pg pa size) got d i ≠ []) : (colTxt (colsOf gs secs pg pa size) got d i).length = 64 := by
  have hP := parL_of (fits_parts h).1 (by rw [hk]; decide)
  unfold colTxt at hne ⊢
  split
  · rename_i hd
    rw [if_pos hd] at hne
    exact again_full hP hi (fits_getD h) (again_some hne)
  · rename_i hd
    rw [if_neg hd] at hne
    exact fits_getD h i hne
/-- What a try tells is as long as the block. -/
theorem tries_64 (h : fitsB gs secs pg pa size got = true) : ∀ x ∈ triesL gs secs pg pa size got, x.2.length = size.toNat * 64 := by
  obtain ⟨hm, hgl, _⟩ := fits_parts h
  intro x hx
  rcases kind_or hm with hk | hk
  · rw [tries_mir h hk] at hx
    have hM := mirL_of hm hk
    obtain ⟨j, hj, hx⟩ := mirT_mem.1 hx
    have hb := (in_part hM.len hj hM.pos).2.2.2
    unfold mirOne at hx
    split at hx
    · cases hx
    · rename_i hE
      have hE := (Bool.not_eq_true _).mp hE
      cases hx
      show (mirPart _ got j).flatten.length = _
      have hb2 : j * size.toNat + size.toNat ≤ got.length := by rw [hgl]; exact hb
      rw [mirPart_eq hb2, flat_64, List.length_map, List.length_range]
      intro t ht
      obtain ⟨i, hi, rfl⟩ := List.mem_map.1 ht
      exact fits_getD h _ ((hasE_part hb2).1 hE i (List.mem_range.1 hi))
  · rw [tries_par h hk] at hx
    obtain ⟨d, _, hne, rfl⟩ := parT_mem.1 hx
    have hP := parL_of hm (by rw [hk]; decide)
    have hall := withS_some hne
    show (withS _ got d).length = _
    have hw : withS (colsOf gs secs pg pa size) got d = ((dataIx (colsOf gs secs pg pa size) (colsOf gs secs pg pa size).length).map (colTxt (colsOf gs secs pg pa size) got d)).flatten := by
      unfold withS at hne ⊢
      simp only at hne ⊢
      split
      · rename_i h1; rw [if_pos h1] at hne; exact absurd rfl hne
      · rfl
    rw [hw, flat_64, List.length_map]
    · have h1 := dataIx_cnt (L := colsOf gs secs pg pa size) (k := (colsOf gs secs pg pa size).length) (Nat.le_refl _)
      have h2 := congrArg List.length h1
      rw [List.length_map, List.length_range] at h2
      rw [h2]
      unfold dataCnt
      rw [List.take_length, hP.cnt]
    · intro t ht
      obtain ⟨i, hi, rfl⟩ := List.mem_map.1 ht
      obtain ⟨h1, h2⟩ := dataIx_mem.1 hi
      exact colTxt_full h hk h1 (hall i h1 h2)
/-- With fewer columns missing there still is a try. -/
theorem tries_mono (h : fitsB gs secs pg pa size got = true) (h' : fitsB gs secs pg pa size got' = true) (hsub : ∀ k, k < got.length → got'.getD k [] = [] → got.getD k [] = []) (hne : triesL gs secs pg pa size got ≠ []) : triesL gs secs pg pa size got' ≠ [] := by
  obtain ⟨hm, hgl, _⟩ := fits_parts h
  obtain ⟨_, hgl', _⟩ := fits_parts h'
  obtain ⟨x, hx⟩ := List.exists_mem_of_ne_nil _ hne
  rcases kind_or hm with hk | hk
  · rw [tries_mir h hk] at hx
    rw [tries_mir h' hk]
    have hM := mirL_of hm hk
    obtain ⟨j, hj, hx⟩ := mirT_mem.1 hx
    have hb := (in_part hM.len hj hM.pos).2.2.2
    have hb2 : j * size.toNat + size.toNat ≤ got.length := by rw [hgl]; exact hb
    have hb3 : j * size.toNat + size.toNat ≤ got'.length := by rw [hgl']; exact hb
    have hE : hasE (mirPart size.toNat got j) = false := by
      unfold mirOne at hx
      split at hx
      · cases hx
      · rename_i hE; exact (Bool.not_eq_true _).mp hE
    have h1 := (hasE_part hb2).1 hE
    have hE' : hasE (mirPart size.toNat got' j) = false := (hasE_part hb3).2 fun t ht he => h1 t ht (hsub _ (by omega) he)
    have hone : mirOne (colsOf gs secs pg pa size) size.toNat got' j = some (((colsOf gs secs pg pa size).getD (j * size.toNat) (0, 0, false, 0)).1, (mirPart size.toNat got' j).flatten) := by
      unfold mirOne
      rw [hE', if_neg Bool.false_ne_true]
    exact List.ne_nil_of_mem (mirT_mem.2 ⟨j, hj, hone⟩)
  · rw [tries_par h hk] at hx
    rw [tries_par h' hk]
    have hP := parL_of hm (by rw [hk]; decide)
    obtain ⟨d, hd, hw, rfl⟩ := parT_mem.1 hx
    have hall := withS_some hw
    have hne' : ∀ i, i < (colsOf gs secs pg pa size).length → (got.getD i [] ≠ [] → got'.getD i [] ≠ []) := fun i hi h1 h2 => h1 (hsub i (by omega) h2)
    have hall' : ∀ i, i < (colsOf gs secs pg pa size).length → ((colsOf gs secs pg pa size).getD i (0, 0, false, 0)).2.2.1 = false → colTxt (colsOf gs secs pg pa size) got' d i ≠ [] := fun i h1 h2 => by
      have h3 := hall i h1 h2
      unfold colTxt at h3 ⊢
      split
      · rename_i hd1
        rw [if_pos hd1] at h3
        have h5 := again_full hP h1 (fits_getD h') (fun j a b c => hne' j a (again_some h3 j a b c))
        exact fun e => by rw [e] at h5; cases h5
      · rename_i hd1
        rw [if_neg hd1] at h3
        exact hne' i h1 h3
    refine List.ne_nil_of_mem (parT_mem.2 ⟨d, hd, ?_, rfl⟩)
    have hl : 0 < (colsOf gs secs pg pa size).length := by
      rcases Nat.eq_zero_or_pos (colsOf gs secs pg pa size).length with h0 | h0
      · have h1 := hP.cnt
        rw [List.length_eq_zero_iff.1 h0] at h1
        have := (cMay_true hm).2.1
        simp at h1
        omega
      · exact h0
    obtain ⟨p, p1, p2, _⟩ := hP.dat 0 hl
    have hE' : hasE ((dataIx (colsOf gs secs pg pa size) (colsOf gs secs pg pa size).length).map (colTxt (colsOf gs secs pg pa size) got' d)) = false := by
      unfold hasE
      rw [List.any_eq_false]
      intro t ht he
      obtain ⟨i, hi, rfl⟩ := List.mem_map.1 ht
      obtain ⟨q1, q2⟩ := dataIx_mem.1 hi
      exact hall' i q1 q2 (List.isEmpty_iff.1 he)
    unfold withS
    simp only
    rw [hE', if_neg Bool.false_ne_true]
    intro e
    have := hasE_cons10 (l := (dataIx (colsOf gs secs pg pa size) (colsOf gs secs pg pa size).length).map (colTxt (colsOf gs secs pg pa size) got' d)) (fun e2 => by
      have := dataIx_mem.2 ⟨p1, p2⟩
      rw [List.map_eq_nil_iff.1 e2] at this
      cases this) hE'
    rw [e] at this
    cases this
end
end Go.Proofs.YtbhkbcpljakmjaaGreat
