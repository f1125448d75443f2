/-
  Plain lemmas of this claim's own: words for memory that the walks use. No program stands here.
  From a walk to the row: what the arguments look like, and that they read again.
  A byte's bounds.
  A slice of structs of one-cell fields, opened.
  Contracts of package geom: what each function answers.
  An argument that is a geometry, opened.
  Texts as values. No program stands here.
  A class of worlds for a drawn region; cells behind a new block.
  A block that is known whole; worlds in which one old block alone has turned.
-/
import Derived.WalkKit
import Derived.ProofKit
import Derived.OpenShut
import Derived.Deep.Slices
import Derived.Deep.Fields
import Derived.Lib.SmallJoins
import Derived.WalkSmall
import Derived.Lib.Hide
import Derived.Outline
import Derived.Deep.QuietTactic
import Derived.BigQuiet
import Derived.BigRegion
import Derived.Deep.RegionWith
import Derived.Deep.RegionHeld3
import Derived.Deep.AppendLies
import Derived.Test.YtlpbbjjibnbooaaGreatDoorRows
import Derived.ShutString
import Derived.ChangeMaps5
import Derived.JoinedCond
import Derived.Deep.DeepCutAuto
import Derived.Deep.MidRow
namespace Go.Proofs.YtlpbbjjibnbooaaGreatDoor
open Go.RowKit

theorem ret_int {k : IntKind} {a b : Int} (h : a = b) : Ending.returned (.int k a) = .returned (.int k b) := by rw [h]
theorem ret_bool {a b : Bool} (h : a = b) : Ending.returned (.bool a) = .returned (.bool b) := by rw [h]

theorem enters_of {P : Program} {fn : FuncId} {f : Func} (hf : P.funcs[fn]? = some f) (hn : (f.name == "runtime.NumGoroutine") = false) (hb : f.body.isNone = false) (args : Array Value) (w : World) :
    (callFunc fn args).run P w = .ok (.enter fn args) w := by
  have hn' : ¬ f.name = "runtime.NumGoroutine" := by simpa using hn
  have hb' : ¬ f.body = none := by intro h; rw [h] at hb; simp at hb
  simp [callFunc, go_sem, hf, hn', hb']

theorem bcell {W w1 : World} (hb : Below W.heap.size W w1) : (∀ b o, b < W.heap.size → w1.cell? ⟨b, o, none⟩ = W.cell? ⟨b, o, none⟩) ∧ (∀ b o, b < W.heap.size → w1.frozen? ⟨b, o, none⟩ = W.frozen? ⟨b, o, none⟩) :=
  ⟨fun b o h => hb.cell (p := ⟨b, o, none⟩) h, fun b o h => hb.frozen (p := ⟨b, o, none⟩) h⟩

theorem keep_cell {W w1 : World} {b o : Nat} {v : Value} (hb : Below W.heap.size W w1) (h : W.cell? ⟨b, o, none⟩ = some v) (hlt : b < W.heap.size) : w1.cell? ⟨b, o, none⟩ = some v :=
  (hb.cell (p := ⟨b, o, none⟩) hlt).trans h
theorem keep_below {W w1 w : World} (hb : Below W.heap.size W w1) (h : Below w.heap.size w W) : Below w.heap.size w w1 := h.trans (hb.mono h.size)
theorem keep_size {W w1 : World} {n : Nat} (hb : Below W.heap.size W w1) (h : n ≤ W.heap.size) : n ≤ w1.heap.size := Nat.le_trans h hb.size

theorem keep_alloc {W w : World} (h : Below w.heap.size w W) (o : Obj) : Below w.heap.size w (W.alloc o) := h.alloc h.size o
theorem own_slice {w : World} {base : Nat} {e : TypeId} {size : Nat} {v : Value} {n : Nat} {xs : List Value} (h : w.ownsRow base e size v n xs) : ∃ ao cp, v = .slice ao n cp := by
  rcases h.2 with ⟨rfl, rfl⟩ | ⟨g, cap, cur, rfl, _⟩
  · exact ⟨none, 0, rfl⟩
  · exact ⟨_, cap, rfl⟩

def firstAt {α : Type} (p : α → Bool) (l : List α) : Int := match l.findIdx? p with | some i => (i : Int) | none => -1
theorem firstAt_hit {α : Type} {p : α → Bool} {l : List α} {k : Nat} {x : α} (hx : l[k]? = some x) (hp : p x = true) (hno : ∀ j, j < k → ∀ x, l[j]? = some x → p x = false) : firstAt p l = k := by
  have : l.findIdx? p = some k := by
    rw [List.findIdx?_eq_some_iff_getElem]
    obtain ⟨hk, e⟩ := List.getElem?_eq_some_iff.1 hx
    refine ⟨hk, by rw [e]; exact hp, fun j hj => ?_⟩
    have := hno j hj _ (List.getElem?_eq_getElem (by omega))
    simp [this]
  simp [firstAt, this]
theorem firstAt_miss {α : Type} {p : α → Bool} {l : List α} (hno : ∀ j, j < l.length → ∀ x, l[j]? = some x → p x = false) : firstAt p l = -1 := by
  have : l.findIdx? p = none := by
    rw [List.findIdx?_eq_none_iff]
    intro x hx
    obtain ⟨j, hj, e⟩ := List.getElem_of_mem hx
    exact hno j hj x (by rw [List.getElem?_eq_getElem hj, e])
  simp [firstAt, this]
theorem firstAt_nonneg {α : Type} (p : α → Bool) (l : List α) : decide (0 ≤ firstAt p l) = l.any p := by
  rw [Bool.eq_iff_iff]
  simp only [decide_eq_true_eq, List.any_eq_true]
  unfold firstAt
  cases h : l.findIdx? p with
  | none =>
    rw [List.findIdx?_eq_none_iff] at h
    constructor
    · intro h'; simp at h'
    · rintro ⟨x, hx, hp⟩; rw [h x hx] at hp; cases hp
  | some k =>
    rw [List.findIdx?_eq_some_iff_getElem] at h
    obtain ⟨hk, hp, _⟩ := h
    exact ⟨fun _ => ⟨l[k], List.getElem_mem hk, hp⟩, fun _ => by simp⟩

/-- The cells of slice A (n elements of the given size) are xs. -/
def Reads (w : World) (size : Nat) (A : Option Addr) (n : Nat) (xs : List Value) : Prop :=
  xs.length = n * size ∧ (0 < n → ∃ b off, A = some ⟨b, off, none⟩ ∧ b < w.heap.size ∧ ∀ j u, xs[j]? = some u → w.cell? ⟨b, off + j, none⟩ = some u)

section
variable {w w' : World} {size n : Nat} {A : Option Addr} {xs : List Value}
theorem Reads.below {B : Nat} (h : Reads w size A n xs) (hb : Below B w w') (hB : w.heap.size ≤ B) : Reads w' size A n xs :=
  ⟨h.1, fun hn => by
    obtain ⟨b, off, e, hlt, hc⟩ := h.2 hn
    exact ⟨b, off, e, Nat.lt_of_lt_of_le hlt hb.size, fun j u hu => (hb.cell (p := ⟨b, off + j, none⟩) (by show b < B; omega)).trans (hc j u hu)⟩⟩
theorem Reads.drew (h : Reads w size A n xs) : Reads w.drew size A n xs := h
theorem Reads.drewN (h : Reads w size A n xs) (k : Nat) : Reads (w.drewN k) size A n xs := h
theorem Reads.alloc (h : Reads w size A n xs) (o : Obj) : Reads (w.alloc o) size A n xs := h.below ((Below.refl w.heap.size w).alloc (Nat.le_refl _) o) (Nat.le_refl _)
end
end Go.Proofs.YtlpbbjjibnbooaaGreatDoor

namespace Go.Proofs.YtlpbbjjibnbooaaGreatDoor
open Go.ChangeShapes Go.WideShapes Go.ChangeAt Go.RowKit Go.Deep Go.Joins
set_option linter.unusedVariables false

section
variable {H : Type} {enc : TypeId × Value → H} {P : Program}
theorem args_again (hl : laidOutB P = true) {W W' : World} (hb : Below W.heap.size W W') (sp : Nat → Bool) : ∀ {ts : List TypeId} {vs : List Value} {ds : List (DataW H)} {p : List MemPlace},
    (∀ t ∈ ts, P.readableRec t = true ∧ t < P.types.size) → DataW.TrodAll enc P W 0 (fun _ => true) true ts vs ds p → (∀ q ∈ p, q.block < W.heap.size) → (∀ q ∈ p, sp q.block = true) → DataW.TrodAll enc P W' 0 sp true ts vs ds p
  | [], [], [], _, _, h, _, _ => h
  | t :: ts, v :: vs, d :: ds, p, hok, h, hlt, hsp => by
    obtain ⟨p1, p2, h1, h2, e⟩ := h
    subst e
    have h0 := hok t (by simp)
    exact ⟨p1, p2, WideElems.Trod_stays hl h0.1 h0.2 h1 (fun x hx => hb.same (hlt x (by simp [hx]))) (fun x hx => hsp x (by simp [hx])),
      args_again hl hb sp (fun t ht => hok t (by simp [ht])) h2 (fun q hq => hlt q (by simp [hq])) (fun q hq => hsp q (by simp [hq])), rfl⟩
  | [], [], _ :: _, _, _, h, _, _ => by cases h
  | [], _ :: _, _, _, _, h, _, _ => by cases h
  | _ :: _, [], _, _, _, h, _, _ => by cases h
  | _ :: _, _ :: _, [], _, _, h, _, _ => by cases h

theorem post_of_below {f : Func} {s : ChangeSpec} {apart fresh handsOn again : Bool} {W W' : World} {args : Array Value} {v : Value} {ds gs : List (DataW H)} {before pa pv : List MemPlace}
    (hW : DataW.Whole enc P f.params.toList s.vars apart W args.toList ds gs before)
    (hres : ∀ (b : Nat) (sp : Nat → Bool) (hd : Bool), DataW.TrodAll enc P W' b sp hd f.resultTypes.toList (v.resultList f.resultTypes.size) (s.fn H (ds ++ gs)).results [])
    (hargs : ∀ sp : Nat → Bool, (∀ p ∈ before, sp p.block = true) → DataW.TrodAll enc P W' 0 sp true f.params.toList args.toList (s.fn H (ds ++ gs)).args pa)
    (hvars : ∀ sp : Nat → Bool, (∀ p ∈ before, sp p.block = true) → DataW.TrodVars enc P W' sp s.vars (s.fn H (ds ++ gs)).vars pv)
    (hps : before = pa ++ pv) (hb : Below W.heap.size W W')
    (hok : ∀ (j : Nat) (t : TypeId) (r : Value), f.resultTypes[j]? = some t → (v.resultList f.resultTypes.size)[j]? = some r → Value.okWide P W' .any 0 t r) :
    s.post enc P f apart fresh handsOn again W args v W' := by
  have hlt : ∀ p ∈ before, p.block < W.heap.size := fun p hp => hW.lt p hp
  have hold : ∀ p ∈ before, (fun b => decide (b < W.heap.size)) p.block = true := fun p hp => by simpa using hlt p hp
  refine ⟨ds, gs, before, [], pa, pv, hW, hres _ _ _, hargs _ hold, hvars _ hold, World.keptBut_mono (fun p hp => ⟨hp, ?_⟩) (hb.frame (· ∈ before)), fun _ => ?_⟩
  · rw [hps, List.mem_append] at hp
    exact Or.inr hp
  · obtain ⟨_, _, _, _, _, hz, hn⟩ := hW
    refine ⟨hok, _, _, ([] ++ pa) ++ pv, ⟨[] ++ pa, pv, trodAll_append (hargs _ (fun _ _ => rfl)) (hres _ _ _), hvars _ (fun _ _ => rfl), rfl, ?_, ?_⟩, ?_⟩
    · intro b off hp
      have hin : MemPlace.cell b off ∈ before := by rw [hps]; simpa using hp
      rw [hb.frozen (hlt _ hin)]
      exact hz b off hin
    · intro ha
      have := hn ha
      rw [hps] at this
      simpa using this
    · intro p hp _
      rw [hps]
      simpa using hp
end

theorem Tryz.own : ownKnob Tryz.prog.godebug = none := by kernel_rfl
theorem Tryz.laidOut : laidOutB Tryz.prog = true := by kernel_rfl
theorem i64_bd {n : Int} (h : (Lit.int .i64 n).wf = true) : -9223372036854775808 ≤ n ∧ n ≤ 9223372036854775807 := by
  simpa [Lit.wf, IntKind.min, IntKind.max, IntKind.signed, IntKind.bits] using h
theorem u64_bd {n : Int} (h : (Lit.int .u64 n).wf = true) : 0 ≤ n ∧ n ≤ 18446744073709551615 := by
  simpa [Lit.wf, IntKind.min, IntKind.max, IntKind.signed, IntKind.bits] using h
theorem ba_str (s : ByteArray) : s = ⟨s.data.toList.toArray⟩ := by cases s; simp
end Go.Proofs.YtlpbbjjibnbooaaGreatDoor

namespace Go.Proofs.YtlpbbjjibnbooaaGreatDoor
set_option linter.unusedVariables false
set_option linter.unusedSimpArgs false
end Go.Proofs.YtlpbbjjibnbooaaGreatDoor

namespace Go.Proofs.YtlpbbjjibnbooaaGreatDoor
open Go.ChangeShapes Go.WideShapes Go.ChangeAt Go.RowKit Go.Deep Go.Joins
set_option linter.unusedVariables false

section
variable {H : Type} {enc : TypeId × Value → H} {P : Program}
theorem open_slice_fields {w : World} {base : Nat} {spare : Nat → Bool} {held : Bool} {t e : TypeId} {fs : Array Field} {fuel : Nat} {cs : List Value} {x : DataW H × List MemPlace} (ht : P.underlying t = some (.slice e)) (he : P.underlying e = some (.struct fs))
    (hone : oneCellFields P fs = true) (hC : P.cellsOf e = fs.size) (h : DataW.trod enc P w base spare held fuel t cs = some x) :
    (cs = [.slice none 0 0] ∧ x = (.nil, [])) ∨
    ∃ (a : Addr) (len cap m : Nat) (D : Nat → DataW H) (Pl : Nat → List MemPlace), cs = [.slice (some a) len cap] ∧ base ≤ a.block ∧ len ≤ cap ∧ cap ≤ maxLen ∧ m = (if spare a.block then cap else len) ∧
      x = (.slice ((List.range len).map D) ((List.range (m - len)).map fun j => D (len + j)), MemPlace.row a (m * fs.size) ++ (List.range m).flatMap Pl) ∧
      ∀ i, i < m → ∃ (ys : List (DataW H × List MemPlace)) (n : Nat), D i = .agg (ys.map (·.1)) ∧ Pl i = ys.flatMap (·.2) ∧ ys.length = fs.size ∧
        ∀ (j : Nat) (f : Field), fs[j]? = some f → ∃ (v : Value) (y : DataW H × List MemPlace), w.cell? (a.add (i * fs.size + j)) = some v ∧ ys[j]? = some y ∧ DataW.trod enc P w base spare held n f.type [v] = some y := by
  rcases open_slice ht h with h0 | ⟨a, len, cap, m, n, D, Pl, hcs, hb, hl, hm, hmm, hx, hi⟩
  · exact .inl h0
  · refine .inr ⟨a, len, cap, m, D, Pl, hcs, hb, hl, hm, hmm, by rw [hC] at hx; exact hx, fun i him => ?_⟩
    obtain ⟨cs', hc, ht'⟩ := hi i him
    rw [hC] at hc
    obtain ⟨ys, n', hn', hy, hlen, hyl, hf⟩ := DataW.trod_struct he ht'
    obtain ⟨_, hcl, hat⟩ := World.cells?_some hc
    simp only [Prod.mk.injEq] at hy
    refine ⟨ys, n', hy.1, hy.2, hyl, fun j f hj => ?_⟩
    obtain ⟨ho, hk⟩ := hone_of hone j f hj
    have hjl : j < fs.size := (Array.getElem?_eq_some_iff.1 hj).1
    have hcell := hat j hjl
    have hv : cs'[j]? = some (cs'[j]'(by omega)) := List.getElem?_eq_getElem (by omega)
    have h1 := hf j f hj
    rw [ho, hk] at h1
    have hone' : (cs'.drop j).take 1 = [cs'[j]'(by omega)] := by
      rw [List.drop_eq_getElem_cons (by omega)]
      rfl
    rw [hone'] at h1
    have hys : ys[j]? = some (ys[j]'(by omega)) := List.getElem?_eq_getElem (by omega)
    refine ⟨_, _, ?_, hys, h1.trans hys⟩
    rw [← Go.Deep.add_add, hcell, hv]
end

end Go.Proofs.YtlpbbjjibnbooaaGreatDoor

namespace Go.Proofs.YtlpbbjjibnbooaaGreatDoor
open Go.RowKit
set_option linter.unusedVariables false

def gOne (x : Int × Int) : Bool := (x.1 == 0 && (decide (1 ≤ x.2) && decide (x.2 ≤ 8))) || (x.1 == 1 && (decide (3 ≤ x.2) && decide (x.2 ≤ 8)))
def gRight (gs : List (Int × Int)) (secs : Int) : Bool := decide (1 ≤ gs.length) && decide (gs.length ≤ 4) && decide (24 ≤ secs) && decide (secs ≤ 4096) && gs.all gOne
/-- The groups gs lie in memory from b, off on. -/
def GsAt (w : World) (b off : Nat) (gs : List (Int × Int)) : Prop :=
  b < w.heap.size ∧ ∀ (i : Nat) (x : Int × Int), gs[i]? = some x → w.cell? ⟨b, off + i * 2, none⟩ = some (.int .i64 x.1) ∧ w.cell? ⟨b, off + i * 2 + 1, none⟩ = some (.int .i64 x.2)

theorem GsAt.below {w w' : World} {b off B : Nat} {gs : List (Int × Int)} (h : GsAt w b off gs) (hb : Below B w w') (hB : w.heap.size ≤ B) : GsAt w' b off gs := by
  have hlt := h.1
  have hsz := hb.size
  refine ⟨by omega, fun i x hx => ?_⟩
  obtain ⟨h1, h2⟩ := h.2 i x hx
  exact ⟨(hb.cell (p := ⟨b, off + i * 2, none⟩) (by show b < B; omega)).trans h1, (hb.cell (p := ⟨b, off + i * 2 + 1, none⟩) (by show b < B; omega)).trans h2⟩

theorem one_any (k wd : Int) (w : World) :
    Calls Tryz.prog 65 #[.agg #[.int .i64 k, .int .i64 wd]] w fun e w' => e = .returned (.bool (gOne (k, wd))) ∧ Below w.heap.size w w' := by
  go_enter Tryz.func65, Tryz.ntmps65
  go_wp2
  all_goals go_ret
  all_goals refine ⟨ret_bool ?_, (Below.refl _ _).alloc (Nat.le_refl _) _⟩
  all_goals simp_all [gOne]
  all_goals omega

theorem right1_any (k wd : Int) (w : World) :
    Calls Tryz.prog 64 #[.agg #[.int .i64 k, .int .i64 wd]] w fun e w' => e = .returned (.bool (!gOne (k, wd))) ∧ Below w.heap.size w w' := by
  go_enter Tryz.func64, Tryz.ntmps64
  go_wp2_with (go_at_call 65; refine (one_any _ _ _).mono ?_; rintro e w' ⟨rfl, hb1⟩)
  go_ret
  refine ⟨rfl, ((Below.refl _ _).alloc (Nat.le_refl _) _).trans (hb1.mono (by simp))⟩

/-- A call of function fn enters it. -/
def Goes (fn : FuncId) : Prop := ∀ (args : Array Value) (w : World), (callFunc fn args).run Tryz.prog w = .ok (.enter fn args) w

/-- What a predicate on groups answers, wherever it is called. -/
def GrPred (fn : FuncId) (caps : Array Value) (p : Int × Int → Bool) (B : Nat) (w0 : World) : Prop :=
  ∀ (x : Int × Int) (w : World), Below B w0 w → Calls Tryz.prog fn (#[.agg #[.int .i64 x.1, .int .i64 x.2]] ++ caps) w fun e w' => e = .returned (.bool (p x)) ∧ Below w.heap.size w w'

theorem indexGr_any (fn : FuncId) (caps : Array Value) (p : Int × Int → Bool) (b off n c : Nat) (gs : List (Int × Int)) (w : World) (hn : gs.length = n) (hn2 : n ≤ 9223372036854775807)
    (hr : GsAt w b off gs) (hgo : Goes fn) (hp : GrPred fn caps p w.heap.size w) :
    Calls Tryz.prog 97 #[.slice (some ⟨b, off, none⟩) n c, .func (.func fn) #[] caps] w fun e w' =>
      e = .returned (.int .i64 (firstAt p gs)) ∧ Below w.heap.size w w' := by
  have HP := Lib.hid hp
  clear hp
  unfold Goes at hgo
  go_enter Tryz.func97, Tryz.ntmps97
  go_wp2
  go_loopw [8] (fun t wr => ∃ k : Nat, k ≤ n ∧ t = .int .i64 k ∧ Below w.heap.size w wr ∧ (∀ j, j < k → ∀ x, gs[j]? = some x → p x = false)) (fun t _ => n - (RowKit.intOf t).toNat)
  case atStart => exact ⟨0, Nat.zero_le _, rfl, Below.refl _ _, fun j hj => absurd hj (by omega)⟩
  case round =>
    obtain ⟨k, hk, rfl, hb, hno⟩ := hrel
    by_cases hlt : k < n
    · obtain ⟨x, hx⟩ : ∃ x, gs[k]? = some x := ⟨_, List.getElem?_eq_getElem (by omega)⟩
      obtain ⟨hc1, hc2⟩ := (hr.below hb (Nat.le_refl _)).2 k x hx
      have HX := Lib.hid hx
      have HN := Lib.hid hno
      clear hx hno
      go_wp2_with fail
      refine (HP.out x wr hb).mono ?_
      rintro e w1 ⟨rfl, hb1⟩
      go_wp2_with fail
      · go_ret
        exact ⟨ret_int (firstAt_hit HX.out (by assumption) HN.out).symm, hb.trans (hb1.mono hb.size)⟩
      · go_roundw
        case rel =>
          refine ⟨k + 1, by omega, by go_num, hb.trans (hb1.mono hb.size), fun j hj y hy => ?_⟩
          rcases Nat.lt_or_ge j k with h | h
          · exact HN.out j h y hy
          · obtain rfl : j = k := by omega
            rw [HX.out] at hy
            cases hy
            assumption
        case measure => simp [RowKit.intOf]; omega
    · go_wp2_with fail
      go_ret
      exact ⟨ret_int (firstAt_miss fun j hj x hx => hno j (by omega) x hx).symm, hb⟩

theorem containsGr_any (fn : FuncId) (caps : Array Value) (p : Int × Int → Bool) (b off n c : Nat) (gs : List (Int × Int)) (w : World) (hn : gs.length = n) (hn2 : n ≤ 9223372036854775807)
    (hr : GsAt w b off gs) (hgo : Goes fn) (hp : GrPred fn caps p w.heap.size w) :
    Calls Tryz.prog 63 #[.slice (some ⟨b, off, none⟩) n c, .func (.func fn) #[] caps] w fun e w' =>
      e = .returned (.bool (gs.any p)) ∧ Below w.heap.size w w' := by
  have H := Lib.hid (indexGr_any fn caps p b off n c gs w hn hn2 hr hgo hp)
  clear hp hgo hr
  go_enter Tryz.func63, Tryz.ntmps63
  go_wp2_with fail
  refine H.out.mono ?_
  rintro e w1 ⟨rfl, hb1⟩
  go_wp2_with fail
  go_ret
  exact ⟨ret_bool (firstAt_nonneg _ _), hb1⟩

/-- The groups of a measure lie in memory. -/
def GeoAt (w : World) (A : Option Addr) (n : Nat) (gs : List (Int × Int)) : Prop :=
  gs.length = n ∧ n ≤ 9223372036854775807 ∧ (0 < n → ∃ b off, A = some ⟨b, off, none⟩ ∧ GsAt w b off gs)

theorem GeoAt.below {w w' : World} {A : Option Addr} {n B : Nat} {gs : List (Int × Int)} (h : GeoAt w A n gs) (hb : Below B w w') (hB : w.heap.size ≤ B) : GeoAt w' A n gs :=
  ⟨h.1, h.2.1, fun hn => by
    obtain ⟨b, off, e, hg⟩ := h.2.2 hn
    exact ⟨b, off, e, hg.below hb hB⟩⟩

theorem goes36 : Goes 64 := enters_of Tryz.func64 (by kernel_rfl) (by kernel_rfl)

theorem right_any (A : Option Addr) (n c : Nat) (gs : List (Int × Int)) (secs : Int) (w : World) (hg : GeoAt w A n gs) :
    Calls Tryz.prog 24 #[.agg #[.slice A n c, .int .i64 secs]] w fun e w' => e = .returned (.bool (gRight gs secs)) ∧ Below w.heap.size w w' := by
  obtain ⟨hl, hn2, hg⟩ := hg
  by_cases hn : n = 0
  · subst hn
    have hgr : Hid (gRight gs secs = false) := by simp [Hid, gRight, hl]
    clear hg hl
    go_enter Tryz.func24, Tryz.ntmps24
    go_wp2
    go_ret
    exact ⟨ret_bool hgr.out.symm, (Below.refl _ _).alloc (Nat.le_refl _) _⟩
  · obtain ⟨b, off, rfl, hgs⟩ := hg (by omega)
    clear hg
    by_cases hbad : 4 < n ∨ secs < 24 ∨ 4096 < secs
    · have hgr : Hid (gRight gs secs = false) := by unfold Hid gRight; rw [hl]; simp; omega
      have hn1 : (1 : Int) ≤ n := by omega
      clear hgs hl
      go_enter Tryz.func24, Tryz.ntmps24
      go_wp2
      all_goals go_ret
      all_goals exact ⟨ret_bool (by rw [hgr.out]), (Below.refl _ _).alloc (Nat.le_refl _) _⟩
    · have hgr : Hid (gRight gs secs = !(gs.any fun x => !gOne x)) := by
        have e : gs.all gOne = !(gs.any fun x => !gOne x) := by rw [List.all_eq_not_any_not]
        unfold Hid gRight; rw [hl, e, decide_eq_true (by omega), decide_eq_true (by omega), decide_eq_true (by omega), decide_eq_true (by omega)]
        rfl
      have h1 : (1 : Int) ≤ n := by omega
      have h2 : (n : Int) ≤ 4 := by omega
      have h3 : 24 ≤ secs := by omega
      have h4 : secs ≤ 4096 := by omega
      clear hbad
      go_enter Tryz.func24, Tryz.ntmps24
      go_wp2_with fail
      have hb0 : Below w.heap.size w (w.alloc (Obj.cells #[Value.slice (some ⟨b, off, none⟩) n c, Value.int IntKind.i64 secs] 24)) := (Below.refl _ _).alloc (Nat.le_refl _) _
      refine (containsGr_any 64 #[] (fun x => !gOne x) b off n c gs _ hl hn2 (hgs.below hb0 (Nat.le_refl _)) goes36 (fun x w2 _ => right1_any x.1 x.2 w2)).mono ?_
      rintro e w1 ⟨rfl, hb1⟩
      go_wp2
      go_ret
      exact ⟨ret_bool hgr.out.symm, hb0.trans (hb1.mono (by simp))⟩

def gHas (gs : List (Int × Int)) (secs : Int) (g : Int) : Bool := gRight gs secs && decide (0 ≤ g) && decide (g < gs.length)

theorem has_any (A : Option Addr) (n c : Nat) (gs : List (Int × Int)) (secs g : Int) (w : World) (hg : GeoAt w A n gs) :
    Calls Tryz.prog 142 #[.agg #[.slice A n c, .int .i64 secs], .int .i64 g] w fun e w' => e = .returned (.bool (gHas gs secs g)) ∧ Below w.heap.size w w' := by
  have hl := Lib.hid hg.1
  have hb0 : Below w.heap.size w (w.alloc (Obj.cells #[Value.slice A n c, Value.int IntKind.i64 secs] 24)) := (Below.refl _ _).alloc (Nat.le_refl _) _
  have H := Lib.hid (right_any A n c gs secs (w.alloc (Obj.cells #[Value.slice A n c, Value.int IntKind.i64 secs] 24)) (hg.below hb0 (Nat.le_refl _)))
  clear hg
  go_enter Tryz.func142, Tryz.ntmps142
  go_wp2_with fail
  refine H.out.mono ?_
  rintro e w1 ⟨rfl, hb1⟩
  have hb2 := hb0.trans (hb1.mono (by simp))
  have hc1 := hb1.cell (p := ⟨w.heap.size, 0, none⟩) (by simp)
  simp at hc1
  clear hc1
  obtain ⟨hc, hf⟩ := bcell hb1
  go_wp2
  all_goals go_ret
  all_goals refine ⟨ret_bool ?_, hb2⟩
  all_goals have hl' := hl.out
  all_goals simp [gHas, *]
  all_goals try omega

def grAt (gs : List (Int × Int)) (g : Int) : Int × Int := gs.getD g.toNat (0, 0)
def gTake1 (x : Int × Int) (size : Int) : Int := if x.1 == 0 then size else (size + (size + x.2 - 2) / (x.2 - 1)) + (size + (size + x.2 - 2) / (x.2 - 1)) % 2
def gTakes (gs : List (Int × Int)) (secs g size : Int) : Int := if gHas gs secs g && decide (1 ≤ size) && decide (size ≤ 4) then gTake1 (grAt gs g) size else 0

theorem gHas_true {gs : List (Int × Int)} {secs g : Int} (h : gHas gs secs g = true) : ∃ (k : Nat) (x : Int × Int), g = k ∧ k < gs.length ∧ gs.length ≤ 4 ∧ 24 ≤ secs ∧ secs ≤ 4096 ∧ gs[k]? = some x ∧ grAt gs k = x ∧ gOne x = true := by
  simp only [gHas, gRight, Bool.and_eq_true, decide_eq_true_eq, List.all_eq_true] at h
  obtain ⟨⟨⟨⟨⟨⟨h1, h2⟩, h3⟩, h4⟩, h5⟩, h6⟩, h7⟩ := h
  have hk : g.toNat < gs.length := by omega
  refine ⟨g.toNat, gs[g.toNat], by omega, hk, h2, h3, h4, List.getElem?_eq_getElem hk, ?_, h5 _ (List.getElem_mem hk)⟩
  unfold grAt
  rw [Int.toNat_natCast, List.getD_eq_getElem?_getD, List.getElem?_eq_getElem hk]
  rfl
theorem gOne_true {x : Int × Int} (h : gOne x = true) : (x.1 = 0 ∧ 1 ≤ x.2 ∧ x.2 ≤ 8) ∨ (x.1 = 1 ∧ 3 ≤ x.2 ∧ x.2 ≤ 8) := by
  simpa [gOne] using h

theorem par_rows {size wd : Int} (h1 : 1 ≤ size) (h2 : size ≤ 4) (h3 : 3 ≤ wd) (h4 : wd ≤ 8) : 1 ≤ (size + wd - 2) / (wd - 1) ∧ (size + wd - 2) / (wd - 1) ≤ 2 := by
  have : wd = 3 ∨ wd = 4 ∨ wd = 5 ∨ wd = 6 ∨ wd = 7 ∨ wd = 8 := by omega
  rcases this with rfl | rfl | rfl | rfl | rfl | rfl <;> omega

theorem takes_any (A : Option Addr) (n c : Nat) (gs : List (Int × Int)) (secs g size : Int) (w : World) (hg : GeoAt w A n gs) :
    Calls Tryz.prog 131 #[.agg #[.slice A n c, .int .i64 secs], .int .i64 g, .int .i64 size] w fun e w' => e = .returned (.int .i64 (gTakes gs secs g size)) ∧ Below w.heap.size w w' := by
  have hb0 : Below w.heap.size w (w.alloc (Obj.cells #[Value.slice A n c, Value.int IntKind.i64 secs] 24)) := (Below.refl _ _).alloc (Nat.le_refl _) _
  have H := Lib.hid (has_any A n c gs secs g (w.alloc (Obj.cells #[Value.slice A n c, Value.int IntKind.i64 secs] 24)) (hg.below hb0 (Nat.le_refl _)))
  by_cases hh : gHas gs secs g = true
  · obtain ⟨k, x, rfl, hk, hl4, hs1, hs2, hx, hgx, ho⟩ := gHas_true hh
    have ho' := gOne_true ho
    obtain ⟨b, off, rfl, hgs⟩ := hg.2.2 (by have := hg.1; omega)
    have hl := hg.1
    have hkn : (k : Int) < n := by omega
    have HX := Lib.hid hx
    have HH := Lib.hid hh
    by_cases hz : 1 ≤ size ∧ size ≤ 4
    · obtain ⟨hz1, hz2⟩ := hz
      have ht : Hid (gTakes gs secs k size = gTake1 x size) := by unfold Hid gTakes; rw [hh, hgx, decide_eq_true hz1, decide_eq_true hz2]; rfl
      clear hx hgx hh hl hg
      obtain ⟨kd, wd⟩ := x
      rcases ho' with ⟨e, hw1, hw2⟩ | ⟨e, hw1, hw2⟩
      all_goals
        simp only at e hw1 hw2
        subst e
        have hq := fun h3 : 3 ≤ wd => par_rows hz1 hz2 h3 hw2
        first | (have hq1 := (hq (by omega)).1; have hq2 := (hq (by omega)).2; clear hq) | clear hq
        go_enter Tryz.func131, Tryz.ntmps131
        go_wp2_with fail
        refine H.out.mono ?_
        rintro e w1 ⟨rfl, hb1⟩
        have hb2 := hb0.trans (hb1.mono (by simp))
        obtain ⟨hc1, hc2⟩ := (hgs.below hb2 (Nat.le_refl _)).2 k _ HX.out
        obtain ⟨hc, hf⟩ := bcell hb1
        have hh := HH.out
        have hsz := hb1.size
        simp at hsz
        go_wp2
        go_ret
        refine ⟨ret_int ?_, hb2.alloc (by omega) _⟩
        rw [ht.out]
        simp [gTake1]
    · have ht : Hid (gTakes gs secs k size = 0) := by
        unfold Hid gTakes; rw [if_neg]; simp; omega
      clear hx hgx hh hl hgs hg
      go_enter Tryz.func131, Tryz.ntmps131
      go_wp2_with fail
      refine H.out.mono ?_
      rintro e w1 ⟨rfl, hb1⟩
      have hb2 := hb0.trans (hb1.mono (by simp))
      obtain ⟨hc, hf⟩ := bcell hb1
      have hh := HH.out
      go_wp2
      all_goals first | (exfalso; omega) | go_ret
      all_goals exact ⟨ret_int ht.out.symm, hb2⟩
  · have hh' : gHas gs secs g = false := by simpa using hh
    have ht : Hid (gTakes gs secs g size = 0) := by unfold Hid gTakes; rw [hh']; rfl
    clear hg hh
    have HH := Lib.hid hh'
    clear hh'
    go_enter Tryz.func131, Tryz.ntmps131
    go_wp2_with fail
    refine H.out.mono ?_
    rintro e w1 ⟨rfl, hb1⟩
    have hb2 := hb0.trans (hb1.mono (by simp))
    obtain ⟨hc, hf⟩ := bcell hb1
    have hh := HH.out
    go_wp2
    go_ret
    exact ⟨ret_int ht.out.symm, hb2⟩
end Go.Proofs.YtlpbbjjibnbooaaGreatDoor

namespace Go.Proofs.YtlpbbjjibnbooaaGreatDoor
open Go.ChangeShapes Go.WideShapes Go.ChangeAt Go.RowKit Go.Deep Go.Joins
set_option linter.unusedVariables false

section
variable {H : Type} {enc : TypeId × Value → H} {w : World} {base : Nat} {spare : Nat → Bool} {held : Bool}
set_option maxRecDepth 100000 in
theorem open_geom {b0 : Nat} {v : Value} {d : DataW H} {p : List MemPlace} (hv : Value.okWide Tryz.prog w .any b0 24 v) (h : DataW.Trod enc Tryz.prog w base spare held 24 v d p) (hlt : ∀ q ∈ p, q.block < w.heap.size) :
    ∃ (A : Option Addr) (n c : Nat) (gs : List (Int × Int)) (secs : Int), v = .agg #[.slice A n c, .int .i64 secs] ∧ GeoAt w A n gs ∧ -9223372036854775808 ≤ secs ∧ secs ≤ 9223372036854775807 := by
  obtain ⟨c0, c1, y0, y1, m, rfl, rfl, rfl, hy0, hy1⟩ := open_agg2 Tryz.underlying24 (by kernel_rfl) (by kernel_rfl) hv h
  obtain ⟨secs, e1, rfl, ws⟩ := DataW.trod_int Tryz.underlying3 hy1
  simp at e1
  subst e1
  obtain ⟨hs1, hs2⟩ := i64_bd ws
  rcases open_slice_fields Tryz.underlying22 Tryz.underlying71 (by kernel_rfl) (by kernel_rfl) hy0 with ⟨hcs, _⟩ | ⟨a, len, cap, mm, D, Pl, hcs, hba, hl, hm, hmm, hx, hi⟩
  · simp at hcs
    subst hcs
    exact ⟨none, 0, 0, [], secs, rfl, ⟨rfl, by omega, fun h => absurd h (by omega)⟩, hs1, hs2⟩
  · simp at hcs
    subst hcs
    have hlm : len ≤ mm := by rw [hmm]; split <;> omega
    have key : ∀ i, i < len → ∃ x : Int × Int, w.cell? (a.add (i * 2)) = some (.int .i64 x.1) ∧ w.cell? (a.add (i * 2 + 1)) = some (.int .i64 x.2) := by
      intro i hil
      obtain ⟨ys, n', _, _, _, hf⟩ := hi i (by omega)
      obtain ⟨v0, z0, hc0, _, ht0⟩ := hf 0 _ rfl
      obtain ⟨v1, z1, hc1, _, ht1⟩ := hf 1 _ rfl
      obtain ⟨n0, e0, _, _⟩ := DataW.trod_int Tryz.underlying3 ht0
      obtain ⟨n1, e1, _, _⟩ := DataW.trod_int Tryz.underlying3 ht1
      simp at e0 e1
      subst e0 e1
      exact ⟨(n0, n1), hc0, hc1⟩
    have hch : ∃ f : Nat → Int × Int, ∀ i, i < len → w.cell? (a.add (i * 2)) = some (.int .i64 (f i).1) ∧ w.cell? (a.add (i * 2 + 1)) = some (.int .i64 (f i).2) := by
      refine ⟨fun i => if h : i < len then Classical.choose (key i h) else (0, 0), fun i hi => ?_⟩
      simp only [hi, dif_pos]
      exact Classical.choose_spec (key i hi)
    obtain ⟨f, hf⟩ := hch
    refine ⟨some a, len, cap, (List.range len).map f, secs, rfl, ⟨by simp, by unfold maxLen at hm; omega, fun hn => ?_⟩, hs1, hs2⟩
    obtain ⟨b, off, spot⟩ := a
    have h0 := (hf 0 hn).1
    have hspot : spot = none := by simpa [Addr.add] using World.cell?_spot (by simpa [Addr.add] using h0)
    subst hspot
    refine ⟨b, off, rfl, World.block_lt_of_cell? w _ (by simpa [Addr.add] using h0 : w.cell? ⟨b, off, none⟩ = _), fun i x hx => ?_⟩
    have hil : i < len := by
      have := (List.getElem?_eq_some_iff.1 hx).1
      simpa using this
    have hx' : x = f i := by simpa [hil] using hx.symm
    subst hx'
    have := hf i hil
    rw [WideShapes.add_plain, WideShapes.add_plain] at this
    exact this
end
end Go.Proofs.YtlpbbjjibnbooaaGreatDoor

namespace Go.Proofs.YtlpbbjjibnbooaaGreatDoor
set_option linter.unusedVariables false
set_option linter.unusedSimpArgs false
open Go.RowKit

/-- A text as a value. -/
abbrev str (l : List UInt8) : Value := .string ⟨l.toArray⟩
theorem ret_str {a b : List UInt8} (h : a = b) : Ending.returned (str a) = .returned (str b) := by rw [h]
end Go.Proofs.YtlpbbjjibnbooaaGreatDoor

namespace Go.Proofs.YtlpbbjjibnbooaaGreatDoor
open Go.RowKit

theorem cell_alloc {W : World} {b o : Nat} {v : Value} (h : W.cell? ⟨b, o, none⟩ = some v) (X : Obj) : (W.alloc X).cell? ⟨b, o, none⟩ = some v :=
  (World.cell?_alloc_lt W X _ (World.block_lt_of_cell? W _ h)).trans h
theorem cell_new {W : World} {k o : Nat} {cs : Array Value} {t : TypeId} {v : Value} (hk : k = W.heap.size) (h : cs[o]? = some v) : (W.alloc (.cells cs t)).cell? ⟨k, o, none⟩ = some v := by
  subst hk
  rw [cell_of_row _ _ _ cs t (0, 0) (heap_alloc_new W _)]
  exact h
theorem wp_region_cls {P : Program} {id : Nat} {Q : Exit → Act → World → Prop} {a : Act} {w : World} {l : List Oper} (C : World → Prop) (hm : P.follows .mixedOrders = true) (hB : Region.lexB .any l.toArray = true)
    (hC : C w.drew) (h : wpQuiet P l.toArray C (fun a' => ∀ w', C w' → Q .normal a' w') l a) : (Code.region id l.toArray true).wp P Q a w :=
  wp_region_quiet (C := C) hm hB hC (by simpa using h)
/-- The class: what lay below is as it was. -/
theorem cls_below (w : World) : ∃ C : World → Prop, C w.drew ∧ C w ∧ (∀ W, C W → Below w.heap.size w W) ∧ (∀ W W', C W → Below W.heap.size W W' → C W') ∧ (∀ W n, C W → C (W.drewN n)) :=
  ⟨fun W => Below w.heap.size w W, (Below.refl _ _).drew, Below.refl _ _, fun _ h => h, fun _ _ h h' => h.trans (h'.mono h.size), fun _ _ h => ⟨h.os, h.tape, h.output, h.size, h.block⟩⟩
end Go.Proofs.YtlpbbjjibnbooaaGreatDoor

namespace Go.Proofs.YtlpbbjjibnbooaaGreatDoor
set_option linter.unusedVariables false
set_option linter.unusedSimpArgs false
open Go.RowKit

/-- A mark: the walk stands at a region that draws its order (go_step would try long there). -/
theorem drawn_mark {P : Program} {id : Nat} {ops : Array Oper} {Q : Exit → Act → World → Prop} {a : Act} {w : World} (h : (Code.region id ops true).wp P Q a w) : (Code.region id ops true).wp P Q a w := h

/-- Block g is just these cells. -/
def Blk (w : World) (g : Nat) (t : TypeId) (cs : Array Value) : Prop := w.heap[g]? = some (.cells cs t (0, 0))
section
variable {w w' : World} {g : Nat} {t : TypeId} {cs : Array Value}
theorem Blk.lt (h : Blk w g t cs) : g < w.heap.size := lt_of_block h
theorem Blk.at_ (h : Blk w g t cs) {i : Nat} {v : Value} (hv : cs[i]? = some v) : w.cell? ⟨g, i, none⟩ = some v := (cell_of_row w g i cs t (0, 0) h).trans hv
theorem Blk.fr (h : Blk w g t cs) (i : Nat) : w.frozen? ⟨g, i, none⟩ = false := by unfold Blk at h; simp [World.frozen?, h]
theorem Blk.new (w : World) (t : TypeId) (cs : Array Value) : Blk (w.alloc (.cells cs t)) w.heap.size t cs := heap_alloc_new w _
theorem Blk.new2 (w : World) (o : Obj) (t : TypeId) (cs : Array Value) : Blk ((w.alloc o).alloc (.cells cs t)) (w.heap.size + 1) t cs := by
  have := Blk.new (w.alloc o) t cs
  rwa [World.size_alloc] at this
theorem Blk.drew (h : Blk w g t cs) : Blk w.drew g t cs := h
theorem Blk.drewN (h : Blk w g t cs) (n : Nat) : Blk (w.drewN n) g t cs := h
theorem Blk.alloc (h : Blk w g t cs) (o : Obj) : Blk (w.alloc o) g t cs := (Below.heap_alloc w o g h.lt).trans h
theorem Blk.put (h : Blk w g t cs) (i : Nat) (u : Value) : Blk (w.setCell ⟨g, i, none⟩ u) g t (cs.setIfInBounds i u) := by
  unfold Blk at h ⊢
  simp [World.setCell, Array.getElem?_modify, h]
theorem Blk.far (h : Blk w g t cs) {p : Addr} (hp : g ≠ p.block) (u : Value) : Blk (w.setCell p u) g t cs := (Below.heap_setCell w p u g hp).trans h
theorem Blk.below {B : Nat} (h : Blk w g t cs) (hb : Below B w w') (hg : g < B) : Blk w' g t cs := (hb.block g hg).trans h
theorem Blk.grown {r : Nat} (h : Blk w g t cs) (hG : w.grownBy w' (some r)) (hne : g ≠ r) : Blk w' g t cs := (hG.block g h.lt (fun e => hne (by injection e))).trans h
end

/-- Cells from o on, written one after the other. -/
def wrFrom (A : Array Value) (o : Nat) : List Value → Array Value
  | [] => A
  | v :: r => wrFrom (A.setIfInBounds o v) (o + 1) r
theorem wrFrom_get : ∀ (vs : List Value) (A : Array Value) (o i : Nat), o + vs.length ≤ A.size → (wrFrom A o vs)[i]? = if o ≤ i ∧ i < o + vs.length then vs[i - o]? else A[i]?
  | [], A, o, i, _ => by rw [if_neg (by rw [List.length_nil]; omega)]; rfl
  | v :: r, A, o, i, h => by
    rw [List.length_cons] at h
    rw [wrFrom, wrFrom_get r _ _ _ (by rw [Array.size_setIfInBounds]; omega), Array.getElem?_setIfInBounds]
    by_cases h1 : o = i
    · subst h1
      rw [if_neg (by omega), if_pos rfl, if_pos (by omega), if_pos (by rw [List.length_cons]; omega), Nat.sub_self]; rfl
    · by_cases h2 : o + 1 ≤ i ∧ i < o + 1 + r.length
      · rw [if_pos h2, if_pos (by rw [List.length_cons]; omega), show i - o = (i - (o + 1)) + 1 by omega]; rfl
      · rw [if_neg h2, if_neg h1, if_neg (by rw [List.length_cons]; omega)]
theorem wrFrom_all (A : Array Value) (vs : List Value) (h : A.size = vs.length) : wrFrom A 0 vs = vs.toArray := by
  have hsz : ∀ (vs : List Value) (A : Array Value) (o : Nat), (wrFrom A o vs).size = A.size := by
    intro vs
    induction vs with
    | nil => intro A o; rfl
    | cons v r ih => intro A o; rw [wrFrom, ih]; simp
  apply Array.ext_getElem?
  intro i
  rw [wrFrom_get vs A 0 i (by omega)]
  by_cases hi : i < vs.length
  · rw [if_pos (by omega)]; simp
  · rw [if_neg (by omega), Array.getElem?_eq_none (by omega), Array.getElem?_eq_none (by simp; omega)]
theorem Blk.puts {g : Nat} {t : TypeId} : ∀ (vs : List Value) (o : Nat) {w : World} {A : Array Value}, Blk w g t A → Blk (w.setCells g o vs) g t (wrFrom A o vs)
  | [], _, _, _, h => h
  | v :: r, o, _, _, h => by
    rw [World.setCells, wrFrom]
    exact Blk.puts r (o + 1) (h.put o v)
theorem Blk.putAll {g : Nat} {t : TypeId} {w : World} {A : Array Value} (h : Blk w g t A) (vs : Array Value) (hs : A.size = vs.size) : Blk (w.setCells g 0 vs.toList) g t vs := by
  have := h.puts vs.toList 0
  rwa [wrFrom_all A vs.toList (by simpa using hs)] at this
theorem below_sets {B : Nat} {a : World} {g : Nat} : ∀ (vs : List Value) (o : Nat) {w : World}, Below B a w → B ≤ g → Below B a (w.setCells g o vs)
  | [], _, _, h, _ => h
  | v :: r, o, _, h, hg => by
    rw [World.setCells]
    exact below_sets r (o + 1) (Below.setCell h hg v) hg
theorem Blk.fars {g b : Nat} {t : TypeId} {A : Array Value} (hne : g ≠ b) : ∀ (vs : List Value) (o : Nat) {w : World}, Blk w g t A → Blk (w.setCells b o vs) g t A
  | [], _, _, h => h
  | v :: r, o, _, h => by
    rw [World.setCells]
    exact Blk.fars hne r (o + 1) (h.far (by simpa using hne) v)
theorem Blk.there {g : Nat} {t : TypeId} {w : World} {A : Array Value} (h : Blk w g t A) {o n : Nat} (hn : o + n ≤ A.size) : w.there g o n := fun j hj => by
  refine ⟨?_, h.fr _⟩
  rw [h.at_ (Array.getElem?_eq_getElem (by omega))]; rfl

section
variable {a w w' : World} {r : Nat}
theorem below_set {B : Nat} (h : Below B a w) (g i : Nat) (u : Value) (hg : B ≤ g) : Below B a (w.setCell ⟨g, i, none⟩ u) := Below.setCell h hg u
theorem only_then {b : Nat} (h : a.grownBy w (some r)) (k : w.grownBy w' (some b)) (hb : b = r ∨ a.heap.size ≤ b) : a.grownBy w' (some r) :=
  ⟨k.os.trans h.os, k.tape.trans h.tape, k.output.trans h.output, Nat.le_trans h.size k.size, fun i hi hne => (k.block i (Nat.lt_of_lt_of_le hi h.size) (by
    intro e
    injection e with e
    rcases hb with hb | hb
    · exact hne (by rw [e, hb])
    · omega)).trans (h.block i hi hne)⟩
theorem only_alloc (h : a.grownBy w (some r)) (o : Obj) : a.grownBy (w.alloc o) (some r) :=
  ⟨h.os, h.tape, h.output, Nat.le_trans h.size (by simp), fun i hi hne => (Below.heap_alloc w o i (Nat.lt_of_lt_of_le hi h.size)).trans (h.block i hi hne)⟩
theorem only_set (h : a.grownBy w (some r)) {p : Addr} (hp : p.block = r ∨ a.heap.size ≤ p.block) (u : Value) : a.grownBy (w.setCell p u) (some r) :=
  ⟨h.os, h.tape, h.output, by simpa [World.setCell] using h.size, fun i hi hne => (Below.heap_setCell w p u i (by
    rintro rfl
    rcases hp with hp | hp
    · exact hne (by rw [hp])
    · omega)).trans (h.block i hi hne)⟩
/-- What turned is new: then nothing old has. -/
theorem below_only (h : Below a.heap.size a w) (hG : w.grownBy w' (some r)) (hr : a.heap.size ≤ r) : Below a.heap.size a w' :=
  ⟨hG.os.trans h.os, hG.tape.trans h.tape, hG.output.trans h.output, Nat.le_trans h.size hG.size, fun i hi => (hG.block i (Nat.lt_of_lt_of_le hi h.size) (by intro e; injection e; omega)).trans (h.block i hi)⟩
end
end Go.Proofs.YtlpbbjjibnbooaaGreatDoor
