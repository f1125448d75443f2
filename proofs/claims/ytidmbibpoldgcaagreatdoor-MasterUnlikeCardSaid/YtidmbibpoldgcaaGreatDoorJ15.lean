/-
  Layer 17: the reader of a state's bytes.
  The walk of NodeNodes.
  Layer 17: what bytes are read as, as plain words; what is laid is read as it was.
  The contract of node.Right.
  Layer 17: what a right state is; what is read of a state's bytes.
-/
import Derived.Test.YtidmbibpoldgcaaGreatDoorJ10
import Derived.Test.YtidmbibpoldgcaaGreatDoorJ14
import Derived.Test.YtidmbibpoldgcaaGreatDoorJ05
import Derived.Test.YtidmbibpoldgcaaGreatDoorJ09
import Derived.Test.YtidmbibpoldgcaaGreatDoorJ02
import Derived.Test.YtidmbibpoldgcaaGreatDoorJ06
namespace Go.Proofs.YtidmbibpoldgcaaGreatDoor
set_option linter.unusedVariables false
set_option linter.unusedSimpArgs false
open Go.RowKit

/-- A reader in block r, its bytes in block b: text l, at place p, with error e. -/
structure RdrAt (w : World) (r b : Nat) (l : List UInt8) (p : Nat) (e : Int) : Prop where
  own : Blk w r 86 #[.pointer (some ⟨b, 0, none⟩), .int .i64 e]
  rd : RdAt w b l p
  ne : r ≠ b
theorem RdrAt.below {w w' : World} {r b : Nat} {l : List UInt8} {p : Nat} {e : Int} (h : RdrAt w r b l p e) (hb : Below w.heap.size w w') : RdrAt w' r b l p e := ⟨h.own.below hb h.own.lt, h.rd.keep hb h.rd.lt, h.ne⟩

def failE (e e' : Int) : Int := if e = 0 then e' else e
set_option maxRecDepth 20000 in
theorem rfail_any {w : World} {r b p : Nat} {l : List UInt8} {e : Int} (e' : Int) (h : RdrAt w r b l p e) :
    Calls Tryz.prog 47 #[.pointer (some ⟨r, 0, none⟩), .int .i64 e'] w fun x w' => x = .returned (.tuple #[]) ∧ RdrAt w' r b l p (failE e e') ∧ Only (fun i => i = r ∨ i = b) w w' := by
  have H := Lib.hid h
  have c1 : w.cell? ⟨r, 1, none⟩ = some (.int .i64 e) := h.own.at_ rfl
  have z1 := h.own.fr 1
  clear h
  by_cases he : e = 0
  · subst he
    go_enter Tryz.func47, Tryz.ntmps47
    go_wp2_with fail
    go_end0
    exact ⟨rfl, ⟨H.out.own.put 1 (.int .i64 e'), (show RdAt (w.setCell ⟨r, 1, none⟩ (.int .i64 e')) b l p from ⟨((Below.heap_setCell w _ _ b (fun q => H.out.ne q.symm)).trans H.out.rd.1), H.out.rd.2⟩), H.out.ne⟩, (Only.refl _ _).set (.inl (.inl rfl)) _⟩
  · have hbe : (e == 0) = false := beq_eq_false_iff_ne.2 he
    have hf : Hid (failE e e' = e) := Lib.hid (if_neg he)
    clear he
    go_enter Tryz.func47, Tryz.ntmps47
    go_wp2_with fail
    go_end0
    exact ⟨rfl, by rw [hf.out]; exact H.out, Only.refl _ _⟩

def rcE (l : List UInt8) (p : Nat) (e most : Int) : Int := if e = 0 then (if most < inVal l p then failE (failE 0 (inErr l p)) 3 else failE 0 (inErr l p)) else e
def rcV (l : List UInt8) (p : Nat) (e most : Int) : Int := if e = 0 then (if most < inVal l p then 0 else inVal l p) else 0
def rcP (l : List UInt8) (p : Nat) (e : Int) : Nat := if e = 0 then inPos l p else p

set_option maxRecDepth 20000 in
theorem rcount_any {w : World} {r b p : Nat} {l : List UInt8} {e : Int} (most : Int) (h : RdrAt w r b l p e) :
    Calls Tryz.prog 28 #[.pointer (some ⟨r, 0, none⟩), .int .i64 most] w fun x w' => x = .returned (.int .i64 (rcV l p e most)) ∧ RdrAt w' r b l (rcP l p e) (rcE l p e most) ∧ Only (fun i => i = r ∨ i = b) w w' := by
  have H := Lib.hid h
  have c1 : w.cell? ⟨r, 1, none⟩ = some (.int .i64 e) := h.own.at_ rfl
  have c0 : w.cell? ⟨r, 0, none⟩ = some (.pointer (some ⟨b, 0, none⟩)) := h.own.at_ rfl
  clear h
  by_cases he : e = 0
  · subst he
    have hV : Hid (rcP l p 0 = inPos l p ∧ (most < inVal l p → rcV l p 0 most = 0 ∧ rcE l p 0 most = failE (failE 0 (inErr l p)) 3) ∧ ((inVal l p : Int) ≤ most → rcV l p 0 most = inVal l p ∧ rcE l p 0 most = failE 0 (inErr l p))) := Lib.hid (by
      unfold rcP rcV rcE
      rw [if_pos rfl, if_pos rfl, if_pos rfl]
      exact ⟨rfl, fun h => by rw [if_pos h, if_pos h]; exact ⟨rfl, rfl⟩, fun h => by rw [if_neg (by omega), if_neg (by omega)]; exact ⟨rfl, rfl⟩⟩)
    go_enter Tryz.func28, Tryz.ntmps28
    go_wp2_with fail
    refine (rInt_any b p l _ H.out.rd).mono ?_
    rintro x w1 ⟨rfl, hR, hG⟩
    have HR1 : Hid (RdrAt w1 r b l (inPos l p) 0) := Lib.hid ⟨H.out.own.grown hG H.out.ne, hR, H.out.ne⟩
    have HO1 : Hid (Only (fun i => i = r ∨ i = b) w w1) := Lib.hid (Only.of_grown hG (.inr rfl))
    clear hR hG c0 c1
    go_wp2_with fail
    refine (rfail_any (inErr l p) HR1.out).mono ?_
    rintro x w2 ⟨rfl, hR, hO⟩
    have HR2 := Lib.hid hR
    have HO2 := Lib.hid (HO1.out.trans hO (fun i hi => .inl hi))
    clear hR hO
    by_cases hm : most < (inVal l p : Int)
    · have hdm : decide (most < inVal l p) = true := decide_eq_true hm
      have HE := Lib.hid (hV.out.2.1 hm)
      clear hm
      go_wp2_with fail
      refine (rfail_any 3 HR2.out).mono ?_
      rintro x w3 ⟨rfl, hR, hO⟩
      have HR3 := Lib.hid hR
      have HO3 := Lib.hid (HO2.out.trans hO (fun i hi => .inl hi))
      clear hR hO
      go_wp2_with fail
      go_ret
      exact ⟨by rw [HE.out.1]; rfl, by rw [HE.out.2, hV.out.1]; exact HR3.out, HO3.out⟩
    · have hdm : decide (most < inVal l p) = false := decide_eq_false hm
      have HE := Lib.hid (hV.out.2.2 (by omega))
      clear hm
      go_wp2_with fail
      go_ret
      exact ⟨by rw [HE.out.1]; rfl, by rw [HE.out.2, hV.out.1]; exact HR2.out, HO2.out⟩
  · have hbe : (e == 0) = false := beq_eq_false_iff_ne.2 he
    have hbn : (e != 0) = true := bne_iff_ne.2 he
    have hV : Hid (rcP l p e = p ∧ rcV l p e most = 0 ∧ rcE l p e most = e) := Lib.hid ⟨if_neg he, if_neg he, if_neg he⟩
    clear he
    go_enter Tryz.func28, Tryz.ntmps28
    go_wp2_with fail
    go_ret
    exact ⟨by rw [hV.out.2.1]; rfl, by rw [hV.out.1, hV.out.2.2]; exact H.out, Only.refl _ _⟩
end Go.Proofs.YtidmbibpoldgcaaGreatDoor

namespace Go.Proofs.YtidmbibpoldgcaaGreatDoor
set_option linter.unusedVariables false
set_option linter.unusedSimpArgs false
open Go.RowKit

def zs128 : List UInt8 := List.replicate 128 0
noncomputable def Z128 : Array Value := (zs128.map fun b => Value.int .u8 b.toNat).toArray
theorem mk_128 (W : World) : (Instr.makeSlice 159 (.int .i64 128) (.int .i64 128)).run Tryz.prog W = .ok (.slice (some ⟨W.heap.size, 0, none⟩) 128 128) (W.alloc (.cells Z128 5)) := by kernel_rfl
theorem cv_128 (W : World) : (convert 159 9 (.slice (some ⟨W.heap.size, 0, none⟩) 128 128)).run Tryz.prog (W.alloc (.cells Z128 5)) = .ok (str zs128) (W.alloc (.cells Z128 5)) :=
  run_convert_bytes_back (P := Tryz.prog) (W.alloc (.cells Z128 5)) 159 9 5 ⟨W.heap.size, 0, none⟩ 128 zs128 Tryz.underlying159 Tryz.underlying5 Tryz.underlying9 (fun j hj => by
    rw [Addr.add_mid, Nat.zero_add]
    refine cell_new rfl ?_
    unfold Z128
    rw [List.getElem?_toArray, List.getElem?_map, List.getElem?_eq_getElem hj]
    rfl)
theorem rn_zeros : rnD zs128 = (0, ptrZ, false, 0) := by
  unfold rnD
  rw [if_neg (by decide +kernel), if_neg (by decide +kernel), if_pos (by decide +kernel)]
theorem nodeL_eq {n : Int} {p : PtrD} (h : nodeOk n p = true) (op : p.Ok) : nodeL n p = layL n.toNat 8 ++ (layL 1 8 ++ (ptrL p ++ List.replicate 48 0)) := by
  simp only [nodeOk, Bool.and_eq_true] at h
  have hl : (layL n.toNat 8 ++ (layL 1 8 ++ ptrL p)).length = 80 := by simp [layL_len, ptrL_len h.2 op]
  unfold nodeL padL
  rw [if_pos (by decide), hl]
  simp only [List.append_assoc]
  rfl
/-- What is laid is read as it was. -/
theorem rn_back {n : Int} {p : PtrD} (h : nodeOk n p = true) (op : p.Ok) : rnD (nodeL n p) = (n, p, true, 0) ∧ (nodeL n p).length = 128 := by
  have he := nodeL_eq h op
  simp only [nodeOk, Bool.and_eq_true, decide_eq_true_eq] at h
  obtain ⟨⟨hn1, hn2⟩, hly⟩ := h
  obtain ⟨b1, b2, b3⟩ := lay_back hly op
  have hlen : (nodeL n p).length = 128 := by rw [he]; simp [layL_len, b3]
  refine ⟨?_, hlen⟩
  generalize nodeL n p = s at *
  have k0 : s.drop 0 = _ := he
  have k1 := drop_step k0 (layL_len _ _)
  have k2 := drop_step k1 (layL_len _ _)
  have k3 := drop_step k2 b3
  have m0 := subN_of k0 rfl (by omega)
  have m1 := subN_of k1 rfl (by omega)
  simp only [Nat.zero_add, Nat.reduceAdd] at m0 m1 k1 k2 k3
  have hr : (s.drop 16).take 64 = ptrL p := by rw [k2, takeApp b3]
  have hz : allZ s = false := by
    unfold allZ
    rw [List.all_eq_false]
    refine ⟨1, ?_, by decide⟩
    rw [he]
    have : (1 : UInt8) ∈ layL 1 8 := by decide
    simp [this]
  unfold rnD
  rw [if_neg (by omega), if_neg (by omega), if_neg (by rw [hz]; simp), m0, if_neg (by omega), m1, if_neg (by simp), hr, if_neg (by rw [b1]; simp), k3, if_pos (by decide), b2, Int.toNat_of_nonneg hn1]

end Go.Proofs.YtidmbibpoldgcaaGreatDoor

namespace Go.Proofs.YtidmbibpoldgcaaGreatDoor
set_option linter.unusedVariables false
set_option linter.unusedSimpArgs false

def rkX (l : List UInt8) (p : Nat) (e : Int) : (Int × PtrD) × Int :=
  if e = 0 then
    (if tkErr l p 128 = 0 then
      (if (rnD (tkStr l p 128)).2.2.1 then (((rnD (tkStr l p 128)).1, (rnD (tkStr l p 128)).2.1), failE 0 (rnD (tkStr l p 128)).2.2.2)
       else (((rnD (tkStr l p 128)).1, (rnD (tkStr l p 128)).2.1), failE (failE 0 (rnD (tkStr l p 128)).2.2.2) 3))
     else ((0, ptrZ), tkErr l p 128))
  else ((0, ptrZ), e)
def rkP (l : List UInt8) (p : Nat) (e : Int) : Nat := if e = 0 then tkPos l p 128 else p
/-- A reader's place and error. -/
abbrev RS : Type := Nat × Int
def itR {α : Type} (f : RS → α × RS) : Nat → RS → List α × RS
  | 0, q => ([], q)
  | k + 1, q => ((itR f k q).1 ++ [(f (itR f k q).2).1], (f (itR f k q).2).2)
def bindR {α β : Type} (f : RS → α × RS) (g : α → RS → β × RS) (q : RS) : β × RS := g (f q).1 (f q).2
def retR {α : Type} (v : α) (q : RS) : α × RS := (v, q)
def rC (l : List UInt8) (most : Int) (q : RS) : Int × RS := (rcV l q.1 q.2 most, (rcP l q.1 q.2, rcE l q.1 q.2 most))
def rK (l : List UInt8) (q : RS) : (Int × PtrD) × RS := ((rkX l q.1 q.2).1, (rkP l q.1 q.2, (rkX l q.1 q.2).2))
abbrev bigC : Int := 4611686018427387903
def rSn (l : List UInt8) : RS → SnapA × RS := bindR (rC l bigC) fun a => bindR (rC l bigC) fun b => bindR (rK l) fun c => retR ⟨a, b, c.1, c.2⟩
def rSt (l : List UInt8) : RS → (Int × Int) × RS := bindR (rC l bigC) fun a => bindR (rC l bigC) fun b => retR (a, b)
def scanOf (l : List Int) : ScanA := ⟨l.getD 0 0, l.getD 1 0, l.getD 2 0, l.getD 3 0, l.getD 4 0, l.getD 5 0, l.getD 6 0, l.getD 7 0, l.getD 8 0⟩
def pA (l : List UInt8) (n : Int) (p : PtrD) (ss : List SnapA) (z : List Int) (m : Int) : RS → StA × RS := bindR (itR (rSt l) m.toNat) fun tt => retR ⟨n, p, scanOf z, ss, tt⟩
def pB (l : List UInt8) (n : Int) (p : PtrD) (ss : List SnapA) (z : List Int) : RS → StA × RS := bindR (rC l 100) (pA l n p ss z)
def pC (l : List UInt8) (n : Int) (p : PtrD) (ss : List SnapA) : RS → StA × RS := bindR (itR (rC l bigC) 9) (pB l n p ss)
def pD (l : List UInt8) (n : Int) (p : PtrD) (c : Int) : RS → StA × RS := bindR (itR (rSn l) c.toNat) (pC l n p)
def pE (l : List UInt8) (n : Int × PtrD) : RS → StA × RS := bindR (rC l 100) (pD l n.1 n.2)
/-- A state's bytes, read. -/
def rAll (l : List UInt8) : RS → StA × RS := bindR (rK l) (pE l)

def Keeps {α : Type} (f : RS → α × RS) : Prop := ∀ p e, e ≠ 0 → (f (p, e)).2.2 = e
structure Lays {α : Type} (f : RS → α × RS) (l X : List UInt8) (v : α) : Prop where
  keep : Keeps f
  good : ∀ p R, l.drop p = X ++ R → f (p, 0) = (v, (p + X.length, 0))
  short : ∀ p R, R ≠ [] → l.drop p ++ R = X → (f (p, 0)).2.2 = 2

theorem Keeps.bind {α β : Type} {f : RS → α × RS} {g : α → RS → β × RS} (hf : Keeps f) (hg : ∀ v, Keeps (g v)) : Keeps (bindR f g) := fun p e he => by
  have h1 := hf p e he
  show (g _ (f (p, e)).2).2.2 = e
  generalize f (p, e) = r at *
  obtain ⟨v, p', e'⟩ := r
  simp only at h1
  subst h1
  exact hg v p' e' he
theorem Keeps.ret {α : Type} (v : α) : Keeps (retR v) := fun _ _ _ => rfl
theorem Keeps.it {α : Type} {f : RS → α × RS} (hf : Keeps f) : ∀ k, Keeps (itR f k)
  | 0 => fun _ _ _ => rfl
  | k + 1 => fun p e he => by
    have h1 := Keeps.it hf k p e he
    show (f (itR f k (p, e)).2).2.2 = e
    generalize itR f k (p, e) = r at *
    obtain ⟨v, p', e'⟩ := r
    simp only at h1
    subst h1
    exact hf p' e' he
theorem split_app {a b x r : List UInt8} (h : x ++ r = a ++ b) (hr : r ≠ []) : (∃ r', r' ≠ [] ∧ x ++ r' = a) ∨ (∃ t, x = a ++ t ∧ t ++ r = b) := by
  rcases List.append_eq_append_iff.1 h with ⟨c, rfl, rfl⟩ | ⟨c, rfl, rfl⟩
  · by_cases hc : c = []
    · subst hc
      exact .inr ⟨[], by simp, by simp⟩
    · exact .inl ⟨c, hc, rfl⟩
  · exact .inr ⟨c, rfl, rfl⟩
theorem Lays.bind {α β : Type} {f : RS → α × RS} {g : α → RS → β × RS} {l X Y : List UInt8} {v : α} {u : β} (hf : Lays f l X v) (hg : Lays (g v) l Y u) (hk : ∀ v, Keeps (g v)) : Lays (bindR f g) l (X ++ Y) u where
  keep := hf.keep.bind hk
  good := fun p R h => by
    rw [List.append_assoc] at h
    show g _ (f (p, 0)).2 = _
    rw [hf.good p _ h]
    have h2 : l.drop (p + X.length) = Y ++ R := drop_step h rfl
    rw [hg.good _ _ h2, List.length_append, Nat.add_assoc]
  short := fun p R hR h => by
    show (g _ (f (p, 0)).2).2.2 = 2
    rcases split_app h hR with ⟨r', h1, h2⟩ | ⟨t, h1, h2⟩
    · have h3 := hf.short p r' h1 h2
      generalize f (p, 0) = r at *
      obtain ⟨v, p', e'⟩ := r
      simp only at h3
      subst h3
      exact hk v p' 2 (by decide)
    · rw [hf.good p _ h1]
      have h3 : l.drop (p + X.length) = t := drop_step h1 rfl
      exact hg.short _ R hR (by rw [h3]; exact h2)
theorem Lays.ret {α : Type} (l : List UInt8) (v : α) : Lays (retR v) l [] v where
  keep := Keeps.ret v
  good := fun p R _ => rfl
  short := fun p R hR h => absurd (List.append_eq_nil_iff.1 h).2 hR
theorem Lays.bind1 {α β : Type} {f : RS → α × RS} {l X : List UInt8} {v : α} (hf : Lays f l X v) (k : α → β) : Lays (bindR f fun a => retR (k a)) l X (k v) := by
  have := hf.bind (g := fun a => retR (k a)) (Lays.ret l (k v)) (fun v => Keeps.ret _)
  rwa [List.append_nil] at this
theorem Lays.it {α : Type} {f : RS → α × RS} {l : List UInt8} (P : α → List UInt8) {vs : List α} (hf : ∀ v ∈ vs, Lays f l (P v) v) (hk : Keeps f) : ∀ k, k ≤ vs.length → Lays (itR f k) l ((vs.take k).flatMap P) (vs.take k)
  | 0, _ => by
    rw [List.take_zero]
    exact Lays.ret l []
  | k + 1, hkl => by
    have ih := Lays.it P hf hk k (by omega)
    obtain ⟨y, hx⟩ : ∃ y, vs[k]? = some y := ⟨_, List.getElem?_eq_getElem (by omega)⟩
    have e : vs.take (k + 1) = vs.take k ++ [y] := by rw [List.take_add_one, hx]; rfl
    have h1 := ih.bind (g := fun ws => bindR f fun x => retR (ws ++ [x])) ((hf y (List.mem_of_getElem? hx)).bind1 (fun x => vs.take k ++ [x])) (fun ws => hk.bind fun x => Keeps.ret _)
    have e2 : itR f (k + 1) = bindR (itR f k) fun ws => bindR f fun x => retR (ws ++ [x]) := rfl
    rw [e, List.flatMap_append, e2]
    simpa using h1
theorem Lays.itAll {α : Type} {f : RS → α × RS} {l : List UInt8} (P : α → List UInt8) {vs : List α} (hf : ∀ v ∈ vs, Lays f l (P v) v) (hk : Keeps f) : Lays (itR f vs.length) l (vs.flatMap P) vs := by
  have := Lays.it P hf hk vs.length (Nat.le_refl _)
  rwa [List.take_length] at this
theorem Keeps.rC (l : List UInt8) (most : Int) : Keeps (rC l most) := fun p e he => by
  show rcE l p e most = e
  unfold rcE; rw [if_neg he]
theorem Keeps.rK (l : List UInt8) : Keeps (rK l) := fun p e he => by
  show (rkX l p e).2 = e
  unfold rkX; rw [if_neg he]
theorem lays_c (l : List UInt8) {x most : Int} (h1 : 0 ≤ x) (h2 : x ≤ most) (h3 : x ≤ 4611686018427387903) : Lays (rC l most) l (layL x.toNat 8) x where
  keep := Keeps.rC l most
  good := fun p R h => by
    have hl : p + 8 ≤ l.length := by
      have := congrArg List.length h
      rw [List.length_append, layL_len, List.length_drop] at this
      omega
    have hs : subN l p 8 = x.toNat := subN_of h rfl (by omega)
    have hi := in_sub hl
    rw [hs, if_neg (by omega), if_neg (by omega), if_neg (by omega)] at hi
    show (rcV l p 0 most, (rcP l p 0, rcE l p 0 most)) = _
    unfold rcV rcP rcE
    rw [if_pos rfl, if_pos rfl, if_pos rfl, hi.1, hi.2.1, hi.2.2, if_neg (by omega), if_neg (by omega), layL_len, Int.toNat_of_nonneg h1]
    rfl
  short := fun p R hR h => by
    have hl : (l.length : Int) - p < 8 := by
      have := congrArg List.length h
      rw [List.length_append, layL_len, List.length_drop] at this
      have := List.length_pos_iff.2 hR
      omega
    have he : inErr l p = 2 := by unfold inErr; rw [if_pos hl]
    have hv : inVal l p = 0 := by unfold inVal; rw [he]; rfl
    show rcE l p 0 most = 2
    unfold rcE
    rw [if_pos rfl, he, hv, if_neg (by omega)]
    rfl
theorem lays_k (l : List UInt8) {n : Int} {p : PtrD} (hok : nodeOk n p = true) (op : p.Ok) : Lays (rK l) l (nodeL n p) (n, p) where
  keep := Keeps.rK l
  good := fun i R h => by
    obtain ⟨hb, hlen⟩ := rn_back hok op
    have hl : i + 128 ≤ l.length := by
      have := congrArg List.length h
      rw [List.length_append, hlen, List.length_drop] at this
      omega
    obtain ⟨h1, h2, h3⟩ : tkErr l i 128 = 0 ∧ tkStr l i 128 = (l.drop i).take 128 ∧ tkPos l i 128 = i + 128 := tk_in (l := l) (p := i) (n := 128) hl
    rw [h, takeApp hlen] at h2
    show ((rkX l i 0).1, (rkP l i 0, (rkX l i 0).2)) = _
    unfold rkX rkP
    rw [if_pos rfl, if_pos rfl, if_pos h1, h2, hb, if_pos rfl, h3, hlen]
    rfl
  short := fun i R hR h => by
    obtain ⟨hb, hlen⟩ := rn_back hok op
    have hl : (l.length : Int) - i < 128 := by
      have := congrArg List.length h
      rw [List.length_append, hlen, List.length_drop] at this
      have := List.length_pos_iff.2 hR
      omega
    have he : tkErr l i 128 = 2 := by unfold tkErr; rw [if_neg (by omega), if_pos hl]
    show (rkX l i 0).2 = 2
    unfold rkX
    rw [if_pos rfl, he, if_neg (by decide)]
theorem intL_ok {x : Int} (h : inCnt x = true) : intL x = layL x.toNat 8 := by
  unfold inCnt at h
  unfold intL; rw [if_pos (of_decide_eq_true h)]
theorem lays_i (l : List UInt8) {x : Int} (h : inCnt x = true) : Lays (rC l bigC) l (intL x) x := by
  rw [intL_ok h]
  have h := of_decide_eq_true h
  exact lays_c l h.1 h.2 h.2
theorem lays_n (l : List UInt8) {n : Nat} (h : n ≤ 60) : Lays (rC l 100) l (cntS [(n : Int)]) (n : Int) := by
  have e : cntS [(n : Int)] = layL (n : Int).toNat 8 := by
    show intL (n : Int) ++ [] = _
    rw [List.append_nil]; exact intL_ok (decide_eq_true (by omega))
  rw [e]
  exact lays_c l (by omega) (by omega) (by omega)
theorem Keeps.rSn (l : List UInt8) : Keeps (rSn l) := (Keeps.rC l _).bind fun _ => (Keeps.rC l _).bind fun _ => (Keeps.rK l).bind fun _ => Keeps.ret _
theorem Keeps.rSt (l : List UInt8) : Keeps (rSt l) := (Keeps.rC l _).bind fun _ => (Keeps.rC l _).bind fun _ => Keeps.ret _
theorem lays_sn (l : List UInt8) {x : SnapA} (h : snOk x = true) (op : x.p.Ok) : Lays (rSn l) l (snB x) x := by
  simp only [snOk, List.all_cons, List.all_nil, Bool.and_true, Bool.and_eq_true] at h
  obtain ⟨⟨h1, h2⟩, h3⟩ := h
  have e : snB x = intL x.id ++ (intL x.txg ++ nodeL x.n x.p) := by
    unfold snB nbS; rw [if_pos h3]; simp [cntS]
  rw [e]
  exact (lays_i l h1).bind ((lays_i l h2).bind ((lays_k l h3 op).bind1 fun c => (⟨x.id, x.txg, c.1, c.2⟩ : SnapA)) fun _ => (Keeps.rK l).bind fun _ => Keeps.ret _) fun _ => (Keeps.rC l _).bind fun _ => (Keeps.rK l).bind fun _ => Keeps.ret _
theorem lays_st (l : List UInt8) {x : Int × Int} (h : stOk x = true) : Lays (rSt l) l (cntS [x.1, x.2]) x := by
  simp only [stOk, List.all_cons, List.all_nil, Bool.and_true, Bool.and_eq_true] at h
  have e : cntS [x.1, x.2] = intL x.1 ++ intL x.2 := by simp [cntS]
  rw [e]
  exact (lays_i l h.1).bind ((lays_i l h.2).bind1 fun b => (x.1, b)) fun _ => (Keeps.rC l _).bind fun _ => Keeps.ret _
theorem scanOf_I (z : ScanA) : scanOf (scanI z) = z := rfl
/-- What is laid is read as it was; what is cut is short. -/
theorem lays_all (l : List UInt8) (s : StA) (hok : mOk s = true) (op : s.p.Ok) (ops : ∀ x ∈ s.snaps, x.p.Ok) (f1 : s.snaps.length ≤ 30) (f2 : s.stale.length ≤ 60) : Lays (rAll l) l (mB s) s := by
  simp only [mOk, Bool.and_eq_true, List.all_eq_true] at hok
  obtain ⟨⟨⟨h1, h2⟩, h3⟩, h4⟩ := hok
  have e : mB s = nodeL s.n s.p ++ (cntS [(s.snaps.length : Int)] ++ (snsB s.snaps ++ (cntS (scanI s.z) ++ (cntS [(s.stale.length : Int)] ++ stB s.stale)))) := by
    unfold mB nbS; rw [if_pos h1]; simp only [List.append_assoc]
  rw [e]
  have k1 : ∀ n p ss z m, Keeps (pA l n p ss z m) := fun n p ss z m => ((Keeps.rSt l).it m.toNat).bind fun _ => Keeps.ret _
  have k2 : ∀ n p ss z, Keeps (pB l n p ss z) := fun n p ss z => (Keeps.rC l _).bind (k1 n p ss z)
  have k3 : ∀ n p ss, Keeps (pC l n p ss) := fun n p ss => ((Keeps.rC l _).it 9).bind (k2 n p ss)
  have k4 : ∀ n p c, Keeps (pD l n p c) := fun n p c => ((Keeps.rSn l).it c.toNat).bind (k3 n p)
  have k5 : ∀ n, Keeps (pE l n) := fun n => (Keeps.rC l _).bind (k4 n.1 n.2)
  have L6 : Lays (itR (rSt l) ((s.stale.length : Int)).toNat) l (stB s.stale) s.stale := by
    rw [Int.toNat_natCast]
    exact Lays.itAll (fun r : Int × Int => cntS [r.1, r.2]) (fun r hr => lays_st l (h4 r hr)) (Keeps.rSt l)
  have L4 : Lays (itR (rC l bigC) 9) l (cntS (scanI s.z)) (scanI s.z) := by
    have hl : (scanI s.z).length = 9 := rfl
    have := Lays.itAll intL (vs := scanI s.z) (fun x hx => lays_i l (h3 x hx)) (Keeps.rC l _)
    rw [hl] at this
    exact this
  have L3 : Lays (itR (rSn l) ((s.snaps.length : Int)).toNat) l (snsB s.snaps) s.snaps := by
    rw [Int.toNat_natCast]
    exact Lays.itAll snB (fun x hx => lays_sn l (h2 x hx) (ops x hx)) (Keeps.rSn l)
  have m6 : Lays (pA l s.n s.p s.snaps (scanI s.z) (s.stale.length : Int)) l (stB s.stale) s := L6.bind1 fun tt => (⟨s.n, s.p, scanOf (scanI s.z), s.snaps, tt⟩ : StA)
  have m5 : Lays (pB l s.n s.p s.snaps (scanI s.z)) l _ s := (lays_n l f2).bind m6 (k1 s.n s.p s.snaps (scanI s.z))
  have m4 : Lays (pC l s.n s.p s.snaps) l _ s := L4.bind m5 (k2 s.n s.p s.snaps)
  have m3 : Lays (pD l s.n s.p (s.snaps.length : Int)) l _ s := L3.bind m4 (k3 s.n s.p)
  have m2 : Lays (pE l (s.n, s.p)) l _ s := (lays_n l (Nat.le_trans f1 (by decide : 30 ≤ 60))).bind m3 (k4 s.n s.p)
  exact (lays_k l h1 op).bind m2 k5
end Go.Proofs.YtidmbibpoldgcaaGreatDoor

namespace Go.Proofs.YtidmbibpoldgcaaGreatDoor
set_option linter.unusedVariables false
set_option linter.unusedSimpArgs false
open Go.RowKit

def nRightB (gs : List (Int × Int)) (secs n : Int) (p : PtrD) : Bool := decide (0 ≤ n ∧ n ≤ 16384) && (noneB p || rightB gs secs p && decide (p.level = levN n))
theorem nodeAt_new (w : World) (n : Int) (p : PtrD) (t : TypeId) : PtrAt (w.alloc (.cells #[.int .i64 n, .int .i64 p.ag, .int .i64 p.aa, .int .i64 p.bg, .int .i64 p.ba, .bool p.two, .int .i64 p.size, .int .i64 p.level, .int .i64 p.birth, .int .u64 p.s0, .int .u64 p.s1, .int .u64 p.s2, .int .u64 p.s3] t)) w.heap.size 1 p :=
  ⟨cell_new rfl rfl, cell_new rfl rfl, cell_new rfl rfl, cell_new rfl rfl, cell_new rfl rfl, cell_new rfl rfl, cell_new rfl rfl, cell_new rfl rfl, cell_new rfl rfl, cell_new rfl rfl, cell_new rfl rfl, cell_new rfl rfl⟩

set_option maxRecDepth 100000 in
set_option maxHeartbeats 4000000 in
theorem nright_any (A : Option Addr) (m c : Nat) (gs : List (Int × Int)) (secs n : Int) (p : PtrD) (w : World) (hg : GeoAt w A m gs) :
    Calls Tryz.prog 15 #[.agg #[.slice A m c, .int .i64 secs], .agg #[.int .i64 n, .int .i64 p.ag, .int .i64 p.aa, .int .i64 p.bg, .int .i64 p.ba, .bool p.two, .int .i64 p.size, .int .i64 p.level, .int .i64 p.birth, .int .u64 p.s0, .int .u64 p.s1, .int .u64 p.s2, .int .u64 p.s3]] w fun e w' => e = .returned (.bool (nRightB gs secs n p)) ∧ Below w.heap.size w w' := by
  obtain ⟨w0, hw0⟩ : ∃ w0, w0 = ((w.alloc (Obj.cells #[Value.slice A m c, Value.int IntKind.i64 secs] 24)).alloc (.cells #[.int .i64 n, .int .i64 p.ag, .int .i64 p.aa, .int .i64 p.bg, .int .i64 p.ba, .bool p.two, .int .i64 p.size, .int .i64 p.level, .int .i64 p.birth, .int .u64 p.s0, .int .u64 p.s1, .int .u64 p.s2, .int .u64 p.s3] 33)) := ⟨_, rfl⟩
  have hb0 : Below w.heap.size w w0 := by rw [hw0]; exact ((Below.refl _ _).alloc (Nat.le_refl _) _).alloc (by simp) _
  have hs0 : w.heap.size + 2 ≤ w0.heap.size := by rw [hw0]; simp
  have HP0 : Hid (PtrAt w0 (w.heap.size + 1) 1 p) := by
    have := nodeAt_new (w.alloc (Obj.cells #[Value.slice A m c, Value.int IntKind.i64 secs] 24)) n p 33
    rw [World.size_alloc] at this
    rw [hw0]; exact Lib.hid this
  have k1 : w0.cell? ⟨w.heap.size, 0, none⟩ = some (.slice A m c) := by rw [hw0]; exact cell_alloc (cell_new rfl rfl) _
  have k2 : w0.cell? ⟨w.heap.size, 1, none⟩ = some (.int .i64 secs) := by rw [hw0]; exact cell_alloc (cell_new rfl rfl) _
  have k3 : w0.cell? ⟨w.heap.size + 1, 0, none⟩ = some (.int .i64 n) := by rw [hw0]; exact cell_new (by simp) rfl
  have HV : Hid (nRightB gs secs n p = (decide (0 ≤ n ∧ n ≤ 16384) && (noneB p || rightB gs secs p && decide (p.level = levN n)))) := Lib.hid rfl
  have HNO : Hid (∀ W, Calls Tryz.prog 37 #[.agg #[.int .i64 p.ag, .int .i64 p.aa, .int .i64 p.bg, .int .i64 p.ba, .bool p.two, .int .i64 p.size, .int .i64 p.level, .int .i64 p.birth, .int .u64 p.s0, .int .u64 p.s1, .int .u64 p.s2, .int .u64 p.s3]] W fun e w' => e = .returned (.bool (noneB p)) ∧ Below W.heap.size W w') := Lib.hid fun W => none_any p W
  have HRT : Hid (∀ W, Below w.heap.size w W → Calls Tryz.prog 38 #[.agg #[.slice A m c, .int .i64 secs], .agg #[.int .i64 p.ag, .int .i64 p.aa, .int .i64 p.bg, .int .i64 p.ba, .bool p.two, .int .i64 p.size, .int .i64 p.level, .int .i64 p.birth, .int .u64 p.s0, .int .u64 p.s1, .int .u64 p.s2, .int .u64 p.s3]] W fun e w' => e = .returned (.bool (rightB gs secs p)) ∧ Below W.heap.size W w') :=
    Lib.hid fun W hB => pright_any A m c gs secs p W (hg.below hB (Nat.le_refl _))
  by_cases hn : 0 ≤ n ∧ n ≤ 16384
  · rw [decide_eq_true hn, Bool.true_and] at HV
    obtain ⟨hn1, hn2⟩ := hn
    have HL := Lib.hid fun W => (level_any n W).mono (R' := fun e w' => e = .returned (.int .i64 (levN n)) ∧ w' = W) fun e w' h => ⟨h.1, h.2.symm⟩
    have hRT : Hid (∀ W, Below w0.heap.size w0 W → Calls Tryz.prog 38 #[.agg #[.slice A m c, .int .i64 secs], .agg #[.int .i64 p.ag, .int .i64 p.aa, .int .i64 p.bg, .int .i64 p.ba, .bool p.two, .int .i64 p.size, .int .i64 p.level, .int .i64 p.birth, .int .u64 p.s0, .int .u64 p.s1, .int .u64 p.s2, .int .u64 p.s3]] W fun e w' => e = .returned (.bool (rightB gs secs p)) ∧ Below W.heap.size W w') :=
      Lib.hid fun W hB => HRT.out W (hb0.trans (hB.mono hb0.size))
    clear HRT
    have HRT := hRT
    clear hRT
    go_enter Tryz.func15, Tryz.ntmps15
    repeat' (first
      | go_values
      | go_skip
      | go_guarded
      | ((fail_if_success (with_reducible refine drawn_mark ?_))
         first
           | go_step
           | go_upon
           | go_back
           | (simp only [Int.not_lt, Int.not_le] at *; go_simp)
           | (go_values <;> (try go_simp))
           | (go_ite <;> go_prune <;> (try go_simp))
           | (split <;> (first | (rename_i hx; exact (hx _ rfl).elim) | go_prune))))
    rw [← hw0]
    clear hw0
    obtain ⟨C, hC, hC0, hCB, hCK, hCd⟩ := cls_below w0
    have hPC : ∀ W, C W → PtrAt W (w.heap.size + 1) 1 p := fun W h => HP0.out.keep (hCB W h) (by omega)
    have f0 : ∀ W, C W → W.cell? ⟨w.heap.size + 1, 1, none⟩ = some (.int .i64 p.ag) := fun W h => (hPC W h).1
    have f1 : ∀ W, C W → W.cell? ⟨w.heap.size + 1, 2, none⟩ = some (.int .i64 p.aa) := fun W h => (hPC W h).2.1
    have f2 : ∀ W, C W → W.cell? ⟨w.heap.size + 1, 3, none⟩ = some (.int .i64 p.bg) := fun W h => (hPC W h).2.2.1
    have f3 : ∀ W, C W → W.cell? ⟨w.heap.size + 1, 4, none⟩ = some (.int .i64 p.ba) := fun W h => (hPC W h).2.2.2.1
    have f4 : ∀ W, C W → W.cell? ⟨w.heap.size + 1, 5, none⟩ = some (.bool p.two) := fun W h => (hPC W h).2.2.2.2.1
    have f5 : ∀ W, C W → W.cell? ⟨w.heap.size + 1, 6, none⟩ = some (.int .i64 p.size) := fun W h => (hPC W h).2.2.2.2.2.1
    have f6 : ∀ W, C W → W.cell? ⟨w.heap.size + 1, 7, none⟩ = some (.int .i64 p.level) := fun W h => (hPC W h).2.2.2.2.2.2.1
    have f7 : ∀ W, C W → W.cell? ⟨w.heap.size + 1, 8, none⟩ = some (.int .i64 p.birth) := fun W h => (hPC W h).2.2.2.2.2.2.2.1
    have f8 : ∀ W, C W → W.cell? ⟨w.heap.size + 1, 9, none⟩ = some (.int .u64 p.s0) := fun W h => (hPC W h).2.2.2.2.2.2.2.2.1
    have f9 : ∀ W, C W → W.cell? ⟨w.heap.size + 1, 10, none⟩ = some (.int .u64 p.s1) := fun W h => (hPC W h).2.2.2.2.2.2.2.2.2.1
    have f10 : ∀ W, C W → W.cell? ⟨w.heap.size + 1, 11, none⟩ = some (.int .u64 p.s2) := fun W h => (hPC W h).2.2.2.2.2.2.2.2.2.2.1
    have f11 : ∀ W, C W → W.cell? ⟨w.heap.size + 1, 12, none⟩ = some (.int .u64 p.s3) := fun W h => (hPC W h).2.2.2.2.2.2.2.2.2.2.2
    have fn : ∀ W, C W → W.cell? ⟨w.heap.size + 1, 0, none⟩ = some (.int .i64 n) := fun W h => keep_cell (hCB W h) k3 (by omega)
    have fg0 : ∀ W, C W → W.cell? ⟨w.heap.size, 0, none⟩ = some (.slice A m c) := fun W h => keep_cell (hCB W h) k1 (by omega)
    have fg1 : ∀ W, C W → W.cell? ⟨w.heap.size, 1, none⟩ = some (.int .i64 secs) := fun W h => keep_cell (hCB W h) k2 (by omega)
    clear k1 k2 k3
    generalize levN n = L at *
    cases hno : noneB p with
    | true =>
      rw [hno] at HNO HV
      clear hno
      refine wp_region_cls C (by kernel_rfl) (by kernel_rfl) hC ?_
      repeat (first
        | go_big_quiet_skip
        | (go_big_quiet_want
           go_big_quiet_op
           first
             | go_big_quiet_on
             | (apply Exists.intro
                refine ⟨fun W hW => ?_, ?_⟩
                · first
                    | exact rfl
                    | exact ⟨rfl, rfl⟩
                    | (have e0 := f0 W hW; have e1 := f1 W hW; have e2 := f2 W hW; have e3 := f3 W hW; have e4 := f4 W hW; have e5 := f5 W hW; have e6 := f6 W hW; have e7 := f7 W hW; have e8 := f8 W hW; have e9 := f9 W hW; have e10 := f10 W hW; have e11 := f11 W hW; have e12 := fn W hW; have e13 := fg0 W hW; have e14 := fg1 W hW; simp only [e0, e1, e2, e3, e4, e5, e6, e7, e8, e9, e10, e11, e12, e13, e14, Result.andThen_ok]; done)
                    | (have e0 := f0 W hW; have e1 := f1 W hW; have e2 := f2 W hW; have e3 := f3 W hW; have e4 := f4 W hW; have e5 := f5 W hW; have e6 := f6 W hW; have e7 := f7 W hW; have e8 := f8 W hW; have e9 := f9 W hW; have e10 := f10 W hW; have e11 := f11 W hW; have e12 := fn W hW; have e13 := fg0 W hW; have e14 := fg1 W hW; simp only [e0, e1, e2, e3, e4, e5, e6, e7, e8, e9, e10, e11, e12, e13, e14, Result.andThen_ok]; first | exact ⟨trivial, rfl⟩ | exact rfl | exact ⟨rfl, rfl⟩)
                    | ((first | (go_at_call 37; refine (HNO.out W).mono ?_) | (go_at_call 38; refine (HRT.out W (hCB W hW)).mono ?_)); rintro e w' ⟨rfl, hb⟩; exact ⟨rfl, hCK _ _ hW hb⟩)
                    | ((go_at_call 39; refine (HL.out W).mono ?_; rintro e w' ⟨rfl, rfl⟩; exact ⟨rfl, hW⟩))
                go_big_quiet_on)))
      refine wpQuiet_nil ?_
      intro v4 hv4
      have hwB := hCB v4 hv4
      go_wp2_with fail
      go_ret
      exact ⟨ret_bool (by first | exact HV.out.symm | (rw [HV.out]; simp; done) | (rw [HV.out, Bool.eq_iff_iff]; simp)), keep_below hwB hb0⟩
    | false =>
      rw [hno] at HNO HV
      clear hno
      cases hr : rightB gs secs p with
      | true =>
        rw [hr] at HRT HV
        clear hr
        refine wp_region_cls C (by kernel_rfl) (by kernel_rfl) hC ?_
        repeat (first
          | go_big_quiet_skip
          | (go_big_quiet_want
             go_big_quiet_op
             first
               | go_big_quiet_on
               | (apply Exists.intro
                  refine ⟨fun W hW => ?_, ?_⟩
                  · first
                      | exact rfl
                      | exact ⟨rfl, rfl⟩
                      | (have e0 := f0 W hW; have e1 := f1 W hW; have e2 := f2 W hW; have e3 := f3 W hW; have e4 := f4 W hW; have e5 := f5 W hW; have e6 := f6 W hW; have e7 := f7 W hW; have e8 := f8 W hW; have e9 := f9 W hW; have e10 := f10 W hW; have e11 := f11 W hW; have e12 := fn W hW; have e13 := fg0 W hW; have e14 := fg1 W hW; simp only [e0, e1, e2, e3, e4, e5, e6, e7, e8, e9, e10, e11, e12, e13, e14, Result.andThen_ok]; done)
                      | (have e0 := f0 W hW; have e1 := f1 W hW; have e2 := f2 W hW; have e3 := f3 W hW; have e4 := f4 W hW; have e5 := f5 W hW; have e6 := f6 W hW; have e7 := f7 W hW; have e8 := f8 W hW; have e9 := f9 W hW; have e10 := f10 W hW; have e11 := f11 W hW; have e12 := fn W hW; have e13 := fg0 W hW; have e14 := fg1 W hW; simp only [e0, e1, e2, e3, e4, e5, e6, e7, e8, e9, e10, e11, e12, e13, e14, Result.andThen_ok]; first | exact ⟨trivial, rfl⟩ | exact rfl | exact ⟨rfl, rfl⟩)
                      | ((first | (go_at_call 37; refine (HNO.out W).mono ?_) | (go_at_call 38; refine (HRT.out W (hCB W hW)).mono ?_)); rintro e w' ⟨rfl, hb⟩; exact ⟨rfl, hCK _ _ hW hb⟩)
                      | ((go_at_call 39; refine (HL.out W).mono ?_; rintro e w' ⟨rfl, rfl⟩; exact ⟨rfl, hW⟩))
                  go_big_quiet_on)))
        refine wpQuiet_nil ?_
        intro v4 hv4
        have hwB := hCB v4 hv4
        go_wp2_with fail
        go_ret
        exact ⟨ret_bool (by first | exact HV.out.symm | (rw [HV.out]; simp; done) | (rw [HV.out, Bool.eq_iff_iff]; simp)), keep_below hwB hb0⟩
      | false =>
        rw [hr] at HRT HV
        clear hr
        refine wp_region_cls C (by kernel_rfl) (by kernel_rfl) hC ?_
        repeat (first
          | go_big_quiet_skip
          | (go_big_quiet_want
             go_big_quiet_op
             first
               | go_big_quiet_on
               | (apply Exists.intro
                  refine ⟨fun W hW => ?_, ?_⟩
                  · first
                      | exact rfl
                      | exact ⟨rfl, rfl⟩
                      | (have e0 := f0 W hW; have e1 := f1 W hW; have e2 := f2 W hW; have e3 := f3 W hW; have e4 := f4 W hW; have e5 := f5 W hW; have e6 := f6 W hW; have e7 := f7 W hW; have e8 := f8 W hW; have e9 := f9 W hW; have e10 := f10 W hW; have e11 := f11 W hW; have e12 := fn W hW; have e13 := fg0 W hW; have e14 := fg1 W hW; simp only [e0, e1, e2, e3, e4, e5, e6, e7, e8, e9, e10, e11, e12, e13, e14, Result.andThen_ok]; done)
                      | (have e0 := f0 W hW; have e1 := f1 W hW; have e2 := f2 W hW; have e3 := f3 W hW; have e4 := f4 W hW; have e5 := f5 W hW; have e6 := f6 W hW; have e7 := f7 W hW; have e8 := f8 W hW; have e9 := f9 W hW; have e10 := f10 W hW; have e11 := f11 W hW; have e12 := fn W hW; have e13 := fg0 W hW; have e14 := fg1 W hW; simp only [e0, e1, e2, e3, e4, e5, e6, e7, e8, e9, e10, e11, e12, e13, e14, Result.andThen_ok]; first | exact ⟨trivial, rfl⟩ | exact rfl | exact ⟨rfl, rfl⟩)
                      | ((first | (go_at_call 37; refine (HNO.out W).mono ?_) | (go_at_call 38; refine (HRT.out W (hCB W hW)).mono ?_)); rintro e w' ⟨rfl, hb⟩; exact ⟨rfl, hCK _ _ hW hb⟩)
                      | ((go_at_call 39; refine (HL.out W).mono ?_; rintro e w' ⟨rfl, rfl⟩; exact ⟨rfl, hW⟩))
                  go_big_quiet_on)))
        refine wpQuiet_nil ?_
        intro v4 hv4
        have hwB := hCB v4 hv4
        go_wp2_with fail
        go_ret
        exact ⟨ret_bool (by first | exact HV.out.symm | (rw [HV.out]; simp; done) | (rw [HV.out, Bool.eq_iff_iff]; simp)), keep_below hwB hb0⟩
  · have hv : Hid (nRightB gs secs n p = false) := by unfold Hid; rw [HV.out, decide_eq_false hn]; rfl
    have hn' : n < 0 ∨ (0 ≤ n ∧ 16384 < n) := by omega
    clear hn
    rcases hn' with hn | ⟨hn, hn2⟩
    all_goals
      go_enter Tryz.func15, Tryz.ntmps15
      go_wp2_with fail
      all_goals go_ret
      all_goals exact ⟨ret_bool hv.out.symm, by rw [← hw0]; exact hb0⟩
end Go.Proofs.YtidmbibpoldgcaaGreatDoor

namespace Go.Proofs.YtidmbibpoldgcaaGreatDoor
set_option linter.unusedVariables false
set_option linter.unusedSimpArgs false

def inB (most x : Int) : Bool := decide (0 ≤ x ∧ x ≤ most)
def snOne (gs : List (Int × Int)) (secs : Int) (x : SnapA) : Bool := inB 99 x.id && (decide (1 ≤ x.txg) && (decide (x.txg ≤ 4294967295) && nRightB gs secs x.n x.p))
def prevOk (l : List SnapA) (i : Nat) (x : SnapA) : Bool := i == 0 || (l[i - 1]?).all fun y => decide (y.txg ≤ x.txg)
def snAt (gs : List (Int × Int)) (secs : Int) (l : List SnapA) (i : Nat) (x : SnapA) : Bool := snOne gs secs x && (prevOk l i x && !((l.take i).any fun y => y.id == x.id))
def snapsB (gs : List (Int × Int)) (secs : Int) (l : List SnapA) : Bool := ((List.range l.length).all fun i => (l[i]?).all fun x => snAt gs secs l i x) && decide (l.length ≤ 4)
theorem snaps_all {gs : List (Int × Int)} {secs : Int} {l : List SnapA} : ((List.range l.length).all fun i => (l[i]?).all fun x => snAt gs secs l i x) = true ↔ ∀ i x, l[i]? = some x → snAt gs secs l i x = true := by
  rw [List.all_eq_true]
  constructor
  · intro h i x hx
    have := h i (List.mem_range.2 (List.getElem?_eq_some_iff.1 hx).1)
    rw [hx] at this
    exact this
  · intro h i hi
    rw [List.getElem?_eq_getElem (List.mem_range.1 hi)]
    exact h i _ (List.getElem?_eq_getElem (List.mem_range.1 hi))
def rgOk (r : Int × Int) : Bool := inB 4294967295 r.1 && (inB 4294967295 r.2 && (decide (r.1 ≤ r.2) && (r.1 == 0) == (r.2 == 0)))
def mRight (gs : List (Int × Int)) (secs : Int) (s : StA) : Bool :=
  gRight gs secs && (nRightB gs secs s.n s.p && (snapsB gs secs s.snaps && (decide (s.z.x0 ≤ 2) && (decide ((s.stale.length : Int) = gDevs gs secs) && ((scanI s.z).all inCnt && s.stale.all rgOk)))))
def scanZ : ScanA := ⟨0, 0, 0, 0, 0, 0, 0, 0, 0⟩
def stZ : StA := ⟨0, ptrZ, scanZ, [], []⟩
/-- What is read of any bytes. -/
def rdS (gs : List (Int × Int)) (secs : Int) (l : List UInt8) : StA × Int :=
  if (rAll l (0, 0)).2.2 = 0 then (if allZ (l.drop (rAll l (0, 0)).2.1) && mRight gs secs (rAll l (0, 0)).1 then ((rAll l (0, 0)).1, 0) else (stZ, 3)) else (stZ, (rAll l (0, 0)).2.2)

theorem nright_ok {gs : List (Int × Int)} {secs n : Int} {p : PtrD} (h : nRightB gs secs n p = true) : nodeOk n p = true := by
  simp only [nRightB, Bool.and_eq_true, decide_eq_true_eq, Bool.or_eq_true] at h
  have hl : layOk p = true := by
    rcases h.2 with h2 | h2
    · have : p = ptrZ := of_decide_eq_true h2
      rw [this]; decide
    · exact (right_pure h2.1).2.1
  simp only [nodeOk, Bool.and_eq_true, decide_eq_true_eq]
  exact ⟨by omega, hl⟩
theorem inB_cnt {most x : Int} (h : inB most x = true) (hm : most ≤ 4611686018427387903) : inCnt x = true := by
  have := of_decide_eq_true h
  exact decide_eq_true (by omega)
theorem mRight_ok {gs : List (Int × Int)} {secs : Int} {s : StA} (h : mRight gs secs s = true) : mOk s = true := by
  simp only [mRight, snapsB, Bool.and_eq_true, decide_eq_true_eq] at h
  obtain ⟨_, h2, ⟨h3, _⟩, _, _, h6, h7⟩ := h
  replace h3 := snaps_all.1 h3
  simp only [mOk, Bool.and_eq_true]
  refine ⟨⟨⟨nright_ok h2, List.all_eq_true.2 fun x hx => ?_⟩, h6⟩, List.all_eq_true.2 fun r hr => ?_⟩
  · obtain ⟨i, hi⟩ := List.mem_iff_getElem?.1 hx
    have h4 := h3 i x hi
    simp only [snAt, snOne, Bool.and_eq_true, decide_eq_true_eq] at h4
    obtain ⟨⟨a1, a2, a3, a4⟩, _⟩ := h4
    simp only [snOk, List.all_cons, List.all_nil, Bool.and_true, Bool.and_eq_true]
    exact ⟨⟨inB_cnt a1 (by omega), decide_eq_true (by omega)⟩, nright_ok a4⟩
  · have h4 := List.all_eq_true.1 h7 r hr
    simp only [rgOk, Bool.and_eq_true] at h4
    simp only [stOk, List.all_cons, List.all_nil, Bool.and_true, Bool.and_eq_true]
    exact ⟨inB_cnt h4.1 (by omega), inB_cnt h4.2.1 (by omega)⟩

section
variable {gs : List (Int × Int)} {secs : Int} {s o : StA}
theorem rd_back (hok : mOk s = true) (op : s.p.Ok) (ops : ∀ x ∈ s.snaps, x.p.Ok) (f1 : s.snaps.length ≤ 30) (f2 : s.stale.length ≤ 60) :
    rdS gs secs (mB s ++ [0, 0]) = if mRight gs secs s then (s, 0) else (stZ, 3) := by
  have h := (lays_all (mB s ++ [0, 0]) s hok op ops f1 f2).good 0 [0, 0] rfl
  have hz : allZ ((mB s ++ [0, 0]).drop (0 + (mB s).length)) = true := by rw [Nat.zero_add, List.drop_left]; decide
  unfold rdS
  rw [h]
  simp only [if_true, hz, Bool.true_and]
theorem rd_inj (hok : mOk s = true) (op : s.p.Ok) (ops : ∀ x ∈ s.snaps, x.p.Ok) (f1 : s.snaps.length ≤ 30) (f2 : s.stale.length ≤ 60) (hok' : mOk o = true) (op' : o.p.Ok) (ops' : ∀ x ∈ o.snaps, x.p.Ok) (g1 : o.snaps.length ≤ 30) (g2 : o.stale.length ≤ 60) (he : mB s = mB o) : s = o := by
  have h := (lays_all (mB s) s hok op ops f1 f2).good 0 [] (by rw [List.append_nil]; rfl)
  have h' := (lays_all (mB o) o hok' op' ops' g1 g2).good 0 [] (by rw [List.append_nil]; rfl)
  rw [he, h'] at h
  exact (congrArg Prod.fst h).symm
theorem rd_cut (hok : mOk s = true) (op : s.p.Ok) (ops : ∀ x ∈ s.snaps, x.p.Ok) (f1 : s.snaps.length ≤ 30) (f2 : s.stale.length ≤ 60) {k : Nat} (hk : k < (mB s).length) : rdS gs secs ((mB s).take k) = (stZ, 2) := by
  have h := (lays_all ((mB s).take k) s hok op ops f1 f2).short 0 ((mB s).drop k) (fun e => by have := congrArg List.length e; rw [List.length_drop, List.length_nil] at this; omega) (by rw [List.drop_zero, List.take_append_drop])
  unfold rdS
  rw [h]
  rfl
theorem mB_pos (hok : mOk s = true) (op : s.p.Ok) : 0 < (mB s).length := by
  simp only [mOk, Bool.and_eq_true] at hok
  have := (rn_back hok.1.1.1 op).2
  unfold mB nbS
  rw [if_pos hok.1.1.1]
  simp only [List.length_append]
  omega
theorem snapsB_bad {l : List SnapA} {i : Nat} {x : SnapA} (hx : l[i]? = some x) (h : snAt gs secs l i x = false) : snapsB gs secs l = false := by
  unfold snapsB
  cases hh : (List.range l.length).all fun i => (l[i]?).all fun x => snAt gs secs l i x with
  | false => rfl
  | true => rw [snaps_all.1 hh i x hx] at h; cases h
theorem snapsB_good {l : List SnapA} (h : ∀ i x, l[i]? = some x → snAt gs secs l i x = true) : snapsB gs secs l = decide (l.length ≤ 4) := by
  unfold snapsB
  rw [snaps_all.2 h]
  rfl
end
end Go.Proofs.YtidmbibpoldgcaaGreatDoor
