/-
  Rows of texts in memory; who is here; what is counted at one place.
-/
import Derived.Test.YtbhkbcpljakmjaaGreatJ29
import Derived.Test.YtbhkbcpljakmjaaGreatJ30
import Derived.Test.YtbhkbcpljakmjaaGreatJ35
namespace Go.Proofs.YtbhkbcpljakmjaaGreat
set_option linter.unusedVariables false
set_option linter.unusedSimpArgs false
open Go.RowKit
theorem cols_pos10 {gs : List (Int × Int)} {secs pg pa size : Int} (h : cMay gs secs pg pa size = true) : 0 < (colsOf gs secs pg pa size).length := by
 by_cases hk : (grAt gs pg).1 = 0
 · have hM := mirL_of h hk
   rw [hM.len]
   exact Nat.mul_pos hM.wpos hM.pos
 · have hP := parL_of h hk
   have h1 := hP.cnt
   have := (cMay_true h).2.1
   have h2 := List.length_filter_le (fun c : Col => !c.2.2.1) (colsOf gs secs pg pa size)
   omega
theorem Tryz.infoStrs : (Tryz.prog.info? 60).map (fun i => (i.zero, i.size, i.bytes)) = some (some (.slice none 0 0), 1, 24) := by kernel_rfl
def RowsN (w : World) (base : Nat) (own : Option Nat) (vs : List Value) (rows : List (List (List UInt8))) : Prop :=
 vs.length = rows.length ∧ ∀ (i : Nat) (v : Value) (r : List (List UInt8)), vs[i]? = some v → rows[i]? = some r →
  ∃ b o c, v = .slice (some ⟨b, o, none⟩) r.length c ∧ r.length ≤ c ∧ base ≤ b ∧ b < w.heap.size ∧ own ≠ some b ∧ ∀ (j : Nat) (u : Value), (strC r)[j]? = some u → w.cell? ⟨b, o + j, none⟩ = some u
theorem RowsN.below {w w' : World} {base : Nat} {own : Option Nat} {vs : List Value} {rows : List (List (List UInt8))} (h : RowsN w base own vs rows) (hb : Below w.heap.size w w') : RowsN w' base own vs rows :=
 ⟨h.1, fun i v r hv hr => by
   obtain ⟨b, o, c, h1, h2, h3, h4, h5, h6⟩ := h.2 i v r hv hr
   exact ⟨b, o, c, h1, h2, h3, Nat.lt_of_lt_of_le h4 hb.size, h5, fun j u hu => (World.cell?_of_block (hb.block b h4)).trans (h6 j u hu)⟩⟩
theorem RowsN.grown {w w' : World} {base : Nat} {own own' : Option Nat} {vs : List Value} {rows : List (List (List UInt8))} (h : RowsN w base own vs rows) (hg : w.grownBy w' own) (ho : own' = own ∨ own' = some w.heap.size) : RowsN w' base own' vs rows :=
 ⟨h.1, fun i v r hv hr => by
   obtain ⟨b, o, c, h1, h2, h3, h4, h5, h6⟩ := h.2 i v r hv hr
   refine ⟨b, o, c, h1, h2, h3, Nat.lt_of_lt_of_le h4 hg.size, ?_, fun j u hu => (World.cell?_of_block (hg.block b h4 (fun e => h5 e.symm))).trans (h6 j u hu)⟩
   rcases ho with rfl | rfl
   · exact h5
   · intro e
     injection e with e
     omega⟩
theorem RowsN.nil (w : World) (base : Nat) (own : Option Nat) : RowsN w base own [] [] := ⟨rfl, fun i v r hv => by simp at hv⟩
theorem RowsN.snoc {w : World} {base : Nat} {own : Option Nat} {vs : List Value} {rows : List (List (List UInt8))} {b o c : Nat} {r : List (List UInt8)} (h : RowsN w base own vs rows) (h1 : r.length ≤ c) (h2 : base ≤ b) (h3 : b < w.heap.size) (h4 : own ≠ some b)
 (h5 : ∀ (j : Nat) (u : Value), (strC r)[j]? = some u → w.cell? ⟨b, o + j, none⟩ = some u) : RowsN w base own (vs ++ [.slice (some ⟨b, o, none⟩) r.length c]) (rows ++ [r]) := by
 refine ⟨by simp [h.1], fun i v' r' hv hr => ?_⟩
 by_cases hi : i < vs.length
 · rw [List.getElem?_append_left hi] at hv
   rw [List.getElem?_append_left (by rw [← h.1]; exact hi)] at hr
   exact h.2 i v' r' hv hr
 · rw [List.getElem?_append_right (by omega)] at hv
   rw [List.getElem?_append_right (by rw [← h.1]; omega), ← h.1] at hr
   obtain ⟨k, hk⟩ : ∃ k, i - vs.length = k := ⟨_, rfl⟩
   rw [hk] at hv hr
   cases k with
   | zero =>
    simp at hv hr
    subst hv hr
    exact ⟨b, o, c, rfl, h1, h2, h3, h4, h5⟩
   | succ k => simp at hv
def RowsU (w : World) (U : Nat → Prop) (rv : Value) (rows : List (List (List UInt8))) : Prop := ∃ vs : List Value, vs.length = rows.length ∧ SlU w U rv rows.length vs ∧ ∀ (i : Nat) (v : Value) (r : List (List UInt8)), vs[i]? = some v → rows[i]? = some r → SlU w U v r.length (strC r)
theorem RowsU.same {w w' : World} {U : Nat → Prop} {rv : Value} {rows : List (List (List UInt8))} (h : RowsU w U rv rows) (hs : ∀ b, U b → w'.heap[b]? = w.heap[b]?) : RowsU w' U rv rows := by
 obtain ⟨vs, h1, h2, h3⟩ := h
 exact ⟨vs, h1, h2.same hs, fun i v r hv hr => (h3 i v r hv hr).same hs⟩
theorem RowsU.to {w : World} {U : Nat → Prop} {rv : Value} {rows : List (List (List UInt8))} (h : RowsU w U rv rows) (hU : ∀ b, U b → b < w.heap.size) : RowsAt w rv rows := by
 obtain ⟨vs, h1, h2, h3⟩ := h
 exact ⟨vs, h1, h2.to hU, fun i v r hv hr => (h3 i v r hv hr).to hU⟩
theorem rowsU_new {w w' : World} {U : Nat → Prop} {base : Nat} {t : TypeId} {own : Option Nat} {rv : Value} {vs : List Value} {rows : List (List (List UInt8))} (h1 : w.ownsRow base t 1 rv rows.length vs) (h2 : RowsN w base own vs rows) (hb : Below w.heap.size w w') (hU : ∀ b, base ≤ b → b < w'.heap.size → U b) : RowsU w' U rv rows := by
 refine ⟨vs, h2.1, slU_own (ownsRow_same h1 (fun b hb' => hb.block b (h1.lt b hb').2)) hU, fun i v r hv hr => ?_⟩
 obtain ⟨b, o, c, rfl, g2, g3, g4, _, g6⟩ := h2.2 i v r hv hr
 exact ⟨some ⟨b, o, none⟩, c, rfl, g2, fun _ => ⟨b, o, rfl, hU b g3 (Nat.lt_of_lt_of_le g4 hb.size), fun j u hu => (World.cell?_of_block (hb.block b g4)).trans (g6 j u hu)⟩⟩
theorem rowsAt_own {w : World} {base : Nat} {t : TypeId} {own : Option Nat} {rv : Value} {vs : List Value} {rows : List (List (List UInt8))} (h1 : w.ownsRow base t 1 rv rows.length vs) (h2 : RowsN w base own vs rows) : RowsAt w rv rows :=
 ⟨vs, h2.1, slAt_own h1, fun i v r hv hr => by
   obtain ⟨b, o, c, rfl, g2, g3, g4, _, g6⟩ := h2.2 i v r hv hr
   exact ⟨some ⟨b, o, none⟩, c, rfl, g2, fun _ => ⟨b, o, rfl, g4, g6⟩⟩⟩
theorem here_laid {gs : List (Int × Int)} {secs : Int} {al ll : List Bool} {s : List UInt8} {l : List PlX} {n sc k : Nat} (hk : k < n) :
 hereD (awT al n n) (loT ll (wrAll gs secs (awT al n 0) s l (List.replicate n (DevD.blank sc 0))) n) k = bAt (hrT al ll n) k := by
 obtain ⟨D0, hD0⟩ : ∃ D0, wrAll gs secs (awT al n 0) s l (List.replicate n (DevD.blank sc 0)) = D0 := ⟨_, rfl⟩
 have h0 : hereD (awT al n 0) D0 k = true := by
  rw [← hD0, wrAll_hereD]
  unfold hereD
  rw [List.getElem?_replicate_of_lt hk, List.getD_eq_getElem?_getD, awT_at hk]
  rfl
 have hlen : D0.length = n := by rw [← hD0, wrAll_len, List.length_replicate]
 rw [hD0]
 obtain ⟨d, hd⟩ : ∃ d, D0[k]? = some d := ⟨_, List.getElem?_eq_getElem (by omega)⟩
 have hdl : d.lost = false := by
  unfold hereD at h0
  rw [hd] at h0
  simp only [Bool.and_eq_true, Bool.not_eq_true'] at h0
  exact h0.2
 have hr : bAt (hrT al ll n) k = (!bAt al k && !bAt ll k) := by unfold hrT; rw [bAt, List.getD_eq_getElem?_getD, List.getElem?_map, List.getElem?_range hk]; rfl
 rw [hr]
 unfold hereD
 rw [loT_at hd, List.getD_eq_getElem?_getD, awT_at hk]
 simp only [hk, decide_true, Bool.true_and, Option.getD_some]
 cases bAt ll k with
 | true => simp [DevD.lose]
 | false => simp [hdl]
theorem unl_here {gs : List (Int × Int)} {secs n : Nat} {aw hr : List Bool} {ds : List DevD} {q : PtrD} {t : List UInt8} {pl : PlX} (hg : gRight gs secs = true) (hn : gSum gs = n) (hm : cMay gs secs pl.1 pl.2 q.size = true) (e1 : (secN t : Int) = q.size) (e2 : secOk t = true)
 (hh : ∀ d, d < n → hereD aw ds d = bAt hr d) {R : PlX → List (List UInt8)} (hR : rawP gs secs q.size aw ds = R) :
 unl gs secs aw q t ds pl = unlikeN (fun d => bAt hr d) (colsOf gs secs pl.1 pl.2 q.size) (encL gs secs pl.1 pl.2 t) (R pl) (colsOf gs secs pl.1 pl.2 q.size).length ∧ (∀ c ∈ colsOf gs secs pl.1 pl.2 q.size, 0 ≤ c.1 ∧ c.1 < n) ∧
 (encL gs secs pl.1 pl.2 t).length = (colsOf gs secs pl.1 pl.2 q.size).length ∧ (R pl).length = (colsOf gs secs pl.1 pl.2 q.size).length ∧ (colsOf gs secs pl.1 pl.2 q.size).length ≤ 64 ∧ fine gs secs aw q t ds pl = eqTo (R pl) (encL gs secs pl.1 pl.2 t) (R pl).length ∧ cMay gs secs pl.1 pl.2 (secN t) = true := by
 have hm2 : cMay gs secs pl.1 pl.2 (secN t) = true := by rw [e1]; exact hm
 have hE := enc_pl e2 hm2
 have hc := cols_of hg hn hE
 rw [ofList_may hm2, e1] at hc
 have h64 := ofList_le gs secs pl.1 pl.2 q.size
 rw [ofList_may hm] at h64
 have hR' : rawP gs secs q.size aw ds pl = R pl := by rw [← hR]
 refine ⟨?_, fun c hcm => ?_, ?_, ?_, h64, ?_, hm2⟩
 · unfold unl
   rw [hR']
   refine unlikeN_congr fun i hi => ?_
   obtain ⟨c1, c2, _, _⟩ := hc.inn i _ (colD_in hi)
   exact hh _ (by omega)
 · obtain ⟨i, hi⟩ := List.mem_iff_getElem?.1 hcm
   obtain ⟨c1, c2, _, _⟩ := hc.inn i _ hi
   exact ⟨c1, c2⟩
 · rw [encL_len, e1, ofList_may hm]
 · rw [← hR']
   exact raw_len hm
 · unfold fine
   rw [hR']
end Go.Proofs.YtbhkbcpljakmjaaGreat
