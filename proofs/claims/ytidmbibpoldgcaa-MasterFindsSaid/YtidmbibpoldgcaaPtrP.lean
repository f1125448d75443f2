/-
  Plain words on pointers: unlike pointers have unlike bytes; what is right can be laid.
-/
import Derived.Test.YtidmbibpoldgcaaPtr3
import Derived.Test.YtidmbibpoldgcaaLeLaws2
import Derived.Test.YtidmbibpoldgcaaCols5
namespace Go.Proofs.Ytidmbibpoldgcaa
open Go.RowKit

theorem u32L_in {x : Int} (h0 : 0 ≤ x) (h1 : x ≤ 4294967295) : u32L x = layL x.toNat 4 := by
  unfold u32L
  first | rw [if_pos ⟨h0, h1⟩] | (split <;> first | rfl | omega)
theorem layOk_bd {p : PtrD} (h : layOk p = true) : (0 ≤ p.ag ∧ p.ag ≤ 4294967295) ∧ (0 ≤ p.aa ∧ p.aa ≤ 4294967295) ∧ (0 ≤ p.bg ∧ p.bg ≤ 4294967295) ∧ (0 ≤ p.ba ∧ p.ba ≤ 4294967295) ∧ (0 ≤ p.birth ∧ p.birth ≤ 4294967295) ∧
    (0 ≤ p.size ∧ p.size ≤ 255) ∧ (0 ≤ p.level ∧ p.level ≤ 255) := by
  simp only [layOk, withinL, List.all_cons, List.all_nil, Bool.and_true, Bool.and_eq_true, decide_eq_true_eq] at h
  obtain ⟨⟨h1, h2, h3, h4, h5⟩, h6, h7⟩ := h
  exact ⟨h1, h2, h3, h4, h5, h6, h7⟩
theorem ptrOne_bd {p : PtrD} (h : layOk p = true) : 0 ≤ ptrOne p ∧ ptrOne p ≤ 4294967295 := by
  obtain ⟨_, _, _, _, _, _, _⟩ := layOk_bd h
  unfold ptrOne; split <;> omega
theorem ptrL_eq {p : PtrD} (h : layOk p = true) : ptrL p = (layL p.ag.toNat 4 ++ (layL p.aa.toNat 4 ++ (layL p.bg.toNat 4 ++ (layL p.ba.toNat 4 ++ (layL (ptrOne p).toNat 4 ++ (layL p.birth.toNat 4 ++
    (layL p.s0 8 ++ (layL p.s1 8 ++ (layL p.s2 8 ++ layL p.s3 8))))))))) ++ List.replicate 8 0 := by
  obtain ⟨⟨a1, a2⟩, ⟨b1, b2⟩, ⟨c1, c2⟩, ⟨d1, d2⟩, ⟨e1, e2⟩, _, _⟩ := layOk_bd h
  obtain ⟨o1, o2⟩ := ptrOne_bd h
  have hb : smallL [p.ag, p.aa, p.bg, p.ba, ptrOne p, p.birth] ++ sumL [p.s0, p.s1, p.s2, p.s3] = (layL p.ag.toNat 4 ++ (layL p.aa.toNat 4 ++ (layL p.bg.toNat 4 ++ (layL p.ba.toNat 4 ++ (layL (ptrOne p).toNat 4 ++ (layL p.birth.toNat 4 ++
      (layL p.s0 8 ++ (layL p.s1 8 ++ (layL p.s2 8 ++ layL p.s3 8))))))))) := by
    unfold smallL sumL
    simp only [List.flatMap_cons, List.flatMap_nil, List.append_nil, List.append_assoc]
    rw [u32L_in a1 a2, u32L_in b1 b2, u32L_in c1 c2, u32L_in d1 d2, u32L_in o1 o2, u32L_in e1 e2]
  have hl : (smallL [p.ag, p.aa, p.bg, p.ba, ptrOne p, p.birth] ++ sumL [p.s0, p.s1, p.s2, p.s3]).length = 56 := by
    rw [hb]; simp [layL_len]
  unfold ptrL padL
  rw [if_pos (by decide), hl, hb]
  rfl
theorem ptrL_inj {p q : PtrD} (hp : layOk p = true) (hq : layOk q = true) (op : p.Ok) (oq : q.Ok) (h : ptrL p = ptrL q) : p = q := by
  rw [ptrL_eq hp, ptrL_eq hq] at h
  have h := List.append_inj_left' h rfl
  obtain ⟨e1, h⟩ := List.append_inj h (by simp [layL_len])
  obtain ⟨e2, h⟩ := List.append_inj h (by simp [layL_len])
  obtain ⟨e3, h⟩ := List.append_inj h (by simp [layL_len])
  obtain ⟨e4, h⟩ := List.append_inj h (by simp [layL_len])
  obtain ⟨e5, h⟩ := List.append_inj h (by simp [layL_len])
  obtain ⟨e6, h⟩ := List.append_inj h (by simp [layL_len])
  obtain ⟨e7, h⟩ := List.append_inj h (by simp [layL_len])
  obtain ⟨e8, h⟩ := List.append_inj h (by simp [layL_len])
  obtain ⟨e9, e10⟩ := List.append_inj h (by simp [layL_len])
  obtain ⟨⟨a1, a2⟩, ⟨b1, b2⟩, ⟨c1, c2⟩, ⟨d1, d2⟩, ⟨g1, g2⟩, ⟨i1, i2⟩, ⟨j1, j2⟩⟩ := layOk_bd hp
  obtain ⟨o1, o2⟩ := ptrOne_bd hp
  obtain ⟨⟨a3, a4⟩, ⟨b3, b4⟩, ⟨c3, c4⟩, ⟨d3, d4⟩, ⟨g3, g4⟩, ⟨i3, i4⟩, ⟨j3, j4⟩⟩ := layOk_bd hq
  obtain ⟨o3, o4⟩ := ptrOne_bd hq
  obtain ⟨p0, p1, p2, p3, _⟩ := op
  obtain ⟨q0, q1, q2, q3, _⟩ := oq
  have f1 := layL_inj (n := 4) (by omega) (by omega) e1
  have f2 := layL_inj (n := 4) (by omega) (by omega) e2
  have f3 := layL_inj (n := 4) (by omega) (by omega) e3
  have f4 := layL_inj (n := 4) (by omega) (by omega) e4
  have f5 := layL_inj (n := 4) (by omega) (by omega) e5
  have f6 := layL_inj (n := 4) (by omega) (by omega) e6
  have f7 := layL_inj (n := 8) (by omega) (by omega) e7
  have f8 := layL_inj (n := 8) (by omega) (by omega) e8
  have f9 := layL_inj (n := 8) (by omega) (by omega) e9
  have f10 := layL_inj (n := 8) (by omega) (by omega) e10
  have g5 : ptrOne p = ptrOne q := by omega
  have k1 : p.ag = q.ag := by omega
  have k2 : p.aa = q.aa := by omega
  have k3 : p.bg = q.bg := by omega
  have k4 : p.ba = q.ba := by omega
  have k6 : p.birth = q.birth := by omega
  have t : p.two = q.two ∧ p.size = q.size ∧ p.level = q.level := by
    clear k1 k2 k3 k4 k6 f1 f2 f3 f4 f5 f6 f7 f8 f9 f10 e1 e2 e3 e4 e5 e6 e7 e8 e9 e10 hp hq h o1 o2 o3 o4
    unfold ptrOne at g5
    cases hx : p.two <;> cases hy : q.two <;> simp only [hx, hy, Bool.false_eq_true, if_true, if_false, Int.add_zero] at g5 <;> refine ⟨?_, ?_, ?_⟩ <;> first | rfl | omega
  obtain ⟨t1, t2, t3⟩ := t
  cases p; cases q
  simp only at *
  subst k1 k2 k3 k4 k6 t1 t2 t3 f7 f8 f9 f10
  rfl
theorem ptrL_iff {p q : PtrD} (hp : layOk p = true) (hq : layOk q = true) (op : p.Ok) (oq : q.Ok) : decide (ptrL p = ptrL q) = ptrEq p q := by
  unfold ptrEq
  by_cases h : p = q
  · subst h; simp
  · rw [decide_eq_false h, decide_eq_false fun e => h (ptrL_inj hp hq op oq e)]

/-- Two stretches are apart; a pointer is right. -/
def apB (gs : List (Int × Int)) (secs ag aa bg ba size : Int) : Bool := (ag != bg) || (decide (aa + gTakes gs secs ag size ≤ ba) || decide (ba + gTakes gs secs bg size ≤ aa))
def rightB (gs : List (Int × Int)) (secs : Int) (p : PtrD) : Bool :=
  decide (0 ≤ p.level) && decide (p.level ≤ 3) && decide (1 ≤ p.birth) && decide (p.birth ≤ 4294967295) && cMay gs secs p.ag p.aa p.size &&
    (if p.two then cMay gs secs p.bg p.ba p.size && apB gs secs p.ag p.aa p.bg p.ba p.size else p.bg == 0 && p.ba == 0)
theorem cMay_bd {gs : List (Int × Int)} {secs pg pa size : Int} (h : cMay gs secs pg pa size = true) : 0 ≤ pg ∧ pg ≤ 4 ∧ 0 ≤ pa ∧ pa ≤ 100000 ∧ 1 ≤ size ∧ size ≤ 4 := by
  obtain ⟨hhas, hz1, hz2, hp1, hp2, _⟩ := cMay_true h
  have hS := gSectors_bd gs secs pg
  have hT := gTakes_bd gs secs pg size
  obtain ⟨k, x, rfl, hk, hl4, _⟩ := gHas_true hhas
  omega
theorem right_pure {gs : List (Int × Int)} {secs : Int} {p : PtrD} (h : rightB gs secs p = true) : noneB p = false ∧ layOk p = true ∧ (p.two = true → (p.ag == p.bg && p.aa == p.ba) = false) := by
  simp only [rightB, Bool.and_eq_true, decide_eq_true_eq] at h
  obtain ⟨⟨⟨⟨⟨h1, h2⟩, h3⟩, h4⟩, h5⟩, h6⟩ := h
  have b := cMay_bd h5
  obtain ⟨_, _, _, _, _, ht⟩ := cMay_true h5
  refine ⟨?_, ?_, ?_⟩
  · unfold noneB ptrEq
    rw [decide_eq_false]
    intro e
    have : p.birth = 0 := by rw [e]; rfl
    omega
  · simp only [layOk, withinL, List.all_cons, List.all_nil, Bool.and_true, Bool.and_eq_true, decide_eq_true_eq]
    cases ht2 : p.two with
    | true =>
      rw [ht2, if_pos rfl, Bool.and_eq_true] at h6
      have b2 := cMay_bd h6.1
      omega
    | false =>
      rw [ht2, if_neg (by simp)] at h6
      simp at h6
      omega
  · intro ht2
    rw [ht2, if_pos rfl, Bool.and_eq_true] at h6
    obtain ⟨_, h7⟩ := h6
    simp only [apB, Bool.or_eq_true, decide_eq_true_eq] at h7
    rw [Bool.and_eq_false_iff]
    by_cases e1 : p.ag = p.bg
    · right
      rw [← e1] at h7
      simp only [bne_self_eq_false, Bool.false_eq_true, false_or] at h7
      simp; omega
    · left; simp [e1]
end Go.Proofs.Ytidmbibpoldgcaa
