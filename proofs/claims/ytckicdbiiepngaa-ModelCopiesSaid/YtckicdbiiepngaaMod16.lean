/-
  Worlds side by side, each in blocks of its own.
-/
import Derived.Test.YtckicdbiiepngaaLawM
import Derived.Test.YtckicdbiiepngaaMod15
namespace Go.Proofs.Ytckicdbiiepngaa
set_option linter.unusedVariables false
set_option linter.unusedSimpArgs false
open Go.RowKit Go.Maps Go.Lib Go.Shelf

/-- Worlds, in blocks that are new since w0, none of which is in two of them. -/
def Mods (w0 w : World) (l : List (Nat × ModD × Nat)) : Prop :=
  ∃ S : Nat → Nat → Prop, (∀ k b d N, l[k]? = some (b, d, N) → ModAt w (S k) b d N) ∧ (∀ j k, j ≠ k → ∀ i, S j i → ¬ S k i) ∧ (∀ k i, S k i → w0.heap.size ≤ i ∧ i < w.heap.size) ∧ Below w0.heap.size w0 w
section
variable {w0 w w' : World} {l : List (Nat × ModD × Nat)} {b N : Nat} {d : ModD}
theorem Mods.base (h : Mods w0 w l) : Below w0.heap.size w0 w := by
  obtain ⟨_, _, _, _, h⟩ := h
  exact h
theorem Mods.nil (hb : Below w0.heap.size w0 w) : Mods w0 w [] := ⟨fun _ _ => False, fun k b d N h => by simp at h, fun _ _ _ _ h => h.elim, fun _ _ h => h.elim, hb⟩
theorem Mods.below (h : Mods w0 w l) (hb : Below w.heap.size w w') : Mods w0 w' l := by
  obtain ⟨S, h1, h2, h3, h4⟩ := h
  exact ⟨S, fun k b d N hk => (h1 k b d N hk).below hb, h2, fun k i hi => ⟨(h3 k i hi).1, Nat.lt_of_lt_of_le (h3 k i hi).2 hb.size⟩, keep_below hb h4⟩
theorem Mods.at (h : Mods w0 w l) (k : Nat) (hk : l[k]? = some (b, d, N)) : SameAt w b d.now N := by
  obtain ⟨S, h1, _⟩ := h
  exact (h1 k b d N hk).at_same
theorem Mods.step (h : Mods w0 w l) (k : Nat) (hk : l[k]? = some (b, d, N)) : ∃ S, ModAt w S b d N ∧ ∀ w' d' N', ModAt w' (more S w w') b d' N' → Only S w w' → Mods w0 w' (l.set k (b, d', N')) := by
  obtain ⟨S, h1, h2, h3, h4⟩ := h
  refine ⟨S k, h1 k b d N hk, fun w' d' N' hm ho => ?_⟩
  have hkl := (List.getElem?_eq_some_iff.1 hk).1
  refine ⟨fun j => if j = k then more (S k) w w' else S j, fun j b2 d2 N2 hj => ?_, fun i j hij x hx hy => ?_, fun j i hi => ?_, h4.trans (ho.below h4.size (fun i hi => (h3 k i hi).1))⟩
  · by_cases e : j = k
    · subst e
      rw [List.getElem?_set_self hkl] at hj
      cases hj
      simp only [if_true]
      exact hm
    · rw [List.getElem?_set_ne (fun h => e h.symm)] at hj
      simp only [e, if_false]
      exact (h1 j b2 d2 N2 hj).only ho (fun i hi => h2 j k e i hi)
  · by_cases e1 : i = k
    · have e2 : ¬ j = k := fun h => hij (e1.trans h.symm)
      simp only [e1, e2, if_true, if_false] at hx hy
      rcases hx with hx | hx
      · exact h2 j k e2 x hy hx
      · have := h3 j x hy; omega
    · simp only [e1, if_false] at hx
      by_cases e2 : j = k
      · simp only [e2, if_true] at hy
        rcases hy with hy | hy
        · exact h2 i k e1 x hx hy
        · have := h3 i x hx; omega
      · simp only [e2, if_false] at hy
        exact h2 i j hij x hx hy
  · by_cases e : j = k
    · simp only [e, if_true] at hi
      rcases hi with hi | hi
      · have := h3 k i hi; have := ho.size; omega
      · have := h4.size; omega
    · simp only [e, if_false] at hi
      have := h3 j i hi; have := ho.size; omega
theorem Mods.add (h : Mods w0 w l) (hb : Below w.heap.size w w') (hm : ModAt w' (fun i => w.heap.size ≤ i ∧ i < w'.heap.size) b d N) : Mods w0 w' (l ++ [(b, d, N)]) := by
  obtain ⟨S, h1, h2, h3, h4⟩ := h
  refine ⟨fun j => if j < l.length then S j else if j = l.length then (fun i => w.heap.size ≤ i ∧ i < w'.heap.size) else fun _ => False, fun j b2 d2 N2 hj => ?_, fun i j hij x hx hy => ?_, fun j i hi => ?_, keep_below hb h4⟩
  · by_cases e : j < l.length
    · rw [List.getElem?_append_left e] at hj
      simp only [e, if_true]
      exact (h1 j b2 d2 N2 hj).below hb
    · have hl := (List.getElem?_eq_some_iff.1 hj).1
      have e2 : j = l.length := by simp at hl; omega
      subst e2
      rw [List.getElem?_append_right (Nat.le_refl _), Nat.sub_self] at hj
      simp at hj
      obtain ⟨rfl, rfl, rfl⟩ := hj
      simp only [Nat.lt_irrefl, if_false, if_true]
      exact hm
  · by_cases e1 : i < l.length
    · simp only [e1, if_true] at hx
      by_cases e2 : j < l.length
      · simp only [e2, if_true] at hy
        exact h2 i j hij x hx hy
      · simp only [e2, if_false] at hy
        split at hy
        · have := h3 i x hx; omega
        · exact hy
    · simp only [e1, if_false] at hx
      by_cases e2 : j < l.length
      · simp only [e2, if_true] at hy
        split at hx
        · have := h3 j x hy; omega
        · exact hx
      · simp only [e2, if_false] at hy
        split at hx
        · rename_i e3
          split at hy
          · rename_i e4; exact hij (e3.trans e4.symm)
          · exact hy
        · exact hx
  · have hs := hb.size
    have hs0 := h4.size
    by_cases e1 : j < l.length
    · simp only [e1, if_true] at hi
      have := h3 j i hi; omega
    · simp only [e1, if_false] at hi
      split at hi
      · omega
      · exact hi.elim
end
theorem new_l {w0 w : World} {l : List (Nat × ModD × Nat)} (h : Mods w0 w l) : Calls Try.prog 9 #[] w fun e w' => ∃ b, e = .returned (.pointer (some ⟨b, 0, none⟩)) ∧ Mods w0 w' (l ++ [(b, ⟨emp, emp⟩, 0)]) :=
  (new_any w).mono fun e w' ⟨b, he, h1, h2⟩ => ⟨b, he, h.add h2 h1⟩
theorem copy_l {w0 w : World} {l : List (Nat × ModD × Nat)} (h : Mods w0 w l) {b N : Nat} {d : ModD} (k : Nat) (hk : l[k]? = some (b, d, N)) (hN : N ≤ 1000000) : Calls Try.prog 16 #[.pointer (some ⟨b, 0, none⟩)] w fun e w' => ∃ v, e = .returned (.pointer (some ⟨v, 0, none⟩)) ∧ Mods w0 w' (l ++ [(v, d, N)]) := by
  obtain ⟨S, hm, _⟩ := h.step k hk
  exact (mcopy_any hm hN).mono fun e w' ⟨v, he, h1, h2⟩ => ⟨v, he, h.add h2 h1⟩
theorem keep_l {w0 w : World} {l : List (Nat × ModD × Nat)} (h : Mods w0 w l) {b N : Nat} {d : ModD} (k : Nat) (hk : l[k]? = some (b, d, N)) (hN : N ≤ 1000000) : Calls Try.prog 15 #[.pointer (some ⟨b, 0, none⟩)] w fun e w' => e = .returned (.tuple #[]) ∧ Mods w0 w' (l.set k (b, ⟨d.now, d.now⟩, N)) := by
  obtain ⟨S, hm, hs⟩ := h.step k hk
  exact (keep_any hm hN).mono fun e w' ⟨he, h1, h2⟩ => ⟨he, hs _ _ _ h1 h2⟩
theorem back_l {w0 w : World} {l : List (Nat × ModD × Nat)} (h : Mods w0 w l) {b N : Nat} {d : ModD} (k : Nat) (hk : l[k]? = some (b, d, N)) (hN : N ≤ 1000000) : Calls Try.prog 17 #[.pointer (some ⟨b, 0, none⟩)] w fun e w' => e = .returned (.tuple #[]) ∧ Mods w0 w' (l.set k (b, ⟨d.kept, d.kept⟩, N)) := by
  obtain ⟨S, hm, hs⟩ := h.step k hk
  exact (back_any hm hN).mono fun e w' ⟨he, h1, h2⟩ => ⟨he, hs _ _ _ h1 h2⟩
theorem do_l {w0 w : World} {l : List (Nat × ModD × Nat)} (h : Mods w0 w l) {b N : Nat} {d : ModD} (k : Nat) (hk : l[k]? = some (b, d, N)) (hN : N ≤ 1000000) (a : MAct) (ha : a.Ok) :
    Calls Try.prog 10 #[.pointer (some ⟨b, 0, none⟩), .agg #[.int .u8 a.do_, .int .i64 a.id, .int .i64 a.off, .int .i64 a.n, .int .u8 a.fill.toNat]] w fun e w' => ∃ er d', e = .returned (.int .i64 er) ∧ Mods w0 w' (l.set k (b, d', N + 1)) ∧ d'.kept = d.kept ∧ (er ≠ 0 → d' = d) := by
  obtain ⟨S, hm, hs⟩ := h.step k hk
  exact (do_any hm hN a ha).mono fun e w' ⟨er, he, d', h1, h2, h3, h4⟩ => ⟨er, d', he, hs _ _ _ h1 h2, h3, h4⟩

theorem MActs.get {w w' : World} {b o n c : Nat} {l : List MAct} (h : MActs w (.slice (some ⟨b, o, none⟩) n c) l) {i : Nat} {x : MAct} (hx : l[i]? = some x) (hb : Below w.heap.size w w') :
    w'.cell? ⟨b, o + i * 5, none⟩ = some (.int .u8 x.do_) ∧ w'.cell? ⟨b, o + i * 5 + 1, none⟩ = some (.int .i64 x.id) ∧ w'.cell? ⟨b, o + i * 5 + 2, none⟩ = some (.int .i64 x.off) ∧ w'.cell? ⟨b, o + i * 5 + 3, none⟩ = some (.int .i64 x.n) ∧ w'.cell? ⟨b, o + i * 5 + 4, none⟩ = some (.int .u8 x.fill.toNat) ∧ x.Ok := by
  obtain ⟨A', c', he, _, hcell⟩ := h.below hb
  injection he with h1 h2 h3
  obtain ⟨b', o', rfl, _, hcell⟩ := hcell (by have := (List.getElem?_eq_some_iff.1 hx).1; omega)
  injection h1 with h1
  injection h1 with h4 h5
  subst h4 h5
  exact hcell i x hx
theorem MActs.form {w : World} {v : Value} {l : List MAct} (h : MActs w v l) : ∃ A c, v = .slice A l.length c := by
  obtain ⟨A, c, h, _⟩ := h
  exact ⟨A, c, h⟩
theorem MActs.some {w : World} {A : Option Addr} {c : Nat} {l : List MAct} (h : MActs w (.slice A l.length c) l) (hl : 0 < l.length) : ∃ b o, A = some ⟨b, o, none⟩ := by
  obtain ⟨A', c', he, _, h3⟩ := h
  cases he
  obtain ⟨b, o, e, _⟩ := h3 hl
  exact ⟨b, o, e⟩
end Go.Proofs.Ytckicdbiiepngaa
