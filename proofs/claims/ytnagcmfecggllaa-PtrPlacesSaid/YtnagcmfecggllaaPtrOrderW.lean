/-
  The walk of PtrOrder.
-/
import Derived.Test.YtnagcmfecggllaaPtr3
namespace Go.Proofs.Ytnagcmfecggllaa
open Go.RowKit
set_option linter.unusedVariables false

theorem ptrZ_ok : ptrZ.Ok := by unfold PtrD.Ok ptrZ; decide
theorem awake9_any (w : World) : Calls Try.prog 5 #[] w fun e w' => e = .returned (.bool true) ∧ Below w.heap.size w w' := by
  have hl : layOk ptrZ = true := by decide
  have hp : ptrL ptrZ = List.replicate 64 0 := by decide +kernel
  have HB := Lib.hid (pbytes_any ptrZ · ptrZ_ok)
  rw [hl, if_pos rfl, if_pos rfl] at HB
  have HZ := Lib.hid fun W => zeros_any (ptrL ptrZ) W (by rw [hp]; simp)
  have hz : allZ (ptrL ptrZ) = true := by rw [hp]; decide
  have hlen : (ptrL ptrZ).length = 64 := by rw [hp]; rfl
  rw [hz] at HZ
  have HLN := Lib.hid hlen
  have h1 : (ptrL ptrZ).length ≤ 64 := Nat.le_of_eq hlen
  have h2 : ((ptrL ptrZ).length == 64) = true := by rw [hlen]; rfl
  have h3 : (((ptrL ptrZ).length : Int) == 64) = true := by rw [hlen]; rfl
  clear hp hz hl hlen
  generalize ptrL ptrZ = s at *
  go_enter Try.func5, Try.ntmps5
  go_wp2_with fail
  refine (HB.out _).mono ?_
  rintro e w1 ⟨rfl, hb1⟩
  go_wp2_with fail
  refine (HZ.out _).mono ?_
  rintro e w2 ⟨rfl, rfl⟩
  go_wp2_with fail
  go_ret
  exact ⟨rfl, hb1⟩

theorem lessB_eq (p q : PtrD) : lessB p q = decide (p.birth < q.birth ∨ p.birth = q.birth ∧ (p.ag < q.ag ∨ p.ag = q.ag ∧ p.aa < q.aa)) := by
  unfold lessB
  congr 1
  simp only [orL, cmpInt]
  rw [eq_iff_iff]
  rcases Int.lt_trichotomy p.birth q.birth with h1 | h1 | h1 <;> rcases Int.lt_trichotomy p.ag q.ag with h2 | h2 | h2 <;> rcases Int.lt_trichotomy p.aa q.aa with h3 | h3 | h3 <;>
    (repeat' split) <;> omega

set_option maxRecDepth 100000 in
set_option maxHeartbeats 4000000 in
theorem orderLaw_any (a b c : PtrD) (w : World) :
    Calls Try.prog 3 #[.agg a.cells, .agg b.cells, .agg c.cells] w fun e w' => e = .returned (.bool true) ∧ Below w.heap.size w w' := by
  have hb0 : Below w.heap.size w (((w.alloc (.cells a.cells 28)).alloc (.cells b.cells 28)).alloc (.cells c.cells 28)) := (((Below.refl _ _).alloc (Nat.le_refl _) _).alloc (by simp) _).alloc (by simp; omega) _
  have HA0 : Hid (PtrAt (((w.alloc (.cells a.cells 28)).alloc (.cells b.cells 28)).alloc (.cells c.cells 28)) w.heap.size 0 a) :=
    Lib.hid (((PtrAt.new w a _).keep ((Below.refl _ _).alloc (Nat.le_refl _) _) (by simp)).keep ((Below.refl _ _).alloc (Nat.le_refl _) _) (by simp; omega))
  have HB0 : Hid (PtrAt (((w.alloc (.cells a.cells 28)).alloc (.cells b.cells 28)).alloc (.cells c.cells 28)) (w.heap.size + 1) 0 b) := by
    have := (PtrAt.new (w.alloc (.cells a.cells 28)) b 28).keep ((Below.refl _ _).alloc (Nat.le_refl _) (.cells c.cells 28)) (by simp)
    rw [World.size_alloc] at this
    exact this
  have HC0 : Hid (PtrAt (((w.alloc (.cells a.cells 28)).alloc (.cells b.cells 28)).alloc (.cells c.cells 28)) (w.heap.size + 2) 0 c) := by
    have := PtrAt.new ((w.alloc (.cells a.cells 28)).alloc (.cells b.cells 28)) c 28
    rw [World.size_alloc, World.size_alloc] at this
    exact this
  have hs0 : w.heap.size + 3 ≤ (((w.alloc (.cells a.cells 28)).alloc (.cells b.cells 28)).alloc (.cells c.cells 28)).heap.size := by simp
  have LA := Lib.hid fun W => less_any a a W
  have L1 := Lib.hid fun W => less_any a b W
  have L2 := Lib.hid fun W => less_any b a W
  have L3 := Lib.hid fun W => less_any b c W
  have L4 := Lib.hid fun W => less_any a c W
  have q0 : lessB a a = false := by rw [lessB_eq]; simp
  have q1 : lessB a b = true → lessB b a = false := by
    rw [lessB_eq, lessB_eq]; simp only [decide_eq_true_eq, decide_eq_false_iff_not]; omega
  have q2 : lessB a b = true → lessB b c = true → lessB a c = true := by
    rw [lessB_eq, lessB_eq, lessB_eq]; simp only [decide_eq_true_eq]; omega
  have q3 : lessB a b = false → lessB b a = false → a.birth = b.birth ∧ a.ag = b.ag ∧ a.aa = b.aa := by
    rw [lessB_eq, lessB_eq]; simp only [decide_eq_false_iff_not]; omega
  have Q1 := Lib.hid q1
  have Q2 := Lib.hid q2
  have Q3 := Lib.hid q3
  rw [q0] at LA
  clear q0 q1 q2 q3
  go_enter Try.func3, Try.ntmps3
  go_wp2_with fail
  refine (awake9_any _).mono ?_
  rintro e w1 ⟨rfl, hn1⟩
  have HA1 := Lib.hid (HA0.out.keep hn1 (by omega))
  have HB1 := Lib.hid (HB0.out.keep hn1 (by omega))
  have HC1 := Lib.hid (HC0.out.keep hn1 (by omega))
  have hb1 := hb0.trans (hn1.mono hb0.size)
  have hs1 := keep_size hn1 hs0
  clear HA0 HB0 HC0 hb0 hs0 hn1
  obtain ⟨a0, a1, a2, a3, a4, a5, a6, a7, a8, a9, aa, ab⟩ := HA1.out
  obtain ⟨b0, b1, b2, b3, b4, b5, b6, b7, b8, b9, ba, bb⟩ := HB1.out
  obtain ⟨c0, c1, c2, c3, c4, c5, c6, c7, c8, c9, ca, cb⟩ := HC1.out
  simp only [Nat.zero_add] at a1 a2 a3 a4 a5 a6 a7 a8 a9 aa ab b1 b2 b3 b4 b5 b6 b7 b8 b9 ba bb c1 c2 c3 c4 c5 c6 c7 c8 c9 ca cb
  go_wp2_with fail
  refine (LA.out _).mono ?_
  rintro e w2 ⟨rfl, hn2⟩
  clear a0 a1 a2 a3 a4 a5 a6 a7 a8 a9 aa ab b0 b1 b2 b3 b4 b5 b6 b7 b8 b9 ba bb c0 c1 c2 c3 c4 c5 c6 c7 c8 c9 ca cb
  have HA2 := Lib.hid (HA1.out.keep hn2 (by omega))
  have HB2 := Lib.hid (HB1.out.keep hn2 (by omega))
  have HC2 := Lib.hid (HC1.out.keep hn2 (by omega))
  have hb2 := hb1.trans (hn2.mono hb1.size)
  have hs2 := keep_size hn2 hs1
  clear HA1 HB1 HC1 hb1 hs1 hn2
  obtain ⟨a0, a1, a2, a3, a4, a5, a6, a7, a8, a9, aa, ab⟩ := HA2.out
  obtain ⟨b0, b1, b2, b3, b4, b5, b6, b7, b8, b9, ba, bb⟩ := HB2.out
  obtain ⟨c0, c1, c2, c3, c4, c5, c6, c7, c8, c9, ca, cb⟩ := HC2.out
  simp only [Nat.zero_add] at a1 a2 a3 a4 a5 a6 a7 a8 a9 aa ab b1 b2 b3 b4 b5 b6 b7 b8 b9 ba bb c1 c2 c3 c4 c5 c6 c7 c8 c9 ca cb
  go_wp2_with fail
  refine (L1.out _).mono ?_
  rintro e w3 ⟨rfl, hn3⟩
  clear a0 a1 a2 a3 a4 a5 a6 a7 a8 a9 aa ab b0 b1 b2 b3 b4 b5 b6 b7 b8 b9 ba bb c0 c1 c2 c3 c4 c5 c6 c7 c8 c9 ca cb
  have HA3 := Lib.hid (HA2.out.keep hn3 (by omega))
  have HB3 := Lib.hid (HB2.out.keep hn3 (by omega))
  have HC3 := Lib.hid (HC2.out.keep hn3 (by omega))
  have hb3 := hb2.trans (hn3.mono hb2.size)
  have hs3 := keep_size hn3 hs2
  clear HA2 HB2 HC2 hb2 hs2 hn3
  obtain ⟨a0, a1, a2, a3, a4, a5, a6, a7, a8, a9, aa, ab⟩ := HA3.out
  obtain ⟨b0, b1, b2, b3, b4, b5, b6, b7, b8, b9, ba, bb⟩ := HB3.out
  obtain ⟨c0, c1, c2, c3, c4, c5, c6, c7, c8, c9, ca, cb⟩ := HC3.out
  simp only [Nat.zero_add] at a1 a2 a3 a4 a5 a6 a7 a8 a9 aa ab b1 b2 b3 b4 b5 b6 b7 b8 b9 ba bb c1 c2 c3 c4 c5 c6 c7 c8 c9 ca cb
  cases h1 : lessB a b with
  | true =>
    rw [h1] at L1
    rw [Q1.out h1] at L2
    go_wp2_with fail
    refine (L2.out _).mono ?_
    rintro e w4 ⟨rfl, hn4⟩
    clear a0 a1 a2 a3 a4 a5 a6 a7 a8 a9 aa ab b0 b1 b2 b3 b4 b5 b6 b7 b8 b9 ba bb c0 c1 c2 c3 c4 c5 c6 c7 c8 c9 ca cb
    have HA4 := Lib.hid (HA3.out.keep hn4 (by omega))
    have HB4 := Lib.hid (HB3.out.keep hn4 (by omega))
    have HC4 := Lib.hid (HC3.out.keep hn4 (by omega))
    have hb4 := hb3.trans (hn4.mono hb3.size)
    have hs4 := keep_size hn4 hs3
    clear HA3 HB3 HC3 hb3 hs3 hn4
    obtain ⟨a0, a1, a2, a3, a4, a5, a6, a7, a8, a9, aa, ab⟩ := HA4.out
    obtain ⟨b0, b1, b2, b3, b4, b5, b6, b7, b8, b9, ba, bb⟩ := HB4.out
    obtain ⟨c0, c1, c2, c3, c4, c5, c6, c7, c8, c9, ca, cb⟩ := HC4.out
    simp only [Nat.zero_add] at a1 a2 a3 a4 a5 a6 a7 a8 a9 aa ab b1 b2 b3 b4 b5 b6 b7 b8 b9 ba bb c1 c2 c3 c4 c5 c6 c7 c8 c9 ca cb
    go_wp2_with fail
    refine (L1.out _).mono ?_
    rintro e w5 ⟨rfl, hn5⟩
    clear a0 a1 a2 a3 a4 a5 a6 a7 a8 a9 aa ab b0 b1 b2 b3 b4 b5 b6 b7 b8 b9 ba bb c0 c1 c2 c3 c4 c5 c6 c7 c8 c9 ca cb
    have HA5 := Lib.hid (HA4.out.keep hn5 (by omega))
    have HB5 := Lib.hid (HB4.out.keep hn5 (by omega))
    have HC5 := Lib.hid (HC4.out.keep hn5 (by omega))
    have hb5 := hb4.trans (hn5.mono hb4.size)
    have hs5 := keep_size hn5 hs4
    clear HA4 HB4 HC4 hb4 hs4 hn5
    obtain ⟨a0, a1, a2, a3, a4, a5, a6, a7, a8, a9, aa, ab⟩ := HA5.out
    obtain ⟨b0, b1, b2, b3, b4, b5, b6, b7, b8, b9, ba, bb⟩ := HB5.out
    obtain ⟨c0, c1, c2, c3, c4, c5, c6, c7, c8, c9, ca, cb⟩ := HC5.out
    simp only [Nat.zero_add] at a1 a2 a3 a4 a5 a6 a7 a8 a9 aa ab b1 b2 b3 b4 b5 b6 b7 b8 b9 ba bb c1 c2 c3 c4 c5 c6 c7 c8 c9 ca cb
    cases h3 : lessB b c with
    | true =>
      rw [h3] at L3
      rw [Q2.out h1 h3] at L4
      clear h1 h3
      go_wp2_with fail
      refine (L3.out _).mono ?_
      rintro e w6 ⟨rfl, hn6⟩
      clear a0 a1 a2 a3 a4 a5 a6 a7 a8 a9 aa ab b0 b1 b2 b3 b4 b5 b6 b7 b8 b9 ba bb c0 c1 c2 c3 c4 c5 c6 c7 c8 c9 ca cb
      have HA6 := Lib.hid (HA5.out.keep hn6 (by omega))
      have HB6 := Lib.hid (HB5.out.keep hn6 (by omega))
      have HC6 := Lib.hid (HC5.out.keep hn6 (by omega))
      have hb6 := hb5.trans (hn6.mono hb5.size)
      have hs6 := keep_size hn6 hs5
      clear HA5 HB5 HC5 hb5 hs5 hn6
      obtain ⟨a0, a1, a2, a3, a4, a5, a6, a7, a8, a9, aa, ab⟩ := HA6.out
      obtain ⟨b0, b1, b2, b3, b4, b5, b6, b7, b8, b9, ba, bb⟩ := HB6.out
      obtain ⟨c0, c1, c2, c3, c4, c5, c6, c7, c8, c9, ca, cb⟩ := HC6.out
      simp only [Nat.zero_add] at a1 a2 a3 a4 a5 a6 a7 a8 a9 aa ab b1 b2 b3 b4 b5 b6 b7 b8 b9 ba bb c1 c2 c3 c4 c5 c6 c7 c8 c9 ca cb
      go_wp2_with fail
      refine (L4.out _).mono ?_
      rintro e w7 ⟨rfl, hn7⟩
      clear a0 a1 a2 a3 a4 a5 a6 a7 a8 a9 aa ab b0 b1 b2 b3 b4 b5 b6 b7 b8 b9 ba bb c0 c1 c2 c3 c4 c5 c6 c7 c8 c9 ca cb
      have HA7 := Lib.hid (HA6.out.keep hn7 (by omega))
      have HB7 := Lib.hid (HB6.out.keep hn7 (by omega))
      have HC7 := Lib.hid (HC6.out.keep hn7 (by omega))
      have hb7 := hb6.trans (hn7.mono hb6.size)
      have hs7 := keep_size hn7 hs6
      clear HA6 HB6 HC6 hb6 hs6 hn7
      obtain ⟨a0, a1, a2, a3, a4, a5, a6, a7, a8, a9, aa, ab⟩ := HA7.out
      obtain ⟨b0, b1, b2, b3, b4, b5, b6, b7, b8, b9, ba, bb⟩ := HB7.out
      obtain ⟨c0, c1, c2, c3, c4, c5, c6, c7, c8, c9, ca, cb⟩ := HC7.out
      simp only [Nat.zero_add] at a1 a2 a3 a4 a5 a6 a7 a8 a9 aa ab b1 b2 b3 b4 b5 b6 b7 b8 b9 ba bb c1 c2 c3 c4 c5 c6 c7 c8 c9 ca cb
      go_wp2_with fail
      refine (L1.out _).mono ?_
      rintro e w8 ⟨rfl, hn8⟩
      clear a0 a1 a2 a3 a4 a5 a6 a7 a8 a9 aa ab b0 b1 b2 b3 b4 b5 b6 b7 b8 b9 ba bb c0 c1 c2 c3 c4 c5 c6 c7 c8 c9 ca cb
      have HA8 := Lib.hid (HA7.out.keep hn8 (by omega))
      have HB8 := Lib.hid (HB7.out.keep hn8 (by omega))
      have HC8 := Lib.hid (HC7.out.keep hn8 (by omega))
      have hb8 := hb7.trans (hn8.mono hb7.size)
      have hs8 := keep_size hn8 hs7
      clear HA7 HB7 HC7 hb7 hs7 hn8
      obtain ⟨a0, a1, a2, a3, a4, a5, a6, a7, a8, a9, aa, ab⟩ := HA8.out
      obtain ⟨b0, b1, b2, b3, b4, b5, b6, b7, b8, b9, ba, bb⟩ := HB8.out
      obtain ⟨c0, c1, c2, c3, c4, c5, c6, c7, c8, c9, ca, cb⟩ := HC8.out
      simp only [Nat.zero_add] at a1 a2 a3 a4 a5 a6 a7 a8 a9 aa ab b1 b2 b3 b4 b5 b6 b7 b8 b9 ba bb c1 c2 c3 c4 c5 c6 c7 c8 c9 ca cb
      go_wp2_with fail
      go_ret
      exact ⟨rfl, hb8⟩
    | false =>
      rw [h3] at L3
      clear h1 h3
      go_wp2_with fail
      refine (L3.out _).mono ?_
      rintro e w6 ⟨rfl, hn6⟩
      clear a0 a1 a2 a3 a4 a5 a6 a7 a8 a9 aa ab b0 b1 b2 b3 b4 b5 b6 b7 b8 b9 ba bb c0 c1 c2 c3 c4 c5 c6 c7 c8 c9 ca cb
      have HA6 := Lib.hid (HA5.out.keep hn6 (by omega))
      have HB6 := Lib.hid (HB5.out.keep hn6 (by omega))
      have HC6 := Lib.hid (HC5.out.keep hn6 (by omega))
      have hb6 := hb5.trans (hn6.mono hb5.size)
      have hs6 := keep_size hn6 hs5
      clear HA5 HB5 HC5 hb5 hs5 hn6
      obtain ⟨a0, a1, a2, a3, a4, a5, a6, a7, a8, a9, aa, ab⟩ := HA6.out
      obtain ⟨b0, b1, b2, b3, b4, b5, b6, b7, b8, b9, ba, bb⟩ := HB6.out
      obtain ⟨c0, c1, c2, c3, c4, c5, c6, c7, c8, c9, ca, cb⟩ := HC6.out
      simp only [Nat.zero_add] at a1 a2 a3 a4 a5 a6 a7 a8 a9 aa ab b1 b2 b3 b4 b5 b6 b7 b8 b9 ba bb c1 c2 c3 c4 c5 c6 c7 c8 c9 ca cb
      go_wp2_with fail
      refine (L1.out _).mono ?_
      rintro e w7 ⟨rfl, hn7⟩
      clear a0 a1 a2 a3 a4 a5 a6 a7 a8 a9 aa ab b0 b1 b2 b3 b4 b5 b6 b7 b8 b9 ba bb c0 c1 c2 c3 c4 c5 c6 c7 c8 c9 ca cb
      have HA7 := Lib.hid (HA6.out.keep hn7 (by omega))
      have HB7 := Lib.hid (HB6.out.keep hn7 (by omega))
      have HC7 := Lib.hid (HC6.out.keep hn7 (by omega))
      have hb7 := hb6.trans (hn7.mono hb6.size)
      have hs7 := keep_size hn7 hs6
      clear HA6 HB6 HC6 hb6 hs6 hn7
      obtain ⟨a0, a1, a2, a3, a4, a5, a6, a7, a8, a9, aa, ab⟩ := HA7.out
      obtain ⟨b0, b1, b2, b3, b4, b5, b6, b7, b8, b9, ba, bb⟩ := HB7.out
      obtain ⟨c0, c1, c2, c3, c4, c5, c6, c7, c8, c9, ca, cb⟩ := HC7.out
      simp only [Nat.zero_add] at a1 a2 a3 a4 a5 a6 a7 a8 a9 aa ab b1 b2 b3 b4 b5 b6 b7 b8 b9 ba bb c1 c2 c3 c4 c5 c6 c7 c8 c9 ca cb
      go_wp2_with fail
      go_ret
      exact ⟨rfl, hb7⟩
  | false =>
    rw [h1] at L1
    have Q4 := Lib.hid (Q3.out h1)
    clear h1
    go_wp2_with fail
    refine (L1.out _).mono ?_
    rintro e w4 ⟨rfl, hn4⟩
    clear a0 a1 a2 a3 a4 a5 a6 a7 a8 a9 aa ab b0 b1 b2 b3 b4 b5 b6 b7 b8 b9 ba bb c0 c1 c2 c3 c4 c5 c6 c7 c8 c9 ca cb
    have HA4 := Lib.hid (HA3.out.keep hn4 (by omega))
    have HB4 := Lib.hid (HB3.out.keep hn4 (by omega))
    have HC4 := Lib.hid (HC3.out.keep hn4 (by omega))
    have hb4 := hb3.trans (hn4.mono hb3.size)
    have hs4 := keep_size hn4 hs3
    clear HA3 HB3 HC3 hb3 hs3 hn4
    obtain ⟨a0, a1, a2, a3, a4, a5, a6, a7, a8, a9, aa, ab⟩ := HA4.out
    obtain ⟨b0, b1, b2, b3, b4, b5, b6, b7, b8, b9, ba, bb⟩ := HB4.out
    obtain ⟨c0, c1, c2, c3, c4, c5, c6, c7, c8, c9, ca, cb⟩ := HC4.out
    simp only [Nat.zero_add] at a1 a2 a3 a4 a5 a6 a7 a8 a9 aa ab b1 b2 b3 b4 b5 b6 b7 b8 b9 ba bb c1 c2 c3 c4 c5 c6 c7 c8 c9 ca cb
    go_wp2_with fail
    refine (L1.out _).mono ?_
    rintro e w5 ⟨rfl, hn5⟩
    clear a0 a1 a2 a3 a4 a5 a6 a7 a8 a9 aa ab b0 b1 b2 b3 b4 b5 b6 b7 b8 b9 ba bb c0 c1 c2 c3 c4 c5 c6 c7 c8 c9 ca cb
    have HA5 := Lib.hid (HA4.out.keep hn5 (by omega))
    have HB5 := Lib.hid (HB4.out.keep hn5 (by omega))
    have HC5 := Lib.hid (HC4.out.keep hn5 (by omega))
    have hb5 := hb4.trans (hn5.mono hb4.size)
    have hs5 := keep_size hn5 hs4
    clear HA4 HB4 HC4 hb4 hs4 hn5
    obtain ⟨a0, a1, a2, a3, a4, a5, a6, a7, a8, a9, aa, ab⟩ := HA5.out
    obtain ⟨b0, b1, b2, b3, b4, b5, b6, b7, b8, b9, ba, bb⟩ := HB5.out
    obtain ⟨c0, c1, c2, c3, c4, c5, c6, c7, c8, c9, ca, cb⟩ := HC5.out
    simp only [Nat.zero_add] at a1 a2 a3 a4 a5 a6 a7 a8 a9 aa ab b1 b2 b3 b4 b5 b6 b7 b8 b9 ba bb c1 c2 c3 c4 c5 c6 c7 c8 c9 ca cb
    cases h2 : lessB b a with
    | true =>
      rw [h2] at L2
      clear h2
      go_wp2_with fail
      refine (L2.out _).mono ?_
      rintro e w6 ⟨rfl, hn6⟩
      clear a0 a1 a2 a3 a4 a5 a6 a7 a8 a9 aa ab b0 b1 b2 b3 b4 b5 b6 b7 b8 b9 ba bb c0 c1 c2 c3 c4 c5 c6 c7 c8 c9 ca cb
      have HA6 := Lib.hid (HA5.out.keep hn6 (by omega))
      have HB6 := Lib.hid (HB5.out.keep hn6 (by omega))
      have HC6 := Lib.hid (HC5.out.keep hn6 (by omega))
      have hb6 := hb5.trans (hn6.mono hb5.size)
      have hs6 := keep_size hn6 hs5
      clear HA5 HB5 HC5 hb5 hs5 hn6
      obtain ⟨a0, a1, a2, a3, a4, a5, a6, a7, a8, a9, aa, ab⟩ := HA6.out
      obtain ⟨b0, b1, b2, b3, b4, b5, b6, b7, b8, b9, ba, bb⟩ := HB6.out
      obtain ⟨c0, c1, c2, c3, c4, c5, c6, c7, c8, c9, ca, cb⟩ := HC6.out
      simp only [Nat.zero_add] at a1 a2 a3 a4 a5 a6 a7 a8 a9 aa ab b1 b2 b3 b4 b5 b6 b7 b8 b9 ba bb c1 c2 c3 c4 c5 c6 c7 c8 c9 ca cb
      go_wp2_with fail
      go_ret
      exact ⟨rfl, hb6⟩
    | false =>
      rw [h2] at L2
      obtain ⟨z1, z2, z3⟩ := Q4.out h2
      have d1 : (a.birth == b.birth) = true := by simpa using z1
      have d2 : (a.ag == b.ag) = true := by simpa using z2
      have d3 : (a.aa == b.aa) = true := by simpa using z3
      have he := fun W => eql_place a.ag a.aa b.ag b.aa W
      rw [d2, d3] at he
      clear h2 z1 z2 z3
      go_wp2_with fail
      refine (L2.out _).mono ?_
      rintro e w6 ⟨rfl, hn6⟩
      clear a0 a1 a2 a3 a4 a5 a6 a7 a8 a9 aa ab b0 b1 b2 b3 b4 b5 b6 b7 b8 b9 ba bb c0 c1 c2 c3 c4 c5 c6 c7 c8 c9 ca cb
      have HA6 := Lib.hid (HA5.out.keep hn6 (by omega))
      have HB6 := Lib.hid (HB5.out.keep hn6 (by omega))
      have HC6 := Lib.hid (HC5.out.keep hn6 (by omega))
      have hb6 := hb5.trans (hn6.mono hb5.size)
      have hs6 := keep_size hn6 hs5
      clear HA5 HB5 HC5 hb5 hs5 hn6
      obtain ⟨a0, a1, a2, a3, a4, a5, a6, a7, a8, a9, aa, ab⟩ := HA6.out
      obtain ⟨b0, b1, b2, b3, b4, b5, b6, b7, b8, b9, ba, bb⟩ := HB6.out
      obtain ⟨c0, c1, c2, c3, c4, c5, c6, c7, c8, c9, ca, cb⟩ := HC6.out
      simp only [Nat.zero_add] at a1 a2 a3 a4 a5 a6 a7 a8 a9 aa ab b1 b2 b3 b4 b5 b6 b7 b8 b9 ba bb c1 c2 c3 c4 c5 c6 c7 c8 c9 ca cb
      go_wp2_with fail
      go_ret
      exact ⟨rfl, hb6⟩
end Go.Proofs.Ytnagcmfecggllaa
