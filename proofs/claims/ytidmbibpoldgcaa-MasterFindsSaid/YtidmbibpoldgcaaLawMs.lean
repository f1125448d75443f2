/-
  Arguments of the laws of layer 17: states.
-/
import Derived.Test.YtidmbibpoldgcaaLawF
import Derived.Test.YtidmbibpoldgcaaLawP
import Derived.Test.YtidmbibpoldgcaaMst
namespace Go.Proofs.Ytidmbibpoldgcaa
set_option linter.unusedVariables false
set_option linter.unusedSimpArgs false
open Go.ChangeShapes Go.WideShapes Go.ChangeAt Go.RowKit Go.Deep Go.Joins
section
variable {H : Type} {enc : TypeId × Value → H} {w : World} {base : Nat} {spare : Nat → Bool} {held : Bool}

/-- A slice opened, element by element. -/
theorem open_rows {t e : TypeId} {fuel : Nat} {cs : List Value} {x : DataW H × List MemPlace} {α : Type} (ht : Try.prog.underlying t = some (.slice e)) (f : α → List Value) (sz : Nat) (hsz0 : 0 < sz) (hf : ∀ y, (f y).length = sz) (dflt : α)
    (hsz : Try.prog.cellsOf e = sz) (hel : ∀ n ds z, DataW.trod enc Try.prog w base spare held n e ds = some z → ds.length = sz → ∃ y : α, ds = f y) (h : DataW.trod enc Try.prog w base spare held fuel t cs = some x) :
    ∃ (v : Value) (l : List α), cs = [v] ∧ RowAt w v l.length (l.flatMap f) := by
  rcases open_slice ht h with ⟨rfl, _⟩ | ⟨a, len, cap, m, n, D, Pl, rfl, hb, hl, hm, hmm, hx, hi⟩
  · exact ⟨_, [], rfl, none, 0, rfl, fun h => absurd h (Nat.lt_irrefl _)⟩
  · have hlm : len ≤ m := by rw [hmm]; split <;> omega
    rw [hsz] at hi
    have key : ∀ i, i < len → ∃ y : α, ∀ j, j < sz → w.cell? (a.add (i * sz + j)) = (f y)[j]? := by
      intro i hil
      obtain ⟨ds, hc, htr⟩ := hi i (by omega)
      obtain ⟨_, hcl, hat⟩ := World.cells?_some hc
      obtain ⟨y, rfl⟩ := hel _ _ _ htr hcl
      exact ⟨y, fun j hj => by rw [← hat j hj, Addr.add_add]⟩
    have hch : ∃ g : Nat → α, ∀ i, i < len → ∀ j, j < sz → w.cell? (a.add (i * sz + j)) = (f (g i))[j]? := by
      refine ⟨fun i => if h : i < len then Classical.choose (key i h) else dflt, fun i hi => ?_⟩
      simp only [hi, dif_pos]
      exact Classical.choose_spec (key i hi)
    obtain ⟨g, hg⟩ := hch
    have hlen : ((List.range len).map g).length = len := by simp
    refine ⟨_, (List.range len).map g, rfl, some a, cap, by rw [hlen], fun hp => ?_⟩
    rw [hlen] at hp
    have h00 := hg 0 hp 0 hsz0
    rw [Nat.zero_mul, Nat.add_zero] at h00
    have hsome : ∃ v, (f (g 0))[0]? = some v := ⟨_, List.getElem?_eq_getElem (by rw [hf]; exact hsz0)⟩
    obtain ⟨v, hv⟩ := hsome
    rw [hv] at h00
    obtain ⟨b, off, rfl, hbl⟩ := slice_spot h00
    refine ⟨b, off, rfl, hbl, fun j u hu => ?_⟩
    have hjl := (List.getElem?_eq_some_iff.1 hu).1
    rw [flat_len f sz hf, hlen] at hjl
    have hdm : j = j / sz * sz + j % sz := by rw [Nat.mul_comm]; exact (Nat.div_add_mod j sz).symm
    have hi2 : j / sz < len := Nat.div_lt_of_lt_mul (by rw [Nat.mul_comm]; exact hjl)
    have hm2 : j % sz < sz := Nat.mod_lt _ hsz0
    have hel2 : ((List.range len).map g)[j / sz]? = some (g (j / sz)) := by simp [hi2]
    have h1 := flat_at f sz hf _ _ _ hel2 _ hm2
    rw [← hdm, hu] at h1
    have h2 := hg _ hi2 _ hm2
    rw [← hdm, ← h1, Addr.add_mid] at h2
    exact h2
set_option maxRecDepth 100000 in
theorem open_snapel (n : Nat) (ds : List Value) (z : DataW H × List MemPlace) (h : DataW.trod enc Try.prog w base spare held n 56 ds = some z) (hl : ds.length = 15) : ∃ y : SnapA, ds = snapL y := by
  have ki : Try.prog.cellsOf 3 = 1 := by kernel_rfl
  have kn : Try.prog.cellsOf 30 = 13 := by kernel_rfl
  have kp : Try.prog.cellsOf 28 = 12 := by kernel_rfl
  obtain ⟨xs, m, _, _, _, hlen, hg⟩ := DataW.trod_struct Try.underlying56 h
  match xs, hlen with
  | [y0, y1, y2], _ =>
    have t0 : DataW.trod enc Try.prog w base spare held m 3 ((ds.drop 0).take (Try.prog.cellsOf 3)) = [y0, y1, y2][0]? := hg 0 _ rfl
    have t1 : DataW.trod enc Try.prog w base spare held m 3 ((ds.drop 1).take (Try.prog.cellsOf 3)) = [y0, y1, y2][1]? := hg 1 _ rfl
    have t2 : DataW.trod enc Try.prog w base spare held m 30 ((ds.drop 2).take (Try.prog.cellsOf 30)) = [y0, y1, y2][2]? := hg 2 _ rfl
    rw [ki] at t0 t1
    rw [kn] at t2
    obtain ⟨id, e0, _, _⟩ := DataW.trod_int Try.underlying3 t0
    obtain ⟨txg, e1, _, _⟩ := DataW.trod_int Try.underlying3 t1
    obtain ⟨ys, m2, _, _, _, hlen2, hg2⟩ := DataW.trod_struct Try.underlying30 t2
    match ys, hlen2 with
    | [z0, z1], _ =>
      have u0 : DataW.trod enc Try.prog w base spare held m2 3 ((((ds.drop 2).take 13).drop 0).take (Try.prog.cellsOf 3)) = [z0, z1][0]? := hg2 0 _ rfl
      have u1 : DataW.trod enc Try.prog w base spare held m2 28 ((((ds.drop 2).take 13).drop 1).take (Try.prog.cellsOf 28)) = [z0, z1][1]? := hg2 1 _ rfl
      rw [ki] at u0
      rw [kp] at u1
      obtain ⟨nn, e2, _, _⟩ := DataW.trod_int Try.underlying3 u0
      obtain ⟨p, e3, _⟩ := open_ptrs u1 (by simp only [List.length_take, List.length_drop]; omega)
      match ds, hl with
      | [d0, d1, d2, d3, d4, d5, d6, d7, d8, d9, d10, d11, d12, d13, d14], _ =>
        simp at e0 e1 e2 e3
        subst e0 e1 e2
        refine ⟨⟨id, txg, nn, p⟩, ?_⟩
        simp only [PtrD.cells] at e3
        simp only [snapL, List.cons.injEq, and_true, true_and]
        simpa using e3
set_option maxRecDepth 100000 in
theorem open_pairel (n : Nat) (ds : List Value) (z : DataW H × List MemPlace) (h : DataW.trod enc Try.prog w base spare held n 61 ds = some z) (hl : ds.length = 2) : ∃ y : Int × Int, ds = staL y := by
  have ki : Try.prog.cellsOf 3 = 1 := by kernel_rfl
  obtain ⟨xs, m, _, _, _, hlen, hg⟩ := DataW.trod_array Try.underlying61 h
  match ds, hl, xs, hlen with
  | [d0, d1], _, [y0, y1], _ =>
    have t0 : DataW.trod enc Try.prog w base spare held m 3 (([d0, d1].drop (0 * Try.prog.cellsOf 3)).take (Try.prog.cellsOf 3)) = [y0, y1][0]? := hg 0 (by omega)
    have t1 : DataW.trod enc Try.prog w base spare held m 3 (([d0, d1].drop (1 * Try.prog.cellsOf 3)).take (Try.prog.cellsOf 3)) = [y0, y1][1]? := hg 1 (by omega)
    rw [ki] at t0 t1
    obtain ⟨a, e0, _, _⟩ := DataW.trod_int Try.underlying3 t0
    obtain ⟨b, e1, _, _⟩ := DataW.trod_int Try.underlying3 t1
    simp at e0 e1
    subst e0 e1
    exact ⟨(a, b), rfl⟩

set_option maxRecDepth 100000 in
/-- A state, opened. -/
theorem open_rstate {b0 : Nat} {v : Value} {d : DataW H} {p : List MemPlace} (hv : Value.okWide Try.prog w .any b0 35 v) (h : DataW.Trod enc Try.prog w base spare held 35 v d p) :
    ∃ (s : StA) (sv tv : Value), v = .agg #[.int .i64 s.n, .int .i64 s.p.ag, .int .i64 s.p.aa, .int .i64 s.p.bg, .int .i64 s.p.ba, .bool s.p.two, .int .i64 s.p.size, .int .i64 s.p.level, .int .i64 s.p.birth, .int .u64 s.p.s0, .int .u64 s.p.s1, .int .u64 s.p.s2, .int .u64 s.p.s3, sv, .int .i64 s.z.x0, .int .i64 s.z.x1, .int .i64 s.z.x2, .int .i64 s.z.x3, .int .i64 s.z.x4, .int .i64 s.z.x5, .int .i64 s.z.x6, .int .i64 s.z.x7, .int .i64 s.z.x8, tv] ∧ RowAt w sv s.snaps.length (snapC s.snaps) ∧ RowAt w tv s.stale.length (staC s.stale) ∧ -9223372036854775808 ≤ s.n ∧ s.n ≤ 9223372036854775807 := by
  obtain ⟨cs, rfl, hsz⟩ := okWide_struct Try.underlying35 hv
  have hk : Try.prog.cellsOf 35 = 24 := by kernel_rfl
  have ki : Try.prog.cellsOf 3 = 1 := by kernel_rfl
  have kn : Try.prog.cellsOf 30 = 13 := by kernel_rfl
  have kp : Try.prog.cellsOf 28 = 12 := by kernel_rfl
  have k1 : Try.prog.cellsOf 31 = 1 := by kernel_rfl
  have k2 : Try.prog.cellsOf 32 = 9 := by kernel_rfl
  have k3 : Try.prog.cellsOf 33 = 1 := by kernel_rfl
  obtain ⟨fuel, hf⟩ := h
  have hl : cs.toList.length = 24 := by rw [Array.length_toList, hsz, hk]
  obtain ⟨cl⟩ := cs
  simp only at hl hf
  obtain ⟨xs, m, _, _, _, hlen, hg⟩ := DataW.trod_struct Try.underlying35 hf
  match xs, hlen with
  | [y0, y1, y2, y3], _ =>
    have t0 : DataW.trod enc Try.prog w base spare held m 30 ((cl.drop 0).take (Try.prog.cellsOf 30)) = [y0, y1, y2, y3][0]? := hg 0 _ rfl
    have t1 : DataW.trod enc Try.prog w base spare held m 31 ((cl.drop 13).take (Try.prog.cellsOf 31)) = [y0, y1, y2, y3][1]? := hg 1 _ rfl
    have t2 : DataW.trod enc Try.prog w base spare held m 32 ((cl.drop 14).take (Try.prog.cellsOf 32)) = [y0, y1, y2, y3][2]? := hg 2 _ rfl
    have t3 : DataW.trod enc Try.prog w base spare held m 33 ((cl.drop 23).take (Try.prog.cellsOf 33)) = [y0, y1, y2, y3][3]? := hg 3 _ rfl
    rw [kn] at t0
    rw [k1] at t1
    rw [k2] at t2
    rw [k3] at t3
    obtain ⟨sv, ss, e1, r1⟩ := open_rows Try.underlying31 snapL 15 (by omega) (fun _ => rfl) ⟨0, 0, 0, ⟨0, 0, 0, 0, false, 0, 0, 0, 0, 0, 0, 0⟩⟩ (by kernel_rfl) open_snapel t1
    obtain ⟨tv, ts, e3, r3⟩ := open_rows Try.underlying33 staL 2 (by omega) (fun _ => rfl) (0, 0) (by kernel_rfl) open_pairel t3
    obtain ⟨ys, m2, _, _, _, hlen2, hg2⟩ := DataW.trod_struct Try.underlying30 t0
    obtain ⟨zs, m3, _, _, _, hlen3, hg3⟩ := DataW.trod_array Try.underlying32 t2
    match ys, hlen2, zs, hlen3 with
    | [z0, z1], _, [q0, q1, q2, q3, q4, q5, q6, q7, q8], _ =>
      have u0 : DataW.trod enc Try.prog w base spare held m2 3 ((((cl.drop 0).take 13).drop 0).take (Try.prog.cellsOf 3)) = [z0, z1][0]? := hg2 0 _ rfl
      have u1 : DataW.trod enc Try.prog w base spare held m2 28 ((((cl.drop 0).take 13).drop 1).take (Try.prog.cellsOf 28)) = [z0, z1][1]? := hg2 1 _ rfl
      rw [ki] at u0
      rw [kp] at u1
      rw [ki] at hg3
      obtain ⟨nn, f0, _, wn⟩ := DataW.trod_int Try.underlying3 u0
      obtain ⟨pp, f1, _⟩ := open_ptrs u1 (by simp only [List.length_take, List.length_drop]; omega)
      obtain ⟨x0, g0, _, _⟩ := DataW.trod_int Try.underlying3 ((hg3 0 (by omega)).trans (rfl : _ = some q0))
      obtain ⟨x1, g1, _, _⟩ := DataW.trod_int Try.underlying3 ((hg3 1 (by omega)).trans (rfl : _ = some q1))
      obtain ⟨x2, g2, _, _⟩ := DataW.trod_int Try.underlying3 ((hg3 2 (by omega)).trans (rfl : _ = some q2))
      obtain ⟨x3, g3, _, _⟩ := DataW.trod_int Try.underlying3 ((hg3 3 (by omega)).trans (rfl : _ = some q3))
      obtain ⟨x4, g4, _, _⟩ := DataW.trod_int Try.underlying3 ((hg3 4 (by omega)).trans (rfl : _ = some q4))
      obtain ⟨x5, g5, _, _⟩ := DataW.trod_int Try.underlying3 ((hg3 5 (by omega)).trans (rfl : _ = some q5))
      obtain ⟨x6, g6, _, _⟩ := DataW.trod_int Try.underlying3 ((hg3 6 (by omega)).trans (rfl : _ = some q6))
      obtain ⟨x7, g7, _, _⟩ := DataW.trod_int Try.underlying3 ((hg3 7 (by omega)).trans (rfl : _ = some q7))
      obtain ⟨x8, g8, _, _⟩ := DataW.trod_int Try.underlying3 ((hg3 8 (by omega)).trans (rfl : _ = some q8))
      have bn := i64_bd wn
      refine ⟨⟨nn, pp, ⟨x0, x1, x2, x3, x4, x5, x6, x7, x8⟩, ss, ts⟩, sv, tv, ?_, r1, r3, bn.1, bn.2⟩
      match cl, hl with
      | [d0, d1, d2, d3, d4, d5, d6, d7, d8, d9, d10, d11, d12, d13, d14, d15, d16, d17, d18, d19, d20, d21, d22, d23], _ =>
        simp at e1 e3 f0 f1 g0 g1 g2 g3 g4 g5 g6 g7 g8
        subst e1 e3 f0 g0 g1 g2 g3 g4 g5 g6 g7 g8
        simp only [PtrD.cells] at f1
        simpa using f1
end
end Go.Proofs.Ytidmbibpoldgcaa
