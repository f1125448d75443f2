/-
  Contracts of package dev: Write, Fuse, Lose, Fresh, Flush.
-/
import Derived.Test.YtkaijdnaheikeaaDev3
namespace Go.Proofs.Ytkaijdnaheikeaa
set_option linter.unusedVariables false
set_option linter.unusedSimpArgs false
open Go.RowKit

section
variable {w w' : World} {S T : Nat → Prop} {bd mb mcap cb : Nat} {d : DevD} {g : Int → Option Value}
/-- A cell of the box is set. -/
theorem DevIn.box_set (h : DevIn w S bd d mb mcap cb g) (o : Nat) (v : Value) {l : Bool} {f : Int}
    (he : (#[.slice (some ⟨mb, 0, none⟩) d.med.length mcap, .map (some cb), .bool d.lost, .int .i64 d.fuse] : Array Value).setIfInBounds o v = #[.slice (some ⟨mb, 0, none⟩) d.med.length mcap, .map (some cb), .bool l, .int .i64 f]) :
    DevIn (w.setCell ⟨bd, o, none⟩ v) S bd { d with lost := l, fuse := f } mb mcap cb g := by
  have hne : ∀ i, i ≠ bd → (w.setCell ⟨bd, o, none⟩ v).heap[i]? = w.heap[i]? := fun i hi => Below.heap_setCell w _ _ i hi
  obtain ⟨n1, n2, n3⟩ := h.nes
  refine ⟨by have := h.box.put o v; rw [he] at this; exact this, ownsRow_same h.med (fun b e => by cases e; exact hne mb n1), h.map.same (hne cb n2), h.keys, h.none_,
    fun k u e => ⟨(h.rows k u e).1, ownsRow_same (h.rows k u e).2 (fun b eb => hne b (h.row_nes e b eb).1)⟩, h.apart, h.apart2, h.sd, h.sm, h.sc, fun i hi => by simpa [World.setCell] using h.lt i hi⟩
/-- A sector of the medium is set. -/
theorem DevIn.med_set (h : DevIn w S bd d mb mcap cb g) {k : Nat} (hk : k < d.med.length) (s : List UInt8) : DevIn (w.setCell ⟨mb, k, none⟩ (str s)) S bd { d with med := d.med.set k s } mb mcap cb g := by
  have hne : ∀ i, i ≠ mb → (w.setCell ⟨mb, k, none⟩ (str s)).heap[i]? = w.heap[i]? := fun i hi => Below.heap_setCell w _ _ i hi
  obtain ⟨n1, n2, n3⟩ := h.nes
  have hl : (d.med.set k s).length = d.med.length := by simp
  refine ⟨?_, ?_, ?_, fun j hj => ?_, h.none_, fun j u e => ⟨(h.rows j u e).1, ownsRow_same (h.rows j u e).2 (fun b eb => hne b (h.row_nes e b eb).2.2)⟩, h.apart, h.apart2, h.sd, h.sm, h.sc, fun i hi => by simpa [World.setCell] using h.lt i hi⟩
  · show Blk _ bd _ #[.slice (some ⟨mb, 0, none⟩) (d.med.set k s).length mcap, .map (some cb), .bool d.lost, .int .i64 d.fuse]
    rw [hl]
    exact (hne bd (Ne.symm n1)).trans h.box
  · show World.ownsRow _ _ _ _ (.slice _ (d.med.set k s).length _) (d.med.set k s).length ((d.med.set k s).map str)
    rw [hl, List.map_set]
    exact ownsRow_set h.med hk (str s)
  · show MapAt _ _ _ _ (d.med.set k s).length _
    rw [hl]
    exact h.map.same (hne cb n3)
  · show _ ∧ j < ((d.med.set k s).length : Int)
    rw [hl]
    exact h.keys j hj
/-- The cache is emptied. -/
theorem DevIn.cleared (h : DevIn w S bd d mb mcap cb g) (hm : MapAt Try.prog 3 w' cb 0 (fun _ => none)) (hg : w.grownBy w' (some cb)) (hs : w'.heap.size = w.heap.size) : DevIn w' S bd { d with cac := fun _ => [] } mb mcap cb (fun _ => none) := by
  obtain ⟨n1, n2, n3⟩ := h.nes
  have hne : ∀ i, S i → i ≠ cb → w'.heap[i]? = w.heap[i]? := fun i hi hc => hg.block i (h.lt i hi) (by simpa using hc)
  exact ⟨(hne bd h.sd (Ne.symm n2)).trans h.box, ownsRow_same h.med (fun b e => by cases e; exact hne mb h.sm (Ne.symm n3)), hm.mono (Nat.zero_le _), fun k e => by simp at e, fun k _ => rfl, fun k v e => by simp at e,
    fun k v e => by simp at e, fun j k v u e => by simp at e, h.sd, h.sm, h.sc, fun i hi => by rw [hs]; exact h.lt i hi⟩
end

theorem wrE_zero {d : DevD} {a : Int} {s : List UInt8} (h : d.wrE a s = 0) : d.mayE a = 0 := by
  unfold DevD.wrE at h
  by_cases e : d.mayE a = 0
  · exact e
  · rw [if_pos e] at h; exact absurd h e
theorem write_any {w : World} {S : Nat → Prop} {bd : Nat} {d : DevD} (h : DevAt w S bd d) (a : Int) (s : List UInt8) (ok : d.Ok) (hv : ∀ k, (d.cac k).length ≤ 1000000) (hsl : s.length ≤ 9223372036854775807) :
    Calls Try.prog 12 #[.pointer (some ⟨bd, 0, none⟩), .int .i64 a, str s] w fun e w' => e = .returned (.int .i64 (d.wrE a s)) ∧ DevAt w' (more S w w') bd (d.wr a s) ∧ Only S w w' := by
  by_cases h0 : d.wrE a s = 0
  · have hm := DevD.mayE_ok (wrE_zero h0)
    obtain ⟨k, rfl⟩ := Int.eq_ofNat_of_zero_le hm.1
    refine (store_any h k s (by omega) h0 ok (hv k)).mono ?_
    rintro e w' ⟨rfl, h1, h2⟩
    refine ⟨by rw [h0], ?_, h2⟩
    have : d.wr k s = d.burn.put k s := by unfold DevD.wr; rw [if_pos h0]; rfl
    rw [this]; exact h1
  · have hwr : d.wr a s = d := by unfold DevD.wr; rw [if_neg h0]
    rw [hwr]
    have HE : Hid (d.wrE a s = if d.mayE a ≠ 0 then d.mayE a else if s.length ≠ 64 then 1 else if d.fuse = 0 then 6 else 0) := Lib.hid rfl
    have HD := Lib.hid (h.more (w0 := w) (Nat.le_refl _) h.lts)
    have HM := Lib.hid (may_any h a ok.few)
    by_cases h1 : d.mayE a = 0
    · rw [h1] at HM
      by_cases h2 : s.length = 64
      · have hf : d.fuse = 0 := by
          rw [HE.out, if_neg (by simp [h1]), if_neg (by simp [h2])] at h0
          by_cases e : d.fuse = 0
          · exact e
          · rw [if_neg e] at h0; exact absurd rfl h0
        have HB := Lib.hid (burnt_yes h hf)
        have he : d.wrE a s = 6 := by rw [HE.out, if_neg (by simp [h1]), if_neg (by simp [h2]), if_pos hf]
        rw [he]
        have hq : ((s.length : Int) != 64) = false := by rw [bne_eq_false_iff_eq]; omega
        clear h0 h1 h2 hf he h hwr
        go_enter Try.func12, Try.ntmps12
        go_wp2_with fail
        refine HM.out.mono ?_
        rintro e w1 ⟨rfl, rfl⟩
        go_wp2_with fail
        refine HB.out.mono ?_
        rintro e w1 ⟨rfl, rfl⟩
        go_wp2_with fail
        go_ret
        exact ⟨rfl, HD.out, Only.refl _ _⟩
      · have he : d.wrE a s = 1 := by rw [HE.out, if_neg (by simp [h1]), if_pos h2]
        rw [he]
        have hq : ((s.length : Int) != 64) = true := by rw [bne_iff_ne]; omega
        clear h0 h1 h2 he h hwr
        go_enter Try.func12, Try.ntmps12
        go_wp2_with fail
        refine HM.out.mono ?_
        rintro e w1 ⟨rfl, rfl⟩
        go_wp2_with fail
        go_ret
        exact ⟨rfl, HD.out, Only.refl _ _⟩
    · have he : d.wrE a s = d.mayE a := by rw [HE.out, if_pos h1]
      rw [he]
      have hne : (d.mayE a != 0) = true := by simpa using h1
      clear h0 h1 he h hwr HE
      generalize d.mayE a = E at *
      go_enter Try.func12, Try.ntmps12
      go_wp2_with fail
      refine HM.out.mono ?_
      rintro e w1 ⟨rfl, rfl⟩
      go_wp2_with fail
      go_ret
      exact ⟨rfl, HD.out, Only.refl _ _⟩
theorem write_nil (a : Int) (s : List UInt8) (w : World) : Calls Try.prog 12 #[.pointer none, .int .i64 a, str s] w fun e w' => e = .returned (.int .i64 6) ∧ w = w' := by
  go_enter Try.func12, Try.ntmps12
  go_wp2_with fail
  refine (may_nil a _).mono ?_
  rintro e w1 ⟨rfl, rfl⟩
  go_wp2_with fail
  go_ret
  exact ⟨rfl, rfl⟩

theorem fuse_any {w : World} {S : Nat → Prop} {bd : Nat} {d : DevD} (h : DevAt w S bd d) (n : Int) : Calls Try.prog 18 #[.pointer (some ⟨bd, 0, none⟩), .int .i64 n] w fun e w' =>
    e = .returned (.tuple #[]) ∧ DevAt w' S bd (d.fused n) ∧ Only S w w' ∧ w'.heap.size = w.heap.size := by
  obtain ⟨mb, mcap, cb, g, h⟩ := h
  obtain ⟨c0, c1, c2, c3⟩ := h.cells
  have hz : w.frozen? ⟨bd, 3, none⟩ = false := h.box.fr 3
  have H := Lib.hid (h.box_set 3 (.int .i64 (max n 0)) (l := d.lost) (f := max n 0) rfl)
  have HO : Hid (Only S w (w.setCell ⟨bd, 3, none⟩ (.int .i64 (max n 0)))) := Lib.hid ((Only.refl S w).set (.inl h.sd) _)
  have hd : d.fused n = { d with lost := d.lost, fuse := max n 0 } := rfl
  rw [hd]
  clear hd
  go_enter Try.func18, Try.ntmps18
  go_wp2_with fail
  go_end0
  exact ⟨rfl, ⟨mb, mcap, cb, g, H.out⟩, HO.out, by simp [World.setCell]⟩
theorem fuse_nil (n : Int) (w : World) : Calls Try.prog 18 #[.pointer none, .int .i64 n] w fun e w' => e = .returned (.tuple #[]) ∧ w = w' := by
  go_enter Try.func18, Try.ntmps18
  go_wp2_with fail
  go_end0
  exact ⟨rfl, rfl⟩

set_option maxRecDepth 20000 in
theorem lose_any {w : World} {S : Nat → Prop} {bd : Nat} {d : DevD} (h : DevAt w S bd d) : Calls Try.prog 20 #[.pointer (some ⟨bd, 0, none⟩)] w fun e w' =>
    e = .returned (.tuple #[]) ∧ DevAt w' S bd d.lose ∧ Only S w w' ∧ w'.heap.size = w.heap.size := by
  obtain ⟨mb, mcap, cb, g, h⟩ := h
  obtain ⟨c0, c1, c2, c3⟩ := h.cells
  have hz : w.frozen? ⟨bd, 2, none⟩ = false := h.box.fr 2
  have h2 := h.box_set 2 (.bool true) (l := true) (f := d.fuse) rfl
  have HO : Hid (Only S w (w.setCell ⟨bd, 2, none⟩ (.bool true))) := Lib.hid ((Only.refl S w).set (.inl h.sd) _)
  have hcl := (h2.map).clear (t := 51) (ty := 0) Try.underlying51
  obtain ⟨w3, hrun, hm3, hg3, hs3⟩ := hcl
  have H3 := Lib.hid (h2.cleared hm3 hg3 hs3)
  have HO3 : Hid (Only S (w.setCell ⟨bd, 2, none⟩ (.bool true)) w3) := Lib.hid (Only.of_grown hg3 h2.sc)
  have HS3 := Lib.hid hs3
  clear h2 hm3 hg3 hs3 h
  go_enter Try.func20, Try.ntmps20
  go_wp2_with fail
  go_end0
  exact ⟨rfl, ⟨mb, mcap, cb, _, H3.out⟩, HO.out.trans HO3.out (fun _ h => .inl h), by rw [HS3.out]; simp [World.setCell]⟩
theorem lose_nil (w : World) : Calls Try.prog 20 #[.pointer none] w fun e w' => e = .returned (.tuple #[]) ∧ w = w' := by
  go_enter Try.func20, Try.ntmps20
  go_wp2_with fail
  go_end0
  exact ⟨rfl, rfl⟩
end Go.Proofs.Ytkaijdnaheikeaa
