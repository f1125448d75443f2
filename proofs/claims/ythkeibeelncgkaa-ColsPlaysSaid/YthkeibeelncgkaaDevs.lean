/-
  cols.Devs: the devices of columns, each once, rising.
-/
import Derived.Test.YthkeibeelncgkaaDevsP
import Derived.Test.YthkeibeelncgkaaRowsW
import Derived.Test.YthkeibeelncgkaaShelf
import Derived.Sort.OwnSortedInts
namespace Go.Proofs.Ythkeibeelncgkaa
open Go.RowKit Go.Sort
set_option linter.unusedVariables false

def devsTo (L : List Col) (k : Nat) : List Int := (L.take k).map (·.1)
theorem devsTo_step {L : List Col} {k : Nat} {x : Col} (h : L[k]? = some x) : devsTo L (k + 1) = devsTo L k ++ [x.1] := by
  unfold devsTo; rw [List.take_add_one, h]; simp
theorem devsTo_len {L : List Col} {k : Nat} (h : k ≤ L.length) : (devsTo L k).length = k := by
  unfold devsTo; rw [List.length_map, List.length_take]; omega

theorem own_prefix {w : World} {base g cap n m : Nat} {e : TypeId} {xs ys : List Value} (h : w.ownsRow base e 1 (.slice (some ⟨g, 0, none⟩) n cap) n (xs ++ ys)) (hm : xs.length = m) :
    w.ownsRow base e 1 (.slice (some ⟨g, 0, none⟩) m cap) m xs := by
  have hl : (xs ++ ys).length = n * 1 := h.1
  have h1 : m ≤ n := by rw [List.length_append] at hl; omega
  have := own_take h1 h
  rw [Nat.mul_one, List.take_left' hm] at this
  exact this

set_option maxHeartbeats 1600000 in
theorem devsC_any (A : Option Addr) (n c : Nat) (L : List Col) (w : World) (hL : SlC w A n L) (hn0 : 0 < n) (hn1 : n ≤ 1000) :
    Calls Try.prog 14 #[.slice A n c] w fun e w' => ∃ v, e = .returned v ∧
      w'.ownsRow w.heap.size 3 1 v (devsL L).length (intCells (devsL L)) ∧ Below w.heap.size w w' := by
  obtain ⟨hl1, hl2, hL⟩ := hL
  obtain ⟨b1, o1, rfl, h1⟩ := hL hn0
  obtain ⟨i0, hi, hz0, hz1, hz2⟩ := info_parts Try.infoInt
  have Hl := Lib.hid hl1
  clear hL hl1
  go_enter Try.func14, Try.ntmps14
  go_wp2
  go_loopw [3, 8] (fun v t wr => ∃ k : Nat, k ≤ n ∧ t = .int .i64 k ∧ wr.ownsRow w.heap.size 3 1 v k (intCells (devsTo L k)) ∧ Below w.heap.size w wr) (fun _ t _ => n - (intOf t).toNat)
  case atStart => exact ⟨0, Nat.zero_le _, rfl, World.ownsRow_nil _ _ _ _, Below.refl _ _⟩
  case round =>
    obtain ⟨k, hk, rfl, hown, hb⟩ := hrel
    by_cases hlt : k < n
    · obtain ⟨x, hx⟩ : ∃ x, L[k]? = some x := ⟨_, List.getElem?_eq_getElem (by have := Hl.out; omega)⟩
      obtain ⟨p1, p2, p3, p4⟩ := (h1.below hb (Nat.le_refl _)).2 k x hx
      have hs := Lib.hid (devsTo_step hx)
      clear hx
      go_wp2_with (at_builtin; refine wpList_append_own _ rfl _ _ 41 rfl w.heap.size 3 i0 _ 1 8 Try.underlying41 hi hz0 hz1 hz2 rfl (by decide) _ _ _ rfl ((hown.alloc _).alloc _) ⟨wr.heap.size + 1, 0, none⟩ 1 1 [.int .i64 x.1] rfl rfl ?c1 ?c2 (by unfold maxLen; omega) (by omega) ?c5 ?_)
      case c1 => exact new1' (by simp)
      case c2 => intro u hu; simp at hu; subst hu; rfl
      case c5 => have := hb.size; simp; omega
      intro v' w1 hown' hgrow _
      have hb2 : Below w.heap.size w w1 := ((hb.alloc hb.size _).alloc (by have := hb.size; simp; omega) _).grown hgrow (by have := hb.size; simp; omega) (fun k hk => (hown.lt k hk).1)
      have hown2 : w1.ownsRow w.heap.size 3 1 v' (k + 1) (intCells (devsTo L (k + 1))) := by
        rw [hs.out, intCells_snoc]; exact hown'
      clear hown hown' hgrow
      go_wp2_with fail
      go_roundw
      case rel => exact ⟨k + 1, by omega, by go_num, hown2, hb2⟩
      case measure => simp [intOf]; omega
    · obtain rfl : k = n := by omega
      have hlen : (devsTo L k).length = k := devsTo_len (by have := Hl.out; omega)
      have hD : Hid (devsTo L k = L.map (·.1)) := by unfold Hid devsTo; rw [List.take_of_length_le (by have := Hl.out; omega)]
      rcases hown.2 with ⟨_, h0⟩ | ⟨g, cap, cur, rfl, hbg, hblk, hn, hcap, hcur, htake⟩
      · omega
      rw [Nat.mul_one] at htake
      have hgl : g < wr.heap.size := (Array.getElem?_eq_some_iff.1 hblk).1
      have hH : Holds (Value.int .i64) wr g 0 (devsTo L k).toArray := holds_of_blockI hblk (by rw [hlen]; exact htake)
      have HS := Lib.hid (Try.slices_Sort_int g 0 cap (devsTo L k) wr hH hgl (by omega))
      rw [hlen] at HS
      have HG := Lib.hid (fun (n : Nat) (os : Array Obj) (ts : List Int) (hl : ts.length = (devsTo L k).length) => ownsRow_sortedI (n := n) (os := os) hl hbg hblk (by omega) hcap hcur)
      have HB := Lib.hid hb
      have HK := Lib.hid hlen
      clear hown hblk hcur htake hb hlen hH
      go_wp2_with fail
      refine HS.out.mono ?_
      rintro e w2 ⟨rfl, nn, os, hw2⟩
      have hb3 : Below w.heap.size w w2 := by
        rw [hw2]; exact HB.out.grown (grownBy_sortedI _) HB.out.size (fun j hj => by cases hj; exact hbg)
      have hown2 := HG.out nn os ((devsTo L k).mergeSort fun x y => decide (x ≤ y)) (by simp)
      rw [← hw2, HK.out, hD.out] at hown2
      clear hw2 HG HS
      have hml : ((L.map (·.1)).mergeSort fun x y => decide (x ≤ y)).length = k := by rw [List.length_mergeSort, ← hD.out, HK.out]
      have HV : Hid (devsL L = Lib.compact ((L.map (·.1)).mergeSort fun x y => decide (x ≤ y))) := Lib.hid rfl
      generalize ((L.map (·.1)).mergeSort fun x y => decide (x ≤ y)) = zs at *
      rcases hown2.2 with ⟨h0, _⟩ | ⟨g', cap', cur, h0, hbg', hblk, hn', hcap', hcur, htake⟩
      · cases h0
      injection h0 with h5 h6 h7
      injection h5 with h5
      injection h5 with h5
      subst h5 h7
      rw [Nat.mul_one] at htake
      have hH2 : Holds (Value.int .i64) w2 g 0 zs.toArray := holds_of_blockI hblk (by rw [hml]; exact htake)
      have HC := Lib.hid (Try.slices_Compact_int g 0 cap zs w2 hH2 (by omega) (by omega))
      rw [hml] at HC
      have HG2 := Lib.hid (fun (n : Nat) (os : Array Obj) (ts : List Int) (hl : ts.length = zs.length) => ownsRow_sortedI (n := n) (os := os) hl hbg hblk (by omega) hcap hcur)
      have HM := Lib.hid hml
      clear hown2 hblk hcur htake hml hH2
      go_wp2_with fail
      refine HC.out.mono ?_
      rintro e w3 ⟨rfl, q, hw3⟩
      have hlc := Lib.compact_length_le zs
      have hb4 : Below w.heap.size w w3 := by
        rw [hw3, ← grow_empty (putRow _ _ _ _ _)]; exact hb3.grown (grownBy_sortedI _) hb3.size (fun j hj => by cases hj; exact hbg)
      have hown3 := HG2.out q #[] (Lib.compact zs ++ List.replicate (zs.length - (Lib.compact zs).length) 0) (by simp; omega)
      rw [grow_empty] at hown3
      rw [HM.out] at hown3
      rw [← hw3] at hown3
      clear hw3 HG2 HC
      go_wp2_with fail
      go_ret
      refine ⟨_, rfl, ?_, hb4⟩
      rw [HV.out]
      rw [List.map_append] at hown3
      exact own_prefix hown3 (by simp [intCells])
end Go.Proofs.Ythkeibeelncgkaa
