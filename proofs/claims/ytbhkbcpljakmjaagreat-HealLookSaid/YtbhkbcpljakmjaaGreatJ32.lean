/-
  Contracts of package dev: Cached, Crash.
-/
import Derived.Test.YtbhkbcpljakmjaaGreatJ04
import Derived.Test.YtbhkbcpljakmjaaGreatJ22
import Derived.Test.YtbhkbcpljakmjaaGreatJ31
namespace Go.Proofs.YtbhkbcpljakmjaaGreat
set_option linter.unusedVariables false
set_option linter.unusedSimpArgs false
open Go.RowKit Go.Maps Go.Sort Go.Shelf

theorem sorts_in (m : Nat) : AnyZI.SortsIn Tryz.prog Tryz.sortedA_ren Fence.wide m :=
  ⟨fun blk off cap ss W hH hblk hsz => callsIn_wide.2 (AnyM.slices_Sort_int Tryz.sortA blk off cap ss W hH hblk hsz),
   fun p cap W => callsIn_wide.2 (AnyM.slices_Sort_int_none Tryz.sortA p cap W)⟩

def intsOf (l : List Nat) : List Int := l.map fun (k : Nat) => (k : Int)
theorem keys_eq {w : World} {S : Nat → Prop} {bd mb mcap cb : Nat} {d : DevD} {g : Int → Option Value} (h : DevIn w S bd d mb mcap cb g) {l : List Int} (hl : RisingKeys g l) : l = intsOf d.keys := by
  have hp2 : (intsOf d.keys).Pairwise (· < ·) := by
    refine List.pairwise_map.2 ((hasL_pair d.pre d.med.length).imp fun {a b} h => ?_)
    omega
  have nd1 : l.Nodup := hl.1.imp (fun {a b} h e => by omega)
  have nd2 : (intsOf d.keys).Nodup := hp2.imp (fun {a b} h e => by omega)
  refine List.Perm.eq_of_pairwise (le := (· < ·)) (fun a b _ _ h1 h2 => by omega) hl.1 hp2 ((List.perm_ext_iff_of_nodup nd1 nd2).2 fun x => ?_)
  rw [hl.2]
  unfold intsOf
  rw [List.mem_map]
  constructor
  · intro hx
    have hk := h.keys x hx
    obtain ⟨n, rfl⟩ := Int.eq_ofNat_of_zero_le hk.1
    cases hg : g n with
    | none => rw [hg] at hx; cases hx
    | some v => exact ⟨n, (hasL_mem d.pre d.med.length n).2 ⟨by omega, by simpa [DevD.pre] using (h.rows n v hg).1⟩, rfl⟩
  · rintro ⟨n, hn, rfl⟩
    have h2 := ((hasL_mem _ _ _).1 hn).2
    cases hg : g n with
    | none => simp [DevD.pre, h.none_ n hg] at h2
    | some v => rfl

set_option maxHeartbeats 1000000 in
theorem cached_any {w : World} {S : Nat → Prop} {bd : Nat} {d : DevD} (h : DevAt w S bd d) (few : d.med.length ≤ 4096) : Calls Tryz.prog 26 #[.pointer (some ⟨bd, 0, none⟩)] w fun e w' =>
    ∃ v, e = .returned v ∧ w'.ownsRow w.heap.size 3 1 v d.keys.length (d.keys.map fun (k : Nat) => .int .i64 k) ∧ Below w.heap.size w w' := by
  obtain ⟨mb, mcap, cb, g, h⟩ := h
  obtain ⟨c0, c1, c2, c3⟩ := h.cells
  obtain ⟨D0, hown, hf⟩ := h.map
  have hfin : ∀ ss : List Int, ss.Perm (intKeys D0) → (ss.mergeSort fun x y => decide (x ≤ y)) = intsOf d.keys := fun ss hp => keys_eq h (MapAt.sorted hown Tryz.underlying3 hf hp)
  have HFIN := Lib.hid hfin
  have hsz := hown.size_le
  have hmax : Maps.size D0 ≤ maxLen := by unfold maxLen; omega
  have hbytes : Maps.size D0 * 8 ≤ 140737488355328 := by omega
  have hbl := hown.lt
  clear hfin h few
  refine (callsIn_wide (n := 6)).1 ?_
  have hseq : SeqGives Fence.wide 2 Tryz.prog 77 #[.pointer (some ⟨w.heap.size, 0, none⟩)] encZ (fun ss => ss.Perm (intKeys D0)) (Maps.size D0) (w.alloc (.cells #[.map (some cb)] 88)) :=
    AnyZI.keys_gives (ρ := Tryz.keysA_ren) { Tryz.keysA with } Fence.wide _ trivial rfl (by omega) w.heap.size cb d.med.length D0 _ (by simp) (by simp) (by
      obtain ⟨es, clock, hb, Ft, hs, hD⟩ := hown
      exact ⟨es, clock, (Below.heap_alloc _ _ cb hbl).trans hb, Ft, hs, hD⟩)
  have cK : ∀ mb W, CallsIn Fence.wide 5 Tryz.prog 52 #[.map mb] W fun e w' => e = .returned (.func (.func 77) #[] #[.pointer (some ⟨W.heap.size, 0, none⟩)]) ∧ w' = W.alloc (.cells #[.map mb] 88) := fun mb W => AnyZI.keys_in Tryz.keysA Fence.wide 5 trivial rfl mb W
  have cS := AnyZI.sorted_in Tryz.sortedA Fence.wide 5 trivial trivial trivial trivial rfl (by omega) (sorts_in _) (enters_of Tryz.func76 (by kernel_rfl) rfl) 77 #[.pointer (some ⟨w.heap.size, 0, none⟩)] trivial (enters_of Tryz.func77 (by kernel_rfl) rfl) _ _ hmax hbytes _ hseq
  change CallsIn _ _ Tryz.prog 51 _ _ _ at cS
  have hfK : Fence.wide.fn 52 := trivial
  have hfS : Fence.wide.fn 51 := trivial
  clear hown hf
  refine callsIn_of_wp Tryz.func26 rfl trivial ?_ rfl
  simp only [Tryz.ntmps26, List.size_toArray, List.length_cons, List.length_nil, Nat.reduceAdd, Nat.reduceSub, Array.replicate_succ, Array.replicate_zero, List.push_toArray, List.append_toArray, List.nil_append, List.cons_append]
  gi_wp2_with (first
    | (gi_at_call 52; refine (cK _ _).mono ?_; rintro e w' ⟨rfl, rfl⟩)
    | (gi_at_call 51; refine cS.mono ?_; rintro e w' ⟨v, ss, rfl, hS, hrow, hnil, hb⟩))
  go_ret
  have he := HFIN.out ss hS
  have hlen : ss.length = d.keys.length := by
    have := congrArg List.length he
    rw [List.length_mergeSort] at this
    simpa [intsOf] using this
  rw [he, hlen] at hrow
  have hmp : (intsOf d.keys).map encZ = d.keys.map fun (k : Nat) => Value.int .i64 k := by simp [intsOf, List.map_map]
  rw [hmp] at hrow
  exact ⟨v, rfl, ownsRow_base_a hrow (by simp), ((Below.refl _ w).alloc (Nat.le_refl _) _).trans (hb.mono (by simp))⟩
end Go.Proofs.YtbhkbcpljakmjaaGreat
