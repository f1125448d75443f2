/-
  The shelf's contracts at this program, in plain words: maps.Keys, slices.Sorted, slices.Sort at whole numbers.
  Contracts of package dev: Cached, Crash.
  Contracts of package dev: Crash.
  Rows of whole numbers.
  Helpers of UberTorn: one device flushed, the numbers of a crash in memory.
  The devices of UberTorn are in order.
-/
import Derived.Shelf.SlIterI.Nil
import Derived.Shelf.SlIterI.Sorted
import Derived.Shelf.SortM.Plain
import Derived.Shelf.SortM.SortNone
import Derived.Shelf.SlGeneric
import Derived.Test.YtlpbbjjibnbooaaGreatDoorProg
import Derived.Test.YtlpbbjjibnbooaaGreatDoorJ16
import Derived.Test.YtlpbbjjibnbooaaGreatDoorJ22
import Derived.Test.YtlpbbjjibnbooaaGreatDoorJ11
import Derived.Test.YtlpbbjjibnbooaaGreatDoorJ23
import Derived.Test.YtlpbbjjibnbooaaGreatDoorJ20
namespace Go.Proofs
open Go.Shelf
def Tryz.keysA_ren : Go.Shelf.Ren := ⟨fun | 7 => 94 | 10 => 120 | n => n, fun | 23 => 96 | 26 => 3 | 3 => 95 | 28 => 135 | 0 => 0 | 27 => 134 | 33 => 170 | 4 => 4 | n => n, fun | n => n⟩
theorem Tryz.keysA : Go.Proofs.SlLaysZI.n7 Tryz.prog Tryz.keysA_ren := {
  mixed := by kernel_rfl
  f7 := ⟨Tryz.f94.name, by decide, Tryz.func94.trans (congrArg some (by kernel_rfl))⟩
  f10 := ⟨Tryz.f120.name, by decide, Tryz.func120.trans (congrArg some (by kernel_rfl))⟩
  t0 := Tryz.underlying0
  a0 := Tryz.isAgg0
  z0 := Tryz.sizeOf0
  v0 := Tryz.zeroValue0
  t4 := Tryz.underlying4
  a4 := Tryz.isAgg4
  z4 := Tryz.sizeOf4
  v4 := Tryz.zeroValue4
  t23 := Tryz.underlying96
  a23 := Tryz.isAgg96
  z23 := Tryz.sizeOf96
  v23 := Tryz.zeroValue96
  t26 := Tryz.underlying3
  a26 := Tryz.isAgg3
  z26 := Tryz.sizeOf3
  v26 := Tryz.zeroValue3
  t27 := Tryz.underlying134
  a27 := Tryz.isAgg134
  z27 := Tryz.sizeOf134
  v27 := Tryz.zeroValue134
  t28 := Tryz.underlying135
  a28 := Tryz.isAgg135
  z28 := Tryz.sizeOf135
  v28 := Tryz.zeroValue135
  t33 := Tryz.underlying170
  a33 := Tryz.isAgg170
  z33 := Tryz.sizeOf170
  v33 := Tryz.zeroValue170 }
def Tryz.sortedA_ren : Go.Shelf.Ren := ⟨fun | 6 => 93 | 8 => 118 | 9 => 119 | 11 => 136 | 13 => 138 | 12 => 137 | 23 => 156 | 24 => 157 | 14 => 147 | 15 => 148 | 16 => 149 | 17 => 150 | 18 => 151 | 19 => 152 | 20 => 153 | 21 => 154 | 22 => 155 | 25 => 162 | 26 => 163 | 27 => 164 | 28 => 165 | 29 => 166 | 30 => 167 | 31 => 169 | n => n, fun | 26 => 3 | 28 => 135 | 24 => 67 | 0 => 0 | 3 => 3 | 37 => 138 | 48 => 171 | 50 => 27 | 4 => 4 | 40 => 198 | 39 => 197 | 45 => 203 | 5 => 5 | 9 => 9 | 51 => 214 | 55 => 218 | 57 => 220 | 58 => 221 | 33 => 170 | n => n, fun | n => n⟩
theorem Tryz.sortedA : Go.Proofs.SlLaysZI.n6 Tryz.prog Tryz.sortedA_ren := {
  mixed := by kernel_rfl
  f6 := ⟨Tryz.f93.name, by decide, Tryz.func93.trans (congrArg some (by kernel_rfl))⟩
  f8 := ⟨Tryz.f118.name, by decide, Tryz.func118.trans (congrArg some (by kernel_rfl))⟩
  f11 := ⟨Tryz.f136.name, by decide, Tryz.func136.trans (congrArg some (by kernel_rfl))⟩
  t0 := Tryz.underlying0
  a0 := Tryz.isAgg0
  z0 := Tryz.sizeOf0
  v0 := Tryz.zeroValue0
  t24 := Tryz.underlying67
  a24 := Tryz.isAgg67
  z24 := Tryz.sizeOf67
  v24 := Tryz.zeroValue67
  t26 := Tryz.underlying3
  a26 := Tryz.isAgg3
  z26 := Tryz.sizeOf3
  v26 := Tryz.zeroValue3
  t28 := Tryz.underlying135
  a28 := Tryz.isAgg135
  z28 := Tryz.sizeOf135
  v28 := Tryz.zeroValue135
  i26 := by kernel_rfl }
def Tryz.sortA_ren : Go.Shelf.Ren := ⟨fun | 5 => 119 | 8 => 138 | 7 => 137 | 19 => 156 | 20 => 157 | 10 => 147 | 11 => 148 | 12 => 149 | 13 => 150 | 14 => 151 | 15 => 152 | 16 => 153 | 17 => 154 | 18 => 155 | 30 => 162 | 31 => 163 | 32 => 164 | 33 => 165 | 34 => 166 | 35 => 167 | 40 => 169 | n => n, fun | 23 => 67 | 25 => 3 | 3 => 3 | 32 => 138 | 22 => 67 | 0 => 0 | 44 => 171 | 46 => 27 | 4 => 4 | 36 => 198 | 35 => 197 | 41 => 203 | 5 => 5 | 9 => 9 | 53 => 214 | 57 => 218 | 63 => 220 | 64 => 221 | n => n, fun | n => n⟩
theorem Tryz.sortA : Go.Proofs.SlLaysM.n5 Tryz.prog Tryz.sortA_ren := {
  mixed := by kernel_rfl
  f5 := ⟨Tryz.f119.name, by decide, Tryz.func119.trans (congrArg some (by kernel_rfl))⟩
  f7 := ⟨Tryz.f137.name, by decide, Tryz.func137.trans (congrArg some (by kernel_rfl))⟩
  f8 := Tryz.func138.trans (congrArg some (by kernel_rfl))
  f10 := ⟨Tryz.f147.name, by decide, Tryz.func147.trans (congrArg some (by kernel_rfl))⟩
  f11 := ⟨Tryz.f148.name, by decide, Tryz.func148.trans (congrArg some (by kernel_rfl))⟩
  f12 := ⟨Tryz.f149.name, by decide, Tryz.func149.trans (congrArg some (by kernel_rfl))⟩
  f13 := ⟨Tryz.f150.name, by decide, Tryz.func150.trans (congrArg some (by kernel_rfl))⟩
  f14 := ⟨Tryz.f151.name, by decide, Tryz.func151.trans (congrArg some (by kernel_rfl))⟩
  f15 := ⟨Tryz.f152.name, by decide, Tryz.func152.trans (congrArg some (by kernel_rfl))⟩
  f16 := ⟨Tryz.f153.name, by decide, Tryz.func153.trans (congrArg some (by kernel_rfl))⟩
  f17 := ⟨Tryz.f154.name, by decide, Tryz.func154.trans (congrArg some (by kernel_rfl))⟩
  f18 := ⟨Tryz.f155.name, by decide, Tryz.func155.trans (congrArg some (by kernel_rfl))⟩
  f19 := Tryz.func156.trans (congrArg some (by kernel_rfl))
  f20 := Tryz.func157.trans (congrArg some (by kernel_rfl))
  f30 := ⟨Tryz.f162.name, by decide, Tryz.func162.trans (congrArg some (by kernel_rfl))⟩
  f31 := Tryz.func163.trans (congrArg some (by kernel_rfl))
  f32 := Tryz.func164.trans (congrArg some (by kernel_rfl))
  f33 := ⟨Tryz.f165.name, by decide, Tryz.func165.trans (congrArg some (by kernel_rfl))⟩
  f34 := ⟨Tryz.f166.name, by decide, Tryz.func166.trans (congrArg some (by kernel_rfl))⟩
  f35 := ⟨Tryz.f167.name, by decide, Tryz.func167.trans (congrArg some (by kernel_rfl))⟩
  f40 := ⟨Tryz.f169.name, by decide, Tryz.func169.trans (congrArg some (by kernel_rfl))⟩
  t0 := Tryz.underlying0
  a0 := Tryz.isAgg0
  z0 := Tryz.sizeOf0
  v0 := Tryz.zeroValue0
  t3 := Tryz.underlying3
  a3 := Tryz.isAgg3
  z3 := Tryz.sizeOf3
  v3 := Tryz.zeroValue3
  t4 := Tryz.underlying4
  a4 := Tryz.isAgg4
  z4 := Tryz.sizeOf4
  v4 := Tryz.zeroValue4
  t5 := Tryz.underlying5
  a5 := Tryz.isAgg5
  z5 := Tryz.sizeOf5
  v5 := Tryz.zeroValue5
  t9 := Tryz.underlying9
  a9 := Tryz.isAgg9
  z9 := Tryz.sizeOf9
  v9 := Tryz.zeroValue9
  t22 := Tryz.underlying67
  a22 := Tryz.isAgg67
  z22 := Tryz.sizeOf67
  v22 := Tryz.zeroValue67
  t23 := Tryz.underlying67
  a23 := Tryz.isAgg67
  z23 := Tryz.sizeOf67
  v23 := Tryz.zeroValue67
  t25 := Tryz.underlying3
  a25 := Tryz.isAgg3
  z25 := Tryz.sizeOf3
  v25 := Tryz.zeroValue3
  t32 := Tryz.underlying138
  a32 := Tryz.isAgg138
  z32 := Tryz.sizeOf138
  v32 := Tryz.zeroValue138
  t35 := Tryz.underlying197
  a35 := Tryz.isAgg197
  z35 := Tryz.sizeOf197
  v35 := Tryz.zeroValue197
  t36 := Tryz.underlying198
  a36 := Tryz.isAgg198
  z36 := Tryz.sizeOf198
  v36 := Tryz.zeroValue198
  t41 := Tryz.underlying203
  a41 := Tryz.isAgg203
  z41 := Tryz.sizeOf203
  v41 := Tryz.zeroValue203
  t44 := Tryz.underlying171
  a44 := Tryz.isAgg171
  z44 := Tryz.sizeOf171
  v44 := Tryz.zeroValue171
  t46 := Tryz.underlying27
  a46 := Tryz.isAgg27
  z46 := Tryz.sizeOf27
  v46 := Tryz.zeroValue27
  t53 := Tryz.underlying214
  a53 := Tryz.isAgg214
  z53 := Tryz.sizeOf214
  v53 := Tryz.zeroValue214
  t57 := Tryz.underlying218
  a57 := Tryz.isAgg218
  z57 := Tryz.sizeOf218
  v57 := Tryz.zeroValue218
  t63 := Tryz.underlying220
  a63 := Tryz.isAgg220
  z63 := Tryz.sizeOf220
  v63 := Tryz.zeroValue220
  t64 := Tryz.underlying221
  a64 := Tryz.isAgg221
  z64 := Tryz.sizeOf221
  v64 := Tryz.zeroValue221 }
end Go.Proofs

namespace Go.Proofs.YtlpbbjjibnbooaaGreatDoor
set_option linter.unusedVariables false
set_option linter.unusedSimpArgs false
open Go.RowKit Go.Maps Go.Sort Go.Shelf

theorem sorts_in (m : Nat) : AnyZI.SortsIn Tryz.prog Tryz.sortedA_ren Fence.wide m :=
  ⟨fun blk off cap ss W hH hblk hsz => callsIn_wide.2 (AnyM.slices_Sort_int Tryz.sortA blk off cap ss W hH hblk hsz),
   fun p cap W => callsIn_wide.2 (AnyM.slices_Sort_int_none Tryz.sortA p cap W)⟩

def intsOf (l : List Nat) : List Int := l.map fun (k : Nat) => (k : Int)
theorem keys_eq {w : World} {S : Nat → Prop} {bd mb mcap cb : Nat} {d : DevD} {g : Int → Option Value} (h : DevIn w S bd d mb mcap cb g) {l : List Int} (hl : RisingKeys g l) : l = intsOf d.keys := by
  have hp2 : (intsOf d.keys).Pairwise (· < ·) := by
    refine List.pairwise_map.2 ((hasL_pair d.pre d.med.length).imp fun {a b} h => ?_)
    omega
  have nd1 : l.Nodup := hl.1.imp (fun {a b} h e => by omega)
  have nd2 : (intsOf d.keys).Nodup := hp2.imp (fun {a b} h e => by omega)
  refine List.Perm.eq_of_pairwise (le := (· < ·)) (fun a b _ _ h1 h2 => by omega) hl.1 hp2 ((List.perm_ext_iff_of_nodup nd1 nd2).2 fun x => ?_)
  rw [hl.2]
  unfold intsOf
  rw [List.mem_map]
  constructor
  · intro hx
    have hk := h.keys x hx
    obtain ⟨n, rfl⟩ := Int.eq_ofNat_of_zero_le hk.1
    cases hg : g n with
    | none => rw [hg] at hx; cases hx
    | some v => exact ⟨n, (hasL_mem d.pre d.med.length n).2 ⟨by omega, by simpa [DevD.pre] using (h.rows n v hg).1⟩, rfl⟩
  · rintro ⟨n, hn, rfl⟩
    have h2 := ((hasL_mem _ _ _).1 hn).2
    cases hg : g n with
    | none => simp [DevD.pre, h.none_ n hg] at h2
    | some v => rfl

set_option maxHeartbeats 1000000 in
theorem cached_any {w : World} {S : Nat → Prop} {bd : Nat} {d : DevD} (h : DevAt w S bd d) (few : d.med.length ≤ 4096) : Calls Tryz.prog 61 #[.pointer (some ⟨bd, 0, none⟩)] w fun e w' =>
    ∃ v, e = .returned v ∧ w'.ownsRow w.heap.size 3 1 v d.keys.length (d.keys.map fun (k : Nat) => .int .i64 k) ∧ Below w.heap.size w w' := by
  obtain ⟨mb, mcap, cb, g, h⟩ := h
  obtain ⟨c0, c1, c2, c3⟩ := h.cells
  obtain ⟨D0, hown, hf⟩ := h.map
  have hfin : ∀ ss : List Int, ss.Perm (intKeys D0) → (ss.mergeSort fun x y => decide (x ≤ y)) = intsOf d.keys := fun ss hp => keys_eq h (MapAt.sorted hown Tryz.underlying3 hf hp)
  have HFIN := Lib.hid hfin
  have hsz := hown.size_le
  have hmax : Maps.size D0 ≤ maxLen := by unfold maxLen; omega
  have hbytes : Maps.size D0 * 8 ≤ 140737488355328 := by omega
  have hbl := hown.lt
  clear hfin h few
  refine (callsIn_wide (n := 6)).1 ?_
  have hseq : SeqGives Fence.wide 2 Tryz.prog 120 #[.pointer (some ⟨w.heap.size, 0, none⟩)] encZ (fun ss => ss.Perm (intKeys D0)) (Maps.size D0) (w.alloc (.cells #[.map (some cb)] 96)) :=
    AnyZI.keys_gives (ρ := Tryz.keysA_ren) { Tryz.keysA with } Fence.wide _ trivial rfl (by omega) w.heap.size cb d.med.length D0 _ (by simp) (by simp) (by
      obtain ⟨es, clock, hb, Ft, hs, hD⟩ := hown
      exact ⟨es, clock, (Below.heap_alloc _ _ cb hbl).trans hb, Ft, hs, hD⟩)
  have cK : ∀ mb W, CallsIn Fence.wide 5 Tryz.prog 94 #[.map mb] W fun e w' => e = .returned (.func (.func 120) #[] #[.pointer (some ⟨W.heap.size, 0, none⟩)]) ∧ w' = W.alloc (.cells #[.map mb] 96) := fun mb W => AnyZI.keys_in Tryz.keysA Fence.wide 5 trivial rfl mb W
  have cS := AnyZI.sorted_in Tryz.sortedA Fence.wide 5 trivial trivial trivial trivial rfl (by omega) (sorts_in _) (enters_of Tryz.func119 (by kernel_rfl) rfl) 120 #[.pointer (some ⟨w.heap.size, 0, none⟩)] trivial (enters_of Tryz.func120 (by kernel_rfl) rfl) _ _ hmax hbytes _ hseq
  change CallsIn _ _ Tryz.prog 93 _ _ _ at cS
  have hfK : Fence.wide.fn 94 := trivial
  have hfS : Fence.wide.fn 93 := trivial
  clear hown hf
  refine callsIn_of_wp Tryz.func61 rfl trivial ?_ rfl
  simp only [Tryz.ntmps61, List.size_toArray, List.length_cons, List.length_nil, Nat.reduceAdd, Nat.reduceSub, Array.replicate_succ, Array.replicate_zero, List.push_toArray, List.append_toArray, List.nil_append, List.cons_append]
  gi_wp2_with (first
    | (gi_at_call 94; refine (cK _ _).mono ?_; rintro e w' ⟨rfl, rfl⟩)
    | (gi_at_call 93; refine cS.mono ?_; rintro e w' ⟨v, ss, rfl, hS, hrow, hnil, hb⟩))
  go_ret
  have he := HFIN.out ss hS
  have hlen : ss.length = d.keys.length := by
    have := congrArg List.length he
    rw [List.length_mergeSort] at this
    simpa [intsOf] using this
  rw [he, hlen] at hrow
  have hmp : (intsOf d.keys).map encZ = d.keys.map fun (k : Nat) => Value.int .i64 k := by simp [intsOf, List.map_map]
  rw [hmp] at hrow
  exact ⟨v, rfl, ownsRow_base_a hrow (by simp), ((Below.refl _ w).alloc (Nat.le_refl _) _).trans (hb.mono (by simp))⟩
end Go.Proofs.YtlpbbjjibnbooaaGreatDoor

namespace Go.Proofs.YtlpbbjjibnbooaaGreatDoor
set_option linter.unusedVariables false
set_option linter.unusedSimpArgs false
open Go.RowKit

/-- An argument that is a list of numbers, outside the blocks of S. -/
def KeepAt (w : World) (S : Nat → Prop) (v : Value) (l : List Int) : Prop :=
  ∃ A c, v = .slice A l.length c ∧ i64s l ∧ l.length ≤ 1000000 ∧ (0 < l.length → ∃ b o, A = some ⟨b, o, none⟩ ∧ ¬ S b ∧ b < w.heap.size ∧ ∀ i x, l[i]? = some x → w.cell? ⟨b, o + i, none⟩ = some (.int .i64 x))
theorem cell_same {w w' : World} {b o : Nat} (h : w'.heap[b]? = w.heap[b]?) : w'.cell? ⟨b, o, none⟩ = w.cell? ⟨b, o, none⟩ := by simp only [World.cell?, h]
theorem KeepAt.only {w w' : World} {S : Nat → Prop} {v : Value} {l : List Int} (h : KeepAt w S v l) (ho : Only S w w') : KeepAt w' S v l := by
  obtain ⟨A, c, h1, h2, h3, h4⟩ := h
  refine ⟨A, c, h1, h2, h3, fun hp => ?_⟩
  obtain ⟨b, o, h5, h6, h7, h8⟩ := h4 hp
  exact ⟨b, o, h5, h6, Nat.lt_of_lt_of_le h7 ho.size, fun i x hx => (cell_same (ho.block b h7 h6)).trans (h8 i x hx)⟩
theorem wraps4 {m : Int} {n : Nat} (h1 : -(n : Int) ≤ m) (h2 : m ≤ n) (hn : n ≤ 1000000) : wrap64 ((n : Int) + 1) = n + 1 ∧ wrap64 (m + (n : Int)) = m + n ∧ wrap64 (m + (n : Int) + 1) = m + n + 1 ∧ ¬ ((n : Int) + 1 = 0) :=
  ⟨IntWalk.wrap64_in _ (by omega), IntWalk.wrap64_in _ (by omega), IntWalk.wrap64_in _ (by omega), by omega⟩
theorem wraps1 {j : Nat} (hn : j ≤ 1000000) : wrap64 ((j : Int) + 1 - 1) = j := by rw [IntWalk.wrap64_in _ (by omega)]; omega
theorem wraps2 {j : Nat} (hn : j ≤ 1000000) : IntKind.i64.wrap (j : Int) = j := (IntWalk.i64_left j).trans (IntWalk.wrap64_in _ (by omega))
theorem is_succ {r : Int} {n : Nat} (h0 : ¬ r = 0) (h1 : 0 ≤ r) (h2 : r ≤ n) : ∃ j : Nat, r = (j : Int) + 1 ∧ j < n := ⟨(r - 1).toNat, by omega, by omega⟩
theorem toNat_succ (j : Nat) : ((j : Int) + 1).toNat = j + 1 := by omega

set_option maxRecDepth 20000 in
theorem crash_ok {w : World} {S : Nat → Prop} {bd : Nat} {d : DevD} (h : DevAt w S bd d) (hlo : d.lost = false) (ok : d.Ok) (hv : ∀ k, (d.cac k).length ≤ 1000000) {kv : Value} {keep : List Int} (hk : KeepAt w S kv keep) :
    Calls Tryz.prog 21 #[.pointer (some ⟨bd, 0, none⟩), kv] w fun e w' => e = .returned (.tuple #[]) ∧ DevAt w' S bd (d.crash keep) ∧ Only S w w' := by
  have HL := Lib.hid (lost_any h)
  rw [hlo] at HL
  have HLT := Lib.hid h.lts
  have few := ok.few
  have HCE := Lib.hid (fun i => DevD.crash_eq d keep hlo (i := i))
  have HKEEP := Lib.hid hk
  obtain ⟨A, kc, rfl, hk64, hkl, hkc⟩ := hk
  obtain ⟨mb, mcap, cb, g, h⟩ := h
  obtain ⟨c0, c1, c2, c3⟩ := h.cells
  have hz : w.frozen? ⟨bd, 3, none⟩ = false := h.box.fr 3
  have h2 := h.box_set 3 (.int .i64 (-1)) (l := d.lost) (f := -1) rfl
  have HO : Hid (Only S w (w.setCell ⟨bd, 3, none⟩ (.int .i64 (-1)))) := Lib.hid ((Only.refl S w).set (.inl h.sd) _)
  have HC := Lib.hid (cached_any (w := w.setCell ⟨bd, 3, none⟩ (.int .i64 (-1))) ⟨mb, mcap, cb, g, h2⟩ few)
  have H2 := Lib.hid h2
  have H64 := Lib.hid hk64
  have HKC := Lib.hid hkc
  have HOK := Lib.hid ok
  have HV := Lib.hid hv
  have HFEW := Lib.hid few
  clear hlo h2 h ok hv hk64 hkc few c0 c1 c2
  go_enter Tryz.func21, Tryz.ntmps21
  go_wp2_with fail
  refine HL.out.mono ?_
  rintro e w1 ⟨rfl, rfl⟩
  go_wp2_with fail
  refine HC.out.mono ?_
  rintro e w2 ⟨v, rfl, hrow, hb2⟩
  have hkeys : (DevD.mk d.med d.cac d.lost (-1)).keys = d.keys := rfl
  rw [hkeys] at hrow
  have hnl : ∃ A2 cap2, v = .slice A2 d.keys.length cap2 := by
    rcases hrow.2 with ⟨rfl, h0⟩ | ⟨b, cap, cur, rfl, _⟩
    · exact ⟨none, 0, by rw [h0]⟩
    · exact ⟨_, _, rfl⟩
  obtain ⟨A2, cap2, rfl⟩ := hnl
  have hs2 : (w.setCell ⟨bd, 3, none⟩ (.int .i64 (-1))).heap.size = w.heap.size := by simp [World.setCell]
  have hin2 := H2.out.same hb2.size (fun i hi => hb2.block i (H2.out.lt i hi))
  have hon2 : Only S w w2 := HO.out.then_below hb2
  have HROW := Lib.hid hrow
  have HIN2 := Lib.hid hin2
  have HON2 := Lib.hid hon2
  have HB2 := Lib.hid hb2
  have HS2 := Lib.hid hs2
  clear hrow hin2 hon2 hb2 hkeys hs2
  go_wp2_with fail
  go_loopw [4, 5, 6, 7, 16] (fun _ _ _ _ t wr => ∃ i : Nat, i ≤ d.keys.length ∧ t = .int .i64 i ∧ DevIn wr S bd (d.crashed keep i) mb mcap cb g ∧ Only S w2 wr) (fun _ _ _ _ t _ => d.keys.length - (RowKit.intOf t).toNat)
  case atStart =>
    refine ⟨0, Nat.zero_le _, rfl, ?_, Only.refl _ _⟩
    have e : d.crashed keep 0 = ⟨d.med, d.cac, d.lost, -1⟩ := by unfold DevD.crashed; rw [DevD.crashMed_zero]
    rw [e]
    exact HIN2.out
  case round =>
    obtain ⟨i, hi, rfl, hin, hon⟩ := hrel
    have hcl := (hin.map).clear (t := 96) (ty := 0) Tryz.underlying96
    obtain ⟨w5, hrun, hm5, hg5, hs5⟩ := hcl
    have H5 := Lib.hid (hin.cleared hm5 hg5 hs5)
    have HO5 : Hid (Only S wr w5) := Lib.hid (Only.of_grown hg5 hin.sc)
    obtain ⟨c0, c1, c2, c3⟩ := hin.cells
    have HIN := Lib.hid hin
    have HON := Lib.hid hon
    have hkl2 := (hasL_len d.pre d.med.length)
    have few := HFEW.out
    have hkl3 : d.keys.length ≤ 4096 := Nat.le_trans hkl2 few
    clear hm5 hg5 hs5 hin hon hkl2
    by_cases hlt : i < d.keys.length
    · obtain ⟨k, hk⟩ : ∃ k, d.keys[i]? = some k := ⟨_, List.getElem?_eq_getElem hlt⟩
      obtain ⟨hcac, hkm, hrk⟩ := DevD.keys_at hk
      have hdc : decide (i < d.keys.length) = true := decide_eq_true hlt
      have hform : ∃ gv, A2 = some ⟨gv, 0, none⟩ := by
        rcases HROW.out.2 with ⟨_, h0⟩ | ⟨b, cap, cur, he, _⟩
        · omega
        · cases he; exact ⟨b, rfl⟩
      obtain ⟨gv, rfl⟩ := hform
      obtain ⟨ck, _⟩ := ownsRow_cell HROW.out (j := i) (u := .int .i64 k) (by rw [List.getElem?_map, hk]; rfl)
      have hlr := HROW.out.lt gv rfl
      have hs2 := HS2.out
      have hgS : ¬ S gv := fun hS => by have := HLT.out gv hS; omega
      have ck2 : wr.cell? ⟨gv, i, none⟩ = some (.int .i64 k) := (cell_same (HON.out.block gv hlr.2 hgS)).trans ck
      obtain ⟨v, hgv⟩ : ∃ v, g (k : Int) = some v := by
        cases hg : g (k : Int) with
        | none => exact absurd (HIN.out.none_ k hg) hcac
        | some v => exact ⟨v, rfl⟩
      obtain ⟨_, hvr⟩ := HIN.out.rows k v hgv
      have hlk := HIN.out.map.look (k := k) (t := 96) Tryz.underlying3 Tryz.underlying96 (zero_strs wr) (wfz_in (by omega) (by omega))
      rw [hgv] at hlk
      simp only [Option.getD_some] at hlk
      have hcd : (d.crashed keep i).cac k = d.cac k := rfl
      rw [hcd] at hvr
      have hpos : 0 < (d.cac k).length := List.length_pos_iff.2 hcac
      obtain ⟨cv, cap3, rfl, _, _⟩ := hvr.form (by omega)
      have HVR := Lib.hid hvr
      have HGV := Lib.hid hgv
      have HKK := Lib.hid hk
      have HKM := Lib.hid hkm
      have HCAC := Lib.hid hcac
      have HRK := Lib.hid hrk
      have HPOS := Lib.hid hpos
      have HI := Lib.hid hlt
      clear hlr hs2 hgS ck hgv hvr hk hkm hcac hrk hcd hpos hlt hi
      by_cases hik : keep.length ≤ i
      · have HIK := Lib.hid hik
        have hdk : decide (keep.length ≤ i) = true := decide_eq_true hik
        clear hik
        go_wp2_with fail
        go_end0
        refine ⟨rfl, ⟨mb, mcap, cb, fun _ => none, ?_⟩, (HON2.out.trans HON.out (fun _ h => .inl h)).trans HO5.out (fun _ h => .inl h)⟩
        rw [HCE.out i (.inl HIK.out)]
        exact H5.out
      · have hil : i < keep.length := by omega
        have hdk : decide (keep.length ≤ i) = false := decide_eq_false hik
        obtain ⟨kb, ko, rfl, hkS, hkb, hkcell⟩ := HKC.out (by omega)
        obtain ⟨x, hx⟩ : ∃ x, keep[i]? = some x := ⟨_, List.getElem?_eq_getElem hil⟩
        have hx64 := H64.out x (List.mem_of_getElem? hx)
        have kc0 := hkcell i x hx
        have kc1 : wr.cell? ⟨kb, ko + i, none⟩ = some (.int .i64 x) := by
          have h1 := cell_same (o := ko + i) (HON2.out.block kb hkb hkS)
          have h2 := cell_same (o := ko + i) (HON.out.block kb (Nat.lt_of_lt_of_le hkb HON2.out.size) hkS)
          exact (h2.trans h1).trans kc0
        have hnv := HV.out k
        obtain ⟨s1, s2, s3, s4⟩ := vers_steps hx64 hnv
        have hvers : DevD.vers x (d.cac k).length = ((x.tmod ((d.cac k).length + 1) + (d.cac k).length + 1).tmod ((d.cac k).length + 1)).toNat := rfl
        have HVERS := Lib.hid hvers
        have HX := Lib.hid hx
        have HIL := Lib.hid hil
        obtain ⟨n, hn⟩ : ∃ n, (d.cac k).length = n := ⟨_, rfl⟩
        have HN := Lib.hid hn
        rw [hn] at s1 s2 s3 s4 hnv
        obtain ⟨m, hm⟩ : ∃ m, x.tmod ((n : Int) + 1) = m := ⟨_, rfl⟩
        rw [hm] at s1 s2 s3 s4
        obtain ⟨r, hr⟩ : ∃ r, (m + (n : Int) + 1).tmod ((n : Int) + 1) = r := ⟨_, rfl⟩
        rw [hr] at s3 s4
        obtain ⟨q1, q3, q4, q0⟩ := wraps4 s1 s2 hnv
        have HM := Lib.hid hm
        have HR := Lib.hid hr
        have hpick : Hid (DevD.pick keep i (d.cac k) (d.med.getD k []) = if 0 < r.toNat then (d.cac k).getD (r.toNat - 1) [] else d.med.getD k []) := Lib.hid (by
          have e : DevD.vers x (d.cac k).length = r.toNat := by rw [HVERS.out, HN.out, HM.out, HR.out]
          unfold DevD.pick
          rw [HX.out]
          simp only [e])
        have HNV := Lib.hid hnv
        clear hvers hx hil hkcell hx64 kc0 hnv hkS hkb hik
        rw [hn] at hlk
        clear hn
        by_cases hr0 : r = 0
        · subst hr0
          have HSAME : Hid (d.crashed keep (i + 1) = d.crashed keep i) := Lib.hid (DevD.crashed_same d keep HKK.out (by rw [hpick.out]; rfl))
          go_wp2_with fail
          go_roundw
          case rel =>
            refine ⟨i + 1, HI.out, by go_num, ?_, HON.out⟩
            rw [HSAME.out]; exact HIN.out
          case measure => have := HI.out; simp [RowKit.intOf]; omega
        · obtain ⟨j, rfl, hjn⟩ := is_succ hr0 s3 s4
          have HSET := Lib.hid (DevD.crashed_set d keep HKK.out)
          obtain ⟨tx, htx⟩ : ∃ tx, (d.cac k)[j]? = some tx := ⟨_, List.getElem?_eq_getElem (by rw [HN.out]; exact hjn)⟩
          have hpk : DevD.pick keep i (d.cac k) (d.med.getD k []) = tx := by
            rw [hpick.out, toNat_succ, if_pos (Nat.succ_pos j), Nat.add_sub_cancel, List.getD_eq_getElem?_getD, htx]; rfl
          obtain ⟨cl, _⟩ := ownsRow_cell HVR.out (j := j) (u := str tx) (by rw [List.getElem?_map, htx]; rfl)
          have hkml : k < (d.crashed keep i).med.length := by rw [DevD.crashed_len]; exact HKM.out
          have hfz := (HIN.out.med_at hkml).2
          obtain ⟨cm, _⟩ := HIN.out.med_at hkml
          rw [DevD.crashed_len] at c0
          have H7 := Lib.hid (HIN.out.med_set hkml tx)
          have HPK := Lib.hid hpk
          have q6 : wrap64 ((j : Int) + 1 - 1) = j := wraps1 (Nat.le_trans (Nat.le_of_lt hjn) HNV.out)
          have q7 : IntKind.i64.wrap (j : Int) = j := wraps2 (Nat.le_trans (Nat.le_of_lt hjn) HNV.out)
          have hkm2 := HKM.out
          have HKML := Lib.hid hkml
          clear hpk hkml hr0 htx
          repeat' (first
            | go_values
            | go_skip
            | go_guarded
            | ((fail_if_success (with_reducible refine drawn_mark ?_))
               first
                 | go_step
                 | go_upon
                 | go_back
                 | (simp only [Int.not_lt, Int.not_le] at *; go_simp)
                 | (go_values <;> (try go_simp))
                 | (go_ite <;> go_prune <;> (try go_simp))
                 | (split <;> (first | (rename_i hx; exact (hx _ rfl).elim) | go_prune))))
          refine wp_region_still_tail 11 (by kernel_rfl) (by kernel_rfl) ?_
          simp only [List.take_succ_cons, List.take_zero, List.drop_succ_cons, List.drop_zero]
          repeat still_step
          try refine wpStill_nil ?_
          change wpList _ _ _ _ _ wr.drew
          have hfz2 : wr.drew.frozen? ⟨mb, k, none⟩ = false := hfz
          have cm2 : wr.drew.cell? ⟨mb, k, none⟩ = some (str ((d.crashed keep i).medAt k)) := cm
          clear hfz cm
          go_wp2_with fail
          go_roundw
          case rel =>
            refine ⟨i + 1, HI.out, by go_num, ?_, (HON.out.set (.inl HIN.out.sm) _).drew⟩
            rw [HSET.out, HPK.out]
            exact H7.out.same (Nat.le_refl _) (fun _ _ => rfl)
          case measure => have := HI.out; simp [RowKit.intOf]; omega
    · have hei : d.keys.length ≤ i := by omega
      have HEI := Lib.hid hei
      have hdc : decide (i < d.keys.length) = false := decide_eq_false (by omega)
      clear hlt hei hi few
      go_wp2_with fail
      go_end0
      refine ⟨rfl, ⟨mb, mcap, cb, fun _ => none, ?_⟩, (HON2.out.trans HON.out (fun _ h => .inl h)).trans HO5.out (fun _ h => .inl h)⟩
      rw [HCE.out i (.inr HEI.out)]
      exact H5.out

theorem crash_any {w : World} {S : Nat → Prop} {bd : Nat} {d : DevD} (h : DevAt w S bd d) (ok : d.Ok) (hv : ∀ k, (d.cac k).length ≤ 1000000) {kv : Value} {keep : List Int} (hk : KeepAt w S kv keep) :
    Calls Tryz.prog 21 #[.pointer (some ⟨bd, 0, none⟩), kv] w fun e w' => e = .returned (.tuple #[]) ∧ DevAt w' S bd (d.crash keep) ∧ Only S w w' := by
  cases hlo : d.lost with
  | false => exact crash_ok h hlo ok hv hk
  | true =>
    have hd : d.crash keep = d := by unfold DevD.crash; rw [hlo]; rfl
    rw [hd]
    have HL := Lib.hid (lost_any h)
    rw [hlo] at HL
    have HD := Lib.hid h
    clear h hk hd hlo ok hv
    go_enter Tryz.func21, Tryz.ntmps21
    go_wp2_with fail
    refine HL.out.mono ?_
    rintro e w1 ⟨rfl, rfl⟩
    go_wp2_with fail
    (try simp only [Exit.inBlock, Exit.then])
    refine bodyPost_ret (results_none rfl _ _ _) rfl ?_
    exact ⟨rfl, HD.out, Only.refl _ _⟩
end Go.Proofs.YtlpbbjjibnbooaaGreatDoor

namespace Go.Proofs.YtlpbbjjibnbooaaGreatDoor
set_option linter.unusedVariables false
set_option linter.unusedSimpArgs false
open Go.RowKit

theorem Tryz.infoInt : (Tryz.prog.info? 3).map (fun i => (i.zero, i.size, i.bytes)) = some (some (.int .i64 0), 1, 8) := by kernel_rfl
def intCells (l : List Int) : List Value := l.map (Value.int .i64)
theorem intCells_snoc (l : List Int) (d : Int) : intCells (l ++ [d]) = intCells l ++ [.int .i64 d] := by simp [intCells]
end Go.Proofs.YtlpbbjjibnbooaaGreatDoor

namespace Go.Proofs.YtlpbbjjibnbooaaGreatDoor
set_option linter.unusedVariables false
set_option linter.unusedSimpArgs false
open Go.RowKit

theorem vfl18_any {w : World} {S : Nat → Nat → Prop} {U : Nat → Prop} {y : VX} {aw : List Bool} {ds : List DevD} (h : VdIn w S U y aw ds) {i b : Nat} {d : DevD} (o1 : d.Ok) (o2 : d.med.length = y.secs) (hb : y.bd[i]? = some b) (hd : ds[i]? = some d) :
    Calls Tryz.prog 20 #[.pointer (some ⟨b, 0, none⟩)] w fun e w' => e = .returned (.int .i64 d.flE) ∧ (∃ S', VdIn w' S' U y aw (ds.set i d.fl)) ∧ Stays U w w' := by
  refine (flush_any (h.dev i b d hb hd) o1).mono ?_
  rintro e w' ⟨rfl, hd', ho⟩
  exact ⟨rfl, ⟨_, h.step hb ho (hd'.more ho.size (fun b hb => h.lt i b hb)) (by rw [fl_len]; exact o2)⟩, Only.mono ho (fun g _ hg hU => h.fx i g hg hU)⟩
theorem vcr18_any {w : World} {S : Nat → Nat → Prop} {U : Nat → Prop} {y : VX} {aw : List Bool} {ds : List DevD} (h : VdIn w S U y aw ds) {i b : Nat} {d : DevD} (o1 : d.Ok) (o4 : ∀ k, (d.cac k).length ≤ 1000000) {kv : Value} {keep : List Int} (hkp : KeepAt w (S i) kv keep) (o2 : (d.crash keep).med.length = y.secs) (hb : y.bd[i]? = some b) (hd : ds[i]? = some d) :
    Calls Tryz.prog 21 #[.pointer (some ⟨b, 0, none⟩), kv] w fun e w' => e = .returned (.tuple #[]) ∧ (∃ S', VdIn w' S' U y aw (ds.set i (d.crash keep))) ∧ Stays U w w' := by
  refine (crash_any (h.dev i b d hb hd) o1 o4 hkp).mono ?_
  rintro e w' ⟨rfl, hd', ho⟩
  exact ⟨rfl, ⟨_, h.step hb ho (hd'.more ho.size (fun b hb => h.lt i b hb)) o2⟩, Only.mono ho (fun g _ hg hU => h.fx i g hg hU)⟩
theorem gone_rep {n : Nat} {m : List (List UInt8)} {c : Nat → List (List UInt8)} : goneN (List.replicate n false) (List.replicate n (dv m c)) n = 0 := by
  unfold goneN
  rw [List.length_eq_zero_iff, List.filter_eq_nil_iff]
  intro i hi
  rw [here_of (aw := List.replicate n false) rfl (List.getElem?_replicate_of_lt (List.mem_range.1 hi))]
  decide
def keepTo (bv : Nat → Bool) (k : Nat) : List Int := (List.range k).map fun i => if bv i then 1 else 0
theorem keepTo_len (bv : Nat → Bool) (k : Nat) : (keepTo bv k).length = k := by simp [keepTo]
theorem keepTo_step (bv : Nat → Bool) (k : Nat) : keepTo bv (k + 1) = keepTo bv k ++ [if bv k then 1 else 0] := by
  unfold keepTo
  rw [List.range_succ, List.map_append]
  rfl
theorem keep_own {w : World} {B : Nat} {v : Value} {bv : Nat → Bool} (h : w.ownsRow B 3 1 v 4 (intCells (keepTo bv 4))) {S : Nat → Prop} (hS : ∀ b, S b → b < B) : KeepAt w S v (keepL bv) := by
  rcases h.2 with ⟨_, h0⟩ | ⟨g, cap, cur, rfl, hbg, hblk, hn, hcap, hcur, htake⟩
  · omega
  · have hl : (keepL bv).length = 4 := keepTo_len bv 4
    refine ⟨some ⟨g, 0, none⟩, cap, by rw [hl], ?_, by omega, fun _ => ⟨g, 0, rfl, fun hs => by have := hS g hs; omega, (show Blk w g 3 cur from hblk).lt, fun i x hx => ?_⟩⟩
    · intro x hx
      unfold keepL at hx
      obtain ⟨i, _, rfl⟩ := List.mem_map.1 hx
      split <;> omega
    · have hi : i < 4 := by have := (List.getElem?_eq_some_iff.1 hx).1; omega
      rw [Nat.zero_add]
      refine (show Blk w g 3 cur from hblk).at_ ?_
      have h1 : (cur.toList.take (4 * 1))[i]? = some (.int .i64 x) := by
        rw [htake]
        unfold intCells
        rw [List.getElem?_map, show (keepTo bv 4)[i]? = some x from hx]
        rfl
      rw [List.getElem?_take_of_lt (by omega)] at h1
      rw [← Array.getElem?_toList]
      exact h1
theorem bit_one (k i : Nat) : ((k / 2 ^ i % 2 : Nat) : Int) = if bitB k i then 1 else 0 := by
  unfold bitB
  by_cases h : k / 2 ^ i % 2 = 1
  · rw [h]
    rfl
  · rw [show k / 2 ^ i % 2 = 0 by omega]
    rfl
end Go.Proofs.YtlpbbjjibnbooaaGreatDoor

namespace Go.Proofs.YtlpbbjjibnbooaaGreatDoor
set_option linter.unusedVariables false
set_option linter.unusedSimpArgs false
open Go.RowKit

theorem rep_ok {N secs n : Nat} {D : DevD} (h : D.Ok ∧ D.med.length = secs ∧ D.fuse = -1 ∧ ∀ k, (D.cac k).length ≤ N) : DsOk N secs (List.replicate n D) := fun d hd => by
  rw [(List.mem_replicate.1 hd).2]
  exact h
theorem rep_at {N secs n : Nat} {D : DevD} (hn : 0 < n) (h : DsOk N secs (List.replicate n D)) : D.Ok ∧ D.med.length = secs ∧ D.fuse = -1 ∧ ∀ k, (D.cac k).length ≤ N := h D (List.mem_replicate.2 ⟨by omega, rfl⟩)
section
variable {gs : List (Int × Int)} {secs n t : Nat} {bv : Nat → Bool}
theorem torn_ok1 (hr : gRight gs secs = true) (hs : 24 ≤ secs) (hs2 : secs ≤ 200) (h1 : 1 ≤ t) (h2 : t ≤ 200) : (torn1 gs secs t).Ok ∧ (torn1 gs secs t).med.length = secs ∧ (torn1 gs secs t).fuse = -1 ∧ ∀ k, ((torn1 gs secs t).cac k).length ≤ 4 := by
  have h := torn_one (n := 1) hr hs h1 h2
  unfold uwD at h
  rw [if_pos (ub_ok7 hr h1 (by omega))] at h
  have ok := ubAll_ok (aw := List.replicate 1 false) (base := (t : Int).toNat % 4 * 4) (s := ubL gs secs (t : Int) 7 ptrZ) (blanks_ok (n := 1) (b := 0) (show 1 ≤ secs by omega) (show secs ≤ 4096 by omega)) (List.replicate 1 (DevD.blank secs 0)).length
  rw [h] at ok
  exact rep_at (by decide) ok
theorem torn_ok2 (hr : gRight gs secs = true) (hs : 24 ≤ secs) (hs2 : secs ≤ 200) (h1 : 1 ≤ t) (h2 : t ≤ 200) : (torn2 gs secs t).Ok ∧ (torn2 gs secs t).med.length = secs ∧ (torn2 gs secs t).fuse = -1 ∧ ∀ k, ((torn2 gs secs t).cac k).length ≤ 4 :=
  ⟨(torn_ok1 hr hs hs2 h1 h2).1.fl, tornM_len, rfl, fun _ => Nat.zero_le _⟩
theorem torn_ok3 (hr : gRight gs secs = true) (hs : 24 ≤ secs) (hs2 : secs ≤ 200) (h1 : 1 ≤ t) (h2 : t ≤ 200) : (torn3 gs secs t).Ok ∧ (torn3 gs secs t).med.length = secs ∧ (torn3 gs secs t).fuse = -1 ∧ ∀ k, ((torn3 gs secs t).cac k).length ≤ 8 := by
  have h := torn_three (n := 1) (t := t) hr hs h2
  unfold uwD at h
  rw [if_pos (ub_ok9 hr (by omega) (by omega))] at h
  have ok := ubAll_ok (aw := List.replicate 1 false) (base := ((t + 1 : Nat) : Int).toNat % 4 * 4) (s := ubL gs secs ((t + 1 : Nat) : Int) 9 ptrZ) (rep_ok (n := 1) (torn_ok2 hr hs hs2 h1 h2)) (List.replicate 1 (torn2 gs secs t)).length
  rw [h] at ok
  exact rep_at (by decide) ok
theorem torn_ok4 (hr : gRight gs secs = true) (hs : 24 ≤ secs) (hs2 : secs ≤ 200) (h1 : 1 ≤ t) (h2 : t ≤ 200) : (torn4 gs secs t bv).Ok ∧ (torn4 gs secs t bv).med.length = secs ∧ (torn4 gs secs t bv).fuse = -1 ∧ ∀ k, ((torn4 gs secs t bv).cac k).length ≤ 8 :=
  ⟨by rw [← torn_crash]; exact (torn_ok3 hr hs hs2 h1 h2).1.crash _, med2_len, rfl, fun _ => Nat.zero_le _⟩
end
end Go.Proofs.YtlpbbjjibnbooaaGreatDoor
