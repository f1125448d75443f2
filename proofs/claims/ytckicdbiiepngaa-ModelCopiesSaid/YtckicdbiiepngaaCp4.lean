/-
  Lists of numbers held against each other; the snapshots' numbers; what objects there are.
-/
import Derived.Test.YtckicdbiiepngaaCp3
import Derived.Shelf.SlIterI.Sorted
namespace Go.Proofs.Ytckicdbiiepngaa
set_option linter.unusedVariables false
set_option linter.unusedSimpArgs false
open Go.RowKit Go.Maps Go.Lib Go.Shelf Go.Sort

abbrev intV (l : List Int) : List Value := l.map fun x => Value.int .i64 x
theorem intV_at {l : List Int} {i : Nat} {x : Int} (h : l[i]? = some x) : (intV l)[i]? = some (.int .i64 x) := by rw [List.getElem?_map, h]; rfl
set_option maxRecDepth 20000 in
theorem requal_any {w : World} {A B : Option Addr} {c1 c2 : Nat} {xs ys : List Int} (h1 : Reads w 1 A xs.length (intV xs)) (h2 : Reads w 1 B ys.length (intV ys)) (few : xs.length ≤ 1000) (few2 : ys.length ≤ 1000) :
    Calls Try.prog 40 #[.slice A xs.length c1, .slice B ys.length c2] w fun e w' => Tells w (xs = ys) e w' := by
  by_cases hlen : xs.length = ys.length
  · obtain ⟨n, hn⟩ : ∃ n, n = xs.length := ⟨_, rfl⟩
    have HN := Lib.hid hn
    have HM : Hid (n = ys.length) := Lib.hid (by rw [hn, hlen])
    rw [← hlen, ← hn] at h2 ⊢
    rw [← hn] at h1 few
    have H1 := Lib.hid h1
    have H2 := Lib.hid h2
    clear h1 h2 hlen hn few2
    go_enter Try.func40, Try.ntmps40
    go_wp2_with fail
    go_loopw [5] (fun t wr => ∃ k : Nat, k ≤ n ∧ t = .int .i64 k ∧ Below w.heap.size w wr ∧ xs.take k = ys.take k) (fun t _ => n - (intOf t).toNat)
    case atStart => exact ⟨0, Nat.zero_le _, rfl, Below.refl _ _, by simp⟩
    case round =>
      obtain ⟨k, hk, rfl, hb, hal⟩ := hrel
      have HB := Lib.hid hb
      have HAL := Lib.hid hal
      clear hal
      by_cases hlt : k < n
      · obtain ⟨x, hx⟩ : ∃ x, xs[k]? = some x := ⟨_, List.getElem?_eq_getElem (by rw [← HN.out]; exact hlt)⟩
        obtain ⟨y, hy⟩ : ∃ y, ys[k]? = some y := ⟨_, List.getElem?_eq_getElem (by rw [← HM.out]; exact hlt)⟩
        obtain ⟨ba, oa, rfl, hba, hca⟩ := (H1.out.below hb (Nat.le_refl _)).2 (by omega)
        obtain ⟨bc, oc, rfl, hbc, hcc⟩ := (H2.out.below hb (Nat.le_refl _)).2 (by omega)
        have i1 := hca k _ (intV_at hx)
        have i2 := hcc k _ (intV_at hy)
        have HTK : Hid ((x = y → xs.take (k + 1) = ys.take (k + 1)) ∧ (xs = ys → x = y)) := Lib.hid ⟨fun e => by
          rw [List.take_add_one, List.take_add_one, HAL.out, hx, hy, e], fun e => by rw [e, hy] at hx; exact (Option.some.inj hx).symm⟩
        have hdc : decide (k < n) = true := decide_eq_true hlt
        have HLT := Lib.hid hlt
        obtain ⟨C, hC, hC0, hCB, hCK, hCd⟩ := cls_below wr
        have f5 : ∀ W, C W → W.cell? ⟨ba, oa + k, none⟩ = some (.int .i64 x) := fun W hW => keep_cell (hCB W hW) i1 hba
        have f6 : ∀ W, C W → W.cell? ⟨bc, oc + k, none⟩ = some (.int .i64 y) := fun W hW => keep_cell (hCB W hW) i2 hbc
        have HCB := Lib.hid hCB
        have HC := Lib.hid hC
        clear hx hy i1 i2 hca hcc hba hbc hCB hCK hCd hC0 hC hb
        by_cases hxy : x = y
        · have hbe : (x != y) = false := by rw [hxy]; simp
          have HE := Lib.hid (HTK.out.1 hxy)
          clear hxy
          repeat' (first
            | go_values
            | go_skip
            | go_guarded
            | ((fail_if_success (with_reducible refine drawn_mark ?_))
               first
                 | go_step
                 | go_upon
                 | go_back
                 | (simp only [Int.not_lt, Int.not_le] at *; go_simp)
                 | (go_values <;> (try go_simp))
                 | (go_ite <;> go_prune <;> (try go_simp))
                 | (split <;> (first | (rename_i hx; exact (hx _ rfl).elim) | go_prune))))
          refine wp_region_cls C (by kernel_rfl) (by kernel_rfl) HC.out ?_
          repeat (first
            | go_big_quiet_skip
            | (go_big_quiet_want
               go_big_quiet_op
               first
                 | go_big_quiet_on
                 | (apply Exists.intro
                    refine ⟨fun W hW => ?_, ?_⟩
                    · first
                        | exact rfl
                        | exact ⟨rfl, rfl⟩
                        | (have e0 := f5 W hW; have e1 := f6 W hW; simp only [e0, e1, Result.andThen_ok]; done)
                        | (have e0 := f5 W hW; have e1 := f6 W hW; simp only [e0, e1, Result.andThen_ok]; first | exact ⟨trivial, rfl⟩ | exact rfl | exact ⟨rfl, rfl⟩)
                        | (skip)
                    go_big_quiet_on)))
          refine wpQuiet_nil ?_
          intro w2 hw2
          have HB2 := Lib.hid (keep_below (HCB.out w2 hw2) HB.out)
          clear f5 f6 hw2
          go_wp2_with fail
          go_roundw
          case rel => exact ⟨k + 1, HLT.out, by go_num, HB2.out, HE.out⟩
          case measure => have := HLT.out; simp [intOf]; omega
        · have hbe : (x != y) = true := bne_iff_ne.2 hxy
          have HNE : Hid (¬ xs = ys) := Lib.hid (fun e => hxy (HTK.out.2 e))
          clear hxy
          repeat' (first
            | go_values
            | go_skip
            | go_guarded
            | ((fail_if_success (with_reducible refine drawn_mark ?_))
               first
                 | go_step
                 | go_upon
                 | go_back
                 | (simp only [Int.not_lt, Int.not_le] at *; go_simp)
                 | (go_values <;> (try go_simp))
                 | (go_ite <;> go_prune <;> (try go_simp))
                 | (split <;> (first | (rename_i hx; exact (hx _ rfl).elim) | go_prune))))
          refine wp_region_cls C (by kernel_rfl) (by kernel_rfl) HC.out ?_
          repeat (first
            | go_big_quiet_skip
            | (go_big_quiet_want
               go_big_quiet_op
               first
                 | go_big_quiet_on
                 | (apply Exists.intro
                    refine ⟨fun W hW => ?_, ?_⟩
                    · first
                        | exact rfl
                        | exact ⟨rfl, rfl⟩
                        | (have e0 := f5 W hW; have e1 := f6 W hW; simp only [e0, e1, Result.andThen_ok]; done)
                        | (have e0 := f5 W hW; have e1 := f6 W hW; simp only [e0, e1, Result.andThen_ok]; first | exact ⟨trivial, rfl⟩ | exact rfl | exact ⟨rfl, rfl⟩)
                        | (skip)
                    go_big_quiet_on)))
          refine wpQuiet_nil ?_
          intro w2 hw2
          have HB2 := Lib.hid (keep_below (HCB.out w2 hw2) HB.out)
          clear f5 f6 hw2
          go_wp2_with fail
          go_ret
          exact ⟨false, rfl, by simp only [HNE.out, Bool.false_eq_true], HB2.out⟩
      · obtain rfl : k = n := by omega
        have hdc : decide ((k : Int) < k) = false := decide_eq_false (by omega)
        have HE : Hid (xs = ys) := Lib.hid (by
          have h := HAL.out
          rwa [List.take_of_length_le (by rw [← HN.out]; exact Nat.le_refl _), List.take_of_length_le (by rw [← HM.out]; exact Nat.le_refl _)] at h)
        go_wp2_with fail
        go_ret
        exact ⟨true, rfl, by simp only [HE.out], HB.out⟩
  · have hne : ((xs.length : Int) != ys.length) = true := bne_iff_ne.2 (by omega)
    have hne2 : ((xs.length : Int) == ys.length) = false := beq_eq_false_iff_ne.2 (by omega)
    have HNE : Hid (¬ xs = ys) := Lib.hid (fun e => hlen (by rw [e]))
    clear h1 h2
    go_enter Try.func40, Try.ntmps40
    go_wp2_with fail
    go_ret
    exact ⟨false, rfl, by simp only [HNE.out, Bool.false_eq_true], Below.refl _ _⟩

theorem take_snoc {α : Type} {l : List α} {k : Nat} {x : α} (h : l[k]? = some x) : l.take (k + 1) = l.take k ++ [x] := by
  rw [List.take_add_one, h]; rfl
set_option maxRecDepth 20000 in
theorem msnaps_any {w : World} {S : Nat → Prop} {b : Nat} {d : ModD} {N : Nat} (h : ModAt w S b d N) :
    Calls Try.prog 22 #[.pointer (some ⟨b, 0, none⟩)] w fun e w' => ∃ A c, e = .returned (.slice A d.now.ids.length c) ∧ Reads w' 1 A d.now.ids.length (intV d.now.ids) ∧ Below w.heap.size w w' := by
  obtain ⟨i1, p1, p2, p3, p4⟩ := info_parts Try.infoRI
  obtain ⟨m1, A1, n1, c1, m2, A2, n2, c2, S1, S2, h1, h2, _⟩ := h
  obtain ⟨rs, _, hr, _⟩ := h2
  obtain ⟨A1', c1', he⟩ := hr.form
  cases he
  have HR := Lib.hid hr
  have few := hr.few
  have k1 := h1.at_ (i := 1) rfl
  have HIDS : Hid (∀ (k : Nat) (r : Int × Nat), rs[k]? = some r → d.now.ids[k]? = some r.1) := Lib.hid (fun k r hk => by
    have hlt := (List.getElem?_eq_some_iff.1 hk).1
    obtain ⟨p, hp⟩ : ∃ p, d.now.snaps[k]? = some p := ⟨_, List.getElem?_eq_getElem (by rw [← hr.len]; exact hlt)⟩
    unfold AllA.ids
    rw [List.getElem?_map, hp, hr.ids k r p hk hp]; rfl)
  have HLEN : Hid (rs.length = d.now.ids.length) := Lib.hid (by rw [ids_len, hr.len])
  clear hr h1
  go_enter Try.func22, Try.ntmps22
  go_wp2_with fail
  go_loopw [3, 5, 14] (fun v _ t wr => ∃ k : Nat, k ≤ rs.length ∧ t = .int .i64 k ∧ Below w.heap.size w wr ∧ wr.ownsRow w.heap.size 3 1 v k ((intV d.now.ids).take k)) (fun _ _ t _ => rs.length - (intOf t).toNat)
  case atStart => exact ⟨0, Nat.zero_le _, rfl, Below.refl _ _, World.ownsRow_nil _ _ _ _⟩
  case round =>
    obtain ⟨k, hk, rfl, hb, hown⟩ := hrel
    have HB := Lib.hid hb
    have HO := Lib.hid hown
    by_cases hlt : k < rs.length
    · obtain ⟨r, hr⟩ : ∃ r, rs[k]? = some r := ⟨_, List.getElem?_eq_getElem hlt⟩
      have hr1 := HR.out.below hb
      obtain ⟨g1, rfl⟩ : ∃ gv, A1 = some ⟨gv, 0, none⟩ := by
        rcases hr1.row.2 with ⟨_, h0⟩ | ⟨b, cap, cur, he, _⟩
        · omega
        · cases he; exact ⟨b, rfl⟩
      have hat1 := rowC_at rs k r hr
      have a1 := hr1.row.cells (g := g1) rfl _ _ hat1.1
      have a2 := hr1.row.cells (g := g1) rfl _ _ hat1.2
      rw [Addr.add_mid, Nat.zero_add] at a1 a2
      have hdc : decide (k < rs.length) = true := decide_eq_true hlt
      have HLT := Lib.hid hlt
      have HID := Lib.hid (take_snoc (intV_at (HIDS.out k r hr)))
      obtain ⟨va, vc, rfl⟩ := own_slice hown
      obtain ⟨wX, hwX⟩ : ∃ x, x = (wr.alloc (.cells #[.int .i64 r.1, .map (some r.2)] 75)).alloc (.cells #[.int .i64 r.1] 3) := ⟨_, rfl⟩
      have bX : Below wr.heap.size wr wX := by rw [hwX]; exact keep_alloc (keep_alloc (Below.refl _ _) _) _
      have zX : wX.heap.size = wr.heap.size + 2 := by rw [hwX]; simp
      have rdX : Reads wX 1 (some ⟨wr.heap.size + 1, 0, none⟩) 1 [.int .i64 r.1] := ⟨rfl, fun _ => ⟨wr.heap.size + 1, 0, rfl, by omega, fun j u hu => by
        rw [Nat.zero_add, hwX]
        exact (Blk.new2 wr _ 3 #[.int .i64 r.1]).at_ (by simpa using hu)⟩⟩
      have hsz := hb.size
      obtain ⟨A', c', w2, he, ho2, hg, _⟩ := app_run (P := Try.prog) (ty := 30) (c := 1) Try.underlying30 p1 p2 p3 p4 rfl (by decide) (ownsRow_same hown (fun y hy => bX.block y (hown.lt y hy).2)) (by omega) rdX (fun u hu => by simp at hu; subst hu; rfl) (by omega) (by decide)
      have HB2 : Hid (Below w.heap.size w w2) := Lib.hid ((keep_below bX hb).grown hg (by omega) (fun y hy => (hown.lt y hy).1))
      rw [hwX] at he
      have HE1 := Lib.hid he
      have HO2 : Hid (w2.ownsRow w.heap.size 3 1 (.slice A' (k + 1) c') (k + 1) ((intV d.now.ids).take (k + 1))) := Lib.hid (by rw [HID.out]; exact ho2)
      clear hr1 hat1 hr hb hown hwX bX zX rdX he ho2 hg
      go_wp2_with ((with_reducible refine wpList_append_want ?qw (.tmp 18) (.tmp 21) _ _ _ ?qo ?qt _ _ ?qs ?qx _ _ HE1.out ?_); (case qo => rfl); (case qt => rfl); (case qs => rfl); (case qx => rfl); (case qw => rfl); simp only [Act.put, List.setIfInBounds_toArray, List.set_cons_zero, List.set_cons_succ])
      go_roundw
      case rel => exact ⟨k + 1, HLT.out, by go_num, HB2.out, HO2.out⟩
      case measure => have := HLT.out; simp [intOf]; omega
    · obtain rfl : k = rs.length := by omega
      have hdc : decide ((rs.length : Int) < rs.length) = false := decide_eq_false (by omega)
      obtain ⟨va, vc, rfl⟩ := own_slice hown
      have HRD : Hid (Reads wr 1 va d.now.ids.length (intV d.now.ids)) := Lib.hid (by
        have := own_reads hown
        rw [List.take_of_length_le (by rw [List.length_map, ← HLEN.out]; exact Nat.le_refl _), HLEN.out] at this
        exact this)
      have hl := HLEN.out
      clear hb hown
      rw [hl]
      rw [hl] at k1 hdc
      go_wp2_with fail
      go_ret
      exact ⟨_, _, rfl, HRD.out, HB.out⟩

theorem sorts_in (m : Nat) : AnyZI.SortsIn Try.prog Try.sortedA_ren Fence.wide m :=
  ⟨fun blk off cap ss W hH hblk hsz => callsIn_wide.2 (AnyM.slices_Sort_int Try.sortA blk off cap ss W hH hblk hsz),
   fun p cap W => callsIn_wide.2 (AnyM.slices_Sort_int_none Try.sortA p cap W)⟩
/-- The numbers of what there is, rising. -/
def keysN (D : DT) : List Nat := (List.range 32).filter fun i => has D (.int .i64 (i : Nat))
def keysI (D : DT) : List Int := (keysN D).map fun (i : Nat) => (i : Int)
theorem keysI_eq {w : World} {b N : Nat} {D : DT} (h : MapT w b N D) (hr : InR D) {l : List Int} (hp : l.Perm (intKeys D)) : (l.mergeSort fun x y => decide (x ≤ y)) = keysI D := by
  obtain ⟨nd, hm, _⟩ := mapT_keys h
  have tr : ∀ a b c : Int, leI a b = true → leI b c = true → leI a c = true := fun a b c h1 h2 => by simp only [leI, decide_eq_true_eq] at *; exact Int.le_trans h1 h2
  have tot : ∀ a b : Int, (leI a b || leI b a) = true := fun a b => by simp only [leI, Bool.or_eq_true, decide_eq_true_eq]; exact Int.le_total a b
  have hp2 : (keysI D).Pairwise (fun a b => leI a b = true) := by
    unfold keysI keysN
    refine List.pairwise_map.2 (List.Pairwise.filter _ ?_)
    refine List.Pairwise.imp ?_ (List.pairwise_lt_range (n := 32))
    intro a b h
    simp only [leI, decide_eq_true_eq]
    omega
  have nd2 : (keysI D).Nodup := by
    unfold keysI keysN
    refine List.pairwise_map.2 (List.Pairwise.filter _ ?_)
    refine List.Pairwise.imp ?_ (List.pairwise_lt_range (n := 32))
    intro a b h
    omega
  refine List.Perm.eq_of_pairwise (le := fun a b => leI a b = true) (fun a b _ _ h1 h2 => ?_) (List.pairwise_mergeSort tr tot l) hp2 ?_
  · simp only [leI, decide_eq_true_eq] at h1 h2
    exact Int.le_antisymm h1 h2
  · refine ((List.mergeSort_perm l leI).trans hp).trans ((List.perm_ext_iff_of_nodup nd nd2).2 fun x => ?_)
    rw [hm]
    unfold keysI keysN
    rw [List.mem_map]
    constructor
    · intro hx
      have q := hr x hx
      obtain ⟨i, rfl⟩ := Int.eq_ofNat_of_zero_le q.1
      exact ⟨i, List.mem_filter.2 ⟨List.mem_range.2 (by omega), hx⟩, rfl⟩
    · rintro ⟨i, hi, rfl⟩
      exact (List.mem_filter.1 hi).2
theorem keysI_len (D : DT) : (keysI D).length ≤ 32 := by
  unfold keysI keysN
  rw [List.length_map]
  exact Nat.le_trans (List.length_filter_le _ _) (by simp)

set_option maxHeartbeats 1000000 in
theorem mlist_any {w : World} {S : Nat → Prop} {b : Nat} {d : ModD} {N : Nat} (h : ModAt w S b d N) (snap : Int) {D : DT} (hobj : objA d.now snap = some D) (hr : InR D) (hN : N ≤ 1000000) :
    Calls Try.prog 21 #[.pointer (some ⟨b, 0, none⟩), .int .i64 snap] w fun e w' => ∃ A c, e = .returned (.tuple #[.slice A (keysI D).length c, .int .i64 0]) ∧ Reads w' 1 A (keysI D).length (intV (keysI D)) ∧ Below w.heap.size w w' := by
  have HO := Lib.hid (of_x h snap)
  refine (callsIn_wide (n := 8)).1 ?_
  have hOF : CallsIn Fence.wide 7 Try.prog 35 #[.pointer (some ⟨b, 0, none⟩), .int .i64 snap] w fun e w' => ∃ m, e = .returned (.tuple #[.map (some m), .int .i64 0]) ∧ MapT w' m N D ∧ Below w.heap.size w w' := callsIn_wide.2 (HO.out.mono fun e w' ⟨hh, hb⟩ => by
    rcases hh with ⟨m, D', he, ho, hm⟩ | ⟨he, ho⟩
    · rw [hobj] at ho; cases ho
      exact ⟨m, he, hm, hb⟩
    · rw [hobj] at ho; cases ho)
  have cK : ∀ mb W, CallsIn Fence.wide 7 Try.prog 42 #[.map mb] W fun e w' => e = .returned (.func (.func 51) #[] #[.pointer (some ⟨W.heap.size, 0, none⟩)]) ∧ w' = W.alloc (.cells #[.map mb] 57) := fun mb W => AnyZI.keys_in Try.keysA Fence.wide 7 trivial rfl mb W
  clear h hobj HO
  refine callsIn_of_wp Try.func21 rfl trivial ?_ rfl
  simp only [Try.ntmps21, List.size_toArray, List.length_cons, List.length_nil, Nat.reduceAdd, Nat.reduceSub, Array.replicate_succ, Array.replicate_zero, List.push_toArray, List.append_toArray, List.nil_append, List.cons_append]
  have hfO : Fence.wide.fn 35 := trivial
  have hfK : Fence.wide.fn 42 := trivial
  have hfS : Fence.wide.fn 41 := trivial
  gi_wp2_with (gi_at_call 35; refine hOF.mono ?_; rintro e w1 ⟨m, rfl, hmt, hb1⟩)
  have hsz := World.ownsMap.size_le hmt
  have hks := mapT_keys hmt
  have hmax : Maps.size D ≤ maxLen := by unfold maxLen; omega
  have hbytes : Maps.size D * 8 ≤ 140737488355328 := by omega
  have hbl := World.ownsMap.lt hmt
  have HFIN := Lib.hid (fun (ss : List Int) (hp : ss.Perm (intKeys D)) => keysI_eq hmt hr hp)
  have hseq : SeqGives Fence.wide 4 Try.prog 51 #[.pointer (some ⟨w1.heap.size, 0, none⟩)] encZ (fun ss => ss.Perm (intKeys D)) (Maps.size D) (w1.alloc (.cells #[.map (some m)] 57)) :=
    AnyZI.keys_gives (ρ := Try.keysA_ren) { Try.keysA with } Fence.wide _ trivial rfl (by omega) w1.heap.size m N D _ (by simp) (by simp) (by
      obtain ⟨es, clock, hb, Ft, hs, hD⟩ := hmt
      exact ⟨es, clock, (Below.heap_alloc _ _ m hbl).trans hb, Ft, hs, hD⟩)
  have cS := AnyZI.sorted_in Try.sortedA Fence.wide 7 trivial trivial trivial trivial rfl (by omega) (sorts_in _) (enters_of Try.func50 (by kernel_rfl) rfl) 51 #[.pointer (some ⟨w1.heap.size, 0, none⟩)] trivial (enters_of Try.func51 (by kernel_rfl) rfl) _ _ hmax hbytes _ hseq
  change CallsIn _ _ Try.prog 41 _ _ _ at cS
  have HB1 := Lib.hid hb1
  clear hmt hb1 hks hseq hsz
  gi_wp2_with (first
    | (gi_at_call 42; refine (cK _ _).mono ?_; rintro e w' ⟨rfl, rfl⟩)
    | (gi_at_call 41; refine cS.mono ?_; rintro e w' ⟨v, ss, rfl, hS, hrow, hnil, hb⟩))
  have he := HFIN.out ss hS
  have hlen : ss.length = (keysI D).length := by
    have := congrArg List.length he
    rwa [List.length_mergeSort] at this
  rw [he, hlen] at hrow
  obtain ⟨A, c, rfl⟩ := own_slice hrow
  have HRD : Hid (Reads w' 1 A (keysI D).length (intV (keysI D))) := Lib.hid (own_reads hrow)
  have HB2 : Hid (Below w.heap.size w w') := Lib.hid (keep_below (((Below.refl _ w1).alloc (Nat.le_refl _) _).trans (hb.mono (by simp))) HB1.out)
  clear hrow hnil hb he
  go_ret2
  exact ⟨A, c, rfl, HRD.out, HB2.out⟩
end Go.Proofs.Ytckicdbiiepngaa
