/-
  The statement CodePar, walked.
  Contracts of polderref05: whether a measure is right, what a block takes.
-/
import Derived.Test.YtefhmemmfajbfaaJ18
import Derived.Test.YtefhmemmfajbfaaJ04
import Derived.Test.YtefhmemmfajbfaaJ01
namespace Go.Proofs.Ytefhmemmfajbfaa
set_option linter.unusedVariables false
set_option linter.unusedSimpArgs false
open Go.RowKit

set_option maxRecDepth 20000 in
theorem parRight_yes {l : List (List UInt8)} {sv : Value} {w : World} (p : List UInt8) (h : SlAt w sv l.length (strC l)) (hn : (l.headD []).length ≤ 16384) (f1 : l.length ≤ 1000000) (he : makeE l = 0) (hp : makeS l = p) :
    Calls Try.prog 14 #[str p, sv] w fun e w' => e = .returned (.bool true) ∧ Below w.heap.size w w' := by
  have HM := parMake_any h hn f1
  rw [he, hp] at HM
  have HM := Lib.hid HM
  obtain ⟨A, c, rfl⟩ := h.form
  clear h he hp
  go_enter Try.func14, Try.ntmps14
  go_wp2_with fail
  refine HM.out.mono ?_
  rintro e w1 ⟨rfl, hb1⟩
  have HB1 := Lib.hid hb1
  clear hb1
  go_wp2_with fail
  go_ret
  exact ⟨rfl, HB1.out⟩
section
variable {gs : List (Int × Int)} {secs pg pa : Int} {s : List UInt8}
/-- What a row's data columns make. -/
theorem row_make {L : List Col} {T : List (List UInt8)} {sz i : Nat} (hP : ParL L sz) (hE : EncL L T) (hi : i < L.length) (hp : (L.getD i (0, 0, false, 0)).2.2.1 = true) :
    makeE ((rowIx L (L.getD i (0, 0, false, 0)).2.2.2).map fun j => T.getD j []) = 0 ∧ makeS ((rowIx L (L.getD i (0, 0, false, 0)).2.2.2).map fun j => T.getD j []) = T.getD i [] ∧ (((rowIx L (L.getD i (0, 0, false, 0)).2.2.2).map fun j => T.getD j []).headD []).length ≤ 16384 := by
  have h64 : ∀ x ∈ (rowIx L (L.getD i (0, 0, false, 0)).2.2.2).map fun j => T.getD j [], x.length = 64 := fun x hx => by
    obtain ⟨j, hj, rfl⟩ := List.mem_map.1 hx
    obtain ⟨c, hc, _⟩ := rowIx_spec hj
    exact hE.all64 j (List.getElem?_eq_some_iff.1 hc).1
  have hne : ((rowIx L (L.getD i (0, 0, false, 0)).2.2.2).map fun j => T.getD j []) ≠ [] := by
    rw [rowIx_eq hP hi hp]
    simp only [ne_eq, List.map_eq_nil_iff]
    exact again_ne hP hi
  refine ⟨?_, (hE.par i hi hp).symm, ?_⟩
  · have he : evenB ((rowIx L (L.getD i (0, 0, false, 0)).2.2.2).map fun j => T.getD j []) = true := by
      have hh := h64 _ (by
        cases hl : ((rowIx L (L.getD i (0, 0, false, 0)).2.2.2).map fun j => T.getD j []) with
        | nil => exact absurd hl hne
        | cons a r => exact List.mem_cons_self : (((rowIx L (L.getD i (0, 0, false, 0)).2.2.2).map fun j => T.getD j []).headD []) ∈ _)
      unfold evenB
      rw [List.all_eq_true]
      intro x hx
      rw [h64 x hx, hh]
      exact beq_self_eq_true _
    unfold makeE
    rw [if_pos ⟨hne, he⟩]
  · cases hl : ((rowIx L (L.getD i (0, 0, false, 0)).2.2.2).map fun j => T.getD j []) with
    | nil => simp
    | cons a r =>
      have := h64 a (by rw [hl]; exact List.mem_cons_self)
      simp [this]
theorem range_blocks {α : Type} (f : Nat → α) (sz : Nat) : ∀ w : Nat, (List.range (w * sz)).map f = ((List.range w).map fun j => (List.range sz).map fun t => f (j * sz + t)).flatten
  | 0 => by simp
  | w + 1 => by
    rw [Nat.succ_mul, List.range_add, List.map_append, range_blocks f sz w, List.range_succ, List.map_append, List.flatten_append, List.map_map]
    simp [Function.comp_def]
/-- A Mirror's columns, one after the other, are the text, once a device. -/
theorem mir_text (h : cMay gs secs pg pa (secN s) = true) (hk : (grAt gs pg).1 = 0) (hs : secOk s = true) :
    ((dataIx (colsOf gs secs pg pa (secN s)) (colsOf gs secs pg pa (secN s)).length).map fun i => (encL gs secs pg pa s).getD i []).flatten = (List.replicate (grAt gs pg).2.toNat s).flatten := by
  have hM := mirL_of h hk
  rw [Int.toNat_natCast] at hM
  have hall : dataIx (colsOf gs secs pg pa (secN s)) (colsOf gs secs pg pa (secN s)).length = List.range (colsOf gs secs pg pa (secN s)).length := by
    unfold dataIx
    rw [List.filter_eq_self]
    intro i hi
    rw [hM.dat i (List.mem_range.1 hi)]
    rfl
  have hm : ((List.range (colsOf gs secs pg pa (secN s)).length).map fun i => (encL gs secs pg pa s).getD i []) = (List.range (colsOf gs secs pg pa (secN s)).length).map fun i => (secsL s).getD (i % secN s) [] := by
    apply List.map_congr_left
    intro i hi
    exact enc_mir h hk (List.mem_range.1 hi)
  have hb : ∀ j, ((List.range (secN s)).map fun t => (secsL s).getD ((j * secN s + t) % secN s) []) = secsL s := by
    intro j
    unfold secsL
    apply List.map_congr_left
    intro t ht
    have ht := List.mem_range.1 ht
    rw [Nat.mul_comm, Nat.mul_add_mod, Nat.mod_eq_of_lt ht, List.getD_eq_getElem?_getD, List.getElem?_map, List.getElem?_range ht]
    rfl
  rw [hall, hm, hM.len, range_blocks]
  simp only [hb]
  generalize (grAt gs pg).2.toNat = w
  induction w with
  | zero => rfl
  | succ w ih =>
    rw [List.range_succ, List.map_append, List.flatten_append, List.flatten_append, ih, List.replicate_succ', List.flatten_append]
    simp [secs_flat (secOk_parts hs).2.1]
end
theorem str_cat (a b : List UInt8) : Value.string ((⟨a.toArray⟩ : ByteArray) ++ ⟨b.toArray⟩) = str (a ++ b) := by
  show Value.string _ = Value.string ⟨(a ++ b).toArray⟩
  congr 1
def strLen : Value → Nat
  | .string b => b.size
  | _ => 0
theorem ba_cut (m : List UInt8) (a b : Nat) : (ByteArray.mk m.toArray).extract a b = ⟨((m.take b).drop a).toArray⟩ := by
  apply ByteArray.ext
  simp [ByteArray.data_extract, List.extract_toArray, List.extract_eq_take_drop, List.drop_take]
theorem rowTo_len (L : List Col) (no : Int) (k : Nat) : (rowTo L no k).length ≤ k := by unfold rowTo; exact Nat.le_trans (List.length_filter_le _ _) (by simp)
/-- The text so far. -/
def txtTo (L : List Col) (T : List (List UInt8)) (k : Nat) : List UInt8 := ((dataIx L k).map fun i => T.getD i []).flatten
theorem txtTo_step (L : List Col) (T : List (List UInt8)) (k : Nat) : txtTo L T (k + 1) = txtTo L T k ++ if (L.getD k (0, 0, false, 0)).2.2.1 then [] else T.getD k [] := by
  unfold txtTo
  rw [dataIx_step, List.map_append, List.flatten_append]
  cases (L.getD k (0, 0, false, 0)).2.2.1 <;> simp
theorem txtTo_len {L : List Col} {T : List (List UInt8)} {k : Nat} (hk : k ≤ L.length) (h : ∀ i, i < L.length → (T.getD i []).length = 64) : (txtTo L T k).length ≤ 64 * k := by
  unfold txtTo
  refine Nat.le_trans (flat_le (fun x hx => ?_)) ?_
  · obtain ⟨i, hi, rfl⟩ := List.mem_map.1 hx
    unfold dataIx at hi
    have := List.mem_range.1 (List.mem_filter.1 hi).1
    rw [h i (by omega)]
    exact Nat.le_refl _
  · rw [List.length_map]
    have := dataIx_len L k
    omega
set_option maxRecDepth 100000 in
set_option maxHeartbeats 4000000 in
theorem codePar_any (A : Option Addr) (m cc : Nat) (gs : List (Int × Int)) (secs pg pa : Int) (s : List UInt8) (hsl : s.length ≤ 9223372036854775807) {w : World} (hg : GeoAt w A m gs) :
    Calls Try.prog 5 #[.agg #[.slice A m cc, .int .i64 secs], .agg #[.int .i64 pg, .int .i64 pa], str s] w fun e w' => e = .returned (.bool true) ∧ Below w.heap.size w w' := by
  obtain ⟨w2, hw2⟩ : ∃ z, (w.alloc (.cells #[.slice A m cc, .int .i64 secs] 24)).alloc (.cells #[.int .i64 pg, .int .i64 pa] 26) = z := ⟨_, rfl⟩
  have B1 : Blk w2 w.heap.size 24 #[.slice A m cc, .int .i64 secs] := by rw [← hw2]; exact (Blk.new _ _ _).alloc _
  have B2 : Blk w2 (w.heap.size + 1) 26 #[.int .i64 pg, .int .i64 pa] := by rw [← hw2]; exact Blk.new2 _ _ _ _
  have D2 : Below w.heap.size w w2 := by rw [← hw2]; exact keep_alloc (keep_alloc (Below.refl _ _) _) _
  have HB1 := Lib.hid B1
  have HB2 := Lib.hid B2
  have HD2 := Lib.hid D2
  have HW2 := Lib.hid hw2
  have HG := Lib.hid hg
  clear hg B1 B2 D2 hw2
  obtain ⟨i0, hi, hz0, hz1, hz2⟩ := info_parts Try.infoStr
  go_enter Try.func5, Try.ntmps5
  go_wp2_with fail
  rw [HW2.out]
  refine (awake07_any w2).mono ?_
  rintro e w3 ⟨rfl, hb3⟩
  have HB3 := Lib.hid hb3
  have x0 := (HB1.out.below hb3 HB1.out.lt).at_ (i := 0) (v := .slice A m cc) rfl
  have x1 := (HB1.out.below hb3 HB1.out.lt).at_ (i := 1) (v := .int .i64 secs) rfl
  have p0 := (HB2.out.below hb3 HB2.out.lt).at_ (i := 0) (v := .int .i64 pg) rfl
  have p1 := (HB2.out.below hb3 HB2.out.lt).at_ (i := 1) (v := .int .i64 pa) rfl
  clear hb3
  have HFW := Lib.hid (few_any A m cc gs secs ((HG.out.below HD2.out (Nat.le_refl _)).below HB3.out (Nat.le_refl _)) (slAt_nil w3) (Nat.zero_le _))
  obtain ⟨fb, hfb⟩ : ∃ fb, fewB gs [] = fb := ⟨_, rfl⟩
  rw [hfb] at HFW
  clear hfb
  cases fb with
  | false =>
    go_wp2_with fail
    refine HFW.out.mono ?_
    rintro e w4 ⟨rfl, hb4⟩
    have HB4 := Lib.hid hb4
    clear hb4 x0 x1 p0 p1
    go_wp2_with fail
    refine (awake07_any w4).mono ?_
    rintro e w5 ⟨rfl, hb5⟩
    have HB5 := Lib.hid (keep_below (keep_below (keep_below hb5 HB4.out) HB3.out) HD2.out)
    clear hb5
    go_wp2_with fail
    go_ret
    exact ⟨rfl, HB5.out⟩
  | true =>
    by_cases hl : 1000 < s.length
    · have hd : decide ((1000 : Int) < s.length) = true := decide_eq_true (by omega)
      clear hl
      go_wp2_with fail
      refine HFW.out.mono ?_
      rintro e w4 ⟨rfl, hb4⟩
      have HB4 := Lib.hid hb4
      clear hb4 x0 x1 p0 p1
      go_wp2_with fail
      refine (awake07_any w4).mono ?_
      rintro e w5 ⟨rfl, hb5⟩
      have HB5 := Lib.hid (keep_below (keep_below (keep_below hb5 HB4.out) HB3.out) HD2.out)
      clear hb5
      go_wp2_with fail
      go_ret
      exact ⟨rfl, HB5.out⟩
    · have hd : decide ((1000 : Int) < s.length) = false := decide_eq_false (by omega)
      have HL := Lib.hid (Nat.le_of_not_lt hl)
      clear hl
      go_wp2_with fail
      refine HFW.out.mono ?_
      rintro e w4 ⟨rfl, hb4⟩
      have HB4 := Lib.hid (keep_below hb4 HB3.out)
      clear hb4 x0 x1 p0 p1
      have x0 := (HB1.out.below HB4.out HB1.out.lt).at_ (i := 0) (v := .slice A m cc) rfl
      have x1 := (HB1.out.below HB4.out HB1.out.lt).at_ (i := 1) (v := .int .i64 secs) rfl
      have p0 := (HB2.out.below HB4.out HB2.out.lt).at_ (i := 0) (v := .int .i64 pg) rfl
      have p1 := (HB2.out.below HB4.out HB2.out.lt).at_ (i := 1) (v := .int .i64 pa) rfl
      have HGX := Lib.hid ((HG.out.below HD2.out (Nat.le_refl _)).below HB4.out (Nat.le_refl _))
      have HEN := Lib.hid (encode_any A m cc gs secs pg pa s HGX.out (by have := HL.out; omega))
      obtain ⟨E, hE⟩ : ∃ E, encE gs secs pg pa s = E := ⟨_, rfl⟩
      rw [hE] at HEN
      have HE := Lib.hid hE
      clear hE
      go_wp2_with fail
      refine HEN.out.mono ?_
      rintro e w5 ⟨v, rfl, hsl5, hb5, _⟩
      have HB5 := Lib.hid (keep_below hb5 HB4.out)
      clear x0 x1 p0 p1
      by_cases hz : E = 0
      · subst hz
        obtain ⟨e1, e2, e3⟩ := encE_zero HE.out
        rw [e3] at hsl5
        have hO := ofList_may e2
        have hOF := of_any A m cc gs secs pg pa (secN s) w5 (HGX.out.below hb5 (Nat.le_refl _))
        have h64 := (enc_encL e2).all64
        have hlen := (enc_encL e2).len
        have hO64 := ofList_le gs secs pg pa (secN s)
        rw [hO] at hOF hO64
        rw [show ofErr gs secs pg pa (secN s) = 0 by unfold ofErr; rw [if_pos e2]] at hOF
        have hrow := fun hk i hi hp => row_make (parL_of e2 hk) (enc_encL e2) (i := i) hi hp
        have hmd := fun hk => (mirL_of e2 hk).dat
        obtain ⟨hhas, _, _, _⟩ := cMay_true e2
        obtain ⟨gk, gx, hpk, hgk, _, _, _, hgx, hga, _⟩ := gHas_true hhas
        have htx := fun hk => enc_text (s := s) e2 e1 hk
        have hmx := fun hk => mir_text (s := s) e2 hk e1
        have hmw := fun hk => (mirL_of e2 hk).wpos
        obtain ⟨T, hT⟩ : ∃ T, encL gs secs pg pa s = T := ⟨_, rfl⟩
        obtain ⟨L, hL⟩ : ∃ L, colsOf gs secs pg pa (secN s) = L := ⟨_, rfl⟩
        rw [hT] at hsl5 h64 hlen hrow htx hmx
        rw [hL] at hOF hO64 h64 hlen hrow hmd htx hmx
        have HOF := Lib.hid hOF
        have HT := Lib.hid (And.intro hO64 (And.intro hlen h64))
        have HROW := Lib.hid (And.intro hrow hmd)
        have HTX := Lib.hid (And.intro htx (And.intro hmx hmw))
        have HGK := Lib.hid (And.intro hpk (And.intro hgk (And.intro hgx hga)))
        have HSO := Lib.hid (And.intro (secOk_parts e1).1 HL.out)
        obtain ⟨A5, c5, rfl⟩ := hsl5.form
        have HSL5 := Lib.hid hsl5
        have x0 := (HB1.out.below HB5.out HB1.out.lt).at_ (i := 0) (v := .slice A m cc) rfl
        have x1 := (HB1.out.below HB5.out HB1.out.lt).at_ (i := 1) (v := .int .i64 secs) rfl
        have p0 := (HB2.out.below HB5.out HB2.out.lt).at_ (i := 0) (v := .int .i64 pg) rfl
        have p1 := (HB2.out.below HB5.out HB2.out.lt).at_ (i := 1) (v := .int .i64 pa) rfl
        have hq : Int.tdiv (s.length : Int) 64 = (secN s : Int) := rfl
        have hs15 : secN s ≤ 15 := by have := HL.out; unfold secN; omega
        have HB45 := Lib.hid hb5
        clear hb5 hT hL hOF h64 hlen hO64 hrow hmd hhas hpk hgk hgx hga htx hmx hmw e1 e2 e3 hO hsl5
        go_wp2_with fail
        refine HOF.out.mono ?_
        rintro e w6 ⟨cv, rfl, hown6, hb6⟩
        have HB6 := Lib.hid (keep_below hb6 HB5.out)
        have HB56 := Lib.hid hb6
        have HC6 := Lib.hid (slAt_own hown6)
        have HS6 := Lib.hid (HSL5.out.below hb6)
        obtain ⟨A6, c6, rfl⟩ := HC6.out.form
        clear x0 x1 p0 p1 hq hs15 hown6 hb6
        go_wp2_with fail
        go_loopw [11, 12] (fun t i wr => ∃ k : Nat, k ≤ L.length ∧ t = str (txtTo L T k) ∧ i = .int .i64 k ∧ Below w6.heap.size w6 wr) (fun _ i _ => L.length - (RowKit.intOf i).toNat)
        case atStart => exact ⟨0, Nat.zero_le _, rfl, rfl, Below.refl _ _⟩
        case round =>
          obtain ⟨k, hk, rfl, rfl, hb⟩ := hrel
          have HB := Lib.hid hb
          have hL64 := HT.out.1
          by_cases hlt : k < L.length
          · have hx := colD_in hlt
            obtain ⟨x, hxd⟩ : ∃ x, L.getD k (0, 0, false, 0) = x := ⟨_, rfl⟩
            rw [hxd] at hx
            have htk : T[k]? = some (T.getD k []) := by
              rw [List.getD_eq_getElem?_getD, List.getElem?_eq_getElem (by rw [HT.out.2.1]; exact hlt)]; rfl
            obtain ⟨tk, htd⟩ : ∃ tk, T.getD k [] = tk := ⟨_, rfl⟩
            rw [htd] at htk
            have htl : tk.length = 64 := by rw [← htd]; exact HT.out.2.2 k hlt
            obtain ⟨bc, oc, rfl, hbc, hcc⟩ := HC6.out.cells (by omega)
            obtain ⟨bl, ol, rfl, hbl, hcl⟩ := HS6.out.cells (by rw [HT.out.2.1]; omega)
            have hcx := colsCells_at hx
            have q2 : wr.cell? ⟨bc, oc + k * 4 + 2, none⟩ = some (.bool x.2.2.1) := (World.cell?_of_block (hb.block bc hbc)).trans (by have := hcc _ _ hcx.2.2.1; rwa [← Nat.add_assoc] at this)
            have q3 : wr.cell? ⟨bc, oc + k * 4 + 3, none⟩ = some (.int .i64 x.2.2.2) := (World.cell?_of_block (hb.block bc hbc)).trans (by have := hcc _ _ hcx.2.2.2; rwa [← Nat.add_assoc] at this)
            have y0 : wr.cell? ⟨bl, ol + k, none⟩ = some (str tk) := (World.cell?_of_block (hb.block bl hbl)).trans (hcl _ _ (strC_at htk))
            have hst := txtTo_step L T k
            rw [hxd, htd] at hst
            have htt := txtTo_len (Nat.le_of_lt hlt) HT.out.2.2
            have hdc : decide (k < L.length) = true := decide_eq_true hlt
            have hkT : k < T.length := by rw [HT.out.2.1]; exact hlt
            cases hp : x.2.2.1 with
            | false =>
              rw [hp] at q2 hst
              rw [if_neg Bool.false_ne_true] at hst
              have HST := Lib.hid hst
              obtain ⟨X, hX⟩ : ∃ X, txtTo L T k = X := ⟨_, rfl⟩
              rw [hX] at htt HST
              rw [hX]
              have hadd : X.length + tk.length ≤ 9223372036854775807 := by omega
              clear hst hcc hcl hcx hb hX
              go_wp2_with fail
              go_roundw
              case rel => exact ⟨k + 1, hlt, by rw [HST.out]; exact str_cat X tk, by go_num, HB.out⟩
              case measure => simp [RowKit.intOf]; omega
            | true =>
              rw [hp] at q2 hst
              rw [if_pos rfl, List.append_nil] at hst
              have HST := Lib.hid hst
              have hknz : (grAt gs pg).1 ≠ 0 := fun h => by have := HROW.out.2 h k hlt; rw [hxd, hp] at this; cases this
              obtain ⟨r1, r2, r3⟩ := HROW.out.1 hknz k hlt (by rw [hxd]; exact hp)
              rw [hxd] at r1 r2 r3
              rw [htd] at r2
              obtain ⟨no, hno⟩ : ∃ no, x.2.2.2 = no := ⟨_, rfl⟩
              rw [hno] at q3 r1 r2 r3
              have HR := Lib.hid (And.intro r1 (And.intro r2 r3))
              obtain ⟨X, hX⟩ : ∃ X, txtTo L T k = X := ⟨_, rfl⟩
              rw [hX] at HST
              rw [hX]
              have HC := Lib.hid (And.intro hbc hcc)
              have HS := Lib.hid (And.intro hbl hcl)
              have HQ := Lib.hid (And.intro q3 y0)
              have HLT := Lib.hid hlt
              have HKB : Hid (bc < wr.heap.size ∧ bl < wr.heap.size) := Lib.hid ⟨Nat.lt_of_lt_of_le hbc hb.size, Nat.lt_of_lt_of_le hbl hb.size⟩
              clear hst hcc hcl hcx hb hX hbc hbl r1 r2 r3 htt hno hknz hx q3 y0
              go_wp2_with fail
              rename World => wo
              go_loopw [13, 14] (fun v j wr => ∃ q : Nat, q ≤ L.length ∧ j = .int .i64 q ∧ wr.ownsRow wo.heap.size 9 1 v (rowTo L no q).length (strC ((rowTo L no q).map fun j => T.getD j [])) ∧ Below wo.heap.size wo wr) (fun _ j _ => L.length - (RowKit.intOf j).toNat)
              case atStart => exact ⟨0, Nat.zero_le _, rfl, World.ownsRow_nil _ _ _ _, Below.refl _ _⟩
              case round =>
                obtain ⟨q, hq, rfl, hown, hbi⟩ := hrel
                have HBI := Lib.hid hbi
                have HOWN := Lib.hid hown
                by_cases hqt : q < L.length
                · have hz := colD_in hqt
                  obtain ⟨z, hzd⟩ : ∃ z, L.getD q (0, 0, false, 0) = z := ⟨_, rfl⟩
                  rw [hzd] at hz
                  have htq : T[q]? = some (T.getD q []) := by
                    rw [List.getD_eq_getElem?_getD, List.getElem?_eq_getElem (by rw [HT.out.2.1]; exact hqt)]; rfl
                  have hcz := colsCells_at hz
                  obtain ⟨CC, hCd, hCw, hCB, hCK, hCD⟩ := cls_below wr
                  have g2 : wr.cell? ⟨bc, oc + q * 4 + 2, none⟩ = some (.bool z.2.2.1) := (World.cell?_of_block (hbi.block bc HKB.out.1)).trans ((World.cell?_of_block (HB.out.block bc HC.out.1)).trans (by have := HC.out.2 _ _ hcz.2.2.1; rwa [← Nat.add_assoc] at this))
                  have g3 : wr.cell? ⟨bc, oc + q * 4 + 3, none⟩ = some (.int .i64 z.2.2.2) := (World.cell?_of_block (hbi.block bc HKB.out.1)).trans ((World.cell?_of_block (HB.out.block bc HC.out.1)).trans (by have := HC.out.2 _ _ hcz.2.2.2; rwa [← Nat.add_assoc] at this))
                  have g4 : wr.cell? ⟨bc, oc + k * 4 + 3, none⟩ = some (.int .i64 no) := (World.cell?_of_block (hbi.block bc HKB.out.1)).trans HQ.out.1
                  have g5 : wr.cell? ⟨bl, ol + q, none⟩ = some (str (T.getD q [])) := (World.cell?_of_block (hbi.block bl HKB.out.2)).trans ((World.cell?_of_block (HB.out.block bl HS.out.1)).trans (HS.out.2 _ _ (strC_at htq)))
                  have hwl : bc < wr.heap.size ∧ bl < wr.heap.size := ⟨Nat.lt_of_lt_of_le HKB.out.1 hbi.size, Nat.lt_of_lt_of_le HKB.out.2 hbi.size⟩
                  have f2 : ∀ W, CC W → W.cell? ⟨bc, oc + q * 4 + 2, none⟩ = some (.bool z.2.2.1) := fun W h => keep_cell (hCB W h) g2 hwl.1
                  have f3 : ∀ W, CC W → W.cell? ⟨bc, oc + q * 4 + 3, none⟩ = some (.int .i64 z.2.2.2) := fun W h => keep_cell (hCB W h) g3 hwl.1
                  have f4 : ∀ W, CC W → W.cell? ⟨bc, oc + k * 4 + 3, none⟩ = some (.int .i64 no) := fun W h => keep_cell (hCB W h) g4 hwl.1
                  have hdq : decide (q < L.length) = true := decide_eq_true hqt
                  have hkl2 : k < L.length := HLT.out
                  have hqT : q < T.length := by rw [HT.out.2.1]; exact hqt
                  have HQT := Lib.hid hqt
                  have HG5 := Lib.hid (And.intro g5 hwl.2)
                  by_cases hyes : z.2.2.2 = no ∧ z.2.2.1 = false
                  · have HRT : Hid (rowTo L no (q + 1) = rowTo L no q ++ [q]) := Lib.hid (rowTo_yes hz hyes.1 hyes.2)
                    have hbe : (z.2.2.2 == no) = true := beq_iff_eq.2 hyes.1
                    have hrl := rowTo_len L no q
                    rw [hyes.2] at f2
                    clear hz hzd htq hcz g2 g3 g4 g5 hwl hbi hown hyes hCw hCK hCD
                    go_wp2_with fail
                    refine wp_region_cls CC (by kernel_rfl) (by kernel_rfl) hCd ?_
                    repeat (first
                      | go_big_quiet_skip
                      | (go_big_quiet_want
                         go_big_quiet_op
                         first
                           | go_big_quiet_on
                           | (apply Exists.intro
                              refine ⟨fun W hW => ?_, ?_⟩
                              · first
                                  | exact rfl
                                  | exact ⟨rfl, rfl⟩
                                  | (have e0 := f2 W hW; have e1 := f3 W hW; have e2 := f4 W hW; simp only [e0, e1, e2, Result.andThen_ok]; done)
                                  | (have e0 := f2 W hW; have e1 := f3 W hW; have e2 := f4 W hW; simp only [e0, e1, e2, Result.andThen_ok]; first | exact ⟨trivial, rfl⟩ | exact rfl | exact ⟨rfl, rfl⟩)
                                  | (skip)
                              go_big_quiet_on)))
                    refine wpQuiet_nil ?_
                    intro wz hwz
                    have HBZ := Lib.hid (HBI.out.trans ((hCB wz hwz).mono HBI.out.size))
                    have HOZ : Hid (wz.ownsRow wo.heap.size 9 1 u13 (rowTo L no q).length (strC ((rowTo L no q).map fun j => T.getD j []))) := Lib.hid (ownsRow_same HOWN.out (fun b hb => (hCB wz hwz).block b (HOWN.out.lt b hb).2))
                    have g6 : wz.cell? ⟨bl, ol + q, none⟩ = some (str (T.getD q [])) := keep_cell (hCB wz hwz) HG5.out.1 HG5.out.2
                    obtain ⟨tq, htq⟩ : ∃ tq, T.getD q [] = tq := ⟨_, rfl⟩
                    rw [htq] at g6
                    have HTQ := Lib.hid htq
                    obtain ⟨RL, hRL⟩ : ∃ RL, rowTo L no q = RL := ⟨_, rfl⟩
                    rw [hRL] at HOZ HRT hrl
                    clear f2 f3 f4 hCd hCB hwz hRL HOWN htq
                    go_wp2_with (at_builtin; refine wpList_append_own _ rfl _ _ 27 rfl wo.heap.size 9 i0 _ 1 16 Try.underlying27 hi hz0 hz1 hz2 rfl (by decide) _ _ _ rfl (HOZ.out.alloc _) ⟨wz.heap.size, 0, none⟩ 1 1 [str tq] rfl rfl ?c1 ?c2 (by unfold maxLen; omega) (by omega) ?c5 ?_)
                    try (case c1 => exact one_new' _ _ _)
                    case c2 => first | rfl | (intro u hu; simp at hu; subst hu; rfl)
                    case c5 => have := HBZ.out.size; simp; omega
                    intro v' w8 hown' hgrow _
                    have hown8 : w8.ownsRow wo.heap.size 9 1 v' (rowTo L no (q + 1)).length (strC ((rowTo L no (q + 1)).map fun j => T.getD j [])) := by
                      rw [HRT.out, List.map_append, List.length_append, List.map_cons, List.map_nil, HTQ.out, strC_snoc]
                      exact hown'
                    have hb8 : Below wo.heap.size wo w8 := (HBZ.out.alloc HBZ.out.size _).grown hgrow (by have := HBZ.out.size; simp; omega) (fun k hk => (HOZ.out.lt k hk).1)
                    have HO8 := Lib.hid hown8
                    have HB8 := Lib.hid hb8
                    clear hown' hgrow hown8 hb8
                    go_wp2_with fail
                    go_roundw
                    case rel => exact ⟨q + 1, HQT.out, by go_num, HO8.out, HB8.out⟩
                    case measure => have := HQT.out; simp [RowKit.intOf]; omega
                  · have HRT : Hid (rowTo L no (q + 1) = rowTo L no q) := Lib.hid (rowTo_no hz hyes)
                    cases hbe : (z.2.2.2 == no) with
                    | false =>
                      clear hz hzd htq hcz g2 g3 g4 g5 hwl hbi hown hyes hCw hCK hCD
                      go_wp2_with fail
                      refine wp_region_cls CC (by kernel_rfl) (by kernel_rfl) hCd ?_
                      repeat (first
                        | go_big_quiet_skip
                        | (go_big_quiet_want
                           go_big_quiet_op
                           first
                             | go_big_quiet_on
                             | (apply Exists.intro
                                refine ⟨fun W hW => ?_, ?_⟩
                                · first
                                    | exact rfl
                                    | exact ⟨rfl, rfl⟩
                                    | (have e0 := f2 W hW; have e1 := f3 W hW; have e2 := f4 W hW; simp only [e0, e1, e2, Result.andThen_ok]; done)
                                    | (have e0 := f2 W hW; have e1 := f3 W hW; have e2 := f4 W hW; simp only [e0, e1, e2, Result.andThen_ok]; first | exact ⟨trivial, rfl⟩ | exact rfl | exact ⟨rfl, rfl⟩)
                                    | (skip)
                                go_big_quiet_on)))
                      refine wpQuiet_nil ?_
                      intro wz hwz
                      have HBZ := Lib.hid (HBI.out.trans ((hCB wz hwz).mono HBI.out.size))
                      have HOZ := Lib.hid (ownsRow_same HOWN.out (fun b hb => (hCB wz hwz).block b (HOWN.out.lt b hb).2))
                      clear f2 f3 f4 hCd hCB hwz HOWN
                      go_wp2_with fail
                      go_roundw
                      case rel => exact ⟨q + 1, HQT.out, by go_num, by rw [HRT.out]; exact HOZ.out, HBZ.out⟩
                      case measure => have := HQT.out; simp [RowKit.intOf]; omega
                    | true =>
                      have hzp : z.2.2.1 = true := by
                        cases hp2 : z.2.2.1 with
                        | true => rfl
                        | false => exact absurd ⟨eq_of_beq hbe, hp2⟩ hyes
                      rw [hzp] at f2
                      clear hz hzd htq hcz g2 g3 g4 g5 hwl hbi hown hyes hCw hCK hCD hzp
                      go_wp2_with fail
                      refine wp_region_cls CC (by kernel_rfl) (by kernel_rfl) hCd ?_
                      repeat (first
                        | go_big_quiet_skip
                        | (go_big_quiet_want
                           go_big_quiet_op
                           first
                             | go_big_quiet_on
                             | (apply Exists.intro
                                refine ⟨fun W hW => ?_, ?_⟩
                                · first
                                    | exact rfl
                                    | exact ⟨rfl, rfl⟩
                                    | (have e0 := f2 W hW; have e1 := f3 W hW; have e2 := f4 W hW; simp only [e0, e1, e2, Result.andThen_ok]; done)
                                    | (have e0 := f2 W hW; have e1 := f3 W hW; have e2 := f4 W hW; simp only [e0, e1, e2, Result.andThen_ok]; first | exact ⟨trivial, rfl⟩ | exact rfl | exact ⟨rfl, rfl⟩)
                                    | (skip)
                                go_big_quiet_on)))
                      refine wpQuiet_nil ?_
                      intro wz hwz
                      have HBZ := Lib.hid (HBI.out.trans ((hCB wz hwz).mono HBI.out.size))
                      have HOZ := Lib.hid (ownsRow_same HOWN.out (fun b hb => (hCB wz hwz).block b (HOWN.out.lt b hb).2))
                      clear f2 f3 f4 hCd hCB hwz HOWN
                      go_wp2_with fail
                      go_roundw
                      case rel => exact ⟨q + 1, HQT.out, by go_num, by rw [HRT.out]; exact HOZ.out, HBZ.out⟩
                      case measure => have := HQT.out; simp [RowKit.intOf]; omega
                · obtain rfl : q = L.length := by omega
                  have hdq : decide (L.length < L.length) = false := decide_eq_false (by omega)
                  have y1 : wr.cell? ⟨bl, ol + k, none⟩ = some (str tk) := (World.cell?_of_block (hbi.block bl HKB.out.2)).trans HQ.out.2
                  rw [rowTo_all] at hown
                  have hrl : (rowIx L no).length ≤ 64 := by have := rowTo_len L no L.length; rw [rowTo_all] at this; omega
                  have hkl2 : k < L.length := HLT.out
                  have HPR := Lib.hid (parRight_yes (w := wr) tk (by rw [List.length_map]; exact slAt_own hown) HR.out.2.2 (by rw [List.length_map]; omega) HR.out.1 HR.out.2.1)
                  obtain ⟨A13, c13, rfl⟩ := (slAt_own hown).form
                  clear hown hbi HOWN hrl
                  go_wp2_with fail
                  refine HPR.out.mono ?_
                  rintro e w9 ⟨rfl, hb9⟩
                  have HB9 := Lib.hid (HB.out.trans ((keep_below hb9 HBI.out).mono HB.out.size))
                  clear hb9
                  go_wp2_with fail
                  go_roundw
                  case rel => exact ⟨k + 1, HLT.out, by rw [HST.out], by go_num, HB9.out⟩
                  case measure => have := HLT.out; simp [RowKit.intOf]; omega
          · obtain rfl : k = L.length := by omega
            have hdc : decide (L.length < L.length) = false := decide_eq_false (by omega)
            obtain ⟨hpk, hgk, hgx, hga⟩ := HGK.out
            have hb2 : Below w2.heap.size w2 wr := keep_below hb HB6.out
            have HBR := Lib.hid (keep_below hb2 HD2.out)
            have hgw := HG.out.below HBR.out (Nat.le_refl _)
            have hm := hgw.1
            have x0 := (HB1.out.below hb2 HB1.out.lt).at_ (i := 0) (v := .slice A m cc) rfl
            have x1 := (HB1.out.below hb2 HB1.out.lt).at_ (i := 1) (v := .int .i64 secs) rfl
            have p0 := (HB2.out.below hb2 HB2.out.lt).at_ (i := 0) (v := .int .i64 pg) rfl
            have p1 := (HB2.out.below hb2 HB2.out.lt).at_ (i := 1) (v := .int .i64 pa) rfl
            obtain ⟨bg, og, rfl, hgc⟩ := hgw.2.2 (by omega)
            have hcg := (hgc.2 gk gx hgx).1
            have hkm : gk < m := by omega
            subst hpk
            have HS0 := Lib.hid HSO.out
            have hsl1 := HSO.out.2
            by_cases hkd : gx.1 = 0
            · have hk2 : (grAt gs (gk : Int)).1 = 0 := by rw [hga]; exact hkd
              have hmx := HTX.out.2.1 hk2
              have hmw := HTX.out.2.2 hk2
              obtain ⟨n, hn⟩ : ∃ n, (grAt gs (gk : Int)).2.toNat = n := ⟨_, rfl⟩
              rw [hn] at hmx hmw
              rw [hkd] at hcg
              have HMX : Hid (txtTo L T L.length = (List.replicate n s).flatten) := Lib.hid hmx
              have HMW := Lib.hid hmw
              rw [HMX.out]
              clear hmx hmw hn hb hb2 hgw hm hgc hgx hga hk2 hkd hgk
              go_wp2_with fail
              go_loopw [11] (fun t wq => ∃ q : Nat, 1 ≤ q ∧ t = str (List.replicate q s).flatten ∧ wq = wr) (fun t _ => strLen t)
              case atStart => exact ⟨n, HMW.out, rfl, rfl⟩
              case round =>
                obtain ⟨q, hq1, rfl, rfl⟩ := hrel
                by_cases h2 : 2 ≤ q
                · obtain ⟨r, rfl⟩ : ∃ r, q = r + 2 := ⟨q - 2, by omega⟩
                  obtain ⟨Y, hY⟩ : ∃ Y, (List.replicate (r + 1) s).flatten = Y := ⟨_, rfl⟩
                  obtain ⟨X, hX⟩ : ∃ X, s ++ Y = X := ⟨_, rfl⟩
                  have e : (List.replicate (r + 2) s).flatten = X := by rw [List.replicate_succ, List.flatten_cons, hY, hX]
                  rw [e]
                  have hsp := List.length_pos_iff.2 HS0.out.1
                  have hYl : s.length ≤ Y.length := by rw [← hY, List.replicate_succ, List.flatten_cons, List.length_append]; omega
                  have hXl : X.length = s.length + Y.length := by rw [← hX, List.length_append]
                  have hdl : decide (s.length < X.length) = true := decide_eq_true (by omega)
                  have hsl2 : ∀ W, (Instr.slice 9 (str X) none (some (.int .i64 (s.length : Int))) none).run Try.prog W = .ok (str s) W := fun W => by
                    have := run_slice_string_h (P := Try.prog) (w := W) (t := 9) (s := ByteArray.mk X.toArray) (ht := Try.underlying9) .i64 (s.length : Int) (by omega) (by simp [ByteArray.size]; omega)
                    rw [this, Int.toNat_natCast, ba_cut, ← hX, List.take_left]
                    rfl
                  have hsf : ∀ W, (Instr.slice 9 (str X) (some (.int .i64 (s.length : Int))) none none).run Try.prog W = .ok (str Y) W := fun W => by
                    have := run_slice_string_l (P := Try.prog) (w := W) (t := 9) (s := ByteArray.mk X.toArray) (ht := Try.underlying9) .i64 (s.length : Int) (by omega) (by simp [ByteArray.size]; omega)
                    rw [this, Int.toNat_natCast, ba_cut, ← hX, List.take_of_length_le (by simp [ByteArray.size]), List.drop_left]
                  have HYX := Lib.hid (And.intro hY (And.intro hXl hsp))
                  clear hY hX e hsp hYl h2 hXl
                  go_wp2_with fail
                  go_roundw
                  case rel => exact ⟨r + 1, by omega, by rw [HYX.out.1], trivial⟩
                  case measure =>
                    show (ByteArray.mk Y.toArray).size < (ByteArray.mk X.toArray).size
                    have := HYX.out.2
                    simp [ByteArray.size]
                    omega
                · obtain rfl : q = 1 := by omega
                  have e : (List.replicate 1 s).flatten = s := by simp
                  rw [e]
                  have hdl : decide (s.length < s.length) = false := decide_eq_false (by omega)
                  clear e h2
                  go_wp2_with fail
                  go_ret
                  exact ⟨rfl, HBR.out⟩
            · have hk2 : (grAt gs (gk : Int)).1 ≠ 0 := by rw [hga]; exact hkd
              have hd0 : (gx.1 == 0) = false := beq_eq_false_iff_ne.2 hkd
              have HMX : Hid (txtTo L T L.length = s) := Lib.hid (HTX.out.1 hk2)
              rw [HMX.out]
              clear hb hb2 hgw hm hgc hgx hga hk2 hkd hgk
              go_wp2_with fail
              go_ret
              exact ⟨rfl, HBR.out⟩
      · have hne : (E != 0) = true := bne_iff_ne.2 hz
        have hnil : encS gs secs pg pa s = [] := by
          unfold encS
          rw [if_neg]
          intro h
          simp only [Bool.and_eq_true, decide_eq_true_eq] at h
          have := HE.out
          unfold encE at this
          rw [if_pos h.1] at this
          exact hz (this.symm.trans h.2)
        rw [hnil] at hsl5
        obtain ⟨A5, c5, rfl⟩ := hsl5.form
        clear hz hsl5 hb5
        go_wp2_with fail
        go_ret
        exact ⟨rfl, keep_below HB5.out HD2.out⟩
end Go.Proofs.Ytefhmemmfajbfaa

namespace Go.Proofs.Ytefhmemmfajbfaa
set_option linter.unusedVariables false
set_option linter.unusedSimpArgs false
open Go.RowKit

theorem gOne_false {x : Int × Int} (h : gOne x = false) : (x.1 ≠ 0 ∧ x.1 ≠ 1) ∨ (x.1 = 0 ∧ (x.2 < 1 ∨ 8 < x.2)) ∨ (x.1 = 1 ∧ (x.2 < 3 ∨ 8 < x.2)) := by
  have : ¬ ((x.1 = 0 ∧ 1 ≤ x.2 ∧ x.2 ≤ 8) ∨ (x.1 = 1 ∧ 3 ≤ x.2 ∧ x.2 ≤ 8)) := by
    intro h'
    have : gOne x = true := by simpa [gOne] using h'
    rw [h] at this; cases this
  omega

set_option maxHeartbeats 4000000 in
theorem refRight_any (A : Option Addr) (n c : Nat) (gs : List (Int × Int)) (secs : Int) (w : World) (hg : GeoAt w A n gs) :
    Calls Try.prog 34 #[.agg #[.slice A n c, .int .i64 secs]] w fun e w' => e = .returned (.bool (gRight gs secs)) ∧ Below w.heap.size w w' := by
  obtain ⟨hl, hn2, hg⟩ := hg
  have hb0 : ∀ o, Below w.heap.size w (w.alloc o) := fun o => (Below.refl _ _).alloc (Nat.le_refl _) o
  by_cases hn : n = 0
  · subst hn
    have hgr : Hid (gRight gs secs = false) := by simp [Hid, gRight, hl]
    clear hg hl
    go_enter Try.func34, Try.ntmps34
    go_wp2
    go_ret
    exact ⟨ret_bool hgr.out.symm, hb0 _⟩
  · obtain ⟨b, off, rfl, hgs⟩ := hg (by omega)
    clear hg
    by_cases hbad : 4 < n ∨ secs < 24 ∨ 4096 < secs
    · have hgr : Hid (gRight gs secs = false) := by unfold Hid gRight; rw [hl]; simp; omega
      have hn1 : (1 : Int) ≤ n := by omega
      clear hgs hl
      go_enter Try.func34, Try.ntmps34
      go_wp2
      all_goals go_ret
      all_goals exact ⟨ret_bool (by rw [hgr.out]), hb0 _⟩
    · have hgr : Hid (gRight gs secs = gs.all gOne) := by
        unfold Hid gRight; rw [hl, decide_eq_true (by omega), decide_eq_true (by omega), decide_eq_true (by omega), decide_eq_true (by omega)]
        rfl
      have h1 : (1 : Int) ≤ n := by omega
      have h2 : (n : Int) ≤ 4 := by omega
      have h3 : 24 ≤ secs := by omega
      have h4 : secs ≤ 4096 := by omega
      have Hl := Lib.hid hl
      have hgl := hgs.1
      clear hbad hl
      go_enter Try.func34, Try.ntmps34
      go_wp2
      have hb1 := hb0 (Obj.cells #[Value.slice (some ⟨b, off, none⟩) n c, Value.int IntKind.i64 secs] 24)
      have k1 : (w.alloc (Obj.cells #[Value.slice (some ⟨b, off, none⟩) n c, Value.int IntKind.i64 secs] 24)).cell? ⟨w.heap.size, 0, none⟩ = some (.slice (some ⟨b, off, none⟩) n c) := cell_new rfl rfl
      have hs1 : w.heap.size < (w.alloc (Obj.cells #[Value.slice (some ⟨b, off, none⟩) n c, Value.int IntKind.i64 secs] 24)).heap.size := by simp
      generalize w.alloc (Obj.cells #[Value.slice (some ⟨b, off, none⟩) n c, Value.int IntKind.i64 secs] 24) = w1 at *
      go_loopw [3] (fun t wr => ∃ k : Nat, k ≤ n ∧ t = .int .i64 k ∧ (∀ j x, j < k → gs[j]? = some x → gOne x = true) ∧ Below w1.heap.size w1 wr) (fun t _ => n - (RowKit.intOf t).toNat)
      case atStart => exact ⟨0, Nat.zero_le _, rfl, fun j x h => absurd h (by omega), Below.refl _ _⟩
      case round =>
        obtain ⟨k, hk, rfl, hno, hb⟩ := hrel
        obtain ⟨wo, rfl⟩ : ∃ wo : World, wo = wr := ⟨_, rfl⟩
        have HN := Lib.hid hno
        clear hno
        have k2 := keep_cell hb k1 hs1
        have hbb := hb1.trans (hb.mono hb1.size)
        by_cases hlt : k < n
        · obtain ⟨x, hx⟩ : ∃ x, gs[k]? = some x := ⟨_, List.getElem?_eq_getElem (by rw [Hl.out]; exact hlt)⟩
          obtain ⟨z1, z2⟩ := (hgs.below hbb (Nat.le_refl _)).2 k x hx
          have HX := Lib.hid hx
          have hi0 : (0 : Int) ≤ k := by omega
          have hi1 : (k : Int) < n := by omega
          clear hx
          cases ho : gOne x with
          | true =>
            have HO := Lib.hid ho
            rcases gOne_true ho with ⟨e, g1, g2⟩ | ⟨e, g1, g2⟩
            all_goals
              obtain ⟨kd, wd⟩ := x
              simp only at e g1 g2 z1 z2
              subst e
              clear ho
              go_wp2_with fail
              go_roundw
              case rel =>
                refine ⟨k + 1, by omega, by go_num, fun j y hj hy => ?_, hb.alloc hb.size _⟩
                rcases Nat.lt_or_ge j k with h | h
                · exact HN.out j y h hy
                · obtain rfl : j = k := by omega
                  rw [HX.out] at hy
                  injection hy with hy
                  rw [← hy]; exact HO.out
              case measure => simp [RowKit.intOf]; omega
          | false =>
            have hf : Hid (gs.all gOne = false) := by
              unfold Hid; rw [List.all_eq_false]; exact ⟨x, List.mem_of_getElem? HX.out, by rw [ho]; simp⟩
            have hz := gOne_false ho
            obtain ⟨kd, wd⟩ := x
            simp only at hz z1 z2
            clear ho HX
            rcases hz with ⟨e1, e2⟩ | ⟨e, e1⟩ | ⟨e, e1⟩
            · have q1 : (kd != 0) = true := by simpa using e1
              have q2 : (kd != 1) = true := by simpa using e2
              clear e1 e2
              go_wp2_with fail
              all_goals go_ret
              all_goals exact ⟨ret_bool (by rw [hgr.out, hf.out]), hbb.alloc hbb.size _⟩
            · subst e
              rcases e1 with e1 | e1
              all_goals
                go_wp2_with fail
                all_goals go_ret
                all_goals exact ⟨ret_bool (by rw [hgr.out, hf.out]), hbb.alloc hbb.size _⟩
            · subst e
              rcases e1 with e1 | e1
              all_goals
                go_wp2_with fail
                all_goals go_ret
                all_goals exact ⟨ret_bool (by rw [hgr.out, hf.out]), hbb.alloc hbb.size _⟩
        · obtain rfl : k = n := by omega
          go_wp2_with fail
          go_ret
          refine ⟨ret_bool ?_, hbb⟩
          symm
          rw [hgr.out, List.all_eq_true]
          intro x hx
          obtain ⟨j, hj⟩ := List.mem_iff_getElem?.1 hx
          exact HN.out j x (by have := (List.getElem?_eq_some_iff.1 hj).1; rw [Hl.out] at this; exact this) hj
/-- What the reference says a block takes of a group. -/
theorem refTakes_any (x : Int × Int) (size : Int) (w : World) (ho : gOne x = true) (h1 : 1 ≤ size) (h2 : size ≤ 4) :
    Calls Try.prog 35 #[.agg #[.int .i64 x.1, .int .i64 x.2], .int .i64 size] w fun e w' => e = .returned (.int .i64 (gTake1 x size)) ∧ Below w.heap.size w w' := by
  obtain ⟨kd, wd⟩ := x
  rcases gOne_true ho with ⟨e, g1, g2⟩ | ⟨e, g1, g2⟩
  · simp only at e g1 g2
    subst e
    have ht : Hid (gTake1 (0, wd) size = size) := Lib.hid rfl
    clear ho
    go_enter Try.func35, Try.ntmps35
    go_wp2_with fail
    go_ret
    exact ⟨ret_int ht.out.symm, (Below.refl _ _).alloc (Nat.le_refl _) _⟩
  · simp only at e g1 g2
    subst e
    obtain ⟨s, rfl⟩ := Int.eq_ofNat_of_zero_le (show 0 ≤ size by omega)
    have ht : Hid (gTake1 (1, wd) s = (s + (s + wd - 2) / (wd - 1)) + (s + (s + wd - 2) / (wd - 1)) % 2) := Lib.hid rfl
    have hd : Hid ((s + wd - 2) / (wd - 1) = if (s : Int) ≤ wd - 1 then 1 else 2) := by
      unfold Hid
      have hw : wd = 3 ∨ wd = 4 ∨ wd = 5 ∨ wd = 6 ∨ wd = 7 ∨ wd = 8 := by omega
      rcases hw with rfl | rfl | rfl | rfl | rfl | rfl <;> split <;> omega
    clear ho
    go_enter Try.func35, Try.ntmps35
    go_wp2_with fail
    go_loopw [5, 6] (fun n l wr => ∃ j : Nat, j ≤ 2 ∧ n = .int .i64 ((s : Int) + j) ∧ l = .int .i64 ((s : Int) - j * (wd - 1)) ∧ (0 < j → ((j : Int) - 1) * (wd - 1) < s) ∧ Below w.heap.size w wr ∧ wr.cell? ⟨w.heap.size, 1, none⟩ = some (.int .i64 wd))
      (fun _ l _ => (RowKit.intOf l).toNat)
    case atStart => exact ⟨0, by omega, by simp, by simp, fun h => absurd h (by omega), (Below.refl _ _).alloc (Nat.le_refl _) _, cell_new rfl rfl⟩
    case round =>
      obtain ⟨j, hj, rfl, rfl, hpos, hb, hc⟩ := hrel
      have hj3 : j = 0 ∨ j = 1 ∨ j = 2 := by omega
      rcases hj3 with rfl | rfl | rfl
      · have q1 : (0 : Int) < (s : Int) - 0 * (wd - 1) := by omega
        go_wp2_with fail
        go_roundw
        case rel => exact ⟨1, by omega, by congr 1, by congr 1; omega, fun _ => by omega, hb, hc⟩
        case measure => simp [RowKit.intOf]; omega
      · by_cases q : (s : Int) ≤ wd - 1
        · rw [if_pos q] at hd
          have hpar : ((s : Int) + 1) % 2 = 0 ∨ ((s : Int) + 1) % 2 = 1 := by omega
          rcases hpar with hpar | hpar
          all_goals
            go_wp2_with fail
            go_ret
            refine ⟨ret_int ?_, hb⟩
            rw [ht.out, hd.out]; omega
        · go_wp2_with fail
          go_roundw
          case rel => exact ⟨2, by omega, by congr 1, by congr 1; omega, fun _ => by omega, hb, hc⟩
          case measure => simp [RowKit.intOf]; omega
      · have q : ¬ (s : Int) ≤ wd - 1 := by have := hpos (by omega); omega
        rw [if_neg q] at hd
        have hpar : ((s : Int) + 2) % 2 = 0 ∨ ((s : Int) + 2) % 2 = 1 := by omega
        rcases hpar with hpar | hpar
        all_goals
          go_wp2_with fail
          go_ret
          refine ⟨ret_int ?_, hb⟩
          rw [ht.out, hd.out]; omega
end Go.Proofs.Ytefhmemmfajbfaa
