/-
  The document's Do and the model's Read, side by side.
-/
import Derived.Test.YtckicdbiiepngaaRd8
import Derived.Test.YtckicdbiiepngaaRd9
import Derived.Test.YtckicdbiiepngaaRdA
import Derived.Test.YtckicdbiiepngaaRdB
import Derived.Test.YtckicdbiiepngaaRdC
namespace Go.Proofs.Ytckicdbiiepngaa
set_option linter.unusedVariables false
set_option linter.unusedSimpArgs false
open Go.RowKit Go.Maps Go.Lib Go.Shelf

theorem rdo_any {w : World} {cs : Array Value} {a : AllA} (h : RefW w cs a) (hs : Sane a) (x : MAct) (hx : x.Ok) :
    Calls Try.prog 11 #[.agg cs, .agg #[.int .u8 x.do_, .int .i64 x.id, .int .i64 x.off, .int .i64 x.n, .int .u8 x.fill.toNat]] w fun e w' => RdoP w cs (actA a x) e w' := by
  have h8 := Nat.mod_lt x.do_ (show 0 < 8 by omega)
  by_cases h4 : x.do_ % 8 ≤ 4
  · by_cases hid : x.id < 0 ∨ 31 < x.id
    · exact rdo_out h x hx h4 hid
    · have hid' : 0 ≤ x.id ∧ x.id ≤ 31 := by omega
      by_cases h3 : x.do_ % 8 < 3
      · exact rdo_w h hs x hx h3 hid'
      · by_cases e : x.do_ % 8 = 3
        · exact rdo_3 h hs x hx e hid'
        · exact rdo_4 h hs x hx (by omega) hid'
  · by_cases e5 : x.do_ % 8 = 5
    · exact rdo_5 h hs x hx e5
    · by_cases e6 : x.do_ % 8 = 6
      · exact rdo_6 h hs x hx e6
      · exact rdo_7 h hs x hx (by omega)

theorem MapT.txt_le {w : World} {b N : Nat} {D : DT} (h : MapT w b N D) (k : Int) : (txt D k).length ≤ 16384 := by
  obtain ⟨es, clock, _, F, _, rfl⟩ := h
  unfold txt
  simp only [DataW.atKey]
  generalize hf : List.find? _ _ = o
  cases o with
  | none => simp
  | some p =>
    have hp := List.mem_of_find?_eq_some hf
    obtain ⟨x, hx, rfl⟩ := List.mem_map.1 (mem_sorted.1 hp)
    obtain ⟨y, hy⟩ := F.reads x hx
    simp only
    rw [Go.WideElems.rg_of hy]
    obtain ⟨z, hz, e⟩ := Go.WideElems.rd_val hy
    obtain ⟨s, _, hsz, e2, _⟩ := rt_some (d := z.1) (ps := z.2) hz
    rw [e, e2]
    simp only [Array.length_toList]
    exact hsz
theorem ModAt.sane {w : World} {S : Nat → Prop} {b : Nat} {d : ModD} {N : Nat} (h : ModAt w S b d N) : Sane d.now := by
  obtain ⟨m1, A1, n1, c1, m2, A2, n2, c2, S1, S2, h1, h2, _⟩ := h
  obtain ⟨rs, hl, hr, _⟩ := h2
  exact ⟨by rw [← hr.len]; exact hr.few, hl.isMap, hl.txt_le⟩

/-- The objects that are meant. -/
def objA (a : AllA) (snap : Int) : Option DT := if snap = -1 then some a.live else match fstN a.ids snap with | some i => some (a.snaps.getD i (0, a.live)).2 | none => none
def rdR (a : AllA) (snap id off size : Int) : List UInt8 × Int :=
  if id < 0 ∨ 31 < id then ([], 1) else match objA a snap with
    | none => ([], 7)
    | some D => if has D (.int .i64 id) = false then ([], 7) else if off < 0 ∨ size < 0 then ([], 1) else (rd14 (txt D id) off size, 0)

set_option maxRecDepth 20000 in
theorem of_x {w : World} {S : Nat → Prop} {b : Nat} {d : ModD} {N : Nat} (h : ModAt w S b d N) (snap : Int) :
    Calls Try.prog 35 #[.pointer (some ⟨b, 0, none⟩), .int .i64 snap] w fun e w' => ((∃ m D, e = .returned (.tuple #[.map (some m), .int .i64 0]) ∧ objA d.now snap = some D ∧ MapT w' m N D) ∨ (e = .returned (.tuple #[.map none, .int .i64 7]) ∧ objA d.now snap = none)) ∧ Below w.heap.size w w' := by
  by_cases hs : snap = -1
  · subst hs
    obtain ⟨m, cs, hb, h0, hm, _⟩ := h.live_at
    exact (of_live (hb.at_ h0)).mono fun e w' ⟨he, hw⟩ => by
      subst hw
      exact ⟨.inl ⟨m, _, he, by unfold objA; rw [if_pos rfl], hm⟩, Below.refl _ _⟩
  · have hsb : (snap == -1) = false := beq_eq_false_iff_ne.2 hs
    have HS := Lib.hid hs
    have HF := Lib.hid (find_x h snap)
    have H := Lib.hid h
    clear h hs
    go_enter Try.func35, Try.ntmps35
    go_wp2_with fail
    refine HF.out.mono ?_
    rintro e w1 ⟨rfl, hb1⟩
    have HB1 := Lib.hid hb1
    rcases fstI_or d.now.ids snap with ⟨hf, he⟩ | ⟨i, hf, he⟩
    · rw [he]
      have HN : Hid (objA d.now snap = none) := Lib.hid (by unfold objA; rw [if_neg HS.out, hf])
      clear hf he hb1
      go_wp2_with fail
      go_ret2
      exact ⟨.inr ⟨rfl, HN.out⟩, HB1.out⟩
    · rw [he]
      have hi := ids_get hf
      have h := H.out.below hb1
      obtain ⟨m1, A1, n1, c1, m2, A2, n2, c2, S1, S2, h1, h2, h3, h4, h5, h6, h7⟩ := h
      obtain ⟨rs, hl, hr, hm1, hrs, hrb, hnd⟩ := h2
      obtain ⟨A1', c1', hee⟩ := hr.form
      cases hee
      have hir : i < rs.length := by rw [hr.len]; exact hi
      obtain ⟨r, hri⟩ : ∃ r, rs[i]? = some r := ⟨_, List.getElem?_eq_getElem hir⟩
      obtain ⟨p, hpi⟩ : ∃ p, d.now.snaps[i]? = some p := ⟨_, List.getElem?_eq_getElem hi⟩
      obtain ⟨g1, rfl⟩ : ∃ gv, A1 = some ⟨gv, 0, none⟩ := by
        rcases hr.row.2 with ⟨_, h0⟩ | ⟨b, cap, cur, he, _⟩
        · omega
        · cases he; exact ⟨b, rfl⟩
      have a2 := hr.row.cells (g := g1) rfl _ _ (rowC_at rs i r hri).2
      rw [Addr.add_mid, Nat.zero_add] at a2
      have k1 := h1.at_ (i := 1) rfl
      have hmp := hr.maps i r p hri hpi
      have HMP := Lib.hid hmp
      have few := hr.few
      have HRO : Hid (objA d.now snap = some p.2) := Lib.hid (by unfold objA; rw [if_neg HS.out, hf]; simp only; rw [List.getD_eq_getElem?_getD, hpi]; rfl)
      have hdi : decide (i < rs.length) = true := decide_eq_true hir
      clear hf he hb1 h1 hl hr hm1 hrs hrb hnd hi hri hpi hmp h3 h4 h5 h6 h7
      go_wp2_with fail
      go_ret2
      exact ⟨.inl ⟨_, _, rfl, HRO.out, HMP.out⟩, HB1.out⟩

set_option maxRecDepth 20000 in
theorem mread_x {w : World} {S : Nat → Prop} {b : Nat} {d : ModD} {N : Nat} (h : ModAt w S b d N) (snap id off size : Int) (o1 : -9223372036854775808 ≤ off) (o2 : off ≤ 9223372036854775807) (s1 : -9223372036854775808 ≤ size) (s2 : size ≤ 9223372036854775807) :
    Calls Try.prog 12 #[.pointer (some ⟨b, 0, none⟩), .int .i64 snap, .int .i64 id, .int .i64 off, .int .i64 size] w fun e w' => e = .returned (.tuple #[str (rdR d.now snap id off size).1, .int .i64 (rdR d.now snap id off size).2]) ∧ Below w.heap.size w w' := by
  have HO := Lib.hid (of_x h snap)
  clear h
  obtain ⟨R, hR⟩ : ∃ R, R = rdR d.now snap id off size := ⟨_, rfl⟩
  rw [← hR]
  have HR := Lib.hid hR
  have HB := Lib.hid (And.intro (And.intro o1 o2) (And.intro s1 s2))
  clear hR o1 o2 s1 s2
  go_enter Try.func12, Try.ntmps12
  go_wp2_with fail
  refine (may_any b id w).mono ?_
  rintro e w1 ⟨rfl, rfl⟩
  by_cases hid : id < 0 ∨ 31 < id
  · have hme : mayE id = 1 := by unfold mayE; rw [if_pos (by omega)]
    have HRR : Hid (R = ([], 1)) := Lib.hid (by rw [HR.out]; unfold rdR; rw [if_pos hid])
    rw [hme]
    clear hme hid
    go_wp2_with fail
    go_ret2
    exact ⟨by rw [HRR.out]; rfl, Below.refl _ _⟩
  · have hme : mayE id = 0 := by unfold mayE; rw [if_neg (by omega)]
    have HID := Lib.hid hid
    rw [hme]
    clear hme hid
    go_wp2_with fail
    refine HO.out.mono ?_
    rintro e w1 ⟨⟨m, D, rfl, hobj, hmt⟩ | ⟨rfl, hobj⟩, hb1⟩
    · have HB1 := Lib.hid hb1
      have HRR : Hid (R = if has D (.int .i64 id) = false then ([], 7) else if off < 0 ∨ size < 0 then ([], 1) else (rd14 (txt D id) off size, 0)) := Lib.hid (by rw [HR.out]; unfold rdR; rw [if_neg HID.out, hobj])
      have hlk := (hmt.look_ok (k := id) (wfz_in (by have := HID.out; omega) (by have := HID.out; omega))).1
      have HLE := Lib.hid (hmt.txt_le id)
      clear hb1 hobj hmt
      cases hh : has D (.int .i64 id) with
      | false =>
        rw [hh] at hlk
        have HF : Hid (R = ([], 7)) := Lib.hid (by rw [HRR.out, if_pos hh])
        clear hh
        go_wp2_with fail
        go_ret2
        exact ⟨by rw [HF.out]; rfl, HB1.out⟩
      | true =>
        rw [hh] at hlk
        have HR2 : Hid (R = if off < 0 ∨ size < 0 then ([], 1) else (rd14 (txt D id) off size, 0)) := Lib.hid (by rw [HRR.out, if_neg (by rw [hh]; decide)])
        clear hh
        obtain ⟨t, ht⟩ : ∃ t, t = txt D id := ⟨_, rfl⟩
        rw [← ht] at hlk HR2 HLE
        clear ht
        by_cases ho : off < 0
        · have do1 : decide (off < 0) = true := decide_eq_true ho
          have HF : Hid (R = ([], 1)) := Lib.hid (by rw [HR2.out, if_pos (.inl ho)])
          go_wp2_with fail
          go_ret2
          exact ⟨by rw [HF.out]; rfl, HB1.out⟩
        · have do1 : decide (off < 0) = false := decide_eq_false ho
          by_cases hs : size < 0
          · have ds1 : decide (size < 0) = true := decide_eq_true hs
            have HF : Hid (R = ([], 1)) := Lib.hid (by rw [HR2.out, if_pos (.inr hs)])
            go_wp2_with fail
            go_ret2
            exact ⟨by rw [HF.out]; rfl, HB1.out⟩
          · have ds1 : decide (size < 0) = false := decide_eq_false hs
            have HR3 : Hid (R = (rd14 t off size, 0)) := Lib.hid (by rw [HR2.out, if_neg (by omega)])
            obtain ⟨p, rfl⟩ : ∃ p : Nat, off = p := ⟨off.toNat, by omega⟩
            obtain ⟨q, rfl⟩ : ∃ q : Nat, size = q := ⟨size.toNat, by omega⟩
            by_cases hl : t.length ≤ p
            · have hl2 : ¬ (p < t.length) := by omega
              have HF : Hid (R = ([], 0)) := Lib.hid (by rw [HR3.out]; unfold rd14; rw [if_pos (by omega)])
              go_wp2_with fail
              go_ret2
              exact ⟨by rw [HF.out]; rfl, HB1.out⟩
            · obtain ⟨m', hm⟩ : ∃ m : Nat, m = min q (t.length - p) := ⟨_, rfl⟩
              have HE : Hid (rd14 t p q = (t.drop p).take m') := Lib.hid (by unfold rd14; rw [if_neg (by omega), hm]; congr 1; omega)
              have hlen := HLE.out
              have hsl : ∀ W, (Instr.slice 9 (str t) (some (.int .i64 p)) (some (.int .i64 ((p : Int) + min (q : Int) ((t.length : Int) - (p : Int))))) none).run Try.prog W = .ok (str ((t.drop p).take m')) W := fun W => by
                have hb1 : p + m' ≤ (ByteArray.mk t.toArray).size := by simp [ByteArray.size]; omega
                have he : (p : Int) + min (q : Int) ((t.length : Int) - (p : Int)) = ((p + m' : Nat) : Int) := by omega
                rw [he, run_slice_string_if W _ _ _ _ _ _ Try.underlying9, if_pos ⟨by omega, by omega⟩, if_pos ⟨by omega, by omega⟩]
                rw [Int.toNat_natCast, Int.toNat_natCast, ext_str]
              have q1 : (p : Int) ≤ 9223372036854775807 := HB.out.1.2
              have q2 : (q : Int) ≤ 9223372036854775807 := HB.out.2.2
              clear hm
              go_wp2_with fail
              go_ret2
              exact ⟨by rw [HR3.out, HE.out]; rfl, HB1.out⟩
    · have HB1 := Lib.hid hb1
      have HRR : Hid (R = ([], 7)) := Lib.hid (by rw [HR.out]; unfold rdR; rw [if_neg HID.out, hobj])
      clear hb1 hobj
      go_wp2_with fail
      go_ret2
      exact ⟨by rw [HRR.out]; rfl, HB1.out⟩
end Go.Proofs.Ytckicdbiiepngaa
