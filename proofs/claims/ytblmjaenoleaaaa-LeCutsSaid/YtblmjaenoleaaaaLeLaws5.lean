/-
  The walk of LeCuts.
-/
import Derived.Test.YtblmjaenoleaaaaLeLaws4
import Derived.Deep.DeepCutAuto
namespace Go.Proofs.Ytblmjaenoleaaaa
open Go.RowKit
set_option linter.unusedVariables false

theorem wp_region_cls {P : Program} {id : Nat} {Q : Exit → Act → World → Prop} {a : Act} {w : World} {l : List Oper} (C : World → Prop) (hm : P.follows .mixedOrders = true) (hB : Region.lexB .any l.toArray = true)
    (hC : C w.drew) (h : wpQuiet P l.toArray C (fun a' => ∀ w', C w' → Q .normal a' w') l a) : (Code.region id l.toArray true).wp P Q a w :=
  wp_region_quiet (C := C) hm hB hC (by simpa using h)

/-- The bytes zs lie in memory where slice A of n elements begins. -/
def BsAt (w : World) (A : Option Addr) (n : Nat) (zs : List Int) : Prop :=
  n ≤ zs.length ∧ (0 < n → ∃ b off, A = some ⟨b, off, none⟩ ∧ b < w.heap.size ∧ ∀ j, j < n → w.cell? ⟨b, off + j, none⟩ = some (.int .u8 (zs.getD j 0)) ∧ 0 ≤ zs.getD j 0 ∧ zs.getD j 0 ≤ 255)

theorem tk_ok {l : List UInt8} {p : Nat} {n : Int} (h0 : 0 ≤ n) (h1 : n ≤ (l.length : Int) - p) : tkErr l p n = 0 ∧ tkPos l p n = p + n.toNat ∧ tkStr l p n = (l.drop p).take n.toNat ∧ ((tkStr l p n).length : Int) = n := by
  have e : tkErr l p n = 0 := by unfold tkErr; rw [if_neg (by omega), if_neg (by omega)]
  have e2 : tkStr l p n = (l.drop p).take n.toNat := by unfold tkStr; rw [e]; rfl
  refine ⟨e, by unfold tkPos; rw [e]; rfl, e2, ?_⟩
  rw [e2, List.length_take, List.length_drop]
  omega

theorem cuts_any (l : List UInt8) (A : Option Addr) (n c : Nat) (zs : List Int) (w : World) (hz : BsAt w A n zs) (hn : n ≤ 9223372036854775807) (hl : l.length ≤ 9223372036854775807) :
    Calls Try.prog 6 #[str l, .slice A n c] w fun e w' => e = .returned (.bool true) ∧ Below w.heap.size w w' := by
  by_cases hlong : 3000 < l.length ∨ 100 < n
  · clear hz
    rcases hlong with hlong | hlong
    · go_enter Try.func6, Try.ntmps6
      go_wp2_with fail
      refine (awake_any _).mono ?_
      rintro e w1 ⟨rfl, hb1⟩
      go_wp2_with fail
      refine (awake_any _).mono ?_
      rintro e w2 ⟨rfl, hb2⟩
      go_wp2_with fail
      go_ret
      exact ⟨rfl, hb1.trans (hb2.mono hb1.size)⟩
    · by_cases h3 : 3000 < l.length
      all_goals
        go_enter Try.func6, Try.ntmps6
        go_wp2_with fail
        refine (awake_any _).mono ?_
        rintro e w1 ⟨rfl, hb1⟩
        go_wp2_with fail
        refine (awake_any _).mono ?_
        rintro e w2 ⟨rfl, hb2⟩
        go_wp2_with fail
        go_ret
        exact ⟨rfl, hb1.trans (hb2.mono hb1.size)⟩
  · have hl3 : l.length ≤ 3000 := by omega
    have hn3 : n ≤ 100 := by omega
    have HZ := Lib.hid hz
    clear hlong hz
    go_enter Try.func6, Try.ntmps6
    go_wp2_with fail
    refine (awake_any _).mono ?_
    rintro e w1 ⟨rfl, hb1⟩
    go_wp2_with fail
    refine (new_any l _ (by omega)).mono ?_
    rintro e w2 ⟨rfl, hR, hb2⟩
    have hB1 := hb1.size
    have hc2 := hb1.trans (hb2.mono hb1.size)
    generalize w1.heap.size = B at *
    have HR := Lib.hid hR
    clear hR hb1 hb2
    go_wp2
    go_loopw [6, 7] (fun g t wr => ∃ i p : Nat, i ≤ n ∧ p ≤ l.length ∧ t = .int .i64 i ∧ g = str (l.take p) ∧ RdAt wr B l p ∧ Below w.heap.size w wr) (fun _ t _ => n - (intOf t).toNat)
    case atStart => exact ⟨0, 0, Nat.zero_le _, Nat.zero_le _, rfl, by simp, HR.out, hc2⟩
    case round =>
      obtain ⟨i, p, hi, hp, rfl, rfl, hR, hb⟩ := hrel
      have HR2 := Lib.hid hR
      clear hR
      by_cases hlt : i < n
      · obtain ⟨b, off, eA, hbw, hcell⟩ := HZ.out.2 (by omega)
        subst eA
        obtain ⟨x0, x1, x2⟩ := hcell i hlt
        have y0 := (hb.cell (p := ⟨b, off + i, none⟩) hbw).trans x0
        have HC := Lib.hid hcell
        clear hcell x0
        generalize zs.getD i 0 = x at *
        have i0 : (0 : Int) ≤ i := by omega
        have i1 : (i : Int) < n := by omega
        go_wp2_with fail
        go_cut [8] (fun s8 wx => ∃ m : Int, s8 = .int .i64 m ∧ 0 ≤ m ∧ m ≤ (l.length : Int) - p ∧ RdAt wx B l p ∧ Below w.heap.size w wx)
        case first =>
          have hcls : ∃ C : World → Prop, C wr.drew ∧ (∀ W, C W → RdAt W B l p) ∧ (∀ W, C W → Below w.heap.size w W) ∧ (∀ W, C W → W.cell? ⟨b, off + i, none⟩ = some (.int .u8 x)) ∧ (∀ W k, C W → C (W.drewN k)) :=
            ⟨fun W => RdAt W B l p ∧ Below w.heap.size w W ∧ W.cell? ⟨b, off + i, none⟩ = some (.int .u8 x), ⟨HR2.out, hb.drew, y0⟩, fun _ h => h.1, fun _ h => h.2.1, fun _ h => h.2.2, fun _ k h => ⟨h.1.drewN k, below_drewN h.2.1 k, h.2.2⟩⟩
          obtain ⟨C, hC, hCR, hCB, f1, hCK⟩ := hcls
          refine wp_region_cls C (by kernel_rfl) (by kernel_rfl) hC ?_
          repeat (first
            | go_big_quiet_skip
            | (go_big_quiet_want
               go_big_quiet_op
               first
                 | go_big_quiet_on
                 | (apply Exists.intro
                    refine ⟨fun W hW => ?_, ?_⟩
                    · first
                        | exact rfl
                        | exact ⟨rfl, rfl⟩
                        | (have e0 := f1 W hW; simp only [e0, Result.andThen_ok]; done)
                        | (have e0 := f1 W hW; simp only [e0, Result.andThen_ok]; first | exact ⟨trivial, rfl⟩ | exact rfl | exact ⟨rfl, rfl⟩)
                        | (refine (left_any B p l W (hCR W hW)).mono ?_; rintro e w' ⟨rfl, k, rfl⟩; exact ⟨rfl, hCK _ _ hW⟩)
                    go_big_quiet_on)))
          refine wpQuiet_nil ?_
          intro w' hw'
          have r1 := hCR w' hw'
          have r2 := hCB w' hw'
          go_wp2_with fail
          go_meet
          exact ⟨min x ((l.length : Int) - p), rfl, by omega, by omega, r1, r2⟩
        case rest =>
          obtain ⟨m, rfl, m0, m1, hR3, hb3⟩ := hcut
          obtain ⟨k1, k2, k3, k4⟩ := tk_ok m0 m1
          have HR4 := Lib.hid hR3
          have K2 := Lib.hid k2
          have K3 := Lib.hid k3
          have hgl : (l.take p).length ≤ 3000 := by rw [List.length_take]; omega
          have htl : (tkStr l p m).length ≤ 3000 := by omega
          have hnext : l.take p ++ tkStr l p m = l.take (p + m.toNat) := by
            rw [k3, ← List.take_add]
          have HN := Lib.hid hnext
          have k5 : (((tkStr l p m).length : Int) != m) = false := by rw [k4]; simp
          clear hR3 hnext k2 k3 y0 x1 x2
          go_wp2_with fail
          refine (take_any B p l m _ HR4.out (by omega)).mono ?_
          rintro e w4 ⟨rfl, hR5, hG5⟩
          have HR5 := Lib.hid hR5
          have hb5 := Below.only hb3 hG5 hB1
          rw [k1]
          clear hR5 hG5 hb3 k1
          generalize tkStr l p m = t at *
          generalize hgg : l.take p = g at *
          have HGG := Lib.hid hgg
          clear hgg
          go_wp2_with fail
          go_roundw
          case rel =>
            refine ⟨i + 1, p + m.toNat, by omega, by omega, by go_num, ?_, by rw [← K2.out]; exact HR5.out, hb5⟩
            rw [← HN.out]
            exact congrArg Value.string (ByteArray.mk_append_mk g t)
          case measure => simp [intOf]; omega
      · have m1 : (l.length : Int) - p ≤ (l.length : Int) - p := Int.le_refl _
        have m0 : 0 ≤ (l.length : Int) - p := by omega
        obtain ⟨k1, k2, k3, k4⟩ := tk_ok m0 m1
        have hrest : tkStr l p ((l.length : Int) - p) = l.drop p := by
          rw [k3, List.take_of_length_le (by rw [List.length_drop]; omega)]
        have hpos : tkPos l p ((l.length : Int) - p) = l.length := by rw [k2]; omega
        have hjoin : l.take p ++ l.drop p = l := List.take_append_drop p l
        have hgl : (l.take p).length ≤ 3000 := by rw [List.length_take]; omega
        have hdl : (l.drop p).length ≤ 3000 := by rw [List.length_drop]; omega
        have HJ := Lib.hid hjoin
        have HP := Lib.hid hpos
        clear k2 k3 k4 hjoin hpos
        go_wp2_with fail
        refine (left_any B p l _ HR2.out).mono ?_
        rintro e w4 ⟨rfl, k, rfl⟩
        go_wp2_with fail
        refine (take_any B p l ((l.length : Int) - p) _ (HR2.out.drewN k) (by omega)).mono ?_
        rintro e w5 ⟨rfl, hR5, hG5⟩
        have HR5 := Lib.hid hR5
        have hb5 := Below.only (below_drewN hb k) hG5 hB1
        rw [k1, hrest]
        clear hR5 hG5 hrest k1
        generalize l.take p = g at *
        generalize l.drop p = t at *
        have q : ((ByteArray.mk g.toArray) ++ (ByteArray.mk t.toArray)).toList = l := by rw [ByteArray.mk_append_mk, ByteArray.toList_eq]; simpa using HJ.out
        go_wp2_with fail
        refine (left_any B _ l _ HR5.out).mono ?_
        rintro e w6 ⟨rfl, k6, rfl⟩
        rw [HP.out]
        go_wp2_with fail
        go_ret
        exact ⟨ret_bool (by simp), below_drewN hb5 _⟩
end Go.Proofs.Ytblmjaenoleaaaa
