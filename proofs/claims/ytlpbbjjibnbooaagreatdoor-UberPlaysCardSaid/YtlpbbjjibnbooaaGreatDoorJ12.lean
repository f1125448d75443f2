/-
  Contracts of package le and of its reference: numbers in bytes.
  Contracts of package le, second part: Pad, its reference, the document's example.
  What pointers' functions call: cmp.Compare, cmp.Or, ptr.within, ptr.small, fletch.Bytes.
  Contracts of package ptr: None, Less, Places, Bytes.
  An argument that is a pointer, opened.
  Arguments that are four pointers, or a node, opened.
  An argument that is an uberblock, opened.
-/
import Derived.Test.YtlpbbjjibnbooaaGreatDoorRows
import Derived.Test.YtlpbbjjibnbooaaGreatDoorJ01
import Derived.Test.YtlpbbjjibnbooaaGreatDoorShelf
import Derived.StillTailTactics
import Derived.Laws.IdiomArrays
namespace Go.Proofs.YtlpbbjjibnbooaaGreatDoor
open Go.RowKit
set_option linter.unusedVariables false

/-- The n lowest bytes of x. -/
def layL (x : Nat) (n : Nat) : List UInt8 := (List.range n).map fun i => UInt8.ofNat (x / 256 ^ i)
theorem layL_succ (x n : Nat) : layL x (n + 1) = layL x n ++ [UInt8.ofNat (x / 256 ^ n)] := by simp [layL, List.range_succ]
theorem layL_len (x n : Nat) : (layL x n).length = n := by simp [layL]

theorem Tryz.infoByte : (Tryz.prog.info? 5).map (fun i => (i.zero, i.size, i.bytes)) = some (some (.int .u8 0), 1, 1) := by kernel_rfl

theorem byte_of (x k : Nat) : ((UInt8.ofNat (x / 256 ^ k)).toNat : Int) = (x : Int) / 2 ^ (8 * k) % 256 := by
  rw [UInt8.toNat_ofNat', show (256 : Nat) ^ k = 2 ^ (8 * k) from by rw [Nat.pow_mul]]
  simp
theorem byte_new (w : World) (u : Value) (t : TypeId) : ∀ j v, [u][j]? = some v → (w.alloc (.cells #[u] t)).cell? ((⟨w.heap.size, 0, none⟩ : Addr).add j) = some v := by
  intro j v hj
  match j, hj with
  | 0, hj => simp at hj; subst hj; simp [Addr.add]

theorem laid_any (x n : Nat) (w : World) (hx : x < 18446744073709551616) (hn : n ≤ 8) (hn0 : 0 < n) :
    Calls Tryz.prog 104 #[.int .u64 x, .int .i64 n] w fun e w' => e = .returned (str (layL x n)) ∧ Below w.heap.size w w' := by
  obtain ⟨i0, hi, hz0, hz1, hz2⟩ := info_parts Tryz.infoByte
  have HX := Lib.hid hx
  clear hx
  go_enter Tryz.func104, Tryz.ntmps104
  go_wp2
  go_loopw [5, 8] (fun v t wr => ∃ k : Nat, k ≤ n ∧ t = .int .i64 k ∧ wr.ownsRow w.heap.size 5 1 v k ((layL x k).map fun b => .int .u8 b.toNat) ∧ Below w.heap.size w wr) (fun _ t _ => n - (RowKit.intOf t).toNat)
  case atStart => exact ⟨0, Nat.zero_le _, rfl, World.ownsRow_nil _ _ _ _, Below.refl _ _⟩
  case round =>
    obtain ⟨k, hk, rfl, hown, hb⟩ := hrel
    by_cases hlt : k < n
    · go_wp2_with (at_builtin; refine wpList_append_own _ rfl _ _ 43 rfl w.heap.size 5 i0 _ 1 1 Tryz.underlying43 hi hz0 hz1 hz2 rfl (by decide) _ _ _ rfl (hown.alloc _) ⟨wr.heap.size, 0, none⟩ 1 1 [.int .u8 ((x : Int) / 2 ^ (8 * k) % 256)] rfl rfl ?c1 ?c2 (by unfold maxLen; omega) (by omega) ?c5 ?_)
      case c1 => exact byte_new _ _ _
      case c2 => intro u hu; simp at hu; subst hu; rfl
      case c5 => have := hb.size; simp; omega
      intro v' w1 hown' hgrow _
      have hown2 : w1.ownsRow w.heap.size 5 1 v' (k + 1) ((layL x (k + 1)).map fun b => .int .u8 b.toNat) := by
        rw [layL_succ, List.map_append]
        simp only [List.map_cons, List.map_nil, byte_of]
        exact hown'
      have hb2 : Below w.heap.size w w1 := (hb.alloc hb.size _).grown hgrow (by have := hb.size; simp; omega) (fun k hk => (hown.lt k hk).1)
      clear hown hown' hgrow
      go_wp2_with fail
      go_roundw
      case rel => exact ⟨k + 1, by omega, by go_num, hown2, hb2⟩
      case measure => simp [RowKit.intOf]; omega
    · obtain rfl : k = n := by omega
      obtain ⟨g, cap, rfl, _, _⟩ := hown.form hn0
      have hE : (convert 43 9 (.slice (some ⟨g, 0, none⟩) k cap)).run Tryz.prog wr = .ok (str (layL x k)) wr := by
        have := run_convert_bytes_back (P := Tryz.prog) wr 43 9 5 ⟨g, 0, none⟩ cap (layL x k) Tryz.underlying43 Tryz.underlying5 Tryz.underlying9
          (fun j hj => hown.cells rfl j _ (by rw [List.getElem?_map, List.getElem?_eq_getElem hj]; rfl))
        rw [layL_len] at this
        exact this
      clear hown
      go_wp2_with fail
      go_ret
      exact ⟨rfl, hb⟩

theorem u64_any (x : Nat) (w : World) (hx : x < 18446744073709551616) :
    Calls Tryz.prog 67 #[.int .u64 x] w fun e w' => e = .returned (str (layL x 8)) ∧ Below w.heap.size w w' := by
  go_enter Tryz.func67, Tryz.ntmps67
  go_wp2_with fail
  refine (laid_any x 8 _ hx (by omega) (by omega)).mono ?_
  rintro e w1 ⟨rfl, hb⟩
  go_wp2_with fail
  go_ret
  exact ⟨rfl, hb⟩

def u32L (n : Int) : List UInt8 := if 0 ≤ n ∧ n ≤ 4294967295 then layL n.toNat 4 else []
def intL (n : Int) : List UInt8 := if 0 ≤ n ∧ n ≤ 4611686018427387903 then layL n.toNat 8 else []

theorem u32_any (n : Int) (w : World) : Calls Tryz.prog 69 #[.int .i64 n] w fun e w' => e = .returned (str (u32L n)) ∧ Below w.heap.size w w' := by
  by_cases h : 0 ≤ n ∧ n ≤ 4294967295
  · obtain ⟨h1, h2⟩ := h
    obtain ⟨k, rfl⟩ := Int.eq_ofNat_of_zero_le h1
    have he : Hid (u32L k = layL k 4) := by unfold Hid u32L; rw [if_pos ⟨h1, h2⟩]; rfl
    go_enter Tryz.func69, Tryz.ntmps69
    go_wp2_with fail
    refine (laid_any k 4 _ (by omega) (by omega) (by omega)).mono ?_
    rintro e w1 ⟨rfl, hb⟩
    go_wp2_with fail
    go_ret
    exact ⟨ret_str he.out.symm, hb⟩
  · have he : Hid (u32L n = []) := by unfold Hid u32L; rw [if_neg h]
    go_enter Tryz.func69, Tryz.ntmps69
    go_wp2_with fail
    all_goals go_ret
    all_goals exact ⟨ret_str he.out.symm, Below.refl _ _⟩

theorem int_any (n : Int) (w : World) : Calls Tryz.prog 26 #[.int .i64 n] w fun e w' => e = .returned (str (intL n)) ∧ Below w.heap.size w w' := by
  by_cases h : 0 ≤ n ∧ n ≤ 4611686018427387903
  · obtain ⟨h1, h2⟩ := h
    obtain ⟨k, rfl⟩ := Int.eq_ofNat_of_zero_le h1
    have he : Hid (intL k = layL k 8) := by unfold Hid intL; rw [if_pos ⟨h1, h2⟩]; rfl
    go_enter Tryz.func26, Tryz.ntmps26
    go_wp2_with fail
    refine (u64_any k _ (by omega)).mono ?_
    rintro e w1 ⟨rfl, hb⟩
    go_wp2_with fail
    go_ret
    exact ⟨ret_str he.out.symm, hb⟩
  · have he : Hid (intL n = []) := by unfold Hid intL; rw [if_neg h]
    go_enter Tryz.func26, Tryz.ntmps26
    go_wp2_with fail
    all_goals go_ret
    all_goals exact ⟨ret_str he.out.symm, Below.refl _ _⟩

theorem conv_one (y : Nat) (W : World) : (convert 43 9 (.slice (some ⟨W.heap.size, 0, none⟩) 1 1)).run Tryz.prog (W.alloc (.cells #[.int .u8 ((y : Int) % 256)] 5)) =
    .ok (str [UInt8.ofNat y]) (W.alloc (.cells #[.int .u8 ((y : Int) % 256)] 5)) := by
  refine run_convert_bytes_back (P := Tryz.prog) (W.alloc (.cells #[.int .u8 ((y : Int) % 256)] 5)) 43 9 5 ⟨W.heap.size, 0, none⟩ 1 [UInt8.ofNat y] Tryz.underlying43 Tryz.underlying5 Tryz.underlying9 (fun j hj => ?_)
  have hj0 : j = 0 := by simpa using hj
  subst hj0
  have := byte_new W (.int .u8 ((y : Int) % 256)) 5 0 _ rfl
  rw [this]
  simp

theorem lay_any (x n : Nat) (w : World) (hx : x < 18446744073709551616) (hn : n ≤ 8) :
    Calls Tryz.prog 88 #[.int .u64 x, .int .i64 n] w fun e w' => e = .returned (str (layL x n)) ∧ Below w.heap.size w w' := by
  have HX := Lib.hid hx
  clear hx
  go_enter Tryz.func88, Tryz.ntmps88
  go_wp2
  go_loopw [0, 5, 6] (fun y v t wr => ∃ k : Nat, k ≤ n ∧ t = .int .i64 k ∧ v = str (layL x k) ∧ y = .int .u64 (x / 256 ^ k : Nat) ∧ Below w.heap.size w wr) (fun _ _ t _ => n - (RowKit.intOf t).toNat)
  case atStart => exact ⟨0, Nat.zero_le _, rfl, rfl, by simp, Below.refl _ _⟩
  case round =>
    obtain ⟨k, hk, rfl, rfl, rfl, hb⟩ := hrel
    have hy : x / 256 ^ k < 18446744073709551616 := Nat.lt_of_le_of_lt (Nat.div_le_self _ _) HX.out
    generalize hyy : x / 256 ^ k = y at *
    have HY := Lib.hid hyy
    clear hyy
    by_cases hlt : k < n
    · have hE := conv_one y
      have hl : (layL x k).length ≤ 8 := by rw [layL_len]; omega
      go_wp2_with fail
      go_roundw
      case rel =>
        refine ⟨k + 1, by omega, by go_num, ?_, ?_, hb.alloc hb.size _⟩
        · rw [layL_succ, HY.out]
          exact congrArg Value.string (ByteArray.mk_append_mk (layL x k) [UInt8.ofNat y])
        · have : x / 256 ^ (k + 1) = y / 256 := by rw [← HY.out, Nat.pow_succ, Nat.div_div_eq_div_mul]
          rw [this]; go_num
      case measure => simp [RowKit.intOf]; omega
    · obtain rfl : k = n := by omega
      go_wp2_with fail
      go_ret
      exact ⟨rfl, hb⟩

theorem refU32_any (n : Int) (w : World) : Calls Tryz.prog 90 #[.int .i64 n] w fun e w' => e = .returned (str (u32L n)) ∧ Below w.heap.size w w' := by
  by_cases h : 0 ≤ n ∧ n ≤ 4294967295
  · obtain ⟨h1, h2⟩ := h
    obtain ⟨k, rfl⟩ := Int.eq_ofNat_of_zero_le h1
    have he : Hid (u32L k = layL k 4) := by unfold Hid u32L; rw [if_pos ⟨h1, h2⟩]; rfl
    go_enter Tryz.func90, Tryz.ntmps90
    go_wp2_with fail
    refine (lay_any k 4 _ (by omega) (by omega)).mono ?_
    rintro e w1 ⟨rfl, hb⟩
    go_wp2_with fail
    go_ret
    exact ⟨ret_str he.out.symm, hb⟩
  · have he : Hid (u32L n = []) := by unfold Hid u32L; rw [if_neg h]
    go_enter Tryz.func90, Tryz.ntmps90
    go_wp2_with fail
    all_goals go_ret
    all_goals exact ⟨ret_str he.out.symm, Below.refl _ _⟩

theorem refInt_any (n : Int) (w : World) : Calls Tryz.prog 48 #[.int .i64 n] w fun e w' => e = .returned (str (intL n)) ∧ Below w.heap.size w w' := by
  by_cases h : 0 ≤ n ∧ n ≤ 4611686018427387903
  · obtain ⟨h1, h2⟩ := h
    obtain ⟨k, rfl⟩ := Int.eq_ofNat_of_zero_le h1
    have he : Hid (intL k = layL k 8) := by unfold Hid intL; rw [if_pos ⟨h1, h2⟩]; rfl
    go_enter Tryz.func48, Tryz.ntmps48
    go_wp2_with fail
    refine (lay_any k 8 _ (by omega) (by omega)).mono ?_
    rintro e w1 ⟨rfl, hb⟩
    go_wp2_with fail
    go_ret
    exact ⟨ret_str he.out.symm, hb⟩
  · have he : Hid (intL n = []) := by unfold Hid intL; rw [if_neg h]
    go_enter Tryz.func48, Tryz.ntmps48
    go_wp2_with fail
    all_goals go_ret
    all_goals exact ⟨ret_str he.out.symm, Below.refl _ _⟩

theorem ba_size (l : List UInt8) : (ByteArray.mk l.toArray).size = l.length := by simp [ByteArray.size]
theorem ba_get {l : List UInt8} {k : Nat} (h : k < (ByteArray.mk l.toArray).size) : (ByteArray.mk l.toArray)[k] = l[k]'(by rw [ba_size] at h; exact h) := by
  simp [ByteArray.getElem_eq_getElem_data]
def allZ (l : List UInt8) : Bool := l.all (· == 0)
theorem zeros_any (l : List UInt8) (w : World) (hl : l.length ≤ 9223372036854775807) :
    Calls Tryz.prog 57 #[str l] w fun e w' => e = .returned (.bool (allZ l)) ∧ w = w' := by
  go_enter Tryz.func57, Tryz.ntmps57
  go_wp2
  go_loop [3] (fun t => ∃ k : Nat, k ≤ l.length ∧ t = .int .i64 k ∧ ∀ j, j < k → ∀ x, l[j]? = some x → x = 0) (fun t => l.length - (RowKit.intOf t).toNat)
  case atStart => exact ⟨0, Nat.zero_le _, rfl, fun j hj => absurd hj (by omega)⟩
  case round =>
    obtain ⟨k, hk, rfl, hno⟩ := hrel
    have HN := Lib.hid hno
    clear hno
    by_cases hlt : k < l.length
    · go_wp2_with fail
      · have hq : ((((ByteArray.mk l.toArray)[k]'(by rw [ba_size]; exact hlt)).toNat : Int) != 0) = true := by assumption
        rw [ba_get] at hq
        go_ret
        refine ⟨ret_bool ?_, rfl⟩
        symm
        unfold allZ
        rw [List.all_eq_false]
        exact ⟨l[k], List.getElem_mem hlt, by intro h; have h' : l[k] = 0 := by simpa using h
                                              rw [h'] at hq; simp at hq⟩
      · have hq : ((((ByteArray.mk l.toArray)[k]'(by rw [ba_size]; exact hlt)).toNat : Int) != 0) = false := by assumption
        rw [ba_get] at hq
        go_round
        case rel =>
          refine ⟨k + 1, by omega, by go_num, fun j hj x hx => ?_⟩
          rcases Nat.lt_or_ge j k with h | h
          · exact HN.out j h x hx
          · obtain rfl : j = k := by omega
            rw [List.getElem?_eq_getElem hlt] at hx
            injection hx with hx
            rw [hx] at hq
            have h0 : x.toNat = 0 := by simpa using hq
            exact UInt8.toNat_inj.1 (by simpa using h0)
        case measure => simp [RowKit.intOf]; omega
    · go_wp2_with fail
      go_ret
      refine ⟨ret_bool ?_, rfl⟩
      symm
      unfold allZ
      rw [List.all_eq_true]
      intro x hx
      obtain ⟨j, hj, e⟩ := List.getElem_of_mem hx
      have := HN.out j (by omega) x (by rw [List.getElem?_eq_getElem hj, e])
      simp [this]
end Go.Proofs.YtlpbbjjibnbooaaGreatDoor

namespace Go.Proofs.YtlpbbjjibnbooaaGreatDoor
open Go.RowKit
set_option linter.unusedVariables false

theorem repeat_one (x : UInt8) : ∀ n, Lib.repeatL [x] n = List.replicate n x
  | 0 => rfl
  | n + 1 => by rw [Lib.repeatL, repeat_one x n]; rfl

def padN (len t : Nat) : Nat := (t - len % t) % t
def padL (l : List UInt8) (tt : Int) : List UInt8 := if 1 ≤ tt ∧ tt ≤ 4096 then l ++ List.replicate (padN l.length tt.toNat) 0 else l
theorem padN_lt {len t : Nat} (h : 1 ≤ t) : padN len t < t := Nat.mod_lt _ (by omega)

theorem pad_any (l : List UInt8) (tt : Int) (w : World) (hl : l.length ≤ 140737488351232) :
    Calls Tryz.prog 25 #[str l, .int .i64 tt] w fun e w' => e = .returned (str (padL l tt)) ∧ Below w.heap.size w w' := by
  by_cases h : 1 ≤ tt ∧ tt ≤ 4096
  · obtain ⟨h1, h2⟩ := h
    obtain ⟨t, rfl⟩ := Int.eq_ofNat_of_zero_le (show 0 ≤ tt by omega)
    have he : Hid (padL l t = l ++ List.replicate (padN l.length t) 0) := by unfold Hid padL; rw [if_pos ⟨h1, h2⟩]; simp
    have hk := padN_lt (len := l.length) (t := t) (by omega)
    have r1 : (0 : Int) ≤ (l.length : Int) % t := Int.emod_nonneg _ (by omega)
    have r2 : (l.length : Int) % t < t := Int.emod_lt_of_pos _ (by omega)
    have r3 : (t - (l.length : Int) % t) % t = (padN l.length t : Nat) := by
      unfold padN
      have : l.length % t < t := Nat.mod_lt _ (by omega)
      rw [Int.natCast_emod, Int.natCast_sub (by omega), Int.natCast_emod]
    have r3' : -((l.length : Int) % t) % t = (padN l.length t : Nat) := by rw [← r3]; simp
    have R3 := Lib.hid r3'
    have hd : (Lib.repeatL (⟨#[0]⟩ : ByteArray).data.toList (padN l.length t)) = List.replicate (padN l.length t) 0 := repeat_one 0 _
    have HD := Lib.hid hd
    clear r3 r3' hd
    go_enter Tryz.func25, Tryz.ntmps25
    go_wp2_with fail
    rw [R3.out]
    refine (Tryz.strings_Repeat ⟨#[0]⟩ (padN l.length t) _ (by omega) (by show 1 * _ ≤ _; omega)).mono ?_
    rintro e w1 ⟨rfl, hb⟩
    rw [HD.out]
    go_wp2_with fail
    go_ret
    refine ⟨?_, hb⟩
    rw [he.out]
    exact congrArg (fun b => Ending.returned (Value.string b)) (ByteArray.mk_append_mk l (List.replicate (padN l.length t) 0))
  · have he : Hid (padL l tt = l) := by unfold Hid padL; rw [if_neg h]
    go_enter Tryz.func25, Tryz.ntmps25
    go_wp2_with fail
    all_goals go_ret
    all_goals exact ⟨ret_str he.out.symm, Below.refl _ _⟩

theorem padTo_step (l : List UInt8) (t k : Nat) (h1 : 1 ≤ t) (hk : k ≤ padN l.length t) : (l.length + k) % t = 0 ↔ k = padN l.length t := by
  have hm : l.length % t < t := Nat.mod_lt _ (by omega)
  unfold padN at *
  have hd := Nat.div_add_mod l.length t
  rcases Nat.eq_zero_or_pos (l.length % t) with h0 | h0
  · rw [h0, Nat.sub_zero, Nat.mod_self] at hk ⊢
    have : k = 0 := by omega
    subst this
    simp [h0]
  · rw [Nat.mod_eq_of_lt (by omega : t - l.length % t < t)] at hk ⊢
    constructor
    · intro h
      rcases Nat.lt_or_ge k (t - l.length % t) with hlt | hge
      · have e : (l.length + k) % t = (l.length % t + k) % t := by rw [Nat.mod_add_mod]
        rw [e, Nat.mod_eq_of_lt (by omega)] at h
        omega
      · omega
    · intro h
      rw [← Nat.mod_add_mod, h, show l.length % t + (t - l.length % t) = t from by omega, Nat.mod_self]

def strLen : Value → Nat
  | .string s => s.size
  | _ => 0
theorem refPad_any (l : List UInt8) (tt : Int) (w : World) (hl : l.length ≤ 140737488351232) :
    Calls Tryz.prog 50 #[str l, .int .i64 tt] w fun e w' => e = .returned (str (padL l tt)) ∧ Below w.heap.size w w' := by
  by_cases h : 1 ≤ tt ∧ tt ≤ 4096
  · obtain ⟨h1, h2⟩ := h
    obtain ⟨t, rfl⟩ := Int.eq_ofNat_of_zero_le (show 0 ≤ tt by omega)
    have he : Hid (padL l t = l ++ List.replicate (padN l.length t) 0) := by unfold Hid padL; rw [if_pos ⟨h1, h2⟩]; simp
    have hk := padN_lt (len := l.length) (t := t) (by omega)
    go_enter Tryz.func50, Tryz.ntmps50
    go_wp2_with fail
    go_loop [0] (fun v => ∃ k : Nat, k ≤ padN l.length t ∧ v = str (l ++ List.replicate k 0)) (fun v => padN l.length t - (strLen v - l.length))
    case atStart => exact ⟨0, Nat.zero_le _, by simp⟩
    case round =>
      obtain ⟨k, hk2, rfl⟩ := hrel
      have hs := padTo_step l t k (by omega) hk2
      have hml : (l ++ List.replicate k (0 : UInt8)).length = l.length + k := by simp
      have hcast : (((l ++ List.replicate k (0 : UInt8)).length : Int) % t) = ((l.length + k) % t : Nat) := by rw [hml]; simp
      have hmb : (l ++ List.replicate k (0 : UInt8)).length ≤ 140737488355400 := by rw [hml]; omega
      have hnext : (l ++ List.replicate k (0 : UInt8)) ++ [0] = l ++ List.replicate (k + 1) 0 := by rw [List.append_assoc, ← List.replicate_succ']
      by_cases hlt : k < padN l.length t
      · have hq : ((((l ++ List.replicate k (0 : UInt8)).length : Int) % t) != 0) = true := by
          rw [hcast, bne_iff_ne]; intro h; have := hs.1 (by exact_mod_cast h); omega
        have HN := Lib.hid hnext
        have HM := Lib.hid hml
        clear hs hcast hnext hml
        generalize l ++ List.replicate k (0 : UInt8) = m at *
        go_wp2_with fail
        go_round
        case rel =>
          refine ⟨k + 1, by omega, ?_⟩
          rw [← HN.out]
          exact congrArg Value.string (ByteArray.mk_append_mk m [0])
        case measure =>
          have e : strLen (Value.string ({ data := m.toArray } ++ { data := #[0] })) = m.length + 1 := by simp [strLen, ByteArray.size]
          have e2 : strLen (str m) = m.length := by simp [strLen, ByteArray.size]
          have := HM.out
          omega
      · have hq : ((((l ++ List.replicate k (0 : UInt8)).length : Int) % t) != 0) = false := by
          rw [hcast, bne_eq_false_iff_eq]; exact_mod_cast hs.2 (by omega)
        have hkN : k = padN l.length t := by omega
        have HE := Lib.hid hkN
        clear hs hcast hnext hml hkN
        generalize hm : l ++ List.replicate k (0 : UInt8) = m at *
        have HM := Lib.hid hm
        clear hm
        go_wp2_with fail
        go_ret
        exact ⟨ret_str (by rw [he.out, ← HM.out, HE.out]), Below.refl _ _⟩
  · have he : Hid (padL l tt = l) := by unfold Hid padL; rw [if_neg h]
    go_enter Tryz.func50, Tryz.ntmps50
    go_wp2_with fail
    all_goals go_ret
    all_goals exact ⟨ret_str he.out.symm, Below.refl _ _⟩

end Go.Proofs.YtlpbbjjibnbooaaGreatDoor

namespace Go.Proofs.YtlpbbjjibnbooaaGreatDoor
open Go.RowKit
set_option linter.unusedVariables false

/-- From b, off on lie these integers. -/
def IntsAt (w : World) (b off : Nat) (l : List Int) : Prop := b < w.heap.size ∧ ∀ (i : Nat) (x : Int), l[i]? = some x → w.cell? ⟨b, off + i, none⟩ = some (.int .i64 x)
theorem IntsAt.below {w w' : World} {b off B : Nat} {l : List Int} (h : IntsAt w b off l) (hb : Below B w w') (hB : w.heap.size ≤ B) : IntsAt w' b off l := by
  obtain ⟨h1, h2⟩ := h
  exact ⟨Nat.lt_of_lt_of_le h1 hb.size, fun i x hx => (hb.cell (p := ⟨b, off + i, none⟩) (by show b < B; omega)).trans (h2 i x hx)⟩
theorem IntsAt.new (w : World) (l : List Int) (t : TypeId) : IntsAt (w.alloc (.cells ((l.map (Value.int .i64)).toArray) t)) w.heap.size 0 l := by
  refine ⟨by simp, fun i x hx => ?_⟩
  exact cell_new rfl (by simp [hx])

def withinL (most : Int) (l : List Int) : Bool := l.all fun x => decide (0 ≤ x) && decide (x ≤ most)
theorem within_any (most : Int) (b n c : Nat) (l : List Int) (w : World) (hl : l.length = n) (hn : n ≤ 100) (h : IntsAt w b 0 l) :
    Calls Tryz.prog 95 #[.int .i64 most, .slice (some ⟨b, 0, none⟩) n c] w fun e w' => e = .returned (.bool (withinL most l)) ∧ ∃ q, w' = w.drewN q := by
  have H := Lib.hid h
  have HL := Lib.hid hl
  clear h hl
  go_enter Tryz.func95, Tryz.ntmps95
  go_wp2
  go_loopw [9] (fun t wr => ∃ k : Nat, k ≤ n ∧ t = .int .i64 k ∧ (∀ j x, j < k → l[j]? = some x → 0 ≤ x ∧ x ≤ most) ∧ ∃ q, wr = w.drewN q) (fun t _ => n - (RowKit.intOf t).toNat)
  case atStart => exact ⟨0, Nat.zero_le _, rfl, fun j x hj => absurd hj (by omega), 0, rfl⟩
  case round =>
    obtain ⟨k, hk, rfl, hz, q, rfl⟩ := hrel
    have HZ := Lib.hid hz
    clear hz
    by_cases hlt : k < n
    · obtain ⟨x, hx⟩ : ∃ x, l[k]? = some x := ⟨_, List.getElem?_eq_getElem (by have := HL.out; omega)⟩
      have hc : w.cell? ⟨b, k, none⟩ = some (.int .i64 x) := by have := H.out.2 k x hx; rwa [Nat.zero_add] at this
      have HX := Lib.hid hx
      have hk0 : (0 : Int) ≤ k := by omega
      have hk1 : (k : Int) < n := by omega
      clear hx
      by_cases h0 : 0 ≤ x ∧ x ≤ most
      · obtain ⟨g1, g2⟩ := h0
        go_wp2_with fail
        go_roundw
        case rel =>
          refine ⟨k + 1, by omega, by go_num, fun j y hj hy => ?_, q, rfl⟩
          rcases Nat.lt_or_ge j k with h | h
          · exact HZ.out j y h hy
          · obtain rfl : j = k := by omega
            rw [HX.out] at hy
            injection hy with hy
            rw [← hy]; exact ⟨g1, g2⟩
        case measure => simp [RowKit.intOf]; omega
      · have HV : Hid (withinL most l = false) := by
          unfold Hid withinL
          rw [List.all_eq_false]
          exact ⟨x, List.mem_of_getElem? HX.out, by simp; omega⟩
        have h1 : x < 0 ∨ most < x := by omega
        clear h0
        rcases h1 with h1 | h1
        all_goals
          go_wp2_with fail
          all_goals go_ret
          all_goals exact ⟨ret_bool HV.out.symm, q, rfl⟩
    · have HV : Hid (withinL most l = true) := by
        unfold Hid withinL
        rw [List.all_eq_true]
        intro x hx
        obtain ⟨j, hj⟩ := List.mem_iff_getElem?.1 hx
        have := HZ.out j x (by have := (List.getElem?_eq_some_iff.1 hj).1; have := HL.out; omega) hj
        simp [this]
      go_wp2_with fail
      go_ret
      exact ⟨ret_bool HV.out.symm, q, rfl⟩

def smallL (l : List Int) : List UInt8 := l.flatMap u32L
theorem u32L_len (n : Int) : (u32L n).length ≤ 4 := by unfold u32L; split <;> simp [layL_len]
theorem smallL_step {l : List Int} {k : Nat} {x : Int} (h : l[k]? = some x) : smallL (l.take (k + 1)) = smallL (l.take k) ++ u32L x := by
  unfold smallL; rw [List.take_add_one, h]; simp
theorem smallL_len (l : List Int) : (smallL l).length ≤ 4 * l.length := by
  unfold smallL
  induction l with
  | nil => simp
  | cons x r ih => rw [List.flatMap_cons, List.length_append, List.length_cons]; have := u32L_len x; omega
theorem small_any (b n c : Nat) (l : List Int) (w : World) (hl : l.length = n) (hn : n ≤ 100) (h : IntsAt w b 0 l) :
    Calls Tryz.prog 96 #[.slice (some ⟨b, 0, none⟩) n c] w fun e w' => e = .returned (str (smallL l)) ∧ Below w.heap.size w w' := by
  have H := Lib.hid h
  have HL := Lib.hid hl
  clear h hl
  go_enter Tryz.func96, Tryz.ntmps96
  go_wp2
  go_loopw [3, 8] (fun s t wr => ∃ k : Nat, k ≤ n ∧ t = .int .i64 k ∧ s = str (smallL (l.take k)) ∧ Below w.heap.size w wr) (fun _ t _ => n - (RowKit.intOf t).toNat)
  case atStart => exact ⟨0, Nat.zero_le _, rfl, rfl, Below.refl _ _⟩
  case round =>
    obtain ⟨k, hk, rfl, rfl, hb⟩ := hrel
    by_cases hlt : k < n
    · obtain ⟨x, hx⟩ : ∃ x, l[k]? = some x := ⟨_, List.getElem?_eq_getElem (by have := HL.out; omega)⟩
      have hc : wr.cell? ⟨b, k, none⟩ = some (.int .i64 x) := by have := (H.out.below hb (Nat.le_refl _)).2 k x hx; rwa [Nat.zero_add] at this
      have HS := Lib.hid (smallL_step hx)
      have hk0 : (0 : Int) ≤ k := by omega
      have hk1 : (k : Int) < n := by omega
      have hsl : (smallL (l.take k)).length ≤ 400 := by
        have := smallL_len (l.take k)
        have h2 : (l.take k).length ≤ k := List.length_take_le _ _
        omega
      have hul := u32L_len x
      clear hx
      generalize smallL (l.take k) = s at *
      go_wp2_with fail
      refine (u32_any x _).mono ?_
      rintro e w2 ⟨rfl, hb2⟩
      generalize u32L x = u at *
      go_wp2_with fail
      go_roundw
      case rel => exact ⟨k + 1, by omega, by go_num, by rw [HS.out]; exact congrArg Value.string (ByteArray.mk_append_mk s u), hb.trans (hb2.mono hb.size)⟩
      case measure => simp [RowKit.intOf]; omega
    · have HV : Hid (l.take k = l) := Lib.hid (List.take_of_length_le (by have := HL.out; omega))
      rw [HV.out]
      go_wp2_with fail
      go_ret
      exact ⟨rfl, hb⟩

def sumL (s : List Nat) : List UInt8 := s.flatMap fun x => layL x 8
theorem sumL_len (s : List Nat) : (sumL s).length = 8 * s.length := by
  unfold sumL
  induction s with
  | nil => rfl
  | cons x r ih => rw [List.flatMap_cons, List.length_append, List.length_cons, ih, layL_len]; omega
theorem fbytes_any (s0 s1 s2 s3 : Nat) (w : World) (h0 : s0 < 18446744073709551616) (h1 : s1 < 18446744073709551616) (h2 : s2 < 18446744073709551616) (h3 : s3 < 18446744073709551616) :
    Calls Tryz.prog 27 #[.agg #[.int .u64 s0, .int .u64 s1, .int .u64 s2, .int .u64 s3]] w fun e w' => e = .returned (str (sumL [s0, s1, s2, s3])) ∧ Below w.heap.size w w' := by
  have H0 := Lib.hid fun W => u64_any s0 W h0
  have H1 := Lib.hid fun W => u64_any s1 W h1
  have H2 := Lib.hid fun W => u64_any s2 W h2
  have H3 := Lib.hid fun W => u64_any s3 W h3
  have i0 : ∀ w, (Instr.index 29 (.agg #[.int .u64 s0, .int .u64 s1, .int .u64 s2, .int .u64 s3]) (.int .i64 0)).run Tryz.prog w = .ok (.int .u64 s0) w := fun _ => by kernel_rfl
  have i1 : ∀ w, (Instr.index 29 (.agg #[.int .u64 s0, .int .u64 s1, .int .u64 s2, .int .u64 s3]) (.int .i64 1)).run Tryz.prog w = .ok (.int .u64 s1) w := fun _ => by kernel_rfl
  have i2 : ∀ w, (Instr.index 29 (.agg #[.int .u64 s0, .int .u64 s1, .int .u64 s2, .int .u64 s3]) (.int .i64 2)).run Tryz.prog w = .ok (.int .u64 s2) w := fun _ => by kernel_rfl
  have i3 : ∀ w, (Instr.index 29 (.agg #[.int .u64 s0, .int .u64 s1, .int .u64 s2, .int .u64 s3]) (.int .i64 3)).run Tryz.prog w = .ok (.int .u64 s3) w := fun _ => by kernel_rfl
  clear h0 h1 h2 h3
  go_enter Tryz.func27, Tryz.ntmps27
  go_wp2_with fail
  go_loopw [3, 7] (fun s t wr => ∃ k : Nat, k ≤ 4 ∧ t = .int .i64 k ∧ s = str (sumL ([s0, s1, s2, s3].take k)) ∧ Below w.heap.size w wr) (fun _ t _ => 4 - (RowKit.intOf t).toNat)
  case atStart => exact ⟨0, by omega, rfl, rfl, (Below.refl _ _).alloc (Nat.le_refl _) _⟩
  case round =>
    obtain ⟨k, hk, rfl, rfl, hb⟩ := hrel
    have hk4 : k = 0 ∨ k = 1 ∨ k = 2 ∨ k = 3 ∨ k = 4 := by omega
    have hlen : (sumL ([s0, s1, s2, s3].take k)).length ≤ 32 := by rw [sumL_len, List.length_take]; simp; omega
    rcases hk4 with rfl | rfl | rfl | rfl | rfl
    · have HS : Hid (sumL ([s0, s1, s2, s3].take (0 + 1)) = sumL ([s0, s1, s2, s3].take 0) ++ layL s0 8) := by simp [Hid, sumL]
      generalize sumL ([s0, s1, s2, s3].take 0) = s at *
      go_wp2_with fail
      refine (H0.out _).mono ?_
      rintro e w2 ⟨rfl, hb2⟩
      have hll : (layL s0 8).length ≤ 8 := by rw [layL_len]; exact Nat.le_refl _
      generalize layL s0 8 = u at *
      go_wp2_with fail
      go_roundw
      case rel => exact ⟨0 + 1, by omega, rfl, by rw [HS.out]; exact congrArg Value.string (ByteArray.mk_append_mk s u), hb.trans (hb2.mono hb.size)⟩
      case measure => simp [RowKit.intOf]
    · have HS : Hid (sumL ([s0, s1, s2, s3].take (1 + 1)) = sumL ([s0, s1, s2, s3].take 1) ++ layL s1 8) := by simp [Hid, sumL]
      generalize sumL ([s0, s1, s2, s3].take 1) = s at *
      go_wp2_with fail
      refine (H1.out _).mono ?_
      rintro e w2 ⟨rfl, hb2⟩
      have hll : (layL s1 8).length ≤ 8 := by rw [layL_len]; exact Nat.le_refl _
      generalize layL s1 8 = u at *
      go_wp2_with fail
      go_roundw
      case rel => exact ⟨1 + 1, by omega, rfl, by rw [HS.out]; exact congrArg Value.string (ByteArray.mk_append_mk s u), hb.trans (hb2.mono hb.size)⟩
      case measure => simp [RowKit.intOf]
    · have HS : Hid (sumL ([s0, s1, s2, s3].take (2 + 1)) = sumL ([s0, s1, s2, s3].take 2) ++ layL s2 8) := by simp [Hid, sumL]
      generalize sumL ([s0, s1, s2, s3].take 2) = s at *
      go_wp2_with fail
      refine (H2.out _).mono ?_
      rintro e w2 ⟨rfl, hb2⟩
      have hll : (layL s2 8).length ≤ 8 := by rw [layL_len]; exact Nat.le_refl _
      generalize layL s2 8 = u at *
      go_wp2_with fail
      go_roundw
      case rel => exact ⟨2 + 1, by omega, rfl, by rw [HS.out]; exact congrArg Value.string (ByteArray.mk_append_mk s u), hb.trans (hb2.mono hb.size)⟩
      case measure => simp [RowKit.intOf]
    · have HS : Hid (sumL ([s0, s1, s2, s3].take (3 + 1)) = sumL ([s0, s1, s2, s3].take 3) ++ layL s3 8) := by simp [Hid, sumL]
      generalize sumL ([s0, s1, s2, s3].take 3) = s at *
      go_wp2_with fail
      refine (H3.out _).mono ?_
      rintro e w2 ⟨rfl, hb2⟩
      have hll : (layL s3 8).length ≤ 8 := by rw [layL_len]; exact Nat.le_refl _
      generalize layL s3 8 = u at *
      go_wp2_with fail
      go_roundw
      case rel => exact ⟨3 + 1, by omega, rfl, by rw [HS.out]; exact congrArg Value.string (ByteArray.mk_append_mk s u), hb.trans (hb2.mono hb.size)⟩
      case measure => simp [RowKit.intOf]
    · go_wp2_with fail
      go_ret
      exact ⟨rfl, hb⟩
end Go.Proofs.YtlpbbjjibnbooaaGreatDoor

namespace Go.Proofs.YtlpbbjjibnbooaaGreatDoor
open Go.RowKit
set_option linter.unusedVariables false

/-- A pointer's numbers. -/
structure PtrD where
  ag : Int
  aa : Int
  bg : Int
  ba : Int
  two : Bool
  size : Int
  level : Int
  birth : Int
  s0 : Nat
  s1 : Nat
  s2 : Nat
  s3 : Nat
deriving DecidableEq

def PtrD.cells (p : PtrD) : Array Value := #[.int .i64 p.ag, .int .i64 p.aa, .int .i64 p.bg, .int .i64 p.ba, .bool p.two, .int .i64 p.size, .int .i64 p.level, .int .i64 p.birth, .int .u64 p.s0, .int .u64 p.s1, .int .u64 p.s2, .int .u64 p.s3]
def PtrD.Ok (p : PtrD) : Prop := p.s0 < 18446744073709551616 ∧ p.s1 < 18446744073709551616 ∧ p.s2 < 18446744073709551616 ∧ p.s3 < 18446744073709551616 ∧
  -9223372036854775808 ≤ p.size ∧ p.size ≤ 9223372036854775807 ∧ -9223372036854775808 ≤ p.level ∧ p.level ≤ 9223372036854775807 ∧ -9223372036854775808 ≤ p.birth ∧ p.birth ≤ 9223372036854775807

/-- p lies at block b from offset o on. -/
def PtrAt (w : World) (b o : Nat) (p : PtrD) : Prop :=
  w.cell? ⟨b, o, none⟩ = some (.int .i64 p.ag) ∧ w.cell? ⟨b, o + 1, none⟩ = some (.int .i64 p.aa) ∧ w.cell? ⟨b, o + 2, none⟩ = some (.int .i64 p.bg) ∧ w.cell? ⟨b, o + 3, none⟩ = some (.int .i64 p.ba) ∧
  w.cell? ⟨b, o + 4, none⟩ = some (.bool p.two) ∧ w.cell? ⟨b, o + 5, none⟩ = some (.int .i64 p.size) ∧ w.cell? ⟨b, o + 6, none⟩ = some (.int .i64 p.level) ∧ w.cell? ⟨b, o + 7, none⟩ = some (.int .i64 p.birth) ∧
  w.cell? ⟨b, o + 8, none⟩ = some (.int .u64 p.s0) ∧ w.cell? ⟨b, o + 9, none⟩ = some (.int .u64 p.s1) ∧ w.cell? ⟨b, o + 10, none⟩ = some (.int .u64 p.s2) ∧ w.cell? ⟨b, o + 11, none⟩ = some (.int .u64 p.s3)
theorem PtrAt.keep {w w' : World} {b o : Nat} {p : PtrD} (h : PtrAt w b o p) (hb : Below w.heap.size w w') (hlt : b < w.heap.size) : PtrAt w' b o p := by
  obtain ⟨h0, h1, h2, h3, h4, h5, h6, h7, h8, h9, ha, hc⟩ := h
  exact ⟨keep_cell hb h0 hlt, keep_cell hb h1 hlt, keep_cell hb h2 hlt, keep_cell hb h3 hlt, keep_cell hb h4 hlt, keep_cell hb h5 hlt, keep_cell hb h6 hlt, keep_cell hb h7 hlt, keep_cell hb h8 hlt, keep_cell hb h9 hlt, keep_cell hb ha hlt, keep_cell hb hc hlt⟩
theorem PtrAt.new (w : World) (p : PtrD) (t : TypeId) : PtrAt (w.alloc (.cells p.cells t)) w.heap.size 0 p :=
  ⟨cell_new rfl rfl, cell_new rfl rfl, cell_new rfl rfl, cell_new rfl rfl, cell_new rfl rfl, cell_new rfl rfl, cell_new rfl rfl, cell_new rfl rfl, cell_new rfl rfl, cell_new rfl rfl, cell_new rfl rfl, cell_new rfl rfl⟩

end Go.Proofs.YtlpbbjjibnbooaaGreatDoor

namespace Go.Proofs.YtlpbbjjibnbooaaGreatDoor
open Go.ChangeShapes Go.WideShapes Go.ChangeAt Go.RowKit Go.Deep Go.Joins
set_option linter.unusedVariables false

section
variable {H : Type} {enc : TypeId × Value → H} {w : World} {base : Nat} {spare : Nat → Bool} {held : Bool}
theorem trod_place {n : Nat} {u v : Value} {x : DataW H × List MemPlace} (h : DataW.trod enc Tryz.prog w base spare held n 26 [u, v] = some x) : ∃ a b : Int, u = .int .i64 a ∧ v = .int .i64 b := by
  obtain ⟨xs, m, _, _, _, hlen, hg⟩ := DataW.trod_struct Tryz.underlying26 h
  match xs, hlen with
  | [y0, y1], _ =>
    have k : Tryz.prog.cellsOf 3 = 1 := by kernel_rfl
    have g0 : DataW.trod enc Tryz.prog w base spare held m 3 [u] = some y0 := by have t : DataW.trod enc Tryz.prog w base spare held m 3 (([u, v].drop 0).take (Tryz.prog.cellsOf 3)) = [y0, y1][0]? := hg 0 _ rfl; rw [k] at t; exact t
    have g1 : DataW.trod enc Tryz.prog w base spare held m 3 [v] = some y1 := by have t : DataW.trod enc Tryz.prog w base spare held m 3 (([u, v].drop 1).take (Tryz.prog.cellsOf 3)) = [y0, y1][1]? := hg 1 _ rfl; rw [k] at t; exact t
    obtain ⟨a, e0, _, _⟩ := DataW.trod_int Tryz.underlying3 g0
    obtain ⟨b, e1, _, _⟩ := DataW.trod_int Tryz.underlying3 g1
    simp at e0 e1
    exact ⟨a, b, e0, e1⟩

theorem open_ptrs {n : Nat} {cs : List Value} {x : DataW H × List MemPlace} (h : DataW.trod enc Tryz.prog w base spare held n 31 cs = some x) (hlen : cs.length = 12) :
    ∃ p : PtrD, cs = p.cells.toList ∧ p.Ok := by
  match cs, hlen with
  | [c0, c1, c2, c3, c4, c5, c6, c7, c8, c9, c10, c11], _ =>
    obtain ⟨xs, m, _, _, _, hl, hg⟩ := DataW.trod_struct Tryz.underlying31 h
    have kp : Tryz.prog.cellsOf 26 = 2 := by kernel_rfl
    have ki : Tryz.prog.cellsOf 3 = 1 := by kernel_rfl
    have kb : Tryz.prog.cellsOf 4 = 1 := by kernel_rfl
    have ks : Tryz.prog.cellsOf 29 = 4 := by kernel_rfl
    have ku : Tryz.prog.cellsOf 27 = 1 := by kernel_rfl
    match xs, hl with
    | [y0, y1, y2, y3, y4, y5, y6], _ =>
      have g0 : DataW.trod enc Tryz.prog w base spare held m 26 [c0, c1] = some y0 := by have t : DataW.trod enc Tryz.prog w base spare held m 26 (([c0, c1, c2, c3, c4, c5, c6, c7, c8, c9, c10, c11].drop 0).take (Tryz.prog.cellsOf 26)) = [y0, y1, y2, y3, y4, y5, y6][0]? := hg 0 _ rfl; rw [kp] at t; exact t
      have g1 : DataW.trod enc Tryz.prog w base spare held m 26 [c2, c3] = some y1 := by have t : DataW.trod enc Tryz.prog w base spare held m 26 (([c0, c1, c2, c3, c4, c5, c6, c7, c8, c9, c10, c11].drop 2).take (Tryz.prog.cellsOf 26)) = [y0, y1, y2, y3, y4, y5, y6][1]? := hg 1 _ rfl; rw [kp] at t; exact t
      have g2 : DataW.trod enc Tryz.prog w base spare held m 4 [c4] = some y2 := by have t : DataW.trod enc Tryz.prog w base spare held m 4 (([c0, c1, c2, c3, c4, c5, c6, c7, c8, c9, c10, c11].drop 4).take (Tryz.prog.cellsOf 4)) = [y0, y1, y2, y3, y4, y5, y6][2]? := hg 2 _ rfl; rw [kb] at t; exact t
      have g3 : DataW.trod enc Tryz.prog w base spare held m 3 [c5] = some y3 := by have t : DataW.trod enc Tryz.prog w base spare held m 3 (([c0, c1, c2, c3, c4, c5, c6, c7, c8, c9, c10, c11].drop 5).take (Tryz.prog.cellsOf 3)) = [y0, y1, y2, y3, y4, y5, y6][3]? := hg 3 _ rfl; rw [ki] at t; exact t
      have g4 : DataW.trod enc Tryz.prog w base spare held m 3 [c6] = some y4 := by have t : DataW.trod enc Tryz.prog w base spare held m 3 (([c0, c1, c2, c3, c4, c5, c6, c7, c8, c9, c10, c11].drop 6).take (Tryz.prog.cellsOf 3)) = [y0, y1, y2, y3, y4, y5, y6][4]? := hg 4 _ rfl; rw [ki] at t; exact t
      have g5 : DataW.trod enc Tryz.prog w base spare held m 3 [c7] = some y5 := by have t : DataW.trod enc Tryz.prog w base spare held m 3 (([c0, c1, c2, c3, c4, c5, c6, c7, c8, c9, c10, c11].drop 7).take (Tryz.prog.cellsOf 3)) = [y0, y1, y2, y3, y4, y5, y6][5]? := hg 5 _ rfl; rw [ki] at t; exact t
      have g6 : DataW.trod enc Tryz.prog w base spare held m 29 [c8, c9, c10, c11] = some y6 := by have t : DataW.trod enc Tryz.prog w base spare held m 29 (([c0, c1, c2, c3, c4, c5, c6, c7, c8, c9, c10, c11].drop 8).take (Tryz.prog.cellsOf 29)) = [y0, y1, y2, y3, y4, y5, y6][6]? := hg 6 _ rfl; rw [ks] at t; exact t
      obtain ⟨ag, aa, rfl, rfl⟩ := trod_place g0
      obtain ⟨bg, ba, rfl, rfl⟩ := trod_place g1
      obtain ⟨two, e2, _⟩ := DataW.trod_bool Tryz.underlying4 g2
      obtain ⟨size, e3, _, w3⟩ := DataW.trod_int Tryz.underlying3 g3
      obtain ⟨level, e4, _, w4⟩ := DataW.trod_int Tryz.underlying3 g4
      obtain ⟨birth, e5, _, w5⟩ := DataW.trod_int Tryz.underlying3 g5
      obtain ⟨z0, z1, z2, z3, q, _, t0, t1, t2, t3⟩ := trod_array4 Tryz.underlying29 ku g6
      obtain ⟨s0, f0, _, v0⟩ := DataW.trod_int Tryz.underlying27 t0
      obtain ⟨s1, f1, _, v1⟩ := DataW.trod_int Tryz.underlying27 t1
      obtain ⟨s2, f2, _, v2⟩ := DataW.trod_int Tryz.underlying27 t2
      obtain ⟨s3, f3, _, v3⟩ := DataW.trod_int Tryz.underlying27 t3
      simp at e2 e3 e4 e5 f0 f1 f2 f3
      subst e2 e3 e4 e5 f0 f1 f2 f3
      have b0 := u64_bd v0
      have b1 := u64_bd v1
      have b2 := u64_bd v2
      have b3 := u64_bd v3
      obtain ⟨n0, rfl⟩ := Int.eq_ofNat_of_zero_le b0.1
      obtain ⟨n1, rfl⟩ := Int.eq_ofNat_of_zero_le b1.1
      obtain ⟨n2, rfl⟩ := Int.eq_ofNat_of_zero_le b2.1
      obtain ⟨n3, rfl⟩ := Int.eq_ofNat_of_zero_le b3.1
      have b4 := i64_bd w3
      have b5 := i64_bd w4
      have b6 := i64_bd w5
      exact ⟨⟨ag, aa, bg, ba, two, size, level, birth, n0, n1, n2, n3⟩, rfl, by unfold PtrD.Ok; dsimp only; omega⟩

end
end Go.Proofs.YtlpbbjjibnbooaaGreatDoor

namespace Go.Proofs.YtlpbbjjibnbooaaGreatDoor
set_option linter.unusedVariables false
set_option linter.unusedSimpArgs false
open Go.ChangeShapes Go.WideShapes Go.ChangeAt Go.RowKit Go.Deep Go.Joins

section
variable {H : Type} {enc : TypeId × Value → H} {w : World} {base : Nat} {spare : Nat → Bool} {held : Bool}
end
end Go.Proofs.YtlpbbjjibnbooaaGreatDoor

namespace Go.Proofs.YtlpbbjjibnbooaaGreatDoor
set_option linter.unusedVariables false
set_option linter.unusedSimpArgs false
open Go.ChangeShapes Go.WideShapes Go.ChangeAt Go.RowKit Go.Deep Go.Joins

section
variable {H : Type} {enc : TypeId × Value → H} {w : World} {base : Nat} {spare : Nat → Bool} {held : Bool}
theorem open_nodes {m0 : Nat} {cs : List Value} {y : DataW H × List MemPlace} (h : DataW.trod enc Tryz.prog w base spare held m0 33 cs = some y) (hl : cs.length = 13) :
    ∃ (n : Int) (p : PtrD), cs = .int .i64 n :: p.cells.toList ∧ -9223372036854775808 ≤ n ∧ n ≤ 9223372036854775807 ∧ p.Ok := by
  have hk1 : Tryz.prog.cellsOf 3 = 1 := by kernel_rfl
  have hk2 : Tryz.prog.cellsOf 31 = 12 := by kernel_rfl
  obtain ⟨xs, m, _, _, _, hlen, hg⟩ := DataW.trod_struct Tryz.underlying33 h
  match xs, hlen with
  | [y0, y1], _ =>
    have t0 : DataW.trod enc Tryz.prog w base spare held m 3 ((cs.drop 0).take (Tryz.prog.cellsOf 3)) = [y0, y1][0]? := hg 0 _ rfl
    have t1 : DataW.trod enc Tryz.prog w base spare held m 31 ((cs.drop 1).take (Tryz.prog.cellsOf 31)) = [y0, y1][1]? := hg 1 _ rfl
    rw [hk1] at t0
    rw [hk2] at t1
    obtain ⟨x, e1, o1⟩ := open_ptrs (cs := (cs.drop 1).take 12) t1 (by rw [List.length_take, List.length_drop]; omega)
    obtain ⟨n, e0, _, wn⟩ := DataW.trod_int Tryz.underlying3 t0
    have bn := i64_bd wn
    refine ⟨n, x, ?_, bn.1, bn.2, o1⟩
    have a1 : (cs.drop 1).take 12 = cs.drop 1 := List.take_of_length_le (by rw [List.length_drop]; omega)
    rw [← e1, a1]
    have := List.take_append_drop 1 cs
    rw [show cs.take 1 = [.int .i64 n] from e0] at this
    exact this.symm
set_option maxRecDepth 100000 in
theorem open_uber {b0 : Nat} {v : Value} {d : DataW H} {p : List MemPlace} (hv : Value.okWide Tryz.prog w .any b0 35 v) (h : DataW.Trod enc Tryz.prog w base spare held 35 v d p) :
    ∃ (t n : Int) (p : PtrD), v = .agg #[.int .i64 t, .int .i64 n, .int .i64 p.ag, .int .i64 p.aa, .int .i64 p.bg, .int .i64 p.ba, .bool p.two, .int .i64 p.size, .int .i64 p.level, .int .i64 p.birth, .int .u64 p.s0, .int .u64 p.s1, .int .u64 p.s2, .int .u64 p.s3] ∧ (-9223372036854775808 ≤ t ∧ t ≤ 9223372036854775807) ∧ (-9223372036854775808 ≤ n ∧ n ≤ 9223372036854775807) ∧ p.Ok := by
  obtain ⟨cs, rfl, hsz⟩ := okWide_struct Tryz.underlying35 hv
  have hk : Tryz.prog.cellsOf 35 = 14 := by kernel_rfl
  have hk1 : Tryz.prog.cellsOf 3 = 1 := by kernel_rfl
  have hk2 : Tryz.prog.cellsOf 33 = 13 := by kernel_rfl
  obtain ⟨fuel, hf⟩ := h
  have hl : cs.toList.length = 14 := by rw [Array.length_toList, hsz, hk]
  obtain ⟨xs, m, _, _, _, hlen, hg⟩ := DataW.trod_struct Tryz.underlying35 hf
  match xs, hlen with
  | [y0, y1], _ =>
    have t0 : DataW.trod enc Tryz.prog w base spare held m 3 ((cs.toList.drop 0).take (Tryz.prog.cellsOf 3)) = [y0, y1][0]? := hg 0 _ rfl
    have t1 : DataW.trod enc Tryz.prog w base spare held m 33 ((cs.toList.drop 1).take (Tryz.prog.cellsOf 33)) = [y0, y1][1]? := hg 1 _ rfl
    rw [hk1] at t0
    rw [hk2] at t1
    obtain ⟨n, x, e1, b1, b2, o1⟩ := open_nodes (cs := (cs.toList.drop 1).take 13) t1 (by rw [List.length_take, List.length_drop]; omega)
    obtain ⟨t, e0, _, wt⟩ := DataW.trod_int Tryz.underlying3 t0
    have bt := i64_bd wt
    refine ⟨t, n, x, ?_, bt, ⟨b1, b2⟩, o1⟩
    have hall : cs.toList = .int .i64 t :: .int .i64 n :: x.cells.toList := by
      have a1 : (cs.toList.drop 1).take 13 = cs.toList.drop 1 := List.take_of_length_le (by rw [List.length_drop]; omega)
      rw [← e1, a1]
      have := List.take_append_drop 1 cs.toList
      rw [show cs.toList.take 1 = [.int .i64 t] from e0] at this
      exact this.symm
    have hh : cs = (.int .i64 t :: .int .i64 n :: x.cells.toList).toArray := by rw [← hall]
    rw [hh]
    rfl
end
end Go.Proofs.YtlpbbjjibnbooaaGreatDoor
