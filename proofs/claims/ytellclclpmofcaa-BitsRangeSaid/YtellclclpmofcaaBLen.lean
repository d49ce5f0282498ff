/-
  math/bits.Len64, bits.shape, and crossbarref02.Spread: how many binary digits a number has; conditions: the number is 1 to 4294967296.
-/
import Derived.Test.YtellclclpmofcaaBOps
import Derived.Test.YtellclclpmofcaaBBits
import Derived.Handy
import Derived.Deep.DeepCutAuto
namespace Go.Proofs.Ytellclclpmofcaa
open Go.RowKit
set_option linter.unusedVariables false

/-- A character of the table of lengths. -/
theorem wpList_strIx {ops : Array Oper} {Q : Exit → Act → World → Prop} {a : Act} {w : World} {rest : List Oper} {dst : Option Tmp} {y : Operand} {ty : TypeId} {pos : String} {after : Array Edge} {guard : Option (Nat × Bool)} {s : ByteArray} {i z : Nat}
    (hT : ((List.range 256).all fun i => s.data[i]? == some (UInt8.ofNat (blen i))) = true) (hy : a.eval y = .int .u8 (i : Int)) (hi : i < 256) (hz : blen i = z) (hw : Region.wanted ⟨dst, .index 9 (.const (.string s)) y, ty, pos, after, guard⟩ (yielded ops a.tmps) = true)
    (hK : wpList Try.prog ops Q rest (a.put dst (.int .u8 (z : Int))) w) : wpList Try.prog ops Q (⟨dst, .index 9 (.const (.string s)) y, ty, pos, after, guard⟩ :: rest) a w := by
  subst hz
  have h1 := (List.all_eq_true.1 hT) i (List.mem_range.2 hi)
  have h2 : s.data[i]? = some (UInt8.ofNat (blen i)) := by simpa using h1
  have h3 : i < s.size := (Array.getElem?_eq_some_iff.1 h2).1
  have hb : blen i ≤ 8 := blen_le (by omega)
  refine wpList_run hw (.int .u8 (blen i : Int)) w ?_ hK
  have h4 : (s[i]'h3).toNat = blen i := by
    have := (Array.getElem?_eq_some_iff.1 h2).2
    have e : s[i]'h3 = s.data[i]'h3 := rfl
    rw [e, this]
    exact toNat_ofNat (by omega)
  have h5 := run_index_string (P := Try.prog) w 9 s .u8 (i : Int) Try.underlying9
  rw [dif_pos ⟨by omega, by omega⟩] at h5
  simp only [Int.toNat_natCast, h4] at h5
  have e : a.eval (.const (.string s)) = .string s := rfl
  simp only [execOp, hy, e, Sem.run_bind, h5, Result.andThen_ok, Sem.run_pure]

/-- A number ahead of which k noughts stand. -/
theorem blen_div {x k : Nat} (h : 2 ^ k ≤ x) : blen x = k + blen (x / 2 ^ k) := by
  have h1 : 1 ≤ x / 2 ^ k := (Nat.one_le_div_iff (Nat.pow_pos (by decide))).2 h
  obtain ⟨g1, g2, g3⟩ := blen_spec h1
  have e1 : 2 ^ (k + (blen (x / 2 ^ k) - 1)) ≤ x := by
    rw [Nat.pow_add, Nat.mul_comm]
    exact Nat.le_trans (Nat.mul_le_mul_right _ g1) (Nat.div_mul_le_self x (2 ^ k))
  have e2 : x < 2 ^ (k + (blen (x / 2 ^ k) - 1) + 1) := by
    rw [show k + (blen (x / 2 ^ k) - 1) + 1 = blen (x / 2 ^ k) + k by omega, Nat.pow_add]
    exact (Nat.div_lt_iff_lt_mul (Nat.pow_pos (by decide))).1 g2
  rw [blen_unique e1 e2]
  omega

set_option maxRecDepth 1000000 in
theorem len71 (x : Nat) (hx : x ≤ 4294967296) (w : World) : Calls Try.prog 71 #[.int .u64 (x : Int)] w fun r w' => r = .returned (.int .i64 (blen x : Nat)) ∧ w' = w := by
  have hxi : (x : Int) ≤ 4294967296 := by omega
  by_cases h32 : (4294967296 : Int) ≤ x
  · obtain rfl : x = 4294967296 := by omega
    go_enter Try.func71, Try.ntmps71
    go_wp2_with (((with_reducible show wpList _ _ _ (Oper.mk _ (.index _ _ _) _ _ _ _ :: _) _ _); refine wpList_strIx (i := 1) (z := 1) (by as_aux_lemma => kernel_rfl) rfl (by decide) (by decide) rfl ?_))
    go_ret
    exact ⟨by rw [show blen 4294967296 = 33 by decide +kernel]; rfl, rfl⟩
  · by_cases h16 : (65536 : Int) ≤ x
    · obtain ⟨y, hy⟩ : ∃ y, y = x / 65536 := ⟨_, rfl⟩
      have hb : blen x = 16 + blen y := by rw [hy]; exact blen_div (k := 16) (by omega)
      have HY : Hid ((x : Int) / 65536 = y) := hide (by omega)
      have HY16 : (y : Int) ≤ 65535 := by omega
      by_cases h8 : (256 : Int) ≤ y
      · obtain ⟨z, hz⟩ : ∃ z, z = y / 256 := ⟨_, rfl⟩
        have hb2 : blen y = 8 + blen z := by rw [hz]; exact blen_div (k := 8) (by omega)
        have HZ : Hid ((y : Int) / 256 = z) := hide (by omega)
        have hz8 : z < 256 := by omega
        obtain ⟨t, ht⟩ : ∃ t, blen z = t := ⟨_, rfl⟩
        have ht8 : t ≤ 8 := by rw [← ht]; exact blen_le (by omega)
        have HT := hide ht
        rw [hb, hb2, ht]
        have HG : Hid (((16 + (8 + t) : Nat) : Int) = 24 + (t : Int)) := hide (by omega)
        rw [HG.out]
        clear hb hb2 hy hz ht
        go_enter Try.func71, Try.ntmps71
        go_upto_region 7 with fail
        rw [HY.out]
        go_upto_region 10 with fail
        rw [HZ.out]
        go_wp2_with (((with_reducible show wpList _ _ _ (Oper.mk _ (.index _ _ _) _ _ _ _ :: _) _ _); refine wpList_strIx (i := z) (z := t) (by as_aux_lemma => kernel_rfl) rfl (by omega) HT.out rfl ?_))
        go_ret
        exact ⟨rfl, rfl⟩
      · obtain ⟨t, ht⟩ : ∃ t, blen y = t := ⟨_, rfl⟩
        have hz8 : y < 256 := by omega
        have ht8 : t ≤ 8 := by rw [← ht]; exact blen_le (by omega)
        have HT := hide ht
        rw [hb, ht]
        have HG : Hid (((16 + t : Nat) : Int) = 16 + (t : Int)) := hide (by omega)
        rw [HG.out]
        clear hb hy ht
        go_enter Try.func71, Try.ntmps71
        go_upto_region 7 with fail
        rw [HY.out]
        go_wp2_with (((with_reducible show wpList _ _ _ (Oper.mk _ (.index _ _ _) _ _ _ _ :: _) _ _); refine wpList_strIx (i := y) (z := t) (by as_aux_lemma => kernel_rfl) rfl (by omega) HT.out rfl ?_))
        go_ret
        exact ⟨rfl, rfl⟩
    · by_cases h8 : (256 : Int) ≤ x
      · obtain ⟨z, hz⟩ : ∃ z, z = x / 256 := ⟨_, rfl⟩
        have hb2 : blen x = 8 + blen z := by rw [hz]; exact blen_div (k := 8) (by omega)
        have HZ : Hid ((x : Int) / 256 = z) := hide (by omega)
        have hz8 : z < 256 := by omega
        obtain ⟨t, ht⟩ : ∃ t, blen z = t := ⟨_, rfl⟩
        have ht8 : t ≤ 8 := by rw [← ht]; exact blen_le (by omega)
        have HT := hide ht
        rw [hb2, ht]
        have HG : Hid (((8 + t : Nat) : Int) = 8 + (t : Int)) := hide (by omega)
        rw [HG.out]
        clear hb2 hz ht
        go_enter Try.func71, Try.ntmps71
        go_upto_region 10 with fail
        rw [HZ.out]
        go_wp2_with (((with_reducible show wpList _ _ _ (Oper.mk _ (.index _ _ _) _ _ _ _ :: _) _ _); refine wpList_strIx (i := z) (z := t) (by as_aux_lemma => kernel_rfl) rfl (by omega) HT.out rfl ?_))
        go_ret
        exact ⟨rfl, rfl⟩
      · obtain ⟨t, ht⟩ : ∃ t, blen x = t := ⟨_, rfl⟩
        have hz8 : x < 256 := by omega
        have ht8 : t ≤ 8 := by rw [← ht]; exact blen_le (by omega)
        have HT := hide ht
        rw [ht]
        clear ht
        go_enter Try.func71, Try.ntmps71
        go_wp2_with (((with_reducible show wpList _ _ _ (Oper.mk _ (.index _ _ _) _ _ _ _ :: _) _ _); refine wpList_strIx (i := x) (z := t) (by as_aux_lemma => kernel_rfl) rfl (by omega) HT.out rfl ?_))
        go_ret
        exact ⟨rfl, rfl⟩

/-- 'w, 1 << w - n'. -/
theorem blen33 {n : Nat} (h : n ≤ 4294967296) : blen n ≤ 33 := blen_le (by omega)

set_option maxRecDepth 100000 in
theorem shape68 (n : Nat) (h1 : 1 ≤ n) (h2 : n ≤ 4294967296) (w : World) : Calls Try.prog 68 #[.int .u64 (n : Int)] w fun r w' => r = .returned (.tuple #[.int .i64 (blen n : Nat), .int .u64 (gapM n : Nat)]) ∧ w' = w := by
  have HL := hide (len71 n h2 w)
  obtain ⟨g1, g2, g3, -⟩ := gap_spec h1
  have hb := blen33 h2
  have hp : 2 ^ blen n ≤ 2 ^ 33 := Nat.pow_le_pow_right (by decide) hb
  obtain ⟨b, hbl⟩ : ∃ b, b = blen n := ⟨_, rfl⟩
  obtain ⟨m, hm⟩ : ∃ m, m = gapM n := ⟨_, rfl⟩
  rw [← hbl] at HL hb g3 hp
  rw [← hm] at g1 g2 g3
  rw [← hbl, ← hm]
  obtain ⟨pw, hpw⟩ : ∃ pw, 2 ^ b = pw := ⟨_, rfl⟩
  rw [hpw] at g3 hp
  have HP := hide hpw
  have HM : Hid (pw - n = m) := hide (by omega)
  have hb33 : (b : Int) ≤ 33 := by omega
  clear hbl hm hpw
  go_enter Try.func68, Try.ntmps68
  go_wp2_with fail
  refine HL.out.mono ?_
  rintro r w1 ⟨rfl, rfl⟩
  go_wp2_with (first | ((with_reducible show wpList _ _ _ (Oper.mk _ (.binOp .shl _ _ _ _) _ _ _ _ :: _) _ _); refine wpList_shl1 (s := b) (Z := pw) rfl rfl rfl (by omega) HP.out ?_) | ((with_reducible show wpList _ _ _ (Oper.mk _ (.binOp .sub _ _ _ _) _ _ _ _ :: _) _ _); refine wpList_sub64 (X := pw) (Y := n) (Z := m) rfl rfl rfl (by omega) (by omega) HM.out ?_))
  go_ret2
  exact ⟨rfl, rfl⟩

set_option maxRecDepth 100000 in
theorem spread69 (n : Nat) (h1 : 1 ≤ n) (h2 : n ≤ 4294967296) (w : World) : Calls Try.prog 69 #[.int .u64 (n : Int)] w fun r w' => r = .returned (.tuple #[.int .i64 (blen n : Nat), .int .u64 (gapM n : Nat)]) ∧ w' = w := by
  have h2i : (n : Int) ≤ 4294967296 := by omega
  obtain ⟨g1, g2, g3, -⟩ := gap_spec h1
  obtain ⟨m, hm⟩ : ∃ m, m = gapM n := ⟨_, rfl⟩
  obtain ⟨b, hbl⟩ : ∃ b, b = blen n := ⟨_, rfl⟩
  rw [← hm, ← hbl] at g3
  rw [← hm, ← hbl]
  have hb := blen33 h2
  rw [← hbl] at hb
  have hlt : ∀ s, s < b ↔ 2 ^ s ≤ n := by
    intro s
    obtain ⟨e1, e2, e3⟩ := blen_spec h1
    rw [← hbl] at e1 e2 e3
    constructor
    · intro hs
      exact Nat.le_trans (Nat.pow_le_pow_right (by decide) (by omega)) e1
    · intro hs
      exact (Nat.pow_lt_pow_iff_right (a := 2) (by decide)).1 (Nat.lt_of_le_of_lt hs e2)
  have HLT := hide hlt
  have G3 := hide g3
  clear hm hbl hlt g1 g2 g3
  go_enter Try.func69, Try.ntmps69
  go_wp2_with fail
  go_loop [4, 5] (fun s p => ∃ d : Nat, s = .int .i64 (d : Int) ∧ d ≤ b ∧ p = .int .u64 ((2 ^ d : Nat) : Int)) (fun s _ => b - (intOf s).toNat)
  case atStart => exact ⟨0, rfl, Nat.zero_le _, rfl⟩
  case round =>
    obtain ⟨d, rfl, hd, rfl⟩ := hrel
    obtain ⟨pw, hpw⟩ : ∃ pw, pw = 2 ^ d := ⟨_, rfl⟩
    have hp2 : 2 ^ (d + 1) = 2 * pw := by rw [hpw, Nat.pow_succ]; omega
    have hpl : pw ≤ 2 ^ 33 := by rw [hpw]; exact Nat.pow_le_pow_right (by decide) (by omega)
    have hk := HLT.out d
    rw [← hpw] at hk ⊢
    have HP2 := hide hp2
    have HPW := hide hpw
    clear hpw hp2
    by_cases hlt : d < b
    · have hle : (pw : Int) ≤ n := by have := hk.1 hlt; omega
      clear hk
      go_wp2_with fail
      go_round
      case rel => exact ⟨d + 1, by go_num, by omega, by rw [HP2.out]; go_num⟩
      case measure => simp [intOf]; omega
    · obtain rfl : d = b := by omega
      have hgt : (n : Int) < pw := by
        rcases Nat.lt_or_ge n pw with h | h
        · omega
        · exact absurd (hk.2 h) hlt
      have HM : Hid (pw - n = m) := hide (by have := G3.out; rw [← HPW.out] at this; omega)
      clear hk hlt
      go_wp2_with (((with_reducible show wpList _ _ _ (Oper.mk _ (.binOp .sub _ _ _ _) _ _ _ _ :: _) _ _); refine wpList_sub64 (X := pw) (Y := n) (Z := m) rfl rfl rfl (by omega) (by omega) HM.out ?_))
      go_ret2
      exact ⟨rfl, rfl⟩

end Go.Proofs.Ytellclclpmofcaa
