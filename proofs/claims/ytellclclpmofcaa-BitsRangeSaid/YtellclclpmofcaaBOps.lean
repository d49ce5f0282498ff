/-
  Single operations on numbers that are natural: what each leaves in a walk; conditions: the bounds that each names.
-/
import Derived.Test.YtellclclpmofcaaA
import Derived.Laws.BitsAllLaws
import Derived.Laws.Shifts
namespace Go.Proofs.Ytellclclpmofcaa
open Go.RowKit

theorem shl_u64 (X s : Nat) (h : X <<< s < 18446744073709551616) (w : World) : (Op.shift .shl .u64 (X : Int) .u64 (s : Int)).run Try.prog w = .ok (.int .u64 ((X <<< s : Nat) : Int)) w := by
  rw [shift_shl_any .u64 .u64 _ _ (by omega)]
  rw [Nat.shiftLeft_eq] at *
  by_cases hs : s ≤ 64
  · rw [show min (s : Int).toNat IntKind.u64.bits = s by simp [IntKind.bits]; omega, IntKind.wrap_u64]
    have : ((X : Int) * 2 ^ s) = ((X * 2 ^ s : Nat) : Int) := by simp
    rw [this, Int.emod_eq_of_lt (by omega) (by omega)]
    rfl
  · have hX : X = 0 := by
      apply Classical.byContradiction
      intro hX
      have h1 : 2 ^ 64 ≤ 2 ^ s := Nat.pow_le_pow_right (by decide) (by omega)
      have h2 : 1 * 2 ^ s ≤ X * 2 ^ s := Nat.mul_le_mul_right _ (by omega)
      omega
    subst hX
    simp [IntKind.wrap_u64]

theorem shr_u64 (X s : Nat) (h : X < 18446744073709551616) (w : World) : (Op.shift .shr .u64 (X : Int) .u64 (s : Int)).run Try.prog w = .ok (.int .u64 ((X >>> s : Nat) : Int)) w := by
  rw [shift_shr_any .u64 .u64 _ _ (by omega)]
  rw [Nat.shiftRight_eq_div_pow]
  by_cases hs : s ≤ 64
  · rw [show min (s : Int).toNat IntKind.u64.bits = s by simp [IntKind.bits]; omega]
    simp
  · rw [show min (s : Int).toNat IntKind.u64.bits = 64 by simp [IntKind.bits]; omega]
    have h1 : 2 ^ 64 ≤ 2 ^ s := Nat.pow_le_pow_right (by decide) (by omega)
    rw [Nat.div_eq_of_lt (by omega)]
    have : ((X : Int) / 2 ^ 64) = ((X / 2 ^ 64 : Nat) : Int) := by simp
    rw [this, Nat.div_eq_of_lt (by omega)]
    rfl

theorem shl_u8 (X s : Nat) (w : World) : (Op.shift .shl .u8 (X : Int) .u64 (s : Int)).run Try.prog w = .ok (.int .u8 (((X <<< s) % 256 : Nat) : Int)) w := by
  rw [shift_shl_any .u8 .u64 _ _ (by omega), Nat.shiftLeft_eq]
  by_cases hs : s ≤ 8
  · rw [show min (s : Int).toNat IntKind.u8.bits = s by simp [IntKind.bits]; omega]
    have : ((X : Int) * 2 ^ s) = ((X * 2 ^ s : Nat) : Int) := by simp
    rw [this]
    simp [IntKind.wrap, IntKind.bits, IntKind.signed]
  · rw [show min (s : Int).toNat IntKind.u8.bits = 8 by simp [IntKind.bits]; omega]
    have h1 : X * 2 ^ s = X * 2 ^ (s - 8) * 256 := by
      rw [Nat.mul_assoc]
      congr 1
      rw [show 256 = 2 ^ 8 by decide, ← Nat.pow_add]
      congr 1
      omega
    rw [h1, Nat.mul_mod_left]
    simp [IntKind.wrap, IntKind.bits, IntKind.signed]

section
variable {ops : Array Oper} {Q : Exit → Act → World → Prop} {a : Act} {w : World} {rest : List Oper} {dst : Option Tmp} {x y : Operand} {t t2 ty : TypeId} {pos : String} {after : Array Edge} {guard : Option (Nat × Bool)}

theorem wpList_bin {bop : BinOp} {vx vy v : Value} (hne : bop ≠ .eql ∧ bop ≠ .neq) (hx : a.eval x = vx) (hy : a.eval y = vy) (hw : Region.wanted ⟨dst, .binOp bop t x y t2, ty, pos, after, guard⟩ (yielded ops a.tmps) = true) (hr : (binOp bop t vx vy).run Try.prog w = .ok v w)
    (hK : wpList Try.prog ops Q rest (a.put dst v) w) : wpList Try.prog ops Q (⟨dst, .binOp bop t x y t2, ty, pos, after, guard⟩ :: rest) a w := by
  refine wpList_run hw v w ?_ hK
  simp only [execOp, hx, hy]
  have : eqGuard bop t x y vx vy = pure () := by
    unfold eqGuard
    cases bop <;> simp at hne ⊢
  rw [this]
  simp [hr]

theorem wpList_shl {X s Z : Nat} (hx : a.eval x = .int .u64 (X : Int)) (hy : a.eval y = .int .u64 (s : Int)) (hw : Region.wanted ⟨dst, .binOp .shl t x y t2, ty, pos, after, guard⟩ (yielded ops a.tmps) = true) (h : X <<< s < 18446744073709551616)
    (hz : X <<< s = Z) (hK : wpList Try.prog ops Q rest (a.put dst (.int .u64 (Z : Int))) w) : wpList Try.prog ops Q (⟨dst, .binOp .shl t x y t2, ty, pos, after, guard⟩ :: rest) a w := by
  subst hz
  exact wpList_bin (by simp) hx hy hw (shl_u64 X s h w) hK

/-- '1 << s'. -/
theorem wpList_shl1 {s Z : Nat} (hx : a.eval x = .int .u64 1) (hy : a.eval y = .int .u64 (s : Int)) (hw : Region.wanted ⟨dst, .binOp .shl t x y t2, ty, pos, after, guard⟩ (yielded ops a.tmps) = true) (h : s < 64)
    (hz : 2 ^ s = Z) (hK : wpList Try.prog ops Q rest (a.put dst (.int .u64 (Z : Int))) w) : wpList Try.prog ops Q (⟨dst, .binOp .shl t x y t2, ty, pos, after, guard⟩ :: rest) a w := by
  subst hz
  have hp : 2 ^ s < 2 ^ 64 := Nat.pow_lt_pow_right (by decide) h
  have := shl_u64 1 s (by rw [Nat.shiftLeft_eq, Nat.one_mul]; omega) w
  rw [Nat.shiftLeft_eq, Nat.one_mul] at this
  exact wpList_bin (by simp) hx hy hw this hK

theorem wpList_shr {X s Z : Nat} (hx : a.eval x = .int .u64 (X : Int)) (hy : a.eval y = .int .u64 (s : Int)) (hw : Region.wanted ⟨dst, .binOp .shr t x y t2, ty, pos, after, guard⟩ (yielded ops a.tmps) = true) (h : X < 18446744073709551616)
    (hz : X >>> s = Z) (hK : wpList Try.prog ops Q rest (a.put dst (.int .u64 (Z : Int))) w) : wpList Try.prog ops Q (⟨dst, .binOp .shr t x y t2, ty, pos, after, guard⟩ :: rest) a w := by
  subst hz
  exact wpList_bin (by simp) hx hy hw (shr_u64 X s h w) hK

theorem wpList_shl8 {X s Z : Nat} (hx : a.eval x = .int .u8 (X : Int)) (hy : a.eval y = .int .u64 (s : Int)) (hw : Region.wanted ⟨dst, .binOp .shl t x y t2, ty, pos, after, guard⟩ (yielded ops a.tmps) = true)
    (hz : (X <<< s) % 256 = Z) (hK : wpList Try.prog ops Q rest (a.put dst (.int .u8 (Z : Int))) w) : wpList Try.prog ops Q (⟨dst, .binOp .shl t x y t2, ty, pos, after, guard⟩ :: rest) a w := by
  subst hz
  exact wpList_bin (by simp) hx hy hw (shl_u8 X s w) hK

theorem wpList_and {X Y Z : Nat} (hx : a.eval x = .int .u64 (X : Int)) (hy : a.eval y = .int .u64 (Y : Int)) (hw : Region.wanted ⟨dst, .binOp .and t x y t2, ty, pos, after, guard⟩ (yielded ops a.tmps) = true) (h1 : X < 18446744073709551616) (h2 : Y < 18446744073709551616)
    (hz : X &&& Y = Z) (hK : wpList Try.prog ops Q rest (a.put dst (.int .u64 (Z : Int))) w) : wpList Try.prog ops Q (⟨dst, .binOp .and t x y t2, ty, pos, after, guard⟩ :: rest) a w := by
  subst hz
  exact wpList_bin (by simp) hx hy hw (by rw [binOp_and, intBits_and, u64_and _ _ (by omega) (by omega) (by omega) (by omega)]; simp) hK

theorem wpList_or {X Y Z : Nat} (hx : a.eval x = .int .u64 (X : Int)) (hy : a.eval y = .int .u64 (Y : Int)) (hw : Region.wanted ⟨dst, .binOp .or t x y t2, ty, pos, after, guard⟩ (yielded ops a.tmps) = true) (h1 : X < 18446744073709551616) (h2 : Y < 18446744073709551616)
    (hz : X ||| Y = Z) (hK : wpList Try.prog ops Q rest (a.put dst (.int .u64 (Z : Int))) w) : wpList Try.prog ops Q (⟨dst, .binOp .or t x y t2, ty, pos, after, guard⟩ :: rest) a w := by
  subst hz
  exact wpList_bin (by simp) hx hy hw (by rw [binOp_or, intBits_or, u64_or _ _ (by omega) (by omega) (by omega) (by omega)]; simp) hK

theorem wpList_or8 {X Y Z : Nat} (hx : a.eval x = .int .u8 (X : Int)) (hy : a.eval y = .int .u8 (Y : Int)) (hw : Region.wanted ⟨dst, .binOp .or t x y t2, ty, pos, after, guard⟩ (yielded ops a.tmps) = true) (h1 : X < 256) (h2 : Y < 256)
    (hz : X ||| Y = Z) (hK : wpList Try.prog ops Q rest (a.put dst (.int .u8 (Z : Int))) w) : wpList Try.prog ops Q (⟨dst, .binOp .or t x y t2, ty, pos, after, guard⟩ :: rest) a w := by
  subst hz
  exact wpList_bin (by simp) hx hy hw (by rw [binOp_or, intBits_or, u8_or _ _ (by omega) (by omega) (by omega) (by omega)]; simp) hK

/-- A difference. -/
theorem wpList_sub64 {X Y Z : Nat} (hx : a.eval x = .int .u64 (X : Int)) (hy : a.eval y = .int .u64 (Y : Int)) (hw : Region.wanted ⟨dst, .binOp .sub t x y t2, ty, pos, after, guard⟩ (yielded ops a.tmps) = true) (h1 : X < 18446744073709551616) (h2 : Y ≤ X)
    (hz : X - Y = Z) (hK : wpList Try.prog ops Q rest (a.put dst (.int .u64 (Z : Int))) w) : wpList Try.prog ops Q (⟨dst, .binOp .sub t x y t2, ty, pos, after, guard⟩ :: rest) a w := by
  subst hz
  exact wpList_bin (by simp) hx hy hw (by
      simp [binOp, Op.intArith, IntKind.wrap_u64]
      omega) hK

theorem wpList_sub1 {X Z : Nat} (hx : a.eval x = .int .u64 (X : Int)) (hy : a.eval y = .int .u64 1) (hw : Region.wanted ⟨dst, .binOp .sub t x y t2, ty, pos, after, guard⟩ (yielded ops a.tmps) = true) (h1 : X < 18446744073709551616) (h2 : 1 ≤ X)
    (hz : X - 1 = Z) (hK : wpList Try.prog ops Q rest (a.put dst (.int .u64 (Z : Int))) w) : wpList Try.prog ops Q (⟨dst, .binOp .sub t x y t2, ty, pos, after, guard⟩ :: rest) a w := by
  subst hz
  exact wpList_sub64 (Y := 1) hx hy hw h1 h2 rfl hK
/-- Numbers of kind int that are natural: quotient, rest, difference. -/
theorem wpList_quoI {X d Y : Nat} (hx : a.eval x = .int .i64 (X : Int)) (hy : a.eval y = .int .i64 (d : Int)) (hw : Region.wanted ⟨dst, .binOp .quo t x y t2, ty, pos, after, guard⟩ (yielded ops a.tmps) = true) (hd : 0 < d) (hX : X ≤ 9223372036854775807) (h : X / d = Y)
    (hK : wpList Try.prog ops Q rest (a.put dst (.int .i64 (Y : Int))) w) : wpList Try.prog ops Q (⟨dst, .binOp .quo t x y t2, ty, pos, after, guard⟩ :: rest) a w := by
  subst h
  have h1 : X / d ≤ X := Nat.div_le_self _ _
  refine wpList_bin (by simp) hx hy hw ?_ hK
  have h2 : ¬ (d = 0) := by omega
  have h3 : ((X / d : Nat) : Int) = (X : Int) / (d : Int) := Int.natCast_ediv _ _
  have h6 : (0 : Int) ≤ (X : Int) / d := by rw [← h3]; exact Int.natCast_nonneg _
  have h4 := wrapI64 ((X : Int) / (d : Int)) (by omega) (by omega)
  simp [binOp, Op.intDiv, h2, h4]

theorem wpList_remI {X d Y : Nat} (hx : a.eval x = .int .i64 (X : Int)) (hy : a.eval y = .int .i64 (d : Int)) (hw : Region.wanted ⟨dst, .binOp .rem t x y t2, ty, pos, after, guard⟩ (yielded ops a.tmps) = true) (hd : 0 < d) (hX : X ≤ 9223372036854775807) (h : X % d = Y)
    (hK : wpList Try.prog ops Q rest (a.put dst (.int .i64 (Y : Int))) w) : wpList Try.prog ops Q (⟨dst, .binOp .rem t x y t2, ty, pos, after, guard⟩ :: rest) a w := by
  subst h
  have h1 : X % d ≤ X := Nat.mod_le _ _
  refine wpList_bin (by simp) hx hy hw ?_ hK
  have h2 : ¬ (d = 0) := by omega
  have h3 : ((X % d : Nat) : Int) = (X : Int) % (d : Int) := Int.natCast_emod _ _
  have h5 : (X : Int).tmod d = (X : Int) % d := Int.tmod_eq_emod_of_nonneg (by omega)
  simp [binOp, Op.intDiv, h2, h5]

theorem wpList_subI {X Y Z : Nat} (hx : a.eval x = .int .i64 (X : Int)) (hy : a.eval y = .int .i64 (Y : Int)) (hw : Region.wanted ⟨dst, .binOp .sub t x y t2, ty, pos, after, guard⟩ (yielded ops a.tmps) = true) (hX : X ≤ 9223372036854775807) (h : X = Z + Y)
    (hK : wpList Try.prog ops Q rest (a.put dst (.int .i64 (Z : Int))) w) : wpList Try.prog ops Q (⟨dst, .binOp .sub t x y t2, ty, pos, after, guard⟩ :: rest) a w := by
  refine wpList_bin (by simp) hx hy hw ?_ hK
  have h3 : (X : Int) - (Y : Int) = (Z : Int) := by omega
  simp [binOp, Op.intArith, h3, wrapI64 (Z : Int) (by omega) (by omega)]
end

end Go.Proofs.Ytellclclpmofcaa
