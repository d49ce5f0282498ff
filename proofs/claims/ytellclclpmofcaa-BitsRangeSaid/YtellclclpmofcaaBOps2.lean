/-
  Shifts by a count of any kind; single operations as steps of a region; conditions: the bounds that each names.
-/
import Derived.Test.YtellclclpmofcaaBOps
import Derived.Test.YtellclclpmofcaaN
namespace Go.Proofs.Ytellclclpmofcaa
open Go.RowKit

theorem shl_any (yk : IntKind) (X s : Nat) (w : World) : (Op.shift .shl .u64 (X : Int) yk (s : Int)).run Try.prog w = (Op.shift .shl .u64 (X : Int) .u64 (s : Int)).run Try.prog w := by
  rw [shift_shl_any .u64 yk _ _ (by omega), shift_shl_any .u64 .u64 _ _ (by omega)]

theorem shr_any (yk : IntKind) (X s : Nat) (w : World) : (Op.shift .shr .u64 (X : Int) yk (s : Int)).run Try.prog w = (Op.shift .shr .u64 (X : Int) .u64 (s : Int)).run Try.prog w := by
  rw [shift_shr_any .u64 yk _ _ (by omega), shift_shr_any .u64 .u64 _ _ (by omega)]

section
variable {ops : Array Oper} {Q : Exit → Act → World → Prop} {K : Act → World → Prop} {a : Act} {w : World} {rest : List Oper} {dst : Option Tmp} {x y : Operand} {t t2 ty : TypeId} {pos : String} {after : Array Edge} {guard : Option (Nat × Bool)} {yk : IntKind}

theorem wpList_shlK {X s Z : Nat} (hx : a.eval x = .int .u64 (X : Int)) (hy : a.eval y = .int yk (s : Int)) (hw : Region.wanted ⟨dst, .binOp .shl t x y t2, ty, pos, after, guard⟩ (yielded ops a.tmps) = true) (h : X <<< s < 18446744073709551616)
    (hz : X <<< s = Z) (hK : wpList Try.prog ops Q rest (a.put dst (.int .u64 (Z : Int))) w) : wpList Try.prog ops Q (⟨dst, .binOp .shl t x y t2, ty, pos, after, guard⟩ :: rest) a w := by
  subst hz
  exact wpList_bin (by simp) hx hy hw ((shl_any yk X s w).trans (shl_u64 X s h w)) hK

theorem wpList_shl1K {s Z : Nat} (hx : a.eval x = .int .u64 1) (hy : a.eval y = .int yk (s : Int)) (hw : Region.wanted ⟨dst, .binOp .shl t x y t2, ty, pos, after, guard⟩ (yielded ops a.tmps) = true) (h : s < 64)
    (hz : 2 ^ s = Z) (hK : wpList Try.prog ops Q rest (a.put dst (.int .u64 (Z : Int))) w) : wpList Try.prog ops Q (⟨dst, .binOp .shl t x y t2, ty, pos, after, guard⟩ :: rest) a w := by
  subst hz
  have hp : 2 ^ s < 2 ^ 64 := Nat.pow_lt_pow_right (by decide) h
  have := (shl_any yk 1 s w).trans (shl_u64 1 s (by rw [Nat.shiftLeft_eq, Nat.one_mul]; omega) w)
  rw [Nat.shiftLeft_eq, Nat.one_mul] at this
  exact wpList_bin (by simp) hx hy hw this hK

theorem wpList_shrK {X s Z : Nat} (hx : a.eval x = .int .u64 (X : Int)) (hy : a.eval y = .int yk (s : Int)) (hw : Region.wanted ⟨dst, .binOp .shr t x y t2, ty, pos, after, guard⟩ (yielded ops a.tmps) = true) (h : X < 18446744073709551616)
    (hz : X >>> s = Z) (hK : wpList Try.prog ops Q rest (a.put dst (.int .u64 (Z : Int))) w) : wpList Try.prog ops Q (⟨dst, .binOp .shr t x y t2, ty, pos, after, guard⟩ :: rest) a w := by
  subst hz
  exact wpList_bin (by simp) hx hy hw ((shr_any yk X s w).trans (shr_u64 X s h w)) hK

/-- An operation on two values as a step of a region. -/
theorem wp_bin_of {bop : BinOp} {vx vy v : Value} (hne : bop ≠ .eql ∧ bop ≠ .neq) (hx : a.eval x = vx) (hy : a.eval y = vy) (hr : (binOp bop t vx vy).run Try.prog w = .ok v w) (hK : K (a.put dst v) w) :
    (Oper.mk dst (.binOp bop t x y t2) ty pos after guard).wp Try.prog a w K Q := by
  have he : eqGuard bop t x y vx vy = pure () := by
    unfold eqGuard
    cases bop <;> simp at hne ⊢
  have h : (execOp a.eval (Oper.mk dst (.binOp bop t x y t2) ty pos after guard)).run Try.prog w = .ok (.value v) w := by
    simp only [execOp, hx, hy]
    rw [he]
    simp [hr]
  unfold Oper.wp
  rw [h]
  exact hK

theorem run_shr {X s Z : Nat} (h : X < 18446744073709551616) (hz : X >>> s = Z) : (binOp .shr t (.int .u64 (X : Int)) (.int yk (s : Int))).run Try.prog w = .ok (.int .u64 (Z : Int)) w := by
  subst hz
  exact (shr_any yk X s w).trans (shr_u64 X s h w)

theorem run_shl1 {s Z : Nat} (h : s < 64) (hz : 2 ^ s = Z) : (binOp .shl t (.int .u64 1) (.int yk (s : Int))).run Try.prog w = .ok (.int .u64 (Z : Int)) w := by
  subst hz
  have hp : 2 ^ s < 2 ^ 64 := Nat.pow_lt_pow_right (by decide) h
  have := (shl_any yk 1 s w).trans (shl_u64 1 s (by rw [Nat.shiftLeft_eq, Nat.one_mul]; omega) w)
  rw [Nat.shiftLeft_eq, Nat.one_mul] at this
  exact this

theorem run_sub1 {X Z : Nat} (h1 : X < 18446744073709551616) (h2 : 1 ≤ X) (hz : X - 1 = Z) : (binOp .sub t (.int .u64 (X : Int)) (.int .u64 1)).run Try.prog w = .ok (.int .u64 (Z : Int)) w := by
  subst hz
  simp [binOp, Op.intArith, IntKind.wrap_u64]
  omega

theorem run_and {X Y Z : Nat} (h1 : X < 18446744073709551616) (h2 : Y < 18446744073709551616) (hz : X &&& Y = Z) : (binOp .and t (.int .u64 (X : Int)) (.int .u64 (Y : Int))).run Try.prog w = .ok (.int .u64 (Z : Int)) w := by
  subst hz
  rw [binOp_and, intBits_and, u64_and _ _ (by omega) (by omega) (by omega) (by omega)]
  simp
end

end Go.Proofs.Ytellclclpmofcaa
