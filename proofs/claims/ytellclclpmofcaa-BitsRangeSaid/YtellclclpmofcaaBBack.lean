/-
  Plain laws: numbers of any widths, and of any ranges, are read from their bits as they were; conditions: none.
-/
import Derived.Test.YtellclclpmofcaaBAwake
namespace Go.Proofs.Ytellclclpmofcaa
open Go.RowKit
set_option linter.unusedVariables false

/-- What is put of a number, its code, and how wide that is. -/
def putV (x wd : Nat) (r : Bool) : Nat := if r then x % (wd + 1) else if wd % 65 < 64 then x &&& (2 ^ (wd % 65) - 1) else x
def putC (x wd : Nat) (r : Bool) : Nat := if r then codeV (putV x wd r) (wd + 1) else putV x wd r
def putW (x wd : Nat) (r : Bool) : Nat := if r then codeW (putV x wd r) (wd + 1) else wd % 65

theorem putV_lt {x wd : Nat} {r : Bool} (hx : x < 18446744073709551616) : putV x wd r < 18446744073709551616 := by
  unfold putV
  cases r
  · simp only [Bool.false_eq_true, if_false]
    split
    · exact Nat.lt_of_le_of_lt Nat.and_le_left hx
    · exact hx
  · simp only [if_true]
    exact Nat.lt_of_le_of_lt (Nat.mod_le _ _) hx

theorem putC_fits {x wd : Nat} {r : Bool} (hx : x < 18446744073709551616) (hw : wd ≤ 255) : putC x wd r < 2 ^ putW x wd r ∧ putW x wd r ≤ 64 := by
  unfold putC putW
  cases r
  · simp only [Bool.false_eq_true, if_false]
    unfold putV
    simp only [Bool.false_eq_true, if_false]
    refine ⟨?_, by omega⟩
    split
    · exact Nat.and_lt_two_pow _ (by have := Nat.one_le_two_pow (n := wd % 65); omega)
    · rw [show wd % 65 = 64 by omega]
      exact hx
  · simp only [if_true]
    have hv : putV x wd true < wd + 1 := by
      unfold putV
      simp only [if_true]
      exact Nat.mod_lt _ (by omega)
    obtain ⟨h1, h2⟩ := code_fits hv (by omega)
    exact ⟨h1, by omega⟩

/-- One read gives what was put. -/
theorem read_step {l : List UInt8} {p x wd : Nat} {r : Bool} (hx : x < 18446744073709551616) (hw : wd ≤ 255) (hlen : p + putW x wd r ≤ 8 * l.length) (hnum : num l p (putW x wd r) = putC x wd r) :
    if r then rngP l p 0 ((wd + 1 : Nat) : Int) = ((p + putW x wd r : Nat) : Int) ∧ rngE l p 0 ((wd + 1 : Nat) : Int) = 0 ∧ rngN l p 0 ((wd + 1 : Nat) : Int) = putV x wd r
    else getP l p 0 ((wd % 65 : Nat) : Int) = ((p + putW x wd r : Nat) : Int) ∧ getE l p 0 ((wd % 65 : Nat) : Int) = 0 ∧ getN l p 0 ((wd % 65 : Nat) : Int) = putV x wd r := by
  have hrdy : rdyB l (p : Int) 0 = true := by simp [rdyB]; omega
  cases r
  · simp only [Bool.false_eq_true, if_false]
    simp only [putW, putC, Bool.false_eq_true, if_false] at hlen hnum ⊢
    have hb : getBad l (p : Int) 0 ((wd % 65 : Nat) : Int) = 0 := by rw [getBad, if_neg (by rw [hrdy]; simp; omega), if_neg (by omega)]
    refine ⟨by rw [getP, hb, if_pos rfl]; omega, by rw [getE, hb]; rfl, ?_⟩
    rw [getN, hb, if_pos rfl, Int.toNat_natCast, Int.toNat_natCast]
    exact hnum
  · simp only [if_true]
    simp only [putW, putC, if_true] at hlen hnum ⊢
    have hv : putV x wd true < wd + 1 := by
      unfold putV
      simp only [if_true]
      exact Nat.mod_lt _ (by omega)
    obtain ⟨v, hv0⟩ : ∃ v, v = putV x wd true := ⟨_, rfl⟩
    rw [← hv0] at hlen hnum hv ⊢
    obtain ⟨gs1, gs2, gs3, gs4⟩ := gap_spec (n := wd + 1) (by omega)
    have gs6 := (blen_spec (n := wd + 1) (by omega)).2.2
    have hns := num_succ l p (blen (wd + 1) - 1)
    rw [Nat.sub_add_cancel gs6] at hns
    have hnb : ¬ (rdyB l (p : Int) 0 = false ∨ ((wd + 1 : Nat) : Int) < 1 ∨ 4294967296 < ((wd + 1 : Nat) : Int)) := by
      rw [hrdy]
      simp
      omega
    unfold codeW codeV at *
    by_cases hg : v < gapM (wd + 1)
    · rw [if_pos hg] at hlen hnum ⊢
      rw [if_pos hg] at hnum
      have hb : rngBad l (p : Int) 0 ((wd + 1 : Nat) : Int) = 0 := by
        rw [rngBad, if_neg hnb]
        simp only [Int.toNat_natCast]
        rw [if_neg (by omega), if_pos (by rw [hnum]; exact hg)]
      refine ⟨?_, by rw [rngE, hb]; rfl, ?_⟩
      · rw [rngP, hb, if_pos rfl, rngW]
        simp only [Int.toNat_natCast]
        rw [if_pos (by rw [hnum]; exact hg)]
        omega
      · rw [rngN, hb, if_pos rfl]
        simp only [Int.toNat_natCast]
        rw [if_pos (by rw [hnum]; exact hg)]
        exact hnum
    · rw [if_neg hg] at hlen hnum ⊢
      rw [if_neg hg] at hnum
      have hbit := Bool.toNat_le (bitAt l (p + (blen (wd + 1) - 1)))
      have hge : ¬ num l p (blen (wd + 1) - 1) < gapM (wd + 1) := by omega
      have hb : rngBad l (p : Int) 0 ((wd + 1 : Nat) : Int) = 0 := by
        rw [rngBad, if_neg hnb]
        simp only [Int.toNat_natCast]
        rw [if_neg (by omega), if_neg hge, if_neg (by omega)]
      refine ⟨?_, by rw [rngE, hb]; rfl, ?_⟩
      · rw [rngP, hb, if_pos rfl, rngW]
        simp only [Int.toNat_natCast]
        rw [if_neg hge]
        omega
      · rw [rngN, hb, if_pos rfl]
        simp only [Int.toNat_natCast]
        rw [if_neg hge, hnum]
        omega

/-- One read where bits are missing. -/
theorem read_cut {l : List UInt8} {p x wd : Nat} {r : Bool} (hx : x < 18446744073709551616) (hw : wd ≤ 255) (hp : p ≤ 8 * l.length) (hlen : 8 * l.length < p + putW x wd r) (hbits : ∀ i, i < putW x wd r → p + i < 8 * l.length → bitAt l (p + i) = (putC x wd r).testBit (putW x wd r - 1 - i)) :
    if r then rngP l p 0 ((wd + 1 : Nat) : Int) = (p : Int) ∧ rngE l p 0 ((wd + 1 : Nat) : Int) = 2
    else getP l p 0 ((wd % 65 : Nat) : Int) = (p : Int) ∧ getE l p 0 ((wd % 65 : Nat) : Int) = 2 := by
  have hrdy : rdyB l (p : Int) 0 = true := by simp [rdyB]; omega
  cases r
  · simp only [Bool.false_eq_true, if_false]
    simp only [putW, Bool.false_eq_true, if_false] at hlen
    have hb : getBad l (p : Int) 0 ((wd % 65 : Nat) : Int) = 2 := by rw [getBad, if_neg (by rw [hrdy]; simp; omega), if_pos (by omega)]
    exact ⟨by rw [getP, hb, if_neg (by decide)], by rw [getE, hb]; rfl⟩
  · simp only [if_true]
    simp only [putW, putC, if_true] at hlen hbits
    have hv : putV x wd true < wd + 1 := by
      unfold putV
      simp only [if_true]
      exact Nat.mod_lt _ (by omega)
    obtain ⟨v, hv0⟩ : ∃ v, v = putV x wd true := ⟨_, rfl⟩
    rw [← hv0] at hlen hbits hv
    obtain ⟨gs1, gs2, gs3, gs4⟩ := gap_spec (n := wd + 1) (by omega)
    have gs6 := (blen_spec (n := wd + 1) (by omega)).2.2
    have hnb : ¬ (rdyB l (p : Int) 0 = false ∨ ((wd + 1 : Nat) : Int) < 1 ∨ 4294967296 < ((wd + 1 : Nat) : Int)) := by
      rw [hrdy]
      simp
      omega
    have hb : rngBad l (p : Int) 0 ((wd + 1 : Nat) : Int) = 2 := by
      rw [rngBad, if_neg hnb]
      simp only [Int.toNat_natCast]
      by_cases h1 : 8 * (l.length : Int) - p < (blen (wd + 1) : Int) - 1
      · rw [if_pos h1]
      · rw [if_neg h1]
        unfold codeW codeV at *
        by_cases hg : v < gapM (wd + 1)
        · rw [if_pos hg] at hlen
          omega
        · rw [if_neg hg] at hlen hbits
          rw [if_neg hg] at hbits
          have hnum : num l p (blen (wd + 1) - 1) = (v + gapM (wd + 1)) / 2 := by
            refine Nat.eq_of_testBit_eq fun j => ?_
            rw [num_testBit, ← Nat.testBit_succ]
            by_cases hj : j < blen (wd + 1) - 1
            · rw [hbits _ (by omega) (by omega), show blen (wd + 1) - 1 - (blen (wd + 1) - 1 - 1 - j) = j + 1 by omega]
              simp [hj]
            · rw [decide_eq_false hj, Bool.false_and, Nat.testBit_lt_two_pow]
              have h5 : 2 ^ blen (wd + 1) ≤ 2 ^ (j + 1) := Nat.pow_le_pow_right (by decide) (by omega)
              omega
          rw [if_neg (by rw [hnum]; omega), if_pos (by omega)]
    exact ⟨by rw [rngP, hb, if_neg (by decide)], by rw [rngE, hb]; rfl⟩

/-! ### All numbers -/

/-- Where the bits of the k-th number begin, and the ink ahead of it. -/
def posAt (l : List Nat) (wd : List UInt8) (rg : List Bool) : Nat → Nat
  | 0 => 0
  | k + 1 => posAt l wd rg k + putW (l.getD k 0) (wd.getD k 0).toNat (rg.getD k false)
def inkAt (l : List Nat) (wd : List UInt8) (rg : List Bool) : Nat → List UInt8
  | 0 => []
  | k + 1 => inkAdd (inkAt l wd rg k) (posAt l wd rg k) (putC (l.getD k 0) (wd.getD k 0).toNat (rg.getD k false)) (putW (l.getD k 0) (wd.getD k 0).toNat (rg.getD k false))

theorem inkAt_ok (l : List Nat) (wd : List UInt8) (rg : List Bool) : ∀ k, inkB (inkAt l wd rg k) (posAt l wd rg k : Int) = true
  | 0 => by show inkB [] ((0 : Nat) : Int) = true; decide
  | k + 1 => inkD_ok _ _ _ _ _

theorem inkAt_length (l : List Nat) (wd : List UInt8) (rg : List Bool) (k : Nat) : (inkAt l wd rg k).length = (posAt l wd rg k + 7) / 8 := by
  have := (inkB_spec.1 (inkAt_ok l wd rg k)).2.1
  omega

theorem posAt_mono (l : List Nat) (wd : List UInt8) (rg : List Bool) {i k : Nat} (h : i ≤ k) : posAt l wd rg i ≤ posAt l wd rg k := by
  induction h with
  | refl => exact Nat.le_refl _
  | step _ ih => exact Nat.le_trans ih (by rw [posAt]; omega)

theorem posAt_le {l : List Nat} {wd : List UInt8} {rg : List Bool} (hx : ∀ i, l.getD i 0 < 18446744073709551616) : ∀ k, posAt l wd rg k ≤ 64 * k
  | 0 => Nat.le_refl _
  | k + 1 => by
    have h1 := posAt_le (wd := wd) (rg := rg) hx k
    have h2 := (putC_fits (r := rg.getD k false) (hx k) (show (wd.getD k 0).toNat ≤ 255 by have := (wd.getD k 0).toNat_lt; omega)).2
    rw [posAt]
    omega

/-- The bits of the i-th number stay. -/
theorem inkAt_bits (l : List Nat) (wd : List UInt8) (rg : List Bool) (i j : Nat) (hj : j < putW (l.getD i 0) (wd.getD i 0).toNat (rg.getD i false)) :
    ∀ k, i < k → bitAt (inkAt l wd rg k) (posAt l wd rg i + j) = (putC (l.getD i 0) (wd.getD i 0).toNat (rg.getD i false)).testBit (putW (l.getD i 0) (wd.getD i 0).toNat (rg.getD i false) - 1 - j)
  | 0, h => by omega
  | k + 1, h => by
    rw [inkAt, inkAdd, bitAt_inkD, inkF]
    by_cases hik : i = k
    · subst hik
      rw [if_neg (by omega), if_pos (by omega)]
      congr 1
      omega
    · have h1 := posAt_mono l wd rg (show i + 1 ≤ k by omega)
      rw [posAt] at h1
      rw [if_pos (by omega)]
      exact inkAt_bits l wd rg i j hj k (by omega)

theorem inkAt_num {l : List Nat} {wd : List UInt8} {rg : List Bool} (hx : ∀ i, l.getD i 0 < 18446744073709551616) {b : List UInt8} {i k : Nat} (hik : i < k) (hb : ∀ j, j < posAt l wd rg (i + 1) → bitAt b j = bitAt (inkAt l wd rg k) j) :
    num b (posAt l wd rg i) (putW (l.getD i 0) (wd.getD i 0).toNat (rg.getD i false)) = putC (l.getD i 0) (wd.getD i 0).toNat (rg.getD i false) := by
  have hf := (putC_fits (r := rg.getD i false) (hx i) (show (wd.getD i 0).toNat ≤ 255 by have := (wd.getD i 0).toNat_lt; omega)).1
  refine Nat.eq_of_testBit_eq fun j => ?_
  rw [num_testBit]
  by_cases hj : j < putW (l.getD i 0) (wd.getD i 0).toNat (rg.getD i false)
  · rw [hb _ (by rw [posAt]; omega), inkAt_bits l wd rg i _ (by omega) k hik, show putW (l.getD i 0) (wd.getD i 0).toNat (rg.getD i false) - 1 - (putW (l.getD i 0) (wd.getD i 0).toNat (rg.getD i false) - 1 - j) = j by omega]
    rw [decide_eq_true hj, Bool.true_and]
  · rw [decide_eq_false hj, Bool.false_and, Nat.testBit_lt_two_pow]
    exact Nat.lt_of_lt_of_le hf (Nat.pow_le_pow_right (by decide) (by omega))

/-- The first number of which bits are missing. -/
theorem first_cut (q : Nat → Nat) (c : Nat) : ∀ n, q 0 ≤ c → c < q n → ∃ k, k < n ∧ q k ≤ c ∧ c < q (k + 1)
  | 0, h0, hn => by omega
  | n + 1, h0, hn => by
    by_cases h : c < q n
    · obtain ⟨k, h1, h2, h3⟩ := first_cut q c n h0 h
      exact ⟨k, by omega, h2, h3⟩
    · exact ⟨n, by omega, by omega, hn⟩

end Go.Proofs.Ytellclclpmofcaa
