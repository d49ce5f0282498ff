/-
  Plain laws: the codes of a range's numbers, their signs, and that none begins another one; conditions: none.
-/
import Derived.Test.YtellclclpmofcaaBBack
namespace Go.Proofs.Ytellclclpmofcaa
open Go.RowKit
set_option linter.unusedVariables false

/-- The ink of one number of a range. -/
def rngInk (v N : Nat) : List UInt8 := inkAdd [] 0 (codeV v N) (codeW v N)

theorem rngInk_length (v N : Nat) : (rngInk v N).length = (codeW v N + 7) / 8 := by
  unfold rngInk inkAdd
  rw [inkD_length]
  omega

theorem rngInk_bit (v N i : Nat) : bitAt (rngInk v N) i = (decide (i < codeW v N) && (codeV v N).testBit (codeW v N - 1 - i)) := by
  unfold rngInk inkAdd
  rw [bitAt_inkD, inkF, if_neg (by omega)]
  by_cases h : i < codeW v N
  · rw [if_pos (by omega), decide_eq_true h, Bool.true_and, Nat.zero_add]
  · rw [if_neg (by omega), decide_eq_false h, Bool.false_and]

theorem rng_fits {v N : Nat} (h : v < N) (hN : N ≤ 4294967296) : codeV v N < 2 ^ codeW v N := (code_fits h hN).1

theorem codeW_le {v N : Nat} (hN : N ≤ 64) : codeW v N ≤ 7 := by
  have h : blen N ≤ 7 := blen_le (k := 7) (by omega)
  unfold codeW
  split <;> omega

theorem codeW_cases (v N : Nat) : codeW v N = blen N ∨ codeW v N = blen N - 1 := by
  unfold codeW
  split
  · exact .inr rfl
  · exact .inl rfl

/-- The code is added to no ink. -/
theorem rad_first {v N : Nat} (h : v < N) (hN : N ≤ 64) : radBad [] 0 v N = 0 ∧ radL [] 0 v N = rngInk v N ∧ radM [] 0 v N = (codeW v N : Int) := by
  have hb : radBad [] 0 v N = 0 := by
    rw [radBad, if_neg (by simp [show inkB [] 0 = true by decide]; omega), if_neg (by omega)]
  refine ⟨hb, ?_, ?_⟩
  · rw [radL, hb, if_pos rfl]
    rfl
  · rw [radM, hb, if_pos rfl]
    omega

/-- And read back, whatever is behind. -/
theorem rng_back {v N : Nat} (h : v < N) (hN : N ≤ 64) (m : List UInt8) :
    rngP (rngInk v N ++ m) 0 0 (N : Int) = (codeW v N : Int) ∧ rngE (rngInk v N ++ m) 0 0 (N : Int) = 0 ∧ rngN (rngInk v N ++ m) 0 0 (N : Int) = v := by
  obtain ⟨wd, rfl⟩ : ∃ wd, N = wd + 1 := ⟨N - 1, by omega⟩
  have hp : putV v wd true = v := by
    unfold putV
    rw [if_pos rfl]
    exact Nat.mod_eq_of_lt h
  have hl := rngInk_length v (wd + 1)
  have hW : putW v wd true = codeW v (wd + 1) := by rw [putW, if_pos rfl, hp]
  have hC : putC v wd true = codeV v (wd + 1) := by rw [putC, if_pos rfl, hp]
  have hnum : num (rngInk v (wd + 1) ++ m) 0 (codeW v (wd + 1)) = codeV v (wd + 1) := by
    refine Nat.eq_of_testBit_eq fun j => ?_
    rw [num_testBit]
    by_cases hj : j < codeW v (wd + 1)
    · rw [bitAt_append, if_pos (by omega), rngInk_bit, decide_eq_true hj, Bool.true_and, decide_eq_true (by omega), Bool.true_and]
      congr 1
      omega
    · rw [decide_eq_false hj, Bool.false_and, Nat.testBit_lt_two_pow]
      exact Nat.lt_of_lt_of_le (rng_fits h (by omega)) (Nat.pow_le_pow_right (by decide) (by omega))
  have := read_step (l := rngInk v (wd + 1) ++ m) (p := 0) (x := v) (wd := wd) (r := true) (by omega) (by omega) (by rw [hW, List.length_append]; omega) (by rw [hW, hC]; exact hnum)
  rw [if_pos rfl, hW, hp, Nat.zero_add] at this
  exact this

/-! ### Signs -/

def sign (b : Bool) : UInt8 := if b then 49 else 48
theorem sign_inj {a b : Bool} (h : sign a = sign b) : a = b := by
  cases a <;> cases b <;> first | rfl | exact absurd h (by decide)

/-- The signs of a number's code. -/
def signs (v N : Nat) : List UInt8 := (List.range (codeW v N)).map fun i => sign (bitAt (rngInk v N) i)

theorem signs_length (v N : Nat) : (signs v N).length = codeW v N := by simp [signs]

theorem signs_get {v N i : Nat} (h : i < codeW v N) : (signs v N)[i]? = some (sign ((codeV v N).testBit (codeW v N - 1 - i))) := by
  unfold signs
  rw [List.getElem?_map, List.getElem?_range h, Option.map_some, rngInk_bit, decide_eq_true h, Bool.true_and]

theorem signs_take {v N i : Nat} (h : i < codeW v N) : (signs v N).take (i + 1) = (signs v N).take i ++ [sign (bitAt (rngInk v N) i)] := by
  rw [List.take_add_one, signs_get h, rngInk_bit, decide_eq_true h, Bool.true_and]
  rfl

/-- What one bit reads as. -/
theorem bit_get {v N i : Nat} (h : i < codeW v N) : getP (rngInk v N) (i : Int) 0 1 = ((i + 1 : Nat) : Int) ∧ getE (rngInk v N) (i : Int) 0 1 = 0 ∧ getN (rngInk v N) (i : Int) 0 1 = (bitAt (rngInk v N) i).toNat := by
  have hl := rngInk_length v N
  have hr : rdyB (rngInk v N) (i : Int) 0 = true := by simp [rdyB]; omega
  have hb : getBad (rngInk v N) (i : Int) 0 1 = 0 := by rw [getBad, if_neg (by rw [hr]; simp), if_neg (by omega)]
  refine ⟨by rw [getP, hb, if_pos rfl]; omega, by rw [getE, hb]; rfl, ?_⟩
  rw [getN, hb, if_pos rfl, Int.toNat_natCast]
  show num _ _ (0 + 1) = _
  rw [num_succ, num_zero]
  simp

theorem codeW_mono {u v : Nat} (N : Nat) (h : u ≤ v) : codeW u N ≤ codeW v N := by
  unfold codeW
  split
  · split <;> omega
  · rw [if_neg (by omega)]
    omega

/-- No code begins another one. -/
theorem signs_apart {u v N : Nat} (h : u < v) (hv : v < N) (hN : N ≤ 64) : signs u N ≠ (signs v N).take (signs u N).length := by
  intro e
  rw [signs_length] at e
  have hm := codeW_mono N (show u ≤ v by omega)
  have hu := rng_fits (show u < N by omega) (by omega)
  have hf := rng_fits hv (by omega)
  have hs := gap_spec (n := N) (by omega)
  have hb := (blen_spec (n := N) (by omega)).2.2
  -- the bits
  have hbit : ∀ j, j < codeW u N → (codeV u N).testBit j = (codeV v N).testBit (codeW v N - codeW u N + j) := by
    intro j hj
    have e1 := congrArg (fun l => l[codeW u N - 1 - j]?) e
    rw [signs_get (by omega), List.getElem?_take_of_lt (by omega), signs_get (by omega)] at e1
    have := sign_inj (Option.some.inj e1)
    rw [show codeW u N - 1 - (codeW u N - 1 - j) = j by omega, show codeW v N - 1 - (codeW u N - 1 - j) = codeW v N - codeW u N + j by omega] at this
    exact this
  have hq : codeV u N = codeV v N >>> (codeW v N - codeW u N) := by
    refine Nat.eq_of_testBit_eq fun j => ?_
    rw [Nat.testBit_shiftRight]
    by_cases hj : j < codeW u N
    · exact hbit j hj
    · rw [Nat.testBit_lt_two_pow (Nat.lt_of_lt_of_le hu (Nat.pow_le_pow_right (by decide) (by omega))), Nat.testBit_lt_two_pow (Nat.lt_of_lt_of_le hf (Nat.pow_le_pow_right (by decide) (by omega)))]
  unfold codeV codeW at hq
  by_cases g1 : v < gapM N
  · rw [if_pos (by omega), if_pos g1, if_pos g1, if_pos (by omega), Nat.sub_self, Nat.shiftRight_zero] at hq
    omega
  · rw [if_neg g1, if_neg g1] at hq
    by_cases g2 : u < gapM N
    · rw [if_pos g2, if_pos g2, show blen N - (blen N - 1) = 1 by omega, Nat.shiftRight_eq_div_pow] at hq
      omega
    · rw [if_neg g2, if_neg g2, Nat.sub_self, Nat.shiftRight_zero] at hq
      omega

/-- How many binary digits: where the count ends. -/
theorem blen_go {N w : Nat} (h : 0 < N >>> w) : w < blen N := by
  rw [Nat.shiftRight_eq_div_pow] at h
  have h1 : 2 ^ w ≤ N := by
    rcases Nat.lt_or_ge N (2 ^ w) with h2 | h2
    · rw [Nat.div_eq_of_lt h2] at h; omega
    · exact h2
  obtain ⟨g1, g2, g3⟩ := blen_spec (n := N) (Nat.le_trans Nat.one_le_two_pow h1)
  exact (Nat.pow_lt_pow_iff_right (a := 2) (by decide)).1 (Nat.lt_of_le_of_lt h1 g2)

theorem blen_stop {N w : Nat} (h1 : 1 ≤ N) (h : N >>> w = 0) : blen N ≤ w := by
  rw [Nat.shiftRight_eq_div_pow] at h
  exact blen_le ((Nat.div_eq_zero_iff_lt (Nat.pow_pos (by decide))).1 h)

end Go.Proofs.Ytellclclpmofcaa
