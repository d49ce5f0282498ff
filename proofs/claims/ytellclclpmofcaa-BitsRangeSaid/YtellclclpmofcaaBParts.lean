/-
  Plain laws of reads and of inks in two parts; conditions: none.
-/
import Derived.Test.YtellclclpmofcaaBAwake
import Derived.Test.YtellclclpmofcaaBOps2
namespace Go.Proofs.Ytellclclpmofcaa
open Go.RowKit

/-- A read in two parts. -/
theorem parts_get (l : List UInt8) (P E : Int) (x y : Nat) (hx : x ≤ 32) (hy : y ≤ 31) :
    (getE l (getP l P E x) (getE l P E x) y = 0 ∧ getE l P E ((x + y : Nat) : Int) = 0 ∧ getP l P E ((x + y : Nat) : Int) = getP l (getP l P E x) (getE l P E x) y ∧
      getN l P E ((x + y : Nat) : Int) = getN l P E x <<< y + getN l (getP l P E x) (getE l P E x) y) ∨
    (getE l (getP l P E x) (getE l P E x) y ≠ 0 ∧ getE l P E ((x + y : Nat) : Int) ≠ 0) := by
  by_cases hr : rdyB l P E = true
  · have hr2 := hr
    simp only [rdyB, Bool.and_eq_true, decide_eq_true_eq] at hr2
    obtain ⟨rfl, h1, h2⟩ := hr2
    have hb : ∀ k : Nat, k ≤ 64 → getBad l P 0 k = if 8 * (l.length : Int) - P < k then 2 else 0 := by
      intro k hk
      rw [getBad, if_neg (by rw [hr]; simp; omega)]
    have bx := hb x (by omega)
    have bxy := hb (x + y) (by omega)
    by_cases c1 : 8 * (l.length : Int) - P < x
    · right
      rw [if_pos c1] at bx
      rw [if_pos (by omega)] at bxy
      have e1 : getE l P 0 x = 2 := by rw [getE, bx]; rfl
      have p1 : getP l P 0 x = P := by rw [getP, bx]; rfl
      rw [e1, p1]
      refine ⟨?_, by rw [getE, bxy]; decide⟩
      rw [getE, orE, if_neg (by decide)]
      decide
    · rw [if_neg c1] at bx
      have e1 : getE l P 0 x = 0 := by rw [getE, bx]; rfl
      have p1 : getP l P 0 x = P + x := by rw [getP, bx, if_pos rfl]
      have n1 : getN l P 0 x = num l P.toNat x := by rw [getN, bx, if_pos rfl, Int.toNat_natCast]
      rw [e1, p1]
      have hr3 : rdyB l (P + x) 0 = true := by simp [rdyB]; omega
      have by2 : getBad l (P + x) 0 y = if 8 * (l.length : Int) - (P + x) < y then 2 else 0 := by rw [getBad, if_neg (by rw [hr3]; simp; omega)]
      by_cases c2 : 8 * (l.length : Int) - (P + x) < y
      · right
        rw [if_pos c2] at by2
        rw [if_pos (by omega)] at bxy
        exact ⟨by rw [getE, by2]; decide, by rw [getE, bxy]; decide⟩
      · left
        rw [if_neg c2] at by2
        rw [if_neg (by omega)] at bxy
        refine ⟨by rw [getE, by2]; rfl, by rw [getE, bxy]; rfl, ?_, ?_⟩
        · rw [getP, getP, bxy, by2, if_pos rfl, if_pos rfl]
          omega
        · rw [n1, getN, getN, bxy, by2, if_pos rfl, if_pos rfl, Int.toNat_natCast, Int.toNat_natCast, num_sum, Nat.shiftLeft_eq, show (P + (x : Int)).toNat = P.toNat + x by omega]
  · right
    have hr' : rdyB l P E = false := by simpa using hr
    have hb : ∀ k : Int, getBad l P E k = 1 := fun k => by rw [getBad, if_pos (.inl hr')]
    have he : ∀ k : Int, getE l P E k = orE E 1 := fun k => by rw [getE, hb]
    have hp : getP l P E x = P := by rw [getP, hb]; rfl
    have ho : orE E 1 ≠ 0 := by
      unfold orE
      split
      · decide
      · assumption
    rw [he, he, hp]
    refine ⟨?_, ho⟩
    rw [getE, orE, if_neg ho]
    exact ho

theorem getN_lt (l : List UInt8) (P E : Int) (k : Nat) : getN l P E k < 2 ^ k := by
  unfold getN
  split
  · rw [Int.toNat_natCast]; exact num_lt _ _ _
  · exact Nat.pow_pos (by decide)

/-- An ink to which a number is added in two parts. -/
theorem parts_add (l : List UInt8) (m : Int) (x y v : Nat) (hx : x ≤ 32) (hy : y ≤ 31) (hv : v < 2 ^ (x + y)) :
    ∃ E : Int, addBad l m x (v >>> y) = E ∧ addBad (addL l m x (v >>> y)) (addM l m x (v >>> y)) y (v &&& (2 ^ y - 1)) = E ∧ addBad l m ((x + y : Nat) : Int) v = E ∧
      addL (addL l m x (v >>> y)) (addM l m x (v >>> y)) y (v &&& (2 ^ y - 1)) = addL l m ((x + y : Nat) : Int) v ∧
      addM (addL l m x (v >>> y)) (addM l m x (v >>> y)) y (v &&& (2 ^ y - 1)) = addM l m ((x + y : Nat) : Int) v ∧
      (addL l m x (v >>> y)).length ≤ l.length + 5 ∧ addM l m x (v >>> y) ≤ m + 32 ∧ (inkB l m = false → addM l m x (v >>> y) = m) := by
  have h1 : v >>> y < 2 ^ x := by
    rw [Nat.shiftRight_eq_div_pow]
    exact (Nat.div_lt_iff_lt_mul (Nat.pow_pos (by decide))).2 (by rw [← Nat.pow_add]; exact hv)
  have h2 : v &&& (2 ^ y - 1) < 2 ^ y := Nat.and_lt_two_pow _ (by have := Nat.one_le_two_pow (n := y); omega)
  by_cases hi : inkB l m = true
  · have hi2 := inkB_spec.1 hi
    obtain ⟨M, rfl⟩ := Int.eq_ofNat_of_zero_le hi2.1
    have hb : ∀ (k u : Nat), k ≤ 64 → u < 2 ^ k → addBad l (M : Int) k u = 0 := by
      intro k u hk hu
      rw [addBad, if_neg (by rw [hi]; simp; omega), Int.toNat_natCast, if_neg (by omega)]
    have b1 := hb x _ (by omega) h1
    have b3 := hb (x + y) _ (by omega) hv
    have l1 : addL l (M : Int) x (v >>> y) = inkAdd l M (v >>> y) x := by rw [addL, b1, if_pos rfl, Int.toNat_natCast, Int.toNat_natCast]
    have m1 : addM l (M : Int) x (v >>> y) = ((M + x : Nat) : Int) := by rw [addM, b1, if_pos rfl]; omega
    have l3 : addL l (M : Int) ((x + y : Nat) : Int) v = inkAdd l M v (x + y) := by rw [addL, b3, if_pos rfl, Int.toNat_natCast, Int.toNat_natCast]
    have m3 : addM l (M : Int) ((x + y : Nat) : Int) v = ((M + (x + y) : Nat) : Int) := by rw [addM, b3, if_pos rfl]; omega
    rw [l1, m1, l3, m3]
    have hi3 : inkB (inkAdd l M (v >>> y) x) ((M + x : Nat) : Int) = true := inkD_ok _ _ _ _ _
    have b2 : addBad (inkAdd l M (v >>> y) x) ((M + x : Nat) : Int) y (v &&& (2 ^ y - 1)) = 0 := by
      rw [addBad, if_neg (by rw [hi3]; simp; omega), Int.toNat_natCast, if_neg (by omega)]
    refine ⟨0, b1, b2, b3, ?_, ?_, ?_, by omega, fun h => by rw [hi] at h; cases h⟩
    · rw [addL, b2, if_pos rfl, Int.toNat_natCast, Int.toNat_natCast, inkAdd_parts]
    · rw [addM, b2, if_pos rfl]
      omega
    · show (inkD l M (v >>> y) x x).length ≤ _
      rw [inkD_length]
      omega
  · have hi' : inkB l m = false := by simpa using hi
    have hb : ∀ (k : Int) (u : Nat), addBad l m k u = 1 := fun k u => by rw [addBad, if_pos (.inl hi')]
    have hl : ∀ (k : Int) (u : Nat), addL l m k u = l := fun k u => by rw [addL, hb, if_neg (by decide)]
    have hm : ∀ (k : Int) (u : Nat), addM l m k u = m := fun k u => by rw [addM, hb, if_neg (by decide)]
    rw [hl x, hm x]
    exact ⟨1, hb _ _, hb _ _, hb _ _, by rw [hl, hl], by rw [hm, hm], by omega, by omega, fun _ => rfl⟩

end Go.Proofs.Ytellclclpmofcaa
