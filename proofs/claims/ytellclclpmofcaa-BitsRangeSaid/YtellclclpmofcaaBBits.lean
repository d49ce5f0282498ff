/-
  Plain laws of bits in bytes: numbers, inks; conditions: none.
-/
import Derived.Test.YtellclclpmofcaaA
namespace Go.Proofs.Ytellclclpmofcaa
open Go.RowKit

/-- The number whose bits f gives, the highest first. -/
def numF (f : Nat → Bool) : Nat → Nat
  | 0 => 0
  | n + 1 => 2 * numF f n + (f n).toNat

theorem numF_testBit (f : Nat → Bool) : ∀ (n j : Nat), (numF f n).testBit j = (decide (j < n) && f (n - 1 - j))
  | 0, j => by simp [numF]
  | n + 1, j => by
    rw [numF]
    cases j with
    | zero =>
      rw [Nat.testBit_zero]
      cases h : f n <;> simp [h]
    | succ j =>
      rw [Nat.testBit_succ]
      have : (2 * numF f n + (f n).toNat) / 2 = numF f n := by cases f n <;> simp <;> omega
      rw [this, numF_testBit f n j]
      by_cases hj : j < n
      · rw [show n + 1 - 1 - (j + 1) = n - 1 - j by omega]
        simp [hj]
      · simp [hj]

theorem numF_lt (f : Nat → Bool) : ∀ n, numF f n < 2 ^ n
  | 0 => by simp [numF]
  | n + 1 => by
    have := numF_lt f n
    rw [numF, Nat.pow_succ]
    cases f n <;> simp <;> omega

theorem numF_congr {f g : Nat → Bool} : ∀ {n : Nat}, (∀ i, i < n → f i = g i) → numF f n = numF g n
  | 0, _ => rfl
  | n + 1, h => by rw [numF, numF, numF_congr (fun i hi => h i (by omega)), h n (by omega)]

/-- Bit i of some bytes. -/
def bitAt (l : List UInt8) (i : Nat) : Bool := (l.getD (i / 8) 0).toNat.testBit (7 - i % 8)

/-- The number of n bits from p on. -/
def num (l : List UInt8) (p n : Nat) : Nat := numF (fun i => bitAt l (p + i)) n

theorem num_zero (l : List UInt8) (p : Nat) : num l p 0 = 0 := rfl
theorem num_succ (l : List UInt8) (p n : Nat) : num l p (n + 1) = 2 * num l p n + (bitAt l (p + n)).toNat := rfl
theorem num_lt (l : List UInt8) (p n : Nat) : num l p n < 2 ^ n := numF_lt _ _
theorem num_testBit (l : List UInt8) (p n j : Nat) : (num l p n).testBit j = (decide (j < n) && bitAt l (p + (n - 1 - j))) := numF_testBit _ _ _

theorem num_join (l : List UInt8) (p m n : Nat) : num l p (m + n) = num l p m <<< n ||| num l (p + m) n := by
  refine Nat.eq_of_testBit_eq fun j => ?_
  rw [Nat.testBit_or, Nat.testBit_shiftLeft, num_testBit, num_testBit, num_testBit]
  by_cases h1 : j < n
  · rw [show p + (m + n - 1 - j) = p + m + (n - 1 - j) by omega]
    simp [h1, show j < m + n by omega, show ¬ n ≤ j by omega]
  · by_cases h2 : j < m + n
    · rw [show m + n - 1 - j = m - 1 - (j - n) by omega]
      simp [h1, h2, show n ≤ j by omega, show j - n < m by omega]
    · simp [h1, h2, show ¬ (j - n < m) by omega]

theorem num_sum (l : List UInt8) (p m n : Nat) : num l p (m + n) = num l p m * 2 ^ n + num l (p + m) n := by
  induction n with
  | zero => simp [num_zero]
  | succ n ih =>
    rw [← Nat.add_assoc, num_succ, ih, num_succ, Nat.pow_succ]
    rw [show p + (m + n) = p + m + n by omega]
    have : num l p m * (2 ^ n * 2) = 2 * (num l p m * 2 ^ n) := by rw [← Nat.mul_assoc, Nat.mul_comm]
    omega

/-- Some bits of one byte. -/
theorem num_byte (l : List UInt8) (p t : Nat) (h : p % 8 + t ≤ 8) : ((l.getD (p / 8) 0).toNat >>> (8 - p % 8 - t)) &&& (2 ^ t - 1) = num l p t := by
  refine Nat.eq_of_testBit_eq fun j => ?_
  rw [Nat.testBit_and, Nat.testBit_shiftRight, Nat.testBit_two_pow_sub_one, num_testBit, bitAt]
  by_cases hj : j < t
  · have h1 : (p + (t - 1 - j)) / 8 = p / 8 := by omega
    have h2 : 7 - (p + (t - 1 - j)) % 8 = 8 - p % 8 - t + j := by omega
    rw [h1, h2]
    simp [hj]
  · simp [hj]

/-- Bytes of given bits. -/
def mkBits (len : Nat) (f : Nat → Bool) : List UInt8 := (List.range len).map fun j => UInt8.ofNat (numF (fun i => f (8 * j + i)) 8)

theorem mkBits_length (len : Nat) (f : Nat → Bool) : (mkBits len f).length = len := by simp [mkBits]

theorem toNat_ofNat {n : Nat} (h : n < 256) : (UInt8.ofNat n).toNat = n := by simp; omega

theorem bitAt_mk {len : Nat} {f : Nat → Bool} {i : Nat} (h : i < 8 * len) : bitAt (mkBits len f) i = f i := by
  have h1 : i / 8 < len := by omega
  unfold bitAt mkBits
  rw [List.getD_eq_getElem?_getD, List.getElem?_map, List.getElem?_range h1]
  simp only [Option.map_some, Option.getD_some]
  rw [toNat_ofNat (numF_lt _ 8), numF_testBit]
  rw [show 8 * (i / 8) + (8 - 1 - (7 - i % 8)) = i by omega]
  simp
  intro _
  omega

/-- A byte is known by its bits. -/
theorem byte_ext {x y : UInt8} (h : ∀ k, k < 8 → x.toNat.testBit k = y.toNat.testBit k) : x = y := by
  rw [← UInt8.toNat_inj]
  refine Nat.eq_of_testBit_eq fun j => ?_
  by_cases hj : j < 8
  · exact h j hj
  · rw [Nat.testBit_lt_two_pow (Nat.lt_of_lt_of_le x.toNat_lt (Nat.pow_le_pow_right (by decide) (show 8 ≤ j by omega))), Nat.testBit_lt_two_pow (Nat.lt_of_lt_of_le y.toNat_lt (Nat.pow_le_pow_right (by decide) (show 8 ≤ j by omega)))]

theorem bits_ext {l m : List UInt8} (hl : l.length = m.length) (h : ∀ i, i < 8 * l.length → bitAt l i = bitAt m i) : l = m := by
  refine List.ext_getElem hl fun j h1 h2 => byte_ext fun k hk => ?_
  have := h (8 * j + (7 - k)) (by omega)
  unfold bitAt at this
  rw [show (8 * j + (7 - k)) / 8 = j by omega, show 7 - (8 * j + (7 - k)) % 8 = k by omega] at this
  simpa [List.getD, h1, h2] using this

theorem mk_ext {l : List UInt8} {len : Nat} {f : Nat → Bool} (hl : l.length = len) (h : ∀ i, i < 8 * len → bitAt l i = f i) : l = mkBits len f :=
  bits_ext (by rw [hl, mkBits_length]) fun i hi => by rw [hl] at hi; rw [h i hi, bitAt_mk hi]

theorem mk_congr {len : Nat} {f g : Nat → Bool} (h : ∀ i, i < 8 * len → f i = g i) : mkBits len f = mkBits len g :=
  mk_ext (mkBits_length _ _) fun i hi => by rw [bitAt_mk hi, h i hi]

/-- A byte in place of another one. -/
theorem bitAt_set {l : List UInt8} {j : Nat} (hj : j < l.length) (x : UInt8) (i : Nat) : bitAt (l.set j x) i = if i / 8 = j then x.toNat.testBit (7 - i % 8) else bitAt l i := by
  unfold bitAt
  rw [List.getD_eq_getElem?_getD, List.getElem?_set]
  by_cases h : i / 8 = j
  · subst h
    simp [hj]
  · rw [if_neg (fun e => h e.symm), if_neg h, List.getD_eq_getElem?_getD]

theorem bitAt_append (l m : List UInt8) (i : Nat) : bitAt (l ++ m) i = if i < 8 * l.length then bitAt l i else bitAt m (i - 8 * l.length) := by
  unfold bitAt
  rw [List.getD_eq_getElem?_getD]
  by_cases h : i < 8 * l.length
  · rw [List.getElem?_append_left (by omega), if_pos h, List.getD_eq_getElem?_getD]
  · rw [List.getElem?_append_right (by omega), if_neg h, List.getD_eq_getElem?_getD]
    rw [show (i - 8 * l.length) / 8 = i / 8 - l.length by omega, show (i - 8 * l.length) % 8 = i % 8 by omega]

theorem bitAt_out {l : List UInt8} {i : Nat} (h : 8 * l.length ≤ i) : bitAt l i = false := by
  unfold bitAt
  rw [List.getD_eq_getElem?_getD, List.getElem?_eq_none (by omega)]
  simp

theorem bitAt_take {l : List UInt8} {k i : Nat} (h : i < 8 * k) : bitAt (l.take k) i = bitAt l i := by
  unfold bitAt
  rw [List.getD_eq_getElem?_getD, List.getD_eq_getElem?_getD, List.getElem?_take_of_lt (by omega)]

/-! ### Readers -/

/-- May one read? -/
def rdyB (l : List UInt8) (p e : Int) : Bool := decide (e = 0) && (decide (0 ≤ p) && decide (p ≤ 8 * (l.length : Int)))

def getBad (l : List UInt8) (p e n : Int) : Int := if rdyB l p e = false ∨ n < 0 ∨ 64 < n then 1 else if 8 * (l.length : Int) - p < n then 2 else 0

def orE (e b : Int) : Int := if e = 0 then b else e

/-- What a read gives: where, the error, the number. -/
def getP (l : List UInt8) (p e n : Int) : Int := if getBad l p e n = 0 then p + n else p
def getE (l : List UInt8) (p e n : Int) : Int := orE e (getBad l p e n)
def getN (l : List UInt8) (p e n : Int) : Nat := if getBad l p e n = 0 then num l p.toNat n.toNat else 0

/-- How many binary digits. -/
def blen (n : Nat) : Nat := if n = 0 then 0 else Nat.log2 n + 1

theorem blen_spec {n : Nat} (h : 1 ≤ n) : 2 ^ (blen n - 1) ≤ n ∧ n < 2 ^ blen n ∧ 1 ≤ blen n := by
  unfold blen
  rw [if_neg (by omega)]
  refine ⟨by simpa using Nat.log2_self_le (by omega), Nat.lt_log2_self, by omega⟩

theorem blen_unique {n w : Nat} (h1 : 2 ^ w ≤ n) (h2 : n < 2 ^ (w + 1)) : blen n = w + 1 := by
  have h0 : 1 ≤ n := Nat.le_trans Nat.one_le_two_pow h1
  obtain ⟨g1, g2, g3⟩ := blen_spec h0
  have a1 : 2 ^ w < 2 ^ blen n := Nat.lt_of_le_of_lt h1 g2
  have a2 : 2 ^ (blen n - 1) < 2 ^ (w + 1) := Nat.lt_of_le_of_lt g1 h2
  have b1 := (Nat.pow_lt_pow_iff_right (a := 2) (by decide)).1 a1
  have b2 := (Nat.pow_lt_pow_iff_right (a := 2) (by decide)).1 a2
  omega

/-- How many numbers of a range are short. -/
def gapM (n : Nat) : Nat := 2 ^ blen n - n

theorem gap_spec {n : Nat} (h : 1 ≤ n) : 1 ≤ gapM n ∧ gapM n ≤ n ∧ gapM n + n = 2 ^ blen n ∧ 2 ^ blen n = 2 * 2 ^ (blen n - 1) := by
  obtain ⟨g1, g2, g3⟩ := blen_spec h
  have e : 2 ^ blen n = 2 * 2 ^ (blen n - 1) := by
    conv => lhs; rw [show blen n = (blen n - 1) + 1 by omega, Nat.pow_succ]
    omega
  unfold gapM
  omega

theorem blen_le {n k : Nat} (h : n < 2 ^ k) : blen n ≤ k := by
  by_cases h0 : 1 ≤ n
  · obtain ⟨g1, g2, g3⟩ := blen_spec h0
    have := (Nat.pow_lt_pow_iff_right (a := 2) (by decide)).1 (Nat.lt_of_le_of_lt g1 h)
    omega
  · obtain rfl : n = 0 := by omega
    exact Nat.zero_le _

/-- How wide the code of a number in a range is that begins at p, and what is read of it. -/
def rngBad (l : List UInt8) (p e n : Int) : Int :=
  if rdyB l p e = false ∨ n < 1 ∨ 4294967296 < n then 1
  else if 8 * (l.length : Int) - p < (blen n.toNat : Int) - 1 then 2
  else if num l p.toNat (blen n.toNat - 1) < gapM n.toNat then 0
  else if 8 * (l.length : Int) - p < (blen n.toNat : Int) then 2 else 0

def rngW (l : List UInt8) (p n : Int) : Nat := if num l p.toNat (blen n.toNat - 1) < gapM n.toNat then blen n.toNat - 1 else blen n.toNat
def rngP (l : List UInt8) (p e n : Int) : Int := if rngBad l p e n = 0 then p + rngW l p n else p
def rngE (l : List UInt8) (p e n : Int) : Int := orE e (rngBad l p e n)
def rngN (l : List UInt8) (p e n : Int) : Nat :=
  if rngBad l p e n = 0 then (if num l p.toNat (blen n.toNat - 1) < gapM n.toNat then num l p.toNat (blen n.toNat - 1) else num l p.toNat (blen n.toNat) - gapM n.toNat) else 0

/-! ### Inks -/

/-- Is an ink right? -/
def inkB (l : List UInt8) (m : Int) : Bool := decide (0 ≤ m) && (decide ((l.length : Int) = (m + 7) / 8) && (List.range (8 * l.length)).all fun i => decide ((i : Int) < m) || !bitAt l i)

theorem inkB_spec {l : List UInt8} {m : Int} : inkB l m = true ↔ 0 ≤ m ∧ (l.length : Int) = (m + 7) / 8 ∧ ∀ i : Nat, m ≤ i → bitAt l i = false := by
  unfold inkB
  simp only [Bool.and_eq_true, decide_eq_true_eq, List.all_eq_true, List.mem_range, Bool.or_eq_true, Bool.not_eq_true']
  constructor
  · rintro ⟨h1, h2, h3⟩
    refine ⟨h1, h2, fun i hi => ?_⟩
    by_cases hl : i < 8 * l.length
    · rcases h3 i hl with h | h
      · omega
      · exact h
    · exact bitAt_out (by omega)
  · rintro ⟨h1, h2, h3⟩
    refine ⟨h1, h2, fun i hi => ?_⟩
    by_cases hm : (i : Int) < m
    · exact .inl hm
    · exact .inr (h3 i (by omega))

/-- The bits of an ink to which d of a number's n bits have been added. -/
def inkF (l : List UInt8) (m v n d : Nat) (i : Nat) : Bool := if i < m then bitAt l i else if i < m + d then v.testBit (m + n - 1 - i) else false
def inkD (l : List UInt8) (m v n d : Nat) : List UInt8 := mkBits ((m + d + 7) / 8) (inkF l m v n d)
def inkAdd (l : List UInt8) (m v n : Nat) : List UInt8 := inkD l m v n n

theorem inkD_length (l : List UInt8) (m v n d : Nat) : (inkD l m v n d).length = (m + d + 7) / 8 := mkBits_length _ _

theorem inkF_out {l : List UInt8} {m v n d i : Nat} (h : m + d ≤ i) : inkF l m v n d i = false := by
  unfold inkF
  rw [if_neg (by omega), if_neg (by omega)]

theorem bitAt_inkD (l : List UInt8) (m v n d i : Nat) : bitAt (inkD l m v n d) i = inkF l m v n d i := by
  unfold inkD
  by_cases h : i < 8 * ((m + d + 7) / 8)
  · rw [bitAt_mk h]
  · rw [bitAt_out (by rw [mkBits_length]; omega), inkF_out (by omega)]

theorem inkD_zero {l : List UInt8} {m : Nat} (h : inkB l m = true) (v n : Nat) : inkD l m v n 0 = l := by
  obtain ⟨h1, h2, h3⟩ := inkB_spec.1 h
  refine (mk_ext (by omega) fun i _ => ?_).symm
  unfold inkF
  by_cases hi : i < m
  · rw [if_pos hi]
  · rw [if_neg hi, if_neg (by omega)]
    exact h3 i (by omega)

theorem inkD_ok (l : List UInt8) (m v n d : Nat) : inkB (inkD l m v n d) ((m + d : Nat) : Int) = true :=
  inkB_spec.2 ⟨by omega, by rw [inkD_length]; omega, fun i hi => by rw [bitAt_inkD]; exact inkF_out (by omega)⟩

/-- A number in two parts. -/
theorem inkAdd_parts (l : List UInt8) (m v x y : Nat) : inkAdd (inkAdd l m (v >>> y) x) (m + x) (v &&& (2 ^ y - 1)) y = inkAdd l m v (x + y) := by
  show mkBits ((m + x + y + 7) / 8) (inkF (inkD l m (v >>> y) x x) (m + x) (v &&& (2 ^ y - 1)) y y) = mkBits ((m + (x + y) + 7) / 8) (inkF l m v (x + y) (x + y))
  rw [show m + x + y = m + (x + y) by omega]
  refine mk_congr fun i _ => ?_
  rw [inkF, bitAt_inkD]
  by_cases h1 : i < m + x
  · rw [if_pos h1, inkF, inkF]
    by_cases h2 : i < m
    · rw [if_pos h2, if_pos h2]
    · rw [if_neg h2, if_neg h2, if_pos h1, if_pos (by omega), Nat.testBit_shiftRight]
      congr 1
      omega
  · rw [if_neg h1, inkF, show m + x + y = m + (x + y) by omega, if_neg (show ¬ i < m by omega)]
    by_cases h2 : i < m + (x + y)
    · rw [if_pos h2, if_pos h2, Nat.testBit_and, Nat.testBit_two_pow_sub_one]
      simp
      omega
    · rw [if_neg h2, if_neg h2]

def addBad (l : List UInt8) (m n : Int) (v : Nat) : Int := if inkB l m = false ∨ n < 0 ∨ 64 < n then 1 else if 2 ^ n.toNat ≤ v then 6 else 0
def addL (l : List UInt8) (m n : Int) (v : Nat) : List UInt8 := if addBad l m n v = 0 then inkAdd l m.toNat v n.toNat else l
def addM (l : List UInt8) (m n : Int) (v : Nat) : Int := if addBad l m n v = 0 then m + n else m

def radBad (l : List UInt8) (m : Int) (v n : Nat) : Int := if inkB l m = false ∨ n < 1 ∨ 4294967296 < n then 1 else if n ≤ v then 6 else 0
/-- A number of a range as a number, and how wide it is. -/
def codeV (v n : Nat) : Nat := if v < gapM n then v else v + gapM n
def codeW (v n : Nat) : Nat := if v < gapM n then blen n - 1 else blen n
def radL (l : List UInt8) (m : Int) (v n : Nat) : List UInt8 := if radBad l m v n = 0 then inkAdd l m.toNat (codeV v n) (codeW v n) else l
def radM (l : List UInt8) (m : Int) (v n : Nat) : Int := if radBad l m v n = 0 then m + codeW v n else m

end Go.Proofs.Ytellclclpmofcaa
