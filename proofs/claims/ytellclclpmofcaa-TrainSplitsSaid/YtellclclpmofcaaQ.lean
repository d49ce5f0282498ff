/-
  Plain laws of the header: what is read is right and has just these bytes; a header is read from its bytes as it was; conditions: none.
-/
import Derived.Test.YtellclclpmofcaaE
namespace Go.Proofs.Ytellclclpmofcaa

theorem rd_ok {l : List UInt8} (h : rdE l = 0) : ∃ x0 x1 x2 x3 r, l = x0 :: x1 :: x2 :: x3 :: r ∧ x0.toNat / 64 = 2 ∧ 4 * (x2.toNat * 256 + x3.toNat + 1) ≤ l.length := by
  match l, h with
  | [], h => simp [rdE] at h
  | [_], h => simp [rdE] at h
  | [_, _], h => simp [rdE] at h
  | [_, _, _], h => simp [rdE] at h
  | x0 :: x1 :: x2 :: x3 :: r, h =>
    refine ⟨x0, x1, x2, x3, r, rfl, ?_⟩
    simp only [rdE] at h
    split at h
    · cases h
    · rename_i h1
      split at h
      · cases h
      · rename_i h2
        exact ⟨by omega, by omega⟩

theorem rdV_zero {l : List UInt8} (h : rdE l ≠ 0) : rdV l = .agg #[.bool false, .int .i64 0, .int .i64 0, .int .i64 0] := by
  simp [rdV, rdP, rdN, rdT, rdS, h]

theorem rd_right {l : List UInt8} (h : rdE l = 0) : rightB (rdN l) (rdT l) (rdS l) = true := by
  obtain ⟨x0, x1, x2, x3, r, rfl, h1, h2⟩ := rd_ok h
  have q1 := x1.toNat_lt
  have q2 := x2.toNat_lt
  have q3 := x3.toNat_lt
  simp only [rightB, rdN, rdT, rdS, h, if_true, decide_eq_true_eq]
  omega

theorem rd_le {l : List UInt8} (h : rdE l = 0) : rdS l ≤ (l.length : Int) ∧ 4 ≤ rdS l ∧ rdS l % 4 = 0 := by
  obtain ⟨x0, x1, x2, x3, r, rfl, h1, h2⟩ := rd_ok h
  simp only [rdS, h, if_true]
  omega

theorem wr_rd {l : List UInt8} (h : rdE l = 0) : wrL (rdP l) (rdN l) (rdT l) (rdS l) = l.take 4 := by
  obtain ⟨x0, x1, x2, x3, r, rfl, h1, h2⟩ := rd_ok h
  have q0 := x0.toNat_lt
  have q1 := x1.toNat_lt
  have q2 := x2.toNat_lt
  have q3 := x3.toNat_lt
  have of : ∀ (x : UInt8) (n : Nat), n = x.toNat → UInt8.ofNat n = x := fun x n e => by rw [e]; simp
  simp only [wrL, rdP, rdN, rdT, rdS, h, if_true, List.take_succ_cons, List.take_zero, List.cons.injEq, and_true]
  refine ⟨of _ _ ?_, of _ _ ?_, of _ _ ?_, of _ _ ?_⟩
  · by_cases hb : 160 ≤ x0.toNat
    · rw [decide_eq_true hb, if_pos rfl]
      omega
    · rw [decide_eq_false hb, if_neg (by simp)]
      omega
  · omega
  · omega
  · omega

theorem toNat_ofNat {n : Nat} (h : n < 256) : (UInt8.ofNat n).toNat = n := by simp; omega

theorem rdE_cons (x0 x1 x2 x3 : UInt8) (r : List UInt8) : rdE (x0 :: x1 :: x2 :: x3 :: r) = if x0.toNat / 64 ≠ 2 then 3 else if r.length + 4 < 4 * (x2.toNat * 256 + x3.toNat + 1) then 4 else 0 := rfl

/-- A header is read off its bytes, whatever stands behind them, if that is enough. -/
theorem rd_wr {p : Bool} {n t s : Int} (h : rightB n t s = true) (r : List UInt8) : rdE (wrL p n t s ++ r) = if (r.length : Int) + 4 < s then 4 else 0 := by
  have hr : 0 ≤ n ∧ n ≤ 31 ∧ 0 ≤ t ∧ t ≤ 255 ∧ 4 ≤ s ∧ s ≤ 262144 ∧ s % 4 = 0 := by simpa [rightB] using h
  have hp : (0 : Int) ≤ (if p then 32 else 0) ∧ (if p then 32 else 0 : Int) ≤ 32 := by cases p <;> decide
  simp only [wrL, List.cons_append, List.nil_append]
  rw [rdE_cons, toNat_ofNat (by omega), toNat_ofNat (by omega), toNat_ofNat (by omega), if_neg (by omega)]
  by_cases hs : (r.length : Int) + 4 < s
  · rw [if_pos hs, if_pos (by omega)]
  · rw [if_neg hs, if_neg (by omega)]

theorem rdV_wr {p : Bool} {n t s : Int} (h : rightB n t s = true) (r : List UInt8) (hr0 : s ≤ (r.length : Int) + 4) : rdV (wrL p n t s ++ r) = .agg #[.bool p, .int .i64 n, .int .i64 t, .int .i64 s] := by
  have he : rdE (wrL p n t s ++ r) = 0 := by rw [rd_wr h, if_neg (by omega)]
  have hr : 0 ≤ n ∧ n ≤ 31 ∧ 0 ≤ t ∧ t ≤ 255 ∧ 4 ≤ s ∧ s ≤ 262144 ∧ s % 4 = 0 := by simpa [rightB] using h
  have hp : (0 : Int) ≤ (if p then 32 else 0) ∧ (if p then 32 else 0 : Int) ≤ 32 := by cases p <;> decide
  have e1 : rdP (wrL p n t s ++ r) = p := by
    unfold rdP
    rw [if_pos he]
    simp only [wrL, List.cons_append]
    rw [toNat_ofNat (by omega)]
    cases p
    · apply decide_eq_false
      rw [if_neg (by simp)]
      omega
    · apply decide_eq_true
      rw [if_pos rfl]
      omega
  have e2 : rdN (wrL p n t s ++ r) = n := by
    unfold rdN
    rw [if_pos he]
    simp only [wrL, List.cons_append]
    rw [toNat_ofNat (by omega)]
    cases p
    · rw [if_neg (by simp)]
      omega
    · rw [if_pos rfl]
      omega
  have e3 : rdT (wrL p n t s ++ r) = t := by
    unfold rdT
    rw [if_pos he]
    simp only [wrL, List.cons_append]
    rw [toNat_ofNat (by omega)]
    omega
  have e4 : rdS (wrL p n t s ++ r) = s := by
    unfold rdS
    rw [if_pos he]
    simp only [wrL, List.cons_append]
    rw [toNat_ofNat (by omega), toNat_ofNat (by omega)]
    omega
  rw [rdV, e1, e2, e3, e4]

/-- .. and isn't, where there is less. -/
theorem rd_cut {p : Bool} {n t s : Int} (h : rightB n t s = true) (r : List UInt8) (k : Nat) (hk : (k : Int) < s) (hk2 : k ≤ r.length + 4) : rdE ((wrL p n t s ++ r).take k) = if k < 4 then 2 else 4 := by
  by_cases h4 : k < 4
  · rw [if_pos h4]
    simp only [wrL, List.cons_append, List.nil_append]
    match k, h4 with
    | 0, _ => simp [rdE]
    | 1, _ => simp [rdE]
    | 2, _ => simp [rdE]
    | 3, _ => simp [rdE]
  · rw [if_neg h4]
    obtain ⟨j, rfl⟩ : ∃ j, k = j + 4 := ⟨k - 4, by omega⟩
    have e : (wrL p n t s ++ r).take (j + 4) = wrL p n t s ++ r.take j := by
      simp [wrL]
    rw [e, rd_wr h, if_pos (by simp; omega)]

end Go.Proofs.Ytellclclpmofcaa
