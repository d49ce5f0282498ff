/-
  Plain laws of layer 11: what was closed is opened as it was; what is opened, closed again; conditions: none.
-/
import Derived.Test.YtellclclpmofcaaTAwake
import Derived.Test.YtellclclpmofcaaPadTrailW
namespace Go.Proofs.Ytellclclpmofcaa
open Go.RowKit

/-- All noughts from 'lo' to ahead of 'hi'. -/
def zr (l : List UInt8) (lo hi : Nat) : Bool := ((l.take hi).drop lo).all (· == 0)

theorem zr_self (l : List UInt8) (k : Nat) : zr l k k = true := by
  unfold zr
  rw [List.drop_of_length_le (by simp; omega)]
  rfl

theorem zr_succ {l : List UInt8} {lo hi : Nat} {x : UInt8} (h : l[hi]? = some x) (hlo : lo ≤ hi) : zr l lo (hi + 1) = (zr l lo hi && (x == 0)) := by
  obtain ⟨hk, _⟩ := List.getElem?_eq_some_iff.1 h
  unfold zr
  rw [List.take_add_one, h, Option.toList_some, List.drop_append_of_le_length (by simp; omega), List.all_append]
  simp

theorem rdV_inj {l : List UInt8} {p : Bool} {c t s : Int} (h : rdV l = .agg #[.bool p, .int .i64 c, .int .i64 t, .int .i64 s]) : rdP l = p ∧ rdN l = c ∧ rdT l = t ∧ rdS l = s := by
  simpa [rdV] using h

theorem closeL_zero (k c : Int) (l : List UInt8) : closeL k c l 0 = wrL false c k (4 + l.length) ++ l := by rw [closeL, if_pos rfl]
theorem closeL_pos (k c : Int) (l : List UInt8) {m : Nat} (h : m ≠ 0) : closeL k c l m = wrL true c k (4 + l.length + m) ++ addL l m := by
  rw [closeL, if_neg h]
  unfold addL
  simp

theorem drop_wrL (p : Bool) (n t s : Int) (r : List UInt8) : (wrL p n t s ++ r).drop 4 = r := rfl

theorem close_length {k c : Int} {l : List UInt8} {m : Nat} : (closeL k c l m).length = 4 + l.length + m := by
  by_cases h : m = 0
  · subst h
    rw [closeL_zero, List.length_append, wrL_length]
    omega
  · rw [closeL_pos k c l h, List.length_append, wrL_length, addL_length _ (by omega)]
    omega

/-- What was closed, opened. -/
theorem open_close {k c : Int} {l : List UInt8} {m : Nat} (h : mayB k c l.length m = true) :
    opE (closeL k c l m) = 0 ∧ opN (closeL k c l m) = m ∧ opB (closeL k c l m) = l ∧ opV (closeL k c l m) = .agg #[.bool (decide (0 < m)), .int .i64 c, .int .i64 k, .int .i64 (4 + l.length + m)] := by
  obtain ⟨⟨g1, g2, g3, g4⟩, hr⟩ := may_spec h
  have hlen := close_length (k := k) (c := c) (l := l) (m := m)
  by_cases h0 : m = 0
  · subst h0
    have e := closeL_zero k c l
    have hr' : rightB c k (4 + l.length) = true := by simpa using hr
    have h1 : rdE (closeL k c l 0) = 0 := by rw [e, rd_wr hr', if_neg (by omega)]
    have hv : rdV (closeL k c l 0) = .agg #[.bool false, .int .i64 c, .int .i64 k, .int .i64 (4 + l.length)] := by rw [e, rdV_wr hr' l (by omega)]
    obtain ⟨v1, v2, v3, v4⟩ := rdV_inj hv
    have hE : opE (closeL k c l 0) = 0 := by rw [opE, if_neg (by simp [h1]), v4, if_neg (by omega), if_neg (by simp [v1])]
    have hN : opN (closeL k c l 0) = 0 := by rw [opN, if_pos hE, if_neg (by simp [v1])]
    refine ⟨hE, hN, ?_, ?_⟩
    · rw [opB, if_pos hE, hN, Nat.sub_zero, List.take_length, e, drop_wrL]
    · rw [opV, if_pos hE, hv]
      simp
  · have e := closeL_pos k c l h0
    have ha : (addL l m).length = l.length + m := addL_length _ (by omega)
    have h1 : rdE (closeL k c l m) = 0 := by rw [e, rd_wr hr, if_neg (by omega)]
    have hv : rdV (closeL k c l m) = .agg #[.bool true, .int .i64 c, .int .i64 k, .int .i64 (4 + l.length + m)] := by rw [e, rdV_wr hr _ (by omega)]
    obtain ⟨v1, v2, v3, v4⟩ := rdV_inj hv
    have ht : trN ((closeL k c l m).drop 4) = m := by rw [e, drop_wrL, trN, trailN_addL l (by omega) (by omega), if_pos (by omega)]
    have hE : opE (closeL k c l m) = 0 := by rw [opE, if_neg (by simp [h1]), v4, if_neg (by omega), if_pos v1, trE, ht, if_neg h0]
    have hN : opN (closeL k c l m) = m := by rw [opN, if_pos hE, if_pos v1, ht]
    refine ⟨hE, hN, ?_, ?_⟩
    · rw [opB, if_pos hE, hN, hlen, e, show 4 + l.length + m - m = l.length + 4 by omega]
      show (wrL true c k (4 + l.length + m) ++ (addL l m).take l.length).drop 4 = l
      rw [drop_wrL]
      unfold addL
      rw [List.append_assoc, List.take_left]
    · rw [opV, if_pos hE, hv]
      simp; omega

theorem trail_get {l : List UInt8} {n : Nat} (h : trailN l = n) (hn : n ≠ 0) : n ≤ l.length ∧ l[l.length - 1]? = some (UInt8.ofNat n) := by
  have hle := trailN_le l
  have hl : 0 < l.length := by omega
  have hx : l[l.length - 1]? = some (l[l.length - 1]'(by omega)) := List.getElem?_eq_getElem _
  have ht := trail_last hx
  rw [h] at ht
  refine ⟨by omega, ?_⟩
  rw [hx]
  congr 1
  split at ht
  · omega
  · rw [ht]
    simp

/-- What is opened, closed again. -/
theorem close_open {l : List UInt8} (h : opE l = 0) : mayB (rdT l) (rdN l) (opB l).length (opN l) = true ∧ (closeL (rdT l) (rdN l) (opB l) (opN l)).length = l.length ∧ opN l ≤ l.length ∧ 4 ≤ l.length ∧
    (decide (closeL (rdT l) (rdN l) (opB l) (opN l) = l) = zr l (l.length - opN l) (if opN l = 0 then l.length else l.length - 1)) := by
  have h0 : rdE l = 0 := Classical.byContradiction fun hh => by rw [opE, if_pos hh] at h; exact hh h
  obtain ⟨r1, r2, r3⟩ := rd_le h0
  have hlt : ¬ rdS l < (l.length : Int) := fun hh => by rw [opE, if_neg (by simp [h0]), if_pos hh] at h; cases h
  have hs : rdS l = (l.length : Int) := by omega
  have hw := wr_rd h0
  have hright := rd_right h0
  rw [hs] at hw hright r2 r3
  have hB : opB l = (l.take (l.length - opN l)).drop 4 := by rw [opB, if_pos h]
  cases hp : rdP l
  · have hN : opN l = 0 := by rw [opN, if_pos h, if_neg (by simp [hp])]
    rw [hN, Nat.sub_zero, List.take_length] at hB
    rw [hp] at hw
    have hbl : (opB l).length = l.length - 4 := by rw [hB, List.length_drop]
    have e4 : (4 : Int) + ((opB l).length : Nat) = (l.length : Int) := by omega
    have hc : closeL (rdT l) (rdN l) (opB l) 0 = l := by
      rw [closeL_zero, e4, hw, hB, List.take_append_drop]
    refine ⟨?_, by rw [hN, hc], by omega, by omega, ?_⟩
    · rw [hN]
      simp only [mayB, Bool.and_eq_true, decide_eq_true_eq]
      exact ⟨⟨by omega, by omega, by omega, by omega⟩, by rw [e4]; simpa using hright⟩
    · rw [hN, hc, if_pos rfl, Nat.sub_zero, zr_self]
      simp
  · have hE : trE (l.drop 4) = 0 := by rw [opE, if_neg (by simp [h0]), if_neg hlt, if_pos hp] at h; exact h
    have hN : opN l = trN (l.drop 4) := by rw [opN, if_pos h, if_pos hp]
    have hn0 : opN l ≠ 0 := by
      intro hh
      rw [hN] at hh
      rw [trE, if_pos hh] at hE
      cases hE
    have hn4 : opN l % 4 = 0 ∧ trailN (l.drop 4) = opN l := by
      rw [hN] at hn0 ⊢
      unfold trN at hn0 ⊢
      by_cases hh : trailN (l.drop 4) % 4 = 0
      · rw [if_pos hh]
        exact ⟨hh, rfl⟩
      · rw [if_neg hh] at hn0
        exact absurd rfl hn0
    obtain ⟨hn4, htr⟩ := hn4
    have hle := trailN_le (l.drop 4)
    obtain ⟨ht1, ht2⟩ := trail_get htr hn0
    rw [List.length_drop] at hle ht1 ht2
    rw [htr] at hle
    generalize opN l = n at *
    have hbl : (opB l).length = l.length - n - 4 := by rw [hB, List.length_drop, List.length_take]; omega
    have e4 : (4 : Int) + ((opB l).length : Nat) + (n : Int) = (l.length : Int) := by omega
    rw [hp] at hw
    have hc : closeL (rdT l) (rdN l) (opB l) n = l.take (l.length - n) ++ (List.replicate (n - 1) 0 ++ [UInt8.ofNat n]) := by
      have ht := List.take_append_drop 4 (l.take (l.length - n))
      rw [List.take_take, Nat.min_eq_left (by omega)] at ht
      rw [closeL_pos _ _ _ hn0, e4, hw, addL, hB, List.append_assoc, ← List.append_assoc, ht]
    have hlast : l[l.length - 1]? = some (UInt8.ofNat n) := by
      rw [← ht2, List.getElem?_drop]
      congr 1
      omega
    have hlen : (closeL (rdT l) (rdN l) (opB l) n).length = l.length := by rw [close_length]; omega
    refine ⟨?_, hlen, by omega, by omega, ?_⟩
    · simp only [mayB, Bool.and_eq_true, decide_eq_true_eq]
      exact ⟨⟨by omega, by omega, by omega, by omega⟩, by rw [e4]; exact hright⟩
    · rw [if_neg hn0, Bool.eq_iff_iff, decide_eq_true_eq, hc]
      have hsplit : l = l.take (l.length - n) ++ ((l.take (l.length - 1)).drop (l.length - n) ++ [UInt8.ofNat n]) := by
        have h1 : l = l.take (l.length - 1) ++ [UInt8.ofNat n] := by
          have := List.take_add_one (l := l) (i := l.length - 1)
          rw [hlast, Nat.sub_add_cancel (by omega), List.take_length] at this
          exact this
        have h2 : l.take (l.length - 1) = l.take (l.length - n) ++ (l.take (l.length - 1)).drop (l.length - n) := by
          have := List.take_append_drop (l.length - n) (l.take (l.length - 1))
          rw [List.take_take, Nat.min_eq_left (by omega)] at this
          exact this.symm
        rw [← List.append_assoc, ← h2]
        exact h1
      have hml : ((l.take (l.length - 1)).drop (l.length - n)).length = n - 1 := by simp; omega
      constructor
      · intro e
        have e2 := e.trans hsplit
        rw [List.append_cancel_left_eq, List.append_cancel_right_eq] at e2
        unfold zr
        rw [← e2]
        simp
      · intro hz
        have e2 : (l.take (l.length - 1)).drop (l.length - n) = List.replicate (n - 1) 0 := by
          rw [List.eq_replicate_iff]
          refine ⟨hml, fun x hx => ?_⟩
          have := List.all_eq_true.1 hz x hx
          simpa using this
        rw [← e2]
        exact hsplit.symm

end Go.Proofs.Ytellclclpmofcaa
