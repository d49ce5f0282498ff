/-
  Plain laws of a train: what a split gives; joined cars are split as they were; cut within a car there is an error; conditions: none.
-/
import Derived.Test.YtellclclpmofcaaTBack
namespace Go.Proofs.Ytellclclpmofcaa
open Go.RowKit

/-- What a split gives. -/
theorem sp_parts : ∀ (n : Nat) (l : List UInt8), l.length = n → (sp l).1 = 0 → (sp l).2.flatten = l ∧ ∀ i x, (sp l).2[i]? = some x → opE x = 0 ∧ (opN x ≠ 0 → i + 1 = (sp l).2.length) := by
  intro n
  induction n using Nat.strongRecOn with
  | _ n ih =>
    intro l hl h
    by_cases h0 : rdE l = 0
    · by_cases hb : rdP l = true ∧ (l.drop (rdS l).toNat ≠ [] ∨ trE ((l.take (rdS l).toNat).drop 4) ≠ 0)
      · rw [sp_bad h0 hb.1 hb.2] at h
        cases h
      · have hc : rdP l = true → l.drop (rdS l).toNat = [] ∧ trE ((l.take (rdS l).toNat).drop 4) = 0 := by
          intro hp
          constructor
          · exact Classical.byContradiction fun hh => hb ⟨hp, .inl hh⟩
          · exact Classical.byContradiction fun hh => hb ⟨hp, .inr hh⟩
        have hs := sp_cons h0 hc
        have hle := rd_le h0
        have hr : (sp (l.drop (rdS l).toNat)).1 = 0 := by
          rw [hs] at h
          unfold pre at h
          by_cases hh : (sp (l.drop (rdS l).toNat)).1 = 0
          · exact hh
          · rw [if_neg hh] at h
            exact absurd h hh
        obtain ⟨i1, i2⟩ := ih (l.drop (rdS l).toNat).length (by rw [List.length_drop]; omega) _ rfl hr
        have hs2 : (sp l).2 = l.take (rdS l).toNat :: (sp (l.drop (rdS l).toNat)).2 := by
          rw [hs, pre, if_pos hr]
          rfl
        rw [hs2]
        refine ⟨by rw [List.flatten_cons, i1, List.take_append_drop], fun i x hx => ?_⟩
        cases i with
        | zero =>
          obtain rfl : l.take (rdS l).toNat = x := by simpa using hx
          have hoe := opE_car h0
          obtain ⟨t1, t2, t3⟩ := rd_take h0
          cases hp : rdP l
          · rw [if_neg (by simp [hp])] at hoe
            refine ⟨hoe, fun hn => ?_⟩
            exfalso
            apply hn
            rw [opN, if_pos hoe, t2, if_neg (by simp [hp])]
          · obtain ⟨c1, c2⟩ := hc hp
            rw [if_pos hp, c2] at hoe
            refine ⟨hoe, fun _ => ?_⟩
            rw [c1, sp_nil]
            rfl
        | succ i =>
          obtain ⟨e1, e2⟩ := i2 i x (by simpa using hx)
          exact ⟨e1, fun hn => by have := e2 hn; simp; omega⟩
    · by_cases hl0 : l = []
      · subst hl0
        rw [sp_nil]
        exact ⟨rfl, fun i x hx => by simp at hx⟩
      · rw [sp_err h0 hl0] at h
        exact absurd h h0

/-- A car as 'Close' makes it. -/
def Car (x : List UInt8) (p : Bool) : Prop := ∃ (k c : Int) (l : List UInt8) (m : Nat), mayB k c l.length m = true ∧ x = closeL k c l m ∧ p = decide (0 < m)

theorem Car.shape {x : List UInt8} {p : Bool} (h : Car x p) : ∃ (k c s : Int) (q : List UInt8), rightB c k s = true ∧ x = wrL p c k s ++ q ∧ s = (q.length : Int) + 4 ∧ (p = true → trE q = 0) := by
  obtain ⟨k, c, l, m, hm, rfl, rfl⟩ := h
  obtain ⟨⟨g1, g2, g3, g4⟩, hr⟩ := may_spec hm
  by_cases h0 : m = 0
  · subst h0
    refine ⟨k, c, 4 + l.length, l, by simpa using hr, by rw [closeL_zero]; rfl, by omega, fun h => by simp at h⟩
  · refine ⟨k, c, 4 + l.length + m, addL l m, hr, by rw [closeL_pos k c l h0, show decide (0 < m) = true by simp; omega], by rw [addL_length l (by omega)]; omega, fun _ => ?_⟩
    have ht : trN (addL l m) = m := by rw [trN, trailN_addL l (by omega) (by omega), if_pos (by omega)]
    rw [trE, ht, if_neg h0]

theorem Car.length {x : List UInt8} {p : Bool} (h : Car x p) : 4 ≤ x.length ∧ x.length ≤ 262144 := by
  obtain ⟨k, c, s, q, hr, rfl, hs, _⟩ := h.shape
  have := right_spec hr
  rw [List.length_append, wrL_length]
  omega

/-- A car ahead of the rest. -/
theorem sp_car {x : List UInt8} {p : Bool} (h : Car x p) (r : List UInt8) (hp : p = true → r = []) : sp (x ++ r) = pre [x] (sp r) := by
  obtain ⟨k, c, s, q, hr, rfl, hs, ht⟩ := h.shape
  rw [List.append_assoc]
  have h1 : rdE (wrL p c k s ++ (q ++ r)) = 0 := by rw [rd_wr hr, if_neg (by rw [List.length_append]; omega)]
  have hv := rdV_wr (p := p) hr (q ++ r) (by rw [List.length_append]; omega)
  obtain ⟨v1, v2, v3, v4⟩ := rdV_inj hv
  have hlen : (rdS (wrL p c k s ++ (q ++ r))).toNat = (wrL p c k s ++ q).length := by rw [v4, List.length_append, wrL_length]; omega
  have htake : (wrL p c k s ++ (q ++ r)).take (rdS (wrL p c k s ++ (q ++ r))).toNat = wrL p c k s ++ q := by rw [hlen, ← List.append_assoc, List.take_left]
  have hdrop : (wrL p c k s ++ (q ++ r)).drop (rdS (wrL p c k s ++ (q ++ r))).toNat = r := by rw [hlen, ← List.append_assoc, List.drop_left]
  rw [sp_cons h1, htake, hdrop]
  rw [htake, hdrop, v1, drop_wrL]
  exact fun hh => ⟨hp hh, ht hh⟩

/-- Cars, of which only the last may have a trailer. -/
def Cars : List (List UInt8) → Prop
  | [] => True
  | x :: r => (∃ p, Car x p ∧ (p = true → r = [])) ∧ Cars r

theorem sp_join : ∀ (cs : List (List UInt8)), Cars cs → sp cs.flatten = (0, cs)
  | [], _ => sp_nil
  | x :: r, h => by
    obtain ⟨⟨p, hx, hp⟩, hr⟩ := h
    rw [List.flatten_cons, sp_car hx _ (fun hh => by rw [hp hh]; rfl), sp_join r hr]
    rfl

theorem Cars.take : ∀ (cs : List (List UInt8)) (k : Nat), Cars cs → Cars (cs.take k)
  | [], k, _ => by simp [Cars]
  | x :: r, 0, _ => trivial
  | x :: r, k + 1, h => by
    obtain ⟨⟨p, hx, hp⟩, hr⟩ := h
    exact ⟨⟨p, hx, fun hh => by rw [hp hh]; simp⟩, Cars.take r k hr⟩

theorem Cars.get : ∀ (cs : List (List UInt8)) (k : Nat) (x : List UInt8), Cars cs → cs[k]? = some x → ∃ p, Car x p ∧ (p = true → k + 1 = cs.length)
  | [], k, x, _, hx => by simp at hx
  | y :: r, 0, x, h, hx => by
    obtain ⟨⟨p, hy, hp⟩, hr⟩ := h
    obtain rfl : y = x := by simpa using hx
    exact ⟨p, hy, fun hh => by rw [hp hh]; rfl⟩
  | y :: r, k + 1, x, h, hx => by
    obtain ⟨p, h1, h2⟩ := Cars.get r k x h.2 (by simpa using hx)
    exact ⟨p, h1, fun hh => by have := h2 hh; simp; omega⟩

/-- Whole cars, none of which has a trailer, ahead of what no header can be read from. -/
theorem sp_cut : ∀ (cs : List (List UInt8)) (q : List UInt8), (∀ x ∈ cs, Car x false) → rdE q ≠ 0 → q ≠ [] → (sp (cs.flatten ++ q)).1 ≠ 0
  | [], q, _, h0, hq => by
    rw [List.flatten_nil, List.nil_append, sp_err h0 hq]
    exact h0
  | x :: r, q, h, h0, hq => by
    rw [List.flatten_cons, List.append_assoc, sp_car (h x (by simp)) _ (fun hh => by cases hh)]
    have := sp_cut r q (fun y hy => h y (by simp [hy])) h0 hq
    unfold pre
    rw [if_neg this]
    exact this

/-- A part of a car is none. -/
theorem car_cut {x : List UInt8} {p : Bool} (h : Car x p) {k : Nat} (hk : k < x.length) : rdE (x.take k) ≠ 0 := by
  obtain ⟨kd, c, s, q, hr, rfl, hs, _⟩ := h.shape
  rw [List.length_append, wrL_length] at hk
  rw [rd_cut hr q k (by omega) (by omega)]
  split <;> decide

end Go.Proofs.Ytellclclpmofcaa
