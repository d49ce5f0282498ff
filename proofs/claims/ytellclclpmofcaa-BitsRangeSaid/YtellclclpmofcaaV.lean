/-
  The contracts of pad's Trail, Clean and of their references; conditions: the arguments read as data.
-/
import Derived.Test.YtellclclpmofcaaU
namespace Go.Proofs.Ytellclclpmofcaa
open Go.RowKit

/-- How long a trailer is; 0: there is none. -/
def trailN (l : List UInt8) : Nat :=
  match l[l.length - 1]? with
  | none => 0
  | some x => if l.length < x.toNat then 0 else x.toNat

def trailE (l : List UInt8) : Int := if trailN l = 0 then 5 else 0

theorem trail_last {l : List UInt8} {x : UInt8} (h : l[l.length - 1]? = some x) : trailN l = if l.length < x.toNat then 0 else x.toNat := by
  unfold trailN
  rw [h]

theorem trailN_le (l : List UInt8) : trailN l ≤ l.length ∧ trailN l ≤ 255 := by
  unfold trailN
  cases h : l[l.length - 1]? with
  | none => simp
  | some x =>
    have := x.toNat_lt
    simp only
    split <;> omega

set_option maxHeartbeats 800000 in
theorem trail_walk (a : Option Addr) (n cap : Nat) (l : List UInt8) (w : World) (hn : n = l.length) (hm : n ≤ maxLen) (h : IsB w (.slice a n cap) l) :
    Calls Try.prog 31 #[.slice a n cap] w fun e w' => e = .returned (.tuple #[.int .i64 (trailN l), .int .i64 (trailE l)]) ∧ Below w.heap.size w w' := by
  have HN := hide hn
  have HB := hide h
  unfold maxLen at hm
  clear hn h
  by_cases h0 : n = 0
  · have hb : ((n : Int) == 0) = true := by simp [h0]
    have e0 : l = [] := List.eq_nil_of_length_eq_zero (by rw [← HN.out, h0])
    clear h0
    go_enter Try.func31, Try.ntmps31
    go_wp2
    go_ret2
    subst e0
    exact ⟨rfl, Below.refl _ _⟩
  · have hb : ((n : Int) == 0) = false := by simpa using h0
    have hp : 1 ≤ n := by omega
    clear h0
    obtain ⟨x, hx⟩ : ∃ x, l[n - 1]? = some x := ⟨l[n - 1]'(by rw [← HN.out]; omega), by simp⟩
    obtain ⟨b, off, rfl, _, hc⟩ := HB.out.cellAt hx
    have ht : trailN l = if n < x.toNat then 0 else x.toNat := by
      have := HN.out
      subst this
      exact trail_last hx
    have HT := hide ht
    clear hx ht
    have q0 := x.toNat_lt
    by_cases h1 : (x.toNat : Int) < 1
    · go_enter Try.func31, Try.ntmps31
      go_wp2
      go_ret2
      have : trailN l = 0 := by rw [HT.out]; split <;> omega
      exact ⟨by simp [trailE, this], Below.refl _ _⟩
    · have h1' : (1 : Int) ≤ x.toNat := by omega
      by_cases h2 : (n : Int) < x.toNat
      · go_enter Try.func31, Try.ntmps31
        go_wp2
        go_ret2
        have : trailN l = 0 := by rw [HT.out]; split <;> omega
        exact ⟨by simp [trailE, this], Below.refl _ _⟩
      · have h2' : (x.toNat : Int) ≤ n := by omega
        go_enter Try.func31, Try.ntmps31
        go_wp2
        go_ret2
        have : trailN l = x.toNat := by rw [HT.out, if_neg (by omega)]
        exact ⟨by rw [trailE, this, if_neg (by omega)]; rfl, Below.refl _ _⟩

theorem trail_any (v : Value) (l : List UInt8) (w : World) (h : IsB w v l) : Calls Try.prog 31 #[v] w fun e w' => e = .returned (.tuple #[.int .i64 (trailN l), .int .i64 (trailE l)]) ∧ Below w.heap.size w w' := by
  obtain ⟨a, n, cap, rfl, hn, h1, h2⟩ := h.len'
  exact trail_walk a n cap l w hn (by omega) h

set_option maxHeartbeats 800000 in
theorem rtrail_walk (a : Option Addr) (n cap : Nat) (l : List UInt8) (w : World) (hn : n = l.length) (hm : n ≤ maxLen) (h : IsB w (.slice a n cap) l) :
    Calls Try.prog 32 #[.slice a n cap] w fun e w' => e = .returned (.int .i64 (trailN l)) ∧ Below w.heap.size w w' := by
  have HN := hide hn
  have HB := hide h
  unfold maxLen at hm
  clear hn h
  by_cases h0 : n = 0
  · have hb : ((n : Int) == 0) = true := by simp [h0]
    have e0 : l = [] := List.eq_nil_of_length_eq_zero (by rw [← HN.out, h0])
    clear h0
    go_enter Try.func32, Try.ntmps32
    go_wp2
    go_ret
    subst e0
    exact ⟨rfl, Below.refl _ _⟩
  · have hb : ((n : Int) == 0) = false := by simpa using h0
    have hp : 1 ≤ n := by omega
    clear h0
    obtain ⟨x, hx⟩ : ∃ x, l[n - 1]? = some x := ⟨l[n - 1]'(by rw [← HN.out]; omega), by simp⟩
    obtain ⟨b, off, rfl, _, hc⟩ := HB.out.cellAt hx
    have ht : trailN l = if n < x.toNat then 0 else x.toNat := by
      have := HN.out
      subst this
      exact trail_last hx
    have HT := hide ht
    clear hx ht
    have q0 := x.toNat_lt
    by_cases h2 : (n : Int) < x.toNat
    · go_enter Try.func32, Try.ntmps32
      go_wp2
      go_ret
      have : trailN l = 0 := by rw [HT.out]; split <;> omega
      exact ⟨ret_int (by rw [this]; rfl), Below.refl _ _⟩
    · have h2' : (x.toNat : Int) ≤ n := by omega
      go_enter Try.func32, Try.ntmps32
      go_wp2
      go_ret
      have : trailN l = x.toNat := by rw [HT.out, if_neg (by omega)]
      exact ⟨ret_int (by rw [this]), Below.refl _ _⟩

theorem rtrail_any (v : Value) (l : List UInt8) (w : World) (h : IsB w v l) : Calls Try.prog 32 #[v] w fun e w' => e = .returned (.int .i64 (trailN l)) ∧ Below w.heap.size w w' := by
  obtain ⟨a, n, cap, rfl, hn, h1, h2⟩ := h.len'
  exact rtrail_walk a n cap l w hn (by omega) h

/-- Is there a trailer that is clean? -/
def cleanB (l : List UInt8) : Bool := decide (0 < trailN l) && zeroB ((l.take (l.length - 1)).drop (l.length - trailN l))

set_option maxHeartbeats 800000 in
theorem clean_walk (a : Option Addr) (n cap : Nat) (l : List UInt8) (w : World) (hn : n = l.length) (hm : n ≤ maxLen) (h : IsB w (.slice a n cap) l) :
    Calls Try.prog 29 #[.slice a n cap] w fun e w' => e = .returned (.bool (cleanB l)) ∧ Below w.heap.size w w' := by
  have HN := hide hn
  have HB := hide h
  unfold maxLen at hm
  clear hn h
  obtain ⟨t, ht⟩ : ∃ t, trailN l = t := ⟨_, rfl⟩
  have hle := trailN_le l
  rw [ht, ← HN.out] at hle
  obtain ⟨htn, ht2⟩ := hle
  by_cases h0 : t = 0
  · have he : trailE l = 5 := by simp [trailE, ht, h0]
    go_enter Try.func29, Try.ntmps29
    go_wp2_with fail
    refine (trail_any _ _ _ HB.out).mono ?_
    rintro e u ⟨rfl, b1⟩
    rw [he, ht]
    have HT := hide ht
    have H0 := hide h0
    clear he ht h0
    go_wp2_with fail
    go_ret
    refine ⟨ret_bool ?_, b1⟩
    simp [cleanB, HT.out, H0.out]
  · have he : trailE l = 0 := by simp [trailE, ht, h0]
    have hp : 1 ≤ t := by omega
    go_enter Try.func29, Try.ntmps29
    go_wp2_with fail
    refine (trail_any _ _ _ HB.out).mono ?_
    rintro e u ⟨rfl, b1⟩
    rw [he, ht]
    have HT := hide ht
    clear he ht h0
    have HB1 := hide (HB.out.below b1)
    have HE : Hid ((n : Int) - t = ((n - t : Nat) : Int)) := hide (by omega)
    have HF : Hid ((n : Int) - 1 = ((n - 1 : Nat) : Int)) := hide (by omega)
    have z1 := b1.size
    go_wp2_with (refine wpList_slice_lohi HB1.out (n - t) (n - 1) (by omega) (by rw [← HN.out]; omega) HE.out HF.out (by rfl) rfl rfl rfl ?_)
    refine (zero_any _ _ _ (HB1.out.slice (lo := n - t) (hi := n - 1) (by omega) (by rw [← HN.out]; omega))).mono ?_
    rintro e u2 ⟨rfl, b2⟩
    have B2 := b1.trans (b2.mono z1)
    clear b1 b2
    go_wp2_with fail
    go_ret
    refine ⟨ret_bool ?_, B2⟩
    simp only [cleanB, HT.out, ← HN.out]
    simp
    omega

theorem clean_any (v : Value) (l : List UInt8) (w : World) (h : IsB w v l) : Calls Try.prog 29 #[v] w fun e w' => e = .returned (.bool (cleanB l)) ∧ Below w.heap.size w w' := by
  obtain ⟨a, n, cap, rfl, hn, h1, h2⟩ := h.len'
  exact clean_walk a n cap l w hn (by omega) h

set_option maxHeartbeats 800000 in
theorem rclean_walk (a : Option Addr) (n cap : Nat) (l : List UInt8) (w : World) (hn : n = l.length) (hm : n ≤ maxLen) (h : IsB w (.slice a n cap) l) :
    Calls Try.prog 30 #[.slice a n cap] w fun e w' => e = .returned (.bool (cleanB l)) ∧ Below w.heap.size w w' := by
  have HN := hide hn
  have HB := hide h
  unfold maxLen at hm
  clear hn h
  obtain ⟨t, ht⟩ : ∃ t, trailN l = t := ⟨_, rfl⟩
  have hle := trailN_le l
  rw [ht, ← HN.out] at hle
  obtain ⟨htn, ht2⟩ := hle
  by_cases h0 : t = 0
  · subst h0
    have HT := hide ht
    go_enter Try.func30, Try.ntmps30
    go_wp2_with fail
    refine (rtrail_any _ _ _ HB.out).mono ?_
    rintro e u ⟨rfl, b1⟩
    rw [ht]
    clear ht
    go_wp2_with fail
    go_ret
    refine ⟨ret_bool ?_, b1⟩
    simp [cleanB, HT.out]
  · have hp : 1 ≤ t := by omega
    go_enter Try.func30, Try.ntmps30
    go_wp2_with fail
    refine (rtrail_any _ _ _ HB.out).mono ?_
    rintro e u ⟨rfl, b1⟩
    rw [ht]
    have HT := hide ht
    clear ht h0
    have HB1 := hide (HB.out.below b1)
    have HE : Hid ((n : Int) - t = ((n - t : Nat) : Int)) := hide (by omega)
    have HF : Hid ((n : Int) - 1 = ((n - 1 : Nat) : Int)) := hide (by omega)
    have z1 := b1.size
    go_wp2_with (refine wpList_slice_lohi HB1.out (n - t) (n - 1) (by omega) (by rw [← HN.out]; omega) HE.out HF.out (by rfl) rfl rfl rfl ?_)
    refine (rzero_any _ _ _ (HB1.out.slice (lo := n - t) (hi := n - 1) (by omega) (by rw [← HN.out]; omega))).mono ?_
    rintro e u2 ⟨rfl, b2⟩
    have B2 := b1.trans (b2.mono z1)
    clear b1 b2
    go_wp2_with fail
    go_ret
    refine ⟨ret_bool ?_, B2⟩
    simp only [cleanB, HT.out, ← HN.out]
    simp
    omega

theorem rclean_any (v : Value) (l : List UInt8) (w : World) (h : IsB w v l) : Calls Try.prog 30 #[v] w fun e w' => e = .returned (.bool (cleanB l)) ∧ Below w.heap.size w w' := by
  obtain ⟨a, n, cap, rfl, hn, h1, h2⟩ := h.len'
  exact rclean_walk a n cap l w hn (by omega) h

end Go.Proofs.Ytellclclpmofcaa
