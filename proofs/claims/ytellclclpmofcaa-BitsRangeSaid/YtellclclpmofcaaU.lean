/-
  The contracts of pad's Round, Zero, Trail and of their references; conditions: the arguments read as data.
-/
import Derived.Test.YtellclclpmofcaaP
import Derived.Test.YtellclclpmofcaaB
namespace Go.Proofs.Ytellclclpmofcaa
open Go.RowKit

theorem IsB.cellAt {w : World} {a : Option Addr} {n cap : Nat} {l : List UInt8} (h : IsB w (.slice a n cap) l) {k : Nat} {x : UInt8} (hk : l[k]? = some x) : ∃ b off, a = some ⟨b, off, none⟩ ∧ b < w.heap.size ∧ w.cell? ⟨b, off + k, none⟩ = some (.int .u8 (x.toNat : Int)) := by
  have hl : 0 < l.length := by
    have := (List.getElem?_eq_some_iff.1 hk).1
    omega
  obtain ⟨b, off, cap', he, hb, _, _, hc⟩ := h.cells hl
  obtain ⟨rfl, _, _⟩ : a = some ⟨b, off, none⟩ ∧ n = l.length ∧ cap = cap' := by simpa using he
  exact ⟨b, off, rfl, hb, hc k x hk⟩

def roundZ (n : Int) : Int := if n < 0 ∨ 2147483648 < n then 0 else (n + 3) / 4 * 4
theorem ret_int {k : IntKind} {a b : Int} (h : a = b) : Ending.returned (.int k a) = .returned (.int k b) := by rw [h]

set_option maxHeartbeats 400000 in
theorem round_any (n : Int) (w : World) : Calls Try.prog 23 #[.int .i64 n] w fun e w' => e = .returned (.int .i64 (roundZ n)) ∧ Below w.heap.size w w' := by
  by_cases h1 : n < 0
  · go_enter Try.func23, Try.ntmps23
    go_wp2
    go_ret
    exact ⟨ret_int (by simp [roundZ, h1]), Below.refl _ _⟩
  · by_cases h2 : 2147483648 < n
    · go_enter Try.func23, Try.ntmps23
      go_wp2
      go_ret
      exact ⟨ret_int (by simp [roundZ, h2]), Below.refl _ _⟩
    · have h3 : 0 ≤ n := by omega
      have h4 : n ≤ 2147483648 := by omega
      go_enter Try.func23, Try.ntmps23
      go_wp2
      go_ret
      refine ⟨ret_int ?_, Below.refl _ _⟩
      unfold roundZ
      rw [if_neg (by omega)]

set_option maxHeartbeats 400000 in
theorem rround_any (n : Int) (w : World) : Calls Try.prog 24 #[.int .i64 n] w fun e w' => e = .returned (.int .i64 (roundZ n)) ∧ Below w.heap.size w w' := by
  by_cases h1 : n < 0
  · go_enter Try.func24, Try.ntmps24
    go_wp2
    go_ret
    exact ⟨ret_int (by simp [roundZ, h1]), Below.refl _ _⟩
  · by_cases h2 : 2147483648 < n
    · go_enter Try.func24, Try.ntmps24
      go_wp2
      go_ret
      exact ⟨ret_int (by simp [roundZ, h2]), Below.refl _ _⟩
    · have h3 : 0 ≤ n := by omega
      have h4 : n ≤ 2147483648 := by omega
      go_enter Try.func24, Try.ntmps24
      go_wp2
      go_loop [0] (fun t => ∃ m : Int, 0 ≤ m ∧ m ≤ 2147483651 ∧ n ≤ m ∧ m ≤ (n + 3) / 4 * 4 ∧ t = .int .i64 m) (fun t => ((n + 3) / 4 * 4 - intOf t).toNat)
      case atStart => exact ⟨n, h3, by omega, by omega, by omega, rfl⟩
      case round =>
        obtain ⟨m, m1, m2, m3, m4, rfl⟩ := hrel
        by_cases hq : m % 4 = 0
        · have hb : (m % 4 != 0) = false := by simpa using hq
          have HQ := hide hq
          clear hq
          go_wp2
          go_ret
          refine ⟨ret_int ?_, Below.refl _ _⟩
          have := HQ.out
          unfold roundZ
          rw [if_neg (by omega)]
          omega
        · have hb : (m % 4 != 0) = true := by simpa using hq
          have HQ := hide hq
          clear hq
          go_wp2
          go_round
          case rel =>
            have := HQ.out
            exact ⟨m + 1, by omega, by omega, by omega, by omega, rfl⟩
          case measure =>
            have := HQ.out
            simp [intOf]
            omega

def zeroB (l : List UInt8) : Bool := l.all (· == 0)

theorem zeroB_false {l : List UInt8} {k : Nat} {x : UInt8} (hk : l[k]? = some x) (hx : x ≠ 0) : zeroB l = false := by
  unfold zeroB
  rw [List.all_eq_false]
  exact ⟨x, List.mem_of_getElem? hk, by simpa using hx⟩

theorem zeroB_true {l : List UInt8} (h : ∀ j x, j < l.length → l[j]? = some x → x = 0) : zeroB l = true := by
  unfold zeroB
  rw [List.all_eq_true]
  intro x hx
  obtain ⟨j, hj⟩ := List.getElem?_of_mem hx
  have := h j x (List.getElem?_eq_some_iff.1 hj).1 hj
  simpa using this

def ZeroTo (l : List UInt8) (k : Nat) : Prop := ∀ j x, j < k → l[j]? = some x → x = 0

theorem ZeroTo.succ {l : List UInt8} {k : Nat} {x : UInt8} (h : ZeroTo l k) (hk : l[k]? = some x) (hx : x = 0) : ZeroTo l (k + 1) := by
  intro j y hj hy
  by_cases e : j = k
  · subst e
    rw [hk] at hy
    rw [← Option.some.inj hy, hx]
  · exact h j y (by omega) hy

set_option maxHeartbeats 800000 in
theorem zero_walk (a : Option Addr) (n cap : Nat) (l : List UInt8) (w : World) (hn : n = l.length) (hm : n ≤ maxLen) (h : IsB w (.slice a n cap) l) :
    Calls Try.prog 27 #[.slice a n cap] w fun e w' => e = .returned (.bool (zeroB l)) ∧ Below w.heap.size w w' := by
  have HN := hide hn
  have HB := hide h
  unfold maxLen at hm
  clear hn h
  go_enter Try.func27, Try.ntmps27
  go_wp2
  go_loop [7] (fun t => ∃ k : Nat, k ≤ n ∧ ZeroTo l k ∧ t = .int .i64 k) (fun t => n - (intOf t).toNat)
  case atStart => exact ⟨0, Nat.zero_le _, fun j x hj => by omega, rfl⟩
  case round =>
    obtain ⟨k, hk, hz, rfl⟩ := hrel
    have HZ := hide hz
    clear hz
    by_cases hlt : k < n
    · obtain ⟨x, hx⟩ : ∃ x, l[k]? = some x := ⟨l[k]'(by rw [← HN.out]; exact hlt), by simp [← HN.out, hlt]⟩
      obtain ⟨b, off, rfl, _, hc⟩ := HB.out.cellAt hx
      have HX := hide hx
      clear hx
      have q0 := x.toNat_lt
      by_cases h0 : x.toNat = 0
      · have hb : ((x.toNat : Int) != 0) = false := by simp [h0]
        have H0 : Hid (x = 0) := hide (by rw [← UInt8.toNat_inj]; simpa using h0)
        clear h0
        go_wp2
        go_round
        case rel => exact ⟨k + 1, by omega, HZ.out.succ HX.out H0.out, by go_num⟩
        case measure => simp [intOf]; omega
      · have hb : ((x.toNat : Int) != 0) = true := by simpa using h0
        have H0 : Hid (x ≠ 0) := hide (by rintro rfl; simp at h0)
        clear h0
        go_wp2
        go_ret
        exact ⟨ret_bool (zeroB_false HX.out H0.out).symm, Below.refl _ _⟩
    · have hge : (n : Int) ≤ k := by omega
      go_wp2
      go_ret
      exact ⟨ret_bool (zeroB_true fun j x hj hx => HZ.out j x (by rw [← HN.out] at hj; omega) hx).symm, Below.refl _ _⟩

theorem zero_any (v : Value) (l : List UInt8) (w : World) (h : IsB w v l) : Calls Try.prog 27 #[v] w fun e w' => e = .returned (.bool (zeroB l)) ∧ Below w.heap.size w w' := by
  obtain ⟨a, n, cap, rfl, hn, h1, h2⟩ := h.len'
  exact zero_walk a n cap l w hn (by omega) h

set_option maxHeartbeats 800000 in
theorem rzero_walk (a : Option Addr) (n cap : Nat) (l : List UInt8) (w : World) (hn : n = l.length) (hm : n ≤ maxLen) (h : IsB w (.slice a n cap) l) :
    Calls Try.prog 28 #[.slice a n cap] w fun e w' => e = .returned (.bool (zeroB l)) ∧ Below w.heap.size w w' := by
  have HN := hide hn
  have HB := hide h
  unfold maxLen at hm
  clear hn h
  go_enter Try.func28, Try.ntmps28
  go_wp2
  go_loop [3] (fun t => ∃ k : Nat, k ≤ n ∧ ZeroTo l k ∧ t = .int .i64 k) (fun t => n - (intOf t).toNat)
  case atStart => exact ⟨0, Nat.zero_le _, fun j x hj => by omega, rfl⟩
  case round =>
    obtain ⟨k, hk, hz, rfl⟩ := hrel
    have HZ := hide hz
    clear hz
    by_cases hlt : k < n
    · obtain ⟨x, hx⟩ : ∃ x, l[k]? = some x := ⟨l[k]'(by rw [← HN.out]; exact hlt), by simp [← HN.out, hlt]⟩
      obtain ⟨b, off, rfl, _, hc⟩ := HB.out.cellAt hx
      have HX := hide hx
      clear hx
      have q0 := x.toNat_lt
      by_cases h0 : x.toNat = 0
      · have hb : ((x.toNat : Int) != 0) = false := by simp [h0]
        have H0 : Hid (x = 0) := hide (by rw [← UInt8.toNat_inj]; simpa using h0)
        clear h0
        go_wp2
        go_round
        case rel => exact ⟨k + 1, by omega, HZ.out.succ HX.out H0.out, by go_num⟩
        case measure => simp [intOf]; omega
      · have hb : ((x.toNat : Int) != 0) = true := by simpa using h0
        have H0 : Hid (x ≠ 0) := hide (by rintro rfl; simp at h0)
        clear h0
        go_wp2
        go_ret
        exact ⟨ret_bool (zeroB_false HX.out H0.out).symm, Below.refl _ _⟩
    · have hge : (n : Int) ≤ k := by omega
      go_wp2
      go_ret
      exact ⟨ret_bool (zeroB_true fun j x hj hx => HZ.out j x (by rw [← HN.out] at hj; omega) hx).symm, Below.refl _ _⟩

theorem rzero_any (v : Value) (l : List UInt8) (w : World) (h : IsB w v l) : Calls Try.prog 28 #[v] w fun e w' => e = .returned (.bool (zeroB l)) ∧ Below w.heap.size w w' := by
  obtain ⟨a, n, cap, rfl, hn, h1, h2⟩ := h.len'
  exact rzero_walk a n cap l w hn (by omega) h

end Go.Proofs.Ytellclclpmofcaa
