/-
  The small functions of readers: bits.right, bits.Left, bits.fail, and the references of them; conditions: the bytes are no more than 1000000.
-/
import Derived.Test.YtellclclpmofcaaBOps
import Derived.Test.YtellclclpmofcaaBBits
import Derived.Handy
namespace Go.Proofs.Ytellclclpmofcaa
open Go.RowKit
set_option linter.unusedVariables false

set_option maxRecDepth 100000 in
theorem right63 (a : Option Addr) (n c : Nat) (p e : Int) (l : List UInt8) (w : World) (hn : n = l.length) (hl : n ≤ 1000000) :
    Calls Try.prog 63 #[.agg #[.slice a n c, .int .i64 p, .int .i64 e]] w fun r w' => r = .returned (.bool (rdyB l p e)) ∧ Below w.heap.size w w' := by
  have hli : (n : Int) ≤ 1000000 := by omega
  by_cases h0 : e = 0
  · subst h0
    by_cases h1 : 0 ≤ p
    · by_cases h2 : p ≤ 8 * (n : Int)
      · rw [show rdyB l p 0 = true by simp [rdyB]; omega]
        clear hn hl
        go_enter Try.func63, Try.ntmps63
        go_wp2_with fail
        go_ret
        exact ⟨rfl, (Below.refl _ _).alloc (Nat.le_refl _) _⟩
      · rw [show rdyB l p 0 = false by simp [rdyB]; omega]
        clear hn hl
        go_enter Try.func63, Try.ntmps63
        go_wp2_with fail
        go_ret
        exact ⟨rfl, (Below.refl _ _).alloc (Nat.le_refl _) _⟩
    · rw [show rdyB l p 0 = false by simp [rdyB]; omega]
      clear hn hl
      go_enter Try.func63, Try.ntmps63
      go_wp2_with fail
      go_ret
      exact ⟨rfl, (Below.refl _ _).alloc (Nat.le_refl _) _⟩
  · rw [show rdyB l p e = false by simp [rdyB, h0]]
    have hb : (e == 0) = false := by simpa using h0
    clear hn hl
    go_enter Try.func63, Try.ntmps63
    go_wp2_with fail
    go_ret
    exact ⟨rfl, (Below.refl _ _).alloc (Nat.le_refl _) _⟩

set_option maxRecDepth 100000 in
theorem right45 (a : Option Addr) (n c : Nat) (p e : Int) (l : List UInt8) (w : World) (hn : n = l.length) (hl : n ≤ 1000000) (hp : p ≤ 9223372036854775807) :
    Calls Try.prog 45 #[.agg #[.slice a n c, .int .i64 p, .int .i64 e]] w fun r w' => r = .returned (.bool (rdyB l p e)) ∧ Below w.heap.size w w' := by
  have hli : (n : Int) ≤ 1000000 := by omega
  by_cases h0 : e = 0
  · subst h0
    by_cases h1 : 0 ≤ p
    · by_cases h2 : p ≤ 8 * (n : Int)
      · rw [show rdyB l p 0 = true by simp [rdyB]; omega]
        have h3 : p / 8 ≤ (n : Int) := by omega
        clear hn hl
        go_enter Try.func45, Try.ntmps45
        go_wp2_with fail
        go_ret
        exact ⟨rfl, (Below.refl _ _).alloc (Nat.le_refl _) _⟩
      · rw [show rdyB l p 0 = false by simp [rdyB]; omega]
        by_cases h3 : p / 8 ≤ (n : Int)
        · clear hn hl
          go_enter Try.func45, Try.ntmps45
          go_wp2_with fail
          go_ret
          exact ⟨rfl, (Below.refl _ _).alloc (Nat.le_refl _) _⟩
        · clear hn hl
          go_enter Try.func45, Try.ntmps45
          go_wp2_with fail
          go_ret
          exact ⟨rfl, (Below.refl _ _).alloc (Nat.le_refl _) _⟩
    · rw [show rdyB l p 0 = false by simp [rdyB]; omega]
      clear hn hl
      go_enter Try.func45, Try.ntmps45
      go_wp2_with fail
      go_ret
      exact ⟨rfl, (Below.refl _ _).alloc (Nat.le_refl _) _⟩
  · rw [show rdyB l p e = false by simp [rdyB, h0]]
    have hb : (e == 0) = false := by simpa using h0
    clear hn hl
    go_enter Try.func45, Try.ntmps45
    go_wp2_with fail
    go_ret
    exact ⟨rfl, (Below.refl _ _).alloc (Nat.le_refl _) _⟩

/-- How many bits are left. -/
def leftN (l : List UInt8) (p e : Int) : Int := if rdyB l p e = true then 8 * (l.length : Int) - p else 0

set_option maxRecDepth 100000 in
theorem left48 (a : Option Addr) (n c : Nat) (p e : Int) (l : List UInt8) (w : World) (hn : n = l.length) (hl : n ≤ 1000000) :
    Calls Try.prog 48 #[.agg #[.slice a n c, .int .i64 p, .int .i64 e]] w fun r w' => r = .returned (.int .i64 (leftN l p e)) ∧ Below w.heap.size w w' := by
  have hli : (n : Int) ≤ 1000000 := by omega
  have HR := hide (fun w => right63 a n c p e l w hn hl)
  have HB : Hid (rdyB l p e = true → 0 ≤ p ∧ p ≤ 8 * (n : Int)) := hide (by
    intro h
    simp [rdyB] at h
    omega)
  have HL : Hid (leftN l p e = if rdyB l p e = true then 8 * (n : Int) - p else 0) := hide (by rw [leftN, hn])
  rw [HL.out]
  clear hn hl
  generalize rdyB l p e = q at HR HB
  cases q
  · go_enter Try.func48, Try.ntmps48
    go_wp2_with fail
    refine (HR.out _).mono ?_
    rintro r w1 ⟨rfl, b1⟩
    have HW := hide (((Below.refl _ _).alloc (Nat.le_refl _) _).trans (b1.mono (by simp)))
    clear b1
    go_wp2_with fail
    go_ret
    exact ⟨rfl, HW.out⟩
  · obtain ⟨g1, g2⟩ := HB.out rfl
    go_enter Try.func48, Try.ntmps48
    go_wp2_with fail
    refine (HR.out _).mono ?_
    rintro r w1 ⟨rfl, b1⟩
    have HW := hide (((Below.refl _ _).alloc (Nat.le_refl _) _).trans (b1.mono (by simp)))
    obtain ⟨k1, k2, k3⟩ := row_facts ((b1.block w.heap.size (by simp)).trans (heap_alloc_new w _))
    clear b1
    go_wp2_with fail
    go_ret
    exact ⟨rfl, HW.out⟩

set_option maxRecDepth 100000 in
theorem fail64 (a : Option Addr) (n c : Nat) (p e b : Int) (w : World) :
    Calls Try.prog 64 #[.agg #[.slice a n c, .int .i64 p, .int .i64 e], .int .i64 b] w fun r w' => r = .returned (.agg #[.slice a n c, .int .i64 p, .int .i64 (orE e b)]) ∧ Below w.heap.size w w' := by
  by_cases h0 : e = 0
  · subst h0
    rw [show orE 0 b = b from rfl]
    go_enter Try.func64, Try.ntmps64
    go_wp2_with fail
    go_returns
    exact ⟨rfl, by go_grown⟩
  · rw [show orE e b = e by simp [orE, h0]]
    have hb : (e == 0) = false := by simpa using h0
    go_enter Try.func64, Try.ntmps64
    go_wp2_with fail
    go_returns
    exact ⟨rfl, by go_grown⟩

end Go.Proofs.Ytellclclpmofcaa
