/-
  The walk of crossbarlaw02.BitsParts, for every input; conditions: the arguments read as data.
-/
import Derived.Test.YtellclclpmofcaaBitsPartsW
namespace Go.Proofs.Ytellclclpmofcaa
open Go.RowKit
set_option linter.unusedVariables false

set_option maxRecDepth 100000 in
theorem bitsParts_any (s s' : Value) (l l' : List UInt8) (P E m mm nn v : Int) (w : World) (hmm : 0 ≤ mm ∧ mm ≤ 255) (hnn : 0 ≤ nn ∧ nn ≤ 255) (hm : -9223372036854775808 ≤ m ∧ m ≤ 9223372036854775807) (hv : 0 ≤ v ∧ v < 18446744073709551616)
    (h : IsB w s l) (h' : IsB w s' l') :
    Calls Try.prog 13 #[.agg #[s, .int .i64 P, .int .i64 E], .agg #[s', .int .i64 m], .int .u8 mm, .int .u8 nn, .int .u64 v] w fun r w' => r = .returned (.bool true) ∧ Below w.heap.size w w' := by
  obtain ⟨a, n, c, rfl, hn, q, q'⟩ := h.len'
  obtain ⟨a', n', c', rfl, hn', q1, q1'⟩ := h'.len'
  obtain ⟨v, rfl⟩ := Int.eq_ofNat_of_zero_le hv.1
  obtain ⟨mm, rfl⟩ := Int.eq_ofNat_of_zero_le hmm.1
  obtain ⟨nn, rfl⟩ := Int.eq_ofNat_of_zero_le hnn.1
  by_cases big : n ≤ 3000 ∧ n' ≤ 3000
  · exact bitsParts_ok a a' n c n' c' v mm nn P E m l l' w hn big.1 hn' big.2 (by omega) (by omega) hm.2 (by omega) h h'
  · have m0 : (n : Int) ≤ 9223372036854775807 := by have : n ≤ maxLen := by omega
                                                    unfold maxLen at this; omega
    have m1 : (n' : Int) ≤ 9223372036854775807 := by have : n' ≤ maxLen := by omega
                                                     unfold maxLen at this; omega
    have hB := ((Below.refl w.heap.size w).alloc (Nat.le_refl _) (.cells #[.slice a n c, .int .i64 P, .int .i64 E] 67)).alloc (by simp) (.cells #[.slice a' n' c', .int .i64 m] 69)
    by_cases g0 : (3000 : Int) < n
    · clear hn hn' q q' q1 q1' big h h' hv hmm hnn
      go_enter Try.func13, Try.ntmps13
      go_wp2_with fail
      refine (awake02 _).mono ?_
      rintro r w1 ⟨rfl, b1⟩
      have HW := hide (hB.trans (b1.mono (by simp only [World.size_alloc]; omega)))
      obtain ⟨k1, k2, k3⟩ := row_facts ((b1.block w.heap.size (by simp only [World.size_alloc]; omega)).trans (heap_alloc2_old w (.cells #[.slice a n c, .int .i64 P, .int .i64 E] 67) (.cells #[.slice a' n' c', .int .i64 m] 69)))
      clear hB b1
      go_wp2_with fail
      go_ret
      exact ⟨rfl, HW.out⟩
    · have g1 : (n : Int) ≤ 3000 := by omega
      have g3 : (3000 : Int) < n' := by omega
      clear hn hn' q q' q1 q1' big h h' hv hmm hnn
      go_enter Try.func13, Try.ntmps13
      go_wp2_with fail
      refine (awake02 _).mono ?_
      rintro r w1 ⟨rfl, b1⟩
      have HW := hide (hB.trans (b1.mono (by simp only [World.size_alloc]; omega)))
      obtain ⟨k1, k2, k3⟩ := row_facts ((b1.block w.heap.size (by simp only [World.size_alloc]; omega)).trans (heap_alloc2_old w (.cells #[.slice a n c, .int .i64 P, .int .i64 E] 67) (.cells #[.slice a' n' c', .int .i64 m] 69)))
      obtain ⟨k4, k5, k6⟩ := row_facts ((b1.block (w.heap.size + 1) (by simp only [World.size_alloc]; omega)).trans (heap_alloc2_new w (.cells #[.slice a n c, .int .i64 P, .int .i64 E] 67) (.cells #[.slice a' n' c', .int .i64 m] 69)))
      clear hB b1
      go_wp2_with fail
      go_ret
      exact ⟨rfl, HW.out⟩

end Go.Proofs.Ytellclclpmofcaa
