/-
  The walk of crossbarlaw02.BitsBack, for every input; conditions: the arguments read as data.
-/
import Derived.Test.YtellclclpmofcaaBitsBackW
namespace Go.Proofs.Ytellclclpmofcaa
open Go.RowKit
set_option linter.unusedVariables false

set_option maxRecDepth 100000 in
theorem bitsBack_any (v1 v2 v3 : Value) (pl : List Nat) (wl : List UInt8) (rl : List Bool) (w : World) (h1 : IsN w v1 pl) (h2 : IsB w v2 wl) (h3 : IsT w v3 rl) :
    Calls Try.prog 12 #[v1, v2, v3] w fun r w' => r = .returned (.bool true) ∧ Below w.heap.size w w' := by
  obtain ⟨a1, n1, c1, rfl, hn1, p1, q1⟩ := h1.len'
  obtain ⟨a2, n2, c2, rfl, hn2, p2, q2⟩ := h2.len'
  obtain ⟨a3, n3, c3, rfl, hn3, p3, q3⟩ := h3.len'
  by_cases big : n1 ≤ 60 ∧ n1 ≤ n2 ∧ n1 ≤ n3
  · exact bitsBack_ok a1 a2 a3 n1 c1 n2 c2 n3 c3 pl wl rl w hn1 hn2 hn3 big.1 big.2.1 big.2.2 h1 h2 h3 (by omega) (by omega)
  · have m1 : n1 ≤ maxLen := by omega
    have m2 : n2 ≤ maxLen := by omega
    have m3 : n3 ≤ maxLen := by omega
    unfold maxLen at m1 m2 m3
    have r1 : (n1 : Int) ≤ 9223372036854775807 := by omega
    have r2 : (n2 : Int) ≤ 9223372036854775807 := by omega
    have r3 : (n3 : Int) ≤ 9223372036854775807 := by omega
    by_cases g1 : (60 : Int) < n1
    · clear hn1 hn2 hn3 p1 q1 p2 q2 p3 q3 big h1 h2 h3 m1 m2 m3
      go_enter Try.func12, Try.ntmps12
      go_wp2_with fail
      refine (awake02 _).mono ?_
      rintro r w1 ⟨rfl, b1⟩
      go_wp2_with fail
      go_ret
      exact ⟨rfl, b1⟩
    · have g1' : (n1 : Int) ≤ 60 := by omega
      by_cases g2 : (n2 : Int) < n1
      · clear hn1 hn2 hn3 p1 q1 p2 q2 p3 q3 big h1 h2 h3 m1 m2 m3
        go_enter Try.func12, Try.ntmps12
        go_wp2_with fail
        refine (awake02 _).mono ?_
        rintro r w1 ⟨rfl, b1⟩
        go_wp2_with fail
        go_ret
        exact ⟨rfl, b1⟩
      · have g2' : (n1 : Int) ≤ n2 := by omega
        have g3 : (n3 : Int) < n1 := by omega
        clear hn1 hn2 hn3 p1 q1 p2 q2 p3 q3 big h1 h2 h3 m1 m2 m3
        go_enter Try.func12, Try.ntmps12
        go_wp2_with fail
        refine (awake02 _).mono ?_
        rintro r w1 ⟨rfl, b1⟩
        go_wp2_with fail
        go_ret
        exact ⟨rfl, b1⟩

end Go.Proofs.Ytellclclpmofcaa
