/-
  The walk of crossbarlaw11.TrainSplits beyond its bounds; conditions: the arguments read as data.
-/
import Derived.Test.YtellclclpmofcaaTAwake
namespace Go.Proofs.Ytellclclpmofcaa
open Go.RowKit

set_option maxRecDepth 100000 in
set_option maxHeartbeats 4000000 in
theorem trainSplits_big (a0 a1 a2 a4 : Option Addr) (n0 c0 n1 c1 n c2 n4 c4 : Nat) (x3 x5 : Int) (w : World) (m0 : n0 ≤ maxLen) (m1 : n1 ≤ maxLen) (m2 : n ≤ maxLen) (m4 : n4 ≤ maxLen)
    (big : ¬ (n ≤ 20 ∧ n ≤ n0 ∧ n ≤ n1 ∧ n4 ≤ 3000)) :
    Calls Try.prog 10 #[.slice a0 n0 c0, .slice a1 n1 c1, .slice a2 n c2, .int .u8 x3, .slice a4 n4 c4, .int .u16 x5] w fun e w' => e = .returned (.bool true) ∧ Below w.heap.size w w' := by
  unfold maxLen at m0 m1 m2 m4
  have p0 : (n0 : Int) ≤ 9223372036854775807 := by omega
  have p1 : (n1 : Int) ≤ 9223372036854775807 := by omega
  have p2 : (n : Int) ≤ 9223372036854775807 := by omega
  have p4 : (n4 : Int) ≤ 9223372036854775807 := by omega
  by_cases g2 : (20 : Int) < n
  · clear big m0 m1 m2 m4
    go_enter Try.func10, Try.ntmps10
    go_wp2_with fail
    refine (awake11 _).mono ?_
    rintro e w1 ⟨rfl, b1⟩
    go_wp2_with fail
    go_ret
    exact ⟨rfl, b1⟩
  · have g2' : (n : Int) ≤ 20 := by omega
    by_cases g0 : (n0 : Int) < n
    · clear big m0 m1 m2 m4
      go_enter Try.func10, Try.ntmps10
      go_wp2_with fail
      refine (awake11 _).mono ?_
      rintro e w1 ⟨rfl, b1⟩
      go_wp2_with fail
      go_ret
      exact ⟨rfl, b1⟩
    · have g0' : (n : Int) ≤ n0 := by omega
      by_cases g1 : (n1 : Int) < n
      · clear big m0 m1 m2 m4
        go_enter Try.func10, Try.ntmps10
        go_wp2_with fail
        refine (awake11 _).mono ?_
        rintro e w1 ⟨rfl, b1⟩
        go_wp2_with fail
        go_ret
        exact ⟨rfl, b1⟩
      · have g1' : (n : Int) ≤ n1 := by omega
        have g4 : (3000 : Int) < n4 := by omega
        clear big m0 m1 m2 m4
        go_enter Try.func10, Try.ntmps10
        go_wp2_with fail
        refine (awake11 _).mono ?_
        rintro e w1 ⟨rfl, b1⟩
        go_wp2_with fail
        go_ret
        exact ⟨rfl, b1⟩

end Go.Proofs.Ytellclclpmofcaa
