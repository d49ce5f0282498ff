/-
  The contracts of Same, SameInk (of what is the same), and Start; conditions: none.
-/
import Derived.Test.YtellclclpmofcaaBRRad
import Derived.Test.YtellclclpmofcaaBRRng
namespace Go.Proofs.Ytellclclpmofcaa
open Go.RowKit
set_option linter.unusedVariables false

set_option maxRecDepth 100000 in
theorem same49 (a a' : Option Addr) (n n' c c' : Nat) (p e : Int) (l : List UInt8) (w : World) (h : IsB w (.slice a n c) l) (h' : IsB w (.slice a' n' c') l) :
    Calls Try.prog 49 #[.agg #[.slice a n c, .int .i64 p, .int .i64 e], .agg #[.slice a' n' c', .int .i64 p, .int .i64 e]] w fun r w' => r = .returned (.bool true) ∧ Below w.heap.size w w' := by
  have H1 := hide (h.below (((Below.refl w.heap.size w).alloc (Nat.le_refl _) (.cells #[.slice a n c, .int .i64 p, .int .i64 e] 67)).alloc (by simp) (.cells #[.slice a' n' c', .int .i64 p, .int .i64 e] 67)))
  have H2 := hide (h'.below (((Below.refl w.heap.size w).alloc (Nat.le_refl _) (.cells #[.slice a n c, .int .i64 p, .int .i64 e] 67)).alloc (by simp) (.cells #[.slice a' n' c', .int .i64 p, .int .i64 e] 67)))
  clear h h'
  go_enter Try.func49, Try.ntmps49
  go_wp2_with (first | (refine wpList_conv (by rfl) rfl H1.out ?_) | (refine wpList_conv (by rfl) rfl H2.out ?_))
  go_ret
  exact ⟨ret_bool (by simp), by go_grown⟩

set_option maxRecDepth 100000 in
theorem same56 (a a' : Option Addr) (n n' c c' : Nat) (m : Int) (l : List UInt8) (w : World) (h : IsB w (.slice a n c) l) (h' : IsB w (.slice a' n' c') l) :
    Calls Try.prog 56 #[.agg #[.slice a n c, .int .i64 m], .agg #[.slice a' n' c', .int .i64 m]] w fun r w' => r = .returned (.bool true) ∧ Below w.heap.size w w' := by
  have H1 := hide (h.below (((Below.refl w.heap.size w).alloc (Nat.le_refl _) (.cells #[.slice a n c, .int .i64 m] 69)).alloc (by simp) (.cells #[.slice a' n' c', .int .i64 m] 69)))
  have H2 := hide (h'.below (((Below.refl w.heap.size w).alloc (Nat.le_refl _) (.cells #[.slice a n c, .int .i64 m] 69)).alloc (by simp) (.cells #[.slice a' n' c', .int .i64 m] 69)))
  clear h h'
  go_enter Try.func56, Try.ntmps56
  go_wp2_with (first | (refine wpList_conv (by rfl) rfl H1.out ?_) | (refine wpList_conv (by rfl) rfl H2.out ?_))
  go_ret
  exact ⟨ret_bool (by simp), by go_grown⟩

set_option maxRecDepth 100000 in
theorem start60 (a : Option Addr) (n c : Nat) (w : World) :
    Calls Try.prog 60 #[.slice a n c] w fun r w' => r = .returned (.agg #[.slice a n c, .int .i64 0, .int .i64 0]) ∧ Below w.heap.size w w' := by
  go_enter Try.func60, Try.ntmps60
  go_wp2_with fail
  go_returns
  exact ⟨rfl, by go_grown⟩

end Go.Proofs.Ytellclclpmofcaa
