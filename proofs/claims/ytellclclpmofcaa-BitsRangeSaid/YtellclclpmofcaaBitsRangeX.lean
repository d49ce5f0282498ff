/-
  The walk of crossbarlaw02.BitsRange, for every input as it is read; conditions: none.
-/
import Derived.Test.YtellclclpmofcaaBitsRangeW
namespace Go.Proofs.Ytellclclpmofcaa
open Go.RowKit

theorem bitsRange_int (x : Int) (w : World) (h : 0 ≤ x ∧ x ≤ 255) :
    Calls Try.prog 14 #[.int .u8 x] w fun r w' => r = .returned (.bool true) ∧ Below w.heap.size w w' := by
  obtain ⟨k, rfl⟩ := Int.eq_ofNat_of_zero_le h.1
  exact bitsRange_any k w (by omega)

end Go.Proofs.Ytellclclpmofcaa
