/-
  The walk of crossbarlaw11.TrainSplits, for every input; conditions: the arguments read as data.
-/
import Derived.Test.YtellclclpmofcaaTrainSplitsW
import Derived.Test.YtellclclpmofcaaTSplB
namespace Go.Proofs.Ytellclclpmofcaa
open Go.RowKit

theorem trainSplits_any (v0 : Value) (l0 : List UInt8) (v1 : Value) (l1 : List UInt8) (v2 : Value) (l2 : List (List UInt8)) (x3 : Int) (v4 : Value) (l4 : List UInt8) (x5 : Int) (w : World) (w3 : 0 ≤ x3 ∧ x3 ≤ 255) (w5 : 0 ≤ x5 ∧ x5 ≤ 65535)
    (h0 : IsB w v0 l0) (h1 : IsB w v1 l1) (h2 : IsL w v2 l2) (h4 : IsB w v4 l4) :
    Calls Try.prog 10 #[v0, v1, v2, .int .u8 x3, v4, .int .u16 x5] w fun e w' => e = .returned (.bool true) ∧ Below w.heap.size w w' := by
  obtain ⟨a0, n0, c0, rfl, hn0, q0, q0'⟩ := h0.len'
  obtain ⟨a1, n1, c1, rfl, hn1, q1, q1'⟩ := h1.len'
  obtain ⟨a2, n, c2, rfl, hn, q2, q2'⟩ := h2.len'
  obtain ⟨a4, n4, c4, rfl, hn4, q4, q4'⟩ := h4.len'
  obtain ⟨tr, rfl⟩ := Int.eq_ofNat_of_zero_le w3.1
  obtain ⟨cut, rfl⟩ := Int.eq_ofNat_of_zero_le w5.1
  by_cases big : n ≤ 20 ∧ n ≤ n0 ∧ n ≤ n1 ∧ n4 ≤ 3000
  · exact trainSplits_ok a0 a1 a2 a4 n0 c0 n1 c1 n c2 n4 c4 l0 l1 l4 l2 tr cut w hn0 hn1 hn hn4 big.1 big.2.1 big.2.2.1 big.2.2.2 (by omega) (by omega) (by omega) (by omega) h0 h1 h2 h4
  · exact trainSplits_big a0 a1 a2 a4 n0 c0 n1 c1 n c2 n4 c4 _ _ w (by omega) (by omega) (by omega) (by omega) big

end Go.Proofs.Ytellclclpmofcaa
