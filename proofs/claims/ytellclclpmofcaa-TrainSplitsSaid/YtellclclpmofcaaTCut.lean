/-
  Plain laws of a train that is cut; conditions: none.
-/
import Derived.Test.YtellclclpmofcaaTSpl
namespace Go.Proofs.Ytellclclpmofcaa
open Go.RowKit

theorem flatten_split (cs : List (List UInt8)) {j : Nat} {x : List UInt8} (h : cs[j]? = some x) : cs.flatten = (cs.take j).flatten ++ (x ++ (cs.drop (j + 1)).flatten) := by
  obtain ⟨hj, hx⟩ := List.getElem?_eq_some_iff.1 h
  conv => lhs; rw [← List.take_append_drop j cs, List.flatten_append, List.drop_eq_getElem_cons hj, List.flatten_cons, hx]

/-- Cut at the end of a car. -/
theorem cut_whole {cs : List (List UInt8)} (hc : Cars cs) {j q : Nat} (hq : q = (cs.take j).flatten.length) : sp (cs.flatten.take q) = (0, cs.take j) := by
  have e : cs.flatten.take q = (cs.take j).flatten := by
    rw [hq]
    conv => lhs; rw [← List.take_append_drop j cs, List.flatten_append]
    rw [List.take_append_drop, List.take_left]
  rw [e]
  exact sp_join _ (hc.take _ _)

/-- Cut within a car. -/
theorem cut_within {cs : List (List UInt8)} (hc : Cars cs) {j q : Nat} {x : List UInt8} (hx : cs[j]? = some x) (h1 : (cs.take j).flatten.length < q) (h2 : q < (cs.take j).flatten.length + x.length) : (sp (cs.flatten.take q)).1 ≠ 0 := by
  obtain ⟨p, hcar, _⟩ := hc.get _ _ _ hx
  obtain ⟨hj, _⟩ := List.getElem?_eq_some_iff.1 hx
  have e : cs.flatten.take q = (cs.take j).flatten ++ x.take (q - (cs.take j).flatten.length) := by
    rw [flatten_split cs hx, List.take_append, List.take_of_length_le (by omega), List.take_append]
    rw [show q - (cs.take j).flatten.length - x.length = 0 by omega]
    simp
  rw [e]
  refine sp_cut _ _ (fun y hy => ?_) (car_cut hcar (by omega)) (fun hh => ?_)
  · obtain ⟨i, hi⟩ := List.getElem?_of_mem hy
    have hij : i < j := by
      have := (List.getElem?_eq_some_iff.1 hi).1
      simp at this
      omega
    rw [List.getElem?_take_of_lt hij] at hi
    obtain ⟨p2, hy2, hp2⟩ := hc.get _ _ _ hi
    cases p2
    · exact hy2
    · have := hp2 rfl
      omega
  · have := congrArg List.length hh
    rw [List.length_take, List.length_nil] at this
    omega

end Go.Proofs.Ytellclclpmofcaa
