/-
  How arguments of layer 02's laws read as data: readers, inks, lists of numbers, lists of bools; conditions: none.
-/
import Derived.Test.YtellclclpmofcaaL
import Derived.Deep.Slices
import Derived.Deep.Grids
namespace Go.Proofs.Ytellclclpmofcaa
open Go.ChangeShapes Go.WideShapes Go.ChangeAt Go.RowKit Go.Joins
open Go.Deep (open_bools)
set_option linter.unusedVariables false

theorem Try.cells67 : Try.prog.cellsOf 67 = 3 := by kernel_rfl
theorem Try.cells69 : Try.prog.cellsOf 69 = 2 := by kernel_rfl
theorem Try.cells70 : Try.prog.cellsOf 70 = 1 := by kernel_rfl
theorem Try.cells4 : Try.prog.cellsOf 4 = 1 := by kernel_rfl

/-- 'v' is a list of uint64 numbers. -/
def IsN (w : World) (v : Value) (l : List Nat) : Prop :=
  ∃ a cap, v = .slice a l.length cap ∧ l.length ≤ cap ∧ cap ≤ maxLen ∧ (a = none → cap = 0) ∧
    ∀ ad, a = some ad → ∀ (i x : Nat), l[i]? = some x → w.cell? (ad.add i) = some (.int .u64 (x : Int)) ∧ x < 18446744073709551616

/-- 'v' is a list of bools. -/
def IsT (w : World) (v : Value) (l : List Bool) : Prop :=
  ∃ a cap, v = .slice a l.length cap ∧ l.length ≤ cap ∧ cap ≤ maxLen ∧ (a = none → cap = 0) ∧
    ∀ ad, a = some ad → ∀ i x, l[i]? = some x → w.cell? (ad.add i) = some (.bool x)

section
variable {H : Type} {enc : TypeId × Value → H} {W : World} {base : Nat} {spare : Nat → Bool} {held : Bool} {fuel : Nat}

set_option maxRecDepth 100000 in
/-- A reader. -/
theorem open_bits {r : Reach} {b0 : Nat} {v : Value} {d : DataW H} {p : List MemPlace} (hsp : ∀ b, spare b = true) (hv : Value.okWide Try.prog W r b0 67 v) (h : DataW.Trod enc Try.prog W base spare held 67 v d p) :
    ∃ (s : Value) (l : List UInt8) (P E : Int), v = .agg #[s, .int .i64 P, .int .i64 E] ∧ IsB W s l ∧ (Lit.int .i64 P).wf = true ∧ (Lit.int .i64 E).wf = true := by
  obtain ⟨c0, c1, c2, y0, y1, y2, m, rfl, rfl, rfl, hy0, hy1, hy2⟩ := open_agg3 Try.underlying67 (by kernel_rfl) Try.cells67 hv h
  obtain ⟨l, hl⟩ := bytes_of_trod hsp hy0
  obtain ⟨P, e1, rfl, w1⟩ := DataW.trod_int Try.underlying3 hy1
  obtain ⟨E, e2, rfl, w2⟩ := DataW.trod_int Try.underlying27 hy2
  simp at e1 e2
  subst e1 e2
  exact ⟨c0, l, P, E, rfl, hl, w1, w2⟩

set_option maxRecDepth 100000 in
/-- An ink. -/
theorem open_ink {r : Reach} {b0 : Nat} {v : Value} {d : DataW H} {p : List MemPlace} (hsp : ∀ b, spare b = true) (hv : Value.okWide Try.prog W r b0 69 v) (h : DataW.Trod enc Try.prog W base spare held 69 v d p) :
    ∃ (s : Value) (l : List UInt8) (m : Int), v = .agg #[s, .int .i64 m] ∧ IsB W s l ∧ (Lit.int .i64 m).wf = true := by
  obtain ⟨c0, c1, y0, y1, m, rfl, rfl, rfl, hy0, hy1⟩ := open_agg2 Try.underlying69 (by kernel_rfl) Try.cells69 hv h
  obtain ⟨l, hl⟩ := bytes_of_trod hsp hy0
  obtain ⟨P, e1, rfl, w1⟩ := DataW.trod_int Try.underlying3 hy1
  simp at e1
  subst e1
  exact ⟨c0, l, P, rfl, hl, w1⟩

theorem u64_of_wf {n : Int} (h : (Lit.int .u64 n).wf = true) : 0 ≤ n ∧ n < 18446744073709551616 := by
  have := bounds_u64 h
  omega

theorem i64_of_wf {n : Int} (h : (Lit.int .i64 n).wf = true) : -9223372036854775808 ≤ n ∧ n ≤ 9223372036854775807 := by
  have := bounds_i64 h
  omega

set_option maxRecDepth 100000 in
/-- A list of numbers. -/
theorem open_nums {r : Reach} {b0 : Nat} {v : Value} {d : DataW H} {p : List MemPlace} (hsp : ∀ b, spare b = true) (hv : Value.okWide Try.prog W r b0 86 v) (h : DataW.Trod enc Try.prog W base spare held 86 v d p) : ∃ l, IsN W v l := by
  obtain ⟨fuel, hf⟩ := trod_of_slice Try.underlying86 hv h
  rcases open_ints Try.underlying86 Try.underlying70 Try.cells70 hf with ⟨hcs, _⟩ | ⟨a, len, cap, zs, hcs, _, hl, hm, hz, _, hcell, hwz⟩
  · obtain rfl : v = .slice none 0 0 := by simpa using hcs
    exact ⟨[], none, 0, rfl, Nat.le_refl _, Nat.zero_le _, fun _ => rfl, fun _ h => by cases h⟩
  · obtain rfl : v = .slice (some a) len cap := by simpa using hcs
    rw [hsp] at hz
    simp only [if_true] at hz
    have hlen : ((zs.take len).map fun n => n.toNat).length = len := by simp; omega
    refine ⟨(zs.take len).map fun n => n.toNat, some a, cap, by rw [hlen], by rw [hlen]; exact hl, hm, (fun h => by cases h), fun ad had i y hy => ?_⟩
    obtain rfl := Option.some.inj had
    have hi : i < len := by
      have := (List.getElem?_eq_some_iff.1 hy).1
      rw [hlen] at this
      exact this
    have hi2 : i < zs.length := by omega
    rw [List.getElem?_map, List.getElem?_take_of_lt hi, List.getElem?_eq_getElem hi2] at hy
    have hy' : (zs[i]).toNat = y := by simpa using hy
    have hb := u64_of_wf (hwz zs[i] (List.getElem_mem _))
    refine ⟨?_, by omega⟩
    rw [hcell i hi2, ← hy', Int.toNat_of_nonneg hb.1]
    simp [List.getD, hi2]

set_option maxRecDepth 100000 in
/-- A list of bools. -/
theorem open_bits_list {r : Reach} {b0 : Nat} {v : Value} {d : DataW H} {p : List MemPlace} (hv : Value.okWide Try.prog W r b0 87 v) (h : DataW.Trod enc Try.prog W base (fun _ => true) held 87 v d p) : ∃ l, IsT W v l := by
  obtain ⟨fuel, hf⟩ := trod_of_slice Try.underlying87 hv h
  rcases open_bools Try.underlying87 Try.underlying4 Try.cells4 hf with ⟨hcs, _⟩ | ⟨a, len, cap, B, hcs, _, hl, hm, _, hcell⟩
  · obtain rfl : v = .slice none 0 0 := by simpa using hcs
    exact ⟨[], none, 0, rfl, Nat.le_refl _, Nat.zero_le _, fun _ => rfl, fun _ h => by cases h⟩
  · obtain rfl : v = .slice (some a) len cap := by simpa using hcs
    have hlen : ((List.range len).map B).length = len := by simp
    refine ⟨(List.range len).map B, some a, cap, by rw [hlen], by rw [hlen]; exact hl, hm, (fun h => by cases h), fun ad had i y hy => ?_⟩
    obtain rfl := Option.some.inj had
    have hi : i < len := by
      have := (List.getElem?_eq_some_iff.1 hy).1
      rw [hlen] at this
      exact this
    rw [List.getElem?_map, List.getElem?_range hi] at hy
    rw [hcell i (by omega), Option.some.inj hy]
end

end Go.Proofs.Ytellclclpmofcaa
