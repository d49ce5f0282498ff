/-
  How arguments of this seat's laws read as data: byte slices, headers; conditions: none.
-/
import Derived.Test.YtellclclpmofcaaRows
import Derived.Test.YtellclclpmofcaaA
import Derived.WalkKit
import Derived.ProofKit
import Derived.OpenShut
import Derived.ShutString
import Derived.ChangeOld
import Derived.Below
import Derived.Lib.SmallJoins
namespace Go.Proofs.Ytellclclpmofcaa
open Go.ChangeShapes Go.WideShapes Go.ChangeAt Go.RowKit Go.Joins
open Go.ChangeMaps (open_string shut_string)

theorem Try.own : ownKnob Try.prog.godebug = none := by kernel_rfl
theorem Try.laidOut : laidOutB Try.prog = true := by kernel_rfl
theorem Try.cells5 : Try.prog.cellsOf 5 = 1 := by kernel_rfl
theorem Try.cells23 : Try.prog.cellsOf 23 = 4 := by kernel_rfl

theorem u8_of_wf {n : Int} (h : (Lit.int .u8 n).wf = true) : 0 ≤ n ∧ n ≤ 255 := by
  have := bounds_u8 h
  omega

section
variable {H : Type} {enc : TypeId × Value → H} {W : World} {base : Nat} {spare : Nat → Bool} {held : Bool} {fuel : Nat}

/-- A byte slice. -/
theorem bytes_of_trod {v : Value} {x : DataW H × List MemPlace} (hsp : ∀ b, spare b = true) (h : DataW.trod enc Try.prog W base spare held fuel 24 [v] = some x) : ∃ l, IsB W v l := by
  rcases open_ints Try.underlying24 Try.underlying5 Try.cells5 h with ⟨hcs, _⟩ | ⟨a, len, cap, zs, hcs, _, hl, hm, hz, _, hcell, hwz⟩
  · obtain rfl : v = .slice none 0 0 := by simpa using hcs
    exact ⟨[], IsB.nil W⟩
  · obtain rfl : v = .slice (some a) len cap := by simpa using hcs
    rw [hsp] at hz
    simp only [if_true] at hz
    have hlen : ((zs.take len).map fun n => UInt8.ofNat n.toNat).length = len := by simp; omega
    refine ⟨(zs.take len).map fun n => UInt8.ofNat n.toNat, some a, cap, by rw [hlen], by rw [hlen]; exact hl, hm, (fun h => by cases h), fun ad had i y hy => ?_⟩
    obtain rfl := Option.some.inj had
    have hi : i < len := by
      have := (List.getElem?_eq_some_iff.1 hy).1
      rw [hlen] at this
      exact this
    have hi2 : i < zs.length := by omega
    rw [hcell i hi2]
    rw [List.getElem?_map, List.getElem?_take_of_lt hi, List.getElem?_eq_getElem hi2] at hy
    have hy' : UInt8.ofNat (zs[i]).toNat = y := by simpa using hy
    have hb := u8_of_wf (hwz zs[i] (List.getElem_mem _))
    rw [← hy', bval_int _ hb.1 (by omega)]
    simp [List.getD, hi2]

set_option maxRecDepth 100000 in
theorem trod_of_slice {r : Reach} {b0 : Nat} {t e : TypeId} {v : Value} {d : DataW H} {p : List MemPlace} (ht : Try.prog.underlying t = some (.slice e)) (hv : Value.okWide Try.prog W r b0 t v) (h : DataW.Trod enc Try.prog W base spare held t v d p) :
    ∃ fuel, DataW.trod enc Try.prog W base spare held fuel t [v] = some (d, p) := by
  obtain ⟨a0, len, cap, rfl⟩ := okWide_slice ht hv
  obtain ⟨fuel, hf⟩ := h
  exact ⟨fuel, by simpa [Value.cells] using hf⟩

set_option maxRecDepth 100000 in
theorem open_bytes {r : Reach} {b0 : Nat} {v : Value} {d : DataW H} {p : List MemPlace} (hsp : ∀ b, spare b = true) (hv : Value.okWide Try.prog W r b0 24 v) (h : DataW.Trod enc Try.prog W base spare held 24 v d p) : ∃ l, IsB W v l := by
  obtain ⟨fuel, hf⟩ := trod_of_slice Try.underlying24 hv h
  exact bytes_of_trod hsp hf

set_option maxRecDepth 100000 in
/-- A header. -/
theorem open_common {r : Reach} {b0 : Nat} {v : Value} {d : DataW H} {p : List MemPlace} (hv : Value.okWide Try.prog W r b0 23 v) (h : DataW.Trod enc Try.prog W base spare held 23 v d p) :
    ∃ (q : Bool) (n t s : Int), v = .agg #[.bool q, .int .i64 n, .int .i64 t, .int .i64 s] ∧ (Lit.int .i64 n).wf = true ∧ (Lit.int .i64 t).wf = true ∧ (Lit.int .i64 s).wf = true := by
  obtain ⟨c0, c1, c2, c3, y0, y1, y2, y3, m, rfl, rfl, rfl, hy0, hy1, hy2, hy3⟩ := open_agg4 Try.underlying23 (by kernel_rfl) Try.cells23 hv h
  obtain ⟨q, e0, rfl⟩ := DataW.trod_bool Try.underlying4 hy0
  obtain ⟨n, e1, rfl, w1⟩ := DataW.trod_int Try.underlying3 hy1
  obtain ⟨t, e2, rfl, w2⟩ := DataW.trod_int Try.underlying3 hy2
  obtain ⟨s, e3, rfl, w3⟩ := DataW.trod_int Try.underlying3 hy3
  simp at e0 e1 e2 e3
  subst e0 e1 e2 e3
  exact ⟨q, n, t, s, rfl, w1, w2, w3⟩
end

end Go.Proofs.Ytellclclpmofcaa
