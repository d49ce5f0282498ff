/-
  How arguments of this seat's laws read as data: lists of byte slices, readers, inks, lists of numbers and of bools; conditions: none.
-/
import Derived.Test.YtellclclpmofcaaL
import Derived.Test.YtellclclpmofcaaJ
import Derived.Deep.Slices
import Derived.Deep.Grids
namespace Go.Proofs.Ytellclclpmofcaa
open Go.ChangeShapes Go.WideShapes Go.ChangeAt Go.RowKit Go.Joins
open Go.Deep (open_slice1 open_bools)

theorem Try.cells24 : Try.prog.cellsOf 24 = 1 := by kernel_rfl

section
variable {H : Type} {enc : TypeId × Value → H} {W : World} {base : Nat} {spare : Nat → Bool} {held : Bool} {fuel : Nat}

/-- A list built by an index function. -/
theorem list_of_fn {α : Type} {n : Nat} {p : Nat → α → Prop} (h : ∀ i, i < n → ∃ x, p i x) : ∃ l : List α, l.length = n ∧ ∀ i x, l[i]? = some x → p i x := by
  induction n with
  | zero => exact ⟨[], rfl, fun i x hx => by simp at hx⟩
  | succ n ih =>
    obtain ⟨l, hl, hp⟩ := ih fun i hi => h i (by omega)
    obtain ⟨y, hy⟩ := h n (by omega)
    refine ⟨l ++ [y], by simp [hl], fun i x hx => ?_⟩
    by_cases hi : i < l.length
    · rw [List.getElem?_append_left hi] at hx
      exact hp i x hx
    · rw [List.getElem?_append_right (by omega)] at hx
      cases hj : i - l.length with
      | zero =>
        rw [hj] at hx
        obtain rfl := Option.some.inj hx
        rw [show i = n by omega]
        exact hy
      | succ j => rw [hj] at hx; simp at hx

/-- A list of byte slices. -/
theorem lists_of_trod {v : Value} {x : DataW H × List MemPlace} (hsp : ∀ b, spare b = true) (h : DataW.trod enc Try.prog W base spare held fuel 57 [v] = some x) : ∃ ls, IsL W v ls := by
  rcases open_slice1 Try.underlying57 Try.cells24 h with ⟨hcs, _⟩ | ⟨a, len, cap, m, n, V, D, Pl, hcs, _, hl, hm, hmm, _, hx⟩
  · obtain rfl : v = .slice none 0 0 := by simpa using hcs
    exact ⟨[], IsL.nil W⟩
  · obtain rfl : v = .slice (some a) len cap := by simpa using hcs
    rw [hsp] at hmm
    simp only [if_true] at hmm
    obtain ⟨ls, hlen, hp⟩ := list_of_fn (n := len) (p := fun i l => W.cell? (a.add i) = some (V i) ∧ IsB W (V i) l) fun i hi => by
      obtain ⟨h1, h2⟩ := hx i (by omega)
      obtain ⟨l, h3⟩ := bytes_of_trod hsp h2
      exact ⟨l, h1, h3⟩
    refine ⟨ls, some a, cap, by rw [hlen], by rw [hlen]; exact hl, hm, (fun h => by cases h), fun ad had i l hi => ?_⟩
    obtain rfl := Option.some.inj had
    obtain ⟨h1, h2⟩ := hp i l hi
    exact ⟨_, h1, h2⟩

set_option maxRecDepth 100000 in
theorem open_lists {r : Reach} {b0 : Nat} {v : Value} {d : DataW H} {p : List MemPlace} (hsp : ∀ b, spare b = true) (hv : Value.okWide Try.prog W r b0 57 v) (h : DataW.Trod enc Try.prog W base spare held 57 v d p) : ∃ ls, IsL W v ls := by
  obtain ⟨fuel, hf⟩ := trod_of_slice Try.underlying57 hv h
  exact lists_of_trod hsp hf

end
end Go.Proofs.Ytellclclpmofcaa
