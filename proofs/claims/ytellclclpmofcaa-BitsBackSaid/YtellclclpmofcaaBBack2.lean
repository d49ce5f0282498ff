/-
  Plain laws: what each read gives of the ink that all numbers were put into, whole and cut; conditions: none.
-/
import Derived.Test.YtellclclpmofcaaBNum
namespace Go.Proofs.Ytellclclpmofcaa
open Go.RowKit
set_option linter.unusedVariables false

/-- What was put. -/
def putsTo (l : List Nat) (wd : List UInt8) (rg : List Bool) (k : Nat) : List Nat := (List.range k).map fun i => putV (l.getD i 0) (wd.getD i 0).toNat (rg.getD i false)

theorem putsTo_succ (l : List Nat) (wd : List UInt8) (rg : List Bool) (k : Nat) : putsTo l wd rg (k + 1) = putsTo l wd rg k ++ [putV (l.getD k 0) (wd.getD k 0).toNat (rg.getD k false)] := by
  unfold putsTo
  rw [List.range_succ, List.map_append]
  rfl

theorem putsTo_length (l : List Nat) (wd : List UInt8) (rg : List Bool) (k : Nat) : (putsTo l wd rg k).length = k := by simp [putsTo]

theorem putsTo_get (l : List Nat) (wd : List UInt8) (rg : List Bool) {k i : Nat} (h : i < k) : (putsTo l wd rg k).getD i 0 = putV (l.getD i 0) (wd.getD i 0).toNat (rg.getD i false) := by
  unfold putsTo
  rw [List.getD_eq_getElem?_getD, List.getElem?_map, List.getElem?_range h]
  rfl

theorem putsTo_lt {l : List Nat} (hx : ∀ i, l.getD i 0 < 18446744073709551616) (wd : List UInt8) (rg : List Bool) (k : Nat) : ∀ x ∈ putsTo l wd rg k, x < 18446744073709551616 := by
  intro x h
  obtain ⟨i, _, rfl⟩ := List.mem_map.1 h
  exact putV_lt (hx i)

theorem wd_le (wd : List UInt8) (k : Nat) : (wd.getD k 0).toNat ≤ 255 := by
  have := (wd.getD k 0).toNat_lt
  omega

theorem back_full {l : List Nat} (hx : ∀ i, l.getD i 0 < 18446744073709551616) (wd : List UInt8) (rg : List Bool) {b : List UInt8} {K n : Nat} (hK : K ≤ n) (hlen : posAt l wd rg K ≤ 8 * b.length) (hb : ∀ j, j < posAt l wd rg K → bitAt b j = bitAt (inkAt l wd rg n) j) :
    ∀ i, i < K → ReadIs b (posAt l wd rg i) (wd.getD i 0).toNat (rg.getD i false) (posAt l wd rg (i + 1)) 0 ((putsTo l wd rg n).getD i 0) := by
  intro i hi
  have hm := posAt_mono l wd rg (show i + 1 ≤ K by omega)
  rw [putsTo_get l wd rg (show i < n by omega)]
  have hnum := inkAt_num (wd := wd) (rg := rg) hx (b := b) (show i < n by omega) (fun j hj => hb j (by omega))
  have hm2 := hm
  rw [posAt] at hm2
  exact read_step (hx i) (wd_le wd i) (by omega) hnum

theorem back_cut {l : List Nat} (hx : ∀ i, l.getD i 0 < 18446744073709551616) (wd : List UInt8) (rg : List Bool) {b : List UInt8} {K n : Nat} (hK : K < n) (h1 : posAt l wd rg K ≤ 8 * b.length) (h2 : 8 * b.length < posAt l wd rg (K + 1)) (hb : ∀ j, j < 8 * b.length → bitAt b j = bitAt (inkAt l wd rg n) j) :
    ∃ v, ReadIs b (posAt l wd rg K) (wd.getD K 0).toNat (rg.getD K false) (posAt l wd rg K) 2 v := by
  have h3 := h2
  rw [posAt] at h3
  have hc := read_cut (r := rg.getD K false) (hx K) (wd_le wd K) h1 h3 (fun i hi hi2 => by rw [hb _ hi2]; exact inkAt_bits l wd rg K i hi n hK)
  unfold ReadIs
  cases hr : rg.getD K false
  · rw [hr] at hc
    exact ⟨_, hc.1, hc.2, rfl⟩
  · rw [hr] at hc
    exact ⟨_, hc.1, hc.2, rfl⟩

theorem IsN.lt {w : World} {v : Value} {l : List Nat} (h : IsN w v l) (i : Nat) : l.getD i 0 < 18446744073709551616 := by
  obtain ⟨a, cap, rfl, h1, h2, h3, h4⟩ := h
  by_cases hi : i < l.length
  · cases a with
    | none => have := h3 rfl; omega
    | some ad =>
      have := (h4 ad rfl i l[i] (by simp [hi])).2
      simpa [List.getD, hi] using this
  · rw [List.getD_eq_getElem?_getD, List.getElem?_eq_none (by omega)]
    decide

theorem IsN.below {w w' : World} {v : Value} {l : List Nat} (h : IsN w v l) (hb : Below w.heap.size w w') : IsN w' v l := by
  obtain ⟨a, cap, rfl, h1, h2, h3, h4⟩ := h
  refine ⟨a, cap, rfl, h1, h2, h3, fun ad had i x hx => ?_⟩
  obtain ⟨hc, hl⟩ := h4 ad had i x hx
  exact ⟨by rw [World.cell?_of_block (hb.block _ (World.block_lt_of_cell? w _ hc)), hc], hl⟩

theorem IsT.below {w w' : World} {v : Value} {l : List Bool} (h : IsT w v l) (hb : Below w.heap.size w w') : IsT w' v l := by
  obtain ⟨a, cap, rfl, h1, h2, h3, h4⟩ := h
  refine ⟨a, cap, rfl, h1, h2, h3, fun ad had i x hx => ?_⟩
  have hc := h4 ad had i x hx
  rw [World.cell?_of_block (hb.block _ (World.block_lt_of_cell? w _ hc)), hc]

end Go.Proofs.Ytellclclpmofcaa
