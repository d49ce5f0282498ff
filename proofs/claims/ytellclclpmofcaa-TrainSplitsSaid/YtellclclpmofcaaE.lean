/-
  The fixed answers of layer 10: awake returns true; conditions: none.
-/
import Derived.Test.YtellclclpmofcaaD
namespace Go.Proofs.Ytellclclpmofcaa
open Go.RowKit

theorem wr_lit : wrL true 3 201 8 = [163, 201, 0, 1] := by decide

set_option maxRecDepth 100000 in
set_option maxHeartbeats 1000000 in
theorem awake10 (w : World) : Calls Try.prog 15 #[] w fun e w' => e = .returned (.bool true) ∧ Below w.heap.size w w' := by
  have k1 : rdV [163, 201, 0, 1, 1, 2, 3, 4, 5] = .agg #[.bool true, .int .i64 3, .int .i64 201, .int .i64 8] := rfl
  have k2 : rdE [163, 201, 0, 1, 1, 2, 3, 4, 5] = 0 := by decide
  have k3 : rdV [163, 201, 0, 1] = .agg #[.bool false, .int .i64 0, .int .i64 0, .int .i64 0] := rfl
  have k4 : rdE [163, 201, 0, 1] = 4 := by decide
  have K1 := hide k1; have K2 := hide k2; have K3 := hide k3; have K4 := hide k4
  clear k1 k2 k3 k4
  go_enter Try.func15, Try.ntmps15
  go_wp2_with fail
  refine (write_yes _ _ _ _ _ (by decide)).mono ?_
  rintro e w1 ⟨v, rfl, hown, hb⟩
  rw [wr_lit] at hown
  have hz1 := hb.size
  simp only [World.size_alloc] at hz1 hown
  obtain ⟨hc1, hf1⟩ := bcell hb
  go_wp2_with (at_builtin; refine wpList_append_B (Own.empty (Nat.le_refl _) _ rfl) (hown.isB.below ((Below.refl _ _).alloc (Nat.le_refl _) _)) (by decide) (by simp) rfl rfl ?_)
  intro v2 w2 hown2 hb2
  have hz2 := hb2.size
  simp only [World.size_alloc] at hz2
  rw [List.nil_append] at hown2
  go_wp2_with (at_builtin; refine wpList_append_B (hown2.below ((Below.refl _ _).alloc (Nat.le_refl _) _)) (Own.lit [1, 2, 3, 4, 5] _ 5 _ rfl rfl rfl (Nat.zero_le _) (by decide)).isB (by decide) ?_ rfl rfl ?_)
  · simp; omega
  intro v3 w3 hown3 hb3
  simp only [List.cons_append, List.nil_append] at hown3
  have hz3 := hb3.size
  simp only [World.size_alloc] at hz3
  -- what is known of the first block and of the bytes, in each later world
  have hB13 : Below w1.heap.size w1 w3 := ((((Below.refl _ _).alloc (Nat.le_refl _) _).trans hb2).alloc (by omega) _).trans hb3
  have hI3 : IsB w3 v [163, 201, 0, 1] := hown.isB.below hB13
  have hB03 : Below (w.heap.size + 1) (w.alloc (Obj.cells #[Value.bool true, Value.int IntKind.i64 3, Value.int IntKind.i64 201, Value.int IntKind.i64 8] 23)) w3 := (hb.mono (by simp)).trans (hB13.mono hz1)
  clear hb hb2 hb3 hc1 hf1 hown hown2 hB13
  go_wp2_with fail
  refine (read_any _ _ _ hown3.isB).mono ?_
  rintro e w4 ⟨rfl, hb4⟩
  rw [K1.out, K2.out]
  have hz4 := hb4.size
  have hI4 := hI3.below hb4
  have hB04 := hB03.trans (hb4.mono (by omega))
  clear hown3 hb4 hI3 hB03
  go_wp2_with fail
  refine (read_any _ _ _ (hI4.below ((Below.refl _ _).alloc (Nat.le_refl _) _))).mono ?_
  rintro e w5 ⟨rfl, hb5⟩
  rw [K3.out, K4.out]
  have hz5 := hb5.size
  simp only [World.size_alloc] at hz5
  have hI5 := hI4.below (((Below.refl _ _).alloc (Nat.le_refl _) _).trans (hb5.mono (by simp)))
  have hr4 := hb5.block w4.heap.size (by simp)
  rw [heap_alloc_new] at hr4
  have hB05 := (hB04.alloc (by omega) _).trans (hb5.mono (by simp; omega))
  clear hb5 hB04
  have hr0 := hB05.block w.heap.size (by omega)
  rw [heap_alloc_new] at hr0
  obtain ⟨hcA, hfA, _⟩ := row_facts hr4
  obtain ⟨hcB, hfB, _⟩ := row_facts hr0
  have HI := hide hI5
  clear hr4 hr0 hI4 hI5
  have n1 : w.heap.size < w5.heap.size := by omega
  have n2 : w4.heap.size < w5.heap.size := by omega
  go_wp2_with (refine wpList_conv (by rfl) rfl (HI.out.below ((Below.refl _ _).alloc (Nat.le_refl _) _)) ?_)
  refine (right_true _ _ _ _ _ (by decide)).mono ?_
  rintro e w6 ⟨rfl, hb6⟩
  have hB06 := (hB05.alloc (by omega) (Obj.cells #[Value.bool false, Value.int IntKind.i64 0, Value.int IntKind.i64 0, Value.int IntKind.i64 0] 23)).trans (hb6.mono (by simp; omega))
  go_wp2_with fail
  go_ret
  exact ⟨rfl, ((Below.refl _ _).alloc (Nat.le_refl _) _).trans (hB06.mono (by omega))⟩

end Go.Proofs.Ytellclclpmofcaa
