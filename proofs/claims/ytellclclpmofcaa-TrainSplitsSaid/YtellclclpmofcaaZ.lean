/-
  The fixed answers of layer 3: awake returns true; conditions: none.
-/
import Derived.Test.YtellclclpmofcaaY
namespace Go.Proofs.Ytellclclpmofcaa
open Go.RowKit

set_option maxRecDepth 100000 in
set_option maxHeartbeats 1000000 in
theorem awake03 (w : World) : Calls Try.prog 22 #[] w fun e w' => e = .returned (.bool true) ∧ Below w.heap.size w w' := by
  go_enter Try.func22, Try.ntmps22
  go_wp2_with fail
  refine (add_yes _ [7, 8] 3 _ (Own.lit [7, 8] _ 2 _ rfl rfl rfl (Nat.zero_le _) (by decide)).isB (by decide) (by decide) (by decide)).mono ?_
  rintro e w1 ⟨v, rfl, o1, b1⟩
  rw [show addL [7, 8] 3 = [7, 8, 0, 0, 3] by decide] at o1
  have HI := hide o1.isB
  have z1 := b1.size
  simp only [World.size_alloc] at z1
  have B1 := ((Below.refl w.heap.size w).alloc (Nat.le_refl _) _).trans (b1.mono (by simp))
  clear o1 b1
  go_wp2_with fail
  refine (trail_any _ _ _ HI.out).mono ?_
  rintro e w2 ⟨rfl, b2⟩
  rw [show trailE [7, 8, 0, 0, 3] = 0 by decide, show trailN [7, 8, 0, 0, 3] = 3 by decide]
  have H2 := hide (HI.out.below b2)
  have z2 := b2.size
  have B2 := B1.trans (b2.mono (by omega))
  clear b2 B1 HI
  go_wp2_with (refine wpList_conv (by rfl) rfl H2.out ?_)
  refine (clean_any _ _ _ H2.out).mono ?_
  rintro e w3 ⟨rfl, b3⟩
  rw [show cleanB [7, 8, 0, 0, 3] = true by decide]
  have H3 := hide (H2.out.below b3)
  have z3 := b3.size
  have B3 := B2.trans (b3.mono (by omega))
  clear b3 B2 H2
  go_wp2_with fail
  refine (round_any _ _).mono ?_
  rintro e w4 ⟨rfl, b4⟩
  rw [show roundZ 5 = 8 by decide]
  have H4 := hide (H3.out.below b4)
  have z4 := b4.size
  have B4 := B3.trans (b4.mono (by omega))
  clear b4 B3 H3
  go_wp2_with (refine wpList_slice_hi H4.out 1 (by decide) rfl (by rfl) rfl rfl ?_)
  refine (fill_any _ _ _ (H4.out.slice (lo := 0) (hi := 1) (by decide) (by decide)) (by decide)).mono ?_
  rintro e w5 ⟨v5, rfl, o5, b5⟩
  rw [show fillL (List.drop 0 (List.take 1 [7, 8, 0, 0, 3])) = [7, 0, 0, 0] by decide] at o5
  have H5 := hide (H4.out.below b5)
  have HV := hide o5.isB
  have z5 := b5.size
  have B5 := B4.trans (b5.mono (by omega))
  clear b5 B4 H4 o5
  go_wp2_with (first | (refine wpList_conv (by rfl) rfl HV.out ?_) | (refine wpList_slice_lohi H5.out 2 4 (by decide) (by decide) rfl rfl (by rfl) rfl rfl rfl ?_))
  refine (zero_any _ _ _ (H5.out.slice (lo := 2) (hi := 4) (by decide) (by decide))).mono ?_
  rintro e w6 ⟨rfl, b6⟩
  rw [show zeroB (List.drop 2 (List.take 4 [7, 8, 0, 0, 3])) = true by decide]
  have B6 := B5.trans (b6.mono (by omega))
  clear b6 B5
  go_wp2_with fail
  go_ret
  exact ⟨rfl, B6⟩

end Go.Proofs.Ytellclclpmofcaa
