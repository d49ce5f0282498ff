/-
  The contract of layer 02's awake; conditions: none.
-/
import Derived.Test.YtellclclpmofcaaBSame
namespace Go.Proofs.Ytellclclpmofcaa
open Go.RowKit
set_option linter.unusedVariables false

set_option maxRecDepth 100000 in
set_option maxHeartbeats 2000000 in
theorem awake02 (w : World) : Calls Try.prog 44 #[] w fun r w' => r = .returned (.bool true) ∧ Below w.heap.size w w' := by
  have A1 := hide (add52 none 0 0 5 0 3 [] w rfl (by decide) (by decide) (by decide) (IsB.nil w))
  rw [show addL [] 0 3 5 = [160] by decide +kernel, show addM [] 0 3 5 = 3 by decide +kernel, show addBad [] 0 3 5 = 0 by decide +kernel] at A1
  go_enter Try.func44, Try.ntmps44
  go_wp2_with fail
  refine A1.out.mono ?_
  rintro r w1 ⟨s1, rfl, i1, b1⟩
  obtain ⟨a1, n1, c1, rfl, hn1, -⟩ := i1.len'
  have I1 := hide (i1.below ((Below.refl _ _).alloc (Nat.le_refl _) (.cells #[.slice a1 n1 c1, .int .i64 3] 69)))
  have W1 := hide (b1.alloc b1.size (.cells #[.slice a1 n1 c1, .int .i64 3] 69))
  have R1 := hide (heap_alloc_new w1 (.cells #[.slice a1 n1 c1, .int .i64 3] 69))
  have A2 := hide (rad57 a1 n1 c1 3 5 3 [160] (w1.alloc (.cells #[.slice a1 n1 c1, .int .i64 3] 69)) hn1 (by rw [hn1]; decide) (by decide) (by decide) (by decide) I1.out)
  rw [show radL [160] 3 3 5 = [184] by decide +kernel, show radM [160] 3 3 5 = 6 by decide +kernel, show radBad [160] 3 3 5 = 0 by decide +kernel] at A2
  obtain ⟨g, hg⟩ : ∃ g, g = w1.heap.size := ⟨_, rfl⟩
  have z1 := b1.size
  clear hn1 i1 b1
  go_wp2_with fail
  refine A2.out.mono ?_
  rintro r w2 ⟨s2, rfl, i2, b2⟩
  obtain ⟨a2, n2, c2, rfl, hn2, -⟩ := i2.len'
  have z2 := b2.size
  simp only [World.size_alloc] at z2
  have W2 := hide (W1.out.trans (b2.mono (by simp only [World.size_alloc]; omega)))
  have R2 := hide ((b2.block w1.heap.size (by simp only [World.size_alloc]; omega)).trans R1.out)
  have I2 := hide i2
  have HN2 := hide hn2
  clear hn2 i2 b2
  rw [← hg] at R2
  rw [← hg]
  have hgw : w.heap.size ≤ g := by omega
  have hg2 : g < w2.heap.size := by omega
  clear hg A1 A2 I1 R1
  go_wp2_with (refine wpList_storeW g _ rfl rfl 69 _ R2.out (by kernel_rfl) rfl rfl ?_)
  intro w3 R3' g3 z3
  have R3 := hide R3'
  have I3 := hide (I2.out.row R2.out (no_u8' _ _ _ _) g3)
  have W3 := hide (W2.out.grown g3 (by omega) (fun i hi => by cases hi; exact hgw))
  have A3 := hide (add52 a2 n2 c2 257 6 9 [184] w3 HN2.out (by rw [HN2.out]; decide) (by decide) (by decide) I3.out)
  rw [show addL [184] 6 9 257 = [186, 2] by decide +kernel, show addM [184] 6 9 257 = 15 by decide +kernel, show addBad [184] 6 9 257 = 0 by decide +kernel] at A3
  obtain ⟨k1, k2, k3⟩ := row_facts R3'
  clear R3' g3
  go_wp2_with fail
  refine A3.out.mono ?_
  rintro r w4 ⟨s4, rfl, i4, b4⟩
  obtain ⟨a4, n4, c4, rfl, hn4, -⟩ := i4.len'
  have z4 := b4.size
  have W4 := hide (W3.out.trans (b4.mono (by omega)))
  have R4 := hide ((b4.block g (by omega)).trans R3.out)
  have I4 := hide i4
  have HN4 := hide hn4
  clear hn4 i4 b4 k1 k2 k3
  go_wp2_with (refine wpList_storeW g _ rfl rfl 69 _ R4.out (by kernel_rfl) rfl rfl ?_)
  intro w5 R5' g5 z5
  have R5 := hide R5'
  have I5 := hide (I4.out.row R4.out (no_u8' _ _ _ _) g5)
  have W5 := hide (W4.out.grown g5 (by omega) (fun i hi => by cases hi; exact hgw))
  obtain ⟨k1, k2, k3⟩ := row_facts R5'
  clear R5' g5
  go_wp2_with fail
  refine (start60 _ _ _ _).mono ?_
  rintro r w6 ⟨rfl, b6⟩
  have z6 := b6.size
  have W6 := hide (W5.out.trans (b6.mono (by omega)))
  have R6 := hide ((b6.block g (by omega)).trans R5.out)
  have I6 := hide (I5.out.below b6)
  have G1 := get46 a4 n4 c4 0 0 3 [186, 2] w6 HN4.out (by rw [HN4.out]; decide) I6.out
  unfold RetGet at G1
  rw [show getP [186, 2] 0 0 3 = 3 by decide +kernel, show getE [186, 2] 0 0 3 = 0 by decide +kernel, show getN [186, 2] 0 0 3 = 5 by decide +kernel] at G1
  have HG1 := hide G1
  clear b6 G1 k1 k2 k3
  go_wp2_with fail
  refine HG1.out.mono ?_
  rintro r w7 ⟨rfl, b7⟩
  have z7 := b7.size
  have W7 := hide ((W6.out.trans (b7.mono (by omega))).alloc (by omega) (.cells #[.slice a4 n4 c4, .int .i64 3, .int .i64 0] 67))
  have R7 := hide ((heap_alloc_old w7 (.cells #[.slice a4 n4 c4, .int .i64 3, .int .i64 0] 67) (show g < w7.heap.size by omega)).trans ((b7.block g (by omega)).trans R6.out))
  have I7 := hide (I6.out.below (b7.alloc b7.size (.cells #[.slice a4 n4 c4, .int .i64 3, .int .i64 0] 67)))
  have C7 := hide (heap_alloc_new w7 (.cells #[.slice a4 n4 c4, .int .i64 3, .int .i64 0] 67))
  have G2 := rng50 a4 n4 c4 3 0 5 [186, 2] (w7.alloc (.cells #[.slice a4 n4 c4, .int .i64 3, .int .i64 0] 67)) HN4.out (by rw [HN4.out]; decide) (by decide) (by decide) I7.out
  unfold RetRng at G2
  rw [show rngP [186, 2] 3 0 (5 : Nat) = 6 by decide +kernel, show rngE [186, 2] 3 0 (5 : Nat) = 0 by decide +kernel, show rngN [186, 2] 3 0 (5 : Nat) = 3 by decide +kernel] at G2
  have HG2 := hide G2
  obtain ⟨gc, hgc⟩ : ∃ gc, gc = w7.heap.size := ⟨_, rfl⟩
  clear b7 G2
  go_wp2_with fail
  refine HG2.out.mono ?_
  rintro r w8 ⟨rfl, b8⟩
  have z8 := b8.size
  simp only [World.size_alloc] at z8
  have W8 := hide (W7.out.trans (b8.mono (by simp only [World.size_alloc]; omega)))
  have R8 := hide ((b8.block g (by simp only [World.size_alloc]; omega)).trans R7.out)
  have C8 := hide ((b8.block w7.heap.size (by simp only [World.size_alloc]; omega)).trans C7.out)
  have I8 := hide (I7.out.below b8)
  rw [← hgc] at C8
  rw [← hgc]
  have hgcw : w.heap.size ≤ gc := by omega
  have hgg : g ≠ gc := by omega
  have hgc8 : gc < w8.heap.size := by omega
  clear b8 hgc
  go_wp2_with (refine wpList_storeW gc _ rfl rfl 67 _ C8.out (by kernel_rfl) rfl rfl ?_)
  intro w9 C9' g9 z9
  have C9 := hide C9'
  have R9 := hide ((g9.block g (by omega) (fun e => hgg (Option.some.inj e))).trans R8.out)
  have I9 := hide (I8.out.row C8.out (no_u8'' _ _ _ _ _) g9)
  have W9 := hide (W8.out.grown g9 (by omega) (fun i hi => by cases hi; exact hgcw))
  have G3 := get46 a4 n4 c4 6 0 9 [186, 2] w9 HN4.out (by rw [HN4.out]; decide) I9.out
  unfold RetGet at G3
  rw [show getP [186, 2] 6 0 9 = 15 by decide +kernel, show getE [186, 2] 6 0 9 = 0 by decide +kernel, show getN [186, 2] 6 0 9 = 257 by decide +kernel] at G3
  have HG3 := hide G3
  obtain ⟨k1, k2, k3⟩ := row_facts C9'
  clear C9' g9 G3
  go_wp2_with fail
  refine HG3.out.mono ?_
  rintro r w10 ⟨rfl, b10⟩
  have z10 := b10.size
  have W10 := hide (W9.out.trans (b10.mono (by omega)))
  have R10 := hide ((b10.block g (by omega)).trans R9.out)
  have C10 := hide ((b10.block gc (by omega)).trans C9.out)
  have I10 := hide (I9.out.below b10)
  clear b10 k1 k2 k3
  go_wp2_with (refine wpList_storeW gc _ rfl rfl 67 _ C10.out (by kernel_rfl) rfl rfl ?_)
  intro w11 C11' g11 z11
  have C11 := hide C11'
  have R11 := hide ((g11.block g (by omega) (fun e => hgg (Option.some.inj e))).trans R10.out)
  have I11 := hide (I10.out.row C10.out (no_u8'' _ _ _ _ _) g11)
  have W11 := hide (W10.out.grown g11 (by omega) (fun i hi => by cases hi; exact hgcw))
  have G4 := get46 a4 n4 c4 15 0 9 [186, 2] w11 HN4.out (by rw [HN4.out]; decide) I11.out
  unfold RetGet at G4
  rw [show getP [186, 2] 15 0 9 = 15 by decide +kernel, show getE [186, 2] 15 0 9 = 2 by decide +kernel, show getN [186, 2] 15 0 9 = 0 by decide +kernel] at G4
  have HG4 := hide G4
  obtain ⟨k1, k2, k3⟩ := row_facts C11'
  clear C11' g11 G4
  go_wp2_with fail
  refine HG4.out.mono ?_
  rintro r w12 ⟨rfl, b12⟩
  have z12 := b12.size
  have W12 := hide ((W11.out.trans (b12.mono (by omega))).alloc (by omega) (.cells #[.slice a4 n4 c4, .int .i64 15, .int .i64 2] 67))
  have R12 := hide ((heap_alloc_old w12 (.cells #[.slice a4 n4 c4, .int .i64 15, .int .i64 2] 67) (show g < w12.heap.size by omega)).trans ((b12.block g (by omega)).trans R11.out))
  have C12 := hide ((heap_alloc_old w12 (.cells #[.slice a4 n4 c4, .int .i64 15, .int .i64 2] 67) (show gc < w12.heap.size by omega)).trans ((b12.block gc (by omega)).trans C11.out))
  have I12 := hide (I11.out.below (b12.alloc b12.size (.cells #[.slice a4 n4 c4, .int .i64 15, .int .i64 2] 67)))
  have D12 := hide (heap_alloc_new w12 (.cells #[.slice a4 n4 c4, .int .i64 15, .int .i64 2] 67))
  obtain ⟨j1, j2, j3⟩ := row_facts R12.out
  clear b12 k1 k2 k3
  obtain ⟨k1, k2, k3⟩ := row_facts C12.out
  have HRT := right54 a4 n4 c4 15 [186, 2] (w12.alloc (.cells #[.slice a4 n4 c4, .int .i64 15, .int .i64 2] 67)) HN4.out (by rw [HN4.out]; decide) (by decide) I12.out
  rw [show inkB [186, 2] 15 = true by decide +kernel] at HRT
  have HRT2 := hide HRT
  clear HRT
  go_wp2_with fail
  refine HRT2.out.mono ?_
  rintro r w13 ⟨rfl, b13⟩
  have z13 := b13.size
  simp only [World.size_alloc] at z13
  have W13 := hide (W12.out.trans (b13.mono (by simp only [World.size_alloc]; omega)))
  have R13 := hide ((b13.block g (by simp only [World.size_alloc]; omega)).trans R12.out)
  have C13 := hide ((b13.block gc (by simp only [World.size_alloc]; omega)).trans C12.out)
  have D13 := hide ((b13.block w12.heap.size (by simp only [World.size_alloc]; omega)).trans D12.out)
  have I13 := hide (I12.out.below b13)
  clear b13 k1 k2 k3 j1 j2 j3
  obtain ⟨k1, k2, k3⟩ := row_facts C13.out
  have HLT := left48 a4 n4 c4 15 0 [186, 2] w13 HN4.out (by rw [HN4.out]; decide)
  rw [show leftN [186, 2] 15 0 = 1 by decide +kernel] at HLT
  have HLT2 := hide HLT
  clear HLT
  go_wp2_with fail
  refine HLT2.out.mono ?_
  rintro r w14 ⟨rfl, b14⟩
  have z14 := b14.size
  have W14 := hide (W13.out.trans (b14.mono (by omega)))
  have R14 := hide ((b14.block g (by omega)).trans R13.out)
  have D14 := hide ((b14.block w12.heap.size (by omega)).trans D13.out)
  have I14 := hide (I13.out.below b14)
  clear b14 k1 k2 k3
  obtain ⟨j1, j2, j3⟩ := row_facts R14.out
  obtain ⟨m1, m2, m3⟩ := row_facts D14.out
  go_wp2_with (refine wpList_conv (by rfl) rfl I14.out ?_)
  go_ret
  exact ⟨rfl, W14.out⟩

end Go.Proofs.Ytellclclpmofcaa
