/-
  bits.Add and bits.AddRange where they succeed: the ink that comes back is the call's own; conditions: the ink is right, the number fits.
-/
import Derived.Test.YtellclclpmofcaaBBack
namespace Go.Proofs.Ytellclclpmofcaa
open Go.RowKit
set_option linter.unusedVariables false

/-- An ink of the call's own, and no error. -/
def RetAddO (w : World) (l : List UInt8) (z : Int) (r : Ending) (w' : World) : Prop :=
  ∃ s, r = .returned (.tuple #[.agg #[s, .int .i64 z], .int .i64 0]) ∧ Own w' w.heap.size s l ∧ Below w.heap.size w w'

set_option maxRecDepth 100000 in
set_option maxHeartbeats 2000000 in
theorem add52o (a : Option Addr) (n c v M K : Nat) (l : List UInt8) (w : World) (hn : n = l.length) (hl : n ≤ 1000000) (hi : inkB l (M : Int) = true) (hv : v < 18446744073709551616) (hK : K ≤ 64) (hf : v < 2 ^ K) (h : IsB w (.slice a n c) l) :
    Calls Try.prog 52 #[.agg #[.slice a n c, .int .i64 (M : Int)], .int .u64 (v : Int), .int .i64 (K : Int)] w (RetAddO w (inkAdd l M v K) ((M + K : Nat) : Int)) := by
  have hm : (M : Int) ≤ 9223372036854775807 := by have := (inkB_spec.1 hi).2.1; omega
  have HR := hide (fun w h => right54 a n c (M : Int) l w hn hl hm h)
  rw [hi] at HR
  have HI := hide h
  have HB0 := hide (((Below.refl w.heap.size w).alloc (Nat.le_refl _) (.cells #[.slice a n c, .int .i64 (M : Int)] 69)).alloc (by simp) (.cells #[.slice none 0 0, .int .i64 0] 69))
  have HN := hide hn
  have HV := hide hv
  have HL := hide hl
  have HQ := hide hi
  have HD := hide (fun w h => draw70 a n c M v K l w HN.out HL.out HQ.out (by omega) HV.out h)
  have HY : Hid (v >>> K = 0) := hide (shr_ne.2 hf)
  have hKi : (K : Int) ≤ 64 := by omega
  have hK0 : (0 : Int) ≤ K := by omega
  unfold RetAddO
  clear hn h hv hi hf hl
  by_cases hK64 : (K : Int) < 64
  · go_enter Try.func52, Try.ntmps52

    go_wp2_with fail
    refine (HR.out _ (HI.out.below HB0.out)).mono ?_
    rintro r w1 ⟨rfl, b1⟩
    have HW1 := hide (HB0.out.trans (b1.mono (by simp only [World.size_alloc]; omega)))
    have z1 := b1.size
    simp only [World.size_alloc] at z1
    have HR2 := hide ((b1.block w.heap.size (by simp only [World.size_alloc]; omega)).trans (heap_alloc2_old w (.cells #[.slice a n c, .int .i64 (M : Int)] 69) (.cells #[.slice none 0 0, .int .i64 0] 69)))
    have HR4 := hide ((b1.block (w.heap.size + 1) (by simp only [World.size_alloc]; omega)).trans (heap_alloc2_new w (.cells #[.slice a n c, .int .i64 (M : Int)] 69) (.cells #[.slice none 0 0, .int .i64 0] 69)))
    have HIX := hide (HI.out.below HW1.out)
    clear b1
    obtain ⟨k1, k2, k3⟩ := row_facts HR2.out
    go_wp2_with (((with_reducible show wpList _ _ _ (Oper.mk _ (.binOp .shr _ _ _ _) _ _ _ _ :: _) _ _); refine wpList_shr (X := v) (s := K) (Z := 0) rfl rfl rfl HV.out HY.out ?_))
    refine (HD.out _ HIX.out).mono ?_
    rintro r w5 ⟨s5, rfl, o5, b5⟩
    have HR4d := hide ((b5.block (w.heap.size + 1) (by omega)).trans HR4.out)
    obtain ⟨a5, n5, c5, rfl, -⟩ := o5.isB.len'
    have HO5 := hide o5
    have HW5 := hide (HW1.out.trans (b5.mono (by omega)))
    have z5 := b5.size
    clear b5 o5
    go_wp2_with (refine wpList_storeW (w.heap.size + 1) _ rfl rfl 69 _ HR4d.out (by kernel_rfl) rfl rfl ?_)
    intro w3 hk3 hg3 hz3
    have HOG := hide (World.ownsRow.kept HO5.out hg3 (by
      rcases HO5.out.2 with ⟨h1, _⟩ | ⟨g, cap, cur, h1, h2, _⟩
      · exact .inl (by rw [h1]; rfl)
      · refine .inr ?_
        rw [h1]
        simp only [Value.ownBlock]
        intro he
        have := Option.some.inj he
        omega))
    have HBF := hide (HW5.out.grown hg3 (by omega) (fun i hi => by cases hi; omega))
    go_wp2_with fail
    exact bodyPost_ret (v := .tuple #[.agg #[.slice a5 n5 c5, .int .i64 ((M + K : Nat) : Int)], .int .i64 0]) (results_cell_row_tmp (p := 6) (u := 7) rfl _ _ (w.heap.size + 1) 69 _ (0, 0) _ rfl hk3 Try.underlying69 rfl (by kernel_rfl)) rfl ⟨_, by rw [Int.natCast_add], Own.mono HOG.out (by omega), HBF.out⟩
  · go_enter Try.func52, Try.ntmps52

    go_wp2_with fail
    refine (HR.out _ (HI.out.below HB0.out)).mono ?_
    rintro r w1 ⟨rfl, b1⟩
    have HW1 := hide (HB0.out.trans (b1.mono (by simp only [World.size_alloc]; omega)))
    have z1 := b1.size
    simp only [World.size_alloc] at z1
    have HR2 := hide ((b1.block w.heap.size (by simp only [World.size_alloc]; omega)).trans (heap_alloc2_old w (.cells #[.slice a n c, .int .i64 (M : Int)] 69) (.cells #[.slice none 0 0, .int .i64 0] 69)))
    have HR4 := hide ((b1.block (w.heap.size + 1) (by simp only [World.size_alloc]; omega)).trans (heap_alloc2_new w (.cells #[.slice a n c, .int .i64 (M : Int)] 69) (.cells #[.slice none 0 0, .int .i64 0] 69)))
    have HIX := hide (HI.out.below HW1.out)
    clear b1
    obtain ⟨k1, k2, k3⟩ := row_facts HR2.out
    go_wp2_with fail
    refine (HD.out _ HIX.out).mono ?_
    rintro r w5 ⟨s5, rfl, o5, b5⟩
    have HR4d := hide ((b5.block (w.heap.size + 1) (by omega)).trans HR4.out)
    obtain ⟨a5, n5, c5, rfl, -⟩ := o5.isB.len'
    have HO5 := hide o5
    have HW5 := hide (HW1.out.trans (b5.mono (by omega)))
    have z5 := b5.size
    clear b5 o5
    go_wp2_with (refine wpList_storeW (w.heap.size + 1) _ rfl rfl 69 _ HR4d.out (by kernel_rfl) rfl rfl ?_)
    intro w3 hk3 hg3 hz3
    have HOG := hide (World.ownsRow.kept HO5.out hg3 (by
      rcases HO5.out.2 with ⟨h1, _⟩ | ⟨g, cap, cur, h1, h2, _⟩
      · exact .inl (by rw [h1]; rfl)
      · refine .inr ?_
        rw [h1]
        simp only [Value.ownBlock]
        intro he
        have := Option.some.inj he
        omega))
    have HBF := hide (HW5.out.grown hg3 (by omega) (fun i hi => by cases hi; omega))
    go_wp2_with fail
    exact bodyPost_ret (v := .tuple #[.agg #[.slice a5 n5 c5, .int .i64 ((M + K : Nat) : Int)], .int .i64 0]) (results_cell_row_tmp (p := 6) (u := 7) rfl _ _ (w.heap.size + 1) 69 _ (0, 0) _ rfl hk3 Try.underlying69 rfl (by kernel_rfl)) rfl ⟨_, by rw [Int.natCast_add], Own.mono HOG.out (by omega), HBF.out⟩

set_option maxRecDepth 100000 in
set_option maxHeartbeats 2000000 in
theorem rad57o (a : Option Addr) (n c v N M : Nat) (l : List UInt8) (w : World) (hn : n = l.length) (hl : n ≤ 1000000) (hi : inkB l (M : Int) = true) (h1 : 1 ≤ N) (h2 : N ≤ 4294967296) (hv : v < N) (h : IsB w (.slice a n c) l) :
    Calls Try.prog 57 #[.agg #[.slice a n c, .int .i64 (M : Int)], .int .u64 (v : Int), .int .u64 (N : Int)] w (RetAddO w (inkAdd l M (codeV v N) (codeW v N)) ((M + codeW v N : Nat) : Int)) := by
  have hm : (M : Int) ≤ 9223372036854775807 := by have := (inkB_spec.1 hi).2.1; omega
  have HR := hide (fun w h => right54 a n c (M : Int) l w hn hl hm h)
  rw [hi] at HR
  have HI := hide h
  have HB0 := hide (((Below.refl w.heap.size w).alloc (Nat.le_refl _) (.cells #[.slice a n c, .int .i64 (M : Int)] 69)).alloc (by simp) (.cells #[.slice none 0 0, .int .i64 0] 69))
  have HN := hide hn
  have HL := hide hl
  have HQ := hide hi
  unfold RetAddO
  have h1i : 1 ≤ (N : Int) := by omega
  have h2i : (N : Int) ≤ 4294967296 := by omega
  have h3i : (v : Int) < N := by omega
  obtain ⟨gs1, gs2, gs3, gs4⟩ := gap_spec (n := N) (by omega)
  have gs5 := blen33 (n := N) (by omega)
  have gs6 := (blen_spec (n := N) (by omega)).2.2
  have HS := hide (fun w => shape68 N (by omega) (by omega) w)
  have HD := hide (fun (v K : Nat) (hK : K ≤ 64) (hv : v < 18446744073709551616) w h => draw70 a n c M v K l w HN.out HL.out HQ.out hK hv h)
  rw [codeV, codeW]
  obtain ⟨b, hbl⟩ : ∃ b, b = blen N := ⟨_, rfl⟩
  obtain ⟨g, hg⟩ : ∃ g, g = gapM N := ⟨_, rfl⟩
  rw [← hbl, ← hg] at HS
  rw [← hbl] at gs5 gs6
  rw [← hg] at gs2
  rw [← hbl, ← hg]
  have gs5i : (b : Int) ≤ 33 := by omega
  have gs2i : (g : Int) ≤ 4294967296 := by omega
  have HVV : Hid (v < 18446744073709551616) := hide (by omega)
  by_cases h4 : v < g
  · rw [if_pos h4, if_pos h4]
    have h4i : (v : Int) < g := by omega
    obtain ⟨bw, hbw⟩ : ∃ bw, bw = b - 1 := ⟨_, rfl⟩
    rw [← hbw]
    have HBW : Hid (((bw : Nat) : Int) = (b : Int) - 1) := hide (by omega)
    have hbw33 : bw ≤ 64 := by omega
    clear hn h hi hl h1 h2 hv gs1 gs3 gs4 hbl hg hbw
    go_enter Try.func57, Try.ntmps57

    go_wp2_with fail
    refine (HR.out _ (HI.out.below HB0.out)).mono ?_
    rintro r w1 ⟨rfl, b1⟩
    have HW1 := hide (HB0.out.trans (b1.mono (by simp only [World.size_alloc]; omega)))
    have z1 := b1.size
    simp only [World.size_alloc] at z1
    have HR2 := hide ((b1.block w.heap.size (by simp only [World.size_alloc]; omega)).trans (heap_alloc2_old w (.cells #[.slice a n c, .int .i64 (M : Int)] 69) (.cells #[.slice none 0 0, .int .i64 0] 69)))
    have HR4 := hide ((b1.block (w.heap.size + 1) (by simp only [World.size_alloc]; omega)).trans (heap_alloc2_new w (.cells #[.slice a n c, .int .i64 (M : Int)] 69) (.cells #[.slice none 0 0, .int .i64 0] 69)))
    have HIX := hide (HI.out.below HW1.out)
    clear b1
    obtain ⟨k1, k2, k3⟩ := row_facts HR2.out
    go_wp2_with fail
    refine (HS.out _).mono ?_
    rintro r w1' ⟨rfl, hw⟩
    obtain rfl := hw.symm
    go_wp2_with fail
    have HDD := hide (HD.out v bw hbw33 HVV.out _ HIX.out)
    rw [HBW.out] at HDD
    refine HDD.out.mono ?_
    rintro r w5 ⟨s5, rfl, o5, b5⟩
    have HR4d := hide ((b5.block (w.heap.size + 1) (by omega)).trans HR4.out)
    obtain ⟨a5, n5, c5, rfl, -⟩ := o5.isB.len'
    have HO5 := hide o5
    have HW5 := hide (HW1.out.trans (b5.mono (by omega)))
    have z5 := b5.size
    clear b5 o5
    go_wp2_with (refine wpList_storeW (w.heap.size + 1) _ rfl rfl 69 _ HR4d.out (by kernel_rfl) rfl rfl ?_)
    intro w3 hk3 hg3 hz3
    have HOG := hide (World.ownsRow.kept HO5.out hg3 (by
      rcases HO5.out.2 with ⟨h1, _⟩ | ⟨g, cap, cur, h1, h2, _⟩
      · exact .inl (by rw [h1]; rfl)
      · refine .inr ?_
        rw [h1]
        simp only [Value.ownBlock]
        intro he
        have := Option.some.inj he
        omega))
    have HBF := hide (HW5.out.grown hg3 (by omega) (fun i hi => by cases hi; omega))
    go_wp2_with fail
    exact bodyPost_ret (v := .tuple #[.agg #[.slice a5 n5 c5, .int .i64 ((M + bw : Nat) : Int)], .int .i64 0]) (results_cell_row_tmp (p := 6) (u := 7) rfl _ _ (w.heap.size + 1) 69 _ (0, 0) _ rfl hk3 Try.underlying69 rfl (by kernel_rfl)) rfl ⟨_, by rw [Int.natCast_add], Own.mono HOG.out (by omega), HBF.out⟩
  · rw [if_neg h4, if_neg h4]
    have h4i : (g : Int) ≤ v := by omega
    have HVG : Hid (v + g < 18446744073709551616) := hide (by omega)
    have hvi : (v : Int) ≤ 4294967296 := by omega
    have hb33 : b ≤ 64 := by omega
    clear hn h hi hl h1 h2 hv gs1 gs3 gs4 hbl hg
    go_enter Try.func57, Try.ntmps57

    go_wp2_with fail
    refine (HR.out _ (HI.out.below HB0.out)).mono ?_
    rintro r w1 ⟨rfl, b1⟩
    have HW1 := hide (HB0.out.trans (b1.mono (by simp only [World.size_alloc]; omega)))
    have z1 := b1.size
    simp only [World.size_alloc] at z1
    have HR2 := hide ((b1.block w.heap.size (by simp only [World.size_alloc]; omega)).trans (heap_alloc2_old w (.cells #[.slice a n c, .int .i64 (M : Int)] 69) (.cells #[.slice none 0 0, .int .i64 0] 69)))
    have HR4 := hide ((b1.block (w.heap.size + 1) (by simp only [World.size_alloc]; omega)).trans (heap_alloc2_new w (.cells #[.slice a n c, .int .i64 (M : Int)] 69) (.cells #[.slice none 0 0, .int .i64 0] 69)))
    have HIX := hide (HI.out.below HW1.out)
    clear b1
    obtain ⟨k1, k2, k3⟩ := row_facts HR2.out
    go_wp2_with fail
    refine (HS.out _).mono ?_
    rintro r w1' ⟨rfl, hw⟩
    obtain rfl := hw.symm
    go_wp2_with fail
    have HDD := hide (HD.out (v + g) b hb33 HVG.out _ HIX.out)
    rw [Int.natCast_add] at HDD
    refine HDD.out.mono ?_
    rintro r w5 ⟨s5, rfl, o5, b5⟩
    have HR4d := hide ((b5.block (w.heap.size + 1) (by omega)).trans HR4.out)
    obtain ⟨a5, n5, c5, rfl, -⟩ := o5.isB.len'
    have HO5 := hide o5
    have HW5 := hide (HW1.out.trans (b5.mono (by omega)))
    have z5 := b5.size
    clear b5 o5
    go_wp2_with (refine wpList_storeW (w.heap.size + 1) _ rfl rfl 69 _ HR4d.out (by kernel_rfl) rfl rfl ?_)
    intro w3 hk3 hg3 hz3
    have HOG := hide (World.ownsRow.kept HO5.out hg3 (by
      rcases HO5.out.2 with ⟨h1, _⟩ | ⟨g, cap, cur, h1, h2, _⟩
      · exact .inl (by rw [h1]; rfl)
      · refine .inr ?_
        rw [h1]
        simp only [Value.ownBlock]
        intro he
        have := Option.some.inj he
        omega))
    have HBF := hide (HW5.out.grown hg3 (by omega) (fun i hi => by cases hi; omega))
    go_wp2_with fail
    exact bodyPost_ret (v := .tuple #[.agg #[.slice a5 n5 c5, .int .i64 ((M + b : Nat) : Int)], .int .i64 0]) (results_cell_row_tmp (p := 6) (u := 7) rfl _ _ (w.heap.size + 1) 69 _ (0, 0) _ rfl hk3 Try.underlying69 rfl (by kernel_rfl)) rfl ⟨_, by rw [Int.natCast_add], Own.mono HOG.out (by omega), HBF.out⟩

end Go.Proofs.Ytellclclpmofcaa
