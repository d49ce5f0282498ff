/-
  The contracts of the reference of bits.Range; conditions: the bytes are no more than 1000000.
-/
import Derived.Test.YtellclclpmofcaaBRng
namespace Go.Proofs.Ytellclclpmofcaa
open Go.RowKit
set_option linter.unusedVariables false


set_option maxRecDepth 100000 in
set_option maxHeartbeats 2000000 in
theorem rng51 (a : Option Addr) (n c : Nat) (p e : Int) (N : Nat) (l : List UInt8) (w : World) (hn : n = l.length) (hl : n ≤ 1000000) (hp : p ≤ 9223372036854775807) (hN : N < 18446744073709551616) (h : IsB w (.slice a n c) l) :
    Calls Try.prog 51 #[.agg #[.slice a n c, .int .i64 p, .int .i64 e], .int .u64 (N : Int)] w (RetRng w (.slice a n c) l p e N) := by
  have hli : (n : Int) ≤ 1000000 := by omega
  have HR := hide (fun w => right45 a n c p e l w hn hl hp)
  have HI := hide h
  unfold RetRng
  obtain ⟨q, hq⟩ : ∃ q, q = rdyB l p e := ⟨_, rfl⟩
  cases q
  · have hb1 : rngBad l p e (N : Int) = 1 := by rw [rngBad, if_pos (.inl hq.symm)]
    rw [rngP, rngE, rngN, hb1, if_neg (by decide), if_neg (by decide)]
    clear hb1
    rw [← hq] at HR
    clear hn hl h hq
    go_enter Try.func51, Try.ntmps51
    go_wp2_with fail
    refine (HR.out _).mono ?_
    rintro r w1 ⟨rfl, b1⟩
    have HW1 := hide (((Below.refl w.heap.size w).alloc (Nat.le_refl _) (.cells #[.slice a n c, .int .i64 p, .int .i64 e] 67)).trans ((Below.refl _ _).alloc (by simp) (.cells #[.slice none 0 0, .int .i64 0, .int .i64 0] 67) |>.trans (b1.mono (by simp; omega))))
    have z1 := b1.size
    simp only [World.size_alloc] at z1
    have HR2 := hide ((b1.block w.heap.size (by simp only [World.size_alloc]; omega)).trans (heap_alloc2_old w (.cells #[.slice a n c, .int .i64 p, .int .i64 e] 67) (.cells #[.slice none 0 0, .int .i64 0, .int .i64 0] 67)))
    have HR4 := hide ((b1.block (w.heap.size + 1) (by simp only [World.size_alloc]; omega)).trans (heap_alloc2_new w (.cells #[.slice a n c, .int .i64 p, .int .i64 e] 67) (.cells #[.slice none 0 0, .int .i64 0, .int .i64 0] 67)))
    clear b1
    obtain ⟨k1, k2, k3⟩ := row_facts HR2.out

    go_wp2_with fail
    refine (stays66 _ _ _ _ _ 1 _).mono ?_
    rintro r wf ⟨rfl, bf⟩
    have HWf := hide (HW1.out.trans (bf.mono (by omega)))
    have zf := bf.size
    have HR4' := hide ((bf.block (w.heap.size + 1) (by omega)).trans HR4.out)
    clear bf
    go_wp2_with (refine wpList_storeW (w.heap.size + 1) _ rfl rfl 67 _ HR4'.out (by kernel_rfl) rfl rfl ?_)
    intro w3 hk3 hg3 hz3
    go_wp2_with fail
    exact bodyPost_ret (v := .tuple #[.agg #[.slice a n c, .int .i64 p, .int .i64 (orE e 1)], .int .u64 0]) (results_cell_row_tmp (p := 4) (u := 5) rfl _ _ (w.heap.size + 1) 67 _ (0, 0) _ rfl hk3 Try.underlying67 rfl (by kernel_rfl)) rfl ⟨rfl, HWf.out.grown hg3 (by omega) (fun i hi => by cases hi; omega)⟩
  · obtain ⟨g0, g1, g2⟩ : e = 0 ∧ 0 ≤ p ∧ p ≤ 8 * (n : Int) := by
      have := hq.symm
      simp [rdyB] at this
      omega
    subst g0
    have HQ : Hid (rdyB l p 0 = true) := hide hq.symm
    rw [HQ.out] at HR
    clear hq
    by_cases h1 : (N : Int) < 1
    · have hb1 : rngBad l p 0 (N : Int) = 1 := by rw [rngBad, if_pos (.inr (.inl h1))]
      rw [rngP, rngE, rngN, hb1, if_neg (by decide), if_neg (by decide)]
      clear hb1
      clear hn hl h
      go_enter Try.func51, Try.ntmps51
      go_wp2_with fail
      refine (HR.out _).mono ?_
      rintro r w1 ⟨rfl, b1⟩
      have HW1 := hide (((Below.refl w.heap.size w).alloc (Nat.le_refl _) (.cells #[.slice a n c, .int .i64 p, .int .i64 0] 67)).trans ((Below.refl _ _).alloc (by simp) (.cells #[.slice none 0 0, .int .i64 0, .int .i64 0] 67) |>.trans (b1.mono (by simp; omega))))
      have z1 := b1.size
      simp only [World.size_alloc] at z1
      have HR2 := hide ((b1.block w.heap.size (by simp only [World.size_alloc]; omega)).trans (heap_alloc2_old w (.cells #[.slice a n c, .int .i64 p, .int .i64 0] 67) (.cells #[.slice none 0 0, .int .i64 0, .int .i64 0] 67)))
      have HR4 := hide ((b1.block (w.heap.size + 1) (by simp only [World.size_alloc]; omega)).trans (heap_alloc2_new w (.cells #[.slice a n c, .int .i64 p, .int .i64 0] 67) (.cells #[.slice none 0 0, .int .i64 0, .int .i64 0] 67)))
      clear b1
      obtain ⟨k1, k2, k3⟩ := row_facts HR2.out

      go_wp2_with fail
      refine (stays66 _ _ _ _ _ 1 _).mono ?_
      rintro r wf ⟨rfl, bf⟩
      have HWf := hide (HW1.out.trans (bf.mono (by omega)))
      have zf := bf.size
      have HR4' := hide ((bf.block (w.heap.size + 1) (by omega)).trans HR4.out)
      clear bf
      go_wp2_with (refine wpList_storeW (w.heap.size + 1) _ rfl rfl 67 _ HR4'.out (by kernel_rfl) rfl rfl ?_)
      intro w3 hk3 hg3 hz3
      go_wp2_with fail
      exact bodyPost_ret (v := .tuple #[.agg #[.slice a n c, .int .i64 p, .int .i64 (orE 0 1)], .int .u64 0]) (results_cell_row_tmp (p := 4) (u := 5) rfl _ _ (w.heap.size + 1) 67 _ (0, 0) _ rfl hk3 Try.underlying67 rfl (by kernel_rfl)) rfl ⟨rfl, HWf.out.grown hg3 (by omega) (fun i hi => by cases hi; omega)⟩
    · have h1' : 1 ≤ (N : Int) := by omega
      by_cases h2 : (4294967296 : Int) < N
      · have hb1 : rngBad l p 0 (N : Int) = 1 := by rw [rngBad, if_pos (.inr (.inr h2))]
        rw [rngP, rngE, rngN, hb1, if_neg (by decide), if_neg (by decide)]
        clear hb1
        clear hn hl h
        go_enter Try.func51, Try.ntmps51
        go_wp2_with fail
        refine (HR.out _).mono ?_
        rintro r w1 ⟨rfl, b1⟩
        have HW1 := hide (((Below.refl w.heap.size w).alloc (Nat.le_refl _) (.cells #[.slice a n c, .int .i64 p, .int .i64 0] 67)).trans ((Below.refl _ _).alloc (by simp) (.cells #[.slice none 0 0, .int .i64 0, .int .i64 0] 67) |>.trans (b1.mono (by simp; omega))))
        have z1 := b1.size
        simp only [World.size_alloc] at z1
        have HR2 := hide ((b1.block w.heap.size (by simp only [World.size_alloc]; omega)).trans (heap_alloc2_old w (.cells #[.slice a n c, .int .i64 p, .int .i64 0] 67) (.cells #[.slice none 0 0, .int .i64 0, .int .i64 0] 67)))
        have HR4 := hide ((b1.block (w.heap.size + 1) (by simp only [World.size_alloc]; omega)).trans (heap_alloc2_new w (.cells #[.slice a n c, .int .i64 p, .int .i64 0] 67) (.cells #[.slice none 0 0, .int .i64 0, .int .i64 0] 67)))
        clear b1
        obtain ⟨k1, k2, k3⟩ := row_facts HR2.out

        go_wp2_with fail
        refine (stays66 _ _ _ _ _ 1 _).mono ?_
        rintro r wf ⟨rfl, bf⟩
        have HWf := hide (HW1.out.trans (bf.mono (by omega)))
        have zf := bf.size
        have HR4' := hide ((bf.block (w.heap.size + 1) (by omega)).trans HR4.out)
        clear bf
        go_wp2_with (refine wpList_storeW (w.heap.size + 1) _ rfl rfl 67 _ HR4'.out (by kernel_rfl) rfl rfl ?_)
        intro w3 hk3 hg3 hz3
        go_wp2_with fail
        exact bodyPost_ret (v := .tuple #[.agg #[.slice a n c, .int .i64 p, .int .i64 (orE 0 1)], .int .u64 0]) (results_cell_row_tmp (p := 4) (u := 5) rfl _ _ (w.heap.size + 1) 67 _ (0, 0) _ rfl hk3 Try.underlying67 rfl (by kernel_rfl)) rfl ⟨rfl, HWf.out.grown hg3 (by omega) (fun i hi => by cases hi; omega)⟩
      · have h2' : (N : Int) ≤ 4294967296 := by omega
        have hnb : ¬ (rdyB l p 0 = false ∨ (N : Int) < 1 ∨ 4294967296 < (N : Int)) := by
          rw [HQ.out]
          simp
          omega
        obtain ⟨gs1, gs2, gs3, gs4⟩ := gap_spec (n := N) (by omega)
        have gs5 := blen33 (n := N) (by omega)
        have gs6 := (blen_spec (n := N) (by omega)).2.2
        have hbad : rngBad l p 0 (N : Int) = if 8 * (l.length : Int) - p < (blen N : Int) - 1 then 2 else if num l p.toNat (blen N - 1) < gapM N then 0 else if 8 * (l.length : Int) - p < (blen N : Int) then 2 else 0 := by
          rw [rngBad, if_neg hnb]
          simp only [Int.toNat_natCast]
        have HS := hide (fun w => spread69 N (by omega) (by omega) w)
        rw [← hn] at hbad
        obtain ⟨P, rfl⟩ := Int.eq_ofNat_of_zero_le g1
        rw [rngP, rngE, rngN, rngW]
        simp only [Int.toNat_natCast] at hbad ⊢
        have hnum := num_succ l P (blen N - 1)
        rw [Nat.sub_add_cancel gs6] at hnum
        have hv33 := num_lt l P (blen N)
        have hb33 : 2 ^ blen N ≤ 2 ^ 33 := Nat.pow_le_pow_right (by decide) gs5
        have hvb1 := num_lt l P (blen N - 1)
        obtain ⟨bw, hbw⟩ : ∃ bw, bw = blen N - 1 := ⟨_, rfl⟩
        obtain ⟨b, hb⟩ : ∃ b, b = blen N := ⟨_, rfl⟩
        obtain ⟨m, hm⟩ : ∃ m, m = gapM N := ⟨_, rfl⟩
        have hbb : b = bw + 1 := by omega
        rw [← hbw] at hnum hvb1 gs4 hbad
        rw [← hb] at hnum hv33 hb33 hbad gs4 gs5
        rw [← hm] at hbad
        rw [← hbw, ← hb, ← hm]
        rw [← hb, ← hm] at HS
        rw [← hm] at gs1 gs2
        obtain ⟨v1, hv1⟩ : ∃ v1, v1 = num l P bw := ⟨_, rfl⟩
        obtain ⟨v2, hv2⟩ : ∃ v2, v2 = num l P b := ⟨_, rfl⟩
        rw [← hv1] at hnum hvb1
        simp only [← hv1] at hbad ⊢
        rw [← hv2] at hnum hv33 ⊢
        have hb5 : (b : Int) ≤ 33 := by omega
        have HBW : Hid (((bw : Nat) : Int) = (b : Int) - 1) := hide (by omega)
        have hbwb : bw ≤ 33 := by omega
        have hv2m : v1 * 2 ≤ v2 := by omega
        have hv2b : v2 < 18446744073709551616 := by omega
        have hv1b : v1 < 18446744073709551616 := by omega
        have hmb : m < 18446744073709551616 := by omega
        have HV1 := hide hv1
        have HV2 := hide hv2
        have HN := hide hn
        have HG : Hid (∀ (u : World) (k : Nat), k ≤ 64 → IsB u (.slice a n c) l → Calls Try.prog 47 #[.agg #[.slice a n c, .int .i64 (P : Int), .int .i64 0], .int .i64 (k : Int)] u (fun r w' => r = .returned (.tuple #[.agg #[.slice a n c, .int .i64 (if 8 * (n : Int) - P < k then (P : Int) else P + k), .int .i64 (if 8 * (n : Int) - P < k then 2 else 0)], .int .u64 ((if 8 * (n : Int) - P < k then 0 else num l P k : Nat) : Int)]) ∧ Below u.heap.size u w')) := hide (by
          intro u k hk hu
          have := get47 a n c P 0 k l u hn hl hp hu
          have hnb2 : ¬ (rdyB l P 0 = false ∨ (k : Int) < 0 ∨ 64 < (k : Int)) := by
            rw [HQ.out]
            simp
            omega
          have hgb : getBad l P 0 k = if 8 * (n : Int) - P < k then 2 else 0 := by rw [getBad, if_neg hnb2, hn]
          unfold RetGet at this
          rw [getP, getE, getN, hgb] at this
          simp only [Int.toNat_natCast] at this
          by_cases hc : 8 * (n : Int) - P < k
          · simp only [if_pos hc] at this ⊢
            exact this
          · simp only [if_neg hc] at this ⊢
            exact this)
        by_cases h3 : 8 * (n : Int) - P < (b : Int) - 1
        · have hbad0 := hbad.trans (if_pos h3)
          rw [hbad0, if_neg (by decide), if_neg (by decide)]
          clear hbad0 hbad hnum hvb1 hv33 hb33 gs1 gs2 gs3 gs4 gs6 hnb hn hl h hbw hb hbb hm hv1 hv2
          go_enter Try.func51, Try.ntmps51
          go_wp2_with fail
          refine (HR.out _).mono ?_
          rintro r w1 ⟨rfl, b1⟩
          have HW1 := hide (((Below.refl w.heap.size w).alloc (Nat.le_refl _) (.cells #[.slice a n c, .int .i64 (P : Int), .int .i64 0] 67)).trans ((Below.refl _ _).alloc (by simp) (.cells #[.slice none 0 0, .int .i64 0, .int .i64 0] 67) |>.trans (b1.mono (by simp; omega))))
          have z1 := b1.size
          simp only [World.size_alloc] at z1
          have HR2 := hide ((b1.block w.heap.size (by simp only [World.size_alloc]; omega)).trans (heap_alloc2_old w (.cells #[.slice a n c, .int .i64 (P : Int), .int .i64 0] 67) (.cells #[.slice none 0 0, .int .i64 0, .int .i64 0] 67)))
          have HR4 := hide ((b1.block (w.heap.size + 1) (by simp only [World.size_alloc]; omega)).trans (heap_alloc2_new w (.cells #[.slice a n c, .int .i64 (P : Int), .int .i64 0] 67) (.cells #[.slice none 0 0, .int .i64 0, .int .i64 0] 67)))
          clear b1
          obtain ⟨k1, k2, k3⟩ := row_facts HR2.out

          go_wp2_with fail
          refine (HS.out _).mono ?_
          rintro r w1' ⟨rfl, hw⟩
          obtain rfl := hw.symm

          go_wp2_with fail
          have HI1 := hide (HI.out.below HW1.out)
          have HGG := HG.out w1 bw (by omega) HI1.out
          rw [← HV1.out, HBW.out] at HGG
          simp only [if_pos h3] at HGG
          refine HGG.mono ?_
          clear HGG
          rintro r w4 ⟨rfl, b4⟩
          have z4 := b4.size
          have HW4 := hide ((HW1.out.trans (b4.mono (by omega))).alloc (by omega) (.cells #[.slice a n c, .int .i64 (P : Int), .int .i64 2] 67))
          have HR24 := hide ((heap_alloc_old w4 (.cells #[.slice a n c, .int .i64 (P : Int), .int .i64 2] 67) (show w.heap.size < w4.heap.size by omega)).trans ((b4.block w.heap.size (by omega)).trans HR2.out))
          have HR44 := hide ((heap_alloc_old w4 (.cells #[.slice a n c, .int .i64 (P : Int), .int .i64 2] 67) (show w.heap.size + 1 < w4.heap.size by omega)).trans ((b4.block (w.heap.size + 1) (by omega)).trans HR4.out))
          have HD4 := hide (heap_alloc_new w4 (.cells #[.slice a n c, .int .i64 (P : Int), .int .i64 2] 67))
          clear b4 k1 k2 k3
          obtain ⟨k1, k2, k3⟩ := row_facts HR24.out
          simp only [World.size_alloc] at k3

          go_wp2_with fail
          refine (stays66 _ _ _ _ _ 2 _).mono ?_
          rintro r wf ⟨rfl, bf⟩
          have HWf := hide (HW4.out.trans (bf.mono (by simp only [World.size_alloc]; omega)))
          have zf := bf.size
          simp only [World.size_alloc] at zf
          have HR4' := hide ((bf.block (w.heap.size + 1) (by simp only [World.size_alloc]; omega)).trans HR44.out)
          clear bf
          go_wp2_with (refine wpList_storeW (w.heap.size + 1) _ rfl rfl 67 _ HR4'.out (by kernel_rfl) rfl rfl ?_)
          intro w3 hk3 hg3 hz3
          go_wp2_with fail
          exact bodyPost_ret (v := .tuple #[.agg #[.slice a n c, .int .i64 P, .int .i64 (orE 0 2)], .int .u64 0]) (results_cell_row_tmp (p := 4) (u := 5) rfl _ _ (w.heap.size + 1) 67 _ (0, 0) _ rfl hk3 Try.underlying67 rfl (by kernel_rfl)) rfl ⟨rfl, HWf.out.grown hg3 (by omega) (fun i hi => by cases hi; omega)⟩

        · rw [if_neg h3] at hbad
          have h3' : (b : Int) - 1 ≤ 8 * (n : Int) - P := by omega
          by_cases h4 : v1 < m
          · have hbad0 := hbad.trans (if_pos h4)
            have h4i : (v1 : Int) < m := by omega
            rw [hbad0, if_pos rfl, if_pos rfl, if_pos h4, if_pos h4]
            clear hbad0 hbad hnum hvb1 hv33 hb33 gs1 gs2 gs3 gs4 gs6 hnb hn hl h hbw hb hbb hm hv1 hv2
            go_enter Try.func51, Try.ntmps51
            go_wp2_with fail
            refine (HR.out _).mono ?_
            rintro r w1 ⟨rfl, b1⟩
            have HW1 := hide (((Below.refl w.heap.size w).alloc (Nat.le_refl _) (.cells #[.slice a n c, .int .i64 (P : Int), .int .i64 0] 67)).trans ((Below.refl _ _).alloc (by simp) (.cells #[.slice none 0 0, .int .i64 0, .int .i64 0] 67) |>.trans (b1.mono (by simp; omega))))
            have z1 := b1.size
            simp only [World.size_alloc] at z1
            have HR2 := hide ((b1.block w.heap.size (by simp only [World.size_alloc]; omega)).trans (heap_alloc2_old w (.cells #[.slice a n c, .int .i64 (P : Int), .int .i64 0] 67) (.cells #[.slice none 0 0, .int .i64 0, .int .i64 0] 67)))
            have HR4 := hide ((b1.block (w.heap.size + 1) (by simp only [World.size_alloc]; omega)).trans (heap_alloc2_new w (.cells #[.slice a n c, .int .i64 (P : Int), .int .i64 0] 67) (.cells #[.slice none 0 0, .int .i64 0, .int .i64 0] 67)))
            clear b1
            obtain ⟨k1, k2, k3⟩ := row_facts HR2.out

            go_wp2_with fail
            refine (HS.out _).mono ?_
            rintro r w1' ⟨rfl, hw⟩
            obtain rfl := hw.symm

            go_wp2_with fail
            have HI1 := hide (HI.out.below HW1.out)
            have HGG := HG.out w1 bw (by omega) HI1.out
            rw [← HV1.out, HBW.out] at HGG
            simp only [if_neg (show ¬ (8 * (n : Int) - P < (b : Int) - 1) by omega)] at HGG
            refine HGG.mono ?_
            clear HGG
            rintro r w4 ⟨rfl, b4⟩
            have z4 := b4.size
            have HW4 := hide ((HW1.out.trans (b4.mono (by omega))).alloc (by omega) (.cells #[.slice a n c, .int .i64 ((P : Int) + ((b : Int) - 1)), .int .i64 0] 67))
            have HR24 := hide ((heap_alloc_old w4 (.cells #[.slice a n c, .int .i64 ((P : Int) + ((b : Int) - 1)), .int .i64 0] 67) (show w.heap.size < w4.heap.size by omega)).trans ((b4.block w.heap.size (by omega)).trans HR2.out))
            have HR44 := hide ((heap_alloc_old w4 (.cells #[.slice a n c, .int .i64 ((P : Int) + ((b : Int) - 1)), .int .i64 0] 67) (show w.heap.size + 1 < w4.heap.size by omega)).trans ((b4.block (w.heap.size + 1) (by omega)).trans HR4.out))
            have HD4 := hide (heap_alloc_new w4 (.cells #[.slice a n c, .int .i64 ((P : Int) + ((b : Int) - 1)), .int .i64 0] 67))
            clear b4 k1 k2 k3
            obtain ⟨k1, k2, k3⟩ := row_facts HR24.out
            simp only [World.size_alloc] at k3

            obtain ⟨k4, k5, k6⟩ := row_facts HD4.out
            go_wp2_with (refine wpList_storeW (w.heap.size + 1) _ rfl rfl 67 _ HR44.out (by kernel_rfl) rfl rfl ?_)
            intro w3 hk3 hg3 hz3
            go_wp2_with fail
            exact bodyPost_ret (v := .tuple #[.agg #[.slice a n c, .int .i64 (P + (b - 1)), .int .i64 0], .int .u64 (v1 : Nat)]) (results_cell_row_tmp (p := 4) (u := 5) rfl _ _ (w.heap.size + 1) 67 _ (0, 0) _ rfl hk3 Try.underlying67 rfl (by kernel_rfl)) rfl ⟨by rw [HBW.out]; rfl, HW4.out.grown hg3 (by simp only [World.size_alloc]; omega) (fun i hi => by cases hi; omega)⟩
          · rw [if_neg h4] at hbad
            have h4i : (m : Int) ≤ v1 := by omega
            by_cases h5 : 8 * (n : Int) - P < (b : Int)
            · have hbad0 := hbad.trans (if_pos h5)
              rw [hbad0, if_neg (by decide), if_neg (by decide)]
              clear hbad0 hbad hnum hvb1 hv33 hb33 gs1 gs2 gs3 gs4 gs6 hnb hn hl h hbw hb hbb hm hv1 hv2
              go_enter Try.func51, Try.ntmps51
              go_wp2_with fail
              refine (HR.out _).mono ?_
              rintro r w1 ⟨rfl, b1⟩
              have HW1 := hide (((Below.refl w.heap.size w).alloc (Nat.le_refl _) (.cells #[.slice a n c, .int .i64 (P : Int), .int .i64 0] 67)).trans ((Below.refl _ _).alloc (by simp) (.cells #[.slice none 0 0, .int .i64 0, .int .i64 0] 67) |>.trans (b1.mono (by simp; omega))))
              have z1 := b1.size
              simp only [World.size_alloc] at z1
              have HR2 := hide ((b1.block w.heap.size (by simp only [World.size_alloc]; omega)).trans (heap_alloc2_old w (.cells #[.slice a n c, .int .i64 (P : Int), .int .i64 0] 67) (.cells #[.slice none 0 0, .int .i64 0, .int .i64 0] 67)))
              have HR4 := hide ((b1.block (w.heap.size + 1) (by simp only [World.size_alloc]; omega)).trans (heap_alloc2_new w (.cells #[.slice a n c, .int .i64 (P : Int), .int .i64 0] 67) (.cells #[.slice none 0 0, .int .i64 0, .int .i64 0] 67)))
              clear b1
              obtain ⟨k1, k2, k3⟩ := row_facts HR2.out

              go_wp2_with fail
              refine (HS.out _).mono ?_
              rintro r w1' ⟨rfl, hw⟩
              obtain rfl := hw.symm

              go_wp2_with fail
              have HI1 := hide (HI.out.below HW1.out)
              have HGG := HG.out w1 bw (by omega) HI1.out
              rw [← HV1.out, HBW.out] at HGG
              simp only [if_neg (show ¬ (8 * (n : Int) - P < (b : Int) - 1) by omega)] at HGG
              refine HGG.mono ?_
              clear HGG
              rintro r w4 ⟨rfl, b4⟩
              have z4 := b4.size
              have HW4 := hide ((HW1.out.trans (b4.mono (by omega))).alloc (by omega) (.cells #[.slice a n c, .int .i64 ((P : Int) + ((b : Int) - 1)), .int .i64 0] 67))
              have HR24 := hide ((heap_alloc_old w4 (.cells #[.slice a n c, .int .i64 ((P : Int) + ((b : Int) - 1)), .int .i64 0] 67) (show w.heap.size < w4.heap.size by omega)).trans ((b4.block w.heap.size (by omega)).trans HR2.out))
              have HR44 := hide ((heap_alloc_old w4 (.cells #[.slice a n c, .int .i64 ((P : Int) + ((b : Int) - 1)), .int .i64 0] 67) (show w.heap.size + 1 < w4.heap.size by omega)).trans ((b4.block (w.heap.size + 1) (by omega)).trans HR4.out))
              have HD4 := hide (heap_alloc_new w4 (.cells #[.slice a n c, .int .i64 ((P : Int) + ((b : Int) - 1)), .int .i64 0] 67))
              clear b4 k1 k2 k3
              obtain ⟨k1, k2, k3⟩ := row_facts HR24.out
              simp only [World.size_alloc] at k3

              go_wp2_with fail
              have HI4 := hide (HI.out.below HW4.out)
              have HGG := HG.out _ b (by omega) HI4.out
              rw [← HV2.out] at HGG
              simp only [if_pos h5] at HGG
              refine HGG.mono ?_
              clear HGG
              rintro r w5 ⟨rfl, b5⟩
              have z5 := b5.size
              simp only [World.size_alloc] at z5
              have HW5 := hide (HW4.out.trans (b5.mono (by simp only [World.size_alloc]; omega)))
              have HR25 := hide ((b5.block w.heap.size (by simp only [World.size_alloc]; omega)).trans HR24.out)
              have HR45 := hide ((b5.block (w.heap.size + 1) (by simp only [World.size_alloc]; omega)).trans HR44.out)
              have HD5 := hide ((b5.block w4.heap.size (by simp only [World.size_alloc]; omega)).trans HD4.out)
              clear b5 k1 k2 k3
              go_wp2_with (refine wpList_storeW w4.heap.size _ rfl rfl 67 _ HD5.out (by kernel_rfl) rfl rfl ?_)
              intro w6 hk6 hg6 hz6
              have HW6 := hide (HW5.out.grown hg6 (by omega) (fun i hi => by cases hi; omega))
              have HR26 := hide ((hg6.block w.heap.size (by omega) (fun hi => by have := Option.some.inj hi; omega)).trans HR25.out)
              have HR46 := hide ((hg6.block (w.heap.size + 1) (by omega) (fun hi => by have := Option.some.inj hi; omega)).trans HR45.out)
              clear hg6
              obtain ⟨k1, k2, k3⟩ := row_facts HR26.out
              obtain ⟨k4, k5, k6⟩ := row_facts hk6

              go_wp2_with fail
              refine (stays66 _ _ _ _ _ 2 _).mono ?_
              rintro r wf ⟨rfl, bf⟩
              have HWf := hide (HW6.out.trans (bf.mono (by omega)))
              have zf := bf.size
              have HR4' := hide ((bf.block (w.heap.size + 1) (by omega)).trans HR46.out)
              clear bf
              go_wp2_with (refine wpList_storeW (w.heap.size + 1) _ rfl rfl 67 _ HR4'.out (by kernel_rfl) rfl rfl ?_)
              intro w3 hk3 hg3 hz3
              go_wp2_with fail
              exact bodyPost_ret (v := .tuple #[.agg #[.slice a n c, .int .i64 (P : Int), .int .i64 (orE 0 2)], .int .u64 0]) (results_cell_row_tmp (p := 4) (u := 5) rfl _ _ (w.heap.size + 1) 67 _ (0, 0) _ rfl hk3 Try.underlying67 rfl (by kernel_rfl)) rfl ⟨rfl, HWf.out.grown hg3 (by omega) (fun i hi => by cases hi; omega)⟩

            · have hbad0 := hbad.trans (if_neg h5)
              rw [hbad0, if_pos rfl, if_pos rfl, if_neg h4, if_neg h4]
              have h5' : (b : Int) ≤ 8 * (n : Int) - P := by omega
              have hmv : m ≤ v2 := by omega
              obtain ⟨v3, hv3⟩ : ∃ v3, v2 - m = v3 := ⟨_, rfl⟩
              rw [hv3]
              have HV3 := hide hv3
              clear hv3
              clear hbad0 hbad hnum hvb1 hv33 hb33 gs1 gs2 gs3 gs4 gs6 hnb hn hl h hbw hb hbb hm hv1 hv2
              go_enter Try.func51, Try.ntmps51
              go_wp2_with fail
              refine (HR.out _).mono ?_
              rintro r w1 ⟨rfl, b1⟩
              have HW1 := hide (((Below.refl w.heap.size w).alloc (Nat.le_refl _) (.cells #[.slice a n c, .int .i64 (P : Int), .int .i64 0] 67)).trans ((Below.refl _ _).alloc (by simp) (.cells #[.slice none 0 0, .int .i64 0, .int .i64 0] 67) |>.trans (b1.mono (by simp; omega))))
              have z1 := b1.size
              simp only [World.size_alloc] at z1
              have HR2 := hide ((b1.block w.heap.size (by simp only [World.size_alloc]; omega)).trans (heap_alloc2_old w (.cells #[.slice a n c, .int .i64 (P : Int), .int .i64 0] 67) (.cells #[.slice none 0 0, .int .i64 0, .int .i64 0] 67)))
              have HR4 := hide ((b1.block (w.heap.size + 1) (by simp only [World.size_alloc]; omega)).trans (heap_alloc2_new w (.cells #[.slice a n c, .int .i64 (P : Int), .int .i64 0] 67) (.cells #[.slice none 0 0, .int .i64 0, .int .i64 0] 67)))
              clear b1
              obtain ⟨k1, k2, k3⟩ := row_facts HR2.out

              go_wp2_with fail
              refine (HS.out _).mono ?_
              rintro r w1' ⟨rfl, hw⟩
              obtain rfl := hw.symm

              go_wp2_with fail
              have HI1 := hide (HI.out.below HW1.out)
              have HGG := HG.out w1 bw (by omega) HI1.out
              rw [← HV1.out, HBW.out] at HGG
              simp only [if_neg (show ¬ (8 * (n : Int) - P < (b : Int) - 1) by omega)] at HGG
              refine HGG.mono ?_
              clear HGG
              rintro r w4 ⟨rfl, b4⟩
              have z4 := b4.size
              have HW4 := hide ((HW1.out.trans (b4.mono (by omega))).alloc (by omega) (.cells #[.slice a n c, .int .i64 ((P : Int) + ((b : Int) - 1)), .int .i64 0] 67))
              have HR24 := hide ((heap_alloc_old w4 (.cells #[.slice a n c, .int .i64 ((P : Int) + ((b : Int) - 1)), .int .i64 0] 67) (show w.heap.size < w4.heap.size by omega)).trans ((b4.block w.heap.size (by omega)).trans HR2.out))
              have HR44 := hide ((heap_alloc_old w4 (.cells #[.slice a n c, .int .i64 ((P : Int) + ((b : Int) - 1)), .int .i64 0] 67) (show w.heap.size + 1 < w4.heap.size by omega)).trans ((b4.block (w.heap.size + 1) (by omega)).trans HR4.out))
              have HD4 := hide (heap_alloc_new w4 (.cells #[.slice a n c, .int .i64 ((P : Int) + ((b : Int) - 1)), .int .i64 0] 67))
              clear b4 k1 k2 k3
              obtain ⟨k1, k2, k3⟩ := row_facts HR24.out
              simp only [World.size_alloc] at k3
              go_wp2_with fail
              have HI4 := hide (HI.out.below HW4.out)
              have HGG := HG.out _ b (by omega) HI4.out
              rw [← HV2.out] at HGG
              simp only [if_neg (show ¬ (8 * (n : Int) - P < (b : Int)) by omega)] at HGG
              refine HGG.mono ?_
              clear HGG
              rintro r w5 ⟨rfl, b5⟩
              have z5 := b5.size
              simp only [World.size_alloc] at z5
              have HW5 := hide (HW4.out.trans (b5.mono (by simp only [World.size_alloc]; omega)))
              have HR25 := hide ((b5.block w.heap.size (by simp only [World.size_alloc]; omega)).trans HR24.out)
              have HR45 := hide ((b5.block (w.heap.size + 1) (by simp only [World.size_alloc]; omega)).trans HR44.out)
              have HD5 := hide ((b5.block w4.heap.size (by simp only [World.size_alloc]; omega)).trans HD4.out)
              clear b5 k1 k2 k3
              go_wp2_with (refine wpList_storeW w4.heap.size _ rfl rfl 67 _ HD5.out (by kernel_rfl) rfl rfl ?_)
              intro w6 hk6 hg6 hz6
              have HW6 := hide (HW5.out.grown hg6 (by omega) (fun i hi => by cases hi; omega))
              have HR26 := hide ((hg6.block w.heap.size (by omega) (fun hi => by have := Option.some.inj hi; omega)).trans HR25.out)
              have HR46 := hide ((hg6.block (w.heap.size + 1) (by omega) (fun hi => by have := Option.some.inj hi; omega)).trans HR45.out)
              clear hg6
              obtain ⟨k1, k2, k3⟩ := row_facts HR26.out
              obtain ⟨k4, k5, k6⟩ := row_facts hk6

              go_wp2_with (first | ((with_reducible show wpList _ _ _ (Oper.mk _ (.binOp .sub 70 _ _ _) _ _ _ _ :: _) _ _); refine wpList_sub64 (X := v2) (Y := m) (Z := v3) rfl rfl rfl hv2b hmv HV3.out ?_) | refine wpList_storeW (w.heap.size + 1) _ rfl rfl 67 _ HR46.out (by kernel_rfl) rfl rfl ?_)
              intro w3 hk3 hg3 hz3
              go_wp2_with fail
              exact bodyPost_ret (v := .tuple #[.agg #[.slice a n c, .int .i64 (P + b), .int .i64 0], .int .u64 (v3 : Nat)]) (results_cell_row_tmp (p := 4) (u := 5) rfl _ _ (w.heap.size + 1) 67 _ (0, 0) _ rfl hk3 Try.underlying67 rfl (by kernel_rfl)) rfl ⟨rfl, HW6.out.grown hg3 (by omega) (fun i hi => by cases hi; omega)⟩

end Go.Proofs.Ytellclclpmofcaa
