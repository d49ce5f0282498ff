/-
  The contracts of bits.Add and bits.AddRange; conditions: the bytes are no more than 1000000.
-/
import Derived.Test.YtellclclpmofcaaBDraw
import Derived.Test.YtellclclpmofcaaBLen
namespace Go.Proofs.Ytellclclpmofcaa
open Go.RowKit
set_option linter.unusedVariables false

/-- An ink and an error. -/
def RetAdd (w : World) (l : List UInt8) (m e : Int) (r : Ending) (w' : World) : Prop :=
  ∃ s, r = .returned (.tuple #[.agg #[s, .int .i64 m], .int .i64 e]) ∧ IsB w' s l ∧ Below w.heap.size w w'

theorem shr_ne {v k : Nat} : v >>> k = 0 ↔ v < 2 ^ k := by
  rw [Nat.shiftRight_eq_div_pow]
  exact Nat.div_eq_zero_iff_lt (Nat.pow_pos (by decide))

set_option maxRecDepth 100000 in
set_option maxHeartbeats 2000000 in
theorem add52 (a : Option Addr) (n c v : Nat) (m k : Int) (l : List UInt8) (w : World) (hn : n = l.length) (hl : n ≤ 1000000) (hm : m ≤ 9223372036854775807) (hv : v < 18446744073709551616) (h : IsB w (.slice a n c) l) :
    Calls Try.prog 52 #[.agg #[.slice a n c, .int .i64 m], .int .u64 (v : Int), .int .i64 k] w (RetAdd w (addL l m k v) (addM l m k v) (addBad l m k v)) := by
  have HR := hide (fun w h => right54 a n c m l w hn hl hm h)
  have HI := hide h
  have HB0 := hide (((Below.refl w.heap.size w).alloc (Nat.le_refl _) (.cells #[.slice a n c, .int .i64 m] 69)).alloc (by simp) (.cells #[.slice none 0 0, .int .i64 0] 69))
  have HN := hide hn
  have HV := hide hv
  have HL := hide hl
  unfold RetAdd
  clear hn h hv
  by_cases h1 : k < 0
  · have hb : addBad l m k v = 1 := by rw [addBad, if_pos (.inr (.inl h1))]
    rw [addL, addM, hb, if_neg (by decide), if_neg (by decide)]
    clear hb hl
    go_enter Try.func52, Try.ntmps52

    go_wp2_with fail
    go_returns
    exact ⟨_, rfl, HI.out.below (by go_grown), by go_grown⟩
  · have h1' : 0 ≤ k := by omega
    by_cases h2 : 64 < k
    · have hb : addBad l m k v = 1 := by rw [addBad, if_pos (.inr (.inr h2))]
      rw [addL, addM, hb, if_neg (by decide), if_neg (by decide)]
      clear hb hl
      go_enter Try.func52, Try.ntmps52

      go_wp2_with fail
      go_returns
      exact ⟨_, rfl, HI.out.below (by go_grown), by go_grown⟩
    · have h2' : k ≤ 64 := by omega
      obtain ⟨q, hq⟩ : ∃ q, q = inkB l m := ⟨_, rfl⟩
      cases q
      · have hb : addBad l m k v = 1 := by rw [addBad, if_pos (.inl hq.symm)]
        rw [addL, addM, hb, if_neg (by decide), if_neg (by decide)]
        rw [← hq] at HR
        clear hb hq hl
        go_enter Try.func52, Try.ntmps52

        go_wp2_with fail
        refine (HR.out _ (HI.out.below HB0.out)).mono ?_
        rintro r w1 ⟨rfl, b1⟩
        have HW1 := hide (HB0.out.trans (b1.mono (by simp only [World.size_alloc]; omega)))
        have z1 := b1.size
        simp only [World.size_alloc] at z1
        have HR2 := hide ((b1.block w.heap.size (by simp only [World.size_alloc]; omega)).trans (heap_alloc2_old w (.cells #[.slice a n c, .int .i64 m] 69) (.cells #[.slice none 0 0, .int .i64 0] 69)))
        have HR4 := hide ((b1.block (w.heap.size + 1) (by simp only [World.size_alloc]; omega)).trans (heap_alloc2_new w (.cells #[.slice a n c, .int .i64 m] 69) (.cells #[.slice none 0 0, .int .i64 0] 69)))
        have HIX := hide (HI.out.below HW1.out)
        clear b1
        obtain ⟨k1, k2, k3⟩ := row_facts HR2.out

        go_wp2_with (refine wpList_storeW (w.heap.size + 1) _ rfl rfl 69 _ HR4.out (by kernel_rfl) rfl rfl ?_)
        intro w3 hk3 hg3 hz3
        have HBF := hide (HW1.out.grown hg3 (by omega) (fun i hi => by cases hi; omega))
        go_wp2_with fail
        exact bodyPost_ret (v := .tuple #[.agg #[.slice a n c, .int .i64 m], .int .i64 1]) (results_cell_row_tmp (p := 6) (u := 7) rfl _ _ (w.heap.size + 1) 69 _ (0, 0) _ rfl hk3 Try.underlying69 rfl (by kernel_rfl)) rfl ⟨_, rfl, HI.out.below HBF.out, HBF.out⟩
      · obtain ⟨g1, g2, -⟩ := inkB_spec.1 hq.symm
        obtain ⟨M, rfl⟩ := Int.eq_ofNat_of_zero_le g1
        obtain ⟨K, rfl⟩ := Int.eq_ofNat_of_zero_le h1'
        have HQ := hide hq.symm
        have hnb : ¬ (inkB l (M : Int) = false ∨ (K : Int) < 0 ∨ 64 < (K : Int)) := by
          rw [HQ.out]
          simp
          omega
        have hbad : addBad l (M : Int) (K : Int) v = if 2 ^ K ≤ v then 6 else 0 := by rw [addBad, if_neg hnb, Int.toNat_natCast]
        rw [HQ.out] at HR
        have HD := hide (fun w h => draw70 a n c M v K l w HN.out HL.out HQ.out (by omega) HV.out h)
        obtain ⟨y, hy⟩ : ∃ y, v >>> K = y := ⟨_, rfl⟩
        have HY := hide hy
        by_cases h3 : 2 ^ K ≤ v
        · have hb : addBad l (M : Int) (K : Int) v = 6 := by rw [hbad, if_pos h3]
          rw [addL, addM, hb, if_neg (by decide), if_neg (by decide)]
          have hy0 : ¬ y = 0 := by
            intro hh
            rw [hh] at hy
            have := shr_ne.1 hy
            omega
          have hy1 : ((y : Int) != 0) = true := by simpa using hy0
          have hK64 : (K : Int) < 64 := by
            rcases Nat.lt_or_ge K 64 with h | h
            · omega
            · have h5 : 2 ^ 64 ≤ 2 ^ K := Nat.pow_le_pow_right (by decide) h
              have := HV.out
              omega
          clear hb hbad hnb hq hy hy0 h3 g2 hl
          go_enter Try.func52, Try.ntmps52

          go_wp2_with fail
          refine (HR.out _ (HI.out.below HB0.out)).mono ?_
          rintro r w1 ⟨rfl, b1⟩
          have HW1 := hide (HB0.out.trans (b1.mono (by simp only [World.size_alloc]; omega)))
          have z1 := b1.size
          simp only [World.size_alloc] at z1
          have HR2 := hide ((b1.block w.heap.size (by simp only [World.size_alloc]; omega)).trans (heap_alloc2_old w (.cells #[.slice a n c, .int .i64 (M : Int)] 69) (.cells #[.slice none 0 0, .int .i64 0] 69)))
          have HR4 := hide ((b1.block (w.heap.size + 1) (by simp only [World.size_alloc]; omega)).trans (heap_alloc2_new w (.cells #[.slice a n c, .int .i64 (M : Int)] 69) (.cells #[.slice none 0 0, .int .i64 0] 69)))
          have HIX := hide (HI.out.below HW1.out)
          clear b1
          obtain ⟨k1, k2, k3⟩ := row_facts HR2.out
          go_wp2_with (first | ((with_reducible show wpList _ _ _ (Oper.mk _ (.binOp .shr _ _ _ _) _ _ _ _ :: _) _ _); refine wpList_shr (X := v) (s := K) (Z := y) rfl rfl rfl HV.out HY.out ?_) | refine wpList_storeW (w.heap.size + 1) _ rfl rfl 69 _ HR4.out (by kernel_rfl) rfl rfl ?_)
          intro w3 hk3 hg3 hz3
          have HBF := hide (HW1.out.grown hg3 (by omega) (fun i hi => by cases hi; omega))
          go_wp2_with fail
          exact bodyPost_ret (v := .tuple #[.agg #[.slice a n c, .int .i64 (M : Int)], .int .i64 6]) (results_cell_row_tmp (p := 6) (u := 7) rfl _ _ (w.heap.size + 1) 69 _ (0, 0) _ rfl hk3 Try.underlying69 rfl (by kernel_rfl)) rfl ⟨_, rfl, HI.out.below HBF.out, HBF.out⟩
        · have hb : addBad l (M : Int) (K : Int) v = 0 := by rw [hbad, if_neg h3]
          rw [addL, addM, hb, if_pos rfl, if_pos rfl]
          simp only [Int.toNat_natCast]
          have hy0 : y = 0 := by rw [← hy]; exact shr_ne.2 (by omega)
          subst hy0
          clear hb hbad hnb hq hy h3 g2 hl
          by_cases hK64 : (K : Int) < 64
          · go_enter Try.func52, Try.ntmps52

            go_wp2_with fail
            refine (HR.out _ (HI.out.below HB0.out)).mono ?_
            rintro r w1 ⟨rfl, b1⟩
            have HW1 := hide (HB0.out.trans (b1.mono (by simp only [World.size_alloc]; omega)))
            have z1 := b1.size
            simp only [World.size_alloc] at z1
            have HR2 := hide ((b1.block w.heap.size (by simp only [World.size_alloc]; omega)).trans (heap_alloc2_old w (.cells #[.slice a n c, .int .i64 (M : Int)] 69) (.cells #[.slice none 0 0, .int .i64 0] 69)))
            have HR4 := hide ((b1.block (w.heap.size + 1) (by simp only [World.size_alloc]; omega)).trans (heap_alloc2_new w (.cells #[.slice a n c, .int .i64 (M : Int)] 69) (.cells #[.slice none 0 0, .int .i64 0] 69)))
            have HIX := hide (HI.out.below HW1.out)
            clear b1
            obtain ⟨k1, k2, k3⟩ := row_facts HR2.out
            go_wp2_with (((with_reducible show wpList _ _ _ (Oper.mk _ (.binOp .shr _ _ _ _) _ _ _ _ :: _) _ _); refine wpList_shr (X := v) (s := K) (Z := 0) rfl rfl rfl HV.out HY.out ?_))
            refine (HD.out _ HIX.out).mono ?_
            rintro r w5 ⟨s5, rfl, o5, b5⟩
            have HR4d := hide ((b5.block (w.heap.size + 1) (by omega)).trans HR4.out)
            obtain ⟨a5, n5, c5, rfl, -⟩ := o5.isB.len'
            have HO5 := hide o5
            have HW5 := hide (HW1.out.trans (b5.mono (by omega)))
            have z5 := b5.size
            clear b5 o5
            go_wp2_with (refine wpList_storeW (w.heap.size + 1) _ rfl rfl 69 _ HR4d.out (by kernel_rfl) rfl rfl ?_)
            intro w3 hk3 hg3 hz3
            have HOG := hide (World.ownsRow.kept HO5.out hg3 (by
              rcases HO5.out.2 with ⟨h1, _⟩ | ⟨g, cap, cur, h1, h2, _⟩
              · exact .inl (by rw [h1]; rfl)
              · refine .inr ?_
                rw [h1]
                simp only [Value.ownBlock]
                intro he
                have := Option.some.inj he
                omega))
            have HBF := hide (HW5.out.grown hg3 (by omega) (fun i hi => by cases hi; omega))
            go_wp2_with fail
            exact bodyPost_ret (v := .tuple #[.agg #[.slice a5 n5 c5, .int .i64 ((M + K : Nat) : Int)], .int .i64 0]) (results_cell_row_tmp (p := 6) (u := 7) rfl _ _ (w.heap.size + 1) 69 _ (0, 0) _ rfl hk3 Try.underlying69 rfl (by kernel_rfl)) rfl ⟨_, by rw [Int.natCast_add], Own.isB HOG.out, HBF.out⟩
          · go_enter Try.func52, Try.ntmps52

            go_wp2_with fail
            refine (HR.out _ (HI.out.below HB0.out)).mono ?_
            rintro r w1 ⟨rfl, b1⟩
            have HW1 := hide (HB0.out.trans (b1.mono (by simp only [World.size_alloc]; omega)))
            have z1 := b1.size
            simp only [World.size_alloc] at z1
            have HR2 := hide ((b1.block w.heap.size (by simp only [World.size_alloc]; omega)).trans (heap_alloc2_old w (.cells #[.slice a n c, .int .i64 (M : Int)] 69) (.cells #[.slice none 0 0, .int .i64 0] 69)))
            have HR4 := hide ((b1.block (w.heap.size + 1) (by simp only [World.size_alloc]; omega)).trans (heap_alloc2_new w (.cells #[.slice a n c, .int .i64 (M : Int)] 69) (.cells #[.slice none 0 0, .int .i64 0] 69)))
            have HIX := hide (HI.out.below HW1.out)
            clear b1
            obtain ⟨k1, k2, k3⟩ := row_facts HR2.out
            go_wp2_with fail
            refine (HD.out _ HIX.out).mono ?_
            rintro r w5 ⟨s5, rfl, o5, b5⟩
            have HR4d := hide ((b5.block (w.heap.size + 1) (by omega)).trans HR4.out)
            obtain ⟨a5, n5, c5, rfl, -⟩ := o5.isB.len'
            have HO5 := hide o5
            have HW5 := hide (HW1.out.trans (b5.mono (by omega)))
            have z5 := b5.size
            clear b5 o5
            go_wp2_with (refine wpList_storeW (w.heap.size + 1) _ rfl rfl 69 _ HR4d.out (by kernel_rfl) rfl rfl ?_)
            intro w3 hk3 hg3 hz3
            have HOG := hide (World.ownsRow.kept HO5.out hg3 (by
              rcases HO5.out.2 with ⟨h1, _⟩ | ⟨g, cap, cur, h1, h2, _⟩
              · exact .inl (by rw [h1]; rfl)
              · refine .inr ?_
                rw [h1]
                simp only [Value.ownBlock]
                intro he
                have := Option.some.inj he
                omega))
            have HBF := hide (HW5.out.grown hg3 (by omega) (fun i hi => by cases hi; omega))
            go_wp2_with fail
            exact bodyPost_ret (v := .tuple #[.agg #[.slice a5 n5 c5, .int .i64 ((M + K : Nat) : Int)], .int .i64 0]) (results_cell_row_tmp (p := 6) (u := 7) rfl _ _ (w.heap.size + 1) 69 _ (0, 0) _ rfl hk3 Try.underlying69 rfl (by kernel_rfl)) rfl ⟨_, by rw [Int.natCast_add], Own.isB HOG.out, HBF.out⟩

theorem code_fits {v n : Nat} (h : v < n) (h2 : n ≤ 4294967296) : codeV v n < 2 ^ codeW v n ∧ codeW v n ≤ 33 := by
  have h1 : 1 ≤ n := by omega
  obtain ⟨g1, g2, g3, g4⟩ := gap_spec h1
  have hb := blen33 h2
  unfold codeV codeW
  by_cases hv : v < gapM n
  · rw [if_pos hv, if_pos hv]
    omega
  · rw [if_neg hv, if_neg hv]
    omega

set_option maxRecDepth 100000 in
set_option maxHeartbeats 2000000 in
theorem rad57 (a : Option Addr) (n c v N : Nat) (m : Int) (l : List UInt8) (w : World) (hn : n = l.length) (hl : n ≤ 1000000) (hm : m ≤ 9223372036854775807) (hv : v < 18446744073709551616) (hN : N < 18446744073709551616) (h : IsB w (.slice a n c) l) :
    Calls Try.prog 57 #[.agg #[.slice a n c, .int .i64 m], .int .u64 (v : Int), .int .u64 (N : Int)] w (RetAdd w (radL l m v N) (radM l m v N) (radBad l m v N)) := by
  have HR := hide (fun w h => right54 a n c m l w hn hl hm h)
  have HI := hide h
  have HB0 := hide (((Below.refl w.heap.size w).alloc (Nat.le_refl _) (.cells #[.slice a n c, .int .i64 m] 69)).alloc (by simp) (.cells #[.slice none 0 0, .int .i64 0] 69))
  have HN := hide hn
  have HV := hide hv
  have HL := hide hl
  unfold RetAdd
  clear hn h hv hN
  by_cases h1 : (N : Int) < 1
  · have hb : radBad l m v N = 1 := by rw [radBad, if_pos (.inr (.inl (by omega)))]
    rw [radL, radM, hb, if_neg (by decide), if_neg (by decide)]
    clear hb hl
    go_enter Try.func57, Try.ntmps57

    go_wp2_with fail
    go_returns
    exact ⟨_, rfl, HI.out.below (by go_grown), by go_grown⟩
  · have h1' : 1 ≤ (N : Int) := by omega
    by_cases h2 : (4294967296 : Int) < N
    · have hb : radBad l m v N = 1 := by rw [radBad, if_pos (.inr (.inr (by omega)))]
      rw [radL, radM, hb, if_neg (by decide), if_neg (by decide)]
      clear hb hl
      go_enter Try.func57, Try.ntmps57

      go_wp2_with fail
      go_returns
      exact ⟨_, rfl, HI.out.below (by go_grown), by go_grown⟩
    · have h2' : (N : Int) ≤ 4294967296 := by omega
      obtain ⟨q, hq⟩ : ∃ q, q = inkB l m := ⟨_, rfl⟩
      cases q
      · have hb : radBad l m v N = 1 := by rw [radBad, if_pos (.inl hq.symm)]
        rw [radL, radM, hb, if_neg (by decide), if_neg (by decide)]
        rw [← hq] at HR
        clear hb hq hl
        go_enter Try.func57, Try.ntmps57

        go_wp2_with fail
        refine (HR.out _ (HI.out.below HB0.out)).mono ?_
        rintro r w1 ⟨rfl, b1⟩
        have HW1 := hide (HB0.out.trans (b1.mono (by simp only [World.size_alloc]; omega)))
        have z1 := b1.size
        simp only [World.size_alloc] at z1
        have HR2 := hide ((b1.block w.heap.size (by simp only [World.size_alloc]; omega)).trans (heap_alloc2_old w (.cells #[.slice a n c, .int .i64 m] 69) (.cells #[.slice none 0 0, .int .i64 0] 69)))
        have HR4 := hide ((b1.block (w.heap.size + 1) (by simp only [World.size_alloc]; omega)).trans (heap_alloc2_new w (.cells #[.slice a n c, .int .i64 m] 69) (.cells #[.slice none 0 0, .int .i64 0] 69)))
        have HIX := hide (HI.out.below HW1.out)
        clear b1
        obtain ⟨k1, k2, k3⟩ := row_facts HR2.out

        go_wp2_with (refine wpList_storeW (w.heap.size + 1) _ rfl rfl 69 _ HR4.out (by kernel_rfl) rfl rfl ?_)
        intro w3 hk3 hg3 hz3
        have HBF := hide (HW1.out.grown hg3 (by omega) (fun i hi => by cases hi; omega))
        go_wp2_with fail
        exact bodyPost_ret (v := .tuple #[.agg #[.slice a n c, .int .i64 m], .int .i64 1]) (results_cell_row_tmp (p := 6) (u := 7) rfl _ _ (w.heap.size + 1) 69 _ (0, 0) _ rfl hk3 Try.underlying69 rfl (by kernel_rfl)) rfl ⟨_, rfl, HI.out.below HBF.out, HBF.out⟩
      · obtain ⟨g1, g2, -⟩ := inkB_spec.1 hq.symm
        obtain ⟨M, rfl⟩ := Int.eq_ofNat_of_zero_le g1
        have HQ := hide hq.symm
        have hnb : ¬ (inkB l (M : Int) = false ∨ N < 1 ∨ 4294967296 < N) := by
          rw [HQ.out]
          simp
          omega
        have hbad : radBad l (M : Int) v N = if N ≤ v then 6 else 0 := by rw [radBad, if_neg hnb]
        rw [HQ.out] at HR
        by_cases h3 : N ≤ v
        · have hb : radBad l (M : Int) v N = 6 := by rw [hbad, if_pos h3]
          rw [radL, radM, hb, if_neg (by decide), if_neg (by decide)]
          have h3i : (N : Int) ≤ v := by omega
          clear hb hbad hnb hq h3 g2 hl
          go_enter Try.func57, Try.ntmps57

          go_wp2_with fail
          refine (HR.out _ (HI.out.below HB0.out)).mono ?_
          rintro r w1 ⟨rfl, b1⟩
          have HW1 := hide (HB0.out.trans (b1.mono (by simp only [World.size_alloc]; omega)))
          have z1 := b1.size
          simp only [World.size_alloc] at z1
          have HR2 := hide ((b1.block w.heap.size (by simp only [World.size_alloc]; omega)).trans (heap_alloc2_old w (.cells #[.slice a n c, .int .i64 (M : Int)] 69) (.cells #[.slice none 0 0, .int .i64 0] 69)))
          have HR4 := hide ((b1.block (w.heap.size + 1) (by simp only [World.size_alloc]; omega)).trans (heap_alloc2_new w (.cells #[.slice a n c, .int .i64 (M : Int)] 69) (.cells #[.slice none 0 0, .int .i64 0] 69)))
          have HIX := hide (HI.out.below HW1.out)
          clear b1
          obtain ⟨k1, k2, k3⟩ := row_facts HR2.out

          go_wp2_with (refine wpList_storeW (w.heap.size + 1) _ rfl rfl 69 _ HR4.out (by kernel_rfl) rfl rfl ?_)
          intro w3 hk3 hg3 hz3
          have HBF := hide (HW1.out.grown hg3 (by omega) (fun i hi => by cases hi; omega))
          go_wp2_with fail
          exact bodyPost_ret (v := .tuple #[.agg #[.slice a n c, .int .i64 (M : Int)], .int .i64 6]) (results_cell_row_tmp (p := 6) (u := 7) rfl _ _ (w.heap.size + 1) 69 _ (0, 0) _ rfl hk3 Try.underlying69 rfl (by kernel_rfl)) rfl ⟨_, rfl, HI.out.below HBF.out, HBF.out⟩
        · have hb : radBad l (M : Int) v N = 0 := by rw [hbad, if_neg h3]
          rw [radL, radM, hb, if_pos rfl, if_pos rfl]
          simp only [Int.toNat_natCast]
          have h3i : (v : Int) < N := by omega
          obtain ⟨gs1, gs2, gs3, gs4⟩ := gap_spec (n := N) (by omega)
          have gs5 := blen33 (n := N) (by omega)
          have gs6 := (blen_spec (n := N) (by omega)).2.2
          have HS := hide (fun w => shape68 N (by omega) (by omega) w)
          have HD := hide (fun (v K : Nat) (hK : K ≤ 64) (hv : v < 18446744073709551616) w h => draw70 a n c M v K l w HN.out HL.out HQ.out hK hv h)
          rw [codeV, codeW]
          obtain ⟨b, hbl⟩ : ∃ b, b = blen N := ⟨_, rfl⟩
          obtain ⟨g, hg⟩ : ∃ g, g = gapM N := ⟨_, rfl⟩
          rw [← hbl, ← hg] at HS
          rw [← hbl] at gs5 gs6
          rw [← hg] at gs2
          rw [← hbl, ← hg]
          have gs5i : (b : Int) ≤ 33 := by omega
          have gs2i : (g : Int) ≤ 4294967296 := by omega
          by_cases h4 : v < g
          · rw [if_pos h4, if_pos h4]
            have h4i : (v : Int) < g := by omega
            obtain ⟨bw, hbw⟩ : ∃ bw, bw = b - 1 := ⟨_, rfl⟩
            rw [← hbw]
            have HBW : Hid (((bw : Nat) : Int) = (b : Int) - 1) := hide (by omega)
            have hbw33 : bw ≤ 64 := by omega
            clear hb hbad hnb hq h3 g2 hl gs1 gs3 gs4 hbl hg hbw
            go_enter Try.func57, Try.ntmps57

            go_wp2_with fail
            refine (HR.out _ (HI.out.below HB0.out)).mono ?_
            rintro r w1 ⟨rfl, b1⟩
            have HW1 := hide (HB0.out.trans (b1.mono (by simp only [World.size_alloc]; omega)))
            have z1 := b1.size
            simp only [World.size_alloc] at z1
            have HR2 := hide ((b1.block w.heap.size (by simp only [World.size_alloc]; omega)).trans (heap_alloc2_old w (.cells #[.slice a n c, .int .i64 (M : Int)] 69) (.cells #[.slice none 0 0, .int .i64 0] 69)))
            have HR4 := hide ((b1.block (w.heap.size + 1) (by simp only [World.size_alloc]; omega)).trans (heap_alloc2_new w (.cells #[.slice a n c, .int .i64 (M : Int)] 69) (.cells #[.slice none 0 0, .int .i64 0] 69)))
            have HIX := hide (HI.out.below HW1.out)
            clear b1
            obtain ⟨k1, k2, k3⟩ := row_facts HR2.out
            go_wp2_with fail
            refine (HS.out _).mono ?_
            rintro r w1' ⟨rfl, hw⟩
            obtain rfl := hw.symm
            go_wp2_with fail
            have HDD := hide (HD.out v bw hbw33 HV.out _ HIX.out)
            rw [HBW.out] at HDD
            refine HDD.out.mono ?_
            rintro r w5 ⟨s5, rfl, o5, b5⟩
            have HR4d := hide ((b5.block (w.heap.size + 1) (by omega)).trans HR4.out)
            obtain ⟨a5, n5, c5, rfl, -⟩ := o5.isB.len'
            have HO5 := hide o5
            have HW5 := hide (HW1.out.trans (b5.mono (by omega)))
            have z5 := b5.size
            clear b5 o5
            go_wp2_with (refine wpList_storeW (w.heap.size + 1) _ rfl rfl 69 _ HR4d.out (by kernel_rfl) rfl rfl ?_)
            intro w3 hk3 hg3 hz3
            have HOG := hide (World.ownsRow.kept HO5.out hg3 (by
              rcases HO5.out.2 with ⟨h1, _⟩ | ⟨g, cap, cur, h1, h2, _⟩
              · exact .inl (by rw [h1]; rfl)
              · refine .inr ?_
                rw [h1]
                simp only [Value.ownBlock]
                intro he
                have := Option.some.inj he
                omega))
            have HBF := hide (HW5.out.grown hg3 (by omega) (fun i hi => by cases hi; omega))
            go_wp2_with fail
            exact bodyPost_ret (v := .tuple #[.agg #[.slice a5 n5 c5, .int .i64 ((M + bw : Nat) : Int)], .int .i64 0]) (results_cell_row_tmp (p := 6) (u := 7) rfl _ _ (w.heap.size + 1) 69 _ (0, 0) _ rfl hk3 Try.underlying69 rfl (by kernel_rfl)) rfl ⟨_, by rw [Int.natCast_add], Own.isB HOG.out, HBF.out⟩
          · rw [if_neg h4, if_neg h4]
            have h4i : (g : Int) ≤ v := by omega
            have hvg : v + g < 18446744073709551616 := by omega
            have hvi : (v : Int) ≤ 4294967296 := by omega
            have hb33 : b ≤ 64 := by omega
            clear hb hbad hnb hq h3 g2 hl gs1 gs3 gs4 hbl hg
            go_enter Try.func57, Try.ntmps57

            go_wp2_with fail
            refine (HR.out _ (HI.out.below HB0.out)).mono ?_
            rintro r w1 ⟨rfl, b1⟩
            have HW1 := hide (HB0.out.trans (b1.mono (by simp only [World.size_alloc]; omega)))
            have z1 := b1.size
            simp only [World.size_alloc] at z1
            have HR2 := hide ((b1.block w.heap.size (by simp only [World.size_alloc]; omega)).trans (heap_alloc2_old w (.cells #[.slice a n c, .int .i64 (M : Int)] 69) (.cells #[.slice none 0 0, .int .i64 0] 69)))
            have HR4 := hide ((b1.block (w.heap.size + 1) (by simp only [World.size_alloc]; omega)).trans (heap_alloc2_new w (.cells #[.slice a n c, .int .i64 (M : Int)] 69) (.cells #[.slice none 0 0, .int .i64 0] 69)))
            have HIX := hide (HI.out.below HW1.out)
            clear b1
            obtain ⟨k1, k2, k3⟩ := row_facts HR2.out
            go_wp2_with fail
            refine (HS.out _).mono ?_
            rintro r w1' ⟨rfl, hw⟩
            obtain rfl := hw.symm
            go_wp2_with fail
            have HDD := hide (HD.out (v + g) b hb33 hvg _ HIX.out)
            rw [Int.natCast_add] at HDD
            refine HDD.out.mono ?_
            rintro r w5 ⟨s5, rfl, o5, b5⟩
            have HR4d := hide ((b5.block (w.heap.size + 1) (by omega)).trans HR4.out)
            obtain ⟨a5, n5, c5, rfl, -⟩ := o5.isB.len'
            have HO5 := hide o5
            have HW5 := hide (HW1.out.trans (b5.mono (by omega)))
            have z5 := b5.size
            clear b5 o5
            go_wp2_with (refine wpList_storeW (w.heap.size + 1) _ rfl rfl 69 _ HR4d.out (by kernel_rfl) rfl rfl ?_)
            intro w3 hk3 hg3 hz3
            have HOG := hide (World.ownsRow.kept HO5.out hg3 (by
              rcases HO5.out.2 with ⟨h1, _⟩ | ⟨g, cap, cur, h1, h2, _⟩
              · exact .inl (by rw [h1]; rfl)
              · refine .inr ?_
                rw [h1]
                simp only [Value.ownBlock]
                intro he
                have := Option.some.inj he
                omega))
            have HBF := hide (HW5.out.grown hg3 (by omega) (fun i hi => by cases hi; omega))
            go_wp2_with fail
            exact bodyPost_ret (v := .tuple #[.agg #[.slice a5 n5 c5, .int .i64 ((M + b : Nat) : Int)], .int .i64 0]) (results_cell_row_tmp (p := 6) (u := 7) rfl _ _ (w.heap.size + 1) 69 _ (0, 0) _ rfl hk3 Try.underlying69 rfl (by kernel_rfl)) rfl ⟨_, by rw [Int.natCast_add], Own.isB HOG.out, HBF.out⟩

end Go.Proofs.Ytellclclpmofcaa
