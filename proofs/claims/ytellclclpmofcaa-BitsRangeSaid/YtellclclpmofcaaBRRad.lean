/-
  The contract of the reference's AddRange; conditions: the bytes are no more than 1000000.
-/
import Derived.Test.YtellclclpmofcaaBRAdd
namespace Go.Proofs.Ytellclclpmofcaa
open Go.RowKit
set_option linter.unusedVariables false

/-- A struct's row that is written holds no bytes. -/
theorem IsB.row {w w' : World} {v : Value} {l : List UInt8} {g : Nat} {cs : Array Value} {t : TypeId} (h : IsB w v l) (hg : w.heap[g]? = some (.cells cs t (0, 0))) (hcs : ∀ (i : Nat) (b : UInt8), cs[i]? ≠ some (bval b)) (hgr : w.grownBy w' (some g)) : IsB w' v l := by
  obtain ⟨a, cap, rfl, h1, h2, h3, h4⟩ := h
  refine ⟨a, cap, rfl, h1, h2, h3, fun ad had i x hx => ?_⟩
  have hc := h4 ad had i x hx
  by_cases hb : (ad.add i).block = g
  · exfalso
    have hs := World.cell?_spot hc
    obtain ⟨k1, -, -⟩ := row_facts hg
    have e : ad.add i = ⟨g, (ad.add i).off, none⟩ := by
      cases h : ad.add i with
      | mk b o s => rw [h] at hb hs; simp at hb hs; simp [hb, hs]
    rw [e, k1] at hc
    exact hcs _ _ hc
  · rw [World.cell?_of_block (hgr.block _ (World.block_lt_of_cell? w _ hc) (fun e => hb (Option.some.inj e))), hc]

theorem no_u8 : ∀ (i : Nat) (b : UInt8), (#[Value.slice none 0 0, .int .i64 0] : Array Value)[i]? ≠ some (bval b)
  | 0, b, h => by simp [bval] at h
  | 1, b, h => by simp [bval] at h
  | i + 2, b, h => by simp at h

theorem no_u8' (a : Option Addr) (n c : Nat) (m : Int) : ∀ (i : Nat) (b : UInt8), (#[Value.slice a n c, .int .i64 m] : Array Value)[i]? ≠ some (bval b)
  | 0, b, h => by simp [bval] at h
  | 1, b, h => by simp [bval] at h
  | i + 2, b, h => by simp at h

theorem no_u8'' (a : Option Addr) (n c : Nat) (m e : Int) : ∀ (i : Nat) (b : UInt8), (#[Value.slice a n c, .int .i64 m, .int .i64 e] : Array Value)[i]? ≠ some (bval b)
  | 0, b, h => by simp [bval] at h
  | 1, b, h => by simp [bval] at h
  | 2, b, h => by simp [bval] at h
  | i + 3, b, h => by simp at h

set_option maxRecDepth 100000 in
set_option maxHeartbeats 2000000 in
theorem rad58 (a : Option Addr) (n c v N : Nat) (m : Int) (l : List UInt8) (w : World) (hn : n = l.length) (hl : n ≤ 1000000) (hm : m ≤ 9223372036854775807) (hm2 : -9223372036854775808 ≤ m) (hv : v < 18446744073709551616) (hN : N < 18446744073709551616) (h : IsB w (.slice a n c) l) :
    Calls Try.prog 58 #[.agg #[.slice a n c, .int .i64 m], .int .u64 (v : Int), .int .u64 (N : Int)] w (RetAdd w (radL l m v N) (radM l m v N) (radBad l m v N)) := by
  have HR := hide (fun w h => ink55 a n c m l w hn hl hm hm2 h)
  have HI := hide h
  have HB0 := hide (((Below.refl w.heap.size w).alloc (Nat.le_refl _) (.cells #[.slice a n c, .int .i64 m] 69)).alloc (by simp) (.cells #[.slice none 0 0, .int .i64 0] 69))
  have HN := hide hn
  have HV := hide hv
  have HL := hide hl
  unfold RetAdd
  clear hn h hv hN
  obtain ⟨q, hq⟩ : ∃ q, q = inkB l m := ⟨_, rfl⟩
  cases q
  · have hb : radBad l m v N = 1 := by rw [radBad, if_pos (.inl hq.symm)]
    rw [radL, radM, hb, if_neg (by decide), if_neg (by decide)]
    rw [← hq] at HR
    clear hb hq hl
    go_enter Try.func58, Try.ntmps58

    go_wp2_with fail
    refine (HR.out _ (HI.out.below HB0.out)).mono ?_
    rintro r w1 ⟨rfl, b1⟩
    have HW1 := hide (HB0.out.trans (b1.mono (by simp only [World.size_alloc]; omega)))
    have z1 := b1.size
    simp only [World.size_alloc] at z1
    have HR2 := hide ((b1.block w.heap.size (by simp only [World.size_alloc]; omega)).trans (heap_alloc2_old w (.cells #[.slice a n c, .int .i64 m] 69) (.cells #[.slice none 0 0, .int .i64 0] 69)))
    have HR4 := hide ((b1.block (w.heap.size + 1) (by simp only [World.size_alloc]; omega)).trans (heap_alloc2_new w (.cells #[.slice a n c, .int .i64 m] 69) (.cells #[.slice none 0 0, .int .i64 0] 69)))
    have HIX := hide (HI.out.below HW1.out)
    clear b1
    obtain ⟨k1, k2, k3⟩ := row_facts HR2.out

    go_wp2_with (refine wpList_storeW (w.heap.size + 1) _ rfl rfl 69 _ HR4.out (by kernel_rfl) rfl rfl ?_)
    intro w3 hk3 hg3 hz3
    have HBF := hide (HW1.out.grown hg3 (by omega) (fun i hi => by cases hi; omega))
    go_wp2_with fail
    exact bodyPost_ret (v := .tuple #[.agg #[.slice a n c, .int .i64 m], .int .i64 1]) (results_cell_row_tmp (p := 6) (u := 7) rfl _ _ (w.heap.size + 1) 69 _ (0, 0) _ rfl hk3 Try.underlying69 rfl (by kernel_rfl)) rfl ⟨_, rfl, HI.out.below HBF.out, HBF.out⟩
  · have HQ := hide hq.symm
    rw [HQ.out] at HR
    clear hq
    by_cases h1 : (N : Int) < 1
    · have hb : radBad l m v N = 1 := by rw [radBad, if_pos (.inr (.inl (by omega)))]
      rw [radL, radM, hb, if_neg (by decide), if_neg (by decide)]
      clear hb hl
      go_enter Try.func58, Try.ntmps58

      go_wp2_with fail
      refine (HR.out _ (HI.out.below HB0.out)).mono ?_
      rintro r w1 ⟨rfl, b1⟩
      have HW1 := hide (HB0.out.trans (b1.mono (by simp only [World.size_alloc]; omega)))
      have z1 := b1.size
      simp only [World.size_alloc] at z1
      have HR2 := hide ((b1.block w.heap.size (by simp only [World.size_alloc]; omega)).trans (heap_alloc2_old w (.cells #[.slice a n c, .int .i64 m] 69) (.cells #[.slice none 0 0, .int .i64 0] 69)))
      have HR4 := hide ((b1.block (w.heap.size + 1) (by simp only [World.size_alloc]; omega)).trans (heap_alloc2_new w (.cells #[.slice a n c, .int .i64 m] 69) (.cells #[.slice none 0 0, .int .i64 0] 69)))
      have HIX := hide (HI.out.below HW1.out)
      clear b1
      obtain ⟨k1, k2, k3⟩ := row_facts HR2.out

      go_wp2_with (refine wpList_storeW (w.heap.size + 1) _ rfl rfl 69 _ HR4.out (by kernel_rfl) rfl rfl ?_)
      intro w3 hk3 hg3 hz3
      have HBF := hide (HW1.out.grown hg3 (by omega) (fun i hi => by cases hi; omega))
      go_wp2_with fail
      exact bodyPost_ret (v := .tuple #[.agg #[.slice a n c, .int .i64 m], .int .i64 1]) (results_cell_row_tmp (p := 6) (u := 7) rfl _ _ (w.heap.size + 1) 69 _ (0, 0) _ rfl hk3 Try.underlying69 rfl (by kernel_rfl)) rfl ⟨_, rfl, HI.out.below HBF.out, HBF.out⟩
    · have h1' : 1 ≤ (N : Int) := by omega
      by_cases h2 : (4294967296 : Int) < N
      · have hb : radBad l m v N = 1 := by rw [radBad, if_pos (.inr (.inr (by omega)))]
        rw [radL, radM, hb, if_neg (by decide), if_neg (by decide)]
        clear hb hl
        go_enter Try.func58, Try.ntmps58

        go_wp2_with fail
        refine (HR.out _ (HI.out.below HB0.out)).mono ?_
        rintro r w1 ⟨rfl, b1⟩
        have HW1 := hide (HB0.out.trans (b1.mono (by simp only [World.size_alloc]; omega)))
        have z1 := b1.size
        simp only [World.size_alloc] at z1
        have HR2 := hide ((b1.block w.heap.size (by simp only [World.size_alloc]; omega)).trans (heap_alloc2_old w (.cells #[.slice a n c, .int .i64 m] 69) (.cells #[.slice none 0 0, .int .i64 0] 69)))
        have HR4 := hide ((b1.block (w.heap.size + 1) (by simp only [World.size_alloc]; omega)).trans (heap_alloc2_new w (.cells #[.slice a n c, .int .i64 m] 69) (.cells #[.slice none 0 0, .int .i64 0] 69)))
        have HIX := hide (HI.out.below HW1.out)
        clear b1
        obtain ⟨k1, k2, k3⟩ := row_facts HR2.out

        go_wp2_with (refine wpList_storeW (w.heap.size + 1) _ rfl rfl 69 _ HR4.out (by kernel_rfl) rfl rfl ?_)
        intro w3 hk3 hg3 hz3
        have HBF := hide (HW1.out.grown hg3 (by omega) (fun i hi => by cases hi; omega))
        go_wp2_with fail
        exact bodyPost_ret (v := .tuple #[.agg #[.slice a n c, .int .i64 m], .int .i64 1]) (results_cell_row_tmp (p := 6) (u := 7) rfl _ _ (w.heap.size + 1) 69 _ (0, 0) _ rfl hk3 Try.underlying69 rfl (by kernel_rfl)) rfl ⟨_, rfl, HI.out.below HBF.out, HBF.out⟩
      · have h2' : (N : Int) ≤ 4294967296 := by omega
        obtain ⟨g1, g2, -⟩ := inkB_spec.1 HQ.out
        obtain ⟨M, rfl⟩ := Int.eq_ofNat_of_zero_le g1
        have hnb : ¬ (inkB l (M : Int) = false ∨ N < 1 ∨ 4294967296 < N) := by
          rw [HQ.out]
          simp
          omega
        have hbad : radBad l (M : Int) v N = if N ≤ v then 6 else 0 := by rw [radBad, if_neg hnb]
        by_cases h3 : N ≤ v
        · have hb : radBad l (M : Int) v N = 6 := by rw [hbad, if_pos h3]
          rw [radL, radM, hb, if_neg (by decide), if_neg (by decide)]
          have h3i : (N : Int) ≤ v := by omega
          clear hb hbad hnb h3 g2 hl
          go_enter Try.func58, Try.ntmps58

          go_wp2_with fail
          refine (HR.out _ (HI.out.below HB0.out)).mono ?_
          rintro r w1 ⟨rfl, b1⟩
          have HW1 := hide (HB0.out.trans (b1.mono (by simp only [World.size_alloc]; omega)))
          have z1 := b1.size
          simp only [World.size_alloc] at z1
          have HR2 := hide ((b1.block w.heap.size (by simp only [World.size_alloc]; omega)).trans (heap_alloc2_old w (.cells #[.slice a n c, .int .i64 (M : Int)] 69) (.cells #[.slice none 0 0, .int .i64 0] 69)))
          have HR4 := hide ((b1.block (w.heap.size + 1) (by simp only [World.size_alloc]; omega)).trans (heap_alloc2_new w (.cells #[.slice a n c, .int .i64 (M : Int)] 69) (.cells #[.slice none 0 0, .int .i64 0] 69)))
          have HIX := hide (HI.out.below HW1.out)
          clear b1
          obtain ⟨k1, k2, k3⟩ := row_facts HR2.out

          go_wp2_with (refine wpList_storeW (w.heap.size + 1) _ rfl rfl 69 _ HR4.out (by kernel_rfl) rfl rfl ?_)
          intro w3 hk3 hg3 hz3
          have HBF := hide (HW1.out.grown hg3 (by omega) (fun i hi => by cases hi; omega))
          go_wp2_with fail
          exact bodyPost_ret (v := .tuple #[.agg #[.slice a n c, .int .i64 (M : Int)], .int .i64 6]) (results_cell_row_tmp (p := 6) (u := 7) rfl _ _ (w.heap.size + 1) 69 _ (0, 0) _ rfl hk3 Try.underlying69 rfl (by kernel_rfl)) rfl ⟨_, rfl, HI.out.below HBF.out, HBF.out⟩
        · have hb : radBad l (M : Int) v N = 0 := by rw [hbad, if_neg h3]
          rw [radL, radM, hb, if_pos rfl, if_pos rfl]
          simp only [Int.toNat_natCast]
          have h3i : (v : Int) < N := by omega
          obtain ⟨gs1, gs2, gs3, gs4⟩ := gap_spec (n := N) (by omega)
          have gs5 := blen33 (n := N) (by omega)
          have gs6 := (blen_spec (n := N) (by omega)).2.2
          have HS := hide (fun w => spread69 N (by omega) (by omega) w)
          obtain ⟨cf1, cf2⟩ := code_fits (v := v) (n := N) (by omega) (by omega)
          have HD := hide (fun w h => add53 a n c (codeV v N) (M : Int) (codeW v N : Int) l w HN.out HL.out hm hm2 (by have h5 : 2 ^ codeW v N ≤ 2 ^ 33 := Nat.pow_le_pow_right (by decide) cf2; omega) h)
          have hab : addBad l (M : Int) (codeW v N : Int) (codeV v N) = 0 := by
            rw [addBad, if_neg (by rw [HQ.out]; simp; omega), Int.toNat_natCast, if_neg (by omega)]
          rw [addL, addM, hab, if_pos rfl, if_pos rfl] at HD
          simp only [Int.toNat_natCast] at HD
          rw [codeV, codeW] at HD ⊢
          obtain ⟨b, hbl⟩ : ∃ b, b = blen N := ⟨_, rfl⟩
          obtain ⟨g, hg⟩ : ∃ g, g = gapM N := ⟨_, rfl⟩
          rw [← hbl, ← hg] at HS
          rw [← hbl] at gs5 gs6
          rw [← hg] at gs2
          rw [← hbl, ← hg] at HD ⊢
          have gs5i : (b : Int) ≤ 33 := by omega
          have gs2i : (g : Int) ≤ 4294967296 := by omega
          by_cases h4 : v < g
          · rw [if_pos h4, if_pos h4] at HD ⊢
            have h4i : (v : Int) < g := by omega
            obtain ⟨bw, hbw⟩ : ∃ bw, bw = b - 1 := ⟨_, rfl⟩
            rw [← hbw] at HD ⊢
            have HBW : Hid (((bw : Nat) : Int) = (b : Int) - 1) := hide (by omega)
            clear hb hbad hnb h3 g2 hl gs1 gs3 gs4 hbl hg hbw cf1 cf2 hab
            go_enter Try.func58, Try.ntmps58

            go_wp2_with fail
            refine (HR.out _ (HI.out.below HB0.out)).mono ?_
            rintro r w1 ⟨rfl, b1⟩
            have HW1 := hide (HB0.out.trans (b1.mono (by simp only [World.size_alloc]; omega)))
            have z1 := b1.size
            simp only [World.size_alloc] at z1
            have HR2 := hide ((b1.block w.heap.size (by simp only [World.size_alloc]; omega)).trans (heap_alloc2_old w (.cells #[.slice a n c, .int .i64 (M : Int)] 69) (.cells #[.slice none 0 0, .int .i64 0] 69)))
            have HR4 := hide ((b1.block (w.heap.size + 1) (by simp only [World.size_alloc]; omega)).trans (heap_alloc2_new w (.cells #[.slice a n c, .int .i64 (M : Int)] 69) (.cells #[.slice none 0 0, .int .i64 0] 69)))
            have HIX := hide (HI.out.below HW1.out)
            clear b1
            obtain ⟨k1, k2, k3⟩ := row_facts HR2.out
            go_wp2_with fail
            refine (HS.out _).mono ?_
            rintro r w1' ⟨rfl, hw⟩
            obtain rfl := hw.symm
            go_wp2_with fail
            have HDD := HD.out _ HIX.out
            unfold RetAdd at HDD
            rw [HBW.out] at HDD
            refine HDD.mono ?_
            clear HDD
            rintro r w5 ⟨s5, rfl, i5, b5⟩
            have HR4d := hide ((b5.block (w.heap.size + 1) (by omega)).trans HR4.out)
            obtain ⟨a5, n5, c5, rfl, -⟩ := i5.len'
            have HI5 := hide i5
            have HW5 := hide (HW1.out.trans (b5.mono (by omega)))
            have z5 := b5.size
            clear b5 i5
            go_wp2_with (refine wpList_storeW (w.heap.size + 1) _ rfl rfl 69 _ HR4d.out (by kernel_rfl) rfl rfl ?_)
            intro w3 hk3 hg3 hz3
            have HI6 := hide (HI5.out.row HR4d.out no_u8 hg3)
            have HBF := hide (HW5.out.grown hg3 (by omega) (fun i hi => by cases hi; omega))
            go_wp2_with fail
            exact bodyPost_ret (v := .tuple #[.agg #[.slice a5 n5 c5, .int .i64 ((M : Int) + (b - 1))], .int .i64 0]) (results_cell_row_tmp (p := 6) (u := 7) rfl _ _ (w.heap.size + 1) 69 _ (0, 0) _ rfl hk3 Try.underlying69 rfl (by kernel_rfl)) rfl ⟨_, by rw [HBW.out], HI6.out, HBF.out⟩
          · rw [if_neg h4, if_neg h4] at HD ⊢
            have h4i : (g : Int) ≤ v := by omega
            have hvi : (v : Int) ≤ 4294967296 := by omega
            clear hb hbad hnb h3 g2 hl gs1 gs3 gs4 hbl hg cf1 cf2 hab
            go_enter Try.func58, Try.ntmps58

            go_wp2_with fail
            refine (HR.out _ (HI.out.below HB0.out)).mono ?_
            rintro r w1 ⟨rfl, b1⟩
            have HW1 := hide (HB0.out.trans (b1.mono (by simp only [World.size_alloc]; omega)))
            have z1 := b1.size
            simp only [World.size_alloc] at z1
            have HR2 := hide ((b1.block w.heap.size (by simp only [World.size_alloc]; omega)).trans (heap_alloc2_old w (.cells #[.slice a n c, .int .i64 (M : Int)] 69) (.cells #[.slice none 0 0, .int .i64 0] 69)))
            have HR4 := hide ((b1.block (w.heap.size + 1) (by simp only [World.size_alloc]; omega)).trans (heap_alloc2_new w (.cells #[.slice a n c, .int .i64 (M : Int)] 69) (.cells #[.slice none 0 0, .int .i64 0] 69)))
            have HIX := hide (HI.out.below HW1.out)
            clear b1
            obtain ⟨k1, k2, k3⟩ := row_facts HR2.out
            go_wp2_with fail
            refine (HS.out _).mono ?_
            rintro r w1' ⟨rfl, hw⟩
            obtain rfl := hw.symm
            go_wp2_with fail
            have HDD := HD.out _ HIX.out
            unfold RetAdd at HDD
            rw [Int.natCast_add] at HDD
            refine HDD.mono ?_
            clear HDD
            rintro r w5 ⟨s5, rfl, i5, b5⟩
            have HR4d := hide ((b5.block (w.heap.size + 1) (by omega)).trans HR4.out)
            obtain ⟨a5, n5, c5, rfl, -⟩ := i5.len'
            have HI5 := hide i5
            have HW5 := hide (HW1.out.trans (b5.mono (by omega)))
            have z5 := b5.size
            clear b5 i5
            go_wp2_with (refine wpList_storeW (w.heap.size + 1) _ rfl rfl 69 _ HR4d.out (by kernel_rfl) rfl rfl ?_)
            intro w3 hk3 hg3 hz3
            have HI6 := hide (HI5.out.row HR4d.out no_u8 hg3)
            have HBF := hide (HW5.out.grown hg3 (by omega) (fun i hi => by cases hi; omega))
            go_wp2_with fail
            exact bodyPost_ret (v := .tuple #[.agg #[.slice a5 n5 c5, .int .i64 ((M : Int) + b)], .int .i64 0]) (results_cell_row_tmp (p := 6) (u := 7) rfl _ _ (w.heap.size + 1) 69 _ (0, 0) _ rfl hk3 Try.underlying69 rfl (by kernel_rfl)) rfl ⟨_, rfl, HI6.out, HBF.out⟩

end Go.Proofs.Ytellclclpmofcaa
