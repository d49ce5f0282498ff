/-
  The contracts of the reference's bit and Get; conditions: the bytes are no more than 1000000.
-/
import Derived.Test.YtellclclpmofcaaBGetB
namespace Go.Proofs.Ytellclclpmofcaa
open Go.RowKit
set_option linter.unusedVariables false

set_option maxRecDepth 100000 in
theorem bit67 (a : Option Addr) (n c p : Nat) (l : List UInt8) (w : World) (hn : n = l.length) (hl : n ≤ 1000000) (hp : p < 8 * n) (h : IsB w (.slice a n c) l) :
    Calls Try.prog 67 #[.slice a n c, .int .i64 (p : Int)] w fun r w' => r = .returned (.int .u64 ((bitAt l p).toNat : Nat)) ∧ w' = w := by
  obtain ⟨j, hj⟩ : ∃ j, p / 8 = j := ⟨_, rfl⟩
  have hjn : j < n := by omega
  obtain ⟨x, hx⟩ : ∃ x, l[j]? = some x := ⟨l[j]'(by rw [← hn]; exact hjn), by simp⟩
  obtain ⟨b, off, rfl, hb, hcl⟩ := h.cellAt hx
  have hF : (bitAt l p).toNat = x.toNat / 2 ^ (7 - p % 8) % 2 := by
    rw [bitAt, hj, show l.getD j 0 = x by simp [List.getD, hx], Nat.testBit_eq_decide_div_mod_eq]
    rcases Nat.mod_two_eq_zero_or_one (x.toNat / 2 ^ (7 - p % 8)) with h | h <;> simp [h]
  rw [hF]
  have HJ : Hid ((p : Int) / 8 = (j : Int)) := hide (by omega)
  have hx8 := x.toNat_lt
  have hp8 : (p : Int) ≤ 8000000 := by omega
  have hjn2 : (j : Int) < n := by omega
  obtain ⟨s, hs⟩ : ∃ s, s = 7 - p % 8 := ⟨_, rfl⟩
  have HS : Hid ((7 : Int) - (p : Int) % 8 = (s : Int)) := hide (by omega)
  rw [← hs]
  have hs7 : s ≤ 7 := by omega
  obtain ⟨z, hz⟩ : ∃ z, z = x.toNat / 2 ^ s % 2 := ⟨_, rfl⟩
  rw [← hz]
  have HZ := hide hz
  have HJ2 := hide hj
  clear hn h hx hF hs hj hz
  go_enter Try.func67, Try.ntmps67
  go_wp2_with (((with_reducible show wpList _ _ _ (Oper.mk _ (.binOp .quo _ _ _ _) _ _ _ _ :: _) _ _); refine wpList_quoI (X := p) (d := 8) (Y := j) rfl rfl rfl (by decide) (by omega) HJ2.out ?_))
  go_loop [5, 6] (fun y i => ∃ d : Nat, i = .int .i64 (d : Int) ∧ d ≤ s ∧ y = .int .u8 ((x.toNat / 2 ^ d : Nat) : Int)) (fun _ i => 8 - (intOf i).toNat)
  case atStart => exact ⟨0, rfl, Nat.zero_le _, by simp⟩
  case round =>
    obtain ⟨d, rfl, hd, rfl⟩ := hrel
    obtain ⟨y, hy⟩ : ∃ y, y = x.toNat / 2 ^ d := ⟨_, rfl⟩
    rw [← hy]
    have hy8 : y ≤ x.toNat := by rw [hy]; exact Nat.div_le_self _ _
    have hy2 : x.toNat / 2 ^ (d + 1) = y / 2 := by rw [hy, Nat.pow_succ, Nat.div_div_eq_div_mul]
    have HY := hide hy
    have HY2 := hide hy2
    clear hy hy2
    by_cases hlt : d < s
    · have hlt2 : (d : Int) < 7 - (p : Int) % 8 := by have := HS.out; omega
      go_wp2_with fail
      go_round
      case rel => exact ⟨d + 1, by go_num, by omega, by rw [HY2.out]; go_num⟩
      case measure => simp [intOf]; omega
    · obtain rfl : d = s := by omega
      have hge : 7 - (p : Int) % 8 ≤ (d : Int) := by have := HS.out; omega
      go_wp2_with fail
      go_ret
      have hyz : (y : Int) % 2 = z := by have := HZ.out; rw [← HY.out] at this; omega
      exact ⟨by rw [hyz]; rfl, rfl⟩

set_option maxRecDepth 100000 in
set_option maxHeartbeats 2000000 in
theorem get47 (a : Option Addr) (n c : Nat) (p e k : Int) (l : List UInt8) (w : World) (hn : n = l.length) (hl : n ≤ 1000000) (hp : p ≤ 9223372036854775807) (h : IsB w (.slice a n c) l) :
    Calls Try.prog 47 #[.agg #[.slice a n c, .int .i64 p, .int .i64 e], .int .i64 k] w (RetGet w (.slice a n c) l p e k) := by
  have hli : (n : Int) ≤ 1000000 := by omega
  have HR := hide (fun w => right45 a n c p e l w hn hl hp)
  have HN := hide hn
  have HI := hide h
  unfold RetGet
  obtain ⟨q, hq⟩ : ∃ q, q = rdyB l p e := ⟨_, rfl⟩
  cases q
  · have hb1 : getBad l p e k = 1 := by rw [getBad, if_pos (.inl hq.symm)]
    rw [getP, getE, getN, hb1, if_neg (by decide), if_neg (by decide)]
    clear hb1
    rw [← hq] at HR
    clear hn hl h hq
    go_enter Try.func47, Try.ntmps47
    go_wp2_with fail
    refine (HR.out _).mono ?_
    rintro r w1 ⟨rfl, b1⟩
    have HW1 := hide (((Below.refl w.heap.size w).alloc (Nat.le_refl _) (.cells #[.slice a n c, .int .i64 p, .int .i64 e] 67)).trans ((Below.refl _ _).alloc (by simp) (.cells #[.slice none 0 0, .int .i64 0, .int .i64 0] 67) |>.trans (b1.mono (by simp; omega))))
    have z1 := b1.size
    simp only [World.size_alloc] at z1
    have HR2 := hide ((b1.block w.heap.size (by simp only [World.size_alloc]; omega)).trans (heap_alloc2_old w (.cells #[.slice a n c, .int .i64 p, .int .i64 e] 67) (.cells #[.slice none 0 0, .int .i64 0, .int .i64 0] 67)))
    have HR4 := hide ((b1.block (w.heap.size + 1) (by simp only [World.size_alloc]; omega)).trans (heap_alloc2_new w (.cells #[.slice a n c, .int .i64 p, .int .i64 e] 67) (.cells #[.slice none 0 0, .int .i64 0, .int .i64 0] 67)))
    clear b1
    obtain ⟨k1, k2, k3⟩ := row_facts HR2.out

    go_wp2_with fail
    refine (stays66 _ _ _ _ _ 1 _).mono ?_
    rintro r w2 ⟨rfl, b2⟩
    have HW2 := hide (HW1.out.trans (b2.mono (by omega)))
    have z2 := b2.size
    have HR4' := hide ((b2.block (w.heap.size + 1) (by omega)).trans HR4.out)
    clear b2
    go_wp2_with (refine wpList_storeW (w.heap.size + 1) _ rfl rfl 67 _ HR4'.out (by kernel_rfl) rfl rfl ?_)
    intro w3 hk3 hg3 hz3
    go_wp2_with fail
    exact bodyPost_ret (v := .tuple #[.agg #[.slice a n c, .int .i64 p, .int .i64 (orE e 1)], .int .u64 0]) (results_cell_row_tmp (p := 4) (u := 5) rfl _ _ (w.heap.size + 1) 67 _ (0, 0) _ rfl hk3 Try.underlying67 rfl (by kernel_rfl)) rfl ⟨rfl, HW2.out.grown hg3 (by omega) (fun i hi => by cases hi; omega)⟩
  · obtain ⟨g0, g1, g2⟩ : e = 0 ∧ 0 ≤ p ∧ p ≤ 8 * (n : Int) := by
      have := hq.symm
      simp [rdyB] at this
      omega
    subst g0
    have HQ : Hid (rdyB l p 0 = true) := hide hq.symm
    rw [HQ.out] at HR
    clear hq
    by_cases h1 : k < 0
    · have hb1 : getBad l p 0 k = 1 := by rw [getBad, if_pos (.inr (.inl h1))]
      rw [getP, getE, getN, hb1, if_neg (by decide), if_neg (by decide)]
      clear hb1
      clear hn hl h
      go_enter Try.func47, Try.ntmps47
      go_wp2_with fail
      refine (HR.out _).mono ?_
      rintro r w1 ⟨rfl, b1⟩
      have HW1 := hide (((Below.refl w.heap.size w).alloc (Nat.le_refl _) (.cells #[.slice a n c, .int .i64 p, .int .i64 0] 67)).trans ((Below.refl _ _).alloc (by simp) (.cells #[.slice none 0 0, .int .i64 0, .int .i64 0] 67) |>.trans (b1.mono (by simp; omega))))
      have z1 := b1.size
      simp only [World.size_alloc] at z1
      have HR2 := hide ((b1.block w.heap.size (by simp only [World.size_alloc]; omega)).trans (heap_alloc2_old w (.cells #[.slice a n c, .int .i64 p, .int .i64 0] 67) (.cells #[.slice none 0 0, .int .i64 0, .int .i64 0] 67)))
      have HR4 := hide ((b1.block (w.heap.size + 1) (by simp only [World.size_alloc]; omega)).trans (heap_alloc2_new w (.cells #[.slice a n c, .int .i64 p, .int .i64 0] 67) (.cells #[.slice none 0 0, .int .i64 0, .int .i64 0] 67)))
      clear b1
      obtain ⟨k1, k2, k3⟩ := row_facts HR2.out

      go_wp2_with fail
      refine (stays66 _ _ _ _ _ 1 _).mono ?_
      rintro r w2 ⟨rfl, b2⟩
      have HW2 := hide (HW1.out.trans (b2.mono (by omega)))
      have z2 := b2.size
      have HR4' := hide ((b2.block (w.heap.size + 1) (by omega)).trans HR4.out)
      clear b2
      go_wp2_with (refine wpList_storeW (w.heap.size + 1) _ rfl rfl 67 _ HR4'.out (by kernel_rfl) rfl rfl ?_)
      intro w3 hk3 hg3 hz3
      go_wp2_with fail
      exact bodyPost_ret (v := .tuple #[.agg #[.slice a n c, .int .i64 p, .int .i64 (orE 0 1)], .int .u64 0]) (results_cell_row_tmp (p := 4) (u := 5) rfl _ _ (w.heap.size + 1) 67 _ (0, 0) _ rfl hk3 Try.underlying67 rfl (by kernel_rfl)) rfl ⟨rfl, HW2.out.grown hg3 (by omega) (fun i hi => by cases hi; omega)⟩
    · have h1' : 0 ≤ k := by omega
      by_cases h2 : 64 < k
      · have hb1 : getBad l p 0 k = 1 := by rw [getBad, if_pos (.inr (.inr h2))]
        rw [getP, getE, getN, hb1, if_neg (by decide), if_neg (by decide)]
        clear hb1
        clear hn hl h
        go_enter Try.func47, Try.ntmps47
        go_wp2_with fail
        refine (HR.out _).mono ?_
        rintro r w1 ⟨rfl, b1⟩
        have HW1 := hide (((Below.refl w.heap.size w).alloc (Nat.le_refl _) (.cells #[.slice a n c, .int .i64 p, .int .i64 0] 67)).trans ((Below.refl _ _).alloc (by simp) (.cells #[.slice none 0 0, .int .i64 0, .int .i64 0] 67) |>.trans (b1.mono (by simp; omega))))
        have z1 := b1.size
        simp only [World.size_alloc] at z1
        have HR2 := hide ((b1.block w.heap.size (by simp only [World.size_alloc]; omega)).trans (heap_alloc2_old w (.cells #[.slice a n c, .int .i64 p, .int .i64 0] 67) (.cells #[.slice none 0 0, .int .i64 0, .int .i64 0] 67)))
        have HR4 := hide ((b1.block (w.heap.size + 1) (by simp only [World.size_alloc]; omega)).trans (heap_alloc2_new w (.cells #[.slice a n c, .int .i64 p, .int .i64 0] 67) (.cells #[.slice none 0 0, .int .i64 0, .int .i64 0] 67)))
        clear b1
        obtain ⟨k1, k2, k3⟩ := row_facts HR2.out

        go_wp2_with fail
        refine (stays66 _ _ _ _ _ 1 _).mono ?_
        rintro r w2 ⟨rfl, b2⟩
        have HW2 := hide (HW1.out.trans (b2.mono (by omega)))
        have z2 := b2.size
        have HR4' := hide ((b2.block (w.heap.size + 1) (by omega)).trans HR4.out)
        clear b2
        go_wp2_with (refine wpList_storeW (w.heap.size + 1) _ rfl rfl 67 _ HR4'.out (by kernel_rfl) rfl rfl ?_)
        intro w3 hk3 hg3 hz3
        go_wp2_with fail
        exact bodyPost_ret (v := .tuple #[.agg #[.slice a n c, .int .i64 p, .int .i64 (orE 0 1)], .int .u64 0]) (results_cell_row_tmp (p := 4) (u := 5) rfl _ _ (w.heap.size + 1) 67 _ (0, 0) _ rfl hk3 Try.underlying67 rfl (by kernel_rfl)) rfl ⟨rfl, HW2.out.grown hg3 (by omega) (fun i hi => by cases hi; omega)⟩
      · have h2' : k ≤ 64 := by omega
        have hnb : ¬ (rdyB l p 0 = false ∨ k < 0 ∨ 64 < k) := by
          rw [HQ.out]
          simp
          omega
        by_cases h3 : 8 * (n : Int) - p < k
        · have hb1 : getBad l p 0 k = 2 := by rw [getBad, if_neg hnb, if_pos (by rw [← hn]; exact h3)]
          rw [getP, getE, getN, hb1, if_neg (by decide), if_neg (by decide)]
          clear hb1 hnb hn hl h
          go_enter Try.func47, Try.ntmps47
          go_wp2_with fail
          refine (HR.out _).mono ?_
          rintro r w1 ⟨rfl, b1⟩
          have HW1 := hide (((Below.refl w.heap.size w).alloc (Nat.le_refl _) (.cells #[.slice a n c, .int .i64 p, .int .i64 0] 67)).trans ((Below.refl _ _).alloc (by simp) (.cells #[.slice none 0 0, .int .i64 0, .int .i64 0] 67) |>.trans (b1.mono (by simp; omega))))
          have z1 := b1.size
          simp only [World.size_alloc] at z1
          have HR2 := hide ((b1.block w.heap.size (by simp only [World.size_alloc]; omega)).trans (heap_alloc2_old w (.cells #[.slice a n c, .int .i64 p, .int .i64 0] 67) (.cells #[.slice none 0 0, .int .i64 0, .int .i64 0] 67)))
          have HR4 := hide ((b1.block (w.heap.size + 1) (by simp only [World.size_alloc]; omega)).trans (heap_alloc2_new w (.cells #[.slice a n c, .int .i64 p, .int .i64 0] 67) (.cells #[.slice none 0 0, .int .i64 0, .int .i64 0] 67)))
          clear b1
          obtain ⟨k1, k2, k3⟩ := row_facts HR2.out

          go_wp2_with fail
          refine (stays66 _ _ _ _ _ 2 _).mono ?_
          rintro r w2 ⟨rfl, b2⟩
          have HW2 := hide (HW1.out.trans (b2.mono (by omega)))
          have z2 := b2.size
          have HR4' := hide ((b2.block (w.heap.size + 1) (by omega)).trans HR4.out)
          clear b2
          go_wp2_with (refine wpList_storeW (w.heap.size + 1) _ rfl rfl 67 _ HR4'.out (by kernel_rfl) rfl rfl ?_)
          intro w3 hk3 hg3 hz3
          go_wp2_with fail
          exact bodyPost_ret (v := .tuple #[.agg #[.slice a n c, .int .i64 p, .int .i64 (orE 0 2)], .int .u64 0]) (results_cell_row_tmp (p := 4) (u := 5) rfl _ _ (w.heap.size + 1) 67 _ (0, 0) _ rfl hk3 Try.underlying67 rfl (by kernel_rfl)) rfl ⟨rfl, HW2.out.grown hg3 (by omega) (fun i hi => by cases hi; omega)⟩
        · have hb1 : getBad l p 0 k = 0 := by rw [getBad, if_neg hnb, if_neg (by rw [← hn]; exact h3)]
          rw [getP, getE, getN, hb1, if_pos rfl, if_pos rfl]
          obtain ⟨P, rfl⟩ := Int.eq_ofNat_of_zero_le g1
          obtain ⟨K, rfl⟩ := Int.eq_ofNat_of_zero_le h1'
          simp only [Int.toNat_natCast]
          have HBT := hide (fun w p (hp : p < 8 * n) (h : IsB w (.slice a n c) l) => bit67 a n c p l w hn hl hp h)
          clear hb1 hnb hn h
          go_enter Try.func47, Try.ntmps47
          go_wp2_with fail
          refine (HR.out _).mono ?_
          rintro r w1 ⟨rfl, b1⟩
          have HW1 := hide (((Below.refl w.heap.size w).alloc (Nat.le_refl _) (.cells #[.slice a n c, .int .i64 (P : Int), .int .i64 0] 67)).trans ((Below.refl _ _).alloc (by simp) (.cells #[.slice none 0 0, .int .i64 0, .int .i64 0] 67) |>.trans (b1.mono (by simp; omega))))
          have z1 := b1.size
          simp only [World.size_alloc] at z1
          have HR2 := hide ((b1.block w.heap.size (by simp only [World.size_alloc]; omega)).trans (heap_alloc2_old w (.cells #[.slice a n c, .int .i64 (P : Int), .int .i64 0] 67) (.cells #[.slice none 0 0, .int .i64 0, .int .i64 0] 67)))
          have HR4 := hide ((b1.block (w.heap.size + 1) (by simp only [World.size_alloc]; omega)).trans (heap_alloc2_new w (.cells #[.slice a n c, .int .i64 (P : Int), .int .i64 0] 67) (.cells #[.slice none 0 0, .int .i64 0, .int .i64 0] 67)))
          clear b1
          obtain ⟨k1, k2, k3⟩ := row_facts HR2.out

          go_wp2_with fail
          have HI1 := hide (HI.out.below HW1.out)
          go_loop [6, 7] (fun v i => ∃ d : Nat, i = .int .i64 (d : Int) ∧ d ≤ K ∧ v = .int .u64 (num l P d : Nat)) (fun _ i => K - (intOf i).toNat)
          case atStart => exact ⟨0, rfl, Nat.zero_le _, rfl⟩
          case round =>
            obtain ⟨d, rfl, hd, rfl⟩ := hrel
            by_cases hlt : d < K
            · have hlt2 : (d : Int) < K := by omega
              obtain ⟨v, hv⟩ : ∃ v, v = num l P d := ⟨_, rfl⟩
              obtain ⟨t, ht⟩ : ∃ t, t = (bitAt l (P + d)).toNat := ⟨_, rfl⟩
              have hF := num_succ l P d
              rw [← hv, ← ht] at hF
              have ht1 : t ≤ 1 := by rw [ht]; exact Bool.toNat_le _
              have hv1 : v < 9223372036854775808 := by
                rw [hv]
                exact Nat.lt_of_lt_of_le (num_lt l P d) (Nat.pow_le_pow_right (by decide) (show d ≤ 63 by omega))
              rw [← hv]
              have HB2 := HBT.out w1 (P + d) (by omega) HI1.out
              rw [← ht] at HB2
              have HB3 := hide HB2
              have HF := hide hF
              clear hv ht hF HB2
              have hcast : ((P + d : Nat) : Int) = (P : Int) + d := by omega
              rw [hcast] at HB3
              clear hcast
              go_wp2_with fail
              refine HB3.out.mono ?_
              rintro r w5 ⟨rfl, rfl⟩
              go_wp2_with fail
              go_round
              case rel => exact ⟨d + 1, by go_num, by omega, by rw [HF.out]; go_num⟩
              case measure => simp [intOf]; omega
            · obtain rfl : d = K := by omega
              obtain ⟨v, hv⟩ : ∃ v, v = num l P d := ⟨_, rfl⟩
              rw [← hv]
              have HV := hide hv
              clear hv
              go_wp2_with (refine wpList_storeW (w.heap.size + 1) _ rfl rfl 67 _ ((heap_setCell_other _ _ _ _ (by simp)).trans HR4.out) (by kernel_rfl) rfl rfl ?_)
              intro w3 hk3 hg3 hz3
              go_wp2_with fail
              exact bodyPost_ret (v := .tuple #[.agg #[.slice a n c, .int .i64 (P + d), .int .i64 0], .int .u64 v]) (results_cell_row_tmp (p := 4) (u := 5) rfl _ _ (w.heap.size + 1) 67 _ (0, 0) _ rfl hk3 Try.underlying67 rfl (by kernel_rfl)) rfl ⟨by rw [HV.out]; rfl, (HW1.out.setCell (Nat.le_refl _) _).grown hg3 (by simp only [World.size_setCell]; omega) (fun i hi => by cases hi; omega)⟩

end Go.Proofs.Ytellclclpmofcaa
