/-
  The contracts of bits.Get and of its reference's parts; conditions: the bytes are no more than 1000000.
-/
import Derived.Test.YtellclclpmofcaaBGetA
import Derived.Test.YtellclclpmofcaaBLook
namespace Go.Proofs.Ytellclclpmofcaa
open Go.RowKit
set_option linter.unusedVariables false

/-- What a read gives back. -/
def RetGet (w : World) (s : Value) (l : List UInt8) (p e k : Int) (r : Ending) (w' : World) : Prop :=
  r = .returned (.tuple #[.agg #[s, .int .i64 (getP l p e k), .int .i64 (getE l p e k)], .int .u64 ((getN l p e k : Nat) : Int)]) ∧ Below w.heap.size w w'

set_option maxRecDepth 100000 in
set_option maxHeartbeats 2000000 in
theorem get46 (a : Option Addr) (n c : Nat) (p e k : Int) (l : List UInt8) (w : World) (hn : n = l.length) (hl : n ≤ 1000000) (h : IsB w (.slice a n c) l) :
    Calls Try.prog 46 #[.agg #[.slice a n c, .int .i64 p, .int .i64 e], .int .i64 k] w (RetGet w (.slice a n c) l p e k) := by
  have hli : (n : Int) ≤ 1000000 := by omega
  have HR := hide (fun w => right63 a n c p e l w hn hl)
  have HL := hide (fun w => left48 a n c p e l w hn hl)
  have HN := hide hn
  have HI := hide h
  unfold RetGet
  obtain ⟨q, hq⟩ : ∃ q, q = rdyB l p e := ⟨_, rfl⟩
  cases q
  · have hb1 : getBad l p e k = 1 := by rw [getBad, if_pos (.inl hq.symm)]
    rw [getP, getE, getN, hb1, if_neg (by decide), if_neg (by decide)]
    clear hb1
    rw [← hq] at HR
    clear hn hl h hq
    go_enter Try.func46, Try.ntmps46
    go_wp2_with fail
    refine (HR.out _).mono ?_
    rintro r w1 ⟨rfl, b1⟩
    have HW1 := hide (((Below.refl w.heap.size w).alloc (Nat.le_refl _) (.cells #[.slice a n c, .int .i64 p, .int .i64 e] 67)).trans ((Below.refl _ _).alloc (by simp) (.cells #[.slice none 0 0, .int .i64 0, .int .i64 0] 67) |>.trans (b1.mono (by simp; omega))))
    have z1 := b1.size
    simp only [World.size_alloc] at z1
    have HR2 := hide ((b1.block w.heap.size (by simp only [World.size_alloc]; omega)).trans (heap_alloc2_old w (.cells #[.slice a n c, .int .i64 p, .int .i64 e] 67) (.cells #[.slice none 0 0, .int .i64 0, .int .i64 0] 67)))
    have HR4 := hide ((b1.block (w.heap.size + 1) (by simp only [World.size_alloc]; omega)).trans (heap_alloc2_new w (.cells #[.slice a n c, .int .i64 p, .int .i64 e] 67) (.cells #[.slice none 0 0, .int .i64 0, .int .i64 0] 67)))
    clear b1
    obtain ⟨k1, k2, k3⟩ := row_facts HR2.out

    go_wp2_with fail
    refine (fail64 _ _ _ _ _ 1 _).mono ?_
    rintro r w2 ⟨rfl, b2⟩
    have HW2 := hide (HW1.out.trans (b2.mono (by omega)))
    have z2 := b2.size
    have HR4' := hide ((b2.block (w.heap.size + 1) (by omega)).trans HR4.out)
    clear b2
    go_wp2_with (refine wpList_storeW (w.heap.size + 1) _ rfl rfl 67 _ HR4'.out (by kernel_rfl) rfl rfl ?_)
    intro w3 hk3 hg3 hz3
    go_wp2_with fail
    exact bodyPost_ret (v := .tuple #[.agg #[.slice a n c, .int .i64 p, .int .i64 (orE e 1)], .int .u64 0]) (results_cell_row_tmp (p := 4) (u := 5) rfl _ _ (w.heap.size + 1) 67 _ (0, 0) _ rfl hk3 Try.underlying67 rfl (by kernel_rfl)) rfl ⟨rfl, HW2.out.grown hg3 (by omega) (fun i hi => by cases hi; omega)⟩
  · obtain ⟨g0, g1, g2⟩ : e = 0 ∧ 0 ≤ p ∧ p ≤ 8 * (n : Int) := by
      have := hq.symm
      simp [rdyB] at this
      omega
    subst g0
    have hleft : leftN l p 0 = 8 * (n : Int) - p := by rw [leftN, if_pos hq.symm, hn]
    rw [hleft] at HL
    have HQ : Hid (rdyB l p 0 = true) := hide hq.symm
    rw [HQ.out] at HR
    clear hleft hq
    by_cases h1 : k < 0
    · have hb1 : getBad l p 0 k = 1 := by rw [getBad, if_pos (.inr (.inl h1))]
      rw [getP, getE, getN, hb1, if_neg (by decide), if_neg (by decide)]
      clear hb1
      clear hn hl h
      go_enter Try.func46, Try.ntmps46
      go_wp2_with fail
      refine (HR.out _).mono ?_
      rintro r w1 ⟨rfl, b1⟩
      have HW1 := hide (((Below.refl w.heap.size w).alloc (Nat.le_refl _) (.cells #[.slice a n c, .int .i64 p, .int .i64 0] 67)).trans ((Below.refl _ _).alloc (by simp) (.cells #[.slice none 0 0, .int .i64 0, .int .i64 0] 67) |>.trans (b1.mono (by simp; omega))))
      have z1 := b1.size
      simp only [World.size_alloc] at z1
      have HR2 := hide ((b1.block w.heap.size (by simp only [World.size_alloc]; omega)).trans (heap_alloc2_old w (.cells #[.slice a n c, .int .i64 p, .int .i64 0] 67) (.cells #[.slice none 0 0, .int .i64 0, .int .i64 0] 67)))
      have HR4 := hide ((b1.block (w.heap.size + 1) (by simp only [World.size_alloc]; omega)).trans (heap_alloc2_new w (.cells #[.slice a n c, .int .i64 p, .int .i64 0] 67) (.cells #[.slice none 0 0, .int .i64 0, .int .i64 0] 67)))
      clear b1
      obtain ⟨k1, k2, k3⟩ := row_facts HR2.out

      go_wp2_with fail
      refine (fail64 _ _ _ _ _ 1 _).mono ?_
      rintro r w2 ⟨rfl, b2⟩
      have HW2 := hide (HW1.out.trans (b2.mono (by omega)))
      have z2 := b2.size
      have HR4' := hide ((b2.block (w.heap.size + 1) (by omega)).trans HR4.out)
      clear b2
      go_wp2_with (refine wpList_storeW (w.heap.size + 1) _ rfl rfl 67 _ HR4'.out (by kernel_rfl) rfl rfl ?_)
      intro w3 hk3 hg3 hz3
      go_wp2_with fail
      exact bodyPost_ret (v := .tuple #[.agg #[.slice a n c, .int .i64 p, .int .i64 (orE 0 1)], .int .u64 0]) (results_cell_row_tmp (p := 4) (u := 5) rfl _ _ (w.heap.size + 1) 67 _ (0, 0) _ rfl hk3 Try.underlying67 rfl (by kernel_rfl)) rfl ⟨rfl, HW2.out.grown hg3 (by omega) (fun i hi => by cases hi; omega)⟩
    · have h1' : 0 ≤ k := by omega
      by_cases h2 : 64 < k
      · have hb1 : getBad l p 0 k = 1 := by rw [getBad, if_pos (.inr (.inr h2))]
        rw [getP, getE, getN, hb1, if_neg (by decide), if_neg (by decide)]
        clear hb1
        clear hn hl h
        go_enter Try.func46, Try.ntmps46
        go_wp2_with fail
        refine (HR.out _).mono ?_
        rintro r w1 ⟨rfl, b1⟩
        have HW1 := hide (((Below.refl w.heap.size w).alloc (Nat.le_refl _) (.cells #[.slice a n c, .int .i64 p, .int .i64 0] 67)).trans ((Below.refl _ _).alloc (by simp) (.cells #[.slice none 0 0, .int .i64 0, .int .i64 0] 67) |>.trans (b1.mono (by simp; omega))))
        have z1 := b1.size
        simp only [World.size_alloc] at z1
        have HR2 := hide ((b1.block w.heap.size (by simp only [World.size_alloc]; omega)).trans (heap_alloc2_old w (.cells #[.slice a n c, .int .i64 p, .int .i64 0] 67) (.cells #[.slice none 0 0, .int .i64 0, .int .i64 0] 67)))
        have HR4 := hide ((b1.block (w.heap.size + 1) (by simp only [World.size_alloc]; omega)).trans (heap_alloc2_new w (.cells #[.slice a n c, .int .i64 p, .int .i64 0] 67) (.cells #[.slice none 0 0, .int .i64 0, .int .i64 0] 67)))
        clear b1
        obtain ⟨k1, k2, k3⟩ := row_facts HR2.out

        go_wp2_with fail
        refine (fail64 _ _ _ _ _ 1 _).mono ?_
        rintro r w2 ⟨rfl, b2⟩
        have HW2 := hide (HW1.out.trans (b2.mono (by omega)))
        have z2 := b2.size
        have HR4' := hide ((b2.block (w.heap.size + 1) (by omega)).trans HR4.out)
        clear b2
        go_wp2_with (refine wpList_storeW (w.heap.size + 1) _ rfl rfl 67 _ HR4'.out (by kernel_rfl) rfl rfl ?_)
        intro w3 hk3 hg3 hz3
        go_wp2_with fail
        exact bodyPost_ret (v := .tuple #[.agg #[.slice a n c, .int .i64 p, .int .i64 (orE 0 1)], .int .u64 0]) (results_cell_row_tmp (p := 4) (u := 5) rfl _ _ (w.heap.size + 1) 67 _ (0, 0) _ rfl hk3 Try.underlying67 rfl (by kernel_rfl)) rfl ⟨rfl, HW2.out.grown hg3 (by omega) (fun i hi => by cases hi; omega)⟩
      · have h2' : k ≤ 64 := by omega
        have hnb : ¬ (rdyB l p 0 = false ∨ k < 0 ∨ 64 < k) := by
          rw [HQ.out]
          simp
          omega
        by_cases h3 : 8 * (n : Int) - p < k
        · have hb1 : getBad l p 0 k = 2 := by rw [getBad, if_neg hnb, if_pos (by rw [← hn]; exact h3)]
          rw [getP, getE, getN, hb1, if_neg (by decide), if_neg (by decide)]
          clear hb1 hnb hn hl h
          go_enter Try.func46, Try.ntmps46
          go_wp2_with fail
          refine (HR.out _).mono ?_
          rintro r w1 ⟨rfl, b1⟩
          have HW1 := hide (((Below.refl w.heap.size w).alloc (Nat.le_refl _) (.cells #[.slice a n c, .int .i64 p, .int .i64 0] 67)).trans ((Below.refl _ _).alloc (by simp) (.cells #[.slice none 0 0, .int .i64 0, .int .i64 0] 67) |>.trans (b1.mono (by simp; omega))))
          have z1 := b1.size
          simp only [World.size_alloc] at z1
          have HR2 := hide ((b1.block w.heap.size (by simp only [World.size_alloc]; omega)).trans (heap_alloc2_old w (.cells #[.slice a n c, .int .i64 p, .int .i64 0] 67) (.cells #[.slice none 0 0, .int .i64 0, .int .i64 0] 67)))
          have HR4 := hide ((b1.block (w.heap.size + 1) (by simp only [World.size_alloc]; omega)).trans (heap_alloc2_new w (.cells #[.slice a n c, .int .i64 p, .int .i64 0] 67) (.cells #[.slice none 0 0, .int .i64 0, .int .i64 0] 67)))
          clear b1
          obtain ⟨k1, k2, k3⟩ := row_facts HR2.out

          go_wp2_with fail
          refine (HL.out _).mono ?_
          rintro r w4 ⟨rfl, b4⟩
          have HW4 := hide (HW1.out.trans (b4.mono (by omega)))
          have z4 := b4.size
          have HR2x := hide ((b4.block w.heap.size (by omega)).trans HR2.out)
          have HR4x := hide ((b4.block (w.heap.size + 1) (by omega)).trans HR4.out)
          clear b4 k1 k2 k3
          obtain ⟨k1, k2, k3⟩ := row_facts HR2x.out

          go_wp2_with fail
          refine (fail64 _ _ _ _ _ 2 _).mono ?_
          rintro r w2 ⟨rfl, b2⟩
          have HW2 := hide (HW4.out.trans (b2.mono (by omega)))
          have z2 := b2.size
          have HR4' := hide ((b2.block (w.heap.size + 1) (by omega)).trans HR4x.out)
          clear b2
          go_wp2_with (refine wpList_storeW (w.heap.size + 1) _ rfl rfl 67 _ HR4'.out (by kernel_rfl) rfl rfl ?_)
          intro w3 hk3 hg3 hz3
          go_wp2_with fail
          exact bodyPost_ret (v := .tuple #[.agg #[.slice a n c, .int .i64 p, .int .i64 (orE 0 2)], .int .u64 0]) (results_cell_row_tmp (p := 4) (u := 5) rfl _ _ (w.heap.size + 1) 67 _ (0, 0) _ rfl hk3 Try.underlying67 rfl (by kernel_rfl)) rfl ⟨rfl, HW2.out.grown hg3 (by omega) (fun i hi => by cases hi; omega)⟩
        · have hb1 : getBad l p 0 k = 0 := by rw [getBad, if_neg hnb, if_neg (by rw [← hn]; exact h3)]
          rw [getP, getE, getN, hb1, if_pos rfl, if_pos rfl]
          obtain ⟨P, rfl⟩ := Int.eq_ofNat_of_zero_le g1
          obtain ⟨K, rfl⟩ := Int.eq_ofNat_of_zero_le h1'
          simp only [Int.toNat_natCast]
          have HLK := hide (fun w (h : IsB w (.slice a n c) l) => look65 a n c P K l w hn hl (by omega) (by omega) h)
          clear hb1 hnb hn hl h
          go_enter Try.func46, Try.ntmps46
          go_wp2_with fail
          refine (HR.out _).mono ?_
          rintro r w1 ⟨rfl, b1⟩
          have HW1 := hide (((Below.refl w.heap.size w).alloc (Nat.le_refl _) (.cells #[.slice a n c, .int .i64 (P : Int), .int .i64 0] 67)).trans ((Below.refl _ _).alloc (by simp) (.cells #[.slice none 0 0, .int .i64 0, .int .i64 0] 67) |>.trans (b1.mono (by simp; omega))))
          have z1 := b1.size
          simp only [World.size_alloc] at z1
          have HR2 := hide ((b1.block w.heap.size (by simp only [World.size_alloc]; omega)).trans (heap_alloc2_old w (.cells #[.slice a n c, .int .i64 (P : Int), .int .i64 0] 67) (.cells #[.slice none 0 0, .int .i64 0, .int .i64 0] 67)))
          have HR4 := hide ((b1.block (w.heap.size + 1) (by simp only [World.size_alloc]; omega)).trans (heap_alloc2_new w (.cells #[.slice a n c, .int .i64 (P : Int), .int .i64 0] 67) (.cells #[.slice none 0 0, .int .i64 0, .int .i64 0] 67)))
          clear b1
          obtain ⟨k1, k2, k3⟩ := row_facts HR2.out

          go_wp2_with fail
          refine (HL.out _).mono ?_
          rintro r w4 ⟨rfl, b4⟩
          have HW4 := hide (HW1.out.trans (b4.mono (by omega)))
          have z4 := b4.size
          have HR2x := hide ((b4.block w.heap.size (by omega)).trans HR2.out)
          have HR4x := hide ((b4.block (w.heap.size + 1) (by omega)).trans HR4.out)
          clear b4 k1 k2 k3
          obtain ⟨k1, k2, k3⟩ := row_facts HR2x.out
          have HI4 := hide (HI.out.below HW4.out)
          go_wp2_with fail
          refine (HLK.out _ HI4.out).mono ?_
          rintro r w5 ⟨rfl, rfl⟩
          go_wp2_with (refine wpList_storeW (w.heap.size + 1) _ rfl rfl 67 _ ((heap_setCell_other _ _ _ _ (by simp)).trans HR4x.out) (by kernel_rfl) rfl rfl ?_)
          intro w3 hk3 hg3 hz3
          go_wp2_with fail
          exact bodyPost_ret (v := .tuple #[.agg #[.slice a n c, .int .i64 (P + K), .int .i64 0], .int .u64 (num l P K : Nat)]) (results_cell_row_tmp (p := 4) (u := 5) rfl _ _ (w.heap.size + 1) 67 _ (0, 0) _ rfl hk3 Try.underlying67 rfl (by kernel_rfl)) rfl ⟨rfl, (HW4.out.setCell (Nat.le_refl _) _).grown hg3 (by simp only [World.size_setCell]; omega) (fun i hi => by cases hi; omega)⟩


set_option maxRecDepth 100000 in
theorem stays66 (a : Option Addr) (n c : Nat) (p e b : Int) (w : World) :
    Calls Try.prog 66 #[.agg #[.slice a n c, .int .i64 p, .int .i64 e], .int .i64 b] w fun r w' => r = .returned (.tuple #[.agg #[.slice a n c, .int .i64 p, .int .i64 (orE e b)], .int .u64 0]) ∧ Below w.heap.size w w' := by
  by_cases h0 : e = 0
  · subst h0
    rw [show orE 0 b = b from rfl]
    go_enter Try.func66, Try.ntmps66
    go_wp2_with fail
    go_returns
    exact ⟨rfl, by go_grown⟩
  · rw [show orE e b = e by simp [orE, h0]]
    have hb : (e == 0) = false := by simpa using h0
    go_enter Try.func66, Try.ntmps66
    go_wp2_with fail
    go_returns
    exact ⟨rfl, by go_grown⟩

end Go.Proofs.Ytellclclpmofcaa
