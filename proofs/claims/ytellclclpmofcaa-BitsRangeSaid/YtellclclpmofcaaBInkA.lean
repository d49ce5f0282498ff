/-
  The contracts of bits.Right and of the reference's Ink: is an ink right; conditions: the bytes are no more than 1000000.
-/
import Derived.Test.YtellclclpmofcaaBRGet
import Derived.Deep.DeepCutAuto
namespace Go.Proofs.Ytellclclpmofcaa
open Go.RowKit
set_option linter.unusedVariables false

theorem shl_zero_iff (x r : Nat) (hr : r ≤ 8) : (x <<< r) % 256 = 0 ↔ ∀ k, k < 8 - r → x.testBit k = false := by
  have e : ∀ k, ((x <<< r) % 2 ^ 8).testBit k = (decide (k < 8) && (decide (r ≤ k) && x.testBit (k - r))) := by
    intro k
    rw [Nat.testBit_mod_two_pow, Nat.testBit_shiftLeft]
  constructor
  · intro h k hk
    have := e (k + r)
    rw [show (x <<< r) % 2 ^ 8 = 0 from h] at this
    simp at this
    exact this (by omega)
  · intro h
    refine Nat.eq_of_testBit_eq fun k => ?_
    rw [show (x <<< r) % 256 = (x <<< r) % 2 ^ 8 from rfl, e k, Nat.zero_testBit]
    by_cases h1 : k < 8
    · by_cases h2 : r ≤ k
      · rw [h (k - r) (by omega)]
        simp
      · simp [h2]
    · simp [h1]

theorem ink_last {l : List UInt8} {j r : Nat} {x : UInt8} (hl : l.length = j + 1) (hx : l[j]? = some x) (h0 : 0 < r) (h8 : r < 8) : inkB l ((8 * j + r : Nat) : Int) = decide ((x.toNat <<< r) % 256 = 0) := by
  have hb : ∀ i, i / 8 = j → bitAt l i = x.toNat.testBit (7 - i % 8) := by
    intro i hi
    rw [bitAt, hi, show l.getD j 0 = x by simp [List.getD, hx]]
  rw [Bool.eq_iff_iff, decide_eq_true_eq, inkB_spec, shl_zero_iff _ _ (by omega)]
  constructor
  · rintro ⟨-, -, h⟩ k hk
    have h1 := h (8 * j + (7 - k)) (by omega)
    rw [hb _ (by omega), show 7 - (8 * j + (7 - k)) % 8 = k by omega] at h1
    exact h1
  · intro h
    refine ⟨by omega, by omega, fun i hi => ?_⟩
    by_cases h2 : i < 8 * l.length
    · rw [hb i (by omega)]
      exact h _ (by omega)
    · exact bitAt_out (by omega)

theorem ink_whole {l : List UInt8} {j : Nat} (hl : l.length = j) : inkB l ((8 * j : Nat) : Int) = true :=
  inkB_spec.2 ⟨by omega, by omega, fun i hi => bitAt_out (by omega)⟩

theorem ink_len {l : List UInt8} {m : Int} (h : (l.length : Int) ≠ (m + 7) / 8) : inkB l m = false := by
  cases hb : inkB l m
  · rfl
  · exact absurd (inkB_spec.1 hb).2.1 h

theorem ink_neg {l : List UInt8} {m : Int} (h : m < 0) : inkB l m = false := by
  cases hb : inkB l m
  · rfl
  · have := (inkB_spec.1 hb).1
    omega

theorem ink_bit {l : List UInt8} {m : Int} {i : Nat} (h : m ≤ i) (hb : bitAt l i = true) : inkB l m = false := by
  cases hk : inkB l m
  · rfl
  · have := (inkB_spec.1 hk).2.2 i h
    rw [hb] at this
    cases this

set_option maxRecDepth 100000 in
set_option maxHeartbeats 2000000 in
theorem right54 (a : Option Addr) (n c : Nat) (m : Int) (l : List UInt8) (w : World) (hn : n = l.length) (hl : n ≤ 1000000) (hm : m ≤ 9223372036854775807) (h : IsB w (.slice a n c) l) :
    Calls Try.prog 54 #[.agg #[.slice a n c, .int .i64 m]] w fun r w' => r = .returned (.bool (inkB l m)) ∧ Below w.heap.size w w' := by
  have hli : (n : Int) ≤ 1000000 := by omega
  by_cases h0 : m < 0
  · rw [ink_neg h0]
    clear hn hl h
    go_enter Try.func54, Try.ntmps54
    go_wp2_with fail
    go_ret
    exact ⟨rfl, by go_grown⟩
  · obtain ⟨M, rfl⟩ := Int.eq_ofNat_of_zero_le (show 0 ≤ m by omega)
    obtain ⟨j, hj⟩ : ∃ j, M / 8 = j := ⟨_, rfl⟩
    obtain ⟨r, hr⟩ : ∃ r, M % 8 = r := ⟨_, rfl⟩
    have HJ : Hid ((M : Int) / 8 = (j : Int)) := hide (by omega)
    have HR : Hid ((M : Int) % 8 = (r : Int)) := hide (by omega)
    have hM : M = 8 * j + r := by omega
    have hr8 : r < 8 := by omega
    have hj6 : (j : Int) ≤ 1152921504606846975 := by omega
    by_cases hr0 : r = 0
    · subst hr0
      have hrem : ((M : Int) % 8 != 0) = false := by simp; omega
      by_cases hlen : n = j
      · have hF : inkB l (M : Int) = true := by rw [hM]; exact ink_whole (by omega)
        rw [hF]
        have hb : ((n : Int) != (j : Int)) = false := by simp; omega
        clear hn hl h hj hr hM hF
        go_enter Try.func54, Try.ntmps54
        go_upto_region 4 with fail
        rw [HJ.out]
        go_wp2_with fail
        go_ret
        exact ⟨rfl, by go_grown⟩
      · have hF : inkB l (M : Int) = false := ink_len (by omega)
        rw [hF]
        have hb : ((n : Int) != (j : Int)) = true := by simp; omega
        clear hn hl h hj hr hM hF hlen
        go_enter Try.func54, Try.ntmps54
        go_upto_region 4 with fail
        rw [HJ.out]
        go_wp2_with fail
        go_ret
        exact ⟨rfl, by go_grown⟩
    · have hrem : ((M : Int) % 8 != 0) = true := by simp; omega
      by_cases hlen : n = j + 1
      · have hjn : j < n := by omega
        obtain ⟨x, hx⟩ : ∃ x, l[j]? = some x := ⟨l[j]'(by rw [← hn]; exact hjn), by simp⟩
        obtain ⟨Z, hZ⟩ : ∃ Z, (x.toNat <<< r) % 256 = Z := ⟨_, rfl⟩
        have hF : inkB l (M : Int) = decide (Z = 0) := by rw [hM, ink_last (by omega) hx (by omega) hr8, hZ]
        rw [hF]
        obtain ⟨b, off, rfl, hbw, hcl⟩ := h.cellAt hx
        have hb : ((n : Int) != (j : Int) + 1) = false := by simp; omega
        have hr1 : ((r : Int) != 0) = true := by simp; omega
        have hri : (r : Int) < 8 := by omega
        have hjn2 : (j : Int) < n := by omega
        have hx8 := x.toNat_lt
        have HZ := hide hZ
        clear hn hl h hj hr hM hF hlen hx hZ
        by_cases hz0 : Z = 0
        · subst hz0
          go_enter Try.func54, Try.ntmps54
          go_upto_region 4 with fail
          rw [HJ.out]
          go_upto_region 9 with fail
          rw [HR.out]
          go_wp2_with (((with_reducible show wpList _ _ _ (Oper.mk _ (.binOp .shl _ _ _ _) _ _ _ _ :: _) _ _); refine wpList_shl8 (X := x.toNat) (s := r) (Z := 0) rfl rfl rfl HZ.out ?_))
          go_ret
          exact ⟨rfl, by go_grown⟩
        · rw [decide_eq_false hz0]
          have hz1 : ((Z : Int) == 0) = false := by simp; omega
          clear hz0
          go_enter Try.func54, Try.ntmps54
          go_upto_region 4 with fail
          rw [HJ.out]
          go_upto_region 9 with fail
          rw [HR.out]
          go_wp2_with (((with_reducible show wpList _ _ _ (Oper.mk _ (.binOp .shl _ _ _ _) _ _ _ _ :: _) _ _); refine wpList_shl8 (X := x.toNat) (s := r) (Z := Z) rfl rfl rfl HZ.out ?_))
          go_ret
          exact ⟨rfl, by go_grown⟩
      · have hF : inkB l (M : Int) = false := ink_len (by omega)
        rw [hF]
        have hb : ((n : Int) != (j : Int) + 1) = true := by simp; omega
        clear hn hl h hj hr hM hF hlen
        go_enter Try.func54, Try.ntmps54
        go_upto_region 4 with fail
        rw [HJ.out]
        go_wp2_with fail
        go_ret
        exact ⟨rfl, by go_grown⟩

set_option maxRecDepth 100000 in
set_option maxHeartbeats 2000000 in
theorem ink55 (a : Option Addr) (n c : Nat) (m : Int) (l : List UInt8) (w : World) (hn : n = l.length) (hl : n ≤ 1000000) (hm : m ≤ 9223372036854775807) (hm2 : -9223372036854775808 ≤ m) (h : IsB w (.slice a n c) l) :
    Calls Try.prog 55 #[.agg #[.slice a n c, .int .i64 m]] w fun r w' => r = .returned (.bool (inkB l m)) ∧ Below w.heap.size w w' := by
  have hli : (n : Int) ≤ 1000000 := by omega
  by_cases h0 : m < 0
  · rw [ink_neg h0]
    clear hn hl h
    go_enter Try.func55, Try.ntmps55
    go_wp2_with fail
    go_ret
    exact ⟨rfl, by go_grown⟩
  · have h0' : 0 ≤ m := by omega
    by_cases h1 : 8 * (n : Int) < m
    · rw [ink_len (show (l.length : Int) ≠ (m + 7) / 8 by omega)]
      clear hn hl h
      go_enter Try.func55, Try.ntmps55
      go_wp2_with fail
      go_ret
      exact ⟨rfl, by go_grown⟩
    · have h1' : m ≤ 8 * (n : Int) := by omega
      by_cases h2 : 7 < 8 * (n : Int) - m
      · rw [ink_len (show (l.length : Int) ≠ (m + 7) / 8 by omega)]
        clear hn hl h
        go_enter Try.func55, Try.ntmps55
        go_wp2_with fail
        go_ret
        exact ⟨rfl, by go_grown⟩
      · have h2' : 8 * (n : Int) - m ≤ 7 := by omega
        obtain ⟨M, rfl⟩ := Int.eq_ofNat_of_zero_le h0'
        have HBT := hide (fun w p (hp : p < 8 * n) (h : IsB w (.slice a n c) l) => bit67 a n c p l w hn hl hp h)
        have HN := hide hn
        have HI := hide (h.below ((Below.refl _ _).alloc (Nat.le_refl _) (.cells #[.slice a n c, .int .i64 (M : Int)] 69)))
        clear hn hl h
        go_enter Try.func55, Try.ntmps55
        go_wp2_with fail
        go_loop [3] (fun i => ∃ k : Nat, i = .int .i64 (k : Int) ∧ M ≤ k ∧ k ≤ 8 * n ∧ ∀ i : Nat, M ≤ i → i < k → bitAt l i = false) (fun i => 8 * n - (intOf i).toNat)
        case atStart => exact ⟨M, rfl, Nat.le_refl _, by omega, fun i h1 h2 => by omega⟩
        case round =>
          obtain ⟨k, rfl, hk1, hk2, hk3⟩ := hrel
          have HK := hide hk3
          clear hk3
          by_cases hlt : k < 8 * n
          · have hlt2 : (k : Int) < 8 * (n : Int) := by omega
            obtain ⟨t, ht⟩ : ∃ t, t = bitAt l k := ⟨_, rfl⟩
            have HB2 := HBT.out _ k hlt HI.out
            rw [← ht] at HB2
            have HB3 := hide HB2
            have HT := hide ht
            clear ht HB2
            cases t
            · go_wp2_with fail
              refine HB3.out.mono ?_
              rintro r w5 ⟨rfl, rfl⟩
              go_wp2_with fail
              go_round
              case rel => exact ⟨k + 1, by go_num, by omega, by omega, fun i h1 h2 => by
                by_cases hik : i = k
                · rw [hik, ← HT.out]
                · exact HK.out i h1 (by omega)⟩
              case measure => simp [intOf]; omega
            · have HF : Hid (inkB l (M : Int) = false) := hide (ink_bit (i := k) (by omega) HT.out.symm)
              go_wp2_with fail
              refine HB3.out.mono ?_
              rintro r w5 ⟨rfl, rfl⟩
              go_wp2_with fail
              go_ret
              exact ⟨by rw [HF.out]; rfl, by go_grown⟩
          · obtain rfl : k = 8 * n := by omega
            have HF : Hid (inkB l (M : Int) = true) := hide (inkB_spec.2 ⟨by omega, by have := HN.out; omega, fun i hi => by
              by_cases hin : i < 8 * n
              · exact HK.out i (by omega) hin
              · exact bitAt_out (by have := HN.out; omega)⟩)
            have hge : ¬ (((8 * n : Nat) : Int) < 8 * (n : Int)) := by omega
            go_wp2_with fail
            go_ret
            exact ⟨by rw [HF.out]; rfl, by go_grown⟩

end Go.Proofs.Ytellclclpmofcaa
