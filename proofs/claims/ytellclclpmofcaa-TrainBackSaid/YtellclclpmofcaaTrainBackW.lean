/-
  The walk of crossbarlaw11.TrainBack; conditions: the arguments read as data.
-/
import Derived.Test.YtellclclpmofcaaTBack
namespace Go.Proofs.Ytellclclpmofcaa
open Go.RowKit

set_option maxRecDepth 100000 in
set_option maxHeartbeats 4000000 in
theorem trainBack_ok (a2 a4 : Option Addr) (n2 c2 n4 c4 : Nat) (l2 l4 : List UInt8) (x0 x1 x3 : Int) (w : World) (hn2 : n2 = l2.length) (hn4 : n4 = l4.length) (hl2 : n2 ≤ 3000) (hl4 : n4 ≤ 3000) (h2 : IsB w (.slice a2 n2 c2) l2) (h4 : IsB w (.slice a4 n4 c4) l4) :
    Calls Try.prog 9 #[.int .i64 x0, .int .i64 x1, .slice a2 n2 c2, .int .i64 x3, .slice a4 n4 c4] w fun e w' => e = .returned (.bool true) ∧ Below w.heap.size w w' := by
  have g2 : (n2 : Int) ≤ 3000 := by omega
  have g4 : (n4 : Int) ≤ 3000 := by omega
  have hl2' : n2 ≤ 1000000 := by omega
  have HN2 := hide hn2
  have HN4 := hide hn4
  have H2 := hide h2
  have H4 := hide h4
  clear hn2 hn4 hl2 hl4 h2 h4
  go_enter Try.func9, Try.ntmps9
  go_wp2_with fail
  refine (awake11 _).mono ?_
  rintro e w1 ⟨rfl, b1⟩
  have H21 := hide (H2.out.below b1)
  have H41 := hide (H4.out.below b1)
  have HW1 := hide b1
  clear b1
  go_wp2_with fail
  cases hm : mayB x0 x1 n2 x3
  · have HMN := hide hm
    clear hm
    refine (close_no x0 x1 a2 n2 c2 x3 _ hl2' HMN.out).mono ?_
    rintro e w4 ⟨rfl, b4⟩
    have HWX := hide (HW1.out.trans (b4.mono HW1.out.size))
    have H4X := hide (H41.out.below b4)
    clear b4
    go_wp2_with fail
    refine (open_any _ _ _ H4X.out).mono ?_
    rintro e w7 ⟨v7, rfl, o7, b7⟩
    obtain ⟨a7, n7, c7, rfl, hn7, -⟩ := o7.isB.len'
    have z7 := b7.size
    have HW7 := hide (HWX.out.trans (b7.mono HWX.out.size))
    by_cases er0 : opE l4 = 0
    · obtain ⟨hmay, hclen, hnle, hl44, hdec⟩ := close_open er0
      obtain ⟨p, hp⟩ : ∃ p, p = rdP l4 := ⟨_, rfl⟩
      obtain ⟨c, hc⟩ : ∃ c, c = rdN l4 := ⟨_, rfl⟩
      obtain ⟨t, ht⟩ : ∃ t, t = rdT l4 := ⟨_, rfl⟩
      obtain ⟨s, hs⟩ : ∃ s, s = rdS l4 := ⟨_, rfl⟩
      have hV : opV l4 = .agg #[.bool p, .int .i64 c, .int .i64 t, .int .i64 s] := by rw [opV, if_pos er0, rdV, hp, hc, ht, hs]
      rw [hV, er0]
      rw [← hc, ← ht, ← hn7] at hmay
      rw [← hc, ← ht] at hclen hdec
      obtain ⟨on, hon⟩ : ∃ on, on = opN l4 := ⟨_, rfl⟩
      rw [← hon] at hmay hclen hnle hdec ⊢
      obtain ⟨z, hz⟩ : ∃ z, z = closeL t c (opB l4) on := ⟨_, rfl⟩
      rw [← hz] at hclen hdec
      have HMAY := hide hmay
      have HZ := hide hz.symm
      have HN7 := hide hn7
      have H47 := hide ((H4X.out.below b7).below ((Below.refl _ _).alloc (Nat.le_refl _) (.cells #[.bool p, .int .i64 c, .int .i64 t, .int .i64 s] 23)))
      have HB7 := hide (o7.isB.below ((Below.refl _ _).alloc (Nat.le_refl _) (.cells #[.bool p, .int .i64 c, .int .i64 t, .int .i64 s] 23)))
      have HWB := hide (HW7.out.alloc HW7.out.size (.cells #[.bool p, .int .i64 c, .int .i64 t, .int .i64 s] 23))
      rw [← HN4.out] at hclen hnle hl44 hdec
      have k1 : (on : Int) ≤ n4 := by omega
      have k2 : (0 : Int) ≤ on := by omega
      obtain ⟨lo, hlo⟩ : ∃ lo, n4 = lo + on := ⟨n4 - on, by omega⟩
      have HLO : Hid ((n4 : Int) - on = (lo : Int)) := hide (by omega)
      have hlo2 : n4 - on = lo := by omega
      rw [hlo2] at hdec
      have HD := hide hdec
      have HL44 := hide hl44
      have HCL := hide hclen
      have HLO2 := hide hlo
      clear hp hc ht hs hV hmay hn7 hnle hdec hz hclen hlo hlo2 er0 hon o7 b7
      go_wp2_with fail
      refine (close_yes t c a7 n7 c7 (opB l4) on _ HN7.out HB7.out HMAY.out).mono ?_
      rintro e w8 ⟨v8, rfl, o8, b8⟩
      rw [HZ.out] at o8
      obtain ⟨a8, n8, c8, rfl, hn8, -⟩ := o8.isB.len'
      have hn8' : n8 = n4 := by rw [hn8, HCL.out]
      subst hn8'
      have HW8 := hide (HWB.out.trans (b8.mono HWB.out.size))
      have H48 := hide (H47.out.below b8)
      have HZ8 := hide o8.isB
      clear hn8 b8 o8
      go_wp2_with fail
      rw [HLO.out]
      go_loop [23, 24] (fun q i => ∃ k : Nat, i = .int .i64 k ∧ lo ≤ k ∧ (k + 1 ≤ n8 ∨ k = lo) ∧ q = .bool (zr l4 lo k)) (fun _ i => n8 - (intOf i).toNat)
      case atStart => exact ⟨lo, rfl, Nat.le_refl _, .inr rfl, by rw [zr_self]⟩
      case round =>
        obtain ⟨k, rfl, hk1, hk2, rfl⟩ := hrel
        by_cases hlt : k + 1 < n8
        · have hlt' : (k : Int) < (n8 : Int) - 1 := by omega
          obtain ⟨x, hx⟩ : ∃ x, l4[k]? = some x := ⟨l4[k]'(by rw [← HN4.out]; omega), by simp⟩
          obtain ⟨b, off, rfl, hbw, hcl⟩ := H48.out.cellAt hx
          have HS := hide (zr_succ hx hk1)
          have q0 := x.toNat_lt
          clear hx
          have hkn : k < n8 := by omega
          have hkn2 : (k : Int) < n8 := by omega
          by_cases hz : zr l4 lo k = true
          · rw [hz] at HS ⊢
            clear hz
            by_cases h0 : x.toNat = 0
            · have hb : ((x.toNat : Int) == 0) = true := by simp [h0]
              have HS' : Hid (zr l4 lo (k + 1) = true) := hide (by rw [HS.out, show x = 0 from by rw [← UInt8.toNat_inj]; simpa using h0]; rfl)
              clear h0
              go_wp2_with fail
              go_round
              case rel => exact ⟨k + 1, by go_num, by omega, .inl (by omega), by rw [HS'.out]⟩
              case measure => simp [intOf]; omega
            · have hb : ((x.toNat : Int) == 0) = false := by simpa using h0
              have HS' : Hid (zr l4 lo (k + 1) = false) := hide (by rw [HS.out, Bool.true_and, beq_eq_false_iff_ne]; rintro rfl; exact h0 rfl)
              clear h0
              go_wp2_with fail
              go_round
              case rel => exact ⟨k + 1, by go_num, by omega, .inl (by omega), by rw [HS'.out]⟩
              case measure => simp [intOf]; omega
          · have hzf : zr l4 lo k = false := by simpa using hz
            rw [hzf] at HS ⊢
            clear hz hzf
            have HS' : Hid (zr l4 lo (k + 1) = false) := hide (by rw [HS.out, Bool.false_and])
            go_wp2_with fail
            go_round
            case rel => exact ⟨k + 1, by go_num, by omega, .inl (by omega), by rw [HS'.out]⟩
            case measure => simp [intOf]; omega
        · have hge : (n8 : Int) - 1 ≤ k := by omega
          have hfin : zr l4 lo k = zr l4 lo (if on = 0 then n8 else n8 - 1) := by
            have := HLO2.out
            split
            · subst_vars
              rcases hk2 with h | h
              · omega
              · rw [h]
            · congr 1
              rcases hk2 with h | h <;> omega
          obtain ⟨q, hq⟩ : ∃ q, q = zr l4 lo k := ⟨_, rfl⟩
          rw [← hq]
          have HQ : Hid ((z == l4) = q) := hide (by rw [hq, hfin, ← HD.out, Bool.eq_iff_iff]; simp)
          clear hq hfin
          go_wp2_with (first | (refine wpList_conv (by rfl) rfl HZ8.out ?_) | (refine wpList_conv (by rfl) rfl H48.out ?_))
          go_ret
          exact ⟨ret_bool (by rw [HQ.out]; simp), HW8.out⟩
    · obtain ⟨h1, h2, h3⟩ := op_bad er0
      rw [h1, h3]
      rw [h2] at hn7
      obtain rfl : n7 = 0 := hn7
      obtain ⟨er, her⟩ : ∃ er, er = opE l4 := ⟨_, rfl⟩
      rw [← her] at er0 ⊢
      have hb : (er != 0) = true := by simpa using er0
      unfold zV
      clear h1 h2 h3 her er0 o7 b7
      go_wp2_with fail
      go_ret
      exact ⟨rfl, HW7.out.alloc HW7.out.size _⟩
  · obtain ⟨⟨q1, q2, q3, q4⟩, _⟩ := may_spec hm
    obtain ⟨m, rfl⟩ := Int.eq_ofNat_of_zero_le q1
    have HMY := hide hm
    have hb4 : ((4 + (n2 : Int) + m) % 4 != 0) = false := by simp; omega
    have hm0 := hm
    rw [HN2.out] at hm0
    obtain ⟨r1, r2, r3, r4⟩ := open_close hm0
    have HLEN : Hid ((closeL x0 x1 l2 m).length = 4 + n2 + m) := hide (by rw [close_length, ← HN2.out])
    rw [← HN2.out] at r4
    have R1 := hide r1
    have R2 := hide r2
    have R3 := hide r3
    have R4 := hide r4
    clear hm q1 q3 q4 hm0 r1 r2 r3 r4
    refine (close_yes x0 x1 a2 n2 c2 l2 m _ HN2.out H21.out HMY.out).mono ?_
    rintro e w4 ⟨v5, rfl, o4, b4⟩
    obtain ⟨a5, n5, c5, rfl, hn5, -⟩ := o4.isB.len'
    rw [HLEN.out] at hn5
    subst hn5
    have HW4 := hide (HW1.out.trans (b4.mono HW1.out.size))
    have H44 := hide (H41.out.below b4)
    have H24 := hide (H21.out.below b4)
    have HZ4 := hide o4.isB
    clear b4 o4
    go_wp2_with fail
    refine (open_any _ _ _ HZ4.out).mono ?_
    rintro e w5 ⟨v6, rfl, o5, b5⟩
    rw [R3.out] at o5
    rw [R1.out, R2.out, R4.out]
    have z5 := b5.size
    have HWX := hide ((HW4.out.trans (b5.mono HW4.out.size)).alloc (HW4.out.trans (b5.mono HW4.out.size)).size (.cells #[.bool (decide (0 < m)), .int .i64 x1, .int .i64 x0, .int .i64 (4 + n2 + m)] 23))
    have H4X := hide ((H44.out.below b5).below ((Below.refl _ _).alloc (Nat.le_refl _) (.cells #[.bool (decide (0 < m)), .int .i64 x1, .int .i64 x0, .int .i64 (4 + n2 + m)] 23)))
    have H2X := hide ((H24.out.below b5).below ((Below.refl _ _).alloc (Nat.le_refl _) (.cells #[.bool (decide (0 < m)), .int .i64 x1, .int .i64 x0, .int .i64 (4 + n2 + m)] 23)))
    have HOX := hide (o5.isB.below ((Below.refl _ _).alloc (Nat.le_refl _) (.cells #[.bool (decide (0 < m)), .int .i64 x1, .int .i64 x0, .int .i64 (4 + n2 + m)] 23)))
    clear b5 o5
    go_wp2_with (first | (refine wpList_conv (by rfl) rfl HOX.out ?_) | (refine wpList_conv (by rfl) rfl H2X.out ?_))
    refine (open_any _ _ _ H4X.out).mono ?_
    rintro e w7 ⟨v7, rfl, o7, b7⟩
    obtain ⟨a7, n7, c7, rfl, hn7, -⟩ := o7.isB.len'
    have z7 := b7.size
    have HW7 := hide (HWX.out.trans (b7.mono HWX.out.size))
    by_cases er0 : opE l4 = 0
    · obtain ⟨hmay, hclen, hnle, hl44, hdec⟩ := close_open er0
      obtain ⟨p, hp⟩ : ∃ p, p = rdP l4 := ⟨_, rfl⟩
      obtain ⟨c, hc⟩ : ∃ c, c = rdN l4 := ⟨_, rfl⟩
      obtain ⟨t, ht⟩ : ∃ t, t = rdT l4 := ⟨_, rfl⟩
      obtain ⟨s, hs⟩ : ∃ s, s = rdS l4 := ⟨_, rfl⟩
      have hV : opV l4 = .agg #[.bool p, .int .i64 c, .int .i64 t, .int .i64 s] := by rw [opV, if_pos er0, rdV, hp, hc, ht, hs]
      rw [hV, er0]
      rw [← hc, ← ht, ← hn7] at hmay
      rw [← hc, ← ht] at hclen hdec
      obtain ⟨on, hon⟩ : ∃ on, on = opN l4 := ⟨_, rfl⟩
      rw [← hon] at hmay hclen hnle hdec ⊢
      obtain ⟨z, hz⟩ : ∃ z, z = closeL t c (opB l4) on := ⟨_, rfl⟩
      rw [← hz] at hclen hdec
      have HMAY := hide hmay
      have HZ := hide hz.symm
      have HN7 := hide hn7
      have H47 := hide ((H4X.out.below b7).below ((Below.refl _ _).alloc (Nat.le_refl _) (.cells #[.bool p, .int .i64 c, .int .i64 t, .int .i64 s] 23)))
      have HB7 := hide (o7.isB.below ((Below.refl _ _).alloc (Nat.le_refl _) (.cells #[.bool p, .int .i64 c, .int .i64 t, .int .i64 s] 23)))
      have HWB := hide (HW7.out.alloc HW7.out.size (.cells #[.bool p, .int .i64 c, .int .i64 t, .int .i64 s] 23))
      rw [← HN4.out] at hclen hnle hl44 hdec
      have k1 : (on : Int) ≤ n4 := by omega
      have k2 : (0 : Int) ≤ on := by omega
      obtain ⟨lo, hlo⟩ : ∃ lo, n4 = lo + on := ⟨n4 - on, by omega⟩
      have HLO : Hid ((n4 : Int) - on = (lo : Int)) := hide (by omega)
      have hlo2 : n4 - on = lo := by omega
      rw [hlo2] at hdec
      have HD := hide hdec
      have HL44 := hide hl44
      have HCL := hide hclen
      have HLO2 := hide hlo
      clear hp hc ht hs hV hmay hn7 hnle hdec hz hclen hlo hlo2 er0 hon o7 b7
      go_wp2_with fail
      refine (close_yes t c a7 n7 c7 (opB l4) on _ HN7.out HB7.out HMAY.out).mono ?_
      rintro e w8 ⟨v8, rfl, o8, b8⟩
      rw [HZ.out] at o8
      obtain ⟨a8, n8, c8, rfl, hn8, -⟩ := o8.isB.len'
      have hn8' : n8 = n4 := by rw [hn8, HCL.out]
      subst hn8'
      have HW8 := hide (HWB.out.trans (b8.mono HWB.out.size))
      have H48 := hide (H47.out.below b8)
      have HZ8 := hide o8.isB
      clear hn8 b8 o8
      go_wp2_with fail
      rw [HLO.out]
      go_loop [23, 24] (fun q i => ∃ k : Nat, i = .int .i64 k ∧ lo ≤ k ∧ (k + 1 ≤ n8 ∨ k = lo) ∧ q = .bool (zr l4 lo k)) (fun _ i => n8 - (intOf i).toNat)
      case atStart => exact ⟨lo, rfl, Nat.le_refl _, .inr rfl, by rw [zr_self]⟩
      case round =>
        obtain ⟨k, rfl, hk1, hk2, rfl⟩ := hrel
        by_cases hlt : k + 1 < n8
        · have hlt' : (k : Int) < (n8 : Int) - 1 := by omega
          obtain ⟨x, hx⟩ : ∃ x, l4[k]? = some x := ⟨l4[k]'(by rw [← HN4.out]; omega), by simp⟩
          obtain ⟨b, off, rfl, hbw, hcl⟩ := H48.out.cellAt hx
          have HS := hide (zr_succ hx hk1)
          have q0 := x.toNat_lt
          clear hx
          have hkn : k < n8 := by omega
          have hkn2 : (k : Int) < n8 := by omega
          by_cases hz : zr l4 lo k = true
          · rw [hz] at HS ⊢
            clear hz
            by_cases h0 : x.toNat = 0
            · have hb : ((x.toNat : Int) == 0) = true := by simp [h0]
              have HS' : Hid (zr l4 lo (k + 1) = true) := hide (by rw [HS.out, show x = 0 from by rw [← UInt8.toNat_inj]; simpa using h0]; rfl)
              clear h0
              go_wp2_with fail
              go_round
              case rel => exact ⟨k + 1, by go_num, by omega, .inl (by omega), by rw [HS'.out]⟩
              case measure => simp [intOf]; omega
            · have hb : ((x.toNat : Int) == 0) = false := by simpa using h0
              have HS' : Hid (zr l4 lo (k + 1) = false) := hide (by rw [HS.out, Bool.true_and, beq_eq_false_iff_ne]; rintro rfl; exact h0 rfl)
              clear h0
              go_wp2_with fail
              go_round
              case rel => exact ⟨k + 1, by go_num, by omega, .inl (by omega), by rw [HS'.out]⟩
              case measure => simp [intOf]; omega
          · have hzf : zr l4 lo k = false := by simpa using hz
            rw [hzf] at HS ⊢
            clear hz hzf
            have HS' : Hid (zr l4 lo (k + 1) = false) := hide (by rw [HS.out, Bool.false_and])
            go_wp2_with fail
            go_round
            case rel => exact ⟨k + 1, by go_num, by omega, .inl (by omega), by rw [HS'.out]⟩
            case measure => simp [intOf]; omega
        · have hge : (n8 : Int) - 1 ≤ k := by omega
          have hfin : zr l4 lo k = zr l4 lo (if on = 0 then n8 else n8 - 1) := by
            have := HLO2.out
            split
            · subst_vars
              rcases hk2 with h | h
              · omega
              · rw [h]
            · congr 1
              rcases hk2 with h | h <;> omega
          obtain ⟨q, hq⟩ : ∃ q, q = zr l4 lo k := ⟨_, rfl⟩
          rw [← hq]
          have HQ : Hid ((z == l4) = q) := hide (by rw [hq, hfin, ← HD.out, Bool.eq_iff_iff]; simp)
          clear hq hfin
          go_wp2_with (first | (refine wpList_conv (by rfl) rfl HZ8.out ?_) | (refine wpList_conv (by rfl) rfl H48.out ?_))
          go_ret
          exact ⟨ret_bool (by rw [HQ.out]; simp), HW8.out⟩
    · obtain ⟨h1, h2, h3⟩ := op_bad er0
      rw [h1, h3]
      rw [h2] at hn7
      obtain rfl : n7 = 0 := hn7
      obtain ⟨er, her⟩ : ∃ er, er = opE l4 := ⟨_, rfl⟩
      rw [← her] at er0 ⊢
      have hb : (er != 0) = true := by simpa using er0
      unfold zV
      clear h1 h2 h3 her er0 o7 b7
      go_wp2_with fail
      go_ret
      exact ⟨rfl, HW7.out.alloc HW7.out.size _⟩

set_option maxRecDepth 100000 in
theorem trainBack_any (x0 x1 : Int) (v2 : Value) (l2 : List UInt8) (x3 : Int) (v4 : Value) (l4 : List UInt8) (w : World) (h2 : IsB w v2 l2) (h4 : IsB w v4 l4) :
    Calls Try.prog 9 #[.int .i64 x0, .int .i64 x1, v2, .int .i64 x3, v4] w fun e w' => e = .returned (.bool true) ∧ Below w.heap.size w w' := by
  obtain ⟨a2, n2, c2, rfl, hn2, q0, q0'⟩ := h2.len'
  obtain ⟨a4, n4, c4, rfl, hn4, q3, q3'⟩ := h4.len'
  by_cases big : n2 ≤ 3000 ∧ n4 ≤ 3000
  · exact trainBack_ok a2 a4 n2 c2 n4 c4 l2 l4 x0 x1 x3 w hn2 hn4 big.1 big.2 h2 h4
  · have m0 : (n2 : Int) ≤ 9223372036854775807 := by have : n2 ≤ maxLen := by omega
                                                     unfold maxLen at this; omega
    have m3 : (n4 : Int) ≤ 9223372036854775807 := by have : n4 ≤ maxLen := by omega
                                                     unfold maxLen at this; omega
    by_cases g0 : (3000 : Int) < n2
    · clear hn2 hn4 q0 q0' q3 q3' big h2 h4
      go_enter Try.func9, Try.ntmps9
      go_wp2_with fail
      refine (awake11 _).mono ?_
      rintro e w1 ⟨rfl, b1⟩
      go_wp2_with fail
      go_ret
      exact ⟨rfl, b1⟩
    · have g1 : (n2 : Int) ≤ 3000 := by omega
      have g3 : (3000 : Int) < n4 := by omega
      clear hn2 hn4 q0 q0' q3 q3' big h2 h4
      go_enter Try.func9, Try.ntmps9
      go_wp2_with fail
      refine (awake11 _).mono ?_
      rintro e w1 ⟨rfl, b1⟩
      go_wp2_with fail
      go_ret
      exact ⟨rfl, b1⟩

end Go.Proofs.Ytellclclpmofcaa
