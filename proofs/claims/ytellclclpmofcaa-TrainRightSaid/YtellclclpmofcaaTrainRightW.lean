/-
  The walk of crossbarlaw11.TrainRight; conditions: the arguments read as data.
-/
import Derived.Test.YtellclclpmofcaaTAwake
namespace Go.Proofs.Ytellclclpmofcaa
open Go.RowKit

theorem opV_agg (l : List UInt8) : ∃ p c t s, opV l = .agg #[.bool p, .int .i64 c, .int .i64 t, .int .i64 s] := by
  unfold opV
  split
  · exact ⟨_, _, _, _, rfl⟩
  · exact ⟨_, _, _, _, rfl⟩

set_option maxRecDepth 100000 in
set_option maxHeartbeats 4000000 in
theorem trainRight_ok (a0 a3 : Option Addr) (n0 c0 n3 c3 : Nat) (l0 l3 : List UInt8) (x1 x2 x4 : Int) (w : World) (hn0 : n0 = l0.length) (hn3 : n3 = l3.length) (hl0 : n0 ≤ 70000) (hl3 : n3 ≤ 70000) (h0 : IsB w (.slice a0 n0 c0) l0) (h3 : IsB w (.slice a3 n3 c3) l3) :
    Calls Try.prog 8 #[.slice a0 n0 c0, .int .i64 x1, .int .i64 x2, .slice a3 n3 c3, .int .i64 x4] w fun e w' => e = .returned (.bool true) ∧ Below w.heap.size w w' := by
  have g0 : (n0 : Int) ≤ 70000 := by omega
  have g3 : (n3 : Int) ≤ 70000 := by omega
  have HL0 : Hid (l0.length ≤ 1000000) := hide (by omega)
  have HN3 := hide hn3
  have H0 := hide h0
  have H3 := hide h3
  have hl3' : n3 ≤ 1000000 := by omega
  obtain ⟨p, c, t, s, hv⟩ := opV_agg l0
  have HV := hide hv
  obtain ⟨er, her⟩ : ∃ er, er = opE l0 := ⟨_, rfl⟩
  obtain ⟨on, hon⟩ : ∃ on, on = opN l0 := ⟨_, rfl⟩
  have HER := hide her
  have HON := hide hon
  clear hn0 hn3 hl0 hl3 h0 h3 hv her hon
  go_enter Try.func8, Try.ntmps8
  go_wp2_with fail
  refine (awake11 _).mono ?_
  rintro e w1 ⟨rfl, b1⟩
  have z1 := b1.size
  have H01 := hide (H0.out.below b1)
  have H31 := hide (H3.out.below b1)
  have HW1 := hide b1
  clear b1
  go_wp2_with fail
  refine (open_any _ _ _ H01.out).mono ?_
  rintro e w2 ⟨v2, rfl, o2, b2⟩
  rw [HV.out, ← HER.out, ← HON.out]
  obtain ⟨a2, n2, c2, rfl, -⟩ := o2.isB.len'
  have z2 := b2.size
  have HW2 := hide (HW1.out.trans (b2.mono HW1.out.size))
  have H02 := hide ((H01.out.below b2).below ((Below.refl _ _).alloc (Nat.le_refl _) (.cells #[.bool p, .int .i64 c, .int .i64 t, .int .i64 s] 23)))
  have H32 := hide ((H31.out.below b2).below ((Below.refl _ _).alloc (Nat.le_refl _) (.cells #[.bool p, .int .i64 c, .int .i64 t, .int .i64 s] 23)))
  have HZ2 := hide ((o2.isB).below ((Below.refl _ _).alloc (Nat.le_refl _) (.cells #[.bool p, .int .i64 c, .int .i64 t, .int .i64 s] 23)))
  have HWA := hide (HW2.out.alloc HW2.out.size (.cells #[.bool p, .int .i64 c, .int .i64 t, .int .i64 s] 23))
  clear b2 o2
  go_wp2_with fail
  refine (ropen_any _ _ _ H02.out).mono ?_
  rintro e w3 ⟨p', c', t', s', v3, hv3, rfl, o3, b3⟩
  rw [← HER.out, ← HON.out]
  rw [HV.out] at hv3
  obtain ⟨rfl, rfl, rfl, rfl⟩ : p = p' ∧ c = c' ∧ t = t' ∧ s = s' := by simpa using hv3
  obtain ⟨a4, n4, c4, rfl, -⟩ := o3.isB.len'
  have z3 := b3.size
  simp only [World.size_alloc] at z3
  obtain ⟨hc3, hf3⟩ := bcell b3
  have lt3 : w2.heap.size < w3.heap.size := by omega
  have HW3 := hide ((HWA.out.trans (b3.mono HWA.out.size)).alloc (by have := HW2.out.size; omega) (.cells #[.bool p, .int .i64 c, .int .i64 t, .int .i64 s, .slice a4 n4 c4, .int .i64 on] 51))
  have H03 := hide ((H02.out.below b3).below ((Below.refl _ _).alloc (Nat.le_refl _) (.cells #[.bool p, .int .i64 c, .int .i64 t, .int .i64 s, .slice a4 n4 c4, .int .i64 on] 51)))
  have H33 := hide ((H32.out.below b3).below ((Below.refl _ _).alloc (Nat.le_refl _) (.cells #[.bool p, .int .i64 c, .int .i64 t, .int .i64 s, .slice a4 n4 c4, .int .i64 on] 51)))
  have HZ3 := hide ((HZ2.out.below b3).below ((Below.refl _ _).alloc (Nat.le_refl _) (.cells #[.bool p, .int .i64 c, .int .i64 t, .int .i64 s, .slice a4 n4 c4, .int .i64 on] 51)))
  have HY3 := hide ((o3.isB).below ((Below.refl _ _).alloc (Nat.le_refl _) (.cells #[.bool p, .int .i64 c, .int .i64 t, .int .i64 s, .slice a4 n4 c4, .int .i64 on] 51)))
  clear b3 o3 hv3
  cases hm : mayB x1 x2 n3 x4
  · have HMN := hide hm
    clear hm
    go_wp2_with (first | (refine wpList_conv (by rfl) rfl HZ3.out ?_) | (refine wpList_conv (by rfl) rfl HY3.out ?_))
    refine (close_no x1 x2 a3 n3 c3 x4 _ hl3' HMN.out).mono ?_
    rintro e w4 ⟨rfl, b4⟩
    have HW4 := hide (HW3.out.trans (b4.mono HW3.out.size))
    have H04 := hide (H03.out.below b4)
    clear b4
    go_wp2_with fail
    refine (may_any x1 x2 a3 n3 c3 x4 _ hl3').mono ?_
    rintro e w5 ⟨rfl, b5⟩
    rw [HMN.out]
    have HWX := hide (HW4.out.trans (b5.mono HW4.out.size))
    have H0X := hide (H04.out.below b5)
    clear b5
    go_wp2_with fail
    refine (split_any _ _ _ H0X.out HL0.out).mono ?_
    rintro e w8 ⟨v8, rfl, i8, b8⟩
    have z8 := b8.size
    have HW8 := hide (HWX.out.trans (b8.mono HWX.out.size))
    have H08 := hide (H0X.out.below b8)
    have HI8 := hide i8
    clear i8 b8
    go_wp2_with fail
    refine (rsplit_any _ _ _ H08.out HL0.out).mono ?_
    rintro e w9 ⟨v9, rfl, i9, b9⟩
    have z9 := b9.size
    have HW9 := hide (HW8.out.trans (b9.mono HW8.out.size))
    have HI9 := hide i9
    have HI8' := hide (HI8.out.below b9)
    clear i9 b9
    go_wp2_with fail
    refine (lists_any _ _ _ _ _ HI8'.out HI9.out).mono ?_
    rintro e w10 ⟨rfl, b10⟩
    rw [show decide (spL l0 = spL l0) = true by simp]
    have HW10 := hide (HW9.out.trans (b10.mono HW9.out.size))
    clear b10
    go_wp2_with fail
    go_ret
    exact ⟨rfl, HW10.out⟩
  · obtain ⟨⟨g4, _⟩, _⟩ := may_spec hm
    obtain ⟨m, rfl⟩ := Int.eq_ofNat_of_zero_le g4
    have HMY := hide hm
    clear hm g4
    go_wp2_with (first | (refine wpList_conv (by rfl) rfl HZ3.out ?_) | (refine wpList_conv (by rfl) rfl HY3.out ?_))
    refine (close_yes x1 x2 a3 n3 c3 l3 m _ HN3.out H33.out HMY.out).mono ?_
    rintro e w4 ⟨v5, rfl, o4, b4⟩
    obtain ⟨a5, n5, c5, rfl, -⟩ := o4.isB.len'
    have HW4 := hide (HW3.out.trans (b4.mono HW3.out.size))
    have H04 := hide (H03.out.below b4)
    have H34 := hide (H33.out.below b4)
    have HZ4 := hide o4.isB
    clear b4 o4
    go_wp2_with fail
    refine (may_any x1 x2 a3 n3 c3 m _ hl3').mono ?_
    rintro e w5 ⟨rfl, b5⟩
    rw [HMY.out]
    have HW6 := hide (HW4.out.trans (b5.mono HW4.out.size))
    have H06 := hide (H04.out.below b5)
    have H36 := hide (H34.out.below b5)
    have HZ6 := hide (HZ4.out.below b5)
    clear b5
    go_wp2_with fail
    refine wp_region_mono 13 116 (.val _ :: .val _ :: .val _ :: .val _ :: .val _ :: .val _ :: .val _ :: .val _ :: .val _ :: .pred (PB (closeL x1 x2 l3 m)) :: .val _ :: .val _ :: .val _ :: []) (by kernel_rfl) (by kernel_rfl) rfl ⟨PB.stable _, trivial⟩ rfl ⟨
      fun a u hB hO hJ => .inl ⟨rfl, fun K Q hK => by
        have e14 : a.tmps[14]?.getD undef = .int .i64 0 := hO 14 rfl
        clear hO hJ
        exact wp_move_of e14 fun h => hK _ _ (Below.refl _ _) h⟩,
      fun a u hB hO hJ => .inl ⟨rfl, fun K Q hK => by
        have e78 : a.tmps[78]?.getD undef = _ := hJ 0 rfl
        clear hO hJ
        go_simp
        try go_bits
        exact hK _ _ (Below.refl _ _) rfl⟩,
      fun a u hB hO hJ => .inl ⟨rfl, fun K Q hK => by
        have e79 : a.tmps[79]?.getD undef = _ := hJ 1 rfl
        clear hO hJ
        exact wp_move_of e79 fun h => hK _ _ (Below.refl _ _) h⟩,
      fun a u hB hO hJ => .inl ⟨(wanted_of rfl (hJ 2 rfl)), fun K Q hK => by
        have e17 : a.tmps[17]?.getD undef = .slice a5 n5 c5 := hO 17 rfl
        clear hO hJ
        exact wp_move_of e17 fun h => hK _ _ (Below.refl _ _) h⟩,
      fun a u hB hO hJ => .inl ⟨(wanted_of rfl (hJ 2 rfl)), fun K Q hK => by
        have e81 : a.tmps[81]?.getD undef = _ := hJ 3 rfl
        clear hO hJ
        exact wp_conv_of e81 (HZ6.out.below hB) (hK _ _ (Below.refl _ _) rfl)⟩,
      fun a u hB hO hJ => .inl ⟨(wanted_of rfl (hJ 2 rfl)), fun K Q hK => by
        have e1 : a.tmps[1]?.getD undef = .int .i64 x1 := hO 1 rfl
        clear hO hJ
        exact wp_move_of e1 fun h => hK _ _ (Below.refl _ _) h⟩,
      fun a u hB hO hJ => .inl ⟨(wanted_of rfl (hJ 2 rfl)), fun K Q hK => by
        have e2 : a.tmps[2]?.getD undef = .int .i64 x2 := hO 2 rfl
        clear hO hJ
        exact wp_move_of e2 fun h => hK _ _ (Below.refl _ _) h⟩,
      fun a u hB hO hJ => .inl ⟨(wanted_of rfl (hJ 2 rfl)), fun K Q hK => by
        have e3 : a.tmps[3]?.getD undef = .slice a3 n3 c3 := hO 3 rfl
        clear hO hJ
        exact wp_move_of e3 fun h => hK _ _ (Below.refl _ _) h⟩,
      fun a u hB hO hJ => .inl ⟨(wanted_of rfl (hJ 2 rfl)), fun K Q hK => by
        have e4 : a.tmps[4]?.getD undef = .int .i64 m := hO 4 rfl
        clear hO hJ
        exact wp_move_of e4 fun h => hK _ _ (Below.refl _ _) h⟩,
      fun a u hB hO hJ => .inl ⟨(wanted_of rfl (hJ 2 rfl)), fun K Q hK => by
        have e83 : a.tmps[83]?.getD undef = _ := hJ 5 rfl
        have e84 : a.tmps[84]?.getD undef = _ := hJ 6 rfl
        have e85 : a.tmps[85]?.getD undef = _ := hJ 7 rfl
        have e86 : a.tmps[86]?.getD undef = _ := hJ 8 rfl
        clear hO hJ
        go_simp
        refine (rclose_yes x1 x2 a3 n3 c3 l3 m _ HN3.out (H36.out.below hB) HMY.out).mono ?_
        rintro e w7 ⟨v7, rfl, o7, b7⟩
        exact hK _ _ b7 o7.isB⟩,
      fun a u hB hO hJ => .inl ⟨(wanted_of rfl (hJ 2 rfl)), fun K Q hK => by
        have e87 : (PB (closeL x1 x2 l3 m)) (a.tmps[87]?.getD undef) u := hJ 9 rfl
        clear hO hJ
        exact wp_conv_of rfl e87 (hK _ _ (Below.refl _ _) rfl)⟩,
      fun a u hB hO hJ => .inl ⟨(wanted_of rfl (hJ 2 rfl)), fun K Q hK => by
        have e82 : a.tmps[82]?.getD undef = _ := hJ 4 rfl
        have e88 : a.tmps[88]?.getD undef = _ := hJ 10 rfl
        clear hO hJ
        go_simp
        try go_bits
        exact hK _ _ (Below.refl _ _) rfl⟩,
      fun a u hB hO hJ => .inl ⟨rfl, fun K Q hK => by
        have e80 : a.tmps[80]?.getD undef = _ := hJ 2 rfl
        have e89 : a.tmps[89]?.getD undef = _ := hJ 11 rfl
        clear hO hJ
        go_simp
        try go_bits
        exact hK _ _ (Below.refl _ _) rfl⟩,
      trivial⟩ ?fin11
    case fin11 =>
    intro u hB
    simp only [Act.put, List.setIfInBounds_toArray, List.set_cons_zero, List.set_cons_succ, List.drop_succ_cons, List.drop_nil, List.take_succ_cons, List.take_nil, Laid]
    rintro v9 -
    have HWX := hide (HW6.out.trans (hB.mono HW6.out.size))
    have H0X := hide (H06.out.below hB)
    clear hB
    go_wp2_with fail
    refine (split_any _ _ _ H0X.out HL0.out).mono ?_
    rintro e w8 ⟨v8, rfl, i8, b8⟩
    have z8 := b8.size
    have HW8 := hide (HWX.out.trans (b8.mono HWX.out.size))
    have H08 := hide (H0X.out.below b8)
    have HI8 := hide i8
    clear i8 b8
    go_wp2_with fail
    refine (rsplit_any _ _ _ H08.out HL0.out).mono ?_
    rintro e w9 ⟨v9, rfl, i9, b9⟩
    have z9 := b9.size
    have HW9 := hide (HW8.out.trans (b9.mono HW8.out.size))
    have HI9 := hide i9
    have HI8' := hide (HI8.out.below b9)
    clear i9 b9
    go_wp2_with fail
    refine (lists_any _ _ _ _ _ HI8'.out HI9.out).mono ?_
    rintro e w10 ⟨rfl, b10⟩
    rw [show decide (spL l0 = spL l0) = true by simp]
    have HW10 := hide (HW9.out.trans (b10.mono HW9.out.size))
    clear b10
    go_wp2_with fail
    go_ret
    exact ⟨rfl, HW10.out⟩

theorem trainRight_any (v0 : Value) (l0 : List UInt8) (x1 x2 : Int) (v3 : Value) (l3 : List UInt8) (x4 : Int) (w : World) (h0 : IsB w v0 l0) (h3 : IsB w v3 l3) :
    Calls Try.prog 8 #[v0, .int .i64 x1, .int .i64 x2, v3, .int .i64 x4] w fun e w' => e = .returned (.bool true) ∧ Below w.heap.size w w' := by
  obtain ⟨a0, n0, c0, rfl, hn0, q0, q0'⟩ := h0.len'
  obtain ⟨a3, n3, c3, rfl, hn3, q3, q3'⟩ := h3.len'
  by_cases big : n0 ≤ 70000 ∧ n3 ≤ 70000
  · exact trainRight_ok a0 a3 n0 c0 n3 c3 l0 l3 x1 x2 x4 w hn0 hn3 big.1 big.2 h0 h3
  · have m0 : (n0 : Int) ≤ 9223372036854775807 := by have : n0 ≤ maxLen := by omega
                                                     unfold maxLen at this; omega
    have m3 : (n3 : Int) ≤ 9223372036854775807 := by have : n3 ≤ maxLen := by omega
                                                     unfold maxLen at this; omega
    by_cases g0 : (70000 : Int) < n0
    · clear hn0 hn3 q0 q0' q3 q3' big h0 h3
      go_enter Try.func8, Try.ntmps8
      go_wp2_with fail
      refine (awake11 _).mono ?_
      rintro e w1 ⟨rfl, b1⟩
      go_wp2_with fail
      go_ret
      exact ⟨rfl, b1⟩
    · have g1 : (n0 : Int) ≤ 70000 := by omega
      have g3 : (70000 : Int) < n3 := by omega
      clear hn0 hn3 q0 q0' q3 q3' big h0 h3
      go_enter Try.func8, Try.ntmps8
      go_wp2_with fail
      refine (awake11 _).mono ?_
      rintro e w1 ⟨rfl, b1⟩
      go_wp2_with fail
      go_ret
      exact ⟨rfl, b1⟩

end Go.Proofs.Ytellclclpmofcaa
