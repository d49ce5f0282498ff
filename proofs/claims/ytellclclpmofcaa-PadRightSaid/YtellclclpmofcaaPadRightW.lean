/-
  The walk of crossbarlaw03.PadRight; conditions: the arguments read as data.
-/
import Derived.Test.YtellclclpmofcaaZ
namespace Go.Proofs.Ytellclclpmofcaa
open Go.RowKit

set_option maxRecDepth 100000 in
set_option maxHeartbeats 2000000 in
theorem padRight_lo (ad : Option Addr) (n cap : Nat) (l : List UInt8) (m : Int) (w : World) (hn : n = l.length) (hl : n ≤ 3000) (h : IsB w (.slice ad n cap) l) (hm : m < 1) :
    Calls Try.prog 5 #[.slice ad n cap, .int .i64 m] w fun e w' => e = .returned (.bool true) ∧ Below w.heap.size w w' := by
  have HL : Hid (l.length ≤ 1000000) := hide (by omega)
  have hl' : (n : Int) ≤ 3000 := by omega
  have HB := hide h
  clear hn hl h
  go_enter Try.func5, Try.ntmps5
  go_wp2_with fail
  refine (awake03 _).mono ?_
  rintro e u1 ⟨rfl, b1⟩
  have z1 := b1.size
  have HB5 := hide (HB.out.below b1)
  go_wp2_with fail
  refine wp_region_mono 28 98 [.val _, .val _, .val _, .val _, .val _, .val _, .val _, .pred (PB (fillL l)), .val _, .val _, .pred (PB (fillL l)), .val _, .val _, .val _, .val _, .val _, .val _, .val _, .val _, .val _, .val _, .val _, .val _, .val _, .val _, .val _, .val _, .val _] (by kernel_rfl) (by kernel_rfl) rfl ⟨PB.stable _, PB.stable _, trivial⟩ rfl ⟨
    fun a u hB hO hJ => .inl ⟨rfl, fun K Q hK => by
      have e1 : a.tmps[1]?.getD undef = .int .i64 m := hO 1 rfl
      clear hO hJ
      exact wp_move_of e1 fun h => hK _ _ (Below.refl _ _) h⟩,
    fun a u hB hO hJ => .inl ⟨rfl, fun K Q hK => by
      have e15 : a.tmps[15]?.getD undef = _ := hJ 0 rfl
      clear hO hJ
      go_simp
      refine (round_any _ _).mono ?_
      rintro e w1 ⟨rfl, b1⟩
      exact hK _ _ b1 rfl⟩,
    fun a u hB hO hJ => .inl ⟨rfl, fun K Q hK => by
      have e1 : a.tmps[1]?.getD undef = .int .i64 m := hO 1 rfl
      clear hO hJ
      exact wp_move_of e1 fun h => hK _ _ (Below.refl _ _) h⟩,
    fun a u hB hO hJ => .inl ⟨rfl, fun K Q hK => by
      have e17 : a.tmps[17]?.getD undef = _ := hJ 2 rfl
      clear hO hJ
      go_simp
      refine (rround_any _ _).mono ?_
      rintro e w1 ⟨rfl, b1⟩
      exact hK _ _ b1 rfl⟩,
    fun a u hB hO hJ => .inl ⟨rfl, fun K Q hK => by
      have e16 : a.tmps[16]?.getD undef = _ := hJ 1 rfl
      have e18 : a.tmps[18]?.getD undef = _ := hJ 3 rfl
      clear hO hJ
      go_simp
      try go_bits
      exact hK _ _ (Below.refl _ _) rfl⟩,
    fun a u hB hO hJ => .inl ⟨rfl, fun K Q hK => by
      have e19 : a.tmps[19]?.getD undef = _ := hJ 4 rfl
      clear hO hJ
      exact wp_move_of e19 fun h => hK _ _ (Below.refl _ _) h⟩,
    fun a u hB hO hJ => .inl ⟨(wanted_of rfl (hJ 5 rfl)), fun K Q hK => by
      have e0 : a.tmps[0]?.getD undef = .slice ad n cap := hO 0 rfl
      clear hO hJ
      exact wp_move_of e0 fun h => hK _ _ (Below.refl _ _) h⟩,
    fun a u hB hO hJ => .inl ⟨(wanted_of rfl (hJ 5 rfl)), fun K Q hK => by
      have e21 : a.tmps[21]?.getD undef = _ := hJ 6 rfl
      clear hO hJ
      go_simp
      refine (fill_any _ _ _ (HB5.out.below hB) HL.out).mono ?_
      rintro e w1 ⟨v2, rfl, hown, b1⟩
      exact hK _ _ b1 hown.isB⟩,
    fun a u hB hO hJ => .inl ⟨(wanted_of rfl (hJ 5 rfl)), fun K Q hK => by
      have e22 : (PB (fillL l)) (a.tmps[22]?.getD undef) u := hJ 7 rfl
      clear hO hJ
      exact wp_conv_of rfl e22 (hK _ _ (Below.refl _ _) rfl)⟩,
    fun a u hB hO hJ => .inl ⟨(wanted_of rfl (hJ 5 rfl)), fun K Q hK => by
      have e0 : a.tmps[0]?.getD undef = .slice ad n cap := hO 0 rfl
      clear hO hJ
      exact wp_move_of e0 fun h => hK _ _ (Below.refl _ _) h⟩,
    fun a u hB hO hJ => .inl ⟨(wanted_of rfl (hJ 5 rfl)), fun K Q hK => by
      have e24 : a.tmps[24]?.getD undef = _ := hJ 9 rfl
      clear hO hJ
      go_simp
      refine (rfill_any _ _ _ (HB5.out.below hB) HL.out).mono ?_
      rintro e w1 ⟨v2, rfl, hown, b1⟩
      exact hK _ _ b1 hown.isB⟩,
    fun a u hB hO hJ => .inl ⟨(wanted_of rfl (hJ 5 rfl)), fun K Q hK => by
      have e25 : (PB (fillL l)) (a.tmps[25]?.getD undef) u := hJ 10 rfl
      clear hO hJ
      exact wp_conv_of rfl e25 (hK _ _ (Below.refl _ _) rfl)⟩,
    fun a u hB hO hJ => .inl ⟨(wanted_of rfl (hJ 5 rfl)), fun K Q hK => by
      have e23 : a.tmps[23]?.getD undef = _ := hJ 8 rfl
      have e26 : a.tmps[26]?.getD undef = _ := hJ 11 rfl
      clear hO hJ
      go_simp
      try go_bits
      exact hK _ _ (Below.refl _ _) rfl⟩,
    fun a u hB hO hJ => .inl ⟨rfl, fun K Q hK => by
      have e20 : a.tmps[20]?.getD undef = _ := hJ 5 rfl
      have e27 : a.tmps[27]?.getD undef = _ := hJ 12 rfl
      clear hO hJ
      go_simp
      try go_bits
      exact hK _ _ (Below.refl _ _) rfl⟩,
    fun a u hB hO hJ => .inl ⟨rfl, fun K Q hK => by
      have e28 : a.tmps[28]?.getD undef = _ := hJ 13 rfl
      clear hO hJ
      exact wp_move_of e28 fun h => hK _ _ (Below.refl _ _) h⟩,
    fun a u hB hO hJ => .inl ⟨(wanted_of rfl (hJ 14 rfl)), fun K Q hK => by
      have e0 : a.tmps[0]?.getD undef = .slice ad n cap := hO 0 rfl
      clear hO hJ
      exact wp_move_of e0 fun h => hK _ _ (Below.refl _ _) h⟩,
    fun a u hB hO hJ => .inl ⟨(wanted_of rfl (hJ 14 rfl)), fun K Q hK => by
      have e30 : a.tmps[30]?.getD undef = _ := hJ 15 rfl
      clear hO hJ
      go_simp
      refine (zero_any _ _ _ (HB5.out.below hB)).mono ?_
      rintro e w1 ⟨rfl, b1⟩
      exact hK _ _ b1 rfl⟩,
    fun a u hB hO hJ => .inl ⟨(wanted_of rfl (hJ 14 rfl)), fun K Q hK => by
      have e0 : a.tmps[0]?.getD undef = .slice ad n cap := hO 0 rfl
      clear hO hJ
      exact wp_move_of e0 fun h => hK _ _ (Below.refl _ _) h⟩,
    fun a u hB hO hJ => .inl ⟨(wanted_of rfl (hJ 14 rfl)), fun K Q hK => by
      have e32 : a.tmps[32]?.getD undef = _ := hJ 17 rfl
      clear hO hJ
      go_simp
      refine (rzero_any _ _ _ (HB5.out.below hB)).mono ?_
      rintro e w1 ⟨rfl, b1⟩
      exact hK _ _ b1 rfl⟩,
    fun a u hB hO hJ => .inl ⟨(wanted_of rfl (hJ 14 rfl)), fun K Q hK => by
      have e31 : a.tmps[31]?.getD undef = _ := hJ 16 rfl
      have e33 : a.tmps[33]?.getD undef = _ := hJ 18 rfl
      clear hO hJ
      go_simp
      try go_bits
      exact hK _ _ (Below.refl _ _) rfl⟩,
    fun a u hB hO hJ => .inl ⟨rfl, fun K Q hK => by
      have e29 : a.tmps[29]?.getD undef = _ := hJ 14 rfl
      have e34 : a.tmps[34]?.getD undef = _ := hJ 19 rfl
      clear hO hJ
      go_simp
      try go_bits
      exact hK _ _ (Below.refl _ _) rfl⟩,
    fun a u hB hO hJ => .inl ⟨rfl, fun K Q hK => by
      have e35 : a.tmps[35]?.getD undef = _ := hJ 20 rfl
      clear hO hJ
      exact wp_move_of e35 fun h => hK _ _ (Below.refl _ _) h⟩,
    fun a u hB hO hJ => .inl ⟨(wanted_of rfl (hJ 21 rfl)), fun K Q hK => by
      have e0 : a.tmps[0]?.getD undef = .slice ad n cap := hO 0 rfl
      clear hO hJ
      exact wp_move_of e0 fun h => hK _ _ (Below.refl _ _) h⟩,
    fun a u hB hO hJ => .inl ⟨(wanted_of rfl (hJ 21 rfl)), fun K Q hK => by
      have e37 : a.tmps[37]?.getD undef = _ := hJ 22 rfl
      clear hO hJ
      go_simp
      refine (clean_any _ _ _ (HB5.out.below hB)).mono ?_
      rintro e w1 ⟨rfl, b1⟩
      exact hK _ _ b1 rfl⟩,
    fun a u hB hO hJ => .inl ⟨(wanted_of rfl (hJ 21 rfl)), fun K Q hK => by
      have e0 : a.tmps[0]?.getD undef = .slice ad n cap := hO 0 rfl
      clear hO hJ
      exact wp_move_of e0 fun h => hK _ _ (Below.refl _ _) h⟩,
    fun a u hB hO hJ => .inl ⟨(wanted_of rfl (hJ 21 rfl)), fun K Q hK => by
      have e39 : a.tmps[39]?.getD undef = _ := hJ 24 rfl
      clear hO hJ
      go_simp
      refine (rclean_any _ _ _ (HB5.out.below hB)).mono ?_
      rintro e w1 ⟨rfl, b1⟩
      exact hK _ _ b1 rfl⟩,
    fun a u hB hO hJ => .inl ⟨(wanted_of rfl (hJ 21 rfl)), fun K Q hK => by
      have e38 : a.tmps[38]?.getD undef = _ := hJ 23 rfl
      have e40 : a.tmps[40]?.getD undef = _ := hJ 25 rfl
      clear hO hJ
      go_simp
      try go_bits
      exact hK _ _ (Below.refl _ _) rfl⟩,
    fun a u hB hO hJ => .inl ⟨rfl, fun K Q hK => by
      have e36 : a.tmps[36]?.getD undef = _ := hJ 21 rfl
      have e41 : a.tmps[41]?.getD undef = _ := hJ 26 rfl
      clear hO hJ
      go_simp
      try go_bits
      exact hK _ _ (Below.refl _ _) rfl⟩,
    trivial⟩ ?fin5
  case fin5 =>
    intro u5 b5 _ _ _ _
    simp only [Act.put, List.setIfInBounds_toArray, List.set_cons_zero, List.set_cons_succ, List.drop_succ_cons, List.drop_nil, List.take_succ_cons, List.take_nil, Laid]
    have B5 := b1.trans (b5.mono z1)
    have z5 := B5.size
    clear b5 b1
    go_wp2_with fail
    refine (trail_any _ _ _ (HB.out.below B5)).mono ?_
    rintro e u6 ⟨rfl, b6⟩
    have B6 := B5.trans (b6.mono z5)
    have z6 := B6.size
    clear b6 B5
    go_wp2_with fail
    refine (rtrail_any _ _ _ (HB.out.below B6)).mono ?_
    rintro e u7 ⟨rfl, b7⟩
    have B7 := B6.trans (b7.mono z6)
    have z7 := B7.size
    clear b7 B6
    obtain ⟨t, ht⟩ : ∃ t, trailN l = t := ⟨_, rfl⟩
    by_cases h0 : t = 0
    · have he : trailE l = 5 := by simp [trailE, ht, h0]
      subst h0
      rw [he, ht]
      clear he ht
      go_wp2_with fail
      refine (add_no _ _ _ (.inl hm)).mono ?_
      rintro e u8 ⟨rfl, b8⟩
      have B8 := B7.trans (b8.mono z7)
      clear b8 B7
      go_wp2_with fail
      go_ret
      exact ⟨rfl, B8⟩
    · have he : trailE l = 0 := by simp [trailE, ht, h0]
      have hp : (0 : Int) < t := by omega
      rw [he, ht]
      clear he ht h0
      go_wp2_with fail
      refine (add_no _ _ _ (.inl hm)).mono ?_
      rintro e u8 ⟨rfl, b8⟩
      have B8 := B7.trans (b8.mono z7)
      clear b8 B7
      go_wp2_with fail
      go_ret
      exact ⟨rfl, B8⟩

set_option maxRecDepth 100000 in
set_option maxHeartbeats 2000000 in
theorem padRight_hi (ad : Option Addr) (n cap : Nat) (l : List UInt8) (m : Int) (w : World) (hn : n = l.length) (hl : n ≤ 3000) (h : IsB w (.slice ad n cap) l) (hm : 255 < m) :
    Calls Try.prog 5 #[.slice ad n cap, .int .i64 m] w fun e w' => e = .returned (.bool true) ∧ Below w.heap.size w w' := by
  have HL : Hid (l.length ≤ 1000000) := hide (by omega)
  have hl' : (n : Int) ≤ 3000 := by omega
  have HB := hide h
  clear hn hl h
  have hm1 : 1 ≤ m := by omega
  go_enter Try.func5, Try.ntmps5
  go_wp2_with fail
  refine (awake03 _).mono ?_
  rintro e u1 ⟨rfl, b1⟩
  have z1 := b1.size
  have HB5 := hide (HB.out.below b1)
  go_wp2_with fail
  refine wp_region_mono 28 98 [.val _, .val _, .val _, .val _, .val _, .val _, .val _, .pred (PB (fillL l)), .val _, .val _, .pred (PB (fillL l)), .val _, .val _, .val _, .val _, .val _, .val _, .val _, .val _, .val _, .val _, .val _, .val _, .val _, .val _, .val _, .val _, .val _] (by kernel_rfl) (by kernel_rfl) rfl ⟨PB.stable _, PB.stable _, trivial⟩ rfl ⟨
    fun a u hB hO hJ => .inl ⟨rfl, fun K Q hK => by
      have e1 : a.tmps[1]?.getD undef = .int .i64 m := hO 1 rfl
      clear hO hJ
      exact wp_move_of e1 fun h => hK _ _ (Below.refl _ _) h⟩,
    fun a u hB hO hJ => .inl ⟨rfl, fun K Q hK => by
      have e15 : a.tmps[15]?.getD undef = _ := hJ 0 rfl
      clear hO hJ
      go_simp
      refine (round_any _ _).mono ?_
      rintro e w1 ⟨rfl, b1⟩
      exact hK _ _ b1 rfl⟩,
    fun a u hB hO hJ => .inl ⟨rfl, fun K Q hK => by
      have e1 : a.tmps[1]?.getD undef = .int .i64 m := hO 1 rfl
      clear hO hJ
      exact wp_move_of e1 fun h => hK _ _ (Below.refl _ _) h⟩,
    fun a u hB hO hJ => .inl ⟨rfl, fun K Q hK => by
      have e17 : a.tmps[17]?.getD undef = _ := hJ 2 rfl
      clear hO hJ
      go_simp
      refine (rround_any _ _).mono ?_
      rintro e w1 ⟨rfl, b1⟩
      exact hK _ _ b1 rfl⟩,
    fun a u hB hO hJ => .inl ⟨rfl, fun K Q hK => by
      have e16 : a.tmps[16]?.getD undef = _ := hJ 1 rfl
      have e18 : a.tmps[18]?.getD undef = _ := hJ 3 rfl
      clear hO hJ
      go_simp
      try go_bits
      exact hK _ _ (Below.refl _ _) rfl⟩,
    fun a u hB hO hJ => .inl ⟨rfl, fun K Q hK => by
      have e19 : a.tmps[19]?.getD undef = _ := hJ 4 rfl
      clear hO hJ
      exact wp_move_of e19 fun h => hK _ _ (Below.refl _ _) h⟩,
    fun a u hB hO hJ => .inl ⟨(wanted_of rfl (hJ 5 rfl)), fun K Q hK => by
      have e0 : a.tmps[0]?.getD undef = .slice ad n cap := hO 0 rfl
      clear hO hJ
      exact wp_move_of e0 fun h => hK _ _ (Below.refl _ _) h⟩,
    fun a u hB hO hJ => .inl ⟨(wanted_of rfl (hJ 5 rfl)), fun K Q hK => by
      have e21 : a.tmps[21]?.getD undef = _ := hJ 6 rfl
      clear hO hJ
      go_simp
      refine (fill_any _ _ _ (HB5.out.below hB) HL.out).mono ?_
      rintro e w1 ⟨v2, rfl, hown, b1⟩
      exact hK _ _ b1 hown.isB⟩,
    fun a u hB hO hJ => .inl ⟨(wanted_of rfl (hJ 5 rfl)), fun K Q hK => by
      have e22 : (PB (fillL l)) (a.tmps[22]?.getD undef) u := hJ 7 rfl
      clear hO hJ
      exact wp_conv_of rfl e22 (hK _ _ (Below.refl _ _) rfl)⟩,
    fun a u hB hO hJ => .inl ⟨(wanted_of rfl (hJ 5 rfl)), fun K Q hK => by
      have e0 : a.tmps[0]?.getD undef = .slice ad n cap := hO 0 rfl
      clear hO hJ
      exact wp_move_of e0 fun h => hK _ _ (Below.refl _ _) h⟩,
    fun a u hB hO hJ => .inl ⟨(wanted_of rfl (hJ 5 rfl)), fun K Q hK => by
      have e24 : a.tmps[24]?.getD undef = _ := hJ 9 rfl
      clear hO hJ
      go_simp
      refine (rfill_any _ _ _ (HB5.out.below hB) HL.out).mono ?_
      rintro e w1 ⟨v2, rfl, hown, b1⟩
      exact hK _ _ b1 hown.isB⟩,
    fun a u hB hO hJ => .inl ⟨(wanted_of rfl (hJ 5 rfl)), fun K Q hK => by
      have e25 : (PB (fillL l)) (a.tmps[25]?.getD undef) u := hJ 10 rfl
      clear hO hJ
      exact wp_conv_of rfl e25 (hK _ _ (Below.refl _ _) rfl)⟩,
    fun a u hB hO hJ => .inl ⟨(wanted_of rfl (hJ 5 rfl)), fun K Q hK => by
      have e23 : a.tmps[23]?.getD undef = _ := hJ 8 rfl
      have e26 : a.tmps[26]?.getD undef = _ := hJ 11 rfl
      clear hO hJ
      go_simp
      try go_bits
      exact hK _ _ (Below.refl _ _) rfl⟩,
    fun a u hB hO hJ => .inl ⟨rfl, fun K Q hK => by
      have e20 : a.tmps[20]?.getD undef = _ := hJ 5 rfl
      have e27 : a.tmps[27]?.getD undef = _ := hJ 12 rfl
      clear hO hJ
      go_simp
      try go_bits
      exact hK _ _ (Below.refl _ _) rfl⟩,
    fun a u hB hO hJ => .inl ⟨rfl, fun K Q hK => by
      have e28 : a.tmps[28]?.getD undef = _ := hJ 13 rfl
      clear hO hJ
      exact wp_move_of e28 fun h => hK _ _ (Below.refl _ _) h⟩,
    fun a u hB hO hJ => .inl ⟨(wanted_of rfl (hJ 14 rfl)), fun K Q hK => by
      have e0 : a.tmps[0]?.getD undef = .slice ad n cap := hO 0 rfl
      clear hO hJ
      exact wp_move_of e0 fun h => hK _ _ (Below.refl _ _) h⟩,
    fun a u hB hO hJ => .inl ⟨(wanted_of rfl (hJ 14 rfl)), fun K Q hK => by
      have e30 : a.tmps[30]?.getD undef = _ := hJ 15 rfl
      clear hO hJ
      go_simp
      refine (zero_any _ _ _ (HB5.out.below hB)).mono ?_
      rintro e w1 ⟨rfl, b1⟩
      exact hK _ _ b1 rfl⟩,
    fun a u hB hO hJ => .inl ⟨(wanted_of rfl (hJ 14 rfl)), fun K Q hK => by
      have e0 : a.tmps[0]?.getD undef = .slice ad n cap := hO 0 rfl
      clear hO hJ
      exact wp_move_of e0 fun h => hK _ _ (Below.refl _ _) h⟩,
    fun a u hB hO hJ => .inl ⟨(wanted_of rfl (hJ 14 rfl)), fun K Q hK => by
      have e32 : a.tmps[32]?.getD undef = _ := hJ 17 rfl
      clear hO hJ
      go_simp
      refine (rzero_any _ _ _ (HB5.out.below hB)).mono ?_
      rintro e w1 ⟨rfl, b1⟩
      exact hK _ _ b1 rfl⟩,
    fun a u hB hO hJ => .inl ⟨(wanted_of rfl (hJ 14 rfl)), fun K Q hK => by
      have e31 : a.tmps[31]?.getD undef = _ := hJ 16 rfl
      have e33 : a.tmps[33]?.getD undef = _ := hJ 18 rfl
      clear hO hJ
      go_simp
      try go_bits
      exact hK _ _ (Below.refl _ _) rfl⟩,
    fun a u hB hO hJ => .inl ⟨rfl, fun K Q hK => by
      have e29 : a.tmps[29]?.getD undef = _ := hJ 14 rfl
      have e34 : a.tmps[34]?.getD undef = _ := hJ 19 rfl
      clear hO hJ
      go_simp
      try go_bits
      exact hK _ _ (Below.refl _ _) rfl⟩,
    fun a u hB hO hJ => .inl ⟨rfl, fun K Q hK => by
      have e35 : a.tmps[35]?.getD undef = _ := hJ 20 rfl
      clear hO hJ
      exact wp_move_of e35 fun h => hK _ _ (Below.refl _ _) h⟩,
    fun a u hB hO hJ => .inl ⟨(wanted_of rfl (hJ 21 rfl)), fun K Q hK => by
      have e0 : a.tmps[0]?.getD undef = .slice ad n cap := hO 0 rfl
      clear hO hJ
      exact wp_move_of e0 fun h => hK _ _ (Below.refl _ _) h⟩,
    fun a u hB hO hJ => .inl ⟨(wanted_of rfl (hJ 21 rfl)), fun K Q hK => by
      have e37 : a.tmps[37]?.getD undef = _ := hJ 22 rfl
      clear hO hJ
      go_simp
      refine (clean_any _ _ _ (HB5.out.below hB)).mono ?_
      rintro e w1 ⟨rfl, b1⟩
      exact hK _ _ b1 rfl⟩,
    fun a u hB hO hJ => .inl ⟨(wanted_of rfl (hJ 21 rfl)), fun K Q hK => by
      have e0 : a.tmps[0]?.getD undef = .slice ad n cap := hO 0 rfl
      clear hO hJ
      exact wp_move_of e0 fun h => hK _ _ (Below.refl _ _) h⟩,
    fun a u hB hO hJ => .inl ⟨(wanted_of rfl (hJ 21 rfl)), fun K Q hK => by
      have e39 : a.tmps[39]?.getD undef = _ := hJ 24 rfl
      clear hO hJ
      go_simp
      refine (rclean_any _ _ _ (HB5.out.below hB)).mono ?_
      rintro e w1 ⟨rfl, b1⟩
      exact hK _ _ b1 rfl⟩,
    fun a u hB hO hJ => .inl ⟨(wanted_of rfl (hJ 21 rfl)), fun K Q hK => by
      have e38 : a.tmps[38]?.getD undef = _ := hJ 23 rfl
      have e40 : a.tmps[40]?.getD undef = _ := hJ 25 rfl
      clear hO hJ
      go_simp
      try go_bits
      exact hK _ _ (Below.refl _ _) rfl⟩,
    fun a u hB hO hJ => .inl ⟨rfl, fun K Q hK => by
      have e36 : a.tmps[36]?.getD undef = _ := hJ 21 rfl
      have e41 : a.tmps[41]?.getD undef = _ := hJ 26 rfl
      clear hO hJ
      go_simp
      try go_bits
      exact hK _ _ (Below.refl _ _) rfl⟩,
    trivial⟩ ?fin5
  case fin5 =>
    intro u5 b5 _ _ _ _
    simp only [Act.put, List.setIfInBounds_toArray, List.set_cons_zero, List.set_cons_succ, List.drop_succ_cons, List.drop_nil, List.take_succ_cons, List.take_nil, Laid]
    have B5 := b1.trans (b5.mono z1)
    have z5 := B5.size
    clear b5 b1
    go_wp2_with fail
    refine (trail_any _ _ _ (HB.out.below B5)).mono ?_
    rintro e u6 ⟨rfl, b6⟩
    have B6 := B5.trans (b6.mono z5)
    have z6 := B6.size
    clear b6 B5
    go_wp2_with fail
    refine (rtrail_any _ _ _ (HB.out.below B6)).mono ?_
    rintro e u7 ⟨rfl, b7⟩
    have B7 := B6.trans (b7.mono z6)
    have z7 := B7.size
    clear b7 B6
    obtain ⟨t, ht⟩ : ∃ t, trailN l = t := ⟨_, rfl⟩
    by_cases h0 : t = 0
    · have he : trailE l = 5 := by simp [trailE, ht, h0]
      subst h0
      rw [he, ht]
      clear he ht
      go_wp2_with fail
      refine (add_no _ _ _ (.inr hm)).mono ?_
      rintro e u8 ⟨rfl, b8⟩
      have B8 := B7.trans (b8.mono z7)
      clear b8 B7
      go_wp2_with fail
      go_ret
      exact ⟨rfl, B8⟩
    · have he : trailE l = 0 := by simp [trailE, ht, h0]
      have hp : (0 : Int) < t := by omega
      rw [he, ht]
      clear he ht h0
      go_wp2_with fail
      refine (add_no _ _ _ (.inr hm)).mono ?_
      rintro e u8 ⟨rfl, b8⟩
      have B8 := B7.trans (b8.mono z7)
      clear b8 B7
      go_wp2_with fail
      go_ret
      exact ⟨rfl, B8⟩

set_option maxRecDepth 100000 in
set_option maxHeartbeats 2000000 in
theorem padRight_ok (ad : Option Addr) (n cap : Nat) (l : List UInt8) (k : Nat) (w : World) (hn : n = l.length) (hl : n ≤ 3000) (h : IsB w (.slice ad n cap) l) (hk1 : 1 ≤ k) (hk2 : k ≤ 255) :
    Calls Try.prog 5 #[.slice ad n cap, .int .i64 (k : Int)] w fun e w' => e = .returned (.bool true) ∧ Below w.heap.size w w' := by
  have HL : Hid (l.length ≤ 1000000) := hide (by omega)
  have hl' : (n : Int) ≤ 3000 := by omega
  have HB := hide h
  clear hn hl h
  have HK1 := hide hk1
  have HK2 := hide hk2
  have hk3 : (1 : Int) ≤ k := by omega
  have hk4 : (k : Int) ≤ 255 := by omega
  clear hk1 hk2
  go_enter Try.func5, Try.ntmps5
  go_wp2_with fail
  refine (awake03 _).mono ?_
  rintro e u1 ⟨rfl, b1⟩
  have z1 := b1.size
  have HB5 := hide (HB.out.below b1)
  go_wp2_with fail
  refine wp_region_mono 28 98 [.val _, .val _, .val _, .val _, .val _, .val _, .val _, .pred (PB (fillL l)), .val _, .val _, .pred (PB (fillL l)), .val _, .val _, .val _, .val _, .val _, .val _, .val _, .val _, .val _, .val _, .val _, .val _, .val _, .val _, .val _, .val _, .val _] (by kernel_rfl) (by kernel_rfl) rfl ⟨PB.stable _, PB.stable _, trivial⟩ rfl ⟨
    fun a u hB hO hJ => .inl ⟨rfl, fun K Q hK => by
      have e1 : a.tmps[1]?.getD undef = .int .i64 (k : Int) := hO 1 rfl
      clear hO hJ
      exact wp_move_of e1 fun h => hK _ _ (Below.refl _ _) h⟩,
    fun a u hB hO hJ => .inl ⟨rfl, fun K Q hK => by
      have e15 : a.tmps[15]?.getD undef = _ := hJ 0 rfl
      clear hO hJ
      go_simp
      refine (round_any _ _).mono ?_
      rintro e w1 ⟨rfl, b1⟩
      exact hK _ _ b1 rfl⟩,
    fun a u hB hO hJ => .inl ⟨rfl, fun K Q hK => by
      have e1 : a.tmps[1]?.getD undef = .int .i64 (k : Int) := hO 1 rfl
      clear hO hJ
      exact wp_move_of e1 fun h => hK _ _ (Below.refl _ _) h⟩,
    fun a u hB hO hJ => .inl ⟨rfl, fun K Q hK => by
      have e17 : a.tmps[17]?.getD undef = _ := hJ 2 rfl
      clear hO hJ
      go_simp
      refine (rround_any _ _).mono ?_
      rintro e w1 ⟨rfl, b1⟩
      exact hK _ _ b1 rfl⟩,
    fun a u hB hO hJ => .inl ⟨rfl, fun K Q hK => by
      have e16 : a.tmps[16]?.getD undef = _ := hJ 1 rfl
      have e18 : a.tmps[18]?.getD undef = _ := hJ 3 rfl
      clear hO hJ
      go_simp
      try go_bits
      exact hK _ _ (Below.refl _ _) rfl⟩,
    fun a u hB hO hJ => .inl ⟨rfl, fun K Q hK => by
      have e19 : a.tmps[19]?.getD undef = _ := hJ 4 rfl
      clear hO hJ
      exact wp_move_of e19 fun h => hK _ _ (Below.refl _ _) h⟩,
    fun a u hB hO hJ => .inl ⟨(wanted_of rfl (hJ 5 rfl)), fun K Q hK => by
      have e0 : a.tmps[0]?.getD undef = .slice ad n cap := hO 0 rfl
      clear hO hJ
      exact wp_move_of e0 fun h => hK _ _ (Below.refl _ _) h⟩,
    fun a u hB hO hJ => .inl ⟨(wanted_of rfl (hJ 5 rfl)), fun K Q hK => by
      have e21 : a.tmps[21]?.getD undef = _ := hJ 6 rfl
      clear hO hJ
      go_simp
      refine (fill_any _ _ _ (HB5.out.below hB) HL.out).mono ?_
      rintro e w1 ⟨v2, rfl, hown, b1⟩
      exact hK _ _ b1 hown.isB⟩,
    fun a u hB hO hJ => .inl ⟨(wanted_of rfl (hJ 5 rfl)), fun K Q hK => by
      have e22 : (PB (fillL l)) (a.tmps[22]?.getD undef) u := hJ 7 rfl
      clear hO hJ
      exact wp_conv_of rfl e22 (hK _ _ (Below.refl _ _) rfl)⟩,
    fun a u hB hO hJ => .inl ⟨(wanted_of rfl (hJ 5 rfl)), fun K Q hK => by
      have e0 : a.tmps[0]?.getD undef = .slice ad n cap := hO 0 rfl
      clear hO hJ
      exact wp_move_of e0 fun h => hK _ _ (Below.refl _ _) h⟩,
    fun a u hB hO hJ => .inl ⟨(wanted_of rfl (hJ 5 rfl)), fun K Q hK => by
      have e24 : a.tmps[24]?.getD undef = _ := hJ 9 rfl
      clear hO hJ
      go_simp
      refine (rfill_any _ _ _ (HB5.out.below hB) HL.out).mono ?_
      rintro e w1 ⟨v2, rfl, hown, b1⟩
      exact hK _ _ b1 hown.isB⟩,
    fun a u hB hO hJ => .inl ⟨(wanted_of rfl (hJ 5 rfl)), fun K Q hK => by
      have e25 : (PB (fillL l)) (a.tmps[25]?.getD undef) u := hJ 10 rfl
      clear hO hJ
      exact wp_conv_of rfl e25 (hK _ _ (Below.refl _ _) rfl)⟩,
    fun a u hB hO hJ => .inl ⟨(wanted_of rfl (hJ 5 rfl)), fun K Q hK => by
      have e23 : a.tmps[23]?.getD undef = _ := hJ 8 rfl
      have e26 : a.tmps[26]?.getD undef = _ := hJ 11 rfl
      clear hO hJ
      go_simp
      try go_bits
      exact hK _ _ (Below.refl _ _) rfl⟩,
    fun a u hB hO hJ => .inl ⟨rfl, fun K Q hK => by
      have e20 : a.tmps[20]?.getD undef = _ := hJ 5 rfl
      have e27 : a.tmps[27]?.getD undef = _ := hJ 12 rfl
      clear hO hJ
      go_simp
      try go_bits
      exact hK _ _ (Below.refl _ _) rfl⟩,
    fun a u hB hO hJ => .inl ⟨rfl, fun K Q hK => by
      have e28 : a.tmps[28]?.getD undef = _ := hJ 13 rfl
      clear hO hJ
      exact wp_move_of e28 fun h => hK _ _ (Below.refl _ _) h⟩,
    fun a u hB hO hJ => .inl ⟨(wanted_of rfl (hJ 14 rfl)), fun K Q hK => by
      have e0 : a.tmps[0]?.getD undef = .slice ad n cap := hO 0 rfl
      clear hO hJ
      exact wp_move_of e0 fun h => hK _ _ (Below.refl _ _) h⟩,
    fun a u hB hO hJ => .inl ⟨(wanted_of rfl (hJ 14 rfl)), fun K Q hK => by
      have e30 : a.tmps[30]?.getD undef = _ := hJ 15 rfl
      clear hO hJ
      go_simp
      refine (zero_any _ _ _ (HB5.out.below hB)).mono ?_
      rintro e w1 ⟨rfl, b1⟩
      exact hK _ _ b1 rfl⟩,
    fun a u hB hO hJ => .inl ⟨(wanted_of rfl (hJ 14 rfl)), fun K Q hK => by
      have e0 : a.tmps[0]?.getD undef = .slice ad n cap := hO 0 rfl
      clear hO hJ
      exact wp_move_of e0 fun h => hK _ _ (Below.refl _ _) h⟩,
    fun a u hB hO hJ => .inl ⟨(wanted_of rfl (hJ 14 rfl)), fun K Q hK => by
      have e32 : a.tmps[32]?.getD undef = _ := hJ 17 rfl
      clear hO hJ
      go_simp
      refine (rzero_any _ _ _ (HB5.out.below hB)).mono ?_
      rintro e w1 ⟨rfl, b1⟩
      exact hK _ _ b1 rfl⟩,
    fun a u hB hO hJ => .inl ⟨(wanted_of rfl (hJ 14 rfl)), fun K Q hK => by
      have e31 : a.tmps[31]?.getD undef = _ := hJ 16 rfl
      have e33 : a.tmps[33]?.getD undef = _ := hJ 18 rfl
      clear hO hJ
      go_simp
      try go_bits
      exact hK _ _ (Below.refl _ _) rfl⟩,
    fun a u hB hO hJ => .inl ⟨rfl, fun K Q hK => by
      have e29 : a.tmps[29]?.getD undef = _ := hJ 14 rfl
      have e34 : a.tmps[34]?.getD undef = _ := hJ 19 rfl
      clear hO hJ
      go_simp
      try go_bits
      exact hK _ _ (Below.refl _ _) rfl⟩,
    fun a u hB hO hJ => .inl ⟨rfl, fun K Q hK => by
      have e35 : a.tmps[35]?.getD undef = _ := hJ 20 rfl
      clear hO hJ
      exact wp_move_of e35 fun h => hK _ _ (Below.refl _ _) h⟩,
    fun a u hB hO hJ => .inl ⟨(wanted_of rfl (hJ 21 rfl)), fun K Q hK => by
      have e0 : a.tmps[0]?.getD undef = .slice ad n cap := hO 0 rfl
      clear hO hJ
      exact wp_move_of e0 fun h => hK _ _ (Below.refl _ _) h⟩,
    fun a u hB hO hJ => .inl ⟨(wanted_of rfl (hJ 21 rfl)), fun K Q hK => by
      have e37 : a.tmps[37]?.getD undef = _ := hJ 22 rfl
      clear hO hJ
      go_simp
      refine (clean_any _ _ _ (HB5.out.below hB)).mono ?_
      rintro e w1 ⟨rfl, b1⟩
      exact hK _ _ b1 rfl⟩,
    fun a u hB hO hJ => .inl ⟨(wanted_of rfl (hJ 21 rfl)), fun K Q hK => by
      have e0 : a.tmps[0]?.getD undef = .slice ad n cap := hO 0 rfl
      clear hO hJ
      exact wp_move_of e0 fun h => hK _ _ (Below.refl _ _) h⟩,
    fun a u hB hO hJ => .inl ⟨(wanted_of rfl (hJ 21 rfl)), fun K Q hK => by
      have e39 : a.tmps[39]?.getD undef = _ := hJ 24 rfl
      clear hO hJ
      go_simp
      refine (rclean_any _ _ _ (HB5.out.below hB)).mono ?_
      rintro e w1 ⟨rfl, b1⟩
      exact hK _ _ b1 rfl⟩,
    fun a u hB hO hJ => .inl ⟨(wanted_of rfl (hJ 21 rfl)), fun K Q hK => by
      have e38 : a.tmps[38]?.getD undef = _ := hJ 23 rfl
      have e40 : a.tmps[40]?.getD undef = _ := hJ 25 rfl
      clear hO hJ
      go_simp
      try go_bits
      exact hK _ _ (Below.refl _ _) rfl⟩,
    fun a u hB hO hJ => .inl ⟨rfl, fun K Q hK => by
      have e36 : a.tmps[36]?.getD undef = _ := hJ 21 rfl
      have e41 : a.tmps[41]?.getD undef = _ := hJ 26 rfl
      clear hO hJ
      go_simp
      try go_bits
      exact hK _ _ (Below.refl _ _) rfl⟩,
    trivial⟩ ?fin5
  case fin5 =>
    intro u5 b5 _ _ _ _
    simp only [Act.put, List.setIfInBounds_toArray, List.set_cons_zero, List.set_cons_succ, List.drop_succ_cons, List.drop_nil, List.take_succ_cons, List.take_nil, Laid]
    have B5 := b1.trans (b5.mono z1)
    have z5 := B5.size
    clear b5 b1
    go_wp2_with fail
    refine (trail_any _ _ _ (HB.out.below B5)).mono ?_
    rintro e u6 ⟨rfl, b6⟩
    have B6 := B5.trans (b6.mono z5)
    have z6 := B6.size
    clear b6 B5
    go_wp2_with fail
    refine (rtrail_any _ _ _ (HB.out.below B6)).mono ?_
    rintro e u7 ⟨rfl, b7⟩
    have B7 := B6.trans (b7.mono z6)
    have z7 := B7.size
    clear b7 B6
    obtain ⟨t, ht⟩ : ∃ t, trailN l = t := ⟨_, rfl⟩
    by_cases h0 : t = 0
    · have he : trailE l = 5 := by simp [trailE, ht, h0]
      subst h0
      rw [he, ht]
      clear he ht
      go_wp2_with fail
      refine (add_yes _ _ _ _ (HB.out.below B7) HL.out HK1.out HK2.out).mono ?_
      rintro e u8 ⟨v8, rfl, o8, b8⟩
      have B8 := B7.trans (b8.mono z7)
      have z8 := B8.size
      have HB9 := hide (HB.out.below B8)
      have HV := hide o8.isB
      clear b8 B7 o8
      go_wp2_with fail
      refine wp_region_mono 11 98 [.val _, .val _, .val _, .val _, .val _, .val _, .val _, .pred (PB (addL l k)), .val _, .val _, .val _] (by kernel_rfl) (by kernel_rfl) rfl ⟨PB.stable _, trivial⟩ rfl ⟨
        fun a u hB hO hJ => .inl ⟨rfl, fun K Q hK => by
          have e9 : a.tmps[9]?.getD undef = .int .i64 0 := hO 9 rfl
          clear hO hJ
          exact wp_move_of e9 fun h => hK _ _ (Below.refl _ _) h⟩,
        fun a u hB hO hJ => .inl ⟨rfl, fun K Q hK => by
          have e87 : a.tmps[87]?.getD undef = _ := hJ 0 rfl
          clear hO hJ
          go_simp
          try go_bits
          exact hK _ _ (Below.refl _ _) rfl⟩,
        fun a u hB hO hJ => .inl ⟨rfl, fun K Q hK => by
          have e88 : a.tmps[88]?.getD undef = _ := hJ 1 rfl
          clear hO hJ
          exact wp_move_of e88 fun h => hK _ _ (Below.refl _ _) h⟩,
        fun a u hB hO hJ => .inl ⟨(wanted_of rfl (hJ 2 rfl)), fun K Q hK => by
          have e8 : a.tmps[8]?.getD undef = v8 := hO 8 rfl
          clear hO hJ
          exact wp_move_of e8 fun h => hK _ _ (Below.refl _ _) h⟩,
        fun a u hB hO hJ => .inl ⟨(wanted_of rfl (hJ 2 rfl)), fun K Q hK => by
          have e90 : a.tmps[90]?.getD undef = _ := hJ 3 rfl
          clear hO hJ
          exact wp_conv_of e90 (HV.out.below hB) (hK _ _ (Below.refl _ _) rfl)⟩,
        fun a u hB hO hJ => .inl ⟨(wanted_of rfl (hJ 2 rfl)), fun K Q hK => by
          have e0 : a.tmps[0]?.getD undef = .slice ad n cap := hO 0 rfl
          clear hO hJ
          exact wp_move_of e0 fun h => hK _ _ (Below.refl _ _) h⟩,
        fun a u hB hO hJ => .inl ⟨(wanted_of rfl (hJ 2 rfl)), fun K Q hK => by
          have e1 : a.tmps[1]?.getD undef = .int .i64 (k : Int) := hO 1 rfl
          clear hO hJ
          exact wp_move_of e1 fun h => hK _ _ (Below.refl _ _) h⟩,
        fun a u hB hO hJ => .inl ⟨(wanted_of rfl (hJ 2 rfl)), fun K Q hK => by
          have e92 : a.tmps[92]?.getD undef = _ := hJ 5 rfl
          have e93 : a.tmps[93]?.getD undef = _ := hJ 6 rfl
          clear hO hJ
          go_simp
          refine (radd_any _ _ _ _ (HB9.out.below hB) HL.out HK1.out HK2.out).mono ?_
          rintro e w1 ⟨v2, rfl, hown, b1⟩
          exact hK _ _ b1 hown.isB⟩,
        fun a u hB hO hJ => .inl ⟨(wanted_of rfl (hJ 2 rfl)), fun K Q hK => by
          have e94 : (PB (addL l k)) (a.tmps[94]?.getD undef) u := hJ 7 rfl
          clear hO hJ
          exact wp_conv_of rfl e94 (hK _ _ (Below.refl _ _) rfl)⟩,
        fun a u hB hO hJ => .inl ⟨(wanted_of rfl (hJ 2 rfl)), fun K Q hK => by
          have e91 : a.tmps[91]?.getD undef = _ := hJ 4 rfl
          have e95 : a.tmps[95]?.getD undef = _ := hJ 8 rfl
          clear hO hJ
          go_simp
          try go_bits
          exact hK _ _ (Below.refl _ _) rfl⟩,
        fun a u hB hO hJ => .inl ⟨rfl, fun K Q hK => by
          have e89 : a.tmps[89]?.getD undef = _ := hJ 2 rfl
          have e96 : a.tmps[96]?.getD undef = _ := hJ 9 rfl
          clear hO hJ
          go_simp
          try go_bits
          exact hK _ _ (Below.refl _ _) rfl⟩,
        trivial⟩ ?fin14
      case fin14 =>
        intro u9 b9 _ _
        simp only [Act.put, List.setIfInBounds_toArray, List.set_cons_zero, List.set_cons_succ, List.drop_succ_cons, List.drop_zero, List.take_succ_cons, List.take_zero, Laid]
        have B9 := B8.trans (b9.mono z8)
        clear b9 B8
        go_wp2_with fail
        go_ret
        exact ⟨rfl, B9⟩
    · have he : trailE l = 0 := by simp [trailE, ht, h0]
      have hp : (0 : Int) < t := by omega
      rw [he, ht]
      clear he ht h0
      go_wp2_with fail
      refine (add_yes _ _ _ _ (HB.out.below B7) HL.out HK1.out HK2.out).mono ?_
      rintro e u8 ⟨v8, rfl, o8, b8⟩
      have B8 := B7.trans (b8.mono z7)
      have z8 := B8.size
      have HB9 := hide (HB.out.below B8)
      have HV := hide o8.isB
      clear b8 B7 o8
      go_wp2_with fail
      refine wp_region_mono 11 98 [.val _, .val _, .val _, .val _, .val _, .val _, .val _, .pred (PB (addL l k)), .val _, .val _, .val _] (by kernel_rfl) (by kernel_rfl) rfl ⟨PB.stable _, trivial⟩ rfl ⟨
        fun a u hB hO hJ => .inl ⟨rfl, fun K Q hK => by
          have e9 : a.tmps[9]?.getD undef = .int .i64 0 := hO 9 rfl
          clear hO hJ
          exact wp_move_of e9 fun h => hK _ _ (Below.refl _ _) h⟩,
        fun a u hB hO hJ => .inl ⟨rfl, fun K Q hK => by
          have e87 : a.tmps[87]?.getD undef = _ := hJ 0 rfl
          clear hO hJ
          go_simp
          try go_bits
          exact hK _ _ (Below.refl _ _) rfl⟩,
        fun a u hB hO hJ => .inl ⟨rfl, fun K Q hK => by
          have e88 : a.tmps[88]?.getD undef = _ := hJ 1 rfl
          clear hO hJ
          exact wp_move_of e88 fun h => hK _ _ (Below.refl _ _) h⟩,
        fun a u hB hO hJ => .inl ⟨(wanted_of rfl (hJ 2 rfl)), fun K Q hK => by
          have e8 : a.tmps[8]?.getD undef = v8 := hO 8 rfl
          clear hO hJ
          exact wp_move_of e8 fun h => hK _ _ (Below.refl _ _) h⟩,
        fun a u hB hO hJ => .inl ⟨(wanted_of rfl (hJ 2 rfl)), fun K Q hK => by
          have e90 : a.tmps[90]?.getD undef = _ := hJ 3 rfl
          clear hO hJ
          exact wp_conv_of e90 (HV.out.below hB) (hK _ _ (Below.refl _ _) rfl)⟩,
        fun a u hB hO hJ => .inl ⟨(wanted_of rfl (hJ 2 rfl)), fun K Q hK => by
          have e0 : a.tmps[0]?.getD undef = .slice ad n cap := hO 0 rfl
          clear hO hJ
          exact wp_move_of e0 fun h => hK _ _ (Below.refl _ _) h⟩,
        fun a u hB hO hJ => .inl ⟨(wanted_of rfl (hJ 2 rfl)), fun K Q hK => by
          have e1 : a.tmps[1]?.getD undef = .int .i64 (k : Int) := hO 1 rfl
          clear hO hJ
          exact wp_move_of e1 fun h => hK _ _ (Below.refl _ _) h⟩,
        fun a u hB hO hJ => .inl ⟨(wanted_of rfl (hJ 2 rfl)), fun K Q hK => by
          have e92 : a.tmps[92]?.getD undef = _ := hJ 5 rfl
          have e93 : a.tmps[93]?.getD undef = _ := hJ 6 rfl
          clear hO hJ
          go_simp
          refine (radd_any _ _ _ _ (HB9.out.below hB) HL.out HK1.out HK2.out).mono ?_
          rintro e w1 ⟨v2, rfl, hown, b1⟩
          exact hK _ _ b1 hown.isB⟩,
        fun a u hB hO hJ => .inl ⟨(wanted_of rfl (hJ 2 rfl)), fun K Q hK => by
          have e94 : (PB (addL l k)) (a.tmps[94]?.getD undef) u := hJ 7 rfl
          clear hO hJ
          exact wp_conv_of rfl e94 (hK _ _ (Below.refl _ _) rfl)⟩,
        fun a u hB hO hJ => .inl ⟨(wanted_of rfl (hJ 2 rfl)), fun K Q hK => by
          have e91 : a.tmps[91]?.getD undef = _ := hJ 4 rfl
          have e95 : a.tmps[95]?.getD undef = _ := hJ 8 rfl
          clear hO hJ
          go_simp
          try go_bits
          exact hK _ _ (Below.refl _ _) rfl⟩,
        fun a u hB hO hJ => .inl ⟨rfl, fun K Q hK => by
          have e89 : a.tmps[89]?.getD undef = _ := hJ 2 rfl
          have e96 : a.tmps[96]?.getD undef = _ := hJ 9 rfl
          clear hO hJ
          go_simp
          try go_bits
          exact hK _ _ (Below.refl _ _) rfl⟩,
        trivial⟩ ?fin14
      case fin14 =>
        intro u9 b9 _ _
        simp only [Act.put, List.setIfInBounds_toArray, List.set_cons_zero, List.set_cons_succ, List.drop_succ_cons, List.drop_zero, List.take_succ_cons, List.take_zero, Laid]
        have B9 := B8.trans (b9.mono z8)
        clear b9 B8
        go_wp2_with fail
        go_ret
        exact ⟨rfl, B9⟩

set_option maxRecDepth 100000 in
set_option maxHeartbeats 2000000 in
theorem padRight_big (ad : Option Addr) (n cap : Nat) (m : Int) (w : World) (hl : 3000 < n) :
    Calls Try.prog 5 #[.slice ad n cap, .int .i64 m] w fun e w' => e = .returned (.bool true) ∧ Below w.heap.size w w' := by
  have g : (3000 : Int) < n := by omega
  go_enter Try.func5, Try.ntmps5
  go_wp2_with fail
  refine (awake03 _).mono ?_
  rintro e u1 ⟨rfl, b1⟩
  have z1 := b1.size
  go_wp2_with fail
  go_ret
  exact ⟨rfl, b1⟩

theorem padRight_any (v : Value) (l : List UInt8) (m : Int) (w : World) (hb : IsB w v l) :
    Calls Try.prog 5 #[v, .int .i64 m] w fun e w' => e = .returned (.bool true) ∧ Below w.heap.size w w' := by
  obtain ⟨ad, n, cap, rfl, hn, _, _⟩ := hb.len'
  by_cases hl : 3000 < n
  · exact padRight_big ad n cap m w hl
  · by_cases h1 : m < 1
    · exact padRight_lo ad n cap l m w hn (by omega) hb h1
    · by_cases h2 : 255 < m
      · exact padRight_hi ad n cap l m w hn (by omega) hb h2
      · obtain ⟨k, rfl⟩ := Int.eq_ofNat_of_zero_le (show 0 ≤ m by omega)
        exact padRight_ok ad n cap l k w hn (by omega) hb (by omega) (by omega)

end Go.Proofs.Ytellclclpmofcaa
