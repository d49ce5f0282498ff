/-
  The walk of crossbarlaw03.PadFill; conditions: the arguments read as data.
-/
import Derived.Test.YtellclclpmofcaaZ
namespace Go.Proofs.Ytellclclpmofcaa
open Go.RowKit

theorem fillL_length (l : List UInt8) : (fillL l).length = l.length + padN l.length := by simp [fillL]

theorem zeroB_replicate (n : Nat) : zeroB (List.replicate n 0) = true := by
  unfold zeroB
  simp

set_option maxRecDepth 100000 in
set_option maxHeartbeats 2000000 in
theorem padFill_ok (ad : Option Addr) (n cap : Nat) (l : List UInt8) (w : World) (hn : n = l.length) (hl : n ≤ 3000) (h : IsB w (.slice ad n cap) l) :
    Calls Try.prog 7 #[.slice ad n cap] w fun e w' => e = .returned (.bool true) ∧ Below w.heap.size w w' := by
  have hl' : (n : Int) ≤ 3000 := by omega
  have hm := fillL_length l
  rw [← hn] at hm
  have hp : padN n ≤ 3 ∧ (n + padN n) % 4 = 0 := by unfold padN; omega
  have HT : Hid (((fillL l).take n).drop 0 = l) := hide (by
    rw [List.drop_zero, fillL, hn, List.take_left])
  have HD : Hid (((fillL l).take (fillL l).length).drop n = List.replicate (padN n) 0) := hide (by
    rw [List.take_length, fillL, hn, List.drop_left])
  have HZ := hide (zeroB_replicate (padN n))
  have HF : Hid (fillL (fillL l) = fillL l) := hide (by
    have e : padN (fillL l).length = 0 := by
      rw [hm]
      unfold padN at hp ⊢
      omega
    rw [fillL, e]
    simp)
  have HL : Hid ((fillL l).length ≤ 1000000) := hide (by omega)
  have HL0 : Hid (l.length ≤ 1000000) := hide (by omega)
  have HLn : Hid (n ≤ (fillL l).length) := hide (by omega)
  have HB0 := hide h
  obtain ⟨m3, hm3⟩ : ∃ m3, m3 = (fillL l).length := ⟨_, rfl⟩
  have k1 : ((m3 : Int) % 4 == 0) = true := by simp; omega
  have k2 : (n : Int) ≤ m3 := by omega
  have k3 : (m3 : Int) - n < 4 := by omega
  have HR : Hid (roundZ (n : Int) = (m3 : Int)) := hide (by unfold roundZ; unfold padN at hm; rw [if_neg (by omega)]; omega)
  have k4 : (m3 : Int) ≤ 3003 := by omega
  have HM := hide hm3
  clear hn hl h hm hp hm3
  go_enter Try.func7, Try.ntmps7
  go_wp2_with fail
  refine (awake03 _).mono ?_
  rintro e u1 ⟨rfl, b1⟩
  have z1 := b1.size
  go_wp2_with fail
  refine (fill_any _ _ _ (HB0.out.below b1) HL0.out).mono ?_
  rintro e u2 ⟨v2, rfl, o2, b2⟩
  have B2 := b1.trans (b2.mono z1)
  have z2 := B2.size
  have i2 := o2.isB
  obtain ⟨a3, mm, c3, rfl, hmm, hq1, hq2⟩ := i2.len'
  rw [← HM.out] at hmm
  obtain rfl := hmm.symm
  have HX := hide i2
  have HB := hide (HB0.out.below B2)
  clear b1 b2 o2 i2 hq1 hq2 hmm
  go_wp2_with fail
  refine wp_region_mono 52 63 (.val _ :: .val _ :: .val _ :: .val _ :: .val _ :: .val _ :: .val _ :: .val _ :: .val _ :: .val _ :: .val _ :: .val _ :: .val _ :: .val _ :: .val _ :: .val _ :: .val _ :: .val _ :: .val _ :: .val _ :: .val _ :: .val _ :: .val _ :: .val _ :: .val _ :: .val _ :: .val _ :: .val _ :: .val _ :: .val _ :: .val _ :: .pred (PB l) :: .val _ :: .val _ :: .val _ :: .val _ :: .val _ :: .val _ :: .val _ :: .val _ :: .val _ :: .pred (PB (List.replicate (padN n) 0)) :: .val _ :: .val _ :: .val _ :: .val _ :: .pred (PB (fillL l)) :: .val _ :: .val _ :: .val _ :: .val _ :: .val _ :: []) (by kernel_rfl) (by kernel_rfl) rfl ⟨PB.stable _, PB.stable _, PB.stable _, trivial⟩ rfl ⟨
    fun a u hB hO hJ => .inl ⟨rfl, fun K Q hK => by
      have e3 : a.tmps[3]?.getD undef = .slice a3 m3 c3 := hO 3 rfl
      clear hO hJ
      exact wp_move_of e3 fun h => hK _ _ (Below.refl _ _) h⟩,
    fun a u hB hO hJ => .inl ⟨rfl, fun K Q hK => by
      have e11 : a.tmps[11]?.getD undef = _ := hJ 0 rfl
      clear hO hJ
      go_simp
      try go_bits
      exact hK _ _ (Below.refl _ _) rfl⟩,
    fun a u hB hO hJ => .inl ⟨rfl, fun K Q hK => by
      have e12 : a.tmps[12]?.getD undef = _ := hJ 1 rfl
      clear hO hJ
      go_simp
      try go_bits
      exact hK _ _ (Below.refl _ _) rfl⟩,
    fun a u hB hO hJ => .inl ⟨rfl, fun K Q hK => by
      have e13 : a.tmps[13]?.getD undef = _ := hJ 2 rfl
      clear hO hJ
      go_simp
      try go_bits
      exact hK _ _ (Below.refl _ _) rfl⟩,
    fun a u hB hO hJ => .inl ⟨rfl, fun K Q hK => by
      have e14 : a.tmps[14]?.getD undef = _ := hJ 3 rfl
      clear hO hJ
      exact wp_move_of e14 fun h => hK _ _ (Below.refl _ _) h⟩,
    fun a u hB hO hJ => .inl ⟨(wanted_of rfl (hJ 4 rfl)), fun K Q hK => by
      have e3 : a.tmps[3]?.getD undef = .slice a3 m3 c3 := hO 3 rfl
      clear hO hJ
      exact wp_move_of e3 fun h => hK _ _ (Below.refl _ _) h⟩,
    fun a u hB hO hJ => .inl ⟨(wanted_of rfl (hJ 4 rfl)), fun K Q hK => by
      have e16 : a.tmps[16]?.getD undef = _ := hJ 5 rfl
      clear hO hJ
      go_simp
      try go_bits
      exact hK _ _ (Below.refl _ _) rfl⟩,
    fun a u hB hO hJ => .inl ⟨(wanted_of rfl (hJ 4 rfl)), fun K Q hK => by
      have e0 : a.tmps[0]?.getD undef = .slice ad n cap := hO 0 rfl
      clear hO hJ
      exact wp_move_of e0 fun h => hK _ _ (Below.refl _ _) h⟩,
    fun a u hB hO hJ => .inl ⟨(wanted_of rfl (hJ 4 rfl)), fun K Q hK => by
      have e18 : a.tmps[18]?.getD undef = _ := hJ 7 rfl
      clear hO hJ
      go_simp
      try go_bits
      exact hK _ _ (Below.refl _ _) rfl⟩,
    fun a u hB hO hJ => .inl ⟨(wanted_of rfl (hJ 4 rfl)), fun K Q hK => by
      have e17 : a.tmps[17]?.getD undef = _ := hJ 6 rfl
      have e19 : a.tmps[19]?.getD undef = _ := hJ 8 rfl
      clear hO hJ
      go_simp
      try go_bits
      exact hK _ _ (Below.refl _ _) rfl⟩,
    fun a u hB hO hJ => .inl ⟨rfl, fun K Q hK => by
      have e15 : a.tmps[15]?.getD undef = _ := hJ 4 rfl
      have e20 : a.tmps[20]?.getD undef = _ := hJ 9 rfl
      clear hO hJ
      go_simp
      try go_bits
      exact hK _ _ (Below.refl _ _) rfl⟩,
    fun a u hB hO hJ => .inl ⟨rfl, fun K Q hK => by
      have e21 : a.tmps[21]?.getD undef = _ := hJ 10 rfl
      clear hO hJ
      exact wp_move_of e21 fun h => hK _ _ (Below.refl _ _) h⟩,
    fun a u hB hO hJ => .inl ⟨(wanted_of rfl (hJ 11 rfl)), fun K Q hK => by
      have e3 : a.tmps[3]?.getD undef = .slice a3 m3 c3 := hO 3 rfl
      clear hO hJ
      exact wp_move_of e3 fun h => hK _ _ (Below.refl _ _) h⟩,
    fun a u hB hO hJ => .inl ⟨(wanted_of rfl (hJ 11 rfl)), fun K Q hK => by
      have e23 : a.tmps[23]?.getD undef = _ := hJ 12 rfl
      clear hO hJ
      go_simp
      try go_bits
      exact hK _ _ (Below.refl _ _) rfl⟩,
    fun a u hB hO hJ => .inl ⟨(wanted_of rfl (hJ 11 rfl)), fun K Q hK => by
      have e0 : a.tmps[0]?.getD undef = .slice ad n cap := hO 0 rfl
      clear hO hJ
      exact wp_move_of e0 fun h => hK _ _ (Below.refl _ _) h⟩,
    fun a u hB hO hJ => .inl ⟨(wanted_of rfl (hJ 11 rfl)), fun K Q hK => by
      have e25 : a.tmps[25]?.getD undef = _ := hJ 14 rfl
      clear hO hJ
      go_simp
      try go_bits
      exact hK _ _ (Below.refl _ _) rfl⟩,
    fun a u hB hO hJ => .inl ⟨(wanted_of rfl (hJ 11 rfl)), fun K Q hK => by
      have e24 : a.tmps[24]?.getD undef = _ := hJ 13 rfl
      have e26 : a.tmps[26]?.getD undef = _ := hJ 15 rfl
      clear hO hJ
      go_simp
      try go_bits
      exact hK _ _ (Below.refl _ _) rfl⟩,
    fun a u hB hO hJ => .inl ⟨(wanted_of rfl (hJ 11 rfl)), fun K Q hK => by
      have e27 : a.tmps[27]?.getD undef = _ := hJ 16 rfl
      clear hO hJ
      go_simp
      try go_bits
      exact hK _ _ (Below.refl _ _) rfl⟩,
    fun a u hB hO hJ => .inl ⟨rfl, fun K Q hK => by
      have e22 : a.tmps[22]?.getD undef = _ := hJ 11 rfl
      have e28 : a.tmps[28]?.getD undef = _ := hJ 17 rfl
      clear hO hJ
      go_simp
      try go_bits
      exact hK _ _ (Below.refl _ _) rfl⟩,
    fun a u hB hO hJ => .inl ⟨rfl, fun K Q hK => by
      have e29 : a.tmps[29]?.getD undef = _ := hJ 18 rfl
      clear hO hJ
      exact wp_move_of e29 fun h => hK _ _ (Below.refl _ _) h⟩,
    fun a u hB hO hJ => .inl ⟨(wanted_of rfl (hJ 19 rfl)), fun K Q hK => by
      have e3 : a.tmps[3]?.getD undef = .slice a3 m3 c3 := hO 3 rfl
      clear hO hJ
      exact wp_move_of e3 fun h => hK _ _ (Below.refl _ _) h⟩,
    fun a u hB hO hJ => .inl ⟨(wanted_of rfl (hJ 19 rfl)), fun K Q hK => by
      have e31 : a.tmps[31]?.getD undef = _ := hJ 20 rfl
      clear hO hJ
      go_simp
      try go_bits
      exact hK _ _ (Below.refl _ _) rfl⟩,
    fun a u hB hO hJ => .inl ⟨(wanted_of rfl (hJ 19 rfl)), fun K Q hK => by
      have e0 : a.tmps[0]?.getD undef = .slice ad n cap := hO 0 rfl
      clear hO hJ
      exact wp_move_of e0 fun h => hK _ _ (Below.refl _ _) h⟩,
    fun a u hB hO hJ => .inl ⟨(wanted_of rfl (hJ 19 rfl)), fun K Q hK => by
      have e33 : a.tmps[33]?.getD undef = _ := hJ 22 rfl
      clear hO hJ
      go_simp
      try go_bits
      exact hK _ _ (Below.refl _ _) rfl⟩,
    fun a u hB hO hJ => .inl ⟨(wanted_of rfl (hJ 19 rfl)), fun K Q hK => by
      have e34 : a.tmps[34]?.getD undef = _ := hJ 23 rfl
      clear hO hJ
      go_simp
      refine (round_any _ _).mono ?_
      rintro e w1 ⟨rfl, b1⟩
      rw [HR.out]
      exact hK _ _ b1 rfl⟩,
    fun a u hB hO hJ => .inl ⟨(wanted_of rfl (hJ 19 rfl)), fun K Q hK => by
      have e32 : a.tmps[32]?.getD undef = _ := hJ 21 rfl
      have e35 : a.tmps[35]?.getD undef = _ := hJ 24 rfl
      clear hO hJ
      go_simp
      try go_bits
      exact hK _ _ (Below.refl _ _) rfl⟩,
    fun a u hB hO hJ => .inl ⟨rfl, fun K Q hK => by
      have e30 : a.tmps[30]?.getD undef = _ := hJ 19 rfl
      have e36 : a.tmps[36]?.getD undef = _ := hJ 25 rfl
      clear hO hJ
      go_simp
      try go_bits
      exact hK _ _ (Below.refl _ _) rfl⟩,
    fun a u hB hO hJ => .inl ⟨rfl, fun K Q hK => by
      have e37 : a.tmps[37]?.getD undef = _ := hJ 26 rfl
      clear hO hJ
      exact wp_move_of e37 fun h => hK _ _ (Below.refl _ _) h⟩,
    fun a u hB hO hJ => .inl ⟨(wanted_of rfl (hJ 27 rfl)), fun K Q hK => by
      have e3 : a.tmps[3]?.getD undef = .slice a3 m3 c3 := hO 3 rfl
      clear hO hJ
      exact wp_move_of e3 fun h => hK _ _ (Below.refl _ _) h⟩,
    fun a u hB hO hJ => .inl ⟨(wanted_of rfl (hJ 27 rfl)), fun K Q hK => by
      have e0 : a.tmps[0]?.getD undef = .slice ad n cap := hO 0 rfl
      clear hO hJ
      exact wp_move_of e0 fun h => hK _ _ (Below.refl _ _) h⟩,
    fun a u hB hO hJ => .inl ⟨(wanted_of rfl (hJ 27 rfl)), fun K Q hK => by
      have e40 : a.tmps[40]?.getD undef = _ := hJ 29 rfl
      clear hO hJ
      go_simp
      try go_bits
      exact hK _ _ (Below.refl _ _) rfl⟩,
    fun a u hB hO hJ => .inl ⟨(wanted_of rfl (hJ 27 rfl)), fun K Q hK => by
      have e39 : a.tmps[39]?.getD undef = _ := hJ 28 rfl
      have e41 : a.tmps[41]?.getD undef = _ := hJ 30 rfl
      clear hO hJ
      have i1 := (HX.out.below hB).slice (Nat.zero_le n) HLn.out
      rw [HT.out] at i1
      exact wp_slice_hi (hi := n) (by rw [evalTmp, e39]) (HX.out.below hB) (by rw [evalTmp, e41]) rfl HLn.out (hK _ _ (Below.refl _ _) i1)⟩,
    fun a u hB hO hJ => .inl ⟨(wanted_of rfl (hJ 27 rfl)), fun K Q hK => by
      have e42 : (PB l) (a.tmps[42]?.getD undef) u := hJ 31 rfl
      clear hO hJ
      exact wp_conv_of rfl e42 (hK _ _ (Below.refl _ _) rfl)⟩,
    fun a u hB hO hJ => .inl ⟨(wanted_of rfl (hJ 27 rfl)), fun K Q hK => by
      have e0 : a.tmps[0]?.getD undef = .slice ad n cap := hO 0 rfl
      clear hO hJ
      exact wp_move_of e0 fun h => hK _ _ (Below.refl _ _) h⟩,
    fun a u hB hO hJ => .inl ⟨(wanted_of rfl (hJ 27 rfl)), fun K Q hK => by
      have e44 : a.tmps[44]?.getD undef = _ := hJ 33 rfl
      clear hO hJ
      exact wp_conv_of e44 (HB.out.below hB) (hK _ _ (Below.refl _ _) rfl)⟩,
    fun a u hB hO hJ => .inl ⟨(wanted_of rfl (hJ 27 rfl)), fun K Q hK => by
      have e43 : a.tmps[43]?.getD undef = _ := hJ 32 rfl
      have e45 : a.tmps[45]?.getD undef = _ := hJ 34 rfl
      clear hO hJ
      go_simp
      try go_bits
      exact hK _ _ (Below.refl _ _) rfl⟩,
    fun a u hB hO hJ => .inl ⟨rfl, fun K Q hK => by
      have e38 : a.tmps[38]?.getD undef = _ := hJ 27 rfl
      have e46 : a.tmps[46]?.getD undef = _ := hJ 35 rfl
      clear hO hJ
      go_simp
      try go_bits
      exact hK _ _ (Below.refl _ _) rfl⟩,
    fun a u hB hO hJ => .inl ⟨rfl, fun K Q hK => by
      have e47 : a.tmps[47]?.getD undef = _ := hJ 36 rfl
      clear hO hJ
      exact wp_move_of e47 fun h => hK _ _ (Below.refl _ _) h⟩,
    fun a u hB hO hJ => .inl ⟨(wanted_of rfl (hJ 37 rfl)), fun K Q hK => by
      have e3 : a.tmps[3]?.getD undef = .slice a3 m3 c3 := hO 3 rfl
      clear hO hJ
      exact wp_move_of e3 fun h => hK _ _ (Below.refl _ _) h⟩,
    fun a u hB hO hJ => .inl ⟨(wanted_of rfl (hJ 37 rfl)), fun K Q hK => by
      have e0 : a.tmps[0]?.getD undef = .slice ad n cap := hO 0 rfl
      clear hO hJ
      exact wp_move_of e0 fun h => hK _ _ (Below.refl _ _) h⟩,
    fun a u hB hO hJ => .inl ⟨(wanted_of rfl (hJ 37 rfl)), fun K Q hK => by
      have e50 : a.tmps[50]?.getD undef = _ := hJ 39 rfl
      clear hO hJ
      go_simp
      try go_bits
      exact hK _ _ (Below.refl _ _) rfl⟩,
    fun a u hB hO hJ => .inl ⟨(wanted_of rfl (hJ 37 rfl)), fun K Q hK => by
      have e49 : a.tmps[49]?.getD undef = _ := hJ 38 rfl
      have e51 : a.tmps[51]?.getD undef = _ := hJ 40 rfl
      clear hO hJ
      have i1 := (HX.out.below hB).slice HLn.out (Nat.le_refl _)
      rw [HD.out] at i1
      exact wp_slice_lo (lo := n) (by rw [evalTmp, e49]) (HX.out.below hB) (by rw [evalTmp, e51]) rfl HLn.out (hK _ _ (Below.refl _ _) i1)⟩,
    fun a u hB hO hJ => .inl ⟨(wanted_of rfl (hJ 37 rfl)), fun K Q hK => by
      have e52 : (PB (List.replicate (padN n) 0)) (a.tmps[52]?.getD undef) u := hJ 41 rfl
      clear hO hJ
      go_simp
      refine (zero_any _ _ _ e52).mono ?_
      rintro e w1 ⟨rfl, b1⟩
      rw [HZ.out]
      exact hK _ _ b1 rfl⟩,
    fun a u hB hO hJ => .inl ⟨rfl, fun K Q hK => by
      have e48 : a.tmps[48]?.getD undef = _ := hJ 37 rfl
      have e53 : a.tmps[53]?.getD undef = _ := hJ 42 rfl
      clear hO hJ
      go_simp
      try go_bits
      exact hK _ _ (Below.refl _ _) rfl⟩,
    fun a u hB hO hJ => .inl ⟨rfl, fun K Q hK => by
      have e54 : a.tmps[54]?.getD undef = _ := hJ 43 rfl
      clear hO hJ
      exact wp_move_of e54 fun h => hK _ _ (Below.refl _ _) h⟩,
    fun a u hB hO hJ => .inl ⟨(wanted_of rfl (hJ 44 rfl)), fun K Q hK => by
      have e3 : a.tmps[3]?.getD undef = .slice a3 m3 c3 := hO 3 rfl
      clear hO hJ
      exact wp_move_of e3 fun h => hK _ _ (Below.refl _ _) h⟩,
    fun a u hB hO hJ => .inl ⟨(wanted_of rfl (hJ 44 rfl)), fun K Q hK => by
      have e56 : a.tmps[56]?.getD undef = _ := hJ 45 rfl
      clear hO hJ
      go_simp
      refine (fill_any _ _ _ (HX.out.below hB) HL.out).mono ?_
      rintro e w1 ⟨v2, rfl, hown, b1⟩
      rw [HF.out] at hown
      exact hK _ _ b1 hown.isB⟩,
    fun a u hB hO hJ => .inl ⟨(wanted_of rfl (hJ 44 rfl)), fun K Q hK => by
      have e57 : (PB (fillL l)) (a.tmps[57]?.getD undef) u := hJ 46 rfl
      clear hO hJ
      exact wp_conv_of rfl e57 (hK _ _ (Below.refl _ _) rfl)⟩,
    fun a u hB hO hJ => .inl ⟨(wanted_of rfl (hJ 44 rfl)), fun K Q hK => by
      have e3 : a.tmps[3]?.getD undef = .slice a3 m3 c3 := hO 3 rfl
      clear hO hJ
      exact wp_move_of e3 fun h => hK _ _ (Below.refl _ _) h⟩,
    fun a u hB hO hJ => .inl ⟨(wanted_of rfl (hJ 44 rfl)), fun K Q hK => by
      have e59 : a.tmps[59]?.getD undef = _ := hJ 48 rfl
      clear hO hJ
      exact wp_conv_of e59 (HX.out.below hB) (hK _ _ (Below.refl _ _) rfl)⟩,
    fun a u hB hO hJ => .inl ⟨(wanted_of rfl (hJ 44 rfl)), fun K Q hK => by
      have e58 : a.tmps[58]?.getD undef = _ := hJ 47 rfl
      have e60 : a.tmps[60]?.getD undef = _ := hJ 49 rfl
      clear hO hJ
      go_simp
      try go_bits
      exact hK _ _ (Below.refl _ _) rfl⟩,
    fun a u hB hO hJ => .inl ⟨rfl, fun K Q hK => by
      have e55 : a.tmps[55]?.getD undef = _ := hJ 44 rfl
      have e61 : a.tmps[61]?.getD undef = _ := hJ 50 rfl
      clear hO hJ
      go_simp
      try go_bits
      exact hK _ _ (Below.refl _ _) rfl⟩,
    trivial⟩ ?fin6
  case fin6 =>
    intro u5 b5 _ _ _ _ _ _
    simp only [Act.put, List.setIfInBounds_toArray, List.set_cons_zero, List.set_cons_succ, List.drop_succ_cons, List.drop_zero, List.take_succ_cons, List.take_zero, Laid]
    have B5 := B2.trans (b5.mono z2)
    clear b5 B2
    go_wp2_with fail
    go_ret
    exact ⟨rfl, B5⟩

set_option maxHeartbeats 1000000 in
theorem padFill_big (ad : Option Addr) (n cap : Nat) (w : World) (hl : 3000 < n) :
    Calls Try.prog 7 #[.slice ad n cap] w fun e w' => e = .returned (.bool true) ∧ Below w.heap.size w w' := by
  have g : (3000 : Int) < n := by omega
  go_enter Try.func7, Try.ntmps7
  go_wp2_with fail
  refine (awake03 _).mono ?_
  rintro e u1 ⟨rfl, b1⟩
  go_wp2_with fail
  go_ret
  exact ⟨rfl, b1⟩

theorem padFill_any (v : Value) (l : List UInt8) (w : World) (hb : IsB w v l) :
    Calls Try.prog 7 #[v] w fun e w' => e = .returned (.bool true) ∧ Below w.heap.size w w' := by
  obtain ⟨ad, n, cap, rfl, hn, _, _⟩ := hb.len'
  by_cases hl : 3000 < n
  · exact padFill_big ad n cap w hl
  · exact padFill_ok ad n cap l w hn (by omega) hb

end Go.Proofs.Ytellclclpmofcaa
