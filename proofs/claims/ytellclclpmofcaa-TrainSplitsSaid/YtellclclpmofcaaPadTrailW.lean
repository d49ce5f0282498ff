/-
  The walk of crossbarlaw03.PadTrail; conditions: the arguments read as data.
-/
import Derived.Test.YtellclclpmofcaaZ
namespace Go.Proofs.Ytellclclpmofcaa
open Go.RowKit

theorem addL_length (l : List UInt8) {k : Nat} (h : 1 ≤ k) : (addL l k).length = l.length + k := by simp [addL]; omega
theorem addL_take (l : List UInt8) (k : Nat) : (addL l k).take l.length = l := by rw [addL, List.append_assoc, List.take_left]

theorem addL_last (l : List UInt8) {k : Nat} (h : 1 ≤ k) : (addL l k)[(addL l k).length - 1]? = some (UInt8.ofNat k) := by
  rw [addL_length l h, addL, List.getElem?_append_right (by simp; omega)]
  simp
  rw [show l.length + k - 1 - (l.length + (k - 1)) = 0 by omega]
  rfl

theorem toNat_ofNat' {k : Nat} (h : k ≤ 255) : (UInt8.ofNat k).toNat = k := by simp; omega

theorem trailN_of_last {L : List UInt8} {k : Nat} (h2 : k ≤ 255) (hl : L[L.length - 1]? = some (UInt8.ofNat k)) (hk : k ≤ L.length) : trailN L = k := by
  rw [trail_last hl, toNat_ofNat' h2, if_neg (by omega)]

theorem trailN_addL (l : List UInt8) {k : Nat} (h : 1 ≤ k) (h2 : k ≤ 255) : trailN (addL l k) = k := trailN_of_last h2 (addL_last l h) (by rw [addL_length l h]; omega)

theorem cleanB_addL (l : List UInt8) {k : Nat} (h : 1 ≤ k) (h2 : k ≤ 255) : cleanB (addL l k) = true := by
  have e : ((addL l k).take ((addL l k).length - 1)).drop ((addL l k).length - k) = List.replicate (k - 1) 0 := by
    rw [addL_length l h]
    have e1 : (addL l k).take (l.length + k - 1) = l ++ List.replicate (k - 1) 0 := by
      rw [addL, show l.length + k - 1 = (l ++ List.replicate (k - 1) (0 : UInt8)).length by simp; omega, List.take_left]
    rw [e1, Nat.add_sub_cancel, List.drop_left]
  rw [cleanB, trailN_addL l h h2, e, (by unfold zeroB; simp : zeroB (List.replicate (k - 1) 0) = true), decide_eq_true (by omega)]
  rfl

theorem cleanB_set (l : List UInt8) {k j : Nat} (y : UInt8) (h : 1 ≤ k) (h2 : k ≤ 255) (hj : l.length ≤ j) (hj2 : j + 1 < l.length + k) (hy : y ≠ 0) : trailN ((addL l k).set j y) = k ∧ cleanB ((addL l k).set j y) = false := by
  have hl : ((addL l k).set j y).length = l.length + k := by rw [List.length_set, addL_length l h]
  have ht : trailN ((addL l k).set j y) = k := by
    refine trailN_of_last h2 ?_ (by omega)
    rw [hl, List.getElem?_set_ne (by omega)]
    have := addL_last l h
    rwa [addL_length l h] at this
  refine ⟨ht, ?_⟩
  rw [cleanB, ht, hl]
  have : zeroB ((((addL l k).set j y).take (l.length + k - 1)).drop (l.length + k - k)) = false := by
    refine zeroB_false (k := j - l.length) (x := y) ?_ hy
    rw [List.getElem?_drop, show l.length + k - k + (j - l.length) = j by omega, List.getElem?_take_of_lt (by omega), List.getElem?_set_self (by rw [addL_length l h]; omega)]
  rw [this]
  simp

theorem Own.shape {w : World} {base : Nat} {v : Value} {l : List UInt8} (h : Own w base v l) (hp : 0 < l.length) : ∃ B c, v = .slice (some ⟨B, 0, none⟩) l.length c := by
  rcases h.2 with ⟨_, h0⟩ | ⟨g, cap, cur, rfl, _⟩
  · omega
  · exact ⟨g, cap, rfl⟩

theorem Own.set {w : World} {base : Nat} {B m c : Nat} {l : List UInt8} (h : Own w base (.slice (some ⟨B, 0, none⟩) m c) l) (j : Nat) (hj : j < l.length) (y : UInt8) :
    (∃ x, w.cell? ⟨B, j, none⟩ = some (.int .u8 x)) ∧ w.frozen? ⟨B, j, none⟩ = false ∧ base ≤ B ∧ Own (w.setCell ⟨B, j, none⟩ (bval y)) base (.slice (some ⟨B, 0, none⟩) m c) (l.set j y) := by
  have hm : m = l.length := by
    rcases h.2 with ⟨h1, _⟩ | ⟨g, cap, cur, h1, _⟩
    · cases h1
    · simp only [Value.slice.injEq] at h1
      exact h1.2.1
  subst hm
  have h1 := World.ownsRow.cellAt h j (by omega)
  have h2 := World.ownsRow.frozenAt h j
  have h3 := (World.ownsRow.stored h j (bval y)).1
  refine ⟨?_, h2, (h.lt B rfl).1, ?_⟩
  · rw [h1, List.getElem?_map, List.getElem?_eq_getElem hj]
    exact ⟨_, rfl⟩
  · unfold Own
    rw [List.length_set, List.map_set]
    exact h3

set_option maxRecDepth 100000 in
set_option maxHeartbeats 2000000 in
theorem padTrail_one (ad : Option Addr) (n cap : Nat) (l : List UInt8) (k : Nat) (att : Nat) (by0 : Int) (hone : k = 1) (w : World) (hn : n = l.length) (hl : n ≤ 3000) (h : IsB w (.slice ad n cap) l) (hk1 : 1 ≤ k) (hk2 : k ≤ 255) :
    Calls Try.prog 6 #[.slice ad n cap, .int .u8 (k : Int), .int .u16 (att : Int), .int .u8 by0] w fun e w' => e = .returned (.bool true) ∧ Below w.heap.size w w' := by
  have hl' : (n : Int) ≤ 3000 := by omega
  have hm := addL_length l hk1
  rw [← hn] at hm
  have HT : Hid (((addL l k).take n).drop 0 = l) := hide (by
    rw [List.drop_zero, hn]
    exact addL_take l k)
  have HC := hide (cleanB_addL l hk1 hk2)
  have HTr := hide (trailN_addL l hk1 hk2)
  have HL0 : Hid (l.length ≤ 1000000) := hide (by omega)
  have HLn : Hid (n ≤ (addL l k).length) := hide (by omega)
  have HB0 := hide h
  have HN := hide hn
  have HK1 := hide hk1
  have HK2 := hide hk2
  obtain ⟨m, hm3⟩ : ∃ m, m = (addL l k).length := ⟨_, rfl⟩
  have k1 : ((m : Int) != (n : Int) + k) = false := by simp; omega
  have k2 : (n : Int) ≤ m := by omega
  have k3 : (m : Int) ≤ 3300 := by omega
  have k5 : (1 : Int) ≤ k := by omega
  have k6 : (k : Int) ≤ 255 := by omega
  have k7 : ((k : Int) == 0) = false := by simp; omega
  have HM := hide hm3
  have HMn : Hid (m = n + k) := hide (by omega)
  clear hn hl h hm hm3 hk1 hk2
  have q1 : ((k : Int) == 1) = true := by simp; omega
  clear hone
  go_enter Try.func6, Try.ntmps6
  go_wp2_with fail
  refine (awake03 _).mono ?_
  rintro e u1 ⟨rfl, b1⟩
  have z1 := b1.size
  go_wp2_with fail
  refine (add_yes _ _ _ _ (HB0.out.below b1) HL0.out HK1.out HK2.out).mono ?_
  rintro e u2 ⟨v2, rfl, o2, b2⟩
  have B2 := b1.trans (b2.mono z1)
  have z2 := B2.size
  obtain ⟨B, c, hv⟩ := o2.shape (by rw [← HM.out, HMn.out]; omega)
  rw [← HM.out] at hv
  subst hv
  have HO := hide o2
  have HB := hide (HB0.out.below B2)
  clear b1 b2 o2
  go_wp2_with fail
  refine (trail_any _ _ _ HO.out.isB).mono ?_
  rintro e u3 ⟨rfl, b3⟩
  rw [trailE, HTr.out, if_neg (by have := HK1.out; omega)]
  have B3 := B2.trans (b3.mono z2)
  have z3 := B3.size
  have HX := hide (HO.out.isB.below b3)
  have HO3 := hide (HO.out.below b3)
  have HB3 := hide (HB.out.below b3)
  clear b3 B2
  go_wp2_with fail
  refine wp_region_mono 36 107 (.val _ :: .val _ :: .val _ :: .val _ :: .val _ :: .val _ :: .val _ :: .val _ :: .val _ :: .val _ :: .val _ :: .val _ :: .val _ :: .val _ :: .val _ :: .val _ :: .val _ :: .val _ :: .val _ :: .val _ :: .val _ :: .val _ :: .val _ :: .val _ :: .val _ :: .pred (PB l) :: .val _ :: .val _ :: .val _ :: .val _ :: .val _ :: .val _ :: .val _ :: .val _ :: .val _ :: .val _ :: []) (by kernel_rfl) (by kernel_rfl) rfl ⟨PB.stable _, trivial⟩ rfl ⟨
    fun a u hB hO hJ => .inl ⟨rfl, fun K Q hK => by
      have e10 : a.tmps[10]?.getD undef = .int .i64 0 := hO 10 rfl
      clear hO hJ
      exact wp_move_of e10 fun h => hK _ _ (Below.refl _ _) h⟩,
    fun a u hB hO hJ => .inl ⟨rfl, fun K Q hK => by
      have e35 : a.tmps[35]?.getD undef = _ := hJ 0 rfl
      clear hO hJ
      go_simp
      try go_bits
      exact hK _ _ (Below.refl _ _) rfl⟩,
    fun a u hB hO hJ => .inl ⟨rfl, fun K Q hK => by
      have e36 : a.tmps[36]?.getD undef = _ := hJ 1 rfl
      clear hO hJ
      exact wp_move_of e36 fun h => hK _ _ (Below.refl _ _) h⟩,
    fun a u hB hO hJ => .inl ⟨(wanted_of rfl (hJ 2 rfl)), fun K Q hK => by
      have e12 : a.tmps[12]?.getD undef = .int .i64 0 := hO 12 rfl
      clear hO hJ
      exact wp_move_of e12 fun h => hK _ _ (Below.refl _ _) h⟩,
    fun a u hB hO hJ => .inl ⟨(wanted_of rfl (hJ 2 rfl)), fun K Q hK => by
      have e38 : a.tmps[38]?.getD undef = _ := hJ 3 rfl
      clear hO hJ
      go_simp
      try go_bits
      exact hK _ _ (Below.refl _ _) rfl⟩,
    fun a u hB hO hJ => .inl ⟨rfl, fun K Q hK => by
      have e37 : a.tmps[37]?.getD undef = _ := hJ 2 rfl
      have e39 : a.tmps[39]?.getD undef = _ := hJ 4 rfl
      clear hO hJ
      go_simp
      try go_bits
      exact hK _ _ (Below.refl _ _) rfl⟩,
    fun a u hB hO hJ => .inl ⟨rfl, fun K Q hK => by
      have e40 : a.tmps[40]?.getD undef = _ := hJ 5 rfl
      clear hO hJ
      exact wp_move_of e40 fun h => hK _ _ (Below.refl _ _) h⟩,
    fun a u hB hO hJ => .inl ⟨(wanted_of rfl (hJ 6 rfl)), fun K Q hK => by
      have e11 : a.tmps[11]?.getD undef = .int .i64 (k : Int) := hO 11 rfl
      clear hO hJ
      exact wp_move_of e11 fun h => hK _ _ (Below.refl _ _) h⟩,
    fun a u hB hO hJ => .inl ⟨(wanted_of rfl (hJ 6 rfl)), fun K Q hK => by
      have e1 : a.tmps[1]?.getD undef = .int .u8 (k : Int) := hO 1 rfl
      clear hO hJ
      exact wp_move_of e1 fun h => hK _ _ (Below.refl _ _) h⟩,
    fun a u hB hO hJ => .inl ⟨(wanted_of rfl (hJ 6 rfl)), fun K Q hK => by
      have e43 : a.tmps[43]?.getD undef = _ := hJ 8 rfl
      clear hO hJ
      go_simp
      try go_bits
      exact hK _ _ (Below.refl _ _) rfl⟩,
    fun a u hB hO hJ => .inl ⟨(wanted_of rfl (hJ 6 rfl)), fun K Q hK => by
      have e42 : a.tmps[42]?.getD undef = _ := hJ 7 rfl
      have e44 : a.tmps[44]?.getD undef = _ := hJ 9 rfl
      clear hO hJ
      go_simp
      try go_bits
      exact hK _ _ (Below.refl _ _) rfl⟩,
    fun a u hB hO hJ => .inl ⟨rfl, fun K Q hK => by
      have e41 : a.tmps[41]?.getD undef = _ := hJ 6 rfl
      have e45 : a.tmps[45]?.getD undef = _ := hJ 10 rfl
      clear hO hJ
      go_simp
      try go_bits
      exact hK _ _ (Below.refl _ _) rfl⟩,
    fun a u hB hO hJ => .inl ⟨rfl, fun K Q hK => by
      have e46 : a.tmps[46]?.getD undef = _ := hJ 11 rfl
      clear hO hJ
      exact wp_move_of e46 fun h => hK _ _ (Below.refl _ _) h⟩,
    fun a u hB hO hJ => .inl ⟨(wanted_of rfl (hJ 12 rfl)), fun K Q hK => by
      have e9 : a.tmps[9]?.getD undef = .slice (some ⟨B, 0, none⟩) m c := hO 9 rfl
      clear hO hJ
      exact wp_move_of e9 fun h => hK _ _ (Below.refl _ _) h⟩,
    fun a u hB hO hJ => .inl ⟨(wanted_of rfl (hJ 12 rfl)), fun K Q hK => by
      have e48 : a.tmps[48]?.getD undef = _ := hJ 13 rfl
      clear hO hJ
      go_simp
      try go_bits
      exact hK _ _ (Below.refl _ _) rfl⟩,
    fun a u hB hO hJ => .inl ⟨(wanted_of rfl (hJ 12 rfl)), fun K Q hK => by
      have e0 : a.tmps[0]?.getD undef = .slice ad n cap := hO 0 rfl
      clear hO hJ
      exact wp_move_of e0 fun h => hK _ _ (Below.refl _ _) h⟩,
    fun a u hB hO hJ => .inl ⟨(wanted_of rfl (hJ 12 rfl)), fun K Q hK => by
      have e50 : a.tmps[50]?.getD undef = _ := hJ 15 rfl
      clear hO hJ
      go_simp
      try go_bits
      exact hK _ _ (Below.refl _ _) rfl⟩,
    fun a u hB hO hJ => .inl ⟨(wanted_of rfl (hJ 12 rfl)), fun K Q hK => by
      have e11 : a.tmps[11]?.getD undef = .int .i64 (k : Int) := hO 11 rfl
      clear hO hJ
      exact wp_move_of e11 fun h => hK _ _ (Below.refl _ _) h⟩,
    fun a u hB hO hJ => .inl ⟨(wanted_of rfl (hJ 12 rfl)), fun K Q hK => by
      have e51 : a.tmps[51]?.getD undef = _ := hJ 16 rfl
      have e52 : a.tmps[52]?.getD undef = _ := hJ 17 rfl
      clear hO hJ
      go_simp
      try go_bits
      exact hK _ _ (Below.refl _ _) rfl⟩,
    fun a u hB hO hJ => .inl ⟨(wanted_of rfl (hJ 12 rfl)), fun K Q hK => by
      have e49 : a.tmps[49]?.getD undef = _ := hJ 14 rfl
      have e53 : a.tmps[53]?.getD undef = _ := hJ 18 rfl
      clear hO hJ
      go_simp
      try go_bits
      exact hK _ _ (Below.refl _ _) rfl⟩,
    fun a u hB hO hJ => .inl ⟨rfl, fun K Q hK => by
      have e47 : a.tmps[47]?.getD undef = _ := hJ 12 rfl
      have e54 : a.tmps[54]?.getD undef = _ := hJ 19 rfl
      clear hO hJ
      go_simp
      try go_bits
      exact hK _ _ (Below.refl _ _) rfl⟩,
    fun a u hB hO hJ => .inl ⟨rfl, fun K Q hK => by
      have e55 : a.tmps[55]?.getD undef = _ := hJ 20 rfl
      clear hO hJ
      exact wp_move_of e55 fun h => hK _ _ (Below.refl _ _) h⟩,
    fun a u hB hO hJ => .inl ⟨(wanted_of rfl (hJ 21 rfl)), fun K Q hK => by
      have e9 : a.tmps[9]?.getD undef = .slice (some ⟨B, 0, none⟩) m c := hO 9 rfl
      clear hO hJ
      exact wp_move_of e9 fun h => hK _ _ (Below.refl _ _) h⟩,
    fun a u hB hO hJ => .inl ⟨(wanted_of rfl (hJ 21 rfl)), fun K Q hK => by
      have e0 : a.tmps[0]?.getD undef = .slice ad n cap := hO 0 rfl
      clear hO hJ
      exact wp_move_of e0 fun h => hK _ _ (Below.refl _ _) h⟩,
    fun a u hB hO hJ => .inl ⟨(wanted_of rfl (hJ 21 rfl)), fun K Q hK => by
      have e58 : a.tmps[58]?.getD undef = _ := hJ 23 rfl
      clear hO hJ
      go_simp
      try go_bits
      exact hK _ _ (Below.refl _ _) rfl⟩,
    fun a u hB hO hJ => .inl ⟨(wanted_of rfl (hJ 21 rfl)), fun K Q hK => by
      have e57 : a.tmps[57]?.getD undef = _ := hJ 22 rfl
      have e59 : a.tmps[59]?.getD undef = _ := hJ 24 rfl
      clear hO hJ
      have i1 := (HX.out.below hB).slice (Nat.zero_le n) HLn.out
      rw [HT.out] at i1
      exact wp_slice_hi (hi := n) (by rw [evalTmp, e57]) (HX.out.below hB) (by rw [evalTmp, e59]) rfl HLn.out (hK _ _ (Below.refl _ _) i1)⟩,
    fun a u hB hO hJ => .inl ⟨(wanted_of rfl (hJ 21 rfl)), fun K Q hK => by
      have e60 : (PB l) (a.tmps[60]?.getD undef) u := hJ 25 rfl
      clear hO hJ
      exact wp_conv_of rfl e60 (hK _ _ (Below.refl _ _) rfl)⟩,
    fun a u hB hO hJ => .inl ⟨(wanted_of rfl (hJ 21 rfl)), fun K Q hK => by
      have e0 : a.tmps[0]?.getD undef = .slice ad n cap := hO 0 rfl
      clear hO hJ
      exact wp_move_of e0 fun h => hK _ _ (Below.refl _ _) h⟩,
    fun a u hB hO hJ => .inl ⟨(wanted_of rfl (hJ 21 rfl)), fun K Q hK => by
      have e62 : a.tmps[62]?.getD undef = _ := hJ 27 rfl
      clear hO hJ
      exact wp_conv_of e62 (HB3.out.below hB) (hK _ _ (Below.refl _ _) rfl)⟩,
    fun a u hB hO hJ => .inl ⟨(wanted_of rfl (hJ 21 rfl)), fun K Q hK => by
      have e61 : a.tmps[61]?.getD undef = _ := hJ 26 rfl
      have e63 : a.tmps[63]?.getD undef = _ := hJ 28 rfl
      clear hO hJ
      go_simp
      try go_bits
      exact hK _ _ (Below.refl _ _) rfl⟩,
    fun a u hB hO hJ => .inl ⟨rfl, fun K Q hK => by
      have e56 : a.tmps[56]?.getD undef = _ := hJ 21 rfl
      have e64 : a.tmps[64]?.getD undef = _ := hJ 29 rfl
      clear hO hJ
      go_simp
      try go_bits
      exact hK _ _ (Below.refl _ _) rfl⟩,
    fun a u hB hO hJ => .inl ⟨rfl, fun K Q hK => by
      have e65 : a.tmps[65]?.getD undef = _ := hJ 30 rfl
      clear hO hJ
      exact wp_move_of e65 fun h => hK _ _ (Below.refl _ _) h⟩,
    fun a u hB hO hJ => .inl ⟨(wanted_of rfl (hJ 31 rfl)), fun K Q hK => by
      have e9 : a.tmps[9]?.getD undef = .slice (some ⟨B, 0, none⟩) m c := hO 9 rfl
      clear hO hJ
      exact wp_move_of e9 fun h => hK _ _ (Below.refl _ _) h⟩,
    fun a u hB hO hJ => .inl ⟨(wanted_of rfl (hJ 31 rfl)), fun K Q hK => by
      have e67 : a.tmps[67]?.getD undef = _ := hJ 32 rfl
      clear hO hJ
      go_simp
      refine (clean_any _ _ _ (HX.out.below hB)).mono ?_
      rintro e w1 ⟨rfl, b1⟩
      rw [HC.out]
      exact hK _ _ b1 rfl⟩,
    fun a u hB hO hJ => .inl ⟨(wanted_of rfl (hJ 31 rfl)), fun K Q hK => by
      have e68 : a.tmps[68]?.getD undef = _ := hJ 33 rfl
      clear hO hJ
      go_simp
      try go_bits
      exact hK _ _ (Below.refl _ _) rfl⟩,
    fun a u hB hO hJ => .inl ⟨rfl, fun K Q hK => by
      have e66 : a.tmps[66]?.getD undef = _ := hJ 31 rfl
      have e69 : a.tmps[69]?.getD undef = _ := hJ 34 rfl
      clear hO hJ
      go_simp
      try go_bits
      exact hK _ _ (Below.refl _ _) rfl⟩,
    trivial⟩ ?fin9
  case fin9 =>
    intro u4 b4 _ _
    simp only [Act.put, List.setIfInBounds_toArray, List.set_cons_zero, List.set_cons_succ, List.drop_succ_cons, List.drop_nil, List.take_succ_cons, List.take_nil, Laid]
    have B4 := B3.trans (b4.mono z3)
    have z4 := B4.size
    have HO4 := hide (HO3.out.below b4)
    clear b4 B3
    go_wp2_with fail
    go_ret
    exact ⟨rfl, B4⟩

set_option maxRecDepth 100000 in
set_option maxHeartbeats 2000000 in
theorem padTrail_null (ad : Option Addr) (n cap : Nat) (l : List UInt8) (k : Nat) (att : Nat) (by0 : Int) (hone : 1 < k) (hby : by0 = 0) (w : World) (hn : n = l.length) (hl : n ≤ 3000) (h : IsB w (.slice ad n cap) l) (hk1 : 1 ≤ k) (hk2 : k ≤ 255) :
    Calls Try.prog 6 #[.slice ad n cap, .int .u8 (k : Int), .int .u16 (att : Int), .int .u8 by0] w fun e w' => e = .returned (.bool true) ∧ Below w.heap.size w w' := by
  have hl' : (n : Int) ≤ 3000 := by omega
  have hm := addL_length l hk1
  rw [← hn] at hm
  have HT : Hid (((addL l k).take n).drop 0 = l) := hide (by
    rw [List.drop_zero, hn]
    exact addL_take l k)
  have HC := hide (cleanB_addL l hk1 hk2)
  have HTr := hide (trailN_addL l hk1 hk2)
  have HL0 : Hid (l.length ≤ 1000000) := hide (by omega)
  have HLn : Hid (n ≤ (addL l k).length) := hide (by omega)
  have HB0 := hide h
  have HN := hide hn
  have HK1 := hide hk1
  have HK2 := hide hk2
  obtain ⟨m, hm3⟩ : ∃ m, m = (addL l k).length := ⟨_, rfl⟩
  have k1 : ((m : Int) != (n : Int) + k) = false := by simp; omega
  have k2 : (n : Int) ≤ m := by omega
  have k3 : (m : Int) ≤ 3300 := by omega
  have k5 : (1 : Int) ≤ k := by omega
  have k6 : (k : Int) ≤ 255 := by omega
  have k7 : ((k : Int) == 0) = false := by simp; omega
  have HM := hide hm3
  have HMn : Hid (m = n + k) := hide (by omega)
  clear hn hl h hm hm3 hk1 hk2
  go_enter Try.func6, Try.ntmps6
  go_wp2_with fail
  refine (awake03 _).mono ?_
  rintro e u1 ⟨rfl, b1⟩
  have z1 := b1.size
  go_wp2_with fail
  refine (add_yes _ _ _ _ (HB0.out.below b1) HL0.out HK1.out HK2.out).mono ?_
  rintro e u2 ⟨v2, rfl, o2, b2⟩
  have B2 := b1.trans (b2.mono z1)
  have z2 := B2.size
  obtain ⟨B, c, hv⟩ := o2.shape (by rw [← HM.out, HMn.out]; omega)
  rw [← HM.out] at hv
  subst hv
  have HO := hide o2
  have HB := hide (HB0.out.below B2)
  clear b1 b2 o2
  go_wp2_with fail
  refine (trail_any _ _ _ HO.out.isB).mono ?_
  rintro e u3 ⟨rfl, b3⟩
  rw [trailE, HTr.out, if_neg (by have := HK1.out; omega)]
  have B3 := B2.trans (b3.mono z2)
  have z3 := B3.size
  have HX := hide (HO.out.isB.below b3)
  have HO3 := hide (HO.out.below b3)
  have HB3 := hide (HB.out.below b3)
  clear b3 B2
  subst hby
  have q1 : ((k : Int) == 1) = false := by simp; omega
  go_wp2_with fail
  refine wp_region_mono 36 107 (.val _ :: .val _ :: .val _ :: .val _ :: .val _ :: .val _ :: .val _ :: .val _ :: .val _ :: .val _ :: .val _ :: .val _ :: .val _ :: .val _ :: .val _ :: .val _ :: .val _ :: .val _ :: .val _ :: .val _ :: .val _ :: .val _ :: .val _ :: .val _ :: .val _ :: .pred (PB l) :: .val _ :: .val _ :: .val _ :: .val _ :: .val _ :: .val _ :: .val _ :: .val _ :: .val _ :: .val _ :: []) (by kernel_rfl) (by kernel_rfl) rfl ⟨PB.stable _, trivial⟩ rfl ⟨
    fun a u hB hO hJ => .inl ⟨rfl, fun K Q hK => by
      have e10 : a.tmps[10]?.getD undef = .int .i64 0 := hO 10 rfl
      clear hO hJ
      exact wp_move_of e10 fun h => hK _ _ (Below.refl _ _) h⟩,
    fun a u hB hO hJ => .inl ⟨rfl, fun K Q hK => by
      have e35 : a.tmps[35]?.getD undef = _ := hJ 0 rfl
      clear hO hJ
      go_simp
      try go_bits
      exact hK _ _ (Below.refl _ _) rfl⟩,
    fun a u hB hO hJ => .inl ⟨rfl, fun K Q hK => by
      have e36 : a.tmps[36]?.getD undef = _ := hJ 1 rfl
      clear hO hJ
      exact wp_move_of e36 fun h => hK _ _ (Below.refl _ _) h⟩,
    fun a u hB hO hJ => .inl ⟨(wanted_of rfl (hJ 2 rfl)), fun K Q hK => by
      have e12 : a.tmps[12]?.getD undef = .int .i64 0 := hO 12 rfl
      clear hO hJ
      exact wp_move_of e12 fun h => hK _ _ (Below.refl _ _) h⟩,
    fun a u hB hO hJ => .inl ⟨(wanted_of rfl (hJ 2 rfl)), fun K Q hK => by
      have e38 : a.tmps[38]?.getD undef = _ := hJ 3 rfl
      clear hO hJ
      go_simp
      try go_bits
      exact hK _ _ (Below.refl _ _) rfl⟩,
    fun a u hB hO hJ => .inl ⟨rfl, fun K Q hK => by
      have e37 : a.tmps[37]?.getD undef = _ := hJ 2 rfl
      have e39 : a.tmps[39]?.getD undef = _ := hJ 4 rfl
      clear hO hJ
      go_simp
      try go_bits
      exact hK _ _ (Below.refl _ _) rfl⟩,
    fun a u hB hO hJ => .inl ⟨rfl, fun K Q hK => by
      have e40 : a.tmps[40]?.getD undef = _ := hJ 5 rfl
      clear hO hJ
      exact wp_move_of e40 fun h => hK _ _ (Below.refl _ _) h⟩,
    fun a u hB hO hJ => .inl ⟨(wanted_of rfl (hJ 6 rfl)), fun K Q hK => by
      have e11 : a.tmps[11]?.getD undef = .int .i64 (k : Int) := hO 11 rfl
      clear hO hJ
      exact wp_move_of e11 fun h => hK _ _ (Below.refl _ _) h⟩,
    fun a u hB hO hJ => .inl ⟨(wanted_of rfl (hJ 6 rfl)), fun K Q hK => by
      have e1 : a.tmps[1]?.getD undef = .int .u8 (k : Int) := hO 1 rfl
      clear hO hJ
      exact wp_move_of e1 fun h => hK _ _ (Below.refl _ _) h⟩,
    fun a u hB hO hJ => .inl ⟨(wanted_of rfl (hJ 6 rfl)), fun K Q hK => by
      have e43 : a.tmps[43]?.getD undef = _ := hJ 8 rfl
      clear hO hJ
      go_simp
      try go_bits
      exact hK _ _ (Below.refl _ _) rfl⟩,
    fun a u hB hO hJ => .inl ⟨(wanted_of rfl (hJ 6 rfl)), fun K Q hK => by
      have e42 : a.tmps[42]?.getD undef = _ := hJ 7 rfl
      have e44 : a.tmps[44]?.getD undef = _ := hJ 9 rfl
      clear hO hJ
      go_simp
      try go_bits
      exact hK _ _ (Below.refl _ _) rfl⟩,
    fun a u hB hO hJ => .inl ⟨rfl, fun K Q hK => by
      have e41 : a.tmps[41]?.getD undef = _ := hJ 6 rfl
      have e45 : a.tmps[45]?.getD undef = _ := hJ 10 rfl
      clear hO hJ
      go_simp
      try go_bits
      exact hK _ _ (Below.refl _ _) rfl⟩,
    fun a u hB hO hJ => .inl ⟨rfl, fun K Q hK => by
      have e46 : a.tmps[46]?.getD undef = _ := hJ 11 rfl
      clear hO hJ
      exact wp_move_of e46 fun h => hK _ _ (Below.refl _ _) h⟩,
    fun a u hB hO hJ => .inl ⟨(wanted_of rfl (hJ 12 rfl)), fun K Q hK => by
      have e9 : a.tmps[9]?.getD undef = .slice (some ⟨B, 0, none⟩) m c := hO 9 rfl
      clear hO hJ
      exact wp_move_of e9 fun h => hK _ _ (Below.refl _ _) h⟩,
    fun a u hB hO hJ => .inl ⟨(wanted_of rfl (hJ 12 rfl)), fun K Q hK => by
      have e48 : a.tmps[48]?.getD undef = _ := hJ 13 rfl
      clear hO hJ
      go_simp
      try go_bits
      exact hK _ _ (Below.refl _ _) rfl⟩,
    fun a u hB hO hJ => .inl ⟨(wanted_of rfl (hJ 12 rfl)), fun K Q hK => by
      have e0 : a.tmps[0]?.getD undef = .slice ad n cap := hO 0 rfl
      clear hO hJ
      exact wp_move_of e0 fun h => hK _ _ (Below.refl _ _) h⟩,
    fun a u hB hO hJ => .inl ⟨(wanted_of rfl (hJ 12 rfl)), fun K Q hK => by
      have e50 : a.tmps[50]?.getD undef = _ := hJ 15 rfl
      clear hO hJ
      go_simp
      try go_bits
      exact hK _ _ (Below.refl _ _) rfl⟩,
    fun a u hB hO hJ => .inl ⟨(wanted_of rfl (hJ 12 rfl)), fun K Q hK => by
      have e11 : a.tmps[11]?.getD undef = .int .i64 (k : Int) := hO 11 rfl
      clear hO hJ
      exact wp_move_of e11 fun h => hK _ _ (Below.refl _ _) h⟩,
    fun a u hB hO hJ => .inl ⟨(wanted_of rfl (hJ 12 rfl)), fun K Q hK => by
      have e51 : a.tmps[51]?.getD undef = _ := hJ 16 rfl
      have e52 : a.tmps[52]?.getD undef = _ := hJ 17 rfl
      clear hO hJ
      go_simp
      try go_bits
      exact hK _ _ (Below.refl _ _) rfl⟩,
    fun a u hB hO hJ => .inl ⟨(wanted_of rfl (hJ 12 rfl)), fun K Q hK => by
      have e49 : a.tmps[49]?.getD undef = _ := hJ 14 rfl
      have e53 : a.tmps[53]?.getD undef = _ := hJ 18 rfl
      clear hO hJ
      go_simp
      try go_bits
      exact hK _ _ (Below.refl _ _) rfl⟩,
    fun a u hB hO hJ => .inl ⟨rfl, fun K Q hK => by
      have e47 : a.tmps[47]?.getD undef = _ := hJ 12 rfl
      have e54 : a.tmps[54]?.getD undef = _ := hJ 19 rfl
      clear hO hJ
      go_simp
      try go_bits
      exact hK _ _ (Below.refl _ _) rfl⟩,
    fun a u hB hO hJ => .inl ⟨rfl, fun K Q hK => by
      have e55 : a.tmps[55]?.getD undef = _ := hJ 20 rfl
      clear hO hJ
      exact wp_move_of e55 fun h => hK _ _ (Below.refl _ _) h⟩,
    fun a u hB hO hJ => .inl ⟨(wanted_of rfl (hJ 21 rfl)), fun K Q hK => by
      have e9 : a.tmps[9]?.getD undef = .slice (some ⟨B, 0, none⟩) m c := hO 9 rfl
      clear hO hJ
      exact wp_move_of e9 fun h => hK _ _ (Below.refl _ _) h⟩,
    fun a u hB hO hJ => .inl ⟨(wanted_of rfl (hJ 21 rfl)), fun K Q hK => by
      have e0 : a.tmps[0]?.getD undef = .slice ad n cap := hO 0 rfl
      clear hO hJ
      exact wp_move_of e0 fun h => hK _ _ (Below.refl _ _) h⟩,
    fun a u hB hO hJ => .inl ⟨(wanted_of rfl (hJ 21 rfl)), fun K Q hK => by
      have e58 : a.tmps[58]?.getD undef = _ := hJ 23 rfl
      clear hO hJ
      go_simp
      try go_bits
      exact hK _ _ (Below.refl _ _) rfl⟩,
    fun a u hB hO hJ => .inl ⟨(wanted_of rfl (hJ 21 rfl)), fun K Q hK => by
      have e57 : a.tmps[57]?.getD undef = _ := hJ 22 rfl
      have e59 : a.tmps[59]?.getD undef = _ := hJ 24 rfl
      clear hO hJ
      have i1 := (HX.out.below hB).slice (Nat.zero_le n) HLn.out
      rw [HT.out] at i1
      exact wp_slice_hi (hi := n) (by rw [evalTmp, e57]) (HX.out.below hB) (by rw [evalTmp, e59]) rfl HLn.out (hK _ _ (Below.refl _ _) i1)⟩,
    fun a u hB hO hJ => .inl ⟨(wanted_of rfl (hJ 21 rfl)), fun K Q hK => by
      have e60 : (PB l) (a.tmps[60]?.getD undef) u := hJ 25 rfl
      clear hO hJ
      exact wp_conv_of rfl e60 (hK _ _ (Below.refl _ _) rfl)⟩,
    fun a u hB hO hJ => .inl ⟨(wanted_of rfl (hJ 21 rfl)), fun K Q hK => by
      have e0 : a.tmps[0]?.getD undef = .slice ad n cap := hO 0 rfl
      clear hO hJ
      exact wp_move_of e0 fun h => hK _ _ (Below.refl _ _) h⟩,
    fun a u hB hO hJ => .inl ⟨(wanted_of rfl (hJ 21 rfl)), fun K Q hK => by
      have e62 : a.tmps[62]?.getD undef = _ := hJ 27 rfl
      clear hO hJ
      exact wp_conv_of e62 (HB3.out.below hB) (hK _ _ (Below.refl _ _) rfl)⟩,
    fun a u hB hO hJ => .inl ⟨(wanted_of rfl (hJ 21 rfl)), fun K Q hK => by
      have e61 : a.tmps[61]?.getD undef = _ := hJ 26 rfl
      have e63 : a.tmps[63]?.getD undef = _ := hJ 28 rfl
      clear hO hJ
      go_simp
      try go_bits
      exact hK _ _ (Below.refl _ _) rfl⟩,
    fun a u hB hO hJ => .inl ⟨rfl, fun K Q hK => by
      have e56 : a.tmps[56]?.getD undef = _ := hJ 21 rfl
      have e64 : a.tmps[64]?.getD undef = _ := hJ 29 rfl
      clear hO hJ
      go_simp
      try go_bits
      exact hK _ _ (Below.refl _ _) rfl⟩,
    fun a u hB hO hJ => .inl ⟨rfl, fun K Q hK => by
      have e65 : a.tmps[65]?.getD undef = _ := hJ 30 rfl
      clear hO hJ
      exact wp_move_of e65 fun h => hK _ _ (Below.refl _ _) h⟩,
    fun a u hB hO hJ => .inl ⟨(wanted_of rfl (hJ 31 rfl)), fun K Q hK => by
      have e9 : a.tmps[9]?.getD undef = .slice (some ⟨B, 0, none⟩) m c := hO 9 rfl
      clear hO hJ
      exact wp_move_of e9 fun h => hK _ _ (Below.refl _ _) h⟩,
    fun a u hB hO hJ => .inl ⟨(wanted_of rfl (hJ 31 rfl)), fun K Q hK => by
      have e67 : a.tmps[67]?.getD undef = _ := hJ 32 rfl
      clear hO hJ
      go_simp
      refine (clean_any _ _ _ (HX.out.below hB)).mono ?_
      rintro e w1 ⟨rfl, b1⟩
      rw [HC.out]
      exact hK _ _ b1 rfl⟩,
    fun a u hB hO hJ => .inl ⟨(wanted_of rfl (hJ 31 rfl)), fun K Q hK => by
      have e68 : a.tmps[68]?.getD undef = _ := hJ 33 rfl
      clear hO hJ
      go_simp
      try go_bits
      exact hK _ _ (Below.refl _ _) rfl⟩,
    fun a u hB hO hJ => .inl ⟨rfl, fun K Q hK => by
      have e66 : a.tmps[66]?.getD undef = _ := hJ 31 rfl
      have e69 : a.tmps[69]?.getD undef = _ := hJ 34 rfl
      clear hO hJ
      go_simp
      try go_bits
      exact hK _ _ (Below.refl _ _) rfl⟩,
    trivial⟩ ?fin9
  case fin9 =>
    intro u4 b4 _ _
    simp only [Act.put, List.setIfInBounds_toArray, List.set_cons_zero, List.set_cons_succ, List.drop_succ_cons, List.drop_nil, List.take_succ_cons, List.take_nil, Laid]
    have B4 := B3.trans (b4.mono z3)
    have z4 := B4.size
    have HO4 := hide (HO3.out.below b4)
    clear b4 B3
    go_wp2_with fail
    go_ret
    exact ⟨rfl, B4⟩

set_option maxRecDepth 100000 in
set_option maxHeartbeats 2000000 in
theorem padTrail_set (ad : Option Addr) (n cap : Nat) (l : List UInt8) (k : Nat) (att : Nat) (hat : (att : Int) ≤ 65535) (by0 : Int) (y : UInt8) (hone : 1 < k) (hby : by0 = (y.toNat : Int)) (hy : y ≠ 0) (w : World) (hn : n = l.length) (hl : n ≤ 3000) (h : IsB w (.slice ad n cap) l) (hk1 : 1 ≤ k) (hk2 : k ≤ 255) :
    Calls Try.prog 6 #[.slice ad n cap, .int .u8 (k : Int), .int .u16 (att : Int), .int .u8 by0] w fun e w' => e = .returned (.bool true) ∧ Below w.heap.size w w' := by
  have hl' : (n : Int) ≤ 3000 := by omega
  have hm := addL_length l hk1
  rw [← hn] at hm
  have HT : Hid (((addL l k).take n).drop 0 = l) := hide (by
    rw [List.drop_zero, hn]
    exact addL_take l k)
  have HC := hide (cleanB_addL l hk1 hk2)
  have HTr := hide (trailN_addL l hk1 hk2)
  have HL0 : Hid (l.length ≤ 1000000) := hide (by omega)
  have HLn : Hid (n ≤ (addL l k).length) := hide (by omega)
  have HB0 := hide h
  have HN := hide hn
  have HK1 := hide hk1
  have HK2 := hide hk2
  obtain ⟨m, hm3⟩ : ∃ m, m = (addL l k).length := ⟨_, rfl⟩
  have k1 : ((m : Int) != (n : Int) + k) = false := by simp; omega
  have k2 : (n : Int) ≤ m := by omega
  have k3 : (m : Int) ≤ 3300 := by omega
  have k5 : (1 : Int) ≤ k := by omega
  have k6 : (k : Int) ≤ 255 := by omega
  have k7 : ((k : Int) == 0) = false := by simp; omega
  have HM := hide hm3
  have HMn : Hid (m = n + k) := hide (by omega)
  clear hn hl h hm hm3 hk1 hk2
  go_enter Try.func6, Try.ntmps6
  go_wp2_with fail
  refine (awake03 _).mono ?_
  rintro e u1 ⟨rfl, b1⟩
  have z1 := b1.size
  go_wp2_with fail
  refine (add_yes _ _ _ _ (HB0.out.below b1) HL0.out HK1.out HK2.out).mono ?_
  rintro e u2 ⟨v2, rfl, o2, b2⟩
  have B2 := b1.trans (b2.mono z1)
  have z2 := B2.size
  obtain ⟨B, c, hv⟩ := o2.shape (by rw [← HM.out, HMn.out]; omega)
  rw [← HM.out] at hv
  subst hv
  have HO := hide o2
  have z2' := z1
  have HB := hide (HB0.out.below B2)
  clear b1 b2 o2
  go_wp2_with fail
  refine (trail_any _ _ _ HO.out.isB).mono ?_
  rintro e u3 ⟨rfl, b3⟩
  rw [trailE, HTr.out, if_neg (by have := HK1.out; omega)]
  have B3 := B2.trans (b3.mono z2)
  have z3 := B3.size
  have HX := hide (HO.out.isB.below b3)
  have HO3 := hide (HO.out.below b3)
  have HB3 := hide (HB.out.below b3)
  clear b3 B2
  subst hby
  have q1 : ((k : Int) == 1) = false := by simp; omega
  have q3 : ((y.toNat : Int) == 0) = false := by
    simp
    intro e
    exact hy (by rw [← UInt8.toNat_inj]; simpa using e)
  have HY := hide hy
  have q4 := y.toNat_lt
  have q5 : (1 : Int) ≤ (k : Int) - 1 := by omega
  have q6 : 0 ≤ (att : Int) % ((k : Int) - 1) := Int.emod_nonneg _ (by omega)
  have q7 : (att : Int) % ((k : Int) - 1) < (k : Int) - 1 := Int.emod_lt_of_pos _ (by omega)
  obtain ⟨r, hr⟩ : ∃ r : Nat, (att : Int) % ((k : Int) - 1) = (r : Int) := ⟨((att : Int) % ((k : Int) - 1)).toNat, by omega⟩
  have q8 : (r : Int) < k - 1 := by omega
  clear q6 q7 hy
  go_wp2_with fail
  refine wp_region_mono 36 107 (.val _ :: .val _ :: .val _ :: .val _ :: .val _ :: .val _ :: .val _ :: .val _ :: .val _ :: .val _ :: .val _ :: .val _ :: .val _ :: .val _ :: .val _ :: .val _ :: .val _ :: .val _ :: .val _ :: .val _ :: .val _ :: .val _ :: .val _ :: .val _ :: .val _ :: .pred (PB l) :: .val _ :: .val _ :: .val _ :: .val _ :: .val _ :: .val _ :: .val _ :: .val _ :: .val _ :: .val _ :: []) (by kernel_rfl) (by kernel_rfl) rfl ⟨PB.stable _, trivial⟩ rfl ⟨
    fun a u hB hO hJ => .inl ⟨rfl, fun K Q hK => by
      have e10 : a.tmps[10]?.getD undef = .int .i64 0 := hO 10 rfl
      clear hO hJ
      exact wp_move_of e10 fun h => hK _ _ (Below.refl _ _) h⟩,
    fun a u hB hO hJ => .inl ⟨rfl, fun K Q hK => by
      have e35 : a.tmps[35]?.getD undef = _ := hJ 0 rfl
      clear hO hJ
      go_simp
      try go_bits
      exact hK _ _ (Below.refl _ _) rfl⟩,
    fun a u hB hO hJ => .inl ⟨rfl, fun K Q hK => by
      have e36 : a.tmps[36]?.getD undef = _ := hJ 1 rfl
      clear hO hJ
      exact wp_move_of e36 fun h => hK _ _ (Below.refl _ _) h⟩,
    fun a u hB hO hJ => .inl ⟨(wanted_of rfl (hJ 2 rfl)), fun K Q hK => by
      have e12 : a.tmps[12]?.getD undef = .int .i64 0 := hO 12 rfl
      clear hO hJ
      exact wp_move_of e12 fun h => hK _ _ (Below.refl _ _) h⟩,
    fun a u hB hO hJ => .inl ⟨(wanted_of rfl (hJ 2 rfl)), fun K Q hK => by
      have e38 : a.tmps[38]?.getD undef = _ := hJ 3 rfl
      clear hO hJ
      go_simp
      try go_bits
      exact hK _ _ (Below.refl _ _) rfl⟩,
    fun a u hB hO hJ => .inl ⟨rfl, fun K Q hK => by
      have e37 : a.tmps[37]?.getD undef = _ := hJ 2 rfl
      have e39 : a.tmps[39]?.getD undef = _ := hJ 4 rfl
      clear hO hJ
      go_simp
      try go_bits
      exact hK _ _ (Below.refl _ _) rfl⟩,
    fun a u hB hO hJ => .inl ⟨rfl, fun K Q hK => by
      have e40 : a.tmps[40]?.getD undef = _ := hJ 5 rfl
      clear hO hJ
      exact wp_move_of e40 fun h => hK _ _ (Below.refl _ _) h⟩,
    fun a u hB hO hJ => .inl ⟨(wanted_of rfl (hJ 6 rfl)), fun K Q hK => by
      have e11 : a.tmps[11]?.getD undef = .int .i64 (k : Int) := hO 11 rfl
      clear hO hJ
      exact wp_move_of e11 fun h => hK _ _ (Below.refl _ _) h⟩,
    fun a u hB hO hJ => .inl ⟨(wanted_of rfl (hJ 6 rfl)), fun K Q hK => by
      have e1 : a.tmps[1]?.getD undef = .int .u8 (k : Int) := hO 1 rfl
      clear hO hJ
      exact wp_move_of e1 fun h => hK _ _ (Below.refl _ _) h⟩,
    fun a u hB hO hJ => .inl ⟨(wanted_of rfl (hJ 6 rfl)), fun K Q hK => by
      have e43 : a.tmps[43]?.getD undef = _ := hJ 8 rfl
      clear hO hJ
      go_simp
      try go_bits
      exact hK _ _ (Below.refl _ _) rfl⟩,
    fun a u hB hO hJ => .inl ⟨(wanted_of rfl (hJ 6 rfl)), fun K Q hK => by
      have e42 : a.tmps[42]?.getD undef = _ := hJ 7 rfl
      have e44 : a.tmps[44]?.getD undef = _ := hJ 9 rfl
      clear hO hJ
      go_simp
      try go_bits
      exact hK _ _ (Below.refl _ _) rfl⟩,
    fun a u hB hO hJ => .inl ⟨rfl, fun K Q hK => by
      have e41 : a.tmps[41]?.getD undef = _ := hJ 6 rfl
      have e45 : a.tmps[45]?.getD undef = _ := hJ 10 rfl
      clear hO hJ
      go_simp
      try go_bits
      exact hK _ _ (Below.refl _ _) rfl⟩,
    fun a u hB hO hJ => .inl ⟨rfl, fun K Q hK => by
      have e46 : a.tmps[46]?.getD undef = _ := hJ 11 rfl
      clear hO hJ
      exact wp_move_of e46 fun h => hK _ _ (Below.refl _ _) h⟩,
    fun a u hB hO hJ => .inl ⟨(wanted_of rfl (hJ 12 rfl)), fun K Q hK => by
      have e9 : a.tmps[9]?.getD undef = .slice (some ⟨B, 0, none⟩) m c := hO 9 rfl
      clear hO hJ
      exact wp_move_of e9 fun h => hK _ _ (Below.refl _ _) h⟩,
    fun a u hB hO hJ => .inl ⟨(wanted_of rfl (hJ 12 rfl)), fun K Q hK => by
      have e48 : a.tmps[48]?.getD undef = _ := hJ 13 rfl
      clear hO hJ
      go_simp
      try go_bits
      exact hK _ _ (Below.refl _ _) rfl⟩,
    fun a u hB hO hJ => .inl ⟨(wanted_of rfl (hJ 12 rfl)), fun K Q hK => by
      have e0 : a.tmps[0]?.getD undef = .slice ad n cap := hO 0 rfl
      clear hO hJ
      exact wp_move_of e0 fun h => hK _ _ (Below.refl _ _) h⟩,
    fun a u hB hO hJ => .inl ⟨(wanted_of rfl (hJ 12 rfl)), fun K Q hK => by
      have e50 : a.tmps[50]?.getD undef = _ := hJ 15 rfl
      clear hO hJ
      go_simp
      try go_bits
      exact hK _ _ (Below.refl _ _) rfl⟩,
    fun a u hB hO hJ => .inl ⟨(wanted_of rfl (hJ 12 rfl)), fun K Q hK => by
      have e11 : a.tmps[11]?.getD undef = .int .i64 (k : Int) := hO 11 rfl
      clear hO hJ
      exact wp_move_of e11 fun h => hK _ _ (Below.refl _ _) h⟩,
    fun a u hB hO hJ => .inl ⟨(wanted_of rfl (hJ 12 rfl)), fun K Q hK => by
      have e51 : a.tmps[51]?.getD undef = _ := hJ 16 rfl
      have e52 : a.tmps[52]?.getD undef = _ := hJ 17 rfl
      clear hO hJ
      go_simp
      try go_bits
      exact hK _ _ (Below.refl _ _) rfl⟩,
    fun a u hB hO hJ => .inl ⟨(wanted_of rfl (hJ 12 rfl)), fun K Q hK => by
      have e49 : a.tmps[49]?.getD undef = _ := hJ 14 rfl
      have e53 : a.tmps[53]?.getD undef = _ := hJ 18 rfl
      clear hO hJ
      go_simp
      try go_bits
      exact hK _ _ (Below.refl _ _) rfl⟩,
    fun a u hB hO hJ => .inl ⟨rfl, fun K Q hK => by
      have e47 : a.tmps[47]?.getD undef = _ := hJ 12 rfl
      have e54 : a.tmps[54]?.getD undef = _ := hJ 19 rfl
      clear hO hJ
      go_simp
      try go_bits
      exact hK _ _ (Below.refl _ _) rfl⟩,
    fun a u hB hO hJ => .inl ⟨rfl, fun K Q hK => by
      have e55 : a.tmps[55]?.getD undef = _ := hJ 20 rfl
      clear hO hJ
      exact wp_move_of e55 fun h => hK _ _ (Below.refl _ _) h⟩,
    fun a u hB hO hJ => .inl ⟨(wanted_of rfl (hJ 21 rfl)), fun K Q hK => by
      have e9 : a.tmps[9]?.getD undef = .slice (some ⟨B, 0, none⟩) m c := hO 9 rfl
      clear hO hJ
      exact wp_move_of e9 fun h => hK _ _ (Below.refl _ _) h⟩,
    fun a u hB hO hJ => .inl ⟨(wanted_of rfl (hJ 21 rfl)), fun K Q hK => by
      have e0 : a.tmps[0]?.getD undef = .slice ad n cap := hO 0 rfl
      clear hO hJ
      exact wp_move_of e0 fun h => hK _ _ (Below.refl _ _) h⟩,
    fun a u hB hO hJ => .inl ⟨(wanted_of rfl (hJ 21 rfl)), fun K Q hK => by
      have e58 : a.tmps[58]?.getD undef = _ := hJ 23 rfl
      clear hO hJ
      go_simp
      try go_bits
      exact hK _ _ (Below.refl _ _) rfl⟩,
    fun a u hB hO hJ => .inl ⟨(wanted_of rfl (hJ 21 rfl)), fun K Q hK => by
      have e57 : a.tmps[57]?.getD undef = _ := hJ 22 rfl
      have e59 : a.tmps[59]?.getD undef = _ := hJ 24 rfl
      clear hO hJ
      have i1 := (HX.out.below hB).slice (Nat.zero_le n) HLn.out
      rw [HT.out] at i1
      exact wp_slice_hi (hi := n) (by rw [evalTmp, e57]) (HX.out.below hB) (by rw [evalTmp, e59]) rfl HLn.out (hK _ _ (Below.refl _ _) i1)⟩,
    fun a u hB hO hJ => .inl ⟨(wanted_of rfl (hJ 21 rfl)), fun K Q hK => by
      have e60 : (PB l) (a.tmps[60]?.getD undef) u := hJ 25 rfl
      clear hO hJ
      exact wp_conv_of rfl e60 (hK _ _ (Below.refl _ _) rfl)⟩,
    fun a u hB hO hJ => .inl ⟨(wanted_of rfl (hJ 21 rfl)), fun K Q hK => by
      have e0 : a.tmps[0]?.getD undef = .slice ad n cap := hO 0 rfl
      clear hO hJ
      exact wp_move_of e0 fun h => hK _ _ (Below.refl _ _) h⟩,
    fun a u hB hO hJ => .inl ⟨(wanted_of rfl (hJ 21 rfl)), fun K Q hK => by
      have e62 : a.tmps[62]?.getD undef = _ := hJ 27 rfl
      clear hO hJ
      exact wp_conv_of e62 (HB3.out.below hB) (hK _ _ (Below.refl _ _) rfl)⟩,
    fun a u hB hO hJ => .inl ⟨(wanted_of rfl (hJ 21 rfl)), fun K Q hK => by
      have e61 : a.tmps[61]?.getD undef = _ := hJ 26 rfl
      have e63 : a.tmps[63]?.getD undef = _ := hJ 28 rfl
      clear hO hJ
      go_simp
      try go_bits
      exact hK _ _ (Below.refl _ _) rfl⟩,
    fun a u hB hO hJ => .inl ⟨rfl, fun K Q hK => by
      have e56 : a.tmps[56]?.getD undef = _ := hJ 21 rfl
      have e64 : a.tmps[64]?.getD undef = _ := hJ 29 rfl
      clear hO hJ
      go_simp
      try go_bits
      exact hK _ _ (Below.refl _ _) rfl⟩,
    fun a u hB hO hJ => .inl ⟨rfl, fun K Q hK => by
      have e65 : a.tmps[65]?.getD undef = _ := hJ 30 rfl
      clear hO hJ
      exact wp_move_of e65 fun h => hK _ _ (Below.refl _ _) h⟩,
    fun a u hB hO hJ => .inl ⟨(wanted_of rfl (hJ 31 rfl)), fun K Q hK => by
      have e9 : a.tmps[9]?.getD undef = .slice (some ⟨B, 0, none⟩) m c := hO 9 rfl
      clear hO hJ
      exact wp_move_of e9 fun h => hK _ _ (Below.refl _ _) h⟩,
    fun a u hB hO hJ => .inl ⟨(wanted_of rfl (hJ 31 rfl)), fun K Q hK => by
      have e67 : a.tmps[67]?.getD undef = _ := hJ 32 rfl
      clear hO hJ
      go_simp
      refine (clean_any _ _ _ (HX.out.below hB)).mono ?_
      rintro e w1 ⟨rfl, b1⟩
      rw [HC.out]
      exact hK _ _ b1 rfl⟩,
    fun a u hB hO hJ => .inl ⟨(wanted_of rfl (hJ 31 rfl)), fun K Q hK => by
      have e68 : a.tmps[68]?.getD undef = _ := hJ 33 rfl
      clear hO hJ
      go_simp
      try go_bits
      exact hK _ _ (Below.refl _ _) rfl⟩,
    fun a u hB hO hJ => .inl ⟨rfl, fun K Q hK => by
      have e66 : a.tmps[66]?.getD undef = _ := hJ 31 rfl
      have e69 : a.tmps[69]?.getD undef = _ := hJ 34 rfl
      clear hO hJ
      go_simp
      try go_bits
      exact hK _ _ (Below.refl _ _) rfl⟩,
    trivial⟩ ?fin9
  case fin9 =>
    intro u4 b4 _ _
    simp only [Act.put, List.setIfInBounds_toArray, List.set_cons_zero, List.set_cons_succ, List.drop_succ_cons, List.drop_nil, List.take_succ_cons, List.take_nil, Laid]
    have B4 := B3.trans (b4.mono z3)
    have z4 := B4.size
    have HO4 := hide (HO3.out.below b4)
    clear b4 B3
    have hlen : (addL l k).length = n + k := by rw [HN.out, addL_length l HK1.out]
    obtain ⟨⟨x, hcj⟩, hfj, hBj, o5⟩ := HO4.out.set (n + r) (by omega) y
    have HO5 := hide o5
    obtain ⟨ht5, hc5⟩ := cleanB_set l y HK1.out HK2.out (j := n + r) (by rw [← HN.out]; omega) (by rw [← HN.out]; omega) HY.out
    have HT5 := hide ht5
    have HC5 := hide hc5
    have q9 : (n : Int) + r < m := by have := HMn.out; omega
    have q10 : n + r < m := by omega
    have B5 := B4.setCell (p := ⟨B, n + r, none⟩) (Nat.le_trans z2' hBj) (bval y)
    have HB5 := hide B5
    clear o5 ht5 hc5 hlen B4 B5
    go_wp2_with fail
    refine (trail_any _ _ _ HO5.out.isB).mono ?_
    rintro e u6 ⟨rfl, b6⟩
    rw [trailE, HT5.out, if_neg (by have := HK1.out; omega)]
    have B6 := HB5.out.trans (b6.mono (by simp; omega))
    have HX6 := hide (HO5.out.isB.below b6)
    have z6 := B6.size
    clear b6
    go_wp2_with fail
    refine (clean_any _ _ _ HX6.out).mono ?_
    rintro e u7 ⟨rfl, b7⟩
    rw [HC5.out]
    have B7 := B6.trans (b7.mono z6)
    clear b7 B6
    go_wp2_with fail
    go_ret
    exact ⟨rfl, B7⟩

set_option maxRecDepth 100000 in
set_option maxHeartbeats 1000000 in
theorem padTrail_zero (ad : Option Addr) (n cap : Nat) (att by0 : Int) (w : World) (hl : n ≤ 3000) :
    Calls Try.prog 6 #[.slice ad n cap, .int .u8 0, .int .u16 att, .int .u8 by0] w fun e w' => e = .returned (.bool true) ∧ Below w.heap.size w w' := by
  have hl' : (n : Int) ≤ 3000 := by omega
  clear hl
  go_enter Try.func6, Try.ntmps6
  go_wp2_with fail
  refine (awake03 _).mono ?_
  rintro e u1 ⟨rfl, b1⟩
  have z1 := b1.size
  go_wp2_with fail
  refine (add_no _ 0 _ (.inl (by decide))).mono ?_
  rintro e u2 ⟨rfl, b2⟩
  have B2 := b1.trans (b2.mono z1)
  clear b1 b2
  go_wp2_with fail
  go_ret
  exact ⟨rfl, B2⟩

set_option maxHeartbeats 1000000 in
theorem padTrail_big (ad : Option Addr) (n cap : Nat) (k att by0 : Int) (w : World) (hl : 3000 < n) :
    Calls Try.prog 6 #[.slice ad n cap, .int .u8 k, .int .u16 att, .int .u8 by0] w fun e w' => e = .returned (.bool true) ∧ Below w.heap.size w w' := by
  have g : (3000 : Int) < n := by omega
  go_enter Try.func6, Try.ntmps6
  go_wp2_with fail
  refine (awake03 _).mono ?_
  rintro e u1 ⟨rfl, b1⟩
  go_wp2_with fail
  go_ret
  exact ⟨rfl, b1⟩

theorem padTrail_any (v : Value) (l : List UInt8) (k att by0 : Int) (w : World) (hb : IsB w v l) (hk : 0 ≤ k ∧ k ≤ 255) (ha : 0 ≤ att ∧ att ≤ 65535) (hy : 0 ≤ by0 ∧ by0 ≤ 255) :
    Calls Try.prog 6 #[v, .int .u8 k, .int .u16 att, .int .u8 by0] w fun e w' => e = .returned (.bool true) ∧ Below w.heap.size w w' := by
  obtain ⟨ad, n, cap, rfl, hn, _, _⟩ := hb.len'
  by_cases hl : 3000 < n
  · exact padTrail_big ad n cap k att by0 w hl
  · obtain ⟨kk, rfl⟩ := Int.eq_ofNat_of_zero_le hk.1
    obtain ⟨aa, rfl⟩ := Int.eq_ofNat_of_zero_le ha.1
    by_cases h0 : kk = 0
    · subst h0
      exact padTrail_zero ad n cap _ by0 w (by omega)
    · by_cases h1 : kk = 1
      · exact padTrail_one ad n cap l kk aa by0 h1 w hn (by omega) hb (by omega) (by omega)
      · by_cases h2 : by0 = 0
        · exact padTrail_null ad n cap l kk aa by0 (by omega) h2 w hn (by omega) hb (by omega) (by omega)
        · refine padTrail_set ad n cap l kk aa (by omega) by0 (UInt8.ofNat by0.toNat) (by omega) ?_ ?_ w hn (by omega) hb (by omega) (by omega)
          · rw [toNat_ofNat' (by omega)]
            omega
          · intro e
            have := congrArg UInt8.toNat e
            rw [toNat_ofNat' (by omega)] at this
            simp at this
            omega

end Go.Proofs.Ytellclclpmofcaa
