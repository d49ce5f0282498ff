/-
  The fixed answers of layer 11: awake returns true; conditions: none.
-/
import Derived.Test.YtellclclpmofcaaTLists
namespace Go.Proofs.Ytellclclpmofcaa
open Go.RowKit

def cA : List UInt8 := [129, 201, 0, 1, 1, 2, 3, 4]
def cB : List UInt8 := [160, 203, 0, 1, 0, 0, 0, 4]

theorem sp_b : sp cB = (0, [cB]) := by
  rw [sp_cons (by decide) (by decide), show cB.drop (rdS cB).toNat = [] by decide, sp_nil]
  decide

theorem sp_ab : sp (cA ++ cB) = (0, [cA, cB]) := by
  rw [sp_cons (by decide) (fun h => absurd h (by decide)), show (cA ++ cB).drop (rdS (cA ++ cB)).toNat = cB by decide, sp_b]
  decide

theorem sp_ba : sp (cB ++ cA) = (5, []) := sp_bad (by decide) (by decide) (.inl (by decide))

set_option maxRecDepth 100000 in
set_option maxHeartbeats 4000000 in
theorem awake11 (w : World) : Calls Try.prog 35 #[] w fun e w' => e = .returned (.bool true) ∧ Below w.heap.size w w' := by
  go_enter Try.func35, Try.ntmps35
  go_wp2_with fail
  refine (close_yes 201 1 _ 4 4 [1, 2, 3, 4] 0 _ rfl (Own.lit [1, 2, 3, 4] _ 4 _ rfl rfl rfl (Nat.zero_le _) (by decide)).isB (by decide)).mono ?_
  rintro e w1 ⟨v1, rfl, o1, b1⟩
  rw [show closeL 201 1 [1, 2, 3, 4] 0 = cA by decide] at o1
  obtain ⟨aA, nA, capA, rfl, -⟩ := o1.isB.len'
  have z1 := b1.size
  simp only [World.size_alloc] at z1
  have HA1 := hide o1.isB
  have HW1 := hide (((Below.refl w.heap.size w).alloc (Nat.le_refl _) _).trans (b1.mono (by simp)))
  clear o1 b1
  go_wp2_with fail
  refine (close_yes 203 0 none 0 0 [] 4 _ rfl (IsB.nil _) (by decide)).mono ?_
  rintro e w2 ⟨v2, rfl, o2, b2⟩
  rw [show closeL 203 0 [] 4 = cB by decide] at o2
  obtain ⟨aB, nB, capB, rfl, -⟩ := o2.isB.len'
  have z2 := b2.size
  have HA2 := hide (HA1.out.below b2)
  have HB2 := hide o2.isB
  have HW2 := hide (HW1.out.trans (b2.mono (by omega)))
  clear o2 b2
  go_wp2_with (at_builtin; refine wpList_append_E1 (HA2.out.below ((Below.refl _ _).alloc (Nat.le_refl _) _)) (by decide) rfl rfl rfl ?_)
  intro v3 w3 o3 b3
  have z3 := b3.size
  simp only [World.size_alloc] at z3
  have q3 := ((Below.refl w2.heap.size w2).alloc (Nat.le_refl _) (.cells #[] 5)).trans (b3.mono (by simp))
  have HO3 := hide o3
  have HQ3 := hide q3
  clear o3 b3 q3
  go_wp2_with (at_builtin; refine wpList_append_B HO3.out (HB2.out.below HQ3.out) (by decide) (by omega) rfl rfl ?_)
  intro v4 w4 o4 b4
  have z4 := b4.size
  have HO4 := hide o4
  have HQ4 := hide (HQ3.out.trans b4)
  clear o4 b4
  go_wp2_with fail
  refine (split_any _ _ _ HO4.out.isB (by decide)).mono ?_
  rintro e w5 ⟨v5, rfl, l5, b5⟩
  rw [show spE (cA ++ cB) = 0 by rw [spE, if_neg (by decide), sp_ab]]
  rw [show spL (cA ++ cB) = [cA, cB] by rw [spL, sp_ab]] at l5
  have z5 := b5.size
  have b5' := HQ4.out.trans (b5.mono (by omega))
  have HA5 := hide (HA2.out.below b5')
  have HB5 := hide (HB2.out.below b5')
  have HW5 := hide (HW2.out.trans (b5'.mono (by omega)))
  have HL5 := hide l5
  have HP5 := hide b5'
  clear l5 b5 b5'
  obtain ⟨aL, nL, capL, rfl, hnL, -⟩ := HL5.out.len'
  obtain rfl : nL = 2 := hnL
  go_wp2_with (at_builtin; refine wpList_append_E1 (HB5.out.below ((Below.refl _ _).alloc (Nat.le_refl _) _)) (by decide) rfl rfl rfl ?_)
  intro v6 w6 o6 b6
  have z6 := b6.size
  simp only [World.size_alloc] at z6
  have q6 := ((Below.refl w5.heap.size w5).alloc (Nat.le_refl _) (.cells #[] 5)).trans (b6.mono (by simp))
  have HO6 := hide o6
  have HQ6 := hide q6
  clear o6 b6 q6
  go_wp2_with (at_builtin; refine wpList_append_B HO6.out (HA5.out.below HQ6.out) (by decide) (by omega) rfl rfl ?_)
  intro v7 w7 o7 b7
  have z7 := b7.size
  have HO7 := hide o7
  have HQ7 := hide (HQ6.out.trans b7)
  clear o7 b7
  go_wp2_with fail
  refine (split_any _ _ _ HO7.out.isB (by decide)).mono ?_
  rintro e w8 ⟨v8, rfl, l8, b8⟩
  rw [show spE (cB ++ cA) = 5 by rw [spE, if_neg (by decide), sp_ba]]
  rw [show spL (cB ++ cA) = [] by rw [spL, sp_ba]] at l8
  have z8 := b8.size
  have b8' := HQ7.out.trans (b8.mono (by omega))
  have HA8 := hide (HA5.out.below b8')
  have HB8 := hide (HB5.out.below b8')
  have HW8 := hide (HW5.out.trans (b8'.mono (by omega)))
  have HL8 := hide l8
  have HP8 := hide b8'
  clear l8 b8 b8'
  have HL8' := hide (HL5.out.below HP8.out)
  go_wp2_with fail
  refine (open_any _ _ _ HB8.out).mono ?_
  rintro e w9 ⟨v9, rfl, o9, b9⟩
  rw [show opV cB = .agg #[.bool true, .int .i64 0, .int .i64 203, .int .i64 8] by rw [opV, if_pos (by decide), rdV, show rdP cB = true by decide, show rdN cB = 0 by decide, show rdT cB = 203 by decide, show rdS cB = 8 by decide], show opN cB = 4 by decide, show opE cB = 0 by decide]
  rw [show opB cB = [] by decide] at o9
  obtain ⟨aO, nO, capO, rfl, hnO, -⟩ := o9.isB.len'
  obtain rfl : nO = 0 := hnO
  have z9 := b9.size
  have HA9 := hide ((HA8.out.below b9).below ((Below.refl _ _).alloc (Nat.le_refl _) (.cells #[.bool true, .int .i64 0, .int .i64 203, .int .i64 8] 23)))
  have HL9 := hide ((HL8'.out.below b9).below ((Below.refl _ _).alloc (Nat.le_refl _) (.cells #[.bool true, .int .i64 0, .int .i64 203, .int .i64 8] 23)))
  have HW9 := hide ((HW8.out.trans (b9.mono (by omega))).alloc (by omega) (.cells #[.bool true, .int .i64 0, .int .i64 203, .int .i64 8] 23))
  clear b9 o9
  obtain ⟨bL, oL, s0, rfl, hbL, hcL, hs0⟩ := HL9.out.cellAt (k := 0) (l := cA) rfl
  have HS0 := hide hs0
  rw [Nat.add_zero] at hcL
  have HcL := hide hcL
  have HbL := hide hbL
  clear hs0 hcL hbL
  go_wp2_with fail
  refine wp_region_mono 55 102 (.val _ :: .val _ :: .val _ :: .val _ :: .val _ :: .val _ :: .val _ :: .val _ :: .val _ :: .val _ :: .val _ :: .val _ :: .val _ :: .val _ :: .val _ :: .val _ :: .val _ :: .val _ :: .val _ :: .val _ :: .val _ :: .val _ :: .val _ :: .val _ :: .val _ :: .val _ :: .val _ :: .val _ :: .val _ :: .val _ :: .val _ :: .val _ :: .val _ :: .val _ :: .val _ :: .val _ :: .val _ :: .val _ :: .val _ :: .val _ :: .val _ :: .val _ :: .val _ :: .val _ :: .val _ :: .val _ :: .val _ :: .val _ :: .val _ :: .val _ :: .val _ :: .val _ :: .val _ :: .val _ :: .val _ :: []) (by kernel_rfl) (by kernel_rfl) rfl trivial rfl ⟨
    fun a u hB hO hJ => .inl ⟨rfl, fun K Q hK => by
      have e2 : a.tmps[2]?.getD undef = .int .i64 0 := hO 2 rfl
      clear hO hJ
      exact wp_move_of e2 fun h => hK _ _ (Below.refl _ _) h⟩,
    fun a u hB hO hJ => .inl ⟨rfl, fun K Q hK => by
      have e47 : a.tmps[47]?.getD undef = _ := hJ 0 rfl
      clear hO hJ
      go_simp
      try go_bits
      exact hK _ _ (Below.refl _ _) rfl⟩,
    fun a u hB hO hJ => .inl ⟨rfl, fun K Q hK => by
      have e48 : a.tmps[48]?.getD undef = _ := hJ 1 rfl
      clear hO hJ
      exact wp_move_of e48 fun h => hK _ _ (Below.refl _ _) h⟩,
    fun a u hB hO hJ => .inl ⟨(wanted_of rfl (hJ 2 rfl)), fun K Q hK => by
      have e4 : a.tmps[4]?.getD undef = .int .i64 0 := hO 4 rfl
      clear hO hJ
      exact wp_move_of e4 fun h => hK _ _ (Below.refl _ _) h⟩,
    fun a u hB hO hJ => .inl ⟨(wanted_of rfl (hJ 2 rfl)), fun K Q hK => by
      have e50 : a.tmps[50]?.getD undef = _ := hJ 3 rfl
      clear hO hJ
      go_simp
      try go_bits
      exact hK _ _ (Below.refl _ _) rfl⟩,
    fun a u hB hO hJ => .inl ⟨rfl, fun K Q hK => by
      have e49 : a.tmps[49]?.getD undef = _ := hJ 2 rfl
      have e51 : a.tmps[51]?.getD undef = _ := hJ 4 rfl
      clear hO hJ
      go_simp
      try go_bits
      exact hK _ _ (Below.refl _ _) rfl⟩,
    fun a u hB hO hJ => .inl ⟨rfl, fun K Q hK => by
      have e52 : a.tmps[52]?.getD undef = _ := hJ 5 rfl
      clear hO hJ
      exact wp_move_of e52 fun h => hK _ _ (Below.refl _ _) h⟩,
    fun a u hB hO hJ => .inl ⟨(wanted_of rfl (hJ 6 rfl)), fun K Q hK => by
      have e6 : a.tmps[6]?.getD undef = .int .i64 0 := hO 6 rfl
      clear hO hJ
      exact wp_move_of e6 fun h => hK _ _ (Below.refl _ _) h⟩,
    fun a u hB hO hJ => .inl ⟨(wanted_of rfl (hJ 6 rfl)), fun K Q hK => by
      have e54 : a.tmps[54]?.getD undef = _ := hJ 7 rfl
      clear hO hJ
      go_simp
      try go_bits
      exact hK _ _ (Below.refl _ _) rfl⟩,
    fun a u hB hO hJ => .inl ⟨rfl, fun K Q hK => by
      have e53 : a.tmps[53]?.getD undef = _ := hJ 6 rfl
      have e55 : a.tmps[55]?.getD undef = _ := hJ 8 rfl
      clear hO hJ
      go_simp
      try go_bits
      exact hK _ _ (Below.refl _ _) rfl⟩,
    fun a u hB hO hJ => .inl ⟨rfl, fun K Q hK => by
      have e56 : a.tmps[56]?.getD undef = _ := hJ 9 rfl
      clear hO hJ
      exact wp_move_of e56 fun h => hK _ _ (Below.refl _ _) h⟩,
    fun a u hB hO hJ => .inl ⟨(wanted_of rfl (hJ 10 rfl)), fun K Q hK => by
      have e8 : a.tmps[8]?.getD undef = .int .i64 5 := hO 8 rfl
      clear hO hJ
      exact wp_move_of e8 fun h => hK _ _ (Below.refl _ _) h⟩,
    fun a u hB hO hJ => .inl ⟨(wanted_of rfl (hJ 10 rfl)), fun K Q hK => by
      have e58 : a.tmps[58]?.getD undef = _ := hJ 11 rfl
      clear hO hJ
      go_simp
      try go_bits
      exact hK _ _ (Below.refl _ _) rfl⟩,
    fun a u hB hO hJ => .inl ⟨rfl, fun K Q hK => by
      have e57 : a.tmps[57]?.getD undef = _ := hJ 10 rfl
      have e59 : a.tmps[59]?.getD undef = _ := hJ 12 rfl
      clear hO hJ
      go_simp
      try go_bits
      exact hK _ _ (Below.refl _ _) rfl⟩,
    fun a u hB hO hJ => .inl ⟨rfl, fun K Q hK => by
      have e60 : a.tmps[60]?.getD undef = _ := hJ 13 rfl
      clear hO hJ
      exact wp_move_of e60 fun h => hK _ _ (Below.refl _ _) h⟩,
    fun a u hB hO hJ => .inl ⟨(wanted_of rfl (hJ 14 rfl)), fun K Q hK => by
      have e12 : a.tmps[12]?.getD undef = .int .i64 0 := hO 12 rfl
      clear hO hJ
      exact wp_move_of e12 fun h => hK _ _ (Below.refl _ _) h⟩,
    fun a u hB hO hJ => .inl ⟨(wanted_of rfl (hJ 14 rfl)), fun K Q hK => by
      have e62 : a.tmps[62]?.getD undef = _ := hJ 15 rfl
      clear hO hJ
      go_simp
      try go_bits
      exact hK _ _ (Below.refl _ _) rfl⟩,
    fun a u hB hO hJ => .inl ⟨rfl, fun K Q hK => by
      have e61 : a.tmps[61]?.getD undef = _ := hJ 14 rfl
      have e63 : a.tmps[63]?.getD undef = _ := hJ 16 rfl
      clear hO hJ
      go_simp
      try go_bits
      exact hK _ _ (Below.refl _ _) rfl⟩,
    fun a u hB hO hJ => .inl ⟨rfl, fun K Q hK => by
      have e64 : a.tmps[64]?.getD undef = _ := hJ 17 rfl
      clear hO hJ
      exact wp_move_of e64 fun h => hK _ _ (Below.refl _ _) h⟩,
    fun a u hB hO hJ => .inl ⟨(wanted_of rfl (hJ 18 rfl)), fun K Q hK => by
      have e5 : a.tmps[5]?.getD undef = .slice (some ⟨bL, oL, none⟩) 2 capL := hO 5 rfl
      clear hO hJ
      exact wp_move_of e5 fun h => hK _ _ (Below.refl _ _) h⟩,
    fun a u hB hO hJ => .inl ⟨(wanted_of rfl (hJ 18 rfl)), fun K Q hK => by
      have e66 : a.tmps[66]?.getD undef = _ := hJ 19 rfl
      clear hO hJ
      go_simp
      try go_bits
      exact hK _ _ (Below.refl _ _) rfl⟩,
    fun a u hB hO hJ => .inl ⟨(wanted_of rfl (hJ 18 rfl)), fun K Q hK => by
      have e67 : a.tmps[67]?.getD undef = _ := hJ 20 rfl
      clear hO hJ
      go_simp
      try go_bits
      exact hK _ _ (Below.refl _ _) rfl⟩,
    fun a u hB hO hJ => .inl ⟨rfl, fun K Q hK => by
      have e65 : a.tmps[65]?.getD undef = _ := hJ 18 rfl
      have e68 : a.tmps[68]?.getD undef = _ := hJ 21 rfl
      clear hO hJ
      go_simp
      try go_bits
      exact hK _ _ (Below.refl _ _) rfl⟩,
    fun a u hB hO hJ => .inl ⟨rfl, fun K Q hK => by
      have e69 : a.tmps[69]?.getD undef = _ := hJ 22 rfl
      clear hO hJ
      exact wp_move_of e69 fun h => hK _ _ (Below.refl _ _) h⟩,
    fun a u hB hO hJ => .inl ⟨(wanted_of rfl (hJ 23 rfl)), fun K Q hK => by
      have e5 : a.tmps[5]?.getD undef = .slice (some ⟨bL, oL, none⟩) 2 capL := hO 5 rfl
      clear hO hJ
      exact wp_move_of e5 fun h => hK _ _ (Below.refl _ _) h⟩,
    fun a u hB hO hJ => .inl ⟨(wanted_of rfl (hJ 23 rfl)), fun K Q hK => by
      have e71 : a.tmps[71]?.getD undef = _ := hJ 24 rfl
      clear hO hJ
      go_simp
      try go_bits
      exact hK _ _ (Below.refl _ _) rfl⟩,
    fun a u hB hO hJ => .inl ⟨(wanted_of rfl (hJ 23 rfl)), fun K Q hK => by
      have e72 : a.tmps[72]?.getD undef = _ := hJ 25 rfl
      clear hO hJ
      have hcu := ((bcell hB).1 bL oL HbL.out).trans HcL.out
      go_simp
      exact hK _ _ (Below.refl _ _) rfl⟩,
    fun a u hB hO hJ => .inl ⟨(wanted_of rfl (hJ 23 rfl)), fun K Q hK => by
      have e73 : a.tmps[73]?.getD undef = _ := hJ 26 rfl
      clear hO hJ
      exact wp_conv_of e73 (HS0.out.below hB) (hK _ _ (Below.refl _ _) rfl)⟩,
    fun a u hB hO hJ => .inl ⟨(wanted_of rfl (hJ 23 rfl)), fun K Q hK => by
      have e1 : a.tmps[1]?.getD undef = .slice aA nA capA := hO 1 rfl
      clear hO hJ
      exact wp_move_of e1 fun h => hK _ _ (Below.refl _ _) h⟩,
    fun a u hB hO hJ => .inl ⟨(wanted_of rfl (hJ 23 rfl)), fun K Q hK => by
      have e75 : a.tmps[75]?.getD undef = _ := hJ 28 rfl
      clear hO hJ
      exact wp_conv_of e75 (HA9.out.below hB) (hK _ _ (Below.refl _ _) rfl)⟩,
    fun a u hB hO hJ => .inl ⟨(wanted_of rfl (hJ 23 rfl)), fun K Q hK => by
      have e74 : a.tmps[74]?.getD undef = _ := hJ 27 rfl
      have e76 : a.tmps[76]?.getD undef = _ := hJ 29 rfl
      clear hO hJ
      go_simp
      try go_bits
      exact hK _ _ (Below.refl _ _) rfl⟩,
    fun a u hB hO hJ => .inl ⟨rfl, fun K Q hK => by
      have e70 : a.tmps[70]?.getD undef = _ := hJ 23 rfl
      have e77 : a.tmps[77]?.getD undef = _ := hJ 30 rfl
      clear hO hJ
      go_simp
      try go_bits
      exact hK _ _ (Below.refl _ _) rfl⟩,
    fun a u hB hO hJ => .inl ⟨rfl, fun K Q hK => by
      have e78 : a.tmps[78]?.getD undef = _ := hJ 31 rfl
      clear hO hJ
      exact wp_move_of e78 fun h => hK _ _ (Below.refl _ _) h⟩,
    fun a u hB hO hJ => .inl ⟨(wanted_of rfl (hJ 32 rfl)), fun K Q hK => by
      have e1 : a.tmps[1]?.getD undef = .slice aA nA capA := hO 1 rfl
      clear hO hJ
      exact wp_move_of e1 fun h => hK _ _ (Below.refl _ _) h⟩,
    fun a u hB hO hJ => .inl ⟨(wanted_of rfl (hJ 32 rfl)), fun K Q hK => by
      have e80 : a.tmps[80]?.getD undef = _ := hJ 33 rfl
      clear hO hJ
      exact wp_conv_of e80 (HA9.out.below hB) (hK _ _ (Below.refl _ _) rfl)⟩,
    fun a u hB hO hJ => .inl ⟨(wanted_of rfl (hJ 32 rfl)), fun K Q hK => by
      have e81 : a.tmps[81]?.getD undef = _ := hJ 34 rfl
      clear hO hJ
      go_simp
      try go_bits
      exact hK _ _ (Below.refl _ _) rfl⟩,
    fun a u hB hO hJ => .inl ⟨rfl, fun K Q hK => by
      have e79 : a.tmps[79]?.getD undef = _ := hJ 32 rfl
      have e82 : a.tmps[82]?.getD undef = _ := hJ 35 rfl
      clear hO hJ
      go_simp
      try go_bits
      exact hK _ _ (Below.refl _ _) rfl⟩,
    fun a u hB hO hJ => .inl ⟨rfl, fun K Q hK => by
      have e83 : a.tmps[83]?.getD undef = _ := hJ 36 rfl
      clear hO hJ
      exact wp_move_of e83 fun h => hK _ _ (Below.refl _ _) h⟩,
    fun a u hB hO hJ => .inl ⟨(wanted_of rfl (hJ 37 rfl)), fun K Q hK => by
      have e9 : a.tmps[9]?.getD undef = .pointer (some ⟨w9.heap.size, 0, none⟩) := hO 9 rfl
      clear hO hJ
      go_simp
      try go_bits
      exact hK _ _ (Below.refl _ _) rfl⟩,
    fun a u hB hO hJ => .inl ⟨(wanted_of rfl (hJ 37 rfl)), fun K Q hK => by
      have e85 : a.tmps[85]?.getD undef = _ := hJ 38 rfl
      clear hO hJ
      obtain ⟨hc, hf⟩ := bcell hB
      go_simp
      exact hK _ _ (Below.refl _ _) rfl⟩,
    fun a u hB hO hJ => .inl ⟨rfl, fun K Q hK => by
      have e84 : a.tmps[84]?.getD undef = _ := hJ 37 rfl
      have e86 : a.tmps[86]?.getD undef = _ := hJ 39 rfl
      clear hO hJ
      go_simp
      try go_bits
      exact hK _ _ (Below.refl _ _) rfl⟩,
    fun a u hB hO hJ => .inl ⟨rfl, fun K Q hK => by
      have e87 : a.tmps[87]?.getD undef = _ := hJ 40 rfl
      clear hO hJ
      exact wp_move_of e87 fun h => hK _ _ (Below.refl _ _) h⟩,
    fun a u hB hO hJ => .inl ⟨(wanted_of rfl (hJ 41 rfl)), fun K Q hK => by
      have e9 : a.tmps[9]?.getD undef = .pointer (some ⟨w9.heap.size, 0, none⟩) := hO 9 rfl
      clear hO hJ
      go_simp
      try go_bits
      exact hK _ _ (Below.refl _ _) rfl⟩,
    fun a u hB hO hJ => .inl ⟨(wanted_of rfl (hJ 41 rfl)), fun K Q hK => by
      have e89 : a.tmps[89]?.getD undef = _ := hJ 42 rfl
      clear hO hJ
      obtain ⟨hc, hf⟩ := bcell hB
      go_simp
      exact hK _ _ (Below.refl _ _) rfl⟩,
    fun a u hB hO hJ => .inl ⟨(wanted_of rfl (hJ 41 rfl)), fun K Q hK => by
      have e90 : a.tmps[90]?.getD undef = _ := hJ 43 rfl
      clear hO hJ
      go_simp
      try go_bits
      exact hK _ _ (Below.refl _ _) rfl⟩,
    fun a u hB hO hJ => .inl ⟨rfl, fun K Q hK => by
      have e88 : a.tmps[88]?.getD undef = _ := hJ 41 rfl
      have e91 : a.tmps[91]?.getD undef = _ := hJ 44 rfl
      clear hO hJ
      go_simp
      try go_bits
      exact hK _ _ (Below.refl _ _) rfl⟩,
    fun a u hB hO hJ => .inl ⟨rfl, fun K Q hK => by
      have e92 : a.tmps[92]?.getD undef = _ := hJ 45 rfl
      clear hO hJ
      exact wp_move_of e92 fun h => hK _ _ (Below.refl _ _) h⟩,
    fun a u hB hO hJ => .inl ⟨(wanted_of rfl (hJ 46 rfl)), fun K Q hK => by
      have e10 : a.tmps[10]?.getD undef = .slice aO 0 capO := hO 10 rfl
      clear hO hJ
      exact wp_move_of e10 fun h => hK _ _ (Below.refl _ _) h⟩,
    fun a u hB hO hJ => .inl ⟨(wanted_of rfl (hJ 46 rfl)), fun K Q hK => by
      have e94 : a.tmps[94]?.getD undef = _ := hJ 47 rfl
      clear hO hJ
      go_simp
      try go_bits
      exact hK _ _ (Below.refl _ _) rfl⟩,
    fun a u hB hO hJ => .inl ⟨(wanted_of rfl (hJ 46 rfl)), fun K Q hK => by
      have e95 : a.tmps[95]?.getD undef = _ := hJ 48 rfl
      clear hO hJ
      go_simp
      try go_bits
      exact hK _ _ (Below.refl _ _) rfl⟩,
    fun a u hB hO hJ => .inl ⟨rfl, fun K Q hK => by
      have e93 : a.tmps[93]?.getD undef = _ := hJ 46 rfl
      have e96 : a.tmps[96]?.getD undef = _ := hJ 49 rfl
      clear hO hJ
      go_simp
      try go_bits
      exact hK _ _ (Below.refl _ _) rfl⟩,
    fun a u hB hO hJ => .inl ⟨rfl, fun K Q hK => by
      have e97 : a.tmps[97]?.getD undef = _ := hJ 50 rfl
      clear hO hJ
      exact wp_move_of e97 fun h => hK _ _ (Below.refl _ _) h⟩,
    fun a u hB hO hJ => .inl ⟨(wanted_of rfl (hJ 51 rfl)), fun K Q hK => by
      have e11 : a.tmps[11]?.getD undef = .int .i64 4 := hO 11 rfl
      clear hO hJ
      exact wp_move_of e11 fun h => hK _ _ (Below.refl _ _) h⟩,
    fun a u hB hO hJ => .inl ⟨(wanted_of rfl (hJ 51 rfl)), fun K Q hK => by
      have e99 : a.tmps[99]?.getD undef = _ := hJ 52 rfl
      clear hO hJ
      go_simp
      try go_bits
      exact hK _ _ (Below.refl _ _) rfl⟩,
    fun a u hB hO hJ => .inl ⟨rfl, fun K Q hK => by
      have e98 : a.tmps[98]?.getD undef = _ := hJ 51 rfl
      have e100 : a.tmps[100]?.getD undef = _ := hJ 53 rfl
      clear hO hJ
      go_simp
      try go_bits
      exact hK _ _ (Below.refl _ _) rfl⟩,
    trivial⟩ ?fin6
  case fin6 =>
    intro u hB
    simp only [Act.put, List.setIfInBounds_toArray, List.set_cons_zero, List.set_cons_succ, List.drop_succ_cons, List.drop_zero, List.take_succ_cons, List.take_zero, Laid]
    have HBB := hide (HW9.out.trans (hB.mono HW9.out.size))
    clear hB
    go_wp2_with fail
    go_ret
    exact ⟨rfl, HBB.out⟩

end Go.Proofs.Ytellclclpmofcaa
