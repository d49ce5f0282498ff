/-
  The contract of bits.look: the number of n bits from a place on; conditions: the bits are there, no more than 64.
-/
import Derived.Test.YtellclclpmofcaaBOps
import Derived.Test.YtellclclpmofcaaBBits
import Derived.Test.YtellclclpmofcaaU
import Derived.Handy
namespace Go.Proofs.Ytellclclpmofcaa
open Go.RowKit
set_option linter.unusedVariables false

theorem piece_lt (x sh t : Nat) (ht : t ≤ 8) : (x >>> sh) &&& (2 ^ t - 1) < 256 := by
  have h1 : (x >>> sh) &&& (2 ^ t - 1) < 2 ^ t := Nat.and_lt_two_pow _ (by have := Nat.one_le_two_pow (n := t); omega)
  have h2 : 2 ^ t ≤ 2 ^ 8 := Nat.pow_le_pow_right (by decide) ht
  omega

set_option maxRecDepth 100000 in
set_option maxHeartbeats 2000000 in
theorem look65 (a : Option Addr) (n c p k : Nat) (l : List UInt8) (w : World) (hn : n = l.length) (hl : n ≤ 1000000) (hk : k ≤ 64) (hp : p + k ≤ 8 * n) (h : IsB w (.slice a n c) l) :
    Calls Try.prog 65 #[.slice a n c, .int .i64 (p : Int), .int .i64 (k : Int)] w fun r w' => r = .returned (.int .u64 (num l p k : Nat)) ∧ w' = w := by
  have HN := hide hn
  have HI := hide h
  clear hn h
  go_enter Try.func65, Try.ntmps65
  go_wp2_with fail
  go_loop [1, 2, 7] (fun t m v => ∃ d : Nat, t = .int .i64 ((p + d : Nat) : Int) ∧ m = .int .i64 ((k - d : Nat) : Int) ∧ d ≤ k ∧ v = .int .u64 (num l p d : Nat)) (fun _ m _ => (intOf m).toNat)
  case atStart => exact ⟨0, rfl, rfl, Nat.zero_le _, rfl⟩
  case round =>
    obtain ⟨d, rfl, rfl, hd, rfl⟩ := hrel
    by_cases hlt : d < k
    · obtain ⟨q, hq⟩ : ∃ q, q = p + d := ⟨_, rfl⟩
      obtain ⟨m, hm⟩ : ∃ m, m = k - d := ⟨_, rfl⟩
      obtain ⟨v, hv⟩ : ∃ v, v = num l p d := ⟨_, rfl⟩
      obtain ⟨o, ho⟩ : ∃ o, q % 8 = o := ⟨_, rfl⟩
      obtain ⟨j, hj⟩ : ∃ j, q / 8 = j := ⟨_, rfl⟩
      rw [← hq, ← hm, ← hv]
      have ho8 : o < 8 := by omega
      obtain ⟨room, hroom⟩ : ∃ room, 8 = room + o := ⟨8 - o, by omega⟩
      have hjn : j < n := by omega
      have hjn2 : (j : Int) < n := by omega
      obtain ⟨x, hx⟩ : ∃ x, l[j]? = some x := ⟨l[j]'(by rw [← HN.out]; exact hjn), by simp⟩
      obtain ⟨b, off, rfl, hb, hcl⟩ := HI.out.cellAt hx
      have hvl : v < 2 ^ d := by rw [hv]; exact num_lt _ _ _
      have hxd : l.getD (q / 8) 0 = x := by rw [hj]; simp [List.getD, hx]
      have hx8 := x.toNat_lt
      have hm0 : (0 : Int) < m := by omega
      have hm64 : (m : Int) ≤ 64 := by omega
      have hroom1 : (1 : Int) ≤ room := by omega
      have hroom8 : (room : Int) ≤ 8 := by omega
      have hq6 : (q : Int) ≤ 8000000 := by omega
      have HQ := hide hq
      have HMK := hide hm
      have HO := hide ho
      have HJ := hide hj
      have HR := hide hroom
      clear hx
      have key : ∀ t : Nat, t ≤ room → t ≤ m → ∀ s : Nat, room = s + t → ∃ pw pw1 y1 y2 v1 v2 : Nat, Hid (2 ^ t = pw) ∧ Hid (pw - 1 = pw1) ∧ Hid (x.toNat >>> s = y1) ∧ Hid (y1 &&& pw1 = y2) ∧ Hid (v <<< t = v1) ∧ Hid (v1 ||| y2 = v2) ∧ Hid (v2 = num l p (d + t)) ∧
          Hid (pw < 18446744073709551616) ∧ Hid (1 ≤ pw) ∧ Hid (y1 < 18446744073709551616) ∧ Hid (pw1 < 18446744073709551616) ∧ Hid (y2 < 18446744073709551616) ∧ Hid (v <<< t < 18446744073709551616) ∧ Hid (v1 < 18446744073709551616) := by
        intro t h1 h2 s h3
        have e1 : 2 ^ t ≤ 2 ^ 8 := Nat.pow_le_pow_right (by decide) (by omega)
        have e2 : 1 ≤ 2 ^ t := Nat.one_le_two_pow
        have e3 : v <<< t < 2 ^ 64 := by
          rw [Nat.shiftLeft_eq]
          calc v * 2 ^ t < 2 ^ d * 2 ^ t := Nat.mul_lt_mul_of_pos_right hvl (Nat.pos_of_ne_zero (by omega))
            _ = 2 ^ (d + t) := (Nat.pow_add _ _ _).symm
            _ ≤ 2 ^ 64 := Nat.pow_le_pow_right (by decide) (by omega)
        have e4 : x.toNat >>> s ≤ x.toNat := by rw [Nat.shiftRight_eq_div_pow]; exact Nat.div_le_self _ _
        have e5 := piece_lt x.toNat s t (by omega)
        have e6 := num_byte l q t (by omega)
        rw [hxd, show 8 - q % 8 - t = s by omega] at e6
        exact ⟨_, _, _, _, _, _, hide rfl, hide rfl, hide rfl, hide rfl, hide rfl, hide rfl, hide (by rw [num_join, e6, hv, hq]), hide (by omega), hide e2, hide (by omega), hide (by omega), hide (by omega), hide e3, hide e3⟩
      clear hq hm hv hvl hxd ho hj hroom
      by_cases hmr : m < room
      · obtain ⟨sh, hsh⟩ : ∃ sh, room = sh + m := ⟨room - m, by omega⟩
        obtain ⟨pw, pw1, y1, y2, v1, v2, E1, E2, E3, E4, E5, E6, E7, B1, B2, B3, B4, B5, B6, B7⟩ := key m (by omega) (Nat.le_refl _) sh hsh
        have HS := hide hsh
        obtain ⟨m2, hm2⟩ : ∃ m2, m = m2 + m := ⟨0, by omega⟩
        have HM := hide hm2
        have hmr2 : (m : Int) < room := by omega
        have hshi : (sh : Int) ≤ 8 := by omega
        have hm8 : m < 64 := by omega
        clear key hsh hm2
        go_wp2_with (first | ((with_reducible show wpList _ _ _ (Oper.mk _ (.binOp .rem _ _ _ _) _ _ _ _ :: _) _ _); refine wpList_remI (X := q) (d := 8) (Y := o) rfl rfl rfl (by decide) (by omega) HO.out ?_) | ((with_reducible show wpList _ _ _ (Oper.mk _ (.binOp .quo _ _ _ _) _ _ _ _ :: _) _ _); refine wpList_quoI (X := q) (d := 8) (Y := j) rfl rfl rfl (by decide) (by omega) HJ.out ?_) | ((with_reducible show wpList _ _ _ (Oper.mk _ (.binOp .sub _ _ _ _) _ _ _ _ :: _) _ _); (first | refine wpList_subI (X := 8) (Y := o) (Z := room) rfl rfl rfl (by decide) HR.out ?_ | refine wpList_subI (X := room) (Y := m) (Z := sh) rfl rfl rfl (by omega) HS.out ?_ | refine wpList_subI (X := m) (Y := m) (Z := m2) rfl rfl rfl (by omega) HM.out ?_ | refine wpList_sub1 (X := pw) (Z := pw1) rfl rfl rfl B1.out B2.out E2.out ?_)) | ((with_reducible show wpList _ _ _ (Oper.mk _ (.binOp .shr _ _ _ _) _ _ _ _ :: _) _ _); refine wpList_shr (X := x.toNat) (s := sh) (Z := y1) rfl rfl rfl (by omega) E3.out ?_) | ((with_reducible show wpList _ _ _ (Oper.mk _ (.binOp .shl _ _ _ _) _ _ _ _ :: _) _ _); (first | refine wpList_shl1 (s := m) (Z := pw) rfl rfl rfl (by omega) E1.out ?_ | refine wpList_shl (X := v) (s := m) (Z := v1) rfl rfl rfl B6.out E5.out ?_)) | ((with_reducible show wpList _ _ _ (Oper.mk _ (.binOp .and _ _ _ _) _ _ _ _ :: _) _ _); refine wpList_and (X := y1) (Y := pw1) (Z := y2) rfl rfl rfl B3.out B4.out E4.out ?_) | ((with_reducible show wpList _ _ _ (Oper.mk _ (.binOp .or _ _ _ _) _ _ _ _ :: _) _ _); refine wpList_or (X := v1) (Y := y2) (Z := v2) rfl rfl rfl B7.out B5.out E6.out ?_))
        go_round
        case rel =>
          have r1 := HQ.out
          have r2 := HMK.out
          have r3 := HM.out
          exact ⟨d + m, by go_num, by go_num, by omega, by rw [E7.out]⟩
        case measure => have r3 := HM.out; simp [intOf]; omega
      · obtain ⟨sh, hsh⟩ : ∃ sh, room = sh + room := ⟨0, by omega⟩
        obtain ⟨pw, pw1, y1, y2, v1, v2, E1, E2, E3, E4, E5, E6, E7, B1, B2, B3, B4, B5, B6, B7⟩ := key room (Nat.le_refl _) (by omega) sh hsh
        have HS := hide hsh
        obtain ⟨m2, hm2⟩ : ∃ m2, m = m2 + room := ⟨m - room, by omega⟩
        have HM := hide hm2
        have hmr2 : (room : Int) ≤ m := by omega
        have hshi : (sh : Int) ≤ 8 := by omega
        clear key hsh hm2
        go_wp2_with (first | ((with_reducible show wpList _ _ _ (Oper.mk _ (.binOp .rem _ _ _ _) _ _ _ _ :: _) _ _); refine wpList_remI (X := q) (d := 8) (Y := o) rfl rfl rfl (by decide) (by omega) HO.out ?_) | ((with_reducible show wpList _ _ _ (Oper.mk _ (.binOp .quo _ _ _ _) _ _ _ _ :: _) _ _); refine wpList_quoI (X := q) (d := 8) (Y := j) rfl rfl rfl (by decide) (by omega) HJ.out ?_) | ((with_reducible show wpList _ _ _ (Oper.mk _ (.binOp .sub _ _ _ _) _ _ _ _ :: _) _ _); (first | refine wpList_subI (X := 8) (Y := o) (Z := room) rfl rfl rfl (by decide) HR.out ?_ | refine wpList_subI (X := room) (Y := room) (Z := sh) rfl rfl rfl (by omega) HS.out ?_ | refine wpList_subI (X := m) (Y := room) (Z := m2) rfl rfl rfl (by omega) HM.out ?_ | refine wpList_sub1 (X := pw) (Z := pw1) rfl rfl rfl B1.out B2.out E2.out ?_)) | ((with_reducible show wpList _ _ _ (Oper.mk _ (.binOp .shr _ _ _ _) _ _ _ _ :: _) _ _); refine wpList_shr (X := x.toNat) (s := sh) (Z := y1) rfl rfl rfl (by omega) E3.out ?_) | ((with_reducible show wpList _ _ _ (Oper.mk _ (.binOp .shl _ _ _ _) _ _ _ _ :: _) _ _); (first | refine wpList_shl1 (s := room) (Z := pw) rfl rfl rfl (by omega) E1.out ?_ | refine wpList_shl (X := v) (s := room) (Z := v1) rfl rfl rfl B6.out E5.out ?_)) | ((with_reducible show wpList _ _ _ (Oper.mk _ (.binOp .and _ _ _ _) _ _ _ _ :: _) _ _); refine wpList_and (X := y1) (Y := pw1) (Z := y2) rfl rfl rfl B3.out B4.out E4.out ?_) | ((with_reducible show wpList _ _ _ (Oper.mk _ (.binOp .or _ _ _ _) _ _ _ _ :: _) _ _); refine wpList_or (X := v1) (Y := y2) (Z := v2) rfl rfl rfl B7.out B5.out E6.out ?_))
        go_round
        case rel =>
          have r1 := HQ.out
          have r2 := HMK.out
          have r3 := HM.out
          exact ⟨d + room, by go_num, by go_num, by omega, by rw [E7.out]⟩
        case measure => have r3 := HM.out; simp [intOf]; omega
    · obtain rfl : d = k := by omega
      have hm0 : d - d = 0 := by omega
      rw [hm0]
      clear hm0
      go_wp2_with fail
      go_ret
      exact ⟨rfl, rfl⟩

end Go.Proofs.Ytellclclpmofcaa
