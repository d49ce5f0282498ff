/-
  The contract of crossbarref11.Lists; conditions: the arguments read as lists of byte slices.
-/
import Derived.Test.YtellclclpmofcaaTRSplit
namespace Go.Proofs.Ytellclclpmofcaa
open Go.RowKit

theorem take_succ_eq {α : Type} {l1 l2 : List α} {k : Nat} {x y : α} (h : l1.take k = l2.take k) (h1 : l1[k]? = some x) (h2 : l2[k]? = some y) (e : x = y) : l1.take (k + 1) = l2.take (k + 1) := by
  rw [List.take_add_one, List.take_add_one, h, h1, h2, e]

set_option maxRecDepth 100000 in
set_option maxHeartbeats 2000000 in
theorem lists_walk (ad1 ad2 : Option Addr) (n m c1 c2 : Nat) (l1 l2 : List (List UInt8)) (w : World) (hn : n = l1.length) (hm : m = l2.length) (hn2 : n ≤ maxLen) (hm2 : m ≤ maxLen) (h1 : IsL w (.slice ad1 n c1) l1) (h2 : IsL w (.slice ad2 m c2) l2) :
    Calls Try.prog 43 #[.slice ad1 n c1, .slice ad2 m c2] w fun e w' => e = .returned (.bool (decide (l1 = l2))) ∧ Below w.heap.size w w' := by
  have HN := hide hn
  have HM := hide hm
  have H1 := hide h1
  have H2 := hide h2
  unfold maxLen at hn2 hm2
  clear hn hm h1 h2
  by_cases hnm : n = m
  · subst hnm
    go_enter Try.func43, Try.ntmps43
    go_wp2_with fail
    go_loopw [5] (fun t wr => ∃ k : Nat, k ≤ n ∧ l1.take k = l2.take k ∧ t = .int .i64 k ∧ Below w.heap.size w wr) (fun t _ => n - (intOf t).toNat)
    case atStart => exact ⟨0, Nat.zero_le _, rfl, rfl, Below.refl _ _⟩
    case round =>
    obtain ⟨k, hk, ht, rfl, hw⟩ := hrel
    have HT := hide ht
    have HW := hide hw
    have zr := hw.size
    clear ht hw
    by_cases hlt : k < n
    · obtain ⟨x, hx⟩ : ∃ x, l1[k]? = some x := ⟨l1[k]'(by rw [← HN.out]; exact hlt), by simp [← HN.out, hlt]⟩
      obtain ⟨y, hy⟩ : ∃ y, l2[k]? = some y := ⟨l2[k]'(by rw [← HM.out]; exact hlt), by simp [← HM.out, hlt]⟩
      obtain ⟨b1, o1, s1, rfl, hb1, hc1, hs1⟩ := (H1.out.below HW.out).cellAt hx
      obtain ⟨b2, o2, s2, rfl, hb2, hc2, hs2⟩ := (H2.out.below HW.out).cellAt hy
      have HX := hide hx
      have HY := hide hy
      have HS1 := hide hs1
      have HS2 := hide hs2
      clear hx hy hs1 hs2
      have hlt2 : (k : Int) < n := by omega
      obtain ⟨q, hq⟩ : ∃ q, q = !(x == y) := ⟨_, rfl⟩
      have HQ : Hid ((!(x == y)) = q) := hide hq.symm
      clear hq
      go_wp2_with fail
      refine wp_region_mono 11 28 (.val _ :: .val _ :: .val _ :: .val _ :: .val _ :: .val _ :: .val _ :: .val _ :: .val _ :: .val _ :: .val _ :: []) (by kernel_rfl) (by kernel_rfl) rfl trivial rfl ⟨
        fun a u hB hO hJ => .inl ⟨rfl, fun K Q hK => by
          have e0 : a.tmps[0]?.getD undef = .slice (some ⟨b1, o1, none⟩) n c1 := hO 0 rfl
          clear hO hJ
          exact wp_move_of e0 fun h => hK _ _ (Below.refl _ _) h⟩,
        fun a u hB hO hJ => .inl ⟨rfl, fun K Q hK => by
          have e5 : a.tmps[5]?.getD undef = .int .i64 k := hO 5 rfl
          clear hO hJ
          exact wp_move_of e5 fun h => hK _ _ (Below.refl _ _) h⟩,
        fun a u hB hO hJ => .inl ⟨rfl, fun K Q hK => by
          have e17 : a.tmps[17]?.getD undef = _ := hJ 0 rfl
          have e18 : a.tmps[18]?.getD undef = _ := hJ 1 rfl
          clear hO hJ
          go_simp
          try go_bits
          exact hK _ _ (Below.refl _ _) rfl⟩,
        fun a u hB hO hJ => .inl ⟨rfl, fun K Q hK => by
          have e19 : a.tmps[19]?.getD undef = _ := hJ 2 rfl
          clear hO hJ
          obtain ⟨hc, hf⟩ := bcell hB
          go_simp
          exact hK _ _ (Below.refl _ _) rfl⟩,
        fun a u hB hO hJ => .inl ⟨rfl, fun K Q hK => by
          have e20 : a.tmps[20]?.getD undef = _ := hJ 3 rfl
          clear hO hJ
          exact wp_conv_of e20 (HS1.out.below hB) (hK _ _ (Below.refl _ _) rfl)⟩,
        fun a u hB hO hJ => .inl ⟨rfl, fun K Q hK => by
          have e1 : a.tmps[1]?.getD undef = .slice (some ⟨b2, o2, none⟩) n c2 := hO 1 rfl
          clear hO hJ
          exact wp_move_of e1 fun h => hK _ _ (Below.refl _ _) h⟩,
        fun a u hB hO hJ => .inl ⟨rfl, fun K Q hK => by
          have e5 : a.tmps[5]?.getD undef = .int .i64 k := hO 5 rfl
          clear hO hJ
          exact wp_move_of e5 fun h => hK _ _ (Below.refl _ _) h⟩,
        fun a u hB hO hJ => .inl ⟨rfl, fun K Q hK => by
          have e22 : a.tmps[22]?.getD undef = _ := hJ 5 rfl
          have e23 : a.tmps[23]?.getD undef = _ := hJ 6 rfl
          clear hO hJ
          go_simp
          try go_bits
          exact hK _ _ (Below.refl _ _) rfl⟩,
        fun a u hB hO hJ => .inl ⟨rfl, fun K Q hK => by
          have e24 : a.tmps[24]?.getD undef = _ := hJ 7 rfl
          clear hO hJ
          obtain ⟨hc, hf⟩ := bcell hB
          go_simp
          exact hK _ _ (Below.refl _ _) rfl⟩,
        fun a u hB hO hJ => .inl ⟨rfl, fun K Q hK => by
          have e25 : a.tmps[25]?.getD undef = _ := hJ 8 rfl
          clear hO hJ
          exact wp_conv_of e25 (HS2.out.below hB) (hK _ _ (Below.refl _ _) rfl)⟩,
        fun a u hB hO hJ => .inl ⟨rfl, fun K Q hK => by
          have e21 : a.tmps[21]?.getD undef = _ := hJ 4 rfl
          have e26 : a.tmps[26]?.getD undef = _ := hJ 9 rfl
          clear hO hJ
          go_simp
          rw [HQ.out]
          exact hK _ _ (Below.refl _ _) rfl⟩,
        trivial⟩ ?fin6
      case fin6 =>
      intro u hB
      simp only [Act.put, List.setIfInBounds_toArray, List.set_cons_zero, List.set_cons_succ, List.drop_succ_cons, List.drop_nil, List.take_succ_cons, List.take_nil, Laid]
      have HBB := hide (HW.out.trans (hB.mono zr))
      clear hB
      by_cases hxy : x = y
      · subst hxy
        obtain rfl : false = q := by rw [← HQ.out]; simp
        go_wp2_with fail
        go_roundw
        case rel => exact ⟨k + 1, by omega, take_succ_eq HT.out HX.out HY.out rfl, by go_num, HBB.out⟩
        case measure => simp [intOf]; omega
      · obtain rfl : true = q := by rw [← HQ.out]; simp [hxy]
        have HNE : Hid (decide (l1 = l2) = false) := hide (by
          rw [decide_eq_false_iff_not]
          rintro rfl
          have e := HX.out
          rw [HY.out] at e
          exact hxy (Option.some.inj e).symm)
        clear hxy
        go_wp2_with fail
        go_ret
        exact ⟨by rw [HNE.out]; rfl, HBB.out⟩
    · have hge : (n : Int) ≤ k := by omega
      have HE : Hid (decide (l1 = l2) = true) := hide (by
        have h1 := HT.out
        have h2 := HN.out
        have h3 := HM.out
        rw [List.take_of_length_le (by omega), List.take_of_length_le (by omega)] at h1
        simp [h1])
      go_wp2_with fail
      go_ret
      exact ⟨by rw [HE.out]; rfl, HW.out⟩
  · have hb : ((n : Int) != (m : Int)) = true := by simp; omega
    have HNE : Hid (decide (l1 = l2) = false) := hide (by
      rw [decide_eq_false_iff_not]
      rintro rfl
      exact hnm (by rw [HN.out, HM.out]))
    clear hnm
    go_enter Try.func43, Try.ntmps43
    go_wp2_with fail
    go_ret
    exact ⟨by rw [HNE.out]; rfl, Below.refl _ _⟩

theorem lists_any (v1 v2 : Value) (l1 l2 : List (List UInt8)) (w : World) (h1 : IsL w v1 l1) (h2 : IsL w v2 l2) : Calls Try.prog 43 #[v1, v2] w fun e w' => e = .returned (.bool (decide (l1 = l2))) ∧ Below w.heap.size w w' := by
  obtain ⟨a, n, cap, rfl, hn, g1, g2⟩ := h1.len'
  obtain ⟨b, m, cap2, rfl, hm, g3, g4⟩ := h2.len'
  exact lists_walk a b n m cap cap2 l1 l2 w hn hm (by omega) (by omega) h1 h2

end Go.Proofs.Ytellclclpmofcaa
