/-
  The walk of crossbarlaw11.TrainSplits; conditions: the arguments read as data.
-/
import Derived.Test.YtellclclpmofcaaTApp
import Derived.Deep.DeepCutAuto
namespace Go.Proofs.Ytellclclpmofcaa
open Go.RowKit
set_option linter.unusedVariables false

def PClo (base : Nat) (l : List UInt8) (v : Value) (w : World) : Prop := ∃ s, v = .tuple #[s, .int .i64 0] ∧ Own w base s l
theorem PClo.stable (base : Nat) (l : List UInt8) : ∀ v w w', PClo base l v w → Below w.heap.size w w' → PClo base l v w' := fun _ _ _ ⟨s, h, ho⟩ hb => ⟨s, h, ho.below hb⟩

/-- The trailer of the k-th car, and the car. -/
def trAt (n tr k : Nat) : Nat := if k + 1 = n then 4 * (tr % 64) else 0
def carAt (l0 l1 : List UInt8) (ls : List (List UInt8)) (tr k : Nat) : List UInt8 :=
  closeL ((l0.getD k 0).toNat : Int) (((l1.getD k 0).toNat : Int) % 32) ((ls.getD k []).take ((ls.getD k []).length / 4 * 4)) (trAt ls.length tr k)
def carsTo (l0 l1 : List UInt8) (ls : List (List UInt8)) (tr k : Nat) : List (List UInt8) := (List.range k).map (carAt l0 l1 ls tr)

theorem carsTo_succ (l0 l1 : List UInt8) (ls : List (List UInt8)) (tr k : Nat) : carsTo l0 l1 ls tr (k + 1) = carsTo l0 l1 ls tr k ++ [carAt l0 l1 ls tr k] := by
  unfold carsTo
  rw [List.range_succ, List.map_append]
  rfl

theorem may_at (x0 x1 : UInt8) (q m : Nat) (hq : q ≤ 300) (hq4 : q % 4 = 0) (hm : m ≤ 252) (hm4 : m % 4 = 0) : mayB (x0.toNat : Int) ((x1.toNat : Int) % 32) q m = true := by
  have h0 := x0.toNat_lt
  have h1 := x1.toNat_lt
  simp only [mayB, Bool.and_eq_true, decide_eq_true_eq, rightB]
  omega

theorem trAt_le (n tr k : Nat) : trAt n tr k ≤ 252 ∧ trAt n tr k % 4 = 0 := by
  unfold trAt
  split <;> omega

theorem cars_of : ∀ (cs : List (List UInt8)), (∀ i x, cs[i]? = some x → ∃ p, Car x p ∧ (p = true → i + 1 = cs.length)) → Cars cs
  | [], _ => trivial
  | x :: r, h => by
    refine ⟨?_, cars_of r fun i y hy => ?_⟩
    · obtain ⟨p, h1, h2⟩ := h 0 x rfl
      exact ⟨p, h1, fun hp => by have := h2 hp; simp at this; exact this⟩
    · obtain ⟨p, h1, h2⟩ := h (i + 1) y (by simpa using hy)
      exact ⟨p, h1, fun hp => by have := h2 hp; simp at this; omega⟩

theorem carsTo_get {l0 l1 : List UInt8} {ls : List (List UInt8)} {tr n i : Nat} {x : List UInt8} (h : (carsTo l0 l1 ls tr n)[i]? = some x) : i < n ∧ x = carAt l0 l1 ls tr i := by
  unfold carsTo at h
  rw [List.getElem?_map] at h
  by_cases hi : i < n
  · rw [List.getElem?_range hi] at h
    exact ⟨hi, (Option.some.inj h).symm⟩
  · rw [List.getElem?_eq_none (by simp; omega)] at h
    cases h

/-- What a split of a cut train gives. -/
theorem cut_res {C : List (List UInt8)} (hc : Cars C) {q j s : Nat} (hj : j ≤ C.length) (hs : s = (C.take j).flatten.length) (hp : j = 0 ∨ (C.take (j - 1)).flatten.length < q) (hge : q ≤ s) (hq : q < C.flatten.length) :
    (s = q → 0 < q → spE (C.flatten.take q) = 0 ∧ (spL (C.flatten.take q)).length = j) ∧ (s ≠ q → spE (C.flatten.take q) ≠ 0) := by
  constructor
  · intro h1 h2
    have hne : C.flatten.take q ≠ [] := fun h => by have := congrArg List.length h; simp only [List.length_take, List.length_nil] at this; omega
    have := cut_whole hc (j := j) (q := q) (by omega)
    rw [spE, if_neg hne, spL, this]
    exact ⟨rfl, by simp; omega⟩
  · intro h1
    rcases hp with rfl | hp
    · simp at hs
      omega
    · cases j with
      | zero => simp at hs; omega
      | succ i =>
        simp only [Nat.add_sub_cancel] at hp
        obtain ⟨x, hx⟩ : ∃ x, C[i]? = some x := ⟨C[i]'(by omega), by simp⟩
        have e : (C.take (i + 1)).flatten.length = (C.take i).flatten.length + x.length := by
          rw [List.take_add_one, hx]
          simp
        have hne : C.flatten.take q ≠ [] := fun h => by have := congrArg List.length h; simp only [List.length_take, List.length_nil] at this; omega
        have := cut_within hc hx hp (by omega)
        rw [spE, if_neg hne]
        exact this

theorem take_step {C : List (List UInt8)} {j : Nat} {x : List UInt8} (hx : C[j]? = some x) : (C.take (j + 1)).flatten.length = (C.take j).flatten.length + x.length := by
  rw [List.take_add_one, hx]
  simp

theorem opV_agg2 (l : List UInt8) : ∃ p c t s, opV l = .agg #[.bool p, .int .i64 c, .int .i64 t, .int .i64 s] := by
  unfold opV
  split
  · exact ⟨_, _, _, _, rfl⟩
  · exact ⟨_, _, _, _, rfl⟩

theorem take_le (C : List (List UInt8)) (j : Nat) : (C.take j).flatten.length ≤ C.flatten.length := by
  conv => rhs; rw [← List.take_append_drop j C, List.flatten_append, List.length_append]
  omega

theorem flat_len : ∀ (L : List (List UInt8)), (∀ x ∈ L, 1 ≤ x.length) → L.length ≤ L.flatten.length
  | [], _ => by simp
  | y :: r, h => by
    rw [List.flatten_cons, List.length_append, List.length_cons]
    have := h y (by simp)
    have := flat_len r (fun z hz => h z (by simp [hz]))
    omega

set_option maxRecDepth 100000 in
set_option maxHeartbeats 4000000 in
theorem trainSplits_ok (a0 a1 a2 a4 : Option Addr) (n0 c0 n1 c1 n c2 n4 c4 : Nat) (l0 l1 l4 : List UInt8) (ls : List (List UInt8)) (tr cut : Nat) (w : World) (hn0 : n0 = l0.length) (hn1 : n1 = l1.length) (hn : n = ls.length) (hn4 : n4 = l4.length)
    (g20 : n ≤ 20) (gn0 : n ≤ n0) (gn1 : n ≤ n1) (g4 : n4 ≤ 3000) (m0 : n0 ≤ maxLen) (m1 : n1 ≤ maxLen) (htr : tr ≤ 255) (hcut : cut ≤ 65535) (h0 : IsB w (.slice a0 n0 c0) l0) (h1 : IsB w (.slice a1 n1 c1) l1) (h2 : IsL w (.slice a2 n c2) ls) (h4 : IsB w (.slice a4 n4 c4) l4) :
    Calls Try.prog 10 #[.slice a0 n0 c0, .slice a1 n1 c1, .slice a2 n c2, .int .u8 tr, .slice a4 n4 c4, .int .u16 cut] w fun e w' => e = .returned (.bool true) ∧ Below w.heap.size w w' := by
  unfold maxLen at m0 m1
  have G20 : (n : Int) ≤ 20 := by omega
  have GN0 : (n : Int) ≤ n0 := by omega
  have GN1 : (n : Int) ≤ n1 := by omega
  have G4 : (n4 : Int) ≤ 3000 := by omega
  have HN0 := hide hn0
  have HN1 := hide hn1
  have HN := hide hn
  have HN4 := hide hn4
  have H0 := hide h0
  have H1 := hide h1
  have H2 := hide h2
  have H4 := hide h4
  have tr255 : (tr : Int) ≤ 255 := by omega
  have cut6 : (cut : Int) ≤ 65535 := by omega
  clear hn0 hn1 hn hn4 h0 h1 h2 h4
  go_enter Try.func10, Try.ntmps10
  go_wp2_with fail
  refine (awake11 _).mono ?_
  rintro e w1 ⟨rfl, b1⟩
  have HW1 := hide b1
  clear b1
  go_wp2_with fail
  have HG20 := hide g20
  have HGN0 := hide gn0
  have HGN1 := hide gn1
  clear g20 gn0 gn1 G20 GN0 GN1
  generalize decide (n0 < n) = d0
  generalize decide (n1 < n) = d1
  generalize decide ((20 : Int) < (n : Int)) = d2
  generalize decide ((3000 : Int) < (n4 : Int)) = d3
  go_loopw [13, 14, 15] (fun cs all t wr => ∃ k : Nat, t = .int .i64 k ∧ k ≤ n ∧ OwnX wr w.heap.size cs (carsTo l0 l1 ls tr k) all ∧ Own wr w.heap.size all (carsTo l0 l1 ls tr k).flatten ∧ Below w.heap.size w wr ∧ (carsTo l0 l1 ls tr k).flatten.length ≤ 556 * k ∧ (carsTo l0 l1 ls tr k).length = k ∧ (∀ j, j < k → ∃ p, Car (carAt l0 l1 ls tr j) p ∧ (p = true → j + 1 = n))) (fun _ _ t _ => n - (intOf t).toNat)
  case atStart => exact ⟨0, rfl, Nat.zero_le _, OwnX.nil _ _ _, Own.nil _ _, HW1.out, by simp [carsTo], by simp [carsTo], fun j hj => by omega⟩
  case round =>
    obtain ⟨k, rfl, hk, ox, oa, bw, hfl, hcl, hcar⟩ := hrel
    have HCAR := hide hcar
    have HOX := hide ox
    have HOA := hide oa
    have HW := hide bw
    have HFL := hide hfl
    have HCL := hide hcl
    have zr := bw.size
    clear ox oa bw hfl hcl hcar
    by_cases hlt : k < n
    · have hlt2 : (k : Int) < n := by omega
      obtain ⟨y, hy⟩ : ∃ y, ls[k]? = some y := ⟨ls[k]'(by rw [← HN.out]; exact hlt), by simp⟩
      obtain ⟨x0, hx0⟩ : ∃ x, l0[k]? = some x := ⟨l0[k]'(by rw [← HN0.out]; have := HGN0.out; omega), by simp⟩
      obtain ⟨x1, hx1⟩ : ∃ x, l1[k]? = some x := ⟨l1[k]'(by rw [← HN1.out]; have := HGN1.out; omega), by simp⟩
      obtain ⟨b0, o0, rfl, h0b, h0c⟩ := (H0.out.below HW.out).cellAt hx0
      obtain ⟨b1, o1, rfl, h1b, h1c⟩ := (H1.out.below HW.out).cellAt hx1
      obtain ⟨b2, o2, s2, rfl, h2b, h2c, hs2⟩ := (H2.out.below HW.out).cellAt hy
      obtain ⟨ab, nb, cb, rfl, hnb, q5, q6⟩ := hs2.len'
      have hkn0 : k < n0 := by have := HGN0.out; omega
      have hkn1 : k < n1 := by have := HGN1.out; omega
      have qx0 := x0.toNat_lt
      have qx1 := x1.toNat_lt
      have HY := hide hs2
      by_cases hbig : (300 : Int) < nb
      · have hnbm : (nb : Int) ≤ 9223372036854775807 := by have : nb ≤ maxLen := by omega
                                                           unfold maxLen at this; omega
        clear hs2 hnb q5 q6 hx0 hx1 hy
        go_wp2_with fail
        go_ret
        exact ⟨rfl, HW.out⟩
      · have hnb3 : (nb : Int) ≤ 300 := by omega
        have hnb4 : nb ≤ 300 := by omega
        obtain ⟨m, hm⟩ : ∃ m, m = trAt n tr k := ⟨_, rfl⟩
        obtain ⟨x, hx⟩ : ∃ x, x = carAt l0 l1 ls tr k := ⟨_, rfl⟩
        have hmle := trAt_le n tr k
        rw [← hm] at hmle
        have HMAY : Hid (∀ q, q = (y.take (nb / 4 * 4)).length → mayB (x0.toNat : Int) ((x1.toNat : Int) % 32) q m = true) := hide (by
          intro q hq
          rw [List.length_take, ← hnb] at hq
          exact may_at x0 x1 q m (by omega) (by omega) hmle.1 hmle.2)
        have HX : Hid (closeL (x0.toNat : Int) ((x1.toNat : Int) % 32) (y.take (nb / 4 * 4)) m = x) := hide (by
          rw [hx, carAt, hm, ← HN.out]
          simp [List.getD, hx0, hx1, hy, hnb])
        have HQ : Hid (nb / 4 * 4 ≤ y.length) := hide (by omega)
        have HXL : Hid (x.length = 4 + nb / 4 * 4 + m) := hide (by rw [← HX.out, close_length, List.length_take, ← hnb, Nat.min_eq_left (by omega)])
        have HM := hide hm
        have HCK : Hid (∀ j, j < k + 1 → ∃ p, Car (carAt l0 l1 ls tr j) p ∧ (p = true → j + 1 = n)) := hide (by
          intro j hj
          by_cases hjk : j = k
          · subst hjk
            refine ⟨_, ⟨_, _, _, m, HMAY.out _ rfl, by rw [HX.out, hx], rfl⟩, fun hp => ?_⟩
            have hp' : 0 < m := by simpa using hp
            rw [hm, trAt] at hp'
            split at hp'
            · assumption
            · omega
          · exact HCAR.out j (by omega))
        have HXE := hide hx
        have hm252 : (m : Int) ≤ 252 := by omega
        clear hs2 hnb q5 q6 hx0 hx1 hy hx
        by_cases hlast : k + 1 = n
        · have hlast2 : ((k : Int) == (n : Int) - 1) = true := by simp; omega
          have hmv : m = 4 * (tr % 64) := by rw [hm, trAt, if_pos hlast]
          have HMV : Hid (4 * ((tr : Int) % 64) = m) := hide (by omega)
          clear hm hmv hlast hmle
          go_wp2_with fail
          rw [HMV.out]
          refine wp_region_late 28 246 27 0 (.val _ :: .val _ :: .val _ :: .val _ :: .val _ :: .val _ :: .val _ :: .val _ :: .val _ :: .val _ :: .val _ :: .val _ :: .val _ :: .val _ :: .val _ :: .val _ :: .val _ :: .val _ :: .val _ :: .val _ :: .val _ :: .val _ :: .pred (PB (y.take (nb / 4 * 4))) :: .val _ :: .pred (PClo wr.heap.size x) :: .pred (PClo wr.heap.size x) :: .pred (PO wr.heap.size x) :: .val _ :: []) (by kernel_rfl) (by kernel_rfl) rfl ⟨PB.stable _, PClo.stable _ _, PClo.stable _ _, PO.stable _ _, trivial⟩ rfl ⟨
            fun a u hB hO hJ => .inl ⟨rfl, fun K Q hK => by
              have e0 : a.tmps[0]?.getD undef = .slice (some ⟨b0, o0, none⟩) n0 c0 := hO 0 rfl
              clear hO hJ
              exact wp_move_of e0 fun h => hK _ _ (Below.refl _ _) h⟩,
            fun a u hB hO hJ => .inl ⟨rfl, fun K Q hK => by
              have e15 : a.tmps[15]?.getD undef = .int .i64 k := hO 15 rfl
              clear hO hJ
              exact wp_move_of e15 fun h => hK _ _ (Below.refl _ _) h⟩,
            fun a u hB hO hJ => .inl ⟨rfl, fun K Q hK => by
              have e78 : a.tmps[78]?.getD undef = _ := hJ 0 rfl
              have e79 : a.tmps[79]?.getD undef = _ := hJ 1 rfl
              clear hO hJ
              go_simp
              try go_bits
              exact hK _ _ (Below.refl _ _) rfl⟩,
            fun a u hB hO hJ => .inl ⟨rfl, fun K Q hK => by
              have e80 : a.tmps[80]?.getD undef = _ := hJ 2 rfl
              clear hO hJ
              have hcu := ((bcell hB).1 _ _ h0b).trans h0c
              go_simp
              exact hK _ _ (Below.refl _ _) rfl⟩,
            fun a u hB hO hJ => .inl ⟨rfl, fun K Q hK => by
              have e81 : a.tmps[81]?.getD undef = _ := hJ 3 rfl
              clear hO hJ
              go_simp
              try go_bits
              exact hK _ _ (Below.refl _ _) rfl⟩,
            fun a u hB hO hJ => .inl ⟨rfl, fun K Q hK => by
              have e1 : a.tmps[1]?.getD undef = .slice (some ⟨b1, o1, none⟩) n1 c1 := hO 1 rfl
              clear hO hJ
              exact wp_move_of e1 fun h => hK _ _ (Below.refl _ _) h⟩,
            fun a u hB hO hJ => .inl ⟨rfl, fun K Q hK => by
              have e15 : a.tmps[15]?.getD undef = .int .i64 k := hO 15 rfl
              clear hO hJ
              exact wp_move_of e15 fun h => hK _ _ (Below.refl _ _) h⟩,
            fun a u hB hO hJ => .inl ⟨rfl, fun K Q hK => by
              have e83 : a.tmps[83]?.getD undef = _ := hJ 5 rfl
              have e84 : a.tmps[84]?.getD undef = _ := hJ 6 rfl
              clear hO hJ
              go_simp
              try go_bits
              exact hK _ _ (Below.refl _ _) rfl⟩,
            fun a u hB hO hJ => .inl ⟨rfl, fun K Q hK => by
              have e85 : a.tmps[85]?.getD undef = _ := hJ 7 rfl
              clear hO hJ
              have hcu := ((bcell hB).1 _ _ h1b).trans h1c
              go_simp
              exact hK _ _ (Below.refl _ _) rfl⟩,
            fun a u hB hO hJ => .inl ⟨rfl, fun K Q hK => by
              have e86 : a.tmps[86]?.getD undef = _ := hJ 8 rfl
              clear hO hJ
              go_simp
              try go_bits
              exact hK _ _ (Below.refl _ _) rfl⟩,
            fun a u hB hO hJ => .inl ⟨rfl, fun K Q hK => by
              have e87 : a.tmps[87]?.getD undef = _ := hJ 9 rfl
              clear hO hJ
              go_simp
              try go_bits
              exact hK _ _ (Below.refl _ _) rfl⟩,
            fun a u hB hO hJ => .inl ⟨rfl, fun K Q hK => by
              have e2 : a.tmps[2]?.getD undef = .slice (some ⟨b2, o2, none⟩) n c2 := hO 2 rfl
              clear hO hJ
              exact wp_move_of e2 fun h => hK _ _ (Below.refl _ _) h⟩,
            fun a u hB hO hJ => .inl ⟨rfl, fun K Q hK => by
              have e15 : a.tmps[15]?.getD undef = .int .i64 k := hO 15 rfl
              clear hO hJ
              exact wp_move_of e15 fun h => hK _ _ (Below.refl _ _) h⟩,
            fun a u hB hO hJ => .inl ⟨rfl, fun K Q hK => by
              have e89 : a.tmps[89]?.getD undef = _ := hJ 11 rfl
              have e90 : a.tmps[90]?.getD undef = _ := hJ 12 rfl
              clear hO hJ
              go_simp
              try go_bits
              exact hK _ _ (Below.refl _ _) rfl⟩,
            fun a u hB hO hJ => .inl ⟨rfl, fun K Q hK => by
              have e91 : a.tmps[91]?.getD undef = _ := hJ 13 rfl
              clear hO hJ
              have hcu := ((bcell hB).1 _ _ h2b).trans h2c
              go_simp
              exact hK _ _ (Below.refl _ _) rfl⟩,
            fun a u hB hO hJ => .inl ⟨rfl, fun K Q hK => by
              have e2 : a.tmps[2]?.getD undef = .slice (some ⟨b2, o2, none⟩) n c2 := hO 2 rfl
              clear hO hJ
              exact wp_move_of e2 fun h => hK _ _ (Below.refl _ _) h⟩,
            fun a u hB hO hJ => .inl ⟨rfl, fun K Q hK => by
              have e15 : a.tmps[15]?.getD undef = .int .i64 k := hO 15 rfl
              clear hO hJ
              exact wp_move_of e15 fun h => hK _ _ (Below.refl _ _) h⟩,
            fun a u hB hO hJ => .inl ⟨rfl, fun K Q hK => by
              have e93 : a.tmps[93]?.getD undef = _ := hJ 15 rfl
              have e94 : a.tmps[94]?.getD undef = _ := hJ 16 rfl
              clear hO hJ
              go_simp
              try go_bits
              exact hK _ _ (Below.refl _ _) rfl⟩,
            fun a u hB hO hJ => .inl ⟨rfl, fun K Q hK => by
              have e95 : a.tmps[95]?.getD undef = _ := hJ 17 rfl
              clear hO hJ
              have hcu := ((bcell hB).1 _ _ h2b).trans h2c
              go_simp
              exact hK _ _ (Below.refl _ _) rfl⟩,
            fun a u hB hO hJ => .inl ⟨rfl, fun K Q hK => by
              have e96 : a.tmps[96]?.getD undef = _ := hJ 18 rfl
              clear hO hJ
              go_simp
              try go_bits
              exact hK _ _ (Below.refl _ _) rfl⟩,
            fun a u hB hO hJ => .inl ⟨rfl, fun K Q hK => by
              have e97 : a.tmps[97]?.getD undef = _ := hJ 19 rfl
              clear hO hJ
              go_simp
              try go_bits
              exact hK _ _ (Below.refl _ _) rfl⟩,
            fun a u hB hO hJ => .inl ⟨rfl, fun K Q hK => by
              have e98 : a.tmps[98]?.getD undef = _ := hJ 20 rfl
              clear hO hJ
              go_simp
              try go_bits
              exact hK _ _ (Below.refl _ _) rfl⟩,
            fun a u hB hO hJ => .inl ⟨rfl, fun K Q hK => by
              have e92 : a.tmps[92]?.getD undef = _ := hJ 14 rfl
              have e99 : a.tmps[99]?.getD undef = _ := hJ 21 rfl
              clear hO hJ
              have i1 := (HY.out.below hB).slice (Nat.zero_le _) HQ.out
              rw [List.drop_zero] at i1
              exact wp_slice_hi (hi := nb / 4 * 4) (by rw [evalTmp, e92]) (HY.out.below hB) (by rw [evalTmp, e99]) (by simp) HQ.out (hK _ _ (Below.refl _ _) i1)⟩,
            fun a u hB hO hJ => .inl ⟨rfl, fun K Q hK => by
              have e16 : a.tmps[16]?.getD undef = .int .i64 m := hO 16 rfl
              clear hO hJ
              exact wp_move_of e16 fun h => hK _ _ (Below.refl _ _) h⟩,
            fun a u hB hO hJ => .inl ⟨rfl, fun K Q hK => by
              have e82 : a.tmps[82]?.getD undef = _ := hJ 4 rfl
              have e88 : a.tmps[88]?.getD undef = _ := hJ 10 rfl
              have e100 : (PB (y.take (nb / 4 * 4))) (a.tmps[100]?.getD undef) u := hJ 22 rfl
              have e101 : a.tmps[101]?.getD undef = _ := hJ 23 rfl
              clear hO hJ
              obtain ⟨a9, n9, c9, h9, hn9, -⟩ := IsB.len' e100
              rw [h9] at e100
              have HN9 := hide hn9
              clear hn9
              go_simp
              refine (close_yes _ _ a9 n9 c9 _ m _ HN9.out e100 (HMAY.out _ HN9.out)).mono ?_
              rintro e w7 ⟨v7, rfl, o7, b7⟩
              rw [HX.out] at o7
              exact hK _ _ b7 ⟨v7, rfl, o7.mono hB.size⟩⟩,
            fun a u hB hO hJ => .inl ⟨rfl, fun K Q hK => by
              have e102 : (PClo wr.heap.size x) (a.tmps[102]?.getD undef) u := hJ 24 rfl
              clear hO hJ
              exact wp_move_of rfl fun h => hK _ _ (Below.refl _ _) (by rw [evalTmp]; exact e102)⟩,
            fun a u hB hO hJ => .inl ⟨rfl, fun K Q hK => by
              have e77 : (PClo wr.heap.size x) (a.tmps[77]?.getD undef) u := hJ 25 rfl
              clear hO hJ
              obtain ⟨s9, h9, o9⟩ := e77
              go_simp
              exact hK _ _ (Below.refl _ _) o9⟩,
            fun a u hB hO hJ => .inl ⟨rfl, fun K Q hK => by
              have e77 : (PClo wr.heap.size x) (a.tmps[77]?.getD undef) u := hJ 25 rfl
              clear hO hJ
              obtain ⟨s9, h9, o9⟩ := e77
              go_simp
              exact hK _ _ (Below.refl _ _) rfl⟩,
            trivial⟩ ?fin15 ?early15
          case fin15 => as_aux_lemma =>
            intro u hB
            simp only [Act.put, List.setIfInBounds_toArray, List.set_cons_zero, List.set_cons_succ, List.drop_succ_cons, List.drop_zero, List.take_succ_cons, List.take_zero, Laid]
            rintro v100 - v102 - v77 - v103 ho
            obtain ⟨a9, n9, c9, rfl, hn9, -⟩ := ho.isB.len'
            rw [HXL.out] at hn9
            have hb9 : ((n9 : Int) == 0) = false := by simp; omega
            have zu := hB.size
            have HBu := hide hB
            have HXo := hide ho
            have HLe : Hid ((carsTo l0 l1 ls tr k).length ≤ 1000000) := hide (by have := HCL.out; have := HG20.out; omega)
            have HAp := hide (fresh_apart HOA.out ho)
            have zz : w.heap.size ≤ u.heap.size := by omega
            have HBB := hide ((hB.alloc hB.size (.cells #[.slice a9 n9 c9] 24)))
            clear hn9 ho hB
            go_wp2_with (refine wpList_append_X (HOX.out.below HBB.out) (HOA.out.below HBB.out) ((HXo.out.mono zr).below ((Below.refl _ _).alloc (Nat.le_refl _) _)) HAp.out (heap_alloc_new _ _) HLe.out (by simp; omega) rfl rfl ?_)
            intro v7 w7 o7 p7 e7 b7
            have z7 := b7.size
            simp only [World.size_alloc] at z7
            have HO7 := hide o7
            have HP7 := hide p7
            have HE7 := hide e7.isB
            have HW7 := hide ((HW.out.trans (HBB.out.mono zr)).trans b7)
            have HSz : Hid ((carsTo l0 l1 ls tr k).flatten.length + x.length ≤ 140737488355328) := hide (by have := HFL.out; have := HXL.out; have := HG20.out; omega)
            clear o7 p7 e7 b7
            go_wp2_with (at_builtin; refine wpList_append_Y HO7.out HP7.out HE7.out HSz.out (by omega) rfl rfl ?_)
            intro v8 w8 o8 p8 b8
            have HO8 := hide o8
            have HP8 := hide p8
            have HW8 := hide (HW7.out.trans b8)
            have HS8 : Hid (carsTo l0 l1 ls tr (k + 1) = carsTo l0 l1 ls tr k ++ [x]) := hide (by rw [carsTo_succ, HXE.out])
            clear o8 p8 b8
            go_wp2_with fail
            go_roundw
            case rel => exact ⟨k + 1, by go_num, by omega, by rw [HS8.out]; exact HO8.out, by rw [HS8.out, List.flatten_append]; simpa using HP8.out, HW8.out, by have := HFL.out; have := HXL.out; rw [HS8.out, List.flatten_append, List.length_append, List.flatten_cons, List.flatten_nil, List.append_nil]; omega, by have := HCL.out; rw [HS8.out, List.length_append]; simp; omega, HCK.out⟩
            case measure => simp [intOf]; omega
          case early15 => as_aux_lemma =>
            intro u hB
            simp only [Act.put, List.setIfInBounds_toArray, List.set_cons_zero, List.set_cons_succ, List.take_succ_cons, List.take_zero, Laid]
            rintro v100 - v102 - _ ⟨s77, rfl, -⟩ v103 ho v104 -
            refine wpOp_of rfl rfl ?_
            go_simp
            simp only [early]
            obtain ⟨a9, n9, c9, rfl, hn9, -⟩ := ho.isB.len'
            rw [HXL.out] at hn9
            have hb9 : ((n9 : Int) == 0) = false := by simp; omega
            have zu := hB.size
            have HBu := hide hB
            have HXo := hide ho
            have HLe : Hid ((carsTo l0 l1 ls tr k).length ≤ 1000000) := hide (by have := HCL.out; have := HG20.out; omega)
            have HAp := hide (fresh_apart HOA.out ho)
            have zz : w.heap.size ≤ u.heap.size := by omega
            have HBB := hide ((hB.alloc hB.size (.cells #[.slice a9 n9 c9] 24)))
            clear hn9 ho hB
            go_wp2_with (refine wpList_append_X (HOX.out.below HBB.out) (HOA.out.below HBB.out) ((HXo.out.mono zr).below ((Below.refl _ _).alloc (Nat.le_refl _) _)) HAp.out (heap_alloc_new _ _) HLe.out (by simp; omega) rfl rfl ?_)
            intro v7 w7 o7 p7 e7 b7
            have z7 := b7.size
            simp only [World.size_alloc] at z7
            have HO7 := hide o7
            have HP7 := hide p7
            have HE7 := hide e7.isB
            have HW7 := hide ((HW.out.trans (HBB.out.mono zr)).trans b7)
            have HSz : Hid ((carsTo l0 l1 ls tr k).flatten.length + x.length ≤ 140737488355328) := hide (by have := HFL.out; have := HXL.out; have := HG20.out; omega)
            clear o7 p7 e7 b7
            go_wp2_with (at_builtin; refine wpList_append_Y HO7.out HP7.out HE7.out HSz.out (by omega) rfl rfl ?_)
            intro v8 w8 o8 p8 b8
            have HO8 := hide o8
            have HP8 := hide p8
            have HW8 := hide (HW7.out.trans b8)
            have HS8 : Hid (carsTo l0 l1 ls tr (k + 1) = carsTo l0 l1 ls tr k ++ [x]) := hide (by rw [carsTo_succ, HXE.out])
            clear o8 p8 b8
            go_wp2_with fail
            go_roundw
            case rel => exact ⟨k + 1, by go_num, by omega, by rw [HS8.out]; exact HO8.out, by rw [HS8.out, List.flatten_append]; simpa using HP8.out, HW8.out, by have := HFL.out; have := HXL.out; rw [HS8.out, List.flatten_append, List.length_append, List.flatten_cons, List.flatten_nil, List.append_nil]; omega, by have := HCL.out; rw [HS8.out, List.length_append]; simp; omega, HCK.out⟩
            case measure => simp [intOf]; omega
        · have hlast2 : ((k : Int) == (n : Int) - 1) = false := by simp; omega
          have hmv : m = 0 := by rw [hm, trAt, if_neg hlast]
          subst hmv
          clear hm hlast hmle
          go_wp2_with fail
          refine wp_region_late 28 246 27 0 (.val _ :: .val _ :: .val _ :: .val _ :: .val _ :: .val _ :: .val _ :: .val _ :: .val _ :: .val _ :: .val _ :: .val _ :: .val _ :: .val _ :: .val _ :: .val _ :: .val _ :: .val _ :: .val _ :: .val _ :: .val _ :: .val _ :: .pred (PB (y.take (nb / 4 * 4))) :: .val _ :: .pred (PClo wr.heap.size x) :: .pred (PClo wr.heap.size x) :: .pred (PO wr.heap.size x) :: .val _ :: []) (by kernel_rfl) (by kernel_rfl) rfl ⟨PB.stable _, PClo.stable _ _, PClo.stable _ _, PO.stable _ _, trivial⟩ rfl ⟨
            fun a u hB hO hJ => .inl ⟨rfl, fun K Q hK => by
              have e0 : a.tmps[0]?.getD undef = .slice (some ⟨b0, o0, none⟩) n0 c0 := hO 0 rfl
              clear hO hJ
              exact wp_move_of e0 fun h => hK _ _ (Below.refl _ _) h⟩,
            fun a u hB hO hJ => .inl ⟨rfl, fun K Q hK => by
              have e15 : a.tmps[15]?.getD undef = .int .i64 k := hO 15 rfl
              clear hO hJ
              exact wp_move_of e15 fun h => hK _ _ (Below.refl _ _) h⟩,
            fun a u hB hO hJ => .inl ⟨rfl, fun K Q hK => by
              have e78 : a.tmps[78]?.getD undef = _ := hJ 0 rfl
              have e79 : a.tmps[79]?.getD undef = _ := hJ 1 rfl
              clear hO hJ
              go_simp
              try go_bits
              exact hK _ _ (Below.refl _ _) rfl⟩,
            fun a u hB hO hJ => .inl ⟨rfl, fun K Q hK => by
              have e80 : a.tmps[80]?.getD undef = _ := hJ 2 rfl
              clear hO hJ
              have hcu := ((bcell hB).1 _ _ h0b).trans h0c
              go_simp
              exact hK _ _ (Below.refl _ _) rfl⟩,
            fun a u hB hO hJ => .inl ⟨rfl, fun K Q hK => by
              have e81 : a.tmps[81]?.getD undef = _ := hJ 3 rfl
              clear hO hJ
              go_simp
              try go_bits
              exact hK _ _ (Below.refl _ _) rfl⟩,
            fun a u hB hO hJ => .inl ⟨rfl, fun K Q hK => by
              have e1 : a.tmps[1]?.getD undef = .slice (some ⟨b1, o1, none⟩) n1 c1 := hO 1 rfl
              clear hO hJ
              exact wp_move_of e1 fun h => hK _ _ (Below.refl _ _) h⟩,
            fun a u hB hO hJ => .inl ⟨rfl, fun K Q hK => by
              have e15 : a.tmps[15]?.getD undef = .int .i64 k := hO 15 rfl
              clear hO hJ
              exact wp_move_of e15 fun h => hK _ _ (Below.refl _ _) h⟩,
            fun a u hB hO hJ => .inl ⟨rfl, fun K Q hK => by
              have e83 : a.tmps[83]?.getD undef = _ := hJ 5 rfl
              have e84 : a.tmps[84]?.getD undef = _ := hJ 6 rfl
              clear hO hJ
              go_simp
              try go_bits
              exact hK _ _ (Below.refl _ _) rfl⟩,
            fun a u hB hO hJ => .inl ⟨rfl, fun K Q hK => by
              have e85 : a.tmps[85]?.getD undef = _ := hJ 7 rfl
              clear hO hJ
              have hcu := ((bcell hB).1 _ _ h1b).trans h1c
              go_simp
              exact hK _ _ (Below.refl _ _) rfl⟩,
            fun a u hB hO hJ => .inl ⟨rfl, fun K Q hK => by
              have e86 : a.tmps[86]?.getD undef = _ := hJ 8 rfl
              clear hO hJ
              go_simp
              try go_bits
              exact hK _ _ (Below.refl _ _) rfl⟩,
            fun a u hB hO hJ => .inl ⟨rfl, fun K Q hK => by
              have e87 : a.tmps[87]?.getD undef = _ := hJ 9 rfl
              clear hO hJ
              go_simp
              try go_bits
              exact hK _ _ (Below.refl _ _) rfl⟩,
            fun a u hB hO hJ => .inl ⟨rfl, fun K Q hK => by
              have e2 : a.tmps[2]?.getD undef = .slice (some ⟨b2, o2, none⟩) n c2 := hO 2 rfl
              clear hO hJ
              exact wp_move_of e2 fun h => hK _ _ (Below.refl _ _) h⟩,
            fun a u hB hO hJ => .inl ⟨rfl, fun K Q hK => by
              have e15 : a.tmps[15]?.getD undef = .int .i64 k := hO 15 rfl
              clear hO hJ
              exact wp_move_of e15 fun h => hK _ _ (Below.refl _ _) h⟩,
            fun a u hB hO hJ => .inl ⟨rfl, fun K Q hK => by
              have e89 : a.tmps[89]?.getD undef = _ := hJ 11 rfl
              have e90 : a.tmps[90]?.getD undef = _ := hJ 12 rfl
              clear hO hJ
              go_simp
              try go_bits
              exact hK _ _ (Below.refl _ _) rfl⟩,
            fun a u hB hO hJ => .inl ⟨rfl, fun K Q hK => by
              have e91 : a.tmps[91]?.getD undef = _ := hJ 13 rfl
              clear hO hJ
              have hcu := ((bcell hB).1 _ _ h2b).trans h2c
              go_simp
              exact hK _ _ (Below.refl _ _) rfl⟩,
            fun a u hB hO hJ => .inl ⟨rfl, fun K Q hK => by
              have e2 : a.tmps[2]?.getD undef = .slice (some ⟨b2, o2, none⟩) n c2 := hO 2 rfl
              clear hO hJ
              exact wp_move_of e2 fun h => hK _ _ (Below.refl _ _) h⟩,
            fun a u hB hO hJ => .inl ⟨rfl, fun K Q hK => by
              have e15 : a.tmps[15]?.getD undef = .int .i64 k := hO 15 rfl
              clear hO hJ
              exact wp_move_of e15 fun h => hK _ _ (Below.refl _ _) h⟩,
            fun a u hB hO hJ => .inl ⟨rfl, fun K Q hK => by
              have e93 : a.tmps[93]?.getD undef = _ := hJ 15 rfl
              have e94 : a.tmps[94]?.getD undef = _ := hJ 16 rfl
              clear hO hJ
              go_simp
              try go_bits
              exact hK _ _ (Below.refl _ _) rfl⟩,
            fun a u hB hO hJ => .inl ⟨rfl, fun K Q hK => by
              have e95 : a.tmps[95]?.getD undef = _ := hJ 17 rfl
              clear hO hJ
              have hcu := ((bcell hB).1 _ _ h2b).trans h2c
              go_simp
              exact hK _ _ (Below.refl _ _) rfl⟩,
            fun a u hB hO hJ => .inl ⟨rfl, fun K Q hK => by
              have e96 : a.tmps[96]?.getD undef = _ := hJ 18 rfl
              clear hO hJ
              go_simp
              try go_bits
              exact hK _ _ (Below.refl _ _) rfl⟩,
            fun a u hB hO hJ => .inl ⟨rfl, fun K Q hK => by
              have e97 : a.tmps[97]?.getD undef = _ := hJ 19 rfl
              clear hO hJ
              go_simp
              try go_bits
              exact hK _ _ (Below.refl _ _) rfl⟩,
            fun a u hB hO hJ => .inl ⟨rfl, fun K Q hK => by
              have e98 : a.tmps[98]?.getD undef = _ := hJ 20 rfl
              clear hO hJ
              go_simp
              try go_bits
              exact hK _ _ (Below.refl _ _) rfl⟩,
            fun a u hB hO hJ => .inl ⟨rfl, fun K Q hK => by
              have e92 : a.tmps[92]?.getD undef = _ := hJ 14 rfl
              have e99 : a.tmps[99]?.getD undef = _ := hJ 21 rfl
              clear hO hJ
              have i1 := (HY.out.below hB).slice (Nat.zero_le _) HQ.out
              rw [List.drop_zero] at i1
              exact wp_slice_hi (hi := nb / 4 * 4) (by rw [evalTmp, e92]) (HY.out.below hB) (by rw [evalTmp, e99]) (by simp) HQ.out (hK _ _ (Below.refl _ _) i1)⟩,
            fun a u hB hO hJ => .inl ⟨rfl, fun K Q hK => by
              have e16 : a.tmps[16]?.getD undef = .int .i64 0 := hO 16 rfl
              clear hO hJ
              exact wp_move_of e16 fun h => hK _ _ (Below.refl _ _) h⟩,
            fun a u hB hO hJ => .inl ⟨rfl, fun K Q hK => by
              have e82 : a.tmps[82]?.getD undef = _ := hJ 4 rfl
              have e88 : a.tmps[88]?.getD undef = _ := hJ 10 rfl
              have e100 : (PB (y.take (nb / 4 * 4))) (a.tmps[100]?.getD undef) u := hJ 22 rfl
              have e101 : a.tmps[101]?.getD undef = _ := hJ 23 rfl
              clear hO hJ
              obtain ⟨a9, n9, c9, h9, hn9, -⟩ := IsB.len' e100
              rw [h9] at e100
              have HN9 := hide hn9
              clear hn9
              go_simp
              refine (close_yes _ _ a9 n9 c9 _ 0 _ HN9.out e100 (HMAY.out _ HN9.out)).mono ?_
              rintro e w7 ⟨v7, rfl, o7, b7⟩
              rw [HX.out] at o7
              exact hK _ _ b7 ⟨v7, rfl, o7.mono hB.size⟩⟩,
            fun a u hB hO hJ => .inl ⟨rfl, fun K Q hK => by
              have e102 : (PClo wr.heap.size x) (a.tmps[102]?.getD undef) u := hJ 24 rfl
              clear hO hJ
              exact wp_move_of rfl fun h => hK _ _ (Below.refl _ _) (by rw [evalTmp]; exact e102)⟩,
            fun a u hB hO hJ => .inl ⟨rfl, fun K Q hK => by
              have e77 : (PClo wr.heap.size x) (a.tmps[77]?.getD undef) u := hJ 25 rfl
              clear hO hJ
              obtain ⟨s9, h9, o9⟩ := e77
              go_simp
              exact hK _ _ (Below.refl _ _) o9⟩,
            fun a u hB hO hJ => .inl ⟨rfl, fun K Q hK => by
              have e77 : (PClo wr.heap.size x) (a.tmps[77]?.getD undef) u := hJ 25 rfl
              clear hO hJ
              obtain ⟨s9, h9, o9⟩ := e77
              go_simp
              exact hK _ _ (Below.refl _ _) rfl⟩,
            trivial⟩ ?fin15 ?early15
          case fin15 => as_aux_lemma =>
            intro u hB
            simp only [Act.put, List.setIfInBounds_toArray, List.set_cons_zero, List.set_cons_succ, List.drop_succ_cons, List.drop_zero, List.take_succ_cons, List.take_zero, Laid]
            rintro v100 - v102 - v77 - v103 ho
            obtain ⟨a9, n9, c9, rfl, hn9, -⟩ := ho.isB.len'
            rw [HXL.out] at hn9
            have hb9 : ((n9 : Int) == 0) = false := by simp; omega
            have zu := hB.size
            have HBu := hide hB
            have HXo := hide ho
            have HLe : Hid ((carsTo l0 l1 ls tr k).length ≤ 1000000) := hide (by have := HCL.out; have := HG20.out; omega)
            have HAp := hide (fresh_apart HOA.out ho)
            have zz : w.heap.size ≤ u.heap.size := by omega
            have HBB := hide ((hB.alloc hB.size (.cells #[.slice a9 n9 c9] 24)))
            clear hn9 ho hB
            go_wp2_with (refine wpList_append_X (HOX.out.below HBB.out) (HOA.out.below HBB.out) ((HXo.out.mono zr).below ((Below.refl _ _).alloc (Nat.le_refl _) _)) HAp.out (heap_alloc_new _ _) HLe.out (by simp; omega) rfl rfl ?_)
            intro v7 w7 o7 p7 e7 b7
            have z7 := b7.size
            simp only [World.size_alloc] at z7
            have HO7 := hide o7
            have HP7 := hide p7
            have HE7 := hide e7.isB
            have HW7 := hide ((HW.out.trans (HBB.out.mono zr)).trans b7)
            have HSz : Hid ((carsTo l0 l1 ls tr k).flatten.length + x.length ≤ 140737488355328) := hide (by have := HFL.out; have := HXL.out; have := HG20.out; omega)
            clear o7 p7 e7 b7
            go_wp2_with (at_builtin; refine wpList_append_Y HO7.out HP7.out HE7.out HSz.out (by omega) rfl rfl ?_)
            intro v8 w8 o8 p8 b8
            have HO8 := hide o8
            have HP8 := hide p8
            have HW8 := hide (HW7.out.trans b8)
            have HS8 : Hid (carsTo l0 l1 ls tr (k + 1) = carsTo l0 l1 ls tr k ++ [x]) := hide (by rw [carsTo_succ, HXE.out])
            clear o8 p8 b8
            go_wp2_with fail
            go_roundw
            case rel => exact ⟨k + 1, by go_num, by omega, by rw [HS8.out]; exact HO8.out, by rw [HS8.out, List.flatten_append]; simpa using HP8.out, HW8.out, by have := HFL.out; have := HXL.out; rw [HS8.out, List.flatten_append, List.length_append, List.flatten_cons, List.flatten_nil, List.append_nil]; omega, by have := HCL.out; rw [HS8.out, List.length_append]; simp; omega, HCK.out⟩
            case measure => simp [intOf]; omega
          case early15 => as_aux_lemma =>
            intro u hB
            simp only [Act.put, List.setIfInBounds_toArray, List.set_cons_zero, List.set_cons_succ, List.take_succ_cons, List.take_zero, Laid]
            rintro v100 - v102 - _ ⟨s77, rfl, -⟩ v103 ho v104 -
            refine wpOp_of rfl rfl ?_
            go_simp
            simp only [early]
            obtain ⟨a9, n9, c9, rfl, hn9, -⟩ := ho.isB.len'
            rw [HXL.out] at hn9
            have hb9 : ((n9 : Int) == 0) = false := by simp; omega
            have zu := hB.size
            have HBu := hide hB
            have HXo := hide ho
            have HLe : Hid ((carsTo l0 l1 ls tr k).length ≤ 1000000) := hide (by have := HCL.out; have := HG20.out; omega)
            have HAp := hide (fresh_apart HOA.out ho)
            have zz : w.heap.size ≤ u.heap.size := by omega
            have HBB := hide ((hB.alloc hB.size (.cells #[.slice a9 n9 c9] 24)))
            clear hn9 ho hB
            go_wp2_with (refine wpList_append_X (HOX.out.below HBB.out) (HOA.out.below HBB.out) ((HXo.out.mono zr).below ((Below.refl _ _).alloc (Nat.le_refl _) _)) HAp.out (heap_alloc_new _ _) HLe.out (by simp; omega) rfl rfl ?_)
            intro v7 w7 o7 p7 e7 b7
            have z7 := b7.size
            simp only [World.size_alloc] at z7
            have HO7 := hide o7
            have HP7 := hide p7
            have HE7 := hide e7.isB
            have HW7 := hide ((HW.out.trans (HBB.out.mono zr)).trans b7)
            have HSz : Hid ((carsTo l0 l1 ls tr k).flatten.length + x.length ≤ 140737488355328) := hide (by have := HFL.out; have := HXL.out; have := HG20.out; omega)
            clear o7 p7 e7 b7
            go_wp2_with (at_builtin; refine wpList_append_Y HO7.out HP7.out HE7.out HSz.out (by omega) rfl rfl ?_)
            intro v8 w8 o8 p8 b8
            have HO8 := hide o8
            have HP8 := hide p8
            have HW8 := hide (HW7.out.trans b8)
            have HS8 : Hid (carsTo l0 l1 ls tr (k + 1) = carsTo l0 l1 ls tr k ++ [x]) := hide (by rw [carsTo_succ, HXE.out])
            clear o8 p8 b8
            go_wp2_with fail
            go_roundw
            case rel => exact ⟨k + 1, by go_num, by omega, by rw [HS8.out]; exact HO8.out, by rw [HS8.out, List.flatten_append]; simpa using HP8.out, HW8.out, by have := HFL.out; have := HXL.out; rw [HS8.out, List.flatten_append, List.length_append, List.flatten_cons, List.flatten_nil, List.append_nil]; omega, by have := HCL.out; rw [HS8.out, List.length_append]; simp; omega, HCK.out⟩
            case measure => simp [intOf]; omega
    · obtain rfl : k = n := by omega
      obtain ⟨C, hC⟩ : ∃ C, C = carsTo l0 l1 ls tr k := ⟨_, rfl⟩
      have hcs : Cars C := by
        rw [hC]
        refine cars_of _ fun i x hx => ?_
        obtain ⟨hi, rfl⟩ := carsTo_get hx
        obtain ⟨p, h1, h2⟩ := HCAR.out i hi
        exact ⟨p, h1, fun hp => by rw [HCL.out]; exact h2 hp⟩
      rw [← hC] at HOX HOA HFL HCL
      have HCS := hide hcs
      have HL4 : Hid (l4.length ≤ 1000000) := hide (by have := HN4.out; omega)
      have HLA : Hid (C.flatten.length ≤ 1000000) := hide (by have := HFL.out; have := HG20.out; omega)
      clear hcs hC
      obtain ⟨aA, nA, cA, rfl, hnA, -⟩ := HOA.out.isB.len'
      obtain ⟨aC, nC, cC, rfl, hnC, -⟩ := HOX.out.own.isL.len'
      have hnCk : nC = k := by rw [hnC, HCL.out]
      subst hnCk
      have HNA := hide hnA
      have hk20 : (nC : Int) ≤ 20 := by have := HG20.out; omega
      have hnA5 : (nA : Int) ≤ 1000000 := by have := HLA.out; omega
      clear hnA hnC hlt
      go_wp2_with fail
      refine (split_any _ _ _ HOA.out.isB HLA.out).mono ?_
      rintro e w2 ⟨v2, rfl, i2, b2⟩
      obtain ⟨a2', n2', c2', rfl, -⟩ := i2.len'
      have z2 := b2.size
      have HW2 := hide (HW.out.trans (b2.mono zr))
      have HXA := hide (HOA.out.below b2)
      have HXC := hide (HOX.out.own.isL.below b2)
      have HI2 := hide i2
      obtain ⟨er, her⟩ : ∃ er, er = spE C.flatten := ⟨_, rfl⟩
      rw [← her]
      have HER := hide her
      clear her i2 b2
      go_upto_if 126 with fail
      go_cut [] (fun wx => Below w2.heap.size w2 wx)
      case first => as_aux_lemma =>
        by_cases hk0 : nC = 0
        · subst hk0
          have hC0 : C = [] := List.eq_nil_of_length_eq_zero HCL.out
          obtain rfl : er = 2 := by rw [HER.out, hC0]; rfl
          clear hC0
          go_wp2_with fail
          go_meet
          case rel => exact Below.refl _ _
        · have hC0 : C ≠ [] := by
            rintro rfl
            exact hk0 HCL.out.symm
          have hj := sp_join C HCS.out
          have hCf : C.flatten ≠ [] := fun h => by
            rw [h, sp_nil] at hj
            exact hC0 (congrArg Prod.snd hj).symm
          obtain rfl : er = 0 := by rw [HER.out, spE, if_neg hCf, hj]
          have HSL : Hid (spL C.flatten = C) := hide (by rw [spL, hj])
          have hb0 : ((nC : Int) == 0) = false := by simp; omega
          have HLI := hide (lists_any _ _ _ _ _ HI2.out HXC.out)
          clear hC0 hCf hj hk0
          go_wp2_with fail
          refine HLI.out.mono ?_
          rintro e w3 ⟨rfl, b3⟩
          rw [HSL.out, decide_eq_true (rfl : C = C)]
          have HB3 := hide b3
          clear b3
          go_wp2_with fail
          go_meet
          case rel => exact HB3.out
      case rest =>
        have zc := hcut.size
        have HW3 := hide (HW2.out.trans (hcut.mono HW2.out.size))
        have HYA := hide (HXA.out.below hcut)
        have HYC := hide (HXC.out.below hcut)
        clear hcut
        go_upto_if 139 with fail
        go_cut [] (fun wx => Below w.heap.size w wx)
        case first => as_aux_lemma =>
          by_cases hA0 : nA = 0
          · subst hA0
            go_wp2_with fail
            go_meet
            case rel => exact HW3.out
          · have hA1 : (0 : Int) < nA := by omega
            have hA2 : ((nA : Int) == 0) = false := by simp; omega
            obtain ⟨q, hq⟩ : ∃ q, q = cut % nA := ⟨_, rfl⟩
            have HQV : Hid ((cut : Int) % nA = q) := hide (by omega)
            have hqlt : q < nA := by rw [hq]; exact Nat.mod_lt _ (by omega)
            have HQ : Hid (q ≤ C.flatten.length) := hide (by rw [← HNA.out]; omega)
            have HQL : Hid (q < C.flatten.length) := hide (by rw [← HNA.out]; omega)
            have hqi : (q : Int) ≤ 1000000 := by omega
            have i3 := (HYA.out.isB).slice (Nat.zero_le _) HQ.out
            rw [List.drop_zero] at i3
            have HI3 := hide i3
            have HL3 : Hid ((C.flatten.take q).length ≤ 1000000) := hide (by rw [List.length_take]; have := HLA.out; omega)
            clear hq i3
            go_upto_region 28 with fail
            rw [HQV.out]
            go_wp2_with (((with_reducible show wpList _ _ _ (Oper.mk _ (.slice 24 _ none (some _) none) _ _ _ _ :: _) _ _); refine wpList_slice_hi (HYA.out.isB) q HQ.out rfl (by rfl) rfl rfl ?_))
            refine (split_any _ _ _ HI3.out HL3.out).mono ?_
            rintro e w5 ⟨v5, rfl, i5, b5⟩
            obtain ⟨a5, n5, c5, rfl, hn5, q5, q5'⟩ := i5.len'
            have hn5m : (n5 : Int) ≤ 9223372036854775807 := by have : n5 ≤ maxLen := by omega
                                                               unfold maxLen at this; omega
            have z5 := b5.size
            obtain ⟨e5, he5⟩ : ∃ e5, e5 = spE (C.flatten.take q) := ⟨_, rfl⟩
            rw [← he5]
            have HE5 := hide he5
            have HN5 := hide hn5
            have HYC5 := hide (HYC.out.below b5)
            have HW5 := hide (HW3.out.trans (b5.mono HW3.out.size))
            clear he5 hn5 i5 b5 q5 q5'
            go_wp2_with fail
            go_loop [24, 25] (fun s m => ∃ j : Nat, m = .int .i64 j ∧ j ≤ nC ∧ s = .int .i64 ((C.take j).flatten.length : Nat) ∧ (j = 0 ∨ (C.take (j - 1)).flatten.length < q)) (fun _ m => nC - (intOf m).toNat)
            case atStart => exact ⟨0, rfl, Nat.zero_le _, rfl, .inl rfl⟩
            case round =>
              obtain ⟨j, rfl, hj, rfl, hp⟩ := hrel
              have hsle := take_le C j
              obtain ⟨s, hs⟩ : ∃ s, s = (C.take j).flatten.length := ⟨_, rfl⟩
              rw [← hs] at hsle ⊢
              have HS := hide hs
              have HP := hide hp
              have hs6 : (s : Int) ≤ 1000000 := by have := HLA.out; omega
              clear hs hsle hp
              by_cases hge : q ≤ s
              · have hgi : (q : Int) ≤ s := by omega
                have hres := cut_res HCS.out (by rw [HCL.out]; exact hj) HS.out HP.out hge HQL.out
                rw [← HE5.out, ← HN5.out] at hres
                by_cases hsq : s = q
                · subst hsq
                  by_cases hq0 : s = 0
                  · subst hq0
                    have hjn : j ≤ nC := hj
                    clear hres
                    by_cases hjn2 : (j : Int) < nC
                    · go_wp2_with fail
                      go_meet
                      case rel => exact HW5.out
                    · go_wp2_with fail
                      go_meet
                      case rel => exact HW5.out
                  · obtain ⟨h1, h2⟩ := hres.1 rfl (by omega)
                    subst h1 h2
                    have hq1 : (0 : Int) < s := by omega
                    clear hres
                    by_cases hjn2 : (n5 : Int) < nC
                    · go_wp2_with fail
                      go_meet
                      case rel => exact HW5.out
                    · go_wp2_with fail
                      go_meet
                      case rel => exact HW5.out
                · have hb1 : ((s : Int) == q) = false := by simp; omega
                  have hb2 : (e5 == 0) = false := by simpa using hres.2 hsq
                  clear hres
                  by_cases hjn2 : (j : Int) < nC
                  · go_wp2_with fail
                    go_meet
                    case rel => exact HW5.out
                  · go_wp2_with fail
                    go_meet
                    case rel => exact HW5.out
              · have hgi : (s : Int) < q := by omega
                have hjn : j < nC := by
                  rcases Nat.lt_or_ge j nC with h | h
                  · exact h
                  · have := HS.out
                    rw [List.take_of_length_le (by rw [HCL.out]; exact h)] at this
                    have := HNA.out
                    omega
                have hjn2 : (j : Int) < nC := by omega
                obtain ⟨x, hx⟩ : ∃ x, C[j]? = some x := ⟨C[j]'(by rw [HCL.out]; exact hjn), by simp⟩
                obtain ⟨b3, o3, s3, rfl, h3b, h3c, hs3⟩ := HYC5.out.cellAt hx
                obtain ⟨ax, nx, cx, rfl, hnx, -, -⟩ := hs3.len'
                have hst := take_step hx
                have hst2 := take_le C (j + 1)
                rw [← HS.out, ← hnx] at hst
                have HST := hide hst
                have hnx6 : (nx : Int) ≤ 1000000 := by have := HLA.out; omega
                clear hx hs3 hnx hst hst2
                go_wp2_with fail
                go_round
                case rel => exact ⟨j + 1, by go_num, by omega, by rw [HST.out]; go_num, .inr (by rw [Nat.add_sub_cancel, ← HS.out]; omega)⟩
                case measure => simp [intOf]; omega
        case rest => as_aux_lemma =>
          have HW4 := hide hcut
          have zc4 := hcut.size
          clear hcut
          go_wp2_with fail
          refine (split_any _ _ _ (H4.out.below HW4.out) HL4.out).mono ?_
          rintro e w5 ⟨v5, rfl, i5, b5⟩
          have z5 := b5.size
          have HW5 := hide (HW4.out.trans (b5.mono HW4.out.size))
          obtain ⟨a5, n5, c5, rfl, hn5, q5, q5'⟩ := i5.len'
          by_cases er0 : spE l4 = 0
          · have hl4n : l4 ≠ [] := by
              rintro rfl
              rw [spE, if_pos rfl] at er0
              cases er0
            have hsp : (sp l4).1 = 0 := by rw [spE, if_neg hl4n] at er0; exact er0
            obtain ⟨hflat, hparts⟩ := sp_parts _ l4 rfl hsp
            obtain ⟨P, hP⟩ : ∃ P, P = spL l4 := ⟨_, rfl⟩
            have hP2 : (sp l4).2 = P := by rw [hP, spL]
            rw [hP2] at hflat hparts
            rw [er0]
            rw [← hP] at i5 hn5
            have hn5m : n5 ≤ 1000000 := by
              have := flat_len P (fun x hx => by
                obtain ⟨i, hi⟩ := List.getElem?_of_mem hx
                have hx0 := (hparts i x hi).1
                cases x with
                | nil => exact absurd hx0 (by decide)
                | cons y r => simp)
              rw [hflat] at this
              have := HL4.out
              omega
            have hn5i : (n5 : Int) ≤ 1000000 := by omega
            have HI5 := hide i5
            have HN5 := hide hn5
            have HFLAT := hide hflat
            have HPARTS := hide hparts
            clear er0 hl4n hsp hP hP2 hflat hparts i5 b5 q5 q5' hn5
            go_wp2_with fail
            go_loopw [26, 27] (fun ag t wr => ∃ j : Nat, t = .int .i64 j ∧ j ≤ n5 ∧ Own wr w5.heap.size ag (P.take j).flatten ∧ Below w5.heap.size w5 wr) (fun _ t _ => n5 - (intOf t).toNat)
            case atStart => exact ⟨0, rfl, Nat.zero_le _, Own.nil _ _, Below.refl _ _⟩
            case round =>
              obtain ⟨j, rfl, hj, og, bw5⟩ := hrel
              have bww := HW5.out.trans (bw5.mono HW5.out.size)
              have HOG := hide og
              have HB5 := hide bw5
              have HBW := hide bww
              have zr5 := bw5.size
              have zrw := bww.size
              clear og bw5 bww
              by_cases hlt : j < n5
              · have hlt2 : (j : Int) < n5 := by omega
                obtain ⟨x, hx⟩ : ∃ x, P[j]? = some x := ⟨P[j]'(by rw [← HN5.out]; exact hlt), by simp⟩
                obtain ⟨b3, o3, s3, rfl, h3b, h3c, hs3⟩ := (HI5.out.below HB5.out).cellAt hx
                obtain ⟨hoe, hon⟩ := HPARTS.out j x hx
                rw [← HN5.out] at hon
                have HS3 := hide hs3
                have HX := hide hx
                have HOP := hide (open_any _ _ _ hs3)
                have HOE := hide hoe
                obtain ⟨p, c, t, s, hv⟩ := opV_agg2 x
                have HV := hide hv
                obtain ⟨on, hon'⟩ : ∃ on, on = opN x := ⟨_, rfl⟩
                rw [← hon'] at hon
                have HON := hide hon'
                clear hx hs3 hoe hv hon'
                go_wp2_with fail
                refine HOP.out.mono ?_
                rintro e w7 ⟨v7, rfl, o7, b7⟩
                rw [HV.out, HOE.out, ← HON.out]
                have z7 := b7.size
                have HW7 := hide (HBW.out.trans (b7.mono zrw))
                have HWA := hide (HW7.out.alloc HW7.out.size (.cells #[.bool p, .int .i64 c, .int .i64 t, .int .i64 s] 23))
                have HBA := hide ((b7.alloc b7.size (.cells #[.bool p, .int .i64 c, .int .i64 t, .int .i64 s] 23)))
                have HB5A := hide (HB5.out.trans (HBA.out.mono zr5))
                obtain ⟨a7, n7, c7, rfl, -⟩ := o7.isB.len'
                have HOGA := hide (HOG.out.below HBA.out)
                have HS3A := hide (HS3.out.below HBA.out)
                have HLX : Hid ((P.take j).flatten.length + x.length ≤ 140737488355328) := hide (by
                  rw [← take_step HX.out]
                  have := take_le P (j + 1)
                  rw [HFLAT.out] at this
                  have := HL4.out
                  omega)
                have HTS : Hid ((P.take (j + 1)).flatten = (P.take j).flatten ++ x) := hide (by rw [List.take_add_one, HX.out]; simp)
                have zzA : w5.heap.size ≤ w7.heap.size + 1 := by omega
                have h3c7 := ((bcell b7).1 _ _ h3b).trans h3c
                have h3b7 : b3 < w7.heap.size := by omega
                clear o7 b7 h3c
                by_cases hon0 : on = 0
                · subst hon0
                  clear hon
                  go_wp2_with (at_builtin; refine wpList_append_B HOGA.out HS3A.out HLX.out (by simp; omega) rfl rfl ?_)
                  intro v8 w8 o8 b8
                  have HO8 := hide o8
                  have HW8 := hide (HB5A.out.trans b8)
                  clear o8 b8
                  go_wp2_with fail
                  go_roundw
                  case rel => exact ⟨j + 1, by go_num, by omega, by rw [HTS.out]; exact HO8.out, HW8.out⟩
                  case measure => simp [intOf]; omega
                · have hon1 : (0 : Int) < on := by omega
                  have hlast := hon hon0
                  have hlast2 : ¬ ((j : Int) + 1 < n5) := by omega
                  clear hon hon0
                  go_wp2_with (at_builtin; refine wpList_append_B HOGA.out HS3A.out HLX.out (by simp; omega) rfl rfl ?_)
                  intro v8 w8 o8 b8
                  have HO8 := hide o8
                  have HW8 := hide (HB5A.out.trans b8)
                  clear o8 b8
                  go_wp2_with fail
                  go_roundw
                  case rel => exact ⟨j + 1, by go_num, by omega, by rw [HTS.out]; exact HO8.out, HW8.out⟩
                  case measure => simp [intOf]; omega
              · obtain rfl : j = n5 := by omega
                have HQ4 : Hid ((P.take j).flatten = l4) := hide (by rw [List.take_of_length_le (by rw [HN5.out]; exact Nat.le_refl _), HFLAT.out])
                have HOGB := hide HOG.out.isB
                rw [HQ4.out] at HOGB
                have H4B := hide (H4.out.below HBW.out)
                have HT4 : Hid ((l4 == l4) = true) := hide (by simp)
                go_wp2_with (first | (refine wpList_conv (by rfl) rfl HOGB.out ?_) | (refine wpList_conv (by rfl) rfl H4B.out ?_))
                go_ret
                exact ⟨ret_bool (by simp), HBW.out⟩
          · have hbad : spL l4 = [] := by
              rw [spE] at er0
              rw [spL]
              split at er0
              · rename_i h
                rw [h, sp_nil]
              · exact sp_bad_nil l4 er0
            rw [hbad] at hn5
            obtain rfl : n5 = 0 := hn5
            obtain ⟨er, her⟩ : ∃ er, er = spE l4 := ⟨_, rfl⟩
            rw [← her] at er0 ⊢
            have hb : (er != 0) = true := by simpa using er0
            clear hbad her er0 i5 b5
            go_wp2_with fail
            go_ret
            exact ⟨rfl, HW5.out⟩

end Go.Proofs.Ytellclclpmofcaa
