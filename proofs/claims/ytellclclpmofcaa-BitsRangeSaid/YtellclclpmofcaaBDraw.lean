/-
  The contract of bits.draw: a number behind an ink; conditions: the ink is right, the number has no more than 64 bits.
-/
import Derived.Test.YtellclclpmofcaaBInkA
import Derived.Test.YtellclclpmofcaaX
namespace Go.Proofs.Ytellclclpmofcaa
open Go.RowKit
set_option linter.unusedVariables false

/-- A byte of a row that the call owns, written. -/
theorem Own.setB {w : World} {base g n cap j : Nat} {l : List UInt8} (h : Own w base (.slice (some ⟨g, 0, none⟩) n cap) l) (hj : j < l.length) (x : UInt8) : Own (w.setCell ⟨g, j, none⟩ (bval x)) base (.slice (some ⟨g, 0, none⟩) n cap) (l.set j x) := by
  rcases h.2 with ⟨he, _⟩ | ⟨g', cap', cur, he, hb, hg, hnc, hcm, hcs, htake⟩
  · cases he
  · obtain ⟨rfl, rfl, rfl⟩ : g = g' ∧ n = l.length ∧ cap = cap' := by simpa using he
    refine ⟨by simp, .inr ⟨g, cap, cur.setIfInBounds j (bval x), by simp, hb, heap_setCell_same w g j cur 5 _ hg, by simpa using hnc, hcm, by simpa using hcs, ?_⟩⟩
    simp only [List.length_set, Nat.mul_one] at htake ⊢
    rw [Array.toList_setIfInBounds, List.take_set, htake, List.map_set]

/-- The bytes while a number is drawn: d of its bits are there. -/
def drawn (L : Nat) (l : List UInt8) (M v K d : Nat) : List UInt8 := mkBits L (inkF l M v K d)

theorem drawn_start {l : List UInt8} {M L : Nat} (v K : Nat) (h : inkB l (M : Int) = true) (hL : l.length ≤ L) : l ++ (List.replicate L (0 : UInt8)).drop l.length = drawn L l M v K 0 := by
  obtain ⟨h1, h2, h3⟩ := inkB_spec.1 h
  refine mk_ext (by simp; omega) fun i hi => ?_
  rw [bitAt_append, inkF]
  by_cases him : i < M
  · rw [if_pos him, if_pos (show i < 8 * l.length by omega)]
  · rw [if_neg him, if_neg (show ¬ i < M + 0 by omega)]
    split
    · exact h3 i (by omega)
    · rw [List.drop_replicate, bitAt]
      simp [List.getD, List.getElem?_replicate]
      split <;> simp

theorem drawn_step {l : List UInt8} {M v K d t j sh : Nat} {x : UInt8} {L : Nat} (hj : (M + d) / 8 = j) (hjL : j < L) (hx : (drawn L l M v K d)[j]? = some x) (hs : 8 = sh + t + (M + d) % 8) (ht : t ≤ K - d) (hd : d ≤ K) :
    drawn L l M v K (d + t) = (drawn L l M v K d).set j (UInt8.ofNat (x.toNat ||| ((v >>> (K - d - t)) &&& (2 ^ t - 1)) <<< sh)) ∧ ((v >>> (K - d - t)) &&& (2 ^ t - 1)) <<< sh < 256 := by
  have hlt : ((v >>> (K - d - t)) &&& (2 ^ t - 1)) <<< sh < 256 := by
    have h1 : (v >>> (K - d - t)) &&& (2 ^ t - 1) < 2 ^ t := Nat.and_lt_two_pow _ (by have := Nat.one_le_two_pow (n := t); omega)
    rw [Nat.shiftLeft_eq]
    calc ((v >>> (K - d - t)) &&& (2 ^ t - 1)) * 2 ^ sh < 2 ^ t * 2 ^ sh := Nat.mul_lt_mul_of_pos_right h1 (Nat.pow_pos (by decide))
      _ = 2 ^ (t + sh) := (Nat.pow_add _ _ _).symm
      _ ≤ 2 ^ 8 := Nat.pow_le_pow_right (by decide) (by omega)
  refine ⟨?_, hlt⟩
  have hlen : (drawn L l M v K d).length = L := mkBits_length _ _
  refine (mk_ext (by rw [List.length_set, hlen]) fun i hi => ?_).symm
  rw [bitAt_set (by rw [hlen]; exact hjL)]
  have hbd : bitAt (drawn L l M v K d) i = inkF l M v K d i := bitAt_mk hi
  have hor : x.toNat ||| ((v >>> (K - d - t)) &&& (2 ^ t - 1)) <<< sh < 2 ^ 8 := Nat.or_lt_two_pow x.toNat_lt hlt
  by_cases hij : i / 8 = j
  · rw [if_pos hij, toNat_ofNat hor, Nat.testBit_or]
    have hx2 : x.toNat.testBit (7 - i % 8) = inkF l M v K d i := by
      rw [← hbd, bitAt, hij, List.getD_eq_getElem?_getD, hx]
      rfl
    rw [hx2, Nat.testBit_shiftLeft, Nat.testBit_and, Nat.testBit_shiftRight, Nat.testBit_two_pow_sub_one, inkF, inkF]
    by_cases h1 : i < M
    · rw [if_pos h1, if_pos h1]
      by_cases h2 : sh ≤ 7 - i % 8
      · have : ¬ (7 - i % 8 - sh < t) := by omega
        simp [this]
      · simp [h2]
    · rw [if_neg h1, if_neg h1]
      by_cases h2 : i < M + d
      · rw [if_pos h2, if_pos (by omega)]
        by_cases h3 : sh ≤ 7 - i % 8
        · have : ¬ (7 - i % 8 - sh < t) := by omega
          simp [this]
        · simp [h3]
      · rw [if_neg h2]
        by_cases h3 : i < M + (d + t)
        · rw [if_pos h3]
          have e1 : sh ≤ 7 - i % 8 := by omega
          have e2 : 7 - i % 8 - sh < t := by omega
          have e3 : K - d - t + (7 - i % 8 - sh) = M + K - 1 - i := by omega
          simp [e1, e2, e3]
        · rw [if_neg h3]
          have e1 : ¬ (sh ≤ 7 - i % 8) := by omega
          simp [e1]
  · rw [if_neg hij, hbd, inkF, inkF]
    by_cases h1 : i < M
    · rw [if_pos h1, if_pos h1]
    · rw [if_neg h1, if_neg h1]
      by_cases h2 : i < M + d
      · rw [if_pos h2, if_pos (by omega)]
      · rw [if_neg h2, if_neg (by omega)]

/-- An ink that a call gives back. -/
def RetInk (w : World) (l : List UInt8) (m : Int) (r : Ending) (w' : World) : Prop :=
  ∃ v, r = .returned (.agg #[v, .int .i64 m]) ∧ Own w' w.heap.size v l ∧ Below w.heap.size w w'

set_option maxRecDepth 100000 in
set_option maxHeartbeats 2000000 in
theorem draw70 (a : Option Addr) (n c M v K : Nat) (l : List UInt8) (w : World) (hn : n = l.length) (hl : n ≤ 1000000) (hink : inkB l (M : Int) = true) (hK : K ≤ 64) (hv : v < 18446744073709551616) (h : IsB w (.slice a n c) l) :
    Calls Try.prog 70 #[.agg #[.slice a n c, .int .i64 (M : Int)], .int .u64 (v : Int), .int .i64 (K : Int)] w (RetInk w (inkAdd l M v K) ((M + K : Nat) : Int)) := by
  obtain ⟨g1, g2, -⟩ := inkB_spec.1 hink
  have hM6 : (M : Int) ≤ 8000000 := by omega
  have hK6 : (K : Int) ≤ 64 := by omega
  obtain ⟨L, hL⟩ : ∃ L, L = (M + K + 7) / 8 := ⟨_, rfl⟩
  have HLI : Hid (((M : Int) + K + 7) / 8 = (L : Int)) := hide (by omega)
  have hLn : l.length ≤ L := by omega
  have hL6 : L ≤ 1000008 := by omega
  have HST := hide (drawn_start v K hink hLn)
  have HLn := hide hLn
  have HEND : Hid (drawn L l M v K K = inkAdd l M v K) := hide (by rw [hL]; rfl)
  have HN := hide hn
  have HI := hide h
  have hv64 := hv
  clear hn h hink g1 g2 hLn hL hv
  unfold RetInk
  go_enter Try.func70, Try.ntmps70
  go_wp2_with (at_make; refine wpList_make_B L HLI.out HLI.out (by omega) rfl rfl ?_)
  simp only [World.size_alloc]
  intro w1 o1 b1 s1
  have HB1 := hide (((Below.refl w.heap.size w).alloc (Nat.le_refl _) (.cells #[.slice a n c, .int .i64 (M : Int)] 69)).trans ((Below.refl _ _).alloc (by simp) (.cells #[.slice none 0 0, .int .i64 0] 69) |>.trans ((b1.mono (show w.heap.size ≤ w.heap.size + 1 + 1 by omega)))))
  have HR1 := hide ((b1.block w.heap.size (by omega)).trans (heap_alloc2_old w (.cells #[.slice a n c, .int .i64 (M : Int)] 69) (.cells #[.slice none 0 0, .int .i64 0] 69)))
  have HR2 := hide ((b1.block (w.heap.size + 1) (by omega)).trans (heap_alloc2_new w (.cells #[.slice a n c, .int .i64 (M : Int)] 69) (.cells #[.slice none 0 0, .int .i64 0] 69)))
  obtain ⟨k1, k2, k3⟩ := row_facts HR1.out
  have HI1 := hide (HI.out.below HB1.out)
  have HO1 := hide o1
  clear b1 o1
  go_wp2_with (with_reducible refine wpList_copy_B HO1.out HI1.out ?_ ?_ ?_ ?_ ?_)
  · have := HLn.out
    simpa using this
  · omega
  · rfl
  · rfl
  intro w2 o2 b2 s2
  rw [HST.out] at o2
  have HO2 := hide o2
  have HB2 := hide (HB1.out.trans (b2.mono (show w.heap.size ≤ w.heap.size + 1 + 1 by omega)))
  have HR1' := hide ((b2.block w.heap.size (by omega)).trans HR1.out)
  have HR2' := hide ((b2.block (w.heap.size + 1) (by omega)).trans HR2.out)
  clear k1 k2 k3 o2 b2
  obtain ⟨k1, k2, k3⟩ := row_facts HR1'.out
  go_wp2_with fail
  have hN2 : w.heap.size + 1 + 1 ≤ w2.heap.size := by omega
  go_loopw [2, 9] (fun t p wr => ∃ d : Nat, p = .int .i64 ((M + d : Nat) : Int) ∧ t = .int .i64 ((K - d : Nat) : Int) ∧ d ≤ K ∧ Own wr (w.heap.size + 1 + 1) (.slice (some ⟨w.heap.size + 1 + 1, 0, none⟩) L L) (drawn L l M v K d) ∧ Below (w.heap.size + 1 + 1) w2 wr) (fun t _ _ => (intOf t).toNat)
  case atStart => exact ⟨0, rfl, rfl, Nat.zero_le _, HO2.out, Below.refl _ _⟩
  case round =>
    obtain ⟨d, rfl, rfl, hd, how, hbw⟩ := hrel
    have HOW := hide how
    have HBW := hide hbw
    have zr := hbw.size
    by_cases hlt : d < K
    · obtain ⟨q, hq⟩ : ∃ q, q = M + d := ⟨_, rfl⟩
      obtain ⟨m, hm⟩ : ∃ m, m = K - d := ⟨_, rfl⟩
      obtain ⟨o, ho⟩ : ∃ o, q % 8 = o := ⟨_, rfl⟩
      obtain ⟨j, hj⟩ : ∃ j, q / 8 = j := ⟨_, rfl⟩
      rw [← hq, ← hm]
      have ho8 : o < 8 := by omega
      obtain ⟨room, hroom⟩ : ∃ room, 8 = room + o := ⟨8 - o, by omega⟩
      have hLM := HLI.out
      have hjL : j < L := by omega
      have hjL2 : (j : Int) < L := by omega
      clear hLM
      have hdl : (drawn L l M v K d).length = L := mkBits_length _ _
      have HJL : Hid (j < (drawn L l M v K d).length) := hide (by rw [hdl]; exact hjL)
      obtain ⟨x, hx⟩ : ∃ x, (drawn L l M v K d)[j]? = some x := ⟨(drawn L l M v K d)[j]'HJL.out, by simp⟩
      obtain ⟨b, off, hbo, hb, hcl⟩ := how.isB.cellAt hx
      obtain ⟨rfl, rfl⟩ : b = w.heap.size + 1 + 1 ∧ off = 0 := by
        have := Option.some.inj hbo
        injection this with e1 e2 _
        exact ⟨e1.symm, e2.symm⟩
      clear hbo
      rw [Nat.zero_add] at hcl
      obtain ⟨cur, hcur⟩ : ∃ cur, wr.heap[w.heap.size + 1 + 1]? = some (.cells cur 5 (0, 0)) := by
        rcases how.2 with ⟨he, _⟩ | ⟨g', cap', cur, he, _, hg, _⟩
        · cases he
        · obtain ⟨rfl, -⟩ : w.heap.size + 1 + 1 = g' ∧ L = cap' := by
            injection he with e1 e2 e3
            injection e1 with e4
            injection e4 with e5
            exact ⟨e5, e3⟩
          exact ⟨cur, hg⟩
      have hfr := (row_facts hcur).2.1 j
      have hx8 := x.toNat_lt
      have hm0 : (0 : Int) < m := by omega
      have hm64 : (m : Int) ≤ 64 := by omega
      have hroom1 : (1 : Int) ≤ room := by omega
      have hroom8 : (room : Int) ≤ 8 := by omega
      have hq6 : (q : Int) ≤ 8000064 := by omega
      have HQ := hide hq
      have HMK := hide hm
      have HO := hide ho
      have HJ := hide hj
      have HR := hide hroom
      have key : ∀ t : Nat, t ≤ room → t ≤ m → ∀ s : Nat, room = s + t → ∀ m2 : Nat, m = m2 + t → ∃ pw pw1 y1 y2 y3 z : Nat, Hid (2 ^ t = pw) ∧ Hid (pw - 1 = pw1) ∧ Hid (v >>> m2 = y1) ∧ Hid (y1 &&& pw1 = y2) ∧ Hid (y2 <<< s = y3) ∧ Hid (x.toNat ||| y3 = z) ∧ Hid (drawn L l M v K (d + t) = (drawn L l M v K d).set j (UInt8.ofNat z)) ∧
          Hid (pw < 18446744073709551616) ∧ Hid (1 ≤ pw) ∧ Hid (y1 < 18446744073709551616) ∧ Hid (pw1 < 18446744073709551616) ∧ y3 < 256 ∧ Hid (y2 <<< s < 18446744073709551616) ∧ z < 256 := by
        intro t h1 h2 s h3 m2 h4
        have e1 : 2 ^ t ≤ 2 ^ 8 := Nat.pow_le_pow_right (by decide) (by omega)
        have e2 : 1 ≤ 2 ^ t := Nat.one_le_two_pow
        have e4 : v >>> m2 ≤ v := by rw [Nat.shiftRight_eq_div_pow]; exact Nat.div_le_self _ _
        obtain ⟨e5, e6⟩ := drawn_step (v := v) (t := t) (sh := s) (by rw [← hq]; exact hj) hjL hx (by rw [← hq, ho]; omega) (by omega) hd
        rw [show K - d - t = m2 by omega] at e5 e6
        exact ⟨_, _, _, _, _, _, hide rfl, hide rfl, hide rfl, hide rfl, hide rfl, hide rfl, hide e5, hide (by omega), hide e2, hide (by omega), hide (by omega), e6, hide (by omega), Nat.or_lt_two_pow (n := 8) hx8 e6⟩
      clear hq hm ho hj hroom hx how hbw hcur hdl
      by_cases hmr : m < room
      · obtain ⟨sh, hsh⟩ : ∃ sh, room = sh + m := ⟨room - m, by omega⟩
        obtain ⟨m2, hm2⟩ : ∃ m2, m = m2 + m := ⟨0, by omega⟩
        obtain ⟨pw, pw1, y1, y2, y3, z, E1, E2, E3, E4, E5, E6, E7, B1, B2, B3, B4, hy3, B6, hz⟩ := key m (by omega) (Nat.le_refl _) sh hsh m2 hm2
        have HS := hide hsh
        have HM := hide hm2
        have hmr2 : (m : Int) < room := by omega
        have hshi : (sh : Int) ≤ 8 := by omega
        have hm2i : (m2 : Int) ≤ 64 := by omega
        have hm8 : m < 64 := by omega
        clear key hsh hm2
        go_wp2_with (first | ((with_reducible show wpList _ _ _ (Oper.mk _ (.binOp .rem _ _ _ _) _ _ _ _ :: _) _ _); refine wpList_remI (X := q) (d := 8) (Y := o) rfl rfl rfl (by decide) (by omega) HO.out ?_) | ((with_reducible show wpList _ _ _ (Oper.mk _ (.binOp .quo _ _ _ _) _ _ _ _ :: _) _ _); refine wpList_quoI (X := q) (d := 8) (Y := j) rfl rfl rfl (by decide) (by omega) HJ.out ?_) | ((with_reducible show wpList _ _ _ (Oper.mk _ (.binOp .sub _ _ _ _) _ _ _ _ :: _) _ _); (first | refine wpList_subI (X := 8) (Y := o) (Z := room) rfl rfl rfl (by decide) HR.out ?_ | refine wpList_subI (X := room) (Y := m) (Z := sh) rfl rfl rfl (by omega) HS.out ?_ | refine wpList_subI (X := m) (Y := m) (Z := m2) rfl rfl rfl (by omega) HM.out ?_ | refine wpList_sub1 (X := pw) (Z := pw1) rfl rfl rfl B1.out B2.out E2.out ?_)) | ((with_reducible show wpList _ _ _ (Oper.mk _ (.binOp .shr _ _ _ _) _ _ _ _ :: _) _ _); refine wpList_shr (X := v) (s := m2) (Z := y1) rfl rfl rfl hv64 E3.out ?_) | ((with_reducible show wpList _ _ _ (Oper.mk _ (.binOp .shl _ _ _ _) _ _ _ _ :: _) _ _); (first | refine wpList_shl1 (s := m) (Z := pw) rfl rfl rfl (by omega) E1.out ?_ | refine wpList_shl (X := y2) (s := sh) (Z := y3) rfl rfl rfl B6.out E5.out ?_)) | ((with_reducible show wpList _ _ _ (Oper.mk _ (.binOp .and _ _ _ _) _ _ _ _ :: _) _ _); refine wpList_and (X := y1) (Y := pw1) (Z := y2) rfl rfl rfl B3.out B4.out E4.out ?_) | ((with_reducible show wpList _ _ _ (Oper.mk _ (.binOp .or _ _ _ _) _ _ _ _ :: _) _ _); refine wpList_or8 (X := x.toNat) (Y := y3) (Z := z) rfl rfl rfl (by omega) (by omega) E6.out ?_))
        go_roundw
        case rel =>
          have r1 := HQ.out
          have r2 := HMK.out
          have r3 := HM.out
          refine ⟨d + m, by go_num, by go_num, by omega, ?_, HBW.out.setCell (by simp) _⟩
          have := HOW.out.setB HJL.out (UInt8.ofNat z)
          rw [← E7.out, bval_ofNat z (by omega)] at this
          simpa using this
        case measure => have r3 := HM.out; simp [intOf]; omega
      · obtain ⟨sh, hsh⟩ : ∃ sh, room = sh + room := ⟨0, by omega⟩
        obtain ⟨m2, hm2⟩ : ∃ m2, m = m2 + room := ⟨m - room, by omega⟩
        obtain ⟨pw, pw1, y1, y2, y3, z, E1, E2, E3, E4, E5, E6, E7, B1, B2, B3, B4, hy3, B6, hz⟩ := key room (Nat.le_refl _) (by omega) sh hsh m2 hm2
        have HS := hide hsh
        have HM := hide hm2
        have hmr2 : (room : Int) ≤ m := by omega
        have hshi : (sh : Int) ≤ 8 := by omega
        have hm2i : (m2 : Int) ≤ 64 := by omega
        clear key hsh hm2
        go_wp2_with (first | ((with_reducible show wpList _ _ _ (Oper.mk _ (.binOp .rem _ _ _ _) _ _ _ _ :: _) _ _); refine wpList_remI (X := q) (d := 8) (Y := o) rfl rfl rfl (by decide) (by omega) HO.out ?_) | ((with_reducible show wpList _ _ _ (Oper.mk _ (.binOp .quo _ _ _ _) _ _ _ _ :: _) _ _); refine wpList_quoI (X := q) (d := 8) (Y := j) rfl rfl rfl (by decide) (by omega) HJ.out ?_) | ((with_reducible show wpList _ _ _ (Oper.mk _ (.binOp .sub _ _ _ _) _ _ _ _ :: _) _ _); (first | refine wpList_subI (X := 8) (Y := o) (Z := room) rfl rfl rfl (by decide) HR.out ?_ | refine wpList_subI (X := room) (Y := room) (Z := sh) rfl rfl rfl (by omega) HS.out ?_ | refine wpList_subI (X := m) (Y := room) (Z := m2) rfl rfl rfl (by omega) HM.out ?_ | refine wpList_sub1 (X := pw) (Z := pw1) rfl rfl rfl B1.out B2.out E2.out ?_)) | ((with_reducible show wpList _ _ _ (Oper.mk _ (.binOp .shr _ _ _ _) _ _ _ _ :: _) _ _); refine wpList_shr (X := v) (s := m2) (Z := y1) rfl rfl rfl hv64 E3.out ?_) | ((with_reducible show wpList _ _ _ (Oper.mk _ (.binOp .shl _ _ _ _) _ _ _ _ :: _) _ _); (first | refine wpList_shl1 (s := room) (Z := pw) rfl rfl rfl (by omega) E1.out ?_ | refine wpList_shl (X := y2) (s := sh) (Z := y3) rfl rfl rfl B6.out E5.out ?_)) | ((with_reducible show wpList _ _ _ (Oper.mk _ (.binOp .and _ _ _ _) _ _ _ _ :: _) _ _); refine wpList_and (X := y1) (Y := pw1) (Z := y2) rfl rfl rfl B3.out B4.out E4.out ?_) | ((with_reducible show wpList _ _ _ (Oper.mk _ (.binOp .or _ _ _ _) _ _ _ _ :: _) _ _); refine wpList_or8 (X := x.toNat) (Y := y3) (Z := z) rfl rfl rfl (by omega) (by omega) E6.out ?_))
        go_roundw
        case rel =>
          have r1 := HQ.out
          have r2 := HMK.out
          have r3 := HM.out
          refine ⟨d + room, by go_num, by go_num, by omega, ?_, HBW.out.setCell (by simp) _⟩
          have := HOW.out.setB HJL.out (UInt8.ofNat z)
          rw [← E7.out, bval_ofNat z (by omega)] at this
          simpa using this
        case measure => have r3 := HM.out; simp [intOf]; omega
    · obtain rfl : d = K := by omega
      have hm0 : d - d = 0 := by omega
      rw [hm0]
      have HR2w := hide ((hbw.block (w.heap.size + 1) (by omega)).trans HR2'.out)
      clear hm0 how hbw
      go_wp2_with (refine wpList_storeW (w.heap.size + 1) _ rfl rfl 69 _ HR2w.out (by kernel_rfl) rfl rfl ?_)
      intro w3 hk3 hg3 hz3
      have HOF := hide (HOW.out)
      rw [HEND.out] at HOF
      have HOG := hide (World.ownsRow.kept HOF.out hg3 (.inr (by simp [Value.ownBlock])))
      have HBF := hide ((HB2.out.trans (HBW.out.mono (by omega))).grown hg3 (by omega) (fun i hi => by cases hi; omega))
      go_wp2_with fail
      refine bodyPost_ret (v := .agg #[.slice (some ⟨w.heap.size + 1 + 1, 0, none⟩) L L, .int .i64 (M + d)]) (results_cell_row (p := 6) rfl _ _ (w.heap.size + 1) 69 _ (0, 0) _ rfl hk3 Try.underlying69 rfl (by kernel_rfl)) rfl ⟨_, by rw [Int.natCast_add], Own.mono HOG.out (by omega), HBF.out⟩

end Go.Proofs.Ytellclclpmofcaa
