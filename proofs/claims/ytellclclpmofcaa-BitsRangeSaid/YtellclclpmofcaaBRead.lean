/-
  The contract of crossbarlaw02.read: all numbers are read, or one of which bits are missing is met; conditions: what each read gives is known.
-/
import Derived.Test.YtellclclpmofcaaBBack
import Derived.Test.YtellclclpmofcaaLB
import Derived.Test.YtellclclpmofcaaBitsPartsW
namespace Go.Proofs.Ytellclclpmofcaa
open Go.RowKit
set_option linter.unusedVariables false

theorem IsN.len' {w : World} {v : Value} {l : List Nat} (h : IsN w v l) : ∃ a n cap, v = .slice a n cap ∧ n = l.length ∧ n ≤ cap ∧ cap ≤ maxLen :=
  let ⟨a, cap, h0, h1, h2, _, _⟩ := h; ⟨a, _, cap, h0, rfl, h1, h2⟩
theorem IsT.len' {w : World} {v : Value} {l : List Bool} (h : IsT w v l) : ∃ a n cap, v = .slice a n cap ∧ n = l.length ∧ n ≤ cap ∧ cap ≤ maxLen :=
  let ⟨a, cap, h0, h1, h2, _, _⟩ := h; ⟨a, _, cap, h0, rfl, h1, h2⟩

theorem IsN.cellAt {w : World} {a : Option Addr} {n cap : Nat} {l : List Nat} (h : IsN w (.slice a n cap) l) {k x : Nat} (hk : l[k]? = some x) : ∃ b off, a = some ⟨b, off, none⟩ ∧ b < w.heap.size ∧ w.cell? ⟨b, off + k, none⟩ = some (.int .u64 (x : Int)) ∧ x < 18446744073709551616 := by
  obtain ⟨a', cap', he, h1, h2, h3, h4⟩ := h
  obtain ⟨rfl, _, rfl⟩ : a = a' ∧ n = l.length ∧ cap = cap' := by simpa using he
  have hl : k < l.length := (List.getElem?_eq_some_iff.1 hk).1
  cases a with
  | none => have := h3 rfl; omega
  | some ad =>
    obtain ⟨b, off, spot⟩ := ad
    obtain ⟨hc, hx⟩ := h4 _ rfl k x hk
    obtain ⟨hc0, _⟩ := h4 _ rfl 0 (l[0]'(by omega)) (by simp)
    have hspot : spot = none := by simpa [Addr.add] using World.cell?_spot hc0
    subst hspot
    rw [Addr.add_lit] at hc
    exact ⟨b, off, rfl, World.block_lt_of_cell? w _ hc, hc, hx⟩

theorem IsT.cellAt {w : World} {a : Option Addr} {n cap : Nat} {l : List Bool} (h : IsT w (.slice a n cap) l) {k : Nat} {x : Bool} (hk : l[k]? = some x) : ∃ b off, a = some ⟨b, off, none⟩ ∧ b < w.heap.size ∧ w.cell? ⟨b, off + k, none⟩ = some (.bool x) := by
  obtain ⟨a', cap', he, h1, h2, h3, h4⟩ := h
  obtain ⟨rfl, _, rfl⟩ : a = a' ∧ n = l.length ∧ cap = cap' := by simpa using he
  have hl : k < l.length := (List.getElem?_eq_some_iff.1 hk).1
  cases a with
  | none => have := h3 rfl; omega
  | some ad =>
    obtain ⟨b, off, spot⟩ := ad
    have hc := h4 _ rfl k x hk
    have hc0 := h4 _ rfl 0 (l[0]'(by omega)) (by simp)
    have hspot : spot = none := by simpa [Addr.add] using World.cell?_spot hc0
    subst hspot
    rw [Addr.add_lit] at hc
    exact ⟨b, off, rfl, World.block_lt_of_cell? w _ hc, hc⟩

/-- What one read gives. -/
def ReadIs (l : List UInt8) (p wd : Nat) (r : Bool) (p' : Nat) (e' : Int) (v' : Nat) : Prop :=
  if r then rngP l p 0 ((wd + 1 : Nat) : Int) = (p' : Int) ∧ rngE l p 0 ((wd + 1 : Nat) : Int) = e' ∧ rngN l p 0 ((wd + 1 : Nat) : Int) = v'
  else getP l p 0 ((wd % 65 : Nat) : Int) = (p' : Int) ∧ getE l p 0 ((wd % 65 : Nat) : Int) = e' ∧ getN l p 0 ((wd % 65 : Nat) : Int) = v'

set_option maxRecDepth 100000 in
set_option maxHeartbeats 4000000 in
theorem read59 (a a1 a2 a3 : Option Addr) (n c n1 c1 n2 c2 n3 c3 K : Nat) (l wl : List UInt8) (pl : List Nat) (rl : List Bool) (q : Nat → Nat) (w : World) (hn : n = l.length) (hl : n ≤ 1000000) (hn1 : n1 = pl.length) (hn2 : n2 = wl.length) (hn3 : n3 = rl.length) (g60 : n1 ≤ 60) (g2 : n1 ≤ n2) (g3 : n1 ≤ n3) (m2 : n2 ≤ maxLen) (m3 : n3 ≤ maxLen)
    (hK : K ≤ n1) (hq0 : q 0 = 0) (hqb : ∀ i, i ≤ n1 → q i ≤ 1000000) (hstep : ∀ i, i < K → ReadIs l (q i) (wl.getD i 0).toNat (rl.getD i false) (q (i + 1)) 0 (pl.getD i 0)) (hend : K < n1 → ∃ v, ReadIs l (q K) (wl.getD K 0).toNat (rl.getD K false) (q K) 2 v)
    (h : IsB w (.slice a n c) l) (h1 : IsN w (.slice a1 n1 c1) pl) (h2 : IsB w (.slice a2 n2 c2) wl) (h3 : IsT w (.slice a3 n3 c3) rl) :
    Calls Try.prog 59 #[.agg #[.slice a n c, .int .i64 0, .int .i64 0], .slice a1 n1 c1, .slice a2 n2 c2, .slice a3 n3 c3] w fun r w' => r = .returned (.agg #[.slice a n c, .int .i64 (q K : Nat), .int .i64 (if K < n1 then 2 else 0)]) ∧ Below w.heap.size w w' := by
  have g60i : (n1 : Int) ≤ 60 := by omega
  have g2i : (n1 : Int) ≤ n2 := by omega
  have g3i : (n1 : Int) ≤ n3 := by omega
  have HI := hide h
  have H1 := hide h1
  have H2 := hide h2
  have H3 := hide h3
  have HQB := hide hqb
  have HST := hide hstep
  have HEN := hide hend
  have HN := hide hn
  have HL := hide hl
  have HN1 := hide hn1
  have HN2 := hide hn2
  have HN3 := hide hn3
  have HQ0 := hide hq0
  have HB0 := hide (((Below.refl w.heap.size w).alloc (Nat.le_refl _) (.cells #[.slice a n c, .int .i64 0, .int .i64 0] 67)).alloc (by simp) (.cells #[.slice none 0 0, .int .i64 0, .int .i64 0] 67))
  obtain ⟨EF, hEF⟩ : ∃ e : Int, e = if K < n1 then 2 else 0 := ⟨_, rfl⟩
  rw [← hEF]
  have HEF := hide hEF
  clear hn hl hn1 hn2 hn3 g60 g2 g3 m2 m3 hq0 hqb hstep hend h h1 h2 h3 hEF
  go_enter Try.func59, Try.ntmps59
  go_wp2_with fail
  go_loopw [9] (fun i wr => ∃ (k : Nat) (P E : Int), i = .int .i64 (k : Int) ∧ k ≤ n1 ∧ ((k ≤ K ∧ P = (q k : Int) ∧ E = 0) ∨ (K < n1 ∧ k = K + 1 ∧ P = (q K : Int) ∧ E = 2)) ∧ wr.heap[w.heap.size]? = some (.cells #[.slice a n c, .int .i64 P, .int .i64 E] 67 (0, 0)) ∧ wr.heap[w.heap.size + 1]? = some (.cells #[.slice none 0 0, .int .i64 0, .int .i64 0] 67 (0, 0)) ∧ Below w.heap.size w wr) (fun i _ => n1 - (intOf i).toNat)
  case atStart => exact ⟨0, 0, 0, rfl, Nat.zero_le _, .inl ⟨Nat.zero_le _, by rw [HQ0.out]; rfl, rfl⟩, heap_alloc2_old w _ _, heap_alloc2_new w _ _, HB0.out⟩
  case round =>
    obtain ⟨k, P, E, rfl, hkn, hst, hrow, hrow1, hbw⟩ := hrel
    have HRow := hide hrow
    have HR1 := hide hrow1
    have HW := hide hbw
    have zr := hbw.size
    have hN1 : w.heap.size + 1 < wr.heap.size := (Array.getElem?_eq_some_iff.1 hrow1).1
    obtain ⟨k1, k2, k3⟩ := row_facts hrow
    clear hrow1 hbw
    by_cases hgo : k < n1 ∧ E = 0
    · obtain ⟨hlt, rfl⟩ := hgo
      obtain ⟨hkK, rfl⟩ : k ≤ K ∧ P = (q k : Int) := by
        rcases hst with ⟨h1, h2, h3⟩ | ⟨h1, h2, h3, h4⟩
        · exact ⟨h1, h2⟩
        · cases h4
      have hlt2 : (k : Int) < n1 := by omega
      have hk2 : (k : Int) < n2 := by omega
      have hk3 : (k : Int) < n3 := by omega
      obtain ⟨x1, hx1⟩ : ∃ x, pl[k]? = some x := ⟨pl[k]'(by rw [← HN1.out]; exact hlt), by simp⟩
      obtain ⟨x2, hx2⟩ : ∃ x, wl[k]? = some x := ⟨wl[k]'(by rw [← HN2.out]; omega), by simp⟩
      obtain ⟨x3, hx3⟩ : ∃ x, rl[k]? = some x := ⟨rl[k]'(by rw [← HN3.out]; omega), by simp⟩
      obtain ⟨b1, o1, rfl, hb1, hc1, hx1l⟩ := H1.out.cellAt hx1
      obtain ⟨b2, o2, rfl, hb2, hc2⟩ := H2.out.cellAt hx2
      obtain ⟨b3, o3, rfl, hb3, hc3⟩ := H3.out.cellAt hx3
      have hc3r := ((bcell HW.out).1 _ _ hb3).trans hc3
      have hc2r := ((bcell HW.out).1 _ _ hb2).trans hc2
      have hbr2 : b2 < wr.heap.size := by omega
      have hx28 := x2.toNat_lt
      have d1 : pl.getD k 0 = x1 := by simp [List.getD, hx1]
      have d2 : wl.getD k 0 = x2 := by simp [List.getD, hx2]
      have d3 : rl.getD k false = x3 := by simp [List.getD, hx3]
      have hqk := HQB.out k hkn
      have HX1 := hide hx1l
      have ER : ((x2.toNat + 1 : Nat) : Int) = (x2.toNat : Int) + 1 := by omega
      have EG : ((x2.toNat % 65 : Nat) : Int) = (x2.toNat : Int) % 65 := by omega
      by_cases hkK2 : k < K
      · have hrd := HST.out k hkK2
        rw [d1, d2, d3] at hrd
        have HQ1 : Hid (True) := hide trivial
        clear d1 d2 d3 hst hx1 hx2 hx3 hrow hc3 hc2 hx1l
        cases x3
        · unfold ReadIs at hrd
          rw [if_neg (by decide), EG] at hrd
          obtain ⟨r1, r2, r3⟩ := hrd
          have HG : Hid (∀ u, IsB u (.slice a n c) l → Calls Try.prog 46 #[.agg #[.slice a n c, .int .i64 (q k : Int), .int .i64 0], .int .i64 ((x2.toNat : Int) % 65)] u fun r w' => r = .returned (.tuple #[.agg #[.slice a n c, .int .i64 (q (k + 1) : Int), .int .i64 0], .int .u64 (x1 : Int)]) ∧ Below u.heap.size u w') := hide (fun u hu => by
            have := get46 a n c (q k : Int) 0 ((x2.toNat : Int) % 65) l u HN.out HL.out hu
            unfold RetGet at this
            rw [r1, r2, r3] at this
            exact this)
          clear r1 r2 r3 ER EG
          go_upto_region 7 with fail
          clear k1 k2 k3
          refine wp_region_late 11 61 10 0 (.val _ :: .val _ :: .val _ :: .val _ :: .val _ :: .val _ :: .val _ :: .val _ :: .val _ :: .val _ :: .val _ :: []) (by kernel_rfl) (by kernel_rfl) rfl trivial rfl ⟨
            fun a u hB hO hJ => .inl ⟨rfl, fun K Q hK => by
              have e4 : a.tmps[4]?.getD undef = .pointer (some ⟨w.heap.size, 0, none⟩) := hO 4 rfl
              clear hO hJ
              obtain ⟨q1, q2, q3⟩ := row_facts ((hB.block w.heap.size (by omega)).trans HRow.out)
              go_simp
              exact hK _ _ (Below.refl _ _) rfl⟩,
            fun a u hB hO hJ => .inl ⟨rfl, fun K Q hK => by
              have e2 : a.tmps[2]?.getD undef = .slice (some ⟨b2, o2, none⟩) n2 c2 := hO 2 rfl
              clear hO hJ
              exact wp_move_of e2 fun h => hK _ _ (Below.refl _ _) h⟩,
            fun a u hB hO hJ => .inl ⟨rfl, fun K Q hK => by
              have e9 : a.tmps[9]?.getD undef = .int .i64 (k : Int) := hO 9 rfl
              clear hO hJ
              exact wp_move_of e9 fun h => hK _ _ (Below.refl _ _) h⟩,
            fun a u hB hO hJ => .inl ⟨rfl, fun K Q hK => by
              have e39 : a.tmps[39]?.getD undef = _ := hJ 1 rfl
              have e40 : a.tmps[40]?.getD undef = _ := hJ 2 rfl
              clear hO hJ
              have hjj := hk2
              go_simp
              exact hK _ _ (Below.refl _ _) rfl⟩,
            fun a u hB hO hJ => .inl ⟨rfl, fun K Q hK => by
              have e41 : a.tmps[41]?.getD undef = _ := hJ 3 rfl
              clear hO hJ
              have hcu := ((bcell hB).1 _ _ hbr2).trans hc2r
              go_simp
              exact hK _ _ (Below.refl _ _) rfl⟩,
            fun a u hB hO hJ => .inl ⟨rfl, fun K Q hK => by
              have e42 : a.tmps[42]?.getD undef = _ := hJ 4 rfl
              clear hO hJ
              go_simp
              try go_bits
              exact hK _ _ (Below.refl _ _) rfl⟩,
            fun a u hB hO hJ => .inl ⟨rfl, fun K Q hK => by
              have e43 : a.tmps[43]?.getD undef = _ := hJ 5 rfl
              clear hO hJ
              go_simp
              try go_bits
              exact hK _ _ (Below.refl _ _) rfl⟩,
            fun a u hB hO hJ => .inl ⟨rfl, fun K Q hK => by
              have e38 : a.tmps[38]?.getD undef = _ := hJ 0 rfl
              have e44 : a.tmps[44]?.getD undef = _ := hJ 6 rfl
              clear hO hJ
              go_simp
              refine (HG.out u (HI.out.below (HW.out.trans (hB.mono zr)))).mono ?_
              rintro e w7 ⟨rfl, b7⟩
              exact hK _ _ b7 rfl⟩,
            fun a u hB hO hJ => .inl ⟨rfl, fun K Q hK => by
              have e45 : a.tmps[45]?.getD undef = _ := hJ 7 rfl
              clear hO hJ
              exact wp_move_of e45 fun h => hK _ _ (Below.refl _ _) h⟩,
            fun a u hB hO hJ => .inl ⟨rfl, fun K Q hK => by
              have e37 : a.tmps[37]?.getD undef = _ := hJ 8 rfl
              clear hO hJ
              go_simp
              try go_bits
              exact hK _ _ (Below.refl _ _) rfl⟩,
            fun a u hB hO hJ => .inl ⟨rfl, fun K Q hK => by
              have e37 : a.tmps[37]?.getD undef = _ := hJ 8 rfl
              clear hO hJ
              go_simp
              try go_bits
              exact hK _ _ (Below.refl _ _) rfl⟩,
            trivial⟩ ?finA ?earlyA
          case finA =>
            intro u hB
            simp only [Act.put, List.setIfInBounds_toArray, List.set_cons_zero, List.set_cons_succ, List.drop_succ_cons, List.drop_zero, List.take_succ_cons, List.take_zero, Laid]
            have RG := hide ((hB.block w.heap.size (by omega)).trans HRow.out)
            have HR1u := hide ((hB.block (w.heap.size + 1) (by omega)).trans HR1.out)
            have HWu := hide (HW.out.trans (hB.mono zr))
            have zu := hB.size
            clear hB
            go_wp2_with (refine wpList_storeW w.heap.size _ rfl rfl 67 _ RG.out (by kernel_rfl) rfl rfl ?_)
            intro ws kus gus zus
            have hrow2 := kus
            have HR1s := hide ((gus.block (w.heap.size + 1) (by omega) (fun e => by have := Option.some.inj e; omega)).trans HR1u.out)
            have HWs := hide (HWu.out.grown gus (by omega) (fun i hi => by cases hi; exact Nat.le_refl _))
            have hc1s := ((bcell HWs.out).1 _ _ hb1).trans hc1
            obtain ⟨k1, k2, k3⟩ := row_facts kus
            clear gus
            go_wp2_with fail
            go_roundw
            case rel => exact ⟨k + 1, _, _, by go_num, by omega, .inl ⟨by omega, rfl, rfl⟩, hrow2, HR1s.out, HWs.out⟩
            case measure => simp [intOf]; omega
          case earlyA =>
            intro u hB
            simp only [Act.put, List.setIfInBounds_toArray, List.set_cons_zero, List.set_cons_succ, List.take_succ_cons, List.take_zero, Laid]
            rintro v36 -
            have RG := hide ((hB.block w.heap.size (by omega)).trans HRow.out)
            have HR1u := hide ((hB.block (w.heap.size + 1) (by omega)).trans HR1.out)
            have HWu := hide (HW.out.trans (hB.mono zr))
            have zu := hB.size
            clear hB
            refine wpOp_at rfl rfl ?_
            refine wp_storeW w.heap.size _ rfl rfl 67 _ RG.out (by kernel_rfl) rfl rfl ?_
            intro ws kus gus zus
            simp only [early]
            have hrow2 := kus
            have HR1s := hide ((gus.block (w.heap.size + 1) (by omega) (fun e => by have := Option.some.inj e; omega)).trans HR1u.out)
            have HWs := hide (HWu.out.grown gus (by omega) (fun i hi => by cases hi; exact Nat.le_refl _))
            have hc1s := ((bcell HWs.out).1 _ _ hb1).trans hc1
            obtain ⟨k1, k2, k3⟩ := row_facts kus
            clear gus
            go_wp2_with fail
            go_roundw
            case rel => exact ⟨k + 1, _, _, by go_num, by omega, .inl ⟨by omega, rfl, rfl⟩, hrow2, HR1s.out, HWs.out⟩
            case measure => simp [intOf]; omega
        · unfold ReadIs at hrd
          rw [if_pos rfl, ER] at hrd
          obtain ⟨r1, r2, r3⟩ := hrd
          have HG : Hid (∀ u, IsB u (.slice a n c) l → Calls Try.prog 50 #[.agg #[.slice a n c, .int .i64 (q k : Int), .int .i64 0], .int .u64 ((x2.toNat : Int) + 1)] u fun r w' => r = .returned (.tuple #[.agg #[.slice a n c, .int .i64 (q (k + 1) : Int), .int .i64 0], .int .u64 (x1 : Int)]) ∧ Below u.heap.size u w') := hide (fun u hu => by
            have := rng50 a n c (q k : Int) 0 (x2.toNat + 1) l u HN.out HL.out (by omega) (by omega) hu
            unfold RetRng at this
            rw [ER, r1, r2, r3] at this
            exact this)
          clear r1 r2 r3 ER EG
          go_upto_region 6 with fail
          clear k1 k2 k3
          refine wp_region_late 11 61 10 0 (.val _ :: .val _ :: .val _ :: .val _ :: .val _ :: .val _ :: .val _ :: .val _ :: .val _ :: .val _ :: .val _ :: []) (by kernel_rfl) (by kernel_rfl) rfl trivial rfl ⟨
            fun a u hB hO hJ => .inl ⟨rfl, fun K Q hK => by
              have e4 : a.tmps[4]?.getD undef = .pointer (some ⟨w.heap.size, 0, none⟩) := hO 4 rfl
              clear hO hJ
              obtain ⟨q1, q2, q3⟩ := row_facts ((hB.block w.heap.size (by omega)).trans HRow.out)
              go_simp
              exact hK _ _ (Below.refl _ _) rfl⟩,
            fun a u hB hO hJ => .inl ⟨rfl, fun K Q hK => by
              have e2 : a.tmps[2]?.getD undef = .slice (some ⟨b2, o2, none⟩) n2 c2 := hO 2 rfl
              clear hO hJ
              exact wp_move_of e2 fun h => hK _ _ (Below.refl _ _) h⟩,
            fun a u hB hO hJ => .inl ⟨rfl, fun K Q hK => by
              have e9 : a.tmps[9]?.getD undef = .int .i64 (k : Int) := hO 9 rfl
              clear hO hJ
              exact wp_move_of e9 fun h => hK _ _ (Below.refl _ _) h⟩,
            fun a u hB hO hJ => .inl ⟨rfl, fun K Q hK => by
              have e28 : a.tmps[28]?.getD undef = _ := hJ 1 rfl
              have e29 : a.tmps[29]?.getD undef = _ := hJ 2 rfl
              clear hO hJ
              have hjj := hk2
              go_simp
              exact hK _ _ (Below.refl _ _) rfl⟩,
            fun a u hB hO hJ => .inl ⟨rfl, fun K Q hK => by
              have e30 : a.tmps[30]?.getD undef = _ := hJ 3 rfl
              clear hO hJ
              have hcu := ((bcell hB).1 _ _ hbr2).trans hc2r
              go_simp
              exact hK _ _ (Below.refl _ _) rfl⟩,
            fun a u hB hO hJ => .inl ⟨rfl, fun K Q hK => by
              have e31 : a.tmps[31]?.getD undef = _ := hJ 4 rfl
              clear hO hJ
              go_simp
              try go_bits
              exact hK _ _ (Below.refl _ _) rfl⟩,
            fun a u hB hO hJ => .inl ⟨rfl, fun K Q hK => by
              have e32 : a.tmps[32]?.getD undef = _ := hJ 5 rfl
              clear hO hJ
              go_simp
              try go_bits
              exact hK _ _ (Below.refl _ _) rfl⟩,
            fun a u hB hO hJ => .inl ⟨rfl, fun K Q hK => by
              have e27 : a.tmps[27]?.getD undef = _ := hJ 0 rfl
              have e33 : a.tmps[33]?.getD undef = _ := hJ 6 rfl
              clear hO hJ
              go_simp
              refine (HG.out u (HI.out.below (HW.out.trans (hB.mono zr)))).mono ?_
              rintro e w7 ⟨rfl, b7⟩
              exact hK _ _ b7 rfl⟩,
            fun a u hB hO hJ => .inl ⟨rfl, fun K Q hK => by
              have e34 : a.tmps[34]?.getD undef = _ := hJ 7 rfl
              clear hO hJ
              exact wp_move_of e34 fun h => hK _ _ (Below.refl _ _) h⟩,
            fun a u hB hO hJ => .inl ⟨rfl, fun K Q hK => by
              have e26 : a.tmps[26]?.getD undef = _ := hJ 8 rfl
              clear hO hJ
              go_simp
              try go_bits
              exact hK _ _ (Below.refl _ _) rfl⟩,
            fun a u hB hO hJ => .inl ⟨rfl, fun K Q hK => by
              have e26 : a.tmps[26]?.getD undef = _ := hJ 8 rfl
              clear hO hJ
              go_simp
              try go_bits
              exact hK _ _ (Below.refl _ _) rfl⟩,
            trivial⟩ ?finB ?earlyB
          case finB =>
            intro u hB
            simp only [Act.put, List.setIfInBounds_toArray, List.set_cons_zero, List.set_cons_succ, List.drop_succ_cons, List.drop_zero, List.take_succ_cons, List.take_zero, Laid]
            have RG := hide ((hB.block w.heap.size (by omega)).trans HRow.out)
            have HR1u := hide ((hB.block (w.heap.size + 1) (by omega)).trans HR1.out)
            have HWu := hide (HW.out.trans (hB.mono zr))
            have zu := hB.size
            clear hB
            go_wp2_with (refine wpList_storeW w.heap.size _ rfl rfl 67 _ RG.out (by kernel_rfl) rfl rfl ?_)
            intro ws kus gus zus
            have hrow2 := kus
            have HR1s := hide ((gus.block (w.heap.size + 1) (by omega) (fun e => by have := Option.some.inj e; omega)).trans HR1u.out)
            have HWs := hide (HWu.out.grown gus (by omega) (fun i hi => by cases hi; exact Nat.le_refl _))
            have hc1s := ((bcell HWs.out).1 _ _ hb1).trans hc1
            obtain ⟨k1, k2, k3⟩ := row_facts kus
            clear gus
            go_wp2_with fail
            go_roundw
            case rel => exact ⟨k + 1, _, _, by go_num, by omega, .inl ⟨by omega, rfl, rfl⟩, hrow2, HR1s.out, HWs.out⟩
            case measure => simp [intOf]; omega
          case earlyB =>
            intro u hB
            simp only [Act.put, List.setIfInBounds_toArray, List.set_cons_zero, List.set_cons_succ, List.take_succ_cons, List.take_zero, Laid]
            rintro v36 -
            have RG := hide ((hB.block w.heap.size (by omega)).trans HRow.out)
            have HR1u := hide ((hB.block (w.heap.size + 1) (by omega)).trans HR1.out)
            have HWu := hide (HW.out.trans (hB.mono zr))
            have zu := hB.size
            clear hB
            refine wpOp_at rfl rfl ?_
            refine wp_storeW w.heap.size _ rfl rfl 67 _ RG.out (by kernel_rfl) rfl rfl ?_
            intro ws kus gus zus
            simp only [early]
            have hrow2 := kus
            have HR1s := hide ((gus.block (w.heap.size + 1) (by omega) (fun e => by have := Option.some.inj e; omega)).trans HR1u.out)
            have HWs := hide (HWu.out.grown gus (by omega) (fun i hi => by cases hi; exact Nat.le_refl _))
            have hc1s := ((bcell HWs.out).1 _ _ hb1).trans hc1
            obtain ⟨k1, k2, k3⟩ := row_facts kus
            clear gus
            go_wp2_with fail
            go_roundw
            case rel => exact ⟨k + 1, _, _, by go_num, by omega, .inl ⟨by omega, rfl, rfl⟩, hrow2, HR1s.out, HWs.out⟩
            case measure => simp [intOf]; omega
      · obtain rfl : k = K := by omega
        obtain ⟨vb, hrd⟩ := HEN.out hlt
        rw [d2, d3] at hrd
        have HQ1 : Hid (True) := hide trivial
        clear d1 d2 d3 hst hx1 hx2 hx3 hrow hc3 hc2 hx1l
        cases x3
        · unfold ReadIs at hrd
          rw [if_neg (by decide), EG] at hrd
          obtain ⟨r1, r2, r3⟩ := hrd
          have HG : Hid (∀ u, IsB u (.slice a n c) l → Calls Try.prog 46 #[.agg #[.slice a n c, .int .i64 (q k : Int), .int .i64 0], .int .i64 ((x2.toNat : Int) % 65)] u fun r w' => r = .returned (.tuple #[.agg #[.slice a n c, .int .i64 (q k : Int), .int .i64 2], .int .u64 (vb : Int)]) ∧ Below u.heap.size u w') := hide (fun u hu => by
            have := get46 a n c (q k : Int) 0 ((x2.toNat : Int) % 65) l u HN.out HL.out hu
            unfold RetGet at this
            rw [r1, r2, r3] at this
            exact this)
          clear r1 r2 r3 ER EG
          go_upto_region 7 with fail
          clear k1 k2 k3
          refine wp_region_late 11 61 10 0 (.val _ :: .val _ :: .val _ :: .val _ :: .val _ :: .val _ :: .val _ :: .val _ :: .val _ :: .val _ :: .val _ :: []) (by kernel_rfl) (by kernel_rfl) rfl trivial rfl ⟨
            fun a u hB hO hJ => .inl ⟨rfl, fun K Q hK => by
              have e4 : a.tmps[4]?.getD undef = .pointer (some ⟨w.heap.size, 0, none⟩) := hO 4 rfl
              clear hO hJ
              obtain ⟨q1, q2, q3⟩ := row_facts ((hB.block w.heap.size (by omega)).trans HRow.out)
              go_simp
              exact hK _ _ (Below.refl _ _) rfl⟩,
            fun a u hB hO hJ => .inl ⟨rfl, fun K Q hK => by
              have e2 : a.tmps[2]?.getD undef = .slice (some ⟨b2, o2, none⟩) n2 c2 := hO 2 rfl
              clear hO hJ
              exact wp_move_of e2 fun h => hK _ _ (Below.refl _ _) h⟩,
            fun a u hB hO hJ => .inl ⟨rfl, fun K Q hK => by
              have e9 : a.tmps[9]?.getD undef = .int .i64 (k : Int) := hO 9 rfl
              clear hO hJ
              exact wp_move_of e9 fun h => hK _ _ (Below.refl _ _) h⟩,
            fun a u hB hO hJ => .inl ⟨rfl, fun K Q hK => by
              have e39 : a.tmps[39]?.getD undef = _ := hJ 1 rfl
              have e40 : a.tmps[40]?.getD undef = _ := hJ 2 rfl
              clear hO hJ
              have hjj := hk2
              go_simp
              exact hK _ _ (Below.refl _ _) rfl⟩,
            fun a u hB hO hJ => .inl ⟨rfl, fun K Q hK => by
              have e41 : a.tmps[41]?.getD undef = _ := hJ 3 rfl
              clear hO hJ
              have hcu := ((bcell hB).1 _ _ hbr2).trans hc2r
              go_simp
              exact hK _ _ (Below.refl _ _) rfl⟩,
            fun a u hB hO hJ => .inl ⟨rfl, fun K Q hK => by
              have e42 : a.tmps[42]?.getD undef = _ := hJ 4 rfl
              clear hO hJ
              go_simp
              try go_bits
              exact hK _ _ (Below.refl _ _) rfl⟩,
            fun a u hB hO hJ => .inl ⟨rfl, fun K Q hK => by
              have e43 : a.tmps[43]?.getD undef = _ := hJ 5 rfl
              clear hO hJ
              go_simp
              try go_bits
              exact hK _ _ (Below.refl _ _) rfl⟩,
            fun a u hB hO hJ => .inl ⟨rfl, fun K Q hK => by
              have e38 : a.tmps[38]?.getD undef = _ := hJ 0 rfl
              have e44 : a.tmps[44]?.getD undef = _ := hJ 6 rfl
              clear hO hJ
              go_simp
              refine (HG.out u (HI.out.below (HW.out.trans (hB.mono zr)))).mono ?_
              rintro e w7 ⟨rfl, b7⟩
              exact hK _ _ b7 rfl⟩,
            fun a u hB hO hJ => .inl ⟨rfl, fun K Q hK => by
              have e45 : a.tmps[45]?.getD undef = _ := hJ 7 rfl
              clear hO hJ
              exact wp_move_of e45 fun h => hK _ _ (Below.refl _ _) h⟩,
            fun a u hB hO hJ => .inl ⟨rfl, fun K Q hK => by
              have e37 : a.tmps[37]?.getD undef = _ := hJ 8 rfl
              clear hO hJ
              go_simp
              try go_bits
              exact hK _ _ (Below.refl _ _) rfl⟩,
            fun a u hB hO hJ => .inl ⟨rfl, fun K Q hK => by
              have e37 : a.tmps[37]?.getD undef = _ := hJ 8 rfl
              clear hO hJ
              go_simp
              try go_bits
              exact hK _ _ (Below.refl _ _) rfl⟩,
            trivial⟩ ?finC ?earlyC
          case finC =>
            intro u hB
            simp only [Act.put, List.setIfInBounds_toArray, List.set_cons_zero, List.set_cons_succ, List.drop_succ_cons, List.drop_zero, List.take_succ_cons, List.take_zero, Laid]
            have RG := hide ((hB.block w.heap.size (by omega)).trans HRow.out)
            have HR1u := hide ((hB.block (w.heap.size + 1) (by omega)).trans HR1.out)
            have HWu := hide (HW.out.trans (hB.mono zr))
            have zu := hB.size
            clear hB
            go_wp2_with (refine wpList_storeW w.heap.size _ rfl rfl 67 _ RG.out (by kernel_rfl) rfl rfl ?_)
            intro ws kus gus zus
            have hrow2 := kus
            have HR1s := hide ((gus.block (w.heap.size + 1) (by omega) (fun e => by have := Option.some.inj e; omega)).trans HR1u.out)
            have HWs := hide (HWu.out.grown gus (by omega) (fun i hi => by cases hi; exact Nat.le_refl _))
            have hc1s := ((bcell HWs.out).1 _ _ hb1).trans hc1
            obtain ⟨k1, k2, k3⟩ := row_facts kus
            clear gus
            go_wp2_with fail
            go_roundw
            case rel => exact ⟨k + 1, _, _, by go_num, by omega, .inr ⟨by omega, by omega, rfl, rfl⟩, hrow2, HR1s.out, HWs.out⟩
            case measure => simp [intOf]; omega
          case earlyC =>
            intro u hB
            simp only [Act.put, List.setIfInBounds_toArray, List.set_cons_zero, List.set_cons_succ, List.take_succ_cons, List.take_zero, Laid]
            rintro v36 -
            have RG := hide ((hB.block w.heap.size (by omega)).trans HRow.out)
            have HR1u := hide ((hB.block (w.heap.size + 1) (by omega)).trans HR1.out)
            have HWu := hide (HW.out.trans (hB.mono zr))
            have zu := hB.size
            clear hB
            refine wpOp_at rfl rfl ?_
            refine wp_storeW w.heap.size _ rfl rfl 67 _ RG.out (by kernel_rfl) rfl rfl ?_
            intro ws kus gus zus
            simp only [early]
            have hrow2 := kus
            have HR1s := hide ((gus.block (w.heap.size + 1) (by omega) (fun e => by have := Option.some.inj e; omega)).trans HR1u.out)
            have HWs := hide (HWu.out.grown gus (by omega) (fun i hi => by cases hi; exact Nat.le_refl _))
            have hc1s := ((bcell HWs.out).1 _ _ hb1).trans hc1
            obtain ⟨k1, k2, k3⟩ := row_facts kus
            clear gus
            go_wp2_with fail
            go_roundw
            case rel => exact ⟨k + 1, _, _, by go_num, by omega, .inr ⟨by omega, by omega, rfl, rfl⟩, hrow2, HR1s.out, HWs.out⟩
            case measure => simp [intOf]; omega
        · unfold ReadIs at hrd
          rw [if_pos rfl, ER] at hrd
          obtain ⟨r1, r2, r3⟩ := hrd
          have HG : Hid (∀ u, IsB u (.slice a n c) l → Calls Try.prog 50 #[.agg #[.slice a n c, .int .i64 (q k : Int), .int .i64 0], .int .u64 ((x2.toNat : Int) + 1)] u fun r w' => r = .returned (.tuple #[.agg #[.slice a n c, .int .i64 (q k : Int), .int .i64 2], .int .u64 (vb : Int)]) ∧ Below u.heap.size u w') := hide (fun u hu => by
            have := rng50 a n c (q k : Int) 0 (x2.toNat + 1) l u HN.out HL.out (by omega) (by omega) hu
            unfold RetRng at this
            rw [ER, r1, r2, r3] at this
            exact this)
          clear r1 r2 r3 ER EG
          go_upto_region 6 with fail
          clear k1 k2 k3
          refine wp_region_late 11 61 10 0 (.val _ :: .val _ :: .val _ :: .val _ :: .val _ :: .val _ :: .val _ :: .val _ :: .val _ :: .val _ :: .val _ :: []) (by kernel_rfl) (by kernel_rfl) rfl trivial rfl ⟨
            fun a u hB hO hJ => .inl ⟨rfl, fun K Q hK => by
              have e4 : a.tmps[4]?.getD undef = .pointer (some ⟨w.heap.size, 0, none⟩) := hO 4 rfl
              clear hO hJ
              obtain ⟨q1, q2, q3⟩ := row_facts ((hB.block w.heap.size (by omega)).trans HRow.out)
              go_simp
              exact hK _ _ (Below.refl _ _) rfl⟩,
            fun a u hB hO hJ => .inl ⟨rfl, fun K Q hK => by
              have e2 : a.tmps[2]?.getD undef = .slice (some ⟨b2, o2, none⟩) n2 c2 := hO 2 rfl
              clear hO hJ
              exact wp_move_of e2 fun h => hK _ _ (Below.refl _ _) h⟩,
            fun a u hB hO hJ => .inl ⟨rfl, fun K Q hK => by
              have e9 : a.tmps[9]?.getD undef = .int .i64 (k : Int) := hO 9 rfl
              clear hO hJ
              exact wp_move_of e9 fun h => hK _ _ (Below.refl _ _) h⟩,
            fun a u hB hO hJ => .inl ⟨rfl, fun K Q hK => by
              have e28 : a.tmps[28]?.getD undef = _ := hJ 1 rfl
              have e29 : a.tmps[29]?.getD undef = _ := hJ 2 rfl
              clear hO hJ
              have hjj := hk2
              go_simp
              exact hK _ _ (Below.refl _ _) rfl⟩,
            fun a u hB hO hJ => .inl ⟨rfl, fun K Q hK => by
              have e30 : a.tmps[30]?.getD undef = _ := hJ 3 rfl
              clear hO hJ
              have hcu := ((bcell hB).1 _ _ hbr2).trans hc2r
              go_simp
              exact hK _ _ (Below.refl _ _) rfl⟩,
            fun a u hB hO hJ => .inl ⟨rfl, fun K Q hK => by
              have e31 : a.tmps[31]?.getD undef = _ := hJ 4 rfl
              clear hO hJ
              go_simp
              try go_bits
              exact hK _ _ (Below.refl _ _) rfl⟩,
            fun a u hB hO hJ => .inl ⟨rfl, fun K Q hK => by
              have e32 : a.tmps[32]?.getD undef = _ := hJ 5 rfl
              clear hO hJ
              go_simp
              try go_bits
              exact hK _ _ (Below.refl _ _) rfl⟩,
            fun a u hB hO hJ => .inl ⟨rfl, fun K Q hK => by
              have e27 : a.tmps[27]?.getD undef = _ := hJ 0 rfl
              have e33 : a.tmps[33]?.getD undef = _ := hJ 6 rfl
              clear hO hJ
              go_simp
              refine (HG.out u (HI.out.below (HW.out.trans (hB.mono zr)))).mono ?_
              rintro e w7 ⟨rfl, b7⟩
              exact hK _ _ b7 rfl⟩,
            fun a u hB hO hJ => .inl ⟨rfl, fun K Q hK => by
              have e34 : a.tmps[34]?.getD undef = _ := hJ 7 rfl
              clear hO hJ
              exact wp_move_of e34 fun h => hK _ _ (Below.refl _ _) h⟩,
            fun a u hB hO hJ => .inl ⟨rfl, fun K Q hK => by
              have e26 : a.tmps[26]?.getD undef = _ := hJ 8 rfl
              clear hO hJ
              go_simp
              try go_bits
              exact hK _ _ (Below.refl _ _) rfl⟩,
            fun a u hB hO hJ => .inl ⟨rfl, fun K Q hK => by
              have e26 : a.tmps[26]?.getD undef = _ := hJ 8 rfl
              clear hO hJ
              go_simp
              try go_bits
              exact hK _ _ (Below.refl _ _) rfl⟩,
            trivial⟩ ?finD ?earlyD
          case finD =>
            intro u hB
            simp only [Act.put, List.setIfInBounds_toArray, List.set_cons_zero, List.set_cons_succ, List.drop_succ_cons, List.drop_zero, List.take_succ_cons, List.take_zero, Laid]
            have RG := hide ((hB.block w.heap.size (by omega)).trans HRow.out)
            have HR1u := hide ((hB.block (w.heap.size + 1) (by omega)).trans HR1.out)
            have HWu := hide (HW.out.trans (hB.mono zr))
            have zu := hB.size
            clear hB
            go_wp2_with (refine wpList_storeW w.heap.size _ rfl rfl 67 _ RG.out (by kernel_rfl) rfl rfl ?_)
            intro ws kus gus zus
            have hrow2 := kus
            have HR1s := hide ((gus.block (w.heap.size + 1) (by omega) (fun e => by have := Option.some.inj e; omega)).trans HR1u.out)
            have HWs := hide (HWu.out.grown gus (by omega) (fun i hi => by cases hi; exact Nat.le_refl _))
            have hc1s := ((bcell HWs.out).1 _ _ hb1).trans hc1
            obtain ⟨k1, k2, k3⟩ := row_facts kus
            clear gus
            go_wp2_with fail
            go_roundw
            case rel => exact ⟨k + 1, _, _, by go_num, by omega, .inr ⟨by omega, by omega, rfl, rfl⟩, hrow2, HR1s.out, HWs.out⟩
            case measure => simp [intOf]; omega
          case earlyD =>
            intro u hB
            simp only [Act.put, List.setIfInBounds_toArray, List.set_cons_zero, List.set_cons_succ, List.take_succ_cons, List.take_zero, Laid]
            rintro v36 -
            have RG := hide ((hB.block w.heap.size (by omega)).trans HRow.out)
            have HR1u := hide ((hB.block (w.heap.size + 1) (by omega)).trans HR1.out)
            have HWu := hide (HW.out.trans (hB.mono zr))
            have zu := hB.size
            clear hB
            refine wpOp_at rfl rfl ?_
            refine wp_storeW w.heap.size _ rfl rfl 67 _ RG.out (by kernel_rfl) rfl rfl ?_
            intro ws kus gus zus
            simp only [early]
            have hrow2 := kus
            have HR1s := hide ((gus.block (w.heap.size + 1) (by omega) (fun e => by have := Option.some.inj e; omega)).trans HR1u.out)
            have HWs := hide (HWu.out.grown gus (by omega) (fun i hi => by cases hi; exact Nat.le_refl _))
            have hc1s := ((bcell HWs.out).1 _ _ hb1).trans hc1
            obtain ⟨k1, k2, k3⟩ := row_facts kus
            clear gus
            go_wp2_with fail
            go_roundw
            case rel => exact ⟨k + 1, _, _, by go_num, by omega, .inr ⟨by omega, by omega, rfl, rfl⟩, hrow2, HR1s.out, HWs.out⟩
            case measure => simp [intOf]; omega
    · rcases hst with ⟨h1, h2, h3⟩ | ⟨h1, h2, h3, h4⟩
      · subst h2 h3
        obtain rfl : k = n1 := by
          rcases Nat.lt_or_ge k n1 with h | h
          · exact absurd ⟨h, rfl⟩ hgo
          · omega
        obtain rfl : k = K := by omega
        have HE2 : Hid (EF = 0) := hide (by rw [HEF.out, if_neg (by omega)])
        have hge : ¬ ((k : Int) < (k : Int)) := by omega
        clear hgo h1 hrow hge
        go_wp2_with (refine wpList_storeW (w.heap.size + 1) _ rfl rfl 67 _ HR1.out (by kernel_rfl) rfl rfl ?_)
        intro w3 hk3 hg3 hz3
        have HBF := hide (HW.out.grown hg3 (by omega) (fun i hi => by cases hi; omega))
        go_wp2_with fail
        exact bodyPost_ret (v := .agg #[.slice a n c, .int .i64 (q k : Int), .int .i64 0]) (results_cell_row (p := 8) rfl _ _ (w.heap.size + 1) 67 _ (0, 0) _ rfl hk3 Try.underlying67 rfl (by kernel_rfl)) rfl ⟨by rw [HE2.out], HBF.out⟩
      · subst h2 h3 h4
        have HE2 : Hid (EF = 2) := hide (by rw [HEF.out, if_pos h1])
        by_cases hlt : K + 1 < n1
        · have hlt2 : ((K + 1 : Nat) : Int) < n1 := by omega
          clear hgo hrow
          go_wp2_with (refine wpList_storeW (w.heap.size + 1) _ rfl rfl 67 _ HR1.out (by kernel_rfl) rfl rfl ?_)
          intro w3 hk3 hg3 hz3
          have HBF := hide (HW.out.grown hg3 (by omega) (fun i hi => by cases hi; omega))
          go_wp2_with fail
          exact bodyPost_ret (v := .agg #[.slice a n c, .int .i64 (q K : Int), .int .i64 2]) (results_cell_row (p := 8) rfl _ _ (w.heap.size + 1) 67 _ (0, 0) _ rfl hk3 Try.underlying67 rfl (by kernel_rfl)) rfl ⟨by rw [HE2.out], HBF.out⟩
        · have hlt2 : (n1 : Int) ≤ ((K + 1 : Nat) : Int) := by omega
          clear hgo hrow
          go_wp2_with (refine wpList_storeW (w.heap.size + 1) _ rfl rfl 67 _ HR1.out (by kernel_rfl) rfl rfl ?_)
          intro w3 hk3 hg3 hz3
          have HBF := hide (HW.out.grown hg3 (by omega) (fun i hi => by cases hi; omega))
          go_wp2_with fail
          exact bodyPost_ret (v := .agg #[.slice a n c, .int .i64 (q K : Int), .int .i64 2]) (results_cell_row (p := 8) rfl _ _ (w.heap.size + 1) 67 _ (0, 0) _ rfl hk3 Try.underlying67 rfl (by kernel_rfl)) rfl ⟨by rw [HE2.out], HBF.out⟩

end Go.Proofs.Ytellclclpmofcaa
