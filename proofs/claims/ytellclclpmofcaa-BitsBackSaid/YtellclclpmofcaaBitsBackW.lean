/-
  The walk of crossbarlaw02.BitsBack; conditions: the arguments read as data, the lists within the bounds.
-/
import Derived.Test.YtellclclpmofcaaBBack2
import Derived.Deep.DeepCutAuto
namespace Go.Proofs.Ytellclclpmofcaa
open Go.RowKit
set_option linter.unusedVariables false

theorem run_rem64 {t : TypeId} {w : World} {X Y Z : Nat} {yi : Int} (hy : yi = (Y : Int)) (h0 : 0 < Y) (hX : X < 18446744073709551616) (hz : X % Y = Z) : (binOp .rem t (.int .u64 (X : Int)) (.int .u64 yi)).run Try.prog w = .ok (.int .u64 (Z : Int)) w := by
  subst hy hz
  have h1 : X % Y ≤ X := Nat.mod_le _ _
  have h2 : ¬ (Y = 0) := by omega
  have h5 : (X : Int).tmod Y = ((X % Y : Nat) : Int) := by rw [Int.tmod_eq_emod_of_nonneg (by omega)]; exact (Int.natCast_emod _ _).symm

  simp only [binOp, Op.intDiv]
  simp [h2, h5]

def PAddO (base : Nat) (l : List UInt8) (m : Int) (v : Value) (w : World) : Prop := ∃ s, v = .tuple #[.agg #[s, .int .i64 m], .int .i64 0] ∧ Own w base s l
theorem PAddO.stable (base : Nat) (l : List UInt8) (m : Int) : ∀ v w w', PAddO base l m v w → Below w.heap.size w w' → PAddO base l m v w' := fun _ _ _ ⟨s, h, ho⟩ hb => ⟨s, h, ho.below hb⟩

set_option maxRecDepth 100000 in
set_option maxHeartbeats 4000000 in
theorem bitsBack_ok (a1 a2 a3 : Option Addr) (n1 c1 n2 c2 n3 c3 : Nat) (pl : List Nat) (wl : List UInt8) (rl : List Bool) (w : World) (hn1 : n1 = pl.length) (hn2 : n2 = wl.length) (hn3 : n3 = rl.length) (g60 : n1 ≤ 60) (g2 : n1 ≤ n2) (g3 : n1 ≤ n3)
    (h1 : IsN w (.slice a1 n1 c1) pl) (h2 : IsB w (.slice a2 n2 c2) wl) (h3 : IsT w (.slice a3 n3 c3) rl) (m2 : n2 ≤ maxLen) (m3 : n3 ≤ maxLen) :
    Calls Try.prog 12 #[.slice a1 n1 c1, .slice a2 n2 c2, .slice a3 n3 c3] w fun r w' => r = .returned (.bool true) ∧ Below w.heap.size w w' := by
  have g60i : (n1 : Int) ≤ 60 := by omega
  have g2i : (n1 : Int) ≤ n2 := by omega
  have g3i : (n1 : Int) ≤ n3 := by omega
  have HN1 := hide hn1
  have HN2 := hide hn2
  have HN3 := hide hn3
  have H1 := hide h1
  have H2 := hide h2
  have H3 := hide h3
  have HXL : Hid (∀ i, pl.getD i 0 < 18446744073709551616) := hide (fun i => h1.lt i)
  have HM2 := hide m2
  have HM3 := hide m3
  clear hn1 hn2 hn3 h1 h2 h3 m2 m3
  go_enter Try.func12, Try.ntmps12
  go_wp2_with fail
  refine (awake02 _).mono ?_
  rintro r w1 ⟨rfl, b1⟩
  have HW1 := hide b1
  have z1 := b1.size
  clear b1
  go_wp2_with fail
  have G60 := hide g60
  have G2 := hide g2
  have G3 := hide g3
  clear g60 g2 g3 g60i g2i g3i
  generalize decide (n2 < n1) = dd0
  generalize decide (n3 < n1) = dd1
  generalize decide ((60 : Int) < (n1 : Int)) = dd2
  go_loopw [8, 9] (fun p i wr => ∃ (k : Nat) (s : Value), i = .int .i64 (k : Int) ∧ k ≤ n1 ∧ wr.heap[w1.heap.size]? = some (.cells #[s, .int .i64 (posAt pl wl rl k : Nat)] 69 (0, 0)) ∧ Own wr w1.heap.size s (inkAt pl wl rl k) ∧ OwnN wr w1.heap.size p (putsTo pl wl rl k) ∧ Below w1.heap.size w1 wr) (fun _ i _ => n1 - (intOf i).toNat)
  case atStart => exact ⟨0, _, rfl, Nat.zero_le _, heap_alloc_new w1 _, ⟨rfl, .inl ⟨rfl, rfl⟩⟩, OwnN.nil _ _, (Below.refl _ _).alloc (Nat.le_refl _) _⟩
  case round =>
    obtain ⟨k, s, rfl, hk, hrow, how, hput, hbw⟩ := hrel
    obtain ⟨sa, sn, sc, rfl, hsn, -⟩ := how.isB.len'
    have zr := hbw.size
    have RW0 := hide hrow
    have OW0 := hide how
    have NW0 := hide hput
    have BW0 := hide hbw
    have HSN := hide hsn
    have HBW := hide (HW1.out.trans (hbw.mono z1))
    clear hrow how hput hbw hsn
    by_cases hlt : k < n1
    · have hlt2 : (k : Int) < n1 := by omega
      have hk2 : (k : Int) < n2 := by have := G2.out; omega
      have hk3 : (k : Int) < n3 := by have := G3.out; omega
      obtain ⟨x1, hx1⟩ : ∃ x, pl[k]? = some x := ⟨pl[k]'(by rw [← HN1.out]; exact hlt), by simp⟩
      obtain ⟨x2, hx2⟩ : ∃ x, wl[k]? = some x := ⟨wl[k]'(by rw [← HN2.out]; have := G2.out; omega), by simp⟩
      obtain ⟨x3, hx3⟩ : ∃ x, rl[k]? = some x := ⟨rl[k]'(by rw [← HN3.out]; have := G3.out; omega), by simp⟩
      obtain ⟨b1, o1, rfl, hb1, hc1, hx1l⟩ := H1.out.cellAt hx1
      obtain ⟨b2, o2, rfl, hb2, hc2⟩ := H2.out.cellAt hx2
      obtain ⟨b3, o3, rfl, hb3, hc3⟩ := H3.out.cellAt hx3
      have hc1r := ((bcell HBW.out).1 _ _ hb1).trans hc1
      have hc2r := ((bcell HBW.out).1 _ _ hb2).trans hc2
      have hc3r := ((bcell HBW.out).1 _ _ hb3).trans hc3
      have hbr1 : b1 < wr.heap.size := by omega
      have hbr2 : b2 < wr.heap.size := by omega
      have hx28 := x2.toNat_lt
      have d1 : pl.getD k 0 = x1 := by simp [List.getD, hx1]
      have d2 : wl.getD k 0 = x2 := by simp [List.getD, hx2]
      have d3 : rl.getD k false = x3 := by simp [List.getD, hx3]
      have hpm := posAt_le (wd := wl) (rg := rl) HXL.out (k + 1)
      have hil := inkAt_length pl wl rl (k + 1)
      have hil0 := inkAt_length pl wl rl k
      have hio := inkAt_ok pl wl rl (k + 1)
      have hio0 := inkAt_ok pl wl rl k
      have hp1 : posAt pl wl rl (k + 1) = posAt pl wl rl k + putW x1 x2.toNat x3 := by rw [posAt, d1, d2, d3]
      have hi1 : inkAt pl wl rl (k + 1) = inkAdd (inkAt pl wl rl k) (posAt pl wl rl k) (putC x1 x2.toNat x3) (putW x1 x2.toNat x3) := by rw [inkAt, d1, d2, d3]
      have hvv : putV (pl.getD k 0) (wl.getD k 0).toNat (rl.getD k false) = putV x1 x2.toNat x3 := by rw [d1, d2, d3]
      obtain ⟨hcf, hcw⟩ := putC_fits (r := x3) hx1l (show x2.toNat ≤ 255 by omega)
      obtain ⟨Q, hQ⟩ : ∃ Q, posAt pl wl rl k = Q := ⟨_, rfl⟩
      obtain ⟨Q1, hQ1⟩ : ∃ Q, posAt pl wl rl (k + 1) = Q := ⟨_, rfl⟩
      obtain ⟨iL, hiL⟩ : ∃ L, inkAt pl wl rl k = L := ⟨_, rfl⟩
      obtain ⟨iL1, hiL1⟩ : ∃ L, inkAt pl wl rl (k + 1) = L := ⟨_, rfl⟩
      rw [hQ, hQ1] at hp1
      rw [hQ, hiL, hiL1] at hi1
      rw [hQ1] at hpm hio hil
      rw [hiL1] at hio hil
      rw [hQ] at hio0 hil0
      rw [hiL] at hio0 hil0
      rw [hQ] at RW0
      rw [hiL] at OW0 HSN
      have HQ1 := hide hQ1
      have HIL1 := hide hiL1
      have HINK1 := hide hio
      have HINK0 := hide hio0
      have HIL1L : Hid (iL1.length ≤ 1000000) := hide (by omega)
      have HTQ : Hid ((Q1 : Int) ≤ 9223372036854775807) := hide (by omega)
      have HSL : Hid (sn ≤ 1000000) := hide (by rw [HSN.out]; omega)
      have HPL : Hid ((putsTo pl wl rl k).length ≤ 1000000) := hide (by rw [putsTo_length]; omega)
      have HX1L := hide hx1l
      have hQ60 : (Q : Int) ≤ 4000 := by have := HN1.out; have := G60.out; omega
      obtain ⟨nn, hnn0⟩ : ∃ nn, nn = x2.toNat % 65 := ⟨_, rfl⟩
      have HNN : Hid ((x2.toNat : Int) % 65 = nn) := hide (by omega)
      obtain ⟨k1, k2, hgl0⟩ := row_facts RW0.out
      clear d1 d2 d3 hx1 hx2 hx3 hQ hQ1 hiL hiL1 hil hil0 hpm hio hio0 hx1l hc1 hc2 hc3
      go_upto_region 11 with fail
      rw [HNN.out]
      cases x3
      · -- a number of a width
        rw [show putW x1 x2.toNat false = nn by rw [putW, if_neg (by decide), hnn0]] at hp1 hi1 hcf hcw
        rw [show putC x1 x2.toNat false = putV x1 x2.toNat false by rw [putC, if_neg (by decide)]] at hi1 hcf
        obtain ⟨vv, hv⟩ : ∃ v, putV x1 x2.toNat false = v := ⟨_, rfl⟩
        rw [hv] at hi1 hcf hvv
        have HVV := hide hvv
        have HADD := hide (add52o sa sn sc vv Q nn iL wr HSN.out HSL.out HINK0.out (by rw [← hv]; exact putV_lt HX1L.out) hcw hcf (Own.isB OW0.out))
        rw [← hi1, ← hp1] at HADD
        by_cases hnn : nn < 64
        · obtain ⟨pw, hpw⟩ : ∃ z, 2 ^ nn = z := ⟨_, rfl⟩
          obtain ⟨pw1, hpw1⟩ : ∃ z, pw - 1 = z := ⟨_, rfl⟩
          have hp63 : 2 ^ nn ≤ 2 ^ 63 := Nat.pow_le_pow_right (by decide) (by omega)
          have KPW : Hid (1 ≤ pw ∧ pw < 18446744073709551616) := hide ⟨by rw [← hpw]; exact Nat.one_le_two_pow, by omega⟩
          have KPW1 : Hid (pw1 < 18446744073709551616) := hide (by omega)
          have HPW := hide hpw
          have HPW1 := hide hpw1
          obtain ⟨u, hu⟩ : ∃ u, x1 &&& pw1 = u := ⟨_, rfl⟩
          have HU := hide hu
          obtain rfl : u = vv := by rw [← hv, putV, if_neg (by decide), ← hnn0, if_pos hnn, hpw, hpw1, hu]
          clear hpw hpw1 hp63 hu hv hvv hp1 hi1 hcf hcw hnn0
          go_wp2_with (first | ((with_reducible show wpList _ _ _ (Oper.mk _ (.binOp .shl 70 _ _ _) _ _ _ _ :: _) _ _); refine wpList_shl1K (s := nn) (Z := pw) rfl rfl rfl hnn HPW.out ?_) | ((with_reducible show wpList _ _ _ (Oper.mk _ (.binOp .sub 70 _ _ _) _ _ _ _ :: _) _ _); refine wpList_sub1 (X := pw) (Z := pw1) rfl rfl rfl KPW.out.2 KPW.out.1 HPW1.out ?_) | ((with_reducible show wpList _ _ _ (Oper.mk _ (.binOp .and 70 _ _ _) _ _ _ _ :: _) _ _); refine wpList_and (X := x1) (Y := pw1) (Z := u) rfl rfl rfl HX1L.out KPW1.out HU.out ?_))
          refine HADD.out.mono ?_
          rintro r w5 ⟨s5, rfl, o5, b5⟩
          clear k1 k2
          obtain ⟨sb, tn, tc, rfl, htn, -⟩ := (Own.isB o5).len'
          have z5 := b5.size
          have RW5 := hide ((b5.block w1.heap.size (by omega)).trans RW0.out)
          have NW5 := hide (OwnN.below NW0.out b5)
          have BW5 := hide (BW0.out.trans (b5.mono (by omega)))
          have OW5 := hide (Own.mono o5 zr)
          have HTN := hide htn
          clear htn o5 b5
          go_wp2_with (refine wpList_storeW w1.heap.size _ rfl rfl 69 _ RW5.out (by kernel_rfl) rfl rfl ?_)
          intro ws kus gus zus
          have RWs := hide kus
          have NWs := hide (World.ownsRow.kept NW5.out gus (apart_row (by decide) NW5.out RW5.out))
          have OWs := hide (World.ownsRow.kept OW5.out gus (apart_row (by decide) OW5.out RW5.out))
          have BWs := hide (BW5.out.grown gus (by omega) (fun i hi => by cases hi; exact Nat.le_refl _))
          have HTL : Hid (tn ≤ 1000000) := hide (by rw [HTN.out]; exact HIL1L.out)
          clear kus gus
          obtain ⟨k1, k2, k3⟩ := row_facts RWs.out
          have HRT := hide (right54 sb tn tc (Q1 : Int) iL1 ws HTN.out HTL.out HTQ.out (Own.isB OWs.out))
          rw [HINK1.out] at HRT
          go_wp2_with fail
          refine HRT.out.mono ?_
          rintro r w6 ⟨rfl, b6⟩
          have z6 := b6.size
          have RW6 := hide ((b6.block w1.heap.size (by omega)).trans RWs.out)
          have OW6 := hide (Own.below OWs.out b6)
          have NW6 := hide (OwnN.below NWs.out b6)
          have BW6 := hide (BWs.out.trans (b6.mono (by omega)))
          clear b6 k1 k2 k3 HRT
          go_wp2_with (at_builtin; refine wpList_append_N (y := u) (NW6.out.below ((Below.refl _ _).alloc (Nat.le_refl _) _)) (heap_alloc_new w6 _) HPL.out (by simp; omega) rfl rfl ?_)
          intro p7 w7 o7 g7
          have hgl6 := (Array.getElem?_eq_some_iff.1 RW6.out).1
          have RWa := hide ((heap_alloc_old w6 (.cells #[nval u] 70) hgl6).trans RW6.out)
          have NWa := hide (OwnN.below NW6.out ((Below.refl _ _).alloc (Nat.le_refl _) (.cells #[nval u] 70)))
          have OWa := hide (Own.below OW6.out ((Below.refl _ _).alloc (Nat.le_refl _) (.cells #[nval u] 70)))
          have hne := apart_row (t2 := 69) (by decide) NWa.out RWa.out
          have RW7 := hide ((g7.block w1.heap.size (by simp only [World.size_alloc]; omega) (by
            intro e7
            rcases hne with h | h
            · rw [h] at e7
              cases e7
            · exact h e7.symm)).trans RWa.out)
          have OW7 := hide (World.ownsRow.kept OWa.out g7 (apart_types (by decide) NWa.out OWa.out))
          have BW7 := hide (((BW6.out.alloc (by omega) (.cells #[nval u] 70))).grown g7 (by simp only [World.size_alloc]; omega) (fun i hi => (World.ownsRow.lt NWa.out i hi).1))
          have NW7 := hide o7
          clear o7 g7 hne hgl6
          go_wp2_with fail
          go_roundw
          case rel =>
            refine ⟨k + 1, .slice sb tn tc, by go_num, by omega, ?_, ?_, ?_, BW7.out⟩
            · rw [HQ1.out]; exact RW7.out
            · rw [HIL1.out]; exact OW7.out
            · rw [putsTo_succ, HVV.out]; exact NW7.out
          case measure => simp [intOf]; omega
        · obtain rfl : x1 = vv := by rw [← hv, putV, if_neg (by decide), ← hnn0, if_neg hnn]
          have hnn64 : (64 : Int) ≤ nn := by omega
          clear hv hvv hp1 hi1 hcf hcw hnn0
          go_wp2_with fail
          refine HADD.out.mono ?_
          rintro r w5 ⟨s5, rfl, o5, b5⟩
          clear k1 k2
          obtain ⟨sb, tn, tc, rfl, htn, -⟩ := (Own.isB o5).len'
          have z5 := b5.size
          have RW5 := hide ((b5.block w1.heap.size (by omega)).trans RW0.out)
          have NW5 := hide (OwnN.below NW0.out b5)
          have BW5 := hide (BW0.out.trans (b5.mono (by omega)))
          have OW5 := hide (Own.mono o5 zr)
          have HTN := hide htn
          clear htn o5 b5
          go_wp2_with (refine wpList_storeW w1.heap.size _ rfl rfl 69 _ RW5.out (by kernel_rfl) rfl rfl ?_)
          intro ws kus gus zus
          have RWs := hide kus
          have NWs := hide (World.ownsRow.kept NW5.out gus (apart_row (by decide) NW5.out RW5.out))
          have OWs := hide (World.ownsRow.kept OW5.out gus (apart_row (by decide) OW5.out RW5.out))
          have BWs := hide (BW5.out.grown gus (by omega) (fun i hi => by cases hi; exact Nat.le_refl _))
          have HTL : Hid (tn ≤ 1000000) := hide (by rw [HTN.out]; exact HIL1L.out)
          clear kus gus
          obtain ⟨k1, k2, k3⟩ := row_facts RWs.out
          have HRT := hide (right54 sb tn tc (Q1 : Int) iL1 ws HTN.out HTL.out HTQ.out (Own.isB OWs.out))
          rw [HINK1.out] at HRT
          go_wp2_with fail
          refine HRT.out.mono ?_
          rintro r w6 ⟨rfl, b6⟩
          have z6 := b6.size
          have RW6 := hide ((b6.block w1.heap.size (by omega)).trans RWs.out)
          have OW6 := hide (Own.below OWs.out b6)
          have NW6 := hide (OwnN.below NWs.out b6)
          have BW6 := hide (BWs.out.trans (b6.mono (by omega)))
          clear b6 k1 k2 k3 HRT
          go_wp2_with (at_builtin; refine wpList_append_N (y := x1) (NW6.out.below ((Below.refl _ _).alloc (Nat.le_refl _) _)) (heap_alloc_new w6 _) HPL.out (by simp; omega) rfl rfl ?_)
          intro p7 w7 o7 g7
          have hgl6 := (Array.getElem?_eq_some_iff.1 RW6.out).1
          have RWa := hide ((heap_alloc_old w6 (.cells #[nval x1] 70) hgl6).trans RW6.out)
          have NWa := hide (OwnN.below NW6.out ((Below.refl _ _).alloc (Nat.le_refl _) (.cells #[nval x1] 70)))
          have OWa := hide (Own.below OW6.out ((Below.refl _ _).alloc (Nat.le_refl _) (.cells #[nval x1] 70)))
          have hne := apart_row (t2 := 69) (by decide) NWa.out RWa.out
          have RW7 := hide ((g7.block w1.heap.size (by simp only [World.size_alloc]; omega) (by
            intro e7
            rcases hne with h | h
            · rw [h] at e7
              cases e7
            · exact h e7.symm)).trans RWa.out)
          have OW7 := hide (World.ownsRow.kept OWa.out g7 (apart_types (by decide) NWa.out OWa.out))
          have BW7 := hide (((BW6.out.alloc (by omega) (.cells #[nval x1] 70))).grown g7 (by simp only [World.size_alloc]; omega) (fun i hi => (World.ownsRow.lt NWa.out i hi).1))
          have NW7 := hide o7
          clear o7 g7 hne hgl6
          go_wp2_with fail
          go_roundw
          case rel =>
            refine ⟨k + 1, .slice sb tn tc, by go_num, by omega, ?_, ?_, ?_, BW7.out⟩
            · rw [HQ1.out]; exact RW7.out
            · rw [HIL1.out]; exact OW7.out
            · rw [putsTo_succ, HVV.out]; exact NW7.out
          case measure => simp [intOf]; omega
      · -- a number of a range
        rw [show putW x1 x2.toNat true = codeW (putV x1 x2.toNat true) (x2.toNat + 1) by rw [putW, if_pos rfl]] at hp1 hi1 hcf hcw
        rw [show putC x1 x2.toNat true = codeV (putV x1 x2.toNat true) (x2.toNat + 1) by rw [putC, if_pos rfl]] at hi1 hcf
        obtain ⟨vv, hv⟩ : ∃ v, putV x1 x2.toNat true = v := ⟨_, rfl⟩
        have hvm : x1 % (x2.toNat + 1) = vv := by rw [← hv, putV, if_pos rfl]
        rw [hv] at hi1 hp1 hcf hcw hvv
        have HVV := hide hvv
        have HVM := hide hvm
        have hvlt : vv < x2.toNat + 1 := by rw [← hvm]; exact Nat.mod_lt _ (by omega)
        have HADD : Hid (∀ u, IsB u (.slice sa sn sc) iL → Calls Try.prog 57 #[.agg #[.slice sa sn sc, .int .i64 (Q : Int)], .int .u64 (vv : Int), .int .u64 ((x2.toNat : Int) + 1)] u (RetAddO u iL1 (Q1 : Int))) := hide (fun u hu => by
          have := rad57o sa sn sc vv (x2.toNat + 1) Q iL u HSN.out HSL.out HINK0.out (by omega) (by omega) hvlt hu
          rw [← hi1, ← hp1, show ((x2.toNat + 1 : Nat) : Int) = (x2.toNat : Int) + 1 by omega] at this
          exact this)
        by_cases hnn : nn < 64
        · obtain ⟨pw, hpw⟩ : ∃ z, 2 ^ nn = z := ⟨_, rfl⟩
          obtain ⟨pw1, hpw1⟩ : ∃ z, pw - 1 = z := ⟨_, rfl⟩
          have hp63 : 2 ^ nn ≤ 2 ^ 63 := Nat.pow_le_pow_right (by decide) (by omega)
          have KPW : Hid (1 ≤ pw ∧ pw < 18446744073709551616) := hide ⟨by rw [← hpw]; exact Nat.one_le_two_pow, by omega⟩
          have KPW1 : Hid (pw1 < 18446744073709551616) := hide (by omega)
          have HPW := hide hpw
          have HPW1 := hide hpw1
          obtain ⟨u, hu⟩ : ∃ u, x1 &&& pw1 = u := ⟨_, rfl⟩
          have HU := hide hu
          clear hpw hpw1 hp63 hu hv hvv hvm hvlt hp1 hi1 hcf hcw hnn0
          go_upto_region 16 with (first | ((with_reducible show wpList _ _ _ (Oper.mk _ (.binOp .shl 70 _ _ _) _ _ _ _ :: _) _ _); refine wpList_shl1K (s := nn) (Z := pw) rfl rfl rfl hnn HPW.out ?_) | ((with_reducible show wpList _ _ _ (Oper.mk _ (.binOp .sub 70 _ _ _) _ _ _ _ :: _) _ _); refine wpList_sub1 (X := pw) (Z := pw1) rfl rfl rfl KPW.out.2 KPW.out.1 HPW1.out ?_) | ((with_reducible show wpList _ _ _ (Oper.mk _ (.binOp .and 70 _ _ _) _ _ _ _ :: _) _ _); refine wpList_and (X := x1) (Y := pw1) (Z := u) rfl rfl rfl HX1L.out KPW1.out HU.out ?_))
          clear k1 k2
          refine wp_region_mono 11 143 (.val _ :: .val _ :: .val _ :: .val _ :: .val _ :: .val _ :: .val _ :: .val _ :: .val _ :: .val _ :: .val _ :: []) (by kernel_rfl) (by kernel_rfl) rfl trivial rfl ⟨
            fun a u hB hO hJ => .inl ⟨rfl, fun K Q hK => by
              have e0 : a.tmps[0]?.getD undef = .slice (some ⟨b1, o1, none⟩) n1 c1 := hO 0 rfl
              clear hO hJ
              exact wp_move_of e0 fun h => hK _ _ (Below.refl _ _) h⟩,
            fun a u hB hO hJ => .inl ⟨rfl, fun K Q hK => by
              have e9 : a.tmps[9]?.getD undef = .int .i64 (k : Int) := hO 9 rfl
              clear hO hJ
              exact wp_move_of e9 fun h => hK _ _ (Below.refl _ _) h⟩,
            fun a u hB hO hJ => .inl ⟨rfl, fun K Q hK => by
              have e61 : a.tmps[61]?.getD undef = _ := hJ 0 rfl
              have e62 : a.tmps[62]?.getD undef = _ := hJ 1 rfl
              clear hO hJ
              have hjj := hlt2
              go_simp
              exact hK _ _ (Below.refl _ _) rfl⟩,
            fun a u hB hO hJ => .inl ⟨rfl, fun K Q hK => by
              have e63 : a.tmps[63]?.getD undef = _ := hJ 2 rfl
              clear hO hJ
              have hcu := ((bcell hB).1 _ _ hbr1).trans hc1r
              go_simp
              exact hK _ _ (Below.refl _ _) rfl⟩,
            fun a u hB hO hJ => .inl ⟨rfl, fun K Q hK => by
              have e1 : a.tmps[1]?.getD undef = .slice (some ⟨b2, o2, none⟩) n2 c2 := hO 1 rfl
              clear hO hJ
              exact wp_move_of e1 fun h => hK _ _ (Below.refl _ _) h⟩,
            fun a u hB hO hJ => .inl ⟨rfl, fun K Q hK => by
              have e9 : a.tmps[9]?.getD undef = .int .i64 (k : Int) := hO 9 rfl
              clear hO hJ
              exact wp_move_of e9 fun h => hK _ _ (Below.refl _ _) h⟩,
            fun a u hB hO hJ => .inl ⟨rfl, fun K Q hK => by
              have e65 : a.tmps[65]?.getD undef = _ := hJ 4 rfl
              have e66 : a.tmps[66]?.getD undef = _ := hJ 5 rfl
              clear hO hJ
              have hjj := hk2
              go_simp
              exact hK _ _ (Below.refl _ _) rfl⟩,
            fun a u hB hO hJ => .inl ⟨rfl, fun K Q hK => by
              have e67 : a.tmps[67]?.getD undef = _ := hJ 6 rfl
              clear hO hJ
              have hcu := ((bcell hB).1 _ _ hbr2).trans hc2r
              go_simp
              exact hK _ _ (Below.refl _ _) rfl⟩,
            fun a u hB hO hJ => .inl ⟨rfl, fun K Q hK => by
              have e68 : a.tmps[68]?.getD undef = _ := hJ 7 rfl
              clear hO hJ
              go_simp
              try go_bits
              exact hK _ _ (Below.refl _ _) rfl⟩,
            fun a u hB hO hJ => .inl ⟨rfl, fun K Q hK => by
              have e69 : a.tmps[69]?.getD undef = _ := hJ 8 rfl
              clear hO hJ
              go_simp
              try go_bits
              exact hK _ _ (Below.refl _ _) rfl⟩,
            fun a u hB hO hJ => .inl ⟨rfl, fun K Q hK => by
              have e64 : a.tmps[64]?.getD undef = _ := hJ 3 rfl
              have e70 : a.tmps[70]?.getD undef = _ := hJ 9 rfl
              clear hO hJ
              exact wp_bin_of (by simp) (by rw [evalTmp, e64]) (by rw [evalTmp, e70]) (run_rem64 (Y := x2.toNat + 1) (by omega) (by omega) HX1L.out HVM.out) (hK _ _ (Below.refl _ _) rfl)⟩,
            trivial⟩ ?fin16A
          case fin16A =>
            intro wv hB
            simp only [Act.put, List.setIfInBounds_toArray, List.set_cons_zero, List.set_cons_succ, List.drop_succ_cons, List.drop_zero, List.take_succ_cons, List.take_zero, Laid]
            have RWv := hide ((hB.block w1.heap.size hgl0).trans RW0.out)
            have OWv := hide (Own.below OW0.out hB)
            have NWv := hide (OwnN.below NW0.out hB)
            have BWv := hide (BW0.out.trans (hB.mono zr))
            have zv := hB.size
            have hc2v := ((bcell hB).1 _ _ hbr2).trans hc2r
            have hbr2v : b2 < wv.heap.size := by omega
            clear hB hc1r hc2r hc3r
            go_upto_region 17 with fail
            refine wp_region_late 12 143 11 0 (.val _ :: .val _ :: .val _ :: .val _ :: .val _ :: .val _ :: .val _ :: .val _ :: .pred (PAddO w1.heap.size iL1 (Q1 : Int)) :: .pred (PAddO w1.heap.size iL1 (Q1 : Int)) :: .pred (PInk w1.heap.size iL1 (Q1 : Int)) :: .val _ :: []) (by kernel_rfl) (by kernel_rfl) rfl ⟨PAddO.stable _ _ _, PAddO.stable _ _ _, PInk.stable _ _ _, trivial⟩ rfl ⟨
              fun a u hB hO hJ => .inl ⟨rfl, fun K Q hK => by
                have e7 : a.tmps[7]?.getD undef = .pointer (some ⟨w1.heap.size, 0, none⟩) := hO 7 rfl
                clear hO hJ
                obtain ⟨q1, q2, q3⟩ := row_facts ((hB.block w1.heap.size (by omega)).trans RWv.out)
                go_simp
                exact hK _ _ (Below.refl _ _) rfl⟩,
              fun a u hB hO hJ => .inl ⟨rfl, fun K Q hK => by
                have e11 : a.tmps[11]?.getD undef = .int .u64 (vv : Int) := hO 11 rfl
                clear hO hJ
                exact wp_move_of e11 fun h => hK _ _ (Below.refl _ _) h⟩,
              fun a u hB hO hJ => .inl ⟨rfl, fun K Q hK => by
                have e1 : a.tmps[1]?.getD undef = .slice (some ⟨b2, o2, none⟩) n2 c2 := hO 1 rfl
                clear hO hJ
                exact wp_move_of e1 fun h => hK _ _ (Below.refl _ _) h⟩,
              fun a u hB hO hJ => .inl ⟨rfl, fun K Q hK => by
                have e9 : a.tmps[9]?.getD undef = .int .i64 (k : Int) := hO 9 rfl
                clear hO hJ
                exact wp_move_of e9 fun h => hK _ _ (Below.refl _ _) h⟩,
              fun a u hB hO hJ => .inl ⟨rfl, fun K Q hK => by
                have e75 : a.tmps[75]?.getD undef = _ := hJ 2 rfl
                have e76 : a.tmps[76]?.getD undef = _ := hJ 3 rfl
                clear hO hJ
                have hjj := hk2
                go_simp
                exact hK _ _ (Below.refl _ _) rfl⟩,
              fun a u hB hO hJ => .inl ⟨rfl, fun K Q hK => by
                have e77 : a.tmps[77]?.getD undef = _ := hJ 4 rfl
                clear hO hJ
                have hcu := ((bcell hB).1 _ _ hbr2v).trans hc2v
                go_simp
                exact hK _ _ (Below.refl _ _) rfl⟩,
              fun a u hB hO hJ => .inl ⟨rfl, fun K Q hK => by
                have e78 : a.tmps[78]?.getD undef = _ := hJ 5 rfl
                clear hO hJ
                go_simp
                try go_bits
                exact hK _ _ (Below.refl _ _) rfl⟩,
              fun a u hB hO hJ => .inl ⟨rfl, fun K Q hK => by
                have e79 : a.tmps[79]?.getD undef = _ := hJ 6 rfl
                clear hO hJ
                go_simp
                try go_bits
                exact hK _ _ (Below.refl _ _) rfl⟩,
              fun a u hB hO hJ => .inl ⟨rfl, fun K Q hK => by
                have e73 : a.tmps[73]?.getD undef = _ := hJ 0 rfl
                have e74 : a.tmps[74]?.getD undef = _ := hJ 1 rfl
                have e80 : a.tmps[80]?.getD undef = _ := hJ 7 rfl
                clear hO hJ
                have zz := hB.size
                go_simp
                refine (HADD.out _ (Own.isB (Own.below OWv.out hB))).mono ?_
                rintro e w7 ⟨s7, rfl, o7, b7⟩
                exact hK _ _ b7 ⟨s7, rfl, Own.mono o7 (by omega)⟩⟩,
              fun a u hB hO hJ => .inl ⟨rfl, fun K Q hK => by
                have e81 : (PAddO w1.heap.size iL1 (Q1 : Int)) (a.tmps[81]?.getD undef) u := hJ 8 rfl
                clear hO hJ
                exact wp_move_of rfl fun h => hK _ _ (Below.refl _ _) (by rw [evalTmp]; exact e81)⟩,
              fun a u hB hO hJ => .inl ⟨rfl, fun K Q hK => by
                have e72 : (PAddO w1.heap.size iL1 (Q1 : Int)) (a.tmps[72]?.getD undef) u := hJ 9 rfl
                clear hO hJ
                obtain ⟨s9, h9, i9⟩ := e72
                go_simp
                exact hK _ _ (Below.refl _ _) ⟨s9, rfl, i9⟩⟩,
              fun a u hB hO hJ => .inl ⟨rfl, fun K Q hK => by
                have e72 : (PAddO w1.heap.size iL1 (Q1 : Int)) (a.tmps[72]?.getD undef) u := hJ 9 rfl
                clear hO hJ
                obtain ⟨s9, h9, i9⟩ := e72
                go_simp
                exact hK _ _ (Below.refl _ _) rfl⟩,
              trivial⟩ ?fin17A ?early17A
            case fin17A =>
              intro w5 hB
              simp only [Act.put, List.setIfInBounds_toArray, List.set_cons_zero, List.set_cons_succ, List.drop_succ_cons, List.drop_zero, List.take_succ_cons, List.take_zero, Laid]
              rintro v81 - v72 - _ ⟨s5, rfl, o5⟩
              have zu := hB.size
              obtain ⟨sb, tn, tc, rfl, htn, -⟩ := (Own.isB o5).len'
              have RW5 := hide ((hB.block w1.heap.size (by omega)).trans RWv.out)
              have NW5 := hide (OwnN.below NWv.out hB)
              have BW5 := hide (BWv.out.trans (hB.mono (by omega)))
              have OW5 := hide o5
              have HTN := hide htn
              have z5 := zu
              clear htn o5 hB
              go_wp2_with (refine wpList_storeW w1.heap.size _ rfl rfl 69 _ RW5.out (by kernel_rfl) rfl rfl ?_)
              intro ws kus gus zus
              have RWs := hide kus
              have NWs := hide (World.ownsRow.kept NW5.out gus (apart_row (by decide) NW5.out RW5.out))
              have OWs := hide (World.ownsRow.kept OW5.out gus (apart_row (by decide) OW5.out RW5.out))
              have BWs := hide (BW5.out.grown gus (by omega) (fun i hi => by cases hi; exact Nat.le_refl _))
              have HTL : Hid (tn ≤ 1000000) := hide (by rw [HTN.out]; exact HIL1L.out)
              clear kus gus

              obtain ⟨k1, k2, k3⟩ := row_facts RWs.out
              have HRT := hide (right54 sb tn tc (Q1 : Int) iL1 ws HTN.out HTL.out HTQ.out (Own.isB OWs.out))
              rw [HINK1.out] at HRT
              go_wp2_with fail
              refine HRT.out.mono ?_
              rintro r w6 ⟨rfl, b6⟩
              have z6 := b6.size
              have RW6 := hide ((b6.block w1.heap.size (by omega)).trans RWs.out)
              have OW6 := hide (Own.below OWs.out b6)
              have NW6 := hide (OwnN.below NWs.out b6)
              have BW6 := hide (BWs.out.trans (b6.mono (by omega)))
              clear b6 k1 k2 k3 HRT
              go_wp2_with (at_builtin; refine wpList_append_N (y := vv) (NW6.out.below ((Below.refl _ _).alloc (Nat.le_refl _) _)) (heap_alloc_new w6 _) HPL.out (by simp; omega) rfl rfl ?_)
              intro p7 w7 o7 g7
              have hgl6 := (Array.getElem?_eq_some_iff.1 RW6.out).1
              have RWa := hide ((heap_alloc_old w6 (.cells #[nval vv] 70) hgl6).trans RW6.out)
              have NWa := hide (OwnN.below NW6.out ((Below.refl _ _).alloc (Nat.le_refl _) (.cells #[nval vv] 70)))
              have OWa := hide (Own.below OW6.out ((Below.refl _ _).alloc (Nat.le_refl _) (.cells #[nval vv] 70)))
              have hne := apart_row (t2 := 69) (by decide) NWa.out RWa.out
              have RW7 := hide ((g7.block w1.heap.size (by simp only [World.size_alloc]; omega) (by
                intro e7
                rcases hne with h | h
                · rw [h] at e7
                  cases e7
                · exact h e7.symm)).trans RWa.out)
              have OW7 := hide (World.ownsRow.kept OWa.out g7 (apart_types (by decide) NWa.out OWa.out))
              have BW7 := hide (((BW6.out.alloc (by omega) (.cells #[nval vv] 70))).grown g7 (by simp only [World.size_alloc]; omega) (fun i hi => (World.ownsRow.lt NWa.out i hi).1))
              have NW7 := hide o7
              clear o7 g7 hne hgl6
              go_wp2_with fail
              go_roundw
              case rel =>
                refine ⟨k + 1, .slice sb tn tc, by go_num, by omega, ?_, ?_, ?_, BW7.out⟩
                · rw [HQ1.out]; exact RW7.out
                · rw [HIL1.out]; exact OW7.out
                · rw [putsTo_succ, HVV.out]; exact NW7.out
              case measure => simp [intOf]; omega
            case early17A =>
              intro w5 hB
              simp only [Act.put, List.setIfInBounds_toArray, List.set_cons_zero, List.set_cons_succ, List.take_succ_cons, List.take_zero, Laid]
              rintro v81 - _ ⟨s72, rfl, -⟩ _ ⟨s5, rfl, o5⟩ v83 -
              have zu := hB.size
              obtain ⟨sb, tn, tc, rfl, htn, -⟩ := (Own.isB o5).len'
              have RW5 := hide ((hB.block w1.heap.size (by omega)).trans RWv.out)
              have NW5 := hide (OwnN.below NWv.out hB)
              have BW5 := hide (BWv.out.trans (hB.mono (by omega)))
              have OW5 := hide o5
              have HTN := hide htn
              have z5 := zu
              clear htn o5 hB
              refine wpOp_at rfl rfl ?_
              refine wp_storeW w1.heap.size _ rfl rfl 69 _ RW5.out (by kernel_rfl) rfl rfl ?_
              intro ws kus gus zus
              simp only [early]
              have RWs := hide kus
              have NWs := hide (World.ownsRow.kept NW5.out gus (apart_row (by decide) NW5.out RW5.out))
              have OWs := hide (World.ownsRow.kept OW5.out gus (apart_row (by decide) OW5.out RW5.out))
              have BWs := hide (BW5.out.grown gus (by omega) (fun i hi => by cases hi; exact Nat.le_refl _))
              have HTL : Hid (tn ≤ 1000000) := hide (by rw [HTN.out]; exact HIL1L.out)
              clear kus gus

              obtain ⟨k1, k2, k3⟩ := row_facts RWs.out
              have HRT := hide (right54 sb tn tc (Q1 : Int) iL1 ws HTN.out HTL.out HTQ.out (Own.isB OWs.out))
              rw [HINK1.out] at HRT
              go_wp2_with fail
              refine HRT.out.mono ?_
              rintro r w6 ⟨rfl, b6⟩
              have z6 := b6.size
              have RW6 := hide ((b6.block w1.heap.size (by omega)).trans RWs.out)
              have OW6 := hide (Own.below OWs.out b6)
              have NW6 := hide (OwnN.below NWs.out b6)
              have BW6 := hide (BWs.out.trans (b6.mono (by omega)))
              clear b6 k1 k2 k3 HRT
              go_wp2_with (at_builtin; refine wpList_append_N (y := vv) (NW6.out.below ((Below.refl _ _).alloc (Nat.le_refl _) _)) (heap_alloc_new w6 _) HPL.out (by simp; omega) rfl rfl ?_)
              intro p7 w7 o7 g7
              have hgl6 := (Array.getElem?_eq_some_iff.1 RW6.out).1
              have RWa := hide ((heap_alloc_old w6 (.cells #[nval vv] 70) hgl6).trans RW6.out)
              have NWa := hide (OwnN.below NW6.out ((Below.refl _ _).alloc (Nat.le_refl _) (.cells #[nval vv] 70)))
              have OWa := hide (Own.below OW6.out ((Below.refl _ _).alloc (Nat.le_refl _) (.cells #[nval vv] 70)))
              have hne := apart_row (t2 := 69) (by decide) NWa.out RWa.out
              have RW7 := hide ((g7.block w1.heap.size (by simp only [World.size_alloc]; omega) (by
                intro e7
                rcases hne with h | h
                · rw [h] at e7
                  cases e7
                · exact h e7.symm)).trans RWa.out)
              have OW7 := hide (World.ownsRow.kept OWa.out g7 (apart_types (by decide) NWa.out OWa.out))
              have BW7 := hide (((BW6.out.alloc (by omega) (.cells #[nval vv] 70))).grown g7 (by simp only [World.size_alloc]; omega) (fun i hi => (World.ownsRow.lt NWa.out i hi).1))
              have NW7 := hide o7
              clear o7 g7 hne hgl6
              go_wp2_with fail
              go_roundw
              case rel =>
                refine ⟨k + 1, .slice sb tn tc, by go_num, by omega, ?_, ?_, ?_, BW7.out⟩
                · rw [HQ1.out]; exact RW7.out
                · rw [HIL1.out]; exact OW7.out
                · rw [putsTo_succ, HVV.out]; exact NW7.out
              case measure => simp [intOf]; omega
        · have hnn64 : (64 : Int) ≤ nn := by omega
          clear hv hvv hvm hvlt hp1 hi1 hcf hcw hnn0
          go_upto_region 16 with fail
          clear k1 k2
          refine wp_region_mono 11 143 (.val _ :: .val _ :: .val _ :: .val _ :: .val _ :: .val _ :: .val _ :: .val _ :: .val _ :: .val _ :: .val _ :: []) (by kernel_rfl) (by kernel_rfl) rfl trivial rfl ⟨
            fun a u hB hO hJ => .inl ⟨rfl, fun K Q hK => by
              have e0 : a.tmps[0]?.getD undef = .slice (some ⟨b1, o1, none⟩) n1 c1 := hO 0 rfl
              clear hO hJ
              exact wp_move_of e0 fun h => hK _ _ (Below.refl _ _) h⟩,
            fun a u hB hO hJ => .inl ⟨rfl, fun K Q hK => by
              have e9 : a.tmps[9]?.getD undef = .int .i64 (k : Int) := hO 9 rfl
              clear hO hJ
              exact wp_move_of e9 fun h => hK _ _ (Below.refl _ _) h⟩,
            fun a u hB hO hJ => .inl ⟨rfl, fun K Q hK => by
              have e61 : a.tmps[61]?.getD undef = _ := hJ 0 rfl
              have e62 : a.tmps[62]?.getD undef = _ := hJ 1 rfl
              clear hO hJ
              have hjj := hlt2
              go_simp
              exact hK _ _ (Below.refl _ _) rfl⟩,
            fun a u hB hO hJ => .inl ⟨rfl, fun K Q hK => by
              have e63 : a.tmps[63]?.getD undef = _ := hJ 2 rfl
              clear hO hJ
              have hcu := ((bcell hB).1 _ _ hbr1).trans hc1r
              go_simp
              exact hK _ _ (Below.refl _ _) rfl⟩,
            fun a u hB hO hJ => .inl ⟨rfl, fun K Q hK => by
              have e1 : a.tmps[1]?.getD undef = .slice (some ⟨b2, o2, none⟩) n2 c2 := hO 1 rfl
              clear hO hJ
              exact wp_move_of e1 fun h => hK _ _ (Below.refl _ _) h⟩,
            fun a u hB hO hJ => .inl ⟨rfl, fun K Q hK => by
              have e9 : a.tmps[9]?.getD undef = .int .i64 (k : Int) := hO 9 rfl
              clear hO hJ
              exact wp_move_of e9 fun h => hK _ _ (Below.refl _ _) h⟩,
            fun a u hB hO hJ => .inl ⟨rfl, fun K Q hK => by
              have e65 : a.tmps[65]?.getD undef = _ := hJ 4 rfl
              have e66 : a.tmps[66]?.getD undef = _ := hJ 5 rfl
              clear hO hJ
              have hjj := hk2
              go_simp
              exact hK _ _ (Below.refl _ _) rfl⟩,
            fun a u hB hO hJ => .inl ⟨rfl, fun K Q hK => by
              have e67 : a.tmps[67]?.getD undef = _ := hJ 6 rfl
              clear hO hJ
              have hcu := ((bcell hB).1 _ _ hbr2).trans hc2r
              go_simp
              exact hK _ _ (Below.refl _ _) rfl⟩,
            fun a u hB hO hJ => .inl ⟨rfl, fun K Q hK => by
              have e68 : a.tmps[68]?.getD undef = _ := hJ 7 rfl
              clear hO hJ
              go_simp
              try go_bits
              exact hK _ _ (Below.refl _ _) rfl⟩,
            fun a u hB hO hJ => .inl ⟨rfl, fun K Q hK => by
              have e69 : a.tmps[69]?.getD undef = _ := hJ 8 rfl
              clear hO hJ
              go_simp
              try go_bits
              exact hK _ _ (Below.refl _ _) rfl⟩,
            fun a u hB hO hJ => .inl ⟨rfl, fun K Q hK => by
              have e64 : a.tmps[64]?.getD undef = _ := hJ 3 rfl
              have e70 : a.tmps[70]?.getD undef = _ := hJ 9 rfl
              clear hO hJ
              exact wp_bin_of (by simp) (by rw [evalTmp, e64]) (by rw [evalTmp, e70]) (run_rem64 (Y := x2.toNat + 1) (by omega) (by omega) HX1L.out HVM.out) (hK _ _ (Below.refl _ _) rfl)⟩,
            trivial⟩ ?fin16B
          case fin16B =>
            intro wv hB
            simp only [Act.put, List.setIfInBounds_toArray, List.set_cons_zero, List.set_cons_succ, List.drop_succ_cons, List.drop_zero, List.take_succ_cons, List.take_zero, Laid]
            have RWv := hide ((hB.block w1.heap.size hgl0).trans RW0.out)
            have OWv := hide (Own.below OW0.out hB)
            have NWv := hide (OwnN.below NW0.out hB)
            have BWv := hide (BW0.out.trans (hB.mono zr))
            have zv := hB.size
            have hc2v := ((bcell hB).1 _ _ hbr2).trans hc2r
            have hbr2v : b2 < wv.heap.size := by omega
            clear hB hc1r hc2r hc3r
            go_upto_region 17 with fail
            refine wp_region_late 12 143 11 0 (.val _ :: .val _ :: .val _ :: .val _ :: .val _ :: .val _ :: .val _ :: .val _ :: .pred (PAddO w1.heap.size iL1 (Q1 : Int)) :: .pred (PAddO w1.heap.size iL1 (Q1 : Int)) :: .pred (PInk w1.heap.size iL1 (Q1 : Int)) :: .val _ :: []) (by kernel_rfl) (by kernel_rfl) rfl ⟨PAddO.stable _ _ _, PAddO.stable _ _ _, PInk.stable _ _ _, trivial⟩ rfl ⟨
              fun a u hB hO hJ => .inl ⟨rfl, fun K Q hK => by
                have e7 : a.tmps[7]?.getD undef = .pointer (some ⟨w1.heap.size, 0, none⟩) := hO 7 rfl
                clear hO hJ
                obtain ⟨q1, q2, q3⟩ := row_facts ((hB.block w1.heap.size (by omega)).trans RWv.out)
                go_simp
                exact hK _ _ (Below.refl _ _) rfl⟩,
              fun a u hB hO hJ => .inl ⟨rfl, fun K Q hK => by
                have e11 : a.tmps[11]?.getD undef = .int .u64 (vv : Int) := hO 11 rfl
                clear hO hJ
                exact wp_move_of e11 fun h => hK _ _ (Below.refl _ _) h⟩,
              fun a u hB hO hJ => .inl ⟨rfl, fun K Q hK => by
                have e1 : a.tmps[1]?.getD undef = .slice (some ⟨b2, o2, none⟩) n2 c2 := hO 1 rfl
                clear hO hJ
                exact wp_move_of e1 fun h => hK _ _ (Below.refl _ _) h⟩,
              fun a u hB hO hJ => .inl ⟨rfl, fun K Q hK => by
                have e9 : a.tmps[9]?.getD undef = .int .i64 (k : Int) := hO 9 rfl
                clear hO hJ
                exact wp_move_of e9 fun h => hK _ _ (Below.refl _ _) h⟩,
              fun a u hB hO hJ => .inl ⟨rfl, fun K Q hK => by
                have e75 : a.tmps[75]?.getD undef = _ := hJ 2 rfl
                have e76 : a.tmps[76]?.getD undef = _ := hJ 3 rfl
                clear hO hJ
                have hjj := hk2
                go_simp
                exact hK _ _ (Below.refl _ _) rfl⟩,
              fun a u hB hO hJ => .inl ⟨rfl, fun K Q hK => by
                have e77 : a.tmps[77]?.getD undef = _ := hJ 4 rfl
                clear hO hJ
                have hcu := ((bcell hB).1 _ _ hbr2v).trans hc2v
                go_simp
                exact hK _ _ (Below.refl _ _) rfl⟩,
              fun a u hB hO hJ => .inl ⟨rfl, fun K Q hK => by
                have e78 : a.tmps[78]?.getD undef = _ := hJ 5 rfl
                clear hO hJ
                go_simp
                try go_bits
                exact hK _ _ (Below.refl _ _) rfl⟩,
              fun a u hB hO hJ => .inl ⟨rfl, fun K Q hK => by
                have e79 : a.tmps[79]?.getD undef = _ := hJ 6 rfl
                clear hO hJ
                go_simp
                try go_bits
                exact hK _ _ (Below.refl _ _) rfl⟩,
              fun a u hB hO hJ => .inl ⟨rfl, fun K Q hK => by
                have e73 : a.tmps[73]?.getD undef = _ := hJ 0 rfl
                have e74 : a.tmps[74]?.getD undef = _ := hJ 1 rfl
                have e80 : a.tmps[80]?.getD undef = _ := hJ 7 rfl
                clear hO hJ
                have zz := hB.size
                go_simp
                refine (HADD.out _ (Own.isB (Own.below OWv.out hB))).mono ?_
                rintro e w7 ⟨s7, rfl, o7, b7⟩
                exact hK _ _ b7 ⟨s7, rfl, Own.mono o7 (by omega)⟩⟩,
              fun a u hB hO hJ => .inl ⟨rfl, fun K Q hK => by
                have e81 : (PAddO w1.heap.size iL1 (Q1 : Int)) (a.tmps[81]?.getD undef) u := hJ 8 rfl
                clear hO hJ
                exact wp_move_of rfl fun h => hK _ _ (Below.refl _ _) (by rw [evalTmp]; exact e81)⟩,
              fun a u hB hO hJ => .inl ⟨rfl, fun K Q hK => by
                have e72 : (PAddO w1.heap.size iL1 (Q1 : Int)) (a.tmps[72]?.getD undef) u := hJ 9 rfl
                clear hO hJ
                obtain ⟨s9, h9, i9⟩ := e72
                go_simp
                exact hK _ _ (Below.refl _ _) ⟨s9, rfl, i9⟩⟩,
              fun a u hB hO hJ => .inl ⟨rfl, fun K Q hK => by
                have e72 : (PAddO w1.heap.size iL1 (Q1 : Int)) (a.tmps[72]?.getD undef) u := hJ 9 rfl
                clear hO hJ
                obtain ⟨s9, h9, i9⟩ := e72
                go_simp
                exact hK _ _ (Below.refl _ _) rfl⟩,
              trivial⟩ ?fin17B ?early17B
            case fin17B =>
              intro w5 hB
              simp only [Act.put, List.setIfInBounds_toArray, List.set_cons_zero, List.set_cons_succ, List.drop_succ_cons, List.drop_zero, List.take_succ_cons, List.take_zero, Laid]
              rintro v81 - v72 - _ ⟨s5, rfl, o5⟩
              have zu := hB.size
              obtain ⟨sb, tn, tc, rfl, htn, -⟩ := (Own.isB o5).len'
              have RW5 := hide ((hB.block w1.heap.size (by omega)).trans RWv.out)
              have NW5 := hide (OwnN.below NWv.out hB)
              have BW5 := hide (BWv.out.trans (hB.mono (by omega)))
              have OW5 := hide o5
              have HTN := hide htn
              have z5 := zu
              clear htn o5 hB
              go_wp2_with (refine wpList_storeW w1.heap.size _ rfl rfl 69 _ RW5.out (by kernel_rfl) rfl rfl ?_)
              intro ws kus gus zus
              have RWs := hide kus
              have NWs := hide (World.ownsRow.kept NW5.out gus (apart_row (by decide) NW5.out RW5.out))
              have OWs := hide (World.ownsRow.kept OW5.out gus (apart_row (by decide) OW5.out RW5.out))
              have BWs := hide (BW5.out.grown gus (by omega) (fun i hi => by cases hi; exact Nat.le_refl _))
              have HTL : Hid (tn ≤ 1000000) := hide (by rw [HTN.out]; exact HIL1L.out)
              clear kus gus

              obtain ⟨k1, k2, k3⟩ := row_facts RWs.out
              have HRT := hide (right54 sb tn tc (Q1 : Int) iL1 ws HTN.out HTL.out HTQ.out (Own.isB OWs.out))
              rw [HINK1.out] at HRT
              go_wp2_with fail
              refine HRT.out.mono ?_
              rintro r w6 ⟨rfl, b6⟩
              have z6 := b6.size
              have RW6 := hide ((b6.block w1.heap.size (by omega)).trans RWs.out)
              have OW6 := hide (Own.below OWs.out b6)
              have NW6 := hide (OwnN.below NWs.out b6)
              have BW6 := hide (BWs.out.trans (b6.mono (by omega)))
              clear b6 k1 k2 k3 HRT
              go_wp2_with (at_builtin; refine wpList_append_N (y := vv) (NW6.out.below ((Below.refl _ _).alloc (Nat.le_refl _) _)) (heap_alloc_new w6 _) HPL.out (by simp; omega) rfl rfl ?_)
              intro p7 w7 o7 g7
              have hgl6 := (Array.getElem?_eq_some_iff.1 RW6.out).1
              have RWa := hide ((heap_alloc_old w6 (.cells #[nval vv] 70) hgl6).trans RW6.out)
              have NWa := hide (OwnN.below NW6.out ((Below.refl _ _).alloc (Nat.le_refl _) (.cells #[nval vv] 70)))
              have OWa := hide (Own.below OW6.out ((Below.refl _ _).alloc (Nat.le_refl _) (.cells #[nval vv] 70)))
              have hne := apart_row (t2 := 69) (by decide) NWa.out RWa.out
              have RW7 := hide ((g7.block w1.heap.size (by simp only [World.size_alloc]; omega) (by
                intro e7
                rcases hne with h | h
                · rw [h] at e7
                  cases e7
                · exact h e7.symm)).trans RWa.out)
              have OW7 := hide (World.ownsRow.kept OWa.out g7 (apart_types (by decide) NWa.out OWa.out))
              have BW7 := hide (((BW6.out.alloc (by omega) (.cells #[nval vv] 70))).grown g7 (by simp only [World.size_alloc]; omega) (fun i hi => (World.ownsRow.lt NWa.out i hi).1))
              have NW7 := hide o7
              clear o7 g7 hne hgl6
              go_wp2_with fail
              go_roundw
              case rel =>
                refine ⟨k + 1, .slice sb tn tc, by go_num, by omega, ?_, ?_, ?_, BW7.out⟩
                · rw [HQ1.out]; exact RW7.out
                · rw [HIL1.out]; exact OW7.out
                · rw [putsTo_succ, HVV.out]; exact NW7.out
              case measure => simp [intOf]; omega
            case early17B =>
              intro w5 hB
              simp only [Act.put, List.setIfInBounds_toArray, List.set_cons_zero, List.set_cons_succ, List.take_succ_cons, List.take_zero, Laid]
              rintro v81 - _ ⟨s72, rfl, -⟩ _ ⟨s5, rfl, o5⟩ v83 -
              have zu := hB.size
              obtain ⟨sb, tn, tc, rfl, htn, -⟩ := (Own.isB o5).len'
              have RW5 := hide ((hB.block w1.heap.size (by omega)).trans RWv.out)
              have NW5 := hide (OwnN.below NWv.out hB)
              have BW5 := hide (BWv.out.trans (hB.mono (by omega)))
              have OW5 := hide o5
              have HTN := hide htn
              have z5 := zu
              clear htn o5 hB
              refine wpOp_at rfl rfl ?_
              refine wp_storeW w1.heap.size _ rfl rfl 69 _ RW5.out (by kernel_rfl) rfl rfl ?_
              intro ws kus gus zus
              simp only [early]
              have RWs := hide kus
              have NWs := hide (World.ownsRow.kept NW5.out gus (apart_row (by decide) NW5.out RW5.out))
              have OWs := hide (World.ownsRow.kept OW5.out gus (apart_row (by decide) OW5.out RW5.out))
              have BWs := hide (BW5.out.grown gus (by omega) (fun i hi => by cases hi; exact Nat.le_refl _))
              have HTL : Hid (tn ≤ 1000000) := hide (by rw [HTN.out]; exact HIL1L.out)
              clear kus gus

              obtain ⟨k1, k2, k3⟩ := row_facts RWs.out
              have HRT := hide (right54 sb tn tc (Q1 : Int) iL1 ws HTN.out HTL.out HTQ.out (Own.isB OWs.out))
              rw [HINK1.out] at HRT
              go_wp2_with fail
              refine HRT.out.mono ?_
              rintro r w6 ⟨rfl, b6⟩
              have z6 := b6.size
              have RW6 := hide ((b6.block w1.heap.size (by omega)).trans RWs.out)
              have OW6 := hide (Own.below OWs.out b6)
              have NW6 := hide (OwnN.below NWs.out b6)
              have BW6 := hide (BWs.out.trans (b6.mono (by omega)))
              clear b6 k1 k2 k3 HRT
              go_wp2_with (at_builtin; refine wpList_append_N (y := vv) (NW6.out.below ((Below.refl _ _).alloc (Nat.le_refl _) _)) (heap_alloc_new w6 _) HPL.out (by simp; omega) rfl rfl ?_)
              intro p7 w7 o7 g7
              have hgl6 := (Array.getElem?_eq_some_iff.1 RW6.out).1
              have RWa := hide ((heap_alloc_old w6 (.cells #[nval vv] 70) hgl6).trans RW6.out)
              have NWa := hide (OwnN.below NW6.out ((Below.refl _ _).alloc (Nat.le_refl _) (.cells #[nval vv] 70)))
              have OWa := hide (Own.below OW6.out ((Below.refl _ _).alloc (Nat.le_refl _) (.cells #[nval vv] 70)))
              have hne := apart_row (t2 := 69) (by decide) NWa.out RWa.out
              have RW7 := hide ((g7.block w1.heap.size (by simp only [World.size_alloc]; omega) (by
                intro e7
                rcases hne with h | h
                · rw [h] at e7
                  cases e7
                · exact h e7.symm)).trans RWa.out)
              have OW7 := hide (World.ownsRow.kept OWa.out g7 (apart_types (by decide) NWa.out OWa.out))
              have BW7 := hide (((BW6.out.alloc (by omega) (.cells #[nval vv] 70))).grown g7 (by simp only [World.size_alloc]; omega) (fun i hi => (World.ownsRow.lt NWa.out i hi).1))
              have NW7 := hide o7
              clear o7 g7 hne hgl6
              go_wp2_with fail
              go_roundw
              case rel =>
                refine ⟨k + 1, .slice sb tn tc, by go_num, by omega, ?_, ?_, ?_, BW7.out⟩
                · rw [HQ1.out]; exact RW7.out
                · rw [HIL1.out]; exact OW7.out
                · rw [putsTo_succ, HVV.out]; exact NW7.out
              case measure => simp [intOf]; omega
    · obtain rfl : k = n1 := by omega
      obtain ⟨ap, np, cp, rfl, hnp, -⟩ := (NW0.out.isN (putsTo_lt HXL.out wl rl k)).len'
      rw [putsTo_length] at hnp
      subst hnp
      have hil := inkAt_length pl wl rl np
      have hpm := posAt_le (wd := wl) (rg := rl) HXL.out np
      have hok := inkAt_ok pl wl rl np
      obtain ⟨QF, hQF⟩ : ∃ Q, posAt pl wl rl np = Q := ⟨_, rfl⟩
      obtain ⟨LF, hLF⟩ : ∃ L, inkAt pl wl rl np = L := ⟨_, rfl⟩
      rw [hQF, hLF] at hil
      rw [hQF] at hpm
      rw [hQF] at RW0
      rw [hLF] at OW0 HSN
      have h60 := G60.out
      have hQ60 : (QF : Int) ≤ 4000 := by omega
      have HSL : Hid (sn ≤ 1000000) := hide (by rw [HSN.out]; omega)
      have HIL := hide hil
      have HNP : Hid (IsN wr (.slice ap np cp) (putsTo pl wl rl np)) := hide (NW0.out.isN (putsTo_lt HXL.out wl rl np))
      have H2r := hide (H2.out.below HBW.out)
      have H3r := hide (H3.out.below HBW.out)
      have HQF := hide hQF
      have HLF := hide hLF
      have HQN : Hid (QF = posAt pl wl rl np) := hide hQF.symm
      -- the whole
      have HFULL : Hid (∀ u, IsB u (.slice sa sn sc) LF → IsN u (.slice ap np cp) (putsTo pl wl rl np) → IsB u (.slice a2 n2 c2) wl → IsT u (.slice a3 n3 c3) rl → Calls Try.prog 59 #[.agg #[.slice sa sn sc, .int .i64 0, .int .i64 0], .slice ap np cp, .slice a2 n2 c2, .slice a3 n3 c3] u fun r w' => r = .returned (.agg #[.slice sa sn sc, .int .i64 (QF : Int), .int .i64 0]) ∧ Below u.heap.size u w') := hide (by
        intro u i1 i2 i3 i4
        have := read59 sa ap a2 a3 sn sc np cp n2 c2 n3 c3 np LF wl (putsTo pl wl rl np) rl (posAt pl wl rl) u HSN.out HSL.out (by rw [putsTo_length]) HN2.out HN3.out G60.out G2.out G3.out HM2.out HM3.out (Nat.le_refl _) rfl (fun i hi => by have := posAt_mono pl wl rl hi; omega) (back_full HXL.out wl rl (Nat.le_refl _) (by rw [hQF, hil]; omega) (fun j hj => by rw [hLF])) (fun h => absurd h (Nat.lt_irrefl _)) i1 i2 i3 i4
        rw [hQF, if_neg (Nat.lt_irrefl _)] at this
        exact this)
      clear hil hpm hok hQF hLF h60 hlt
      obtain ⟨k1, k2, k3⟩ := row_facts RW0.out
      go_wp2_with fail
      refine (start60 _ _ _ _).mono ?_
      rintro r w3 ⟨rfl, b3⟩
      have z3 := b3.size
      have RW3 := hide ((b3.block w1.heap.size k3).trans RW0.out)
      have I3 := hide (IsB.below (Own.isB OW0.out) b3)
      have N3 := hide (HNP.out.below b3)
      have T23 := hide (H2r.out.below b3)
      have T33 := hide (H3r.out.below b3)
      have W3 := hide (HBW.out.trans (b3.mono (by omega)))
      clear b3 k1 k2
      go_wp2_with fail
      refine (HFULL.out _ I3.out N3.out T23.out T33.out).mono ?_
      rintro r w4 ⟨rfl, b4⟩
      have z4 := b4.size
      have W4 := hide ((W3.out.trans (b4.mono (by omega))).alloc (by omega) (.cells #[.slice sa sn sc, .int .i64 (QF : Int), .int .i64 0] 67))
      have hgw4 : w1.heap.size < w4.heap.size := by omega
      have RW4 := hide ((heap_alloc_old w4 (.cells #[.slice sa sn sc, .int .i64 (QF : Int), .int .i64 0] 67) hgw4).trans ((b4.block w1.heap.size (by omega)).trans RW3.out))
      have D4 := hide (heap_alloc_new w4 (.cells #[.slice sa sn sc, .int .i64 (QF : Int), .int .i64 0] 67))
      have I4 := hide (I3.out.below (b4.alloc b4.size (.cells #[.slice sa sn sc, .int .i64 (QF : Int), .int .i64 0] 67)))
      have N4 := hide (N3.out.below (b4.alloc b4.size (.cells #[.slice sa sn sc, .int .i64 (QF : Int), .int .i64 0] 67)))
      have T24 := hide (T23.out.below (b4.alloc b4.size (.cells #[.slice sa sn sc, .int .i64 (QF : Int), .int .i64 0] 67)))
      have T34 := hide (T33.out.below (b4.alloc b4.size (.cells #[.slice sa sn sc, .int .i64 (QF : Int), .int .i64 0] 67)))
      clear b4
      obtain ⟨k1, k2, k4⟩ := row_facts RW4.out
      obtain ⟨m1, m2, m3⟩ := row_facts D4.out
      have hleft : leftN LF QF 0 = 8 * (sn : Int) - QF := by
        have h1 := HSN.out
        have h2 := HIL.out
        have h3 : rdyB LF QF 0 = true := by simp [rdyB]; omega
        rw [leftN, if_pos h3, ← h1]
      have hlt8 : 8 * (sn : Int) - QF < 8 := by
        have h1 := HSN.out
        have h2 := HIL.out
        omega
      have HLT := hide (left48 sa sn sc (QF : Int) 0 LF (w4.alloc (.cells #[.slice sa sn sc, .int .i64 (QF : Int), .int .i64 0] 67)) HSN.out HSL.out)
      rw [hleft] at HLT
      have hsn3 : (sn : Int) ≤ 1000000 := by have := HSL.out; omega
      clear hleft
      go_wp2_with fail
      refine HLT.out.mono ?_
      rintro r w5 ⟨rfl, b5⟩
      have z5 := b5.size
      simp only [World.size_alloc] at z5
      have W5 := hide (W4.out.trans (b5.mono (by simp only [World.size_alloc]; omega)))
      have RW5 := hide ((b5.block w1.heap.size (by simp only [World.size_alloc]; omega)).trans RW4.out)
      have D5 := hide ((b5.block w4.heap.size (by simp only [World.size_alloc]; omega)).trans D4.out)
      have I5 := hide (I4.out.below b5)
      have N5 := hide (N4.out.below b5)
      have T25 := hide (T24.out.below b5)
      have T35 := hide (T34.out.below b5)
      clear b5 k1 k2 k4 m1 m2 m3
      obtain ⟨k1, k2, k4⟩ := row_facts RW5.out
      by_cases hsn0 : sn = 0
      · subst hsn0
        go_wp2_with fail
        go_ret
        exact ⟨rfl, W5.out⟩
      · have hsn1 : ((sn : Int) == 0) = false := by simp; omega
        obtain ⟨hi, hhi⟩ : ∃ hi, sn = hi + 1 := ⟨sn - 1, by omega⟩
        have HHI : Hid ((sn : Int) - 1 = (hi : Int)) := hide (by omega)
        have HHL : Hid (hi ≤ LF.length) := hide (by have := HSN.out; omega)
        have i53 := (I5.out).slice (Nat.zero_le hi) HHL.out
        rw [List.drop_zero] at i53
        obtain ⟨sa3, sn3, sc3, hv3, hn3, -⟩ := i53.len'
        rw [hv3] at i53
        have HV3 := hide hv3
        have hlt3 : (LF.take hi).length = hi := by rw [List.length_take]; have := HHL.out; omega
        obtain ⟨kc, hkc, hq1, hq2⟩ := first_cut (posAt pl wl rl) (8 * hi) np (Nat.zero_le _) (by rw [← HQN.out]; have h1 := HSN.out; have h2 := HIL.out; omega)
        have HCUT : Hid (∀ u, IsB u (.slice sa3 sn3 sc3) (LF.take hi) → IsN u (.slice ap np cp) (putsTo pl wl rl np) → IsB u (.slice a2 n2 c2) wl → IsT u (.slice a3 n3 c3) rl → Calls Try.prog 59 #[.agg #[.slice sa3 sn3 sc3, .int .i64 0, .int .i64 0], .slice ap np cp, .slice a2 n2 c2, .slice a3 n3 c3] u fun r w' => r = .returned (.agg #[.slice sa3 sn3 sc3, .int .i64 (posAt pl wl rl kc : Nat), .int .i64 2]) ∧ Below u.heap.size u w') := hide (by
          intro u i1 i2 i3 i4
          have hbits : ∀ j, j < 8 * hi → bitAt (LF.take hi) j = bitAt (inkAt pl wl rl np) j := fun j hj => by rw [bitAt_take hj, HLF.out]
          have := read59 sa3 ap a2 a3 sn3 sc3 np cp n2 c2 n3 c3 kc (LF.take hi) wl (putsTo pl wl rl np) rl (posAt pl wl rl) u hn3 (by rw [hn3, hlt3]; have h1 := HSL.out; omega) (by rw [putsTo_length]) HN2.out HN3.out G60.out G2.out G3.out HM2.out HM3.out (by omega) rfl (fun i hi2 => by have h1 := posAt_mono pl wl rl hi2; have h2 := HQN.out; omega) (back_full HXL.out wl rl (show kc ≤ np by omega) (by rw [hlt3]; exact hq1) (fun j hj => hbits j (by omega))) (fun _ => back_cut HXL.out wl rl hkc (by rw [hlt3]; exact hq1) (by rw [hlt3]; exact hq2) (fun j hj => hbits j (by rw [hlt3] at hj; exact hj))) i1 i2 i3 i4
          rw [if_pos hkc] at this
          exact this)
        have I53 := hide i53
        clear hhi hv3 hn3 hlt3 hkc hq1 hq2 i53 hsn0
        go_wp2_with (((with_reducible show wpList _ _ _ (Oper.mk _ (.slice 24 _ none (some _) none) _ _ _ _ :: _) _ _); refine wpList_slice_hi I5.out hi HHL.out HHI.out (by rfl) rfl rfl ?_; rw [HV3.out]))
        refine (start60 _ _ _ _).mono ?_
        rintro r w6 ⟨rfl, b6⟩
        have z6 := b6.size
        have W6 := hide (W5.out.trans (b6.mono (by omega)))
        have D6 := hide ((b6.block w4.heap.size (by omega)).trans D5.out)
        have I6 := hide (I53.out.below b6)
        have N6 := hide (N5.out.below b6)
        have T26 := hide (T25.out.below b6)
        have T36 := hide (T35.out.below b6)
        clear b6 k1 k2 k4
        go_wp2_with fail
        refine (HCUT.out _ I6.out N6.out T26.out T36.out).mono ?_
        rintro r w7 ⟨rfl, b7⟩
        have z7 := b7.size
        have W7 := hide (W6.out.trans (b7.mono (by omega)))
        have D7 := hide ((b7.block w4.heap.size (by omega)).trans D6.out)
        clear b7
        go_wp2_with (refine wpList_storeW w4.heap.size _ rfl rfl 67 _ D7.out (by kernel_rfl) rfl rfl ?_)
        intro w8 hk8 hg8 hz8
        have W8 := hide (W7.out.grown hg8 (by omega) (fun i hi => by cases hi; omega))
        obtain ⟨k1, k2, k4⟩ := row_facts hk8
        clear hg8
        go_wp2_with fail
        go_ret
        exact ⟨rfl, W8.out⟩

end Go.Proofs.Ytellclclpmofcaa
