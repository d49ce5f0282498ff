/-
  The walk of crossbarlaw02.BitsRange, for every input; conditions: none.
-/
import Derived.Test.YtellclclpmofcaaBStr
import Derived.Test.YtellclclpmofcaaBOps2
import Derived.Test.YtellclclpmofcaaK
import Derived.Deep.DeepCutAuto
namespace Go.Proofs.Ytellclclpmofcaa
open Go.RowKit
set_option linter.unusedVariables false

set_option maxRecDepth 100000 in
set_option maxHeartbeats 4000000 in
theorem bitsRange_any (x : Nat) (w : World) (hx : x ≤ 255) :
    Calls Try.prog 14 #[.int .u8 (x : Int)] w fun r w' => r = .returned (.bool true) ∧ Below w.heap.size w w' := by
  obtain ⟨N, hN⟩ : ∃ N, N = x % 64 + 1 := ⟨_, rfl⟩
  have HN : Hid ((x : Int) % 64 + 1 = (N : Int)) := hide (by omega)
  have hN64 : N ≤ 64 := by omega
  have hN1 : 1 ≤ N := by omega
  clear hN
  go_enter Try.func14, Try.ntmps14
  go_wp2_with fail
  refine (awake02 _).mono ?_
  rintro r w1 ⟨rfl, b1⟩
  have HW1 := hide b1
  have z1 := b1.size
  clear b1
  go_wp2_with fail
  rw [HN.out]
  obtain ⟨WB, hWB⟩ : ∃ WB, WB = blen N := ⟨_, rfl⟩
  have hWB7 : WB ≤ 7 := by rw [hWB]; exact blen_le (k := 7) (by omega)
  have hWB1 : 1 ≤ WB := by rw [hWB]; exact (blen_spec hN1).2.2
  have HWB := hide hWB
  clear hWB
  go_loop [4] (fun i => ∃ k : Nat, i = .int .i64 (k : Int) ∧ k ≤ WB) (fun i => WB - (intOf i).toNat)
  case atStart => exact ⟨0, rfl, Nat.zero_le _⟩
  case round =>
    obtain ⟨k, rfl, hk⟩ := hrel
    obtain ⟨z, hz⟩ : ∃ z, N >>> k = z := ⟨_, rfl⟩
    have HZ := hide hz
    by_cases h0 : 0 < z
    · have hlt : k < WB := by rw [HWB.out]; exact blen_go (by rw [hz]; exact h0)
      have h0i : (0 : Int) < z := by omega
      have hk7 : (k : Int) ≤ 7 := by omega
      clear hz
      go_wp2_with (((with_reducible show wpList _ _ _ (Oper.mk _ (.binOp .shr 70 _ _ _) _ _ _ _ :: _) _ _); refine wpList_shrK (X := N) (s := k) (Z := z) rfl rfl rfl (by omega) HZ.out ?_))
      go_round
      case rel => exact ⟨k + 1, by go_num, by omega⟩
      case measure => simp [intOf]; omega
    · obtain rfl : z = 0 := by omega
      obtain rfl : WB = k := by have := blen_stop hN1 hz; have := HWB.out; omega
      clear hz hk h0
      go_wp2_with (((with_reducible show wpList _ _ _ (Oper.mk _ (.binOp .shr 70 _ _ _) _ _ _ _ :: _) _ _); refine wpList_shrK (X := N) (s := WB) (Z := 0) rfl rfl rfl (by omega) HZ.out ?_))
      go_loopw [5, 6] (fun p i wr => ∃ k : Nat, i = .int .u64 (k : Int) ∧ k ≤ N ∧ OwnS wr w1.heap.size p (codes N k) ∧ Below w1.heap.size w1 wr) (fun _ i _ => N - (intOf i).toNat)
      case atStart => exact ⟨0, rfl, Nat.zero_le _, OwnS.nil _ _, Below.refl _ _⟩
      case round =>
        obtain ⟨k, rfl, hk, how, hbw⟩ := hrel
        obtain ⟨pa, pn, pc, rfl, hpn, -⟩ := how.len'
        rw [codes_length] at hpn
        subst hpn
        have zr := hbw.size
        have HBW := hide hbw
        have HOW := hide how
        clear hbw how
        by_cases hlt : pn < N
        · have hlti : (pn : Int) < N := by omega
          have hk64 : (pn : Int) ≤ 64 := by omega
          obtain ⟨W, hW⟩ : ∃ W, codeW pn N = W := ⟨_, rfl⟩
          obtain ⟨L, hL⟩ : ∃ L, rngInk pn N = L := ⟨_, rfl⟩
          have hW7 : W ≤ 7 := by rw [← hW]; exact codeW_le hN64
          have hLl : L.length = (W + 7) / 8 := by rw [← hL, ← hW]; exact rngInk_length pn N
          have hWc : W = WB ∨ W + 1 = WB := by
            have := HWB.out
            rcases codeW_cases pn N with h | h
            · left; omega
            · right; omega
          have HADD : Hid (Calls Try.prog 57 #[.agg #[.slice none 0 0, .int .i64 0], .int .u64 (pn : Int), .int .u64 (N : Int)] wr (RetAddO wr L (W : Int))) := hide (by
            have := rad57o none 0 0 pn N 0 [] wr rfl (by decide) (by decide) hN1 (by omega) hlt (IsB.nil wr)
            rw [Nat.zero_add] at this
            rw [← hL, ← hW]
            exact this)
          have HRG : Hid (∀ (sb : Option Addr) (tn tc : Nat) (u : World), tn = (L ++ [255]).length → IsB u (.slice sb tn tc) (L ++ [255]) → Calls Try.prog 50 #[.agg #[.slice sb tn tc, .int .i64 0, .int .i64 0], .int .u64 (N : Int)] u fun r w' => r = .returned (.tuple #[.agg #[.slice sb tn tc, .int .i64 (W : Int), .int .i64 0], .int .u64 (pn : Int)]) ∧ Below u.heap.size u w') := hide (by
            intro sb tn tc u htn hu
            have := rng50 sb tn tc 0 0 N (L ++ [255]) u htn (by rw [htn, List.length_append, hLl]; simp; omega) (by decide) (by omega) hu
            unfold RetRng at this
            obtain ⟨e1, e2, e3⟩ := rng_back hlt hN64 [255]
            rw [hL] at e1 e2 e3
            rw [e1, e2, e3, hW] at this
            exact this)
          have HW := hide hW
          have HL := hide hL
          have HLL := hide hLl
          have HL1 : Hid (L.length ≤ 1) := hide (by omega)
          have HLT := hide hlt
          clear hW hL hLl hlt
          go_wp2_with fail
          refine HADD.out.mono ?_
          rintro r w2 ⟨s2, rfl, o2, b2⟩
          obtain ⟨sa, sn, sc, rfl, hsn, -⟩ := (Own.isB o2).len'
          have z2 := b2.size
          have RK3 := hide (heap_alloc_new w2 (.cells #[.slice sa sn sc, .int .i64 (W : Int)] 69))
          have BW3 := hide ((HBW.out.trans (b2.mono zr)).alloc (by omega) (.cells #[.slice sa sn sc, .int .i64 (W : Int)] 69))
          have SW3 := hide (HOW.out.below (b2.alloc b2.size (.cells #[.slice sa sn sc, .int .i64 (W : Int)] 69)))
          have IL3 := hide ((Own.isB o2).below ((Below.refl _ _).alloc (Nat.le_refl _) (.cells #[.slice sa sn sc, .int .i64 (W : Int)] 69)))
          have zu3 : (w2.alloc (.cells #[.slice sa sn sc, .int .i64 (W : Int)] 69)).heap.size = w2.heap.size + 1 := by simp
          have HSN := hide hsn
          clear o2 b2 hsn
          go_upto_region 12 with fail
          obtain ⟨g, hg⟩ : ∃ g, g = w2.heap.size := ⟨_, rfl⟩
          rw [← hg] at RK3 zu3 z2
          rw [← hg]
          clear hg
          generalize w2.alloc (.cells #[.slice sa sn sc, .int .i64 (W : Int)] 69) = u3 at RK3 BW3 SW3 IL3 zu3 ⊢
          have ZU3 := hide zu3
          clear zu3
          obtain ⟨k1, k2, k3⟩ := row_facts RK3.out
          have HLA : Hid (([] : List UInt8).length + L.length ≤ 140737488355328) := hide (by have := HL1.out; simp; omega)
          have HLB : Hid (L.length + ([255] : List UInt8).length ≤ 140737488355328) := hide (by have := HL1.out; simp; omega)
          go_wp2_with (at_builtin; refine wpList_append_B (base := u3.heap.size) (Own.empty (Nat.le_refl _) _ rfl) (IL3.out.below ((Below.refl _ _).alloc (Nat.le_refl _) _)) HLA.out (by simp) rfl rfl ?_)
          intro s4 w4 o4 b4
          rw [List.nil_append] at o4
          have B4 := hide (((Below.refl u3.heap.size u3).alloc (Nat.le_refl _) (.cells #[] 5)).trans b4)
          have z4 := B4.out.size
          have OW4 := hide o4
          clear o4 b4 k1 k2
          go_wp2_with (at_builtin; refine wpList_append_B (OW4.out.below ((Below.refl _ _).alloc (Nat.le_refl _) _)) (Own.isB (Own.lit (base := 0) [255] _ 1 _ rfl rfl rfl (Nat.zero_le _) (by decide))) HLB.out (by simp; omega) rfl rfl ?_)
          intro s5 w5 o5 b5
          have B5 := hide ((B4.out.alloc z4 (.cells #[.int .u8 255] 5)).trans b5)
          have z5 := B5.out.size
          obtain ⟨sb, tn, tc, rfl, htn, -⟩ := (Own.isB o5).len'
          have IB5 := hide (Own.isB o5)
          have HTN := hide htn
          clear o5 b5 htn
          go_wp2_with fail
          refine (start60 _ _ _ _).mono ?_
          rintro r w6 ⟨rfl, b6⟩
          have z6 := b6.size
          have B6 := hide (B5.out.trans (b6.mono z5))
          have IB6 := hide (IB5.out.below b6)
          clear b6
          go_wp2_with fail
          refine (HRG.out _ _ _ _ HTN.out IB6.out).mono ?_
          rintro r w7 ⟨rfl, b7⟩
          have z7 := b7.size
          have B8 := hide ((B6.out.trans (b7.mono (by omega))).alloc (by omega) (.cells #[.slice sb tn tc, .int .i64 (W : Int), .int .i64 0] 67))
          have RC8 := hide (heap_alloc_new w7 (.cells #[.slice sb tn tc, .int .i64 (W : Int), .int .i64 0] 67))
          have zu8 : (w7.alloc (.cells #[.slice sb tn tc, .int .i64 (W : Int), .int .i64 0] 67)).heap.size = w7.heap.size + 1 := by simp
          clear b7
          go_upto_region 13 with fail
          obtain ⟨gc, hgc⟩ : ∃ gc, gc = w7.heap.size := ⟨_, rfl⟩
          rw [← hgc] at RC8 zu8 z7
          rw [← hgc]
          clear hgc
          generalize w7.alloc (.cells #[.slice sb tn tc, .int .i64 (W : Int), .int .i64 0] 67) = u8 at B8 RC8 zu8 ⊢
          have ZU8 := hide zu8
          clear zu8
          have RK8 := hide ((B8.out.block g (by have := ZU3.out; omega)).trans RK3.out)
          have z8 := B8.out.size
          obtain ⟨k1, k2, -⟩ := row_facts RK8.out
          obtain ⟨m1, m2, m3⟩ := row_facts RC8.out
          rcases hWc with hc | hc
          · have hq1 : ((W : Int) != (WB : Int)) = false := by simp; omega
            go_wp2_with fail
            refine (start60 _ _ _ _).mono ?_
            rintro r w9 ⟨rfl, b9⟩
            have z9 := b9.size
            have B10 := hide ((B8.out.trans (b9.mono z8)).alloc (by omega) (.cells #[.slice sa sn sc, .int .i64 0, .int .i64 0] 67))
            have RD10 := hide (heap_alloc_new w9 (.cells #[.slice sa sn sc, .int .i64 0, .int .i64 0] 67))
            have zu10 : (w9.alloc (.cells #[.slice sa sn sc, .int .i64 0, .int .i64 0] 67)).heap.size = w9.heap.size + 1 := by simp
            clear b9 k1 k2 m1 m2 m3 hc hq1
            go_upto_region 17 with fail
            obtain ⟨gd, hgd⟩ : ∃ gd, gd = w9.heap.size := ⟨_, rfl⟩
            rw [← hgd] at RD10 zu10 z9
            rw [← hgd]
            clear hgd
            generalize w9.alloc (.cells #[.slice sa sn sc, .int .i64 0, .int .i64 0] 67) = uA at B10 RD10 zu10 ⊢
            have ZU10 := hide zu10
            clear zu10
            have hgu3 : u3.heap.size ≤ gd := by omega
            have hggd : g < gd := by omega
            have hgd1 : w1.heap.size ≤ gd := by have := BW3.out.size; omega
            have RKA := hide ((B10.out.block g (by have := ZU3.out; omega)).trans RK3.out)
            have ILA := hide (IL3.out.below B10.out)
            have SWA := hide (SW3.out.below B10.out)
            have BWA := hide (BW3.out.trans (B10.out.mono BW3.out.size))
            obtain ⟨k1, k2, k4⟩ := row_facts RKA.out
            go_wp2_with fail
            clear k1 k2 k4
            go_loopw [11, 13] (fun s i wc => ∃ j : Nat, i = .int .i64 (j : Int) ∧ j ≤ W ∧ s = sval ((signs pn N).take j) ∧ wc.heap[gd]? = some (.cells #[.slice sa sn sc, .int .i64 (j : Int), .int .i64 0] 67 (0, 0)) ∧ wc.heap[g]? = some (.cells #[.slice sa sn sc, .int .i64 (W : Int)] 69 (0, 0)) ∧ IsB wc (.slice sa sn sc) L ∧ OwnS wc w1.heap.size (.slice pa pn pc) (codes N pn) ∧ Below w1.heap.size w1 wc) (fun _ i _ => W - (intOf i).toNat)
            case atStart => exact ⟨0, rfl, Nat.zero_le _, by rw [List.take_zero]; rfl, RD10.out, RKA.out, ILA.out, SWA.out, BWA.out⟩
            case round =>
              obtain ⟨wc, rfl⟩ : ∃ wc, wc = wr := ⟨wr, rfl⟩
              obtain ⟨j, rfl, hj, rfl, hrd, hrk, hil, hsw, hbw⟩ := hrel
              have zc := hbw.size
              have RDC := hide hrd
              have RKC := hide hrk
              have ILC := hide hil
              have SWC := hide hsw
              have BWC := hide hbw
              obtain ⟨k1, k2, k4⟩ := row_facts hrk
              obtain ⟨d1, d2, d4⟩ := row_facts hrd
              clear hrd hrk hil hsw hbw
              by_cases hjW : j < W
              · have hjWi : (j : Int) < W := by omega
                have hj7 : (j : Int) ≤ 7 := by omega
                obtain ⟨bt, hbt⟩ : ∃ b, bitAt L j = b := ⟨_, rfl⟩
                obtain ⟨zb, hzb⟩ : ∃ z, z = bt.toNat := ⟨_, rfl⟩
                have hzb1 : zb ≤ 1 := by rw [hzb]; exact Bool.toNat_le _
                have HGT : Hid (∀ u, IsB u (.slice sa sn sc) L → Calls Try.prog 46 #[.agg #[.slice sa sn sc, .int .i64 (j : Int), .int .i64 0], .int .i64 1] u fun r w' => r = .returned (.tuple #[.agg #[.slice sa sn sc, .int .i64 ((j : Int) + 1), .int .i64 0], .int .u64 (zb : Int)]) ∧ Below u.heap.size u w') := hide (by
                  intro u hu
                  have := get46 sa sn sc (j : Int) 0 1 L u HSN.out (by have := HSN.out; have := HL1.out; omega) hu
                  unfold RetGet at this
                  obtain ⟨e1, e2, e3⟩ := bit_get (v := pn) (N := N) (i := j) (by rw [HW.out]; exact hjW)
                  rw [HL.out] at e1 e2 e3
                  rw [e1, e2, e3, hbt, ← hzb, Int.natCast_add] at this
                  exact this)
                have HTK : Hid ((signs pn N).take j ++ [sign bt] = (signs pn N).take (j + 1)) := hide (by
                  rw [signs_take (by rw [HW.out]; exact hjW), HL.out, hbt])
                have HSG : Hid ((48 : Int) + (zb : Int) = ((sign bt).toNat : Int)) := hide (by rw [hzb]; cases bt <;> rfl)
                have HLN : Hid (((signs pn N).take j).length ≤ 1000) := hide (by rw [List.length_take]; omega)
                clear hbt hzb
                go_wp2_with fail
                refine (HGT.out _ ILC.out).mono ?_
                rintro r w10 ⟨rfl, b10⟩
                have z10 := b10.size
                have BWX := hide ((BWC.out.trans (b10.mono zc)).alloc (by omega) (.cells #[.slice sa sn sc, .int .i64 ((j : Int) + 1), .int .i64 0] 67))
                have BX := hide (b10.alloc b10.size (.cells #[.slice sa sn sc, .int .i64 ((j : Int) + 1), .int .i64 0] 67))
                have RXX := hide (heap_alloc_new w10 (.cells #[.slice sa sn sc, .int .i64 ((j : Int) + 1), .int .i64 0] 67))
                have zuX : (w10.alloc (.cells #[.slice sa sn sc, .int .i64 ((j : Int) + 1), .int .i64 0] 67)).heap.size = w10.heap.size + 1 := by simp
                clear b10 k1 k2 d1 d2
                go_upto_region 21 with fail
                obtain ⟨gx, hgx⟩ : ∃ gx, gx = w10.heap.size := ⟨_, rfl⟩
                rw [← hgx] at RXX zuX z10
                rw [← hgx]
                clear hgx
                generalize w10.alloc (.cells #[.slice sa sn sc, .int .i64 ((j : Int) + 1), .int .i64 0] 67) = uX at BWX BX RXX zuX ⊢
                have ZUX := hide zuX
                have RDX := hide ((BX.out.block gd d4).trans RDC.out)
                have RKX := hide ((BX.out.block g k4).trans RKC.out)
                have ILX := hide (ILC.out.below BX.out)
                have SWX := hide (SWC.out.below BX.out)
                have hgdX : gd < uX.heap.size := by omega
                have hgX : g < uX.heap.size := by omega
                have hgne : some g ≠ some gd := by intro e; have := Option.some.inj e; omega
                clear zuX
                obtain ⟨k1, k2, k3'⟩ := row_facts RXX.out
                go_wp2_with (refine wpList_storeW gd _ rfl rfl 67 _ RDX.out (by kernel_rfl) rfl rfl ?_)
                intro w11 k11 g11 z11
                have RD11 := hide k11
                have RK11 := hide ((g11.block g hgX hgne).trans RKX.out)
                have IL11 := hide (ILX.out.row RDX.out (no_u8'' _ _ _ _ _) g11)
                have SW11 : Hid (OwnS w11 w1.heap.size (.slice pa pn pc) (codes N pn)) := hide (World.ownsRow.kept SWX.out g11 (apart_row (by decide) SWX.out RDX.out))
                have BW11 := hide (BWX.out.grown g11 (by omega) (fun i hi => by cases hi; exact hgd1))
                have Z11 := hide z11
                clear k11 g11 k1 k2 k3' z11
                go_wp2_with (first | (refine wpList_conv (by rfl) rfl (Own.isB (Own.lit (base := 0) [sign bt] _ 1 _ (by rw [List.map_cons, List.map_nil, bval, ← HSG.out]) rfl rfl (Nat.zero_le _) (by decide))) ?_) | ((with_reducible show wpList _ _ _ (Oper.mk _ (.binOp .add 9 _ _ _) _ _ _ _ :: _) _ _); go_loud (refine wpList_addS (l := (signs pn N).take j) (m := [sign bt]) (z := (signs pn N).take (j + 1)) rfl rfl rfl HLN.out (by simp) HTK.out ?_)))
                go_roundw
                case rel =>
                  have hgd11 : gd < w11.heap.size := by rw [Z11.out]; exact hgdX
                  have hg11 : g < w11.heap.size := by rw [Z11.out]; exact hgX
                  have hb11 : w1.heap.size ≤ w11.heap.size := by omega
                  exact ⟨j + 1, by go_num, by omega, rfl, (heap_alloc_old w11 (.cells #[.int .u8 (48 + (zb : Int))] 5) hgd11).trans RD11.out, (heap_alloc_old w11 (.cells #[.int .u8 (48 + (zb : Int))] 5) hg11).trans RK11.out, IL11.out.below ((Below.refl _ _).alloc (Nat.le_refl _) (.cells #[.int .u8 (48 + (zb : Int))] 5)), SW11.out.below ((Below.refl _ _).alloc (Nat.le_refl _) (.cells #[.int .u8 (48 + (zb : Int))] 5)), BW11.out.alloc hb11 (.cells #[.int .u8 (48 + (zb : Int))] 5)⟩
                case measure => simp [intOf]; omega
              · obtain rfl : W = j := by omega
                have HTW : Hid ((signs pn N).take W = signs pn N) := hide (List.take_of_length_le (by rw [signs_length, HW.out]; exact Nat.le_refl _))
                obtain ⟨T2, hT2⟩ : ∃ T, strV (signs pn N) = T := ⟨_, rfl⟩
                have HT2 : Hid (sval (signs pn N) = .string T2) := hide (by unfold sval; rw [hT2])
                rw [HTW.out, HT2.out]
                clear hjW hj
                go_wp2_with fail
                clear k1 k2 d1 d2 d4 k4
                go_loopw [16] (fun i wd => ∃ j : Nat, i = .int .i64 (j : Int) ∧ j ≤ pn ∧ Below wc.heap.size wc wd) (fun i _ => pn - (intOf i).toNat)
                case atStart => exact ⟨0, rfl, Nat.zero_le _, Below.refl _ _⟩
                case round =>
                  obtain ⟨wd, rfl⟩ : ∃ wd, wd = wr := ⟨wr, rfl⟩
                  obtain ⟨j, rfl, hj, hbd⟩ := hrel
                  have zd := hbd.size
                  have BD := hide hbd
                  clear hbd
                  by_cases hjp : j < pn
                  · have hjpi : (j : Int) < pn := by omega
                    obtain ⟨T1, hT1⟩ : ∃ T, strV (signs j N) = T := ⟨_, rfl⟩
                    obtain ⟨tst1, tst2⟩ := codes_test hjp HLT.out hN64
                    obtain ⟨bb, rfl, hbb, hcc⟩ := SWC.out.cellAt (codes_get (N := N) hjp)
                    rw [sval, hT1, Nat.zero_add] at hcc
                    rw [hT1, hT2] at tst1 tst2
                    have hccd := ((bcell BD.out).1 _ _ hbb).trans hcc
                    have hbbd : bb < wd.heap.size := by omega
                    have tst1i : (T1.size : Int) ≤ T2.size := by omega
                    have tst3 : ¬ (T2.size : Int) < T1.size := by omega
                    have HT1 := hide tst2
                    clear hcc hT1 tst2
                    go_upto_region 26 with fail
                    refine wp_region_mono 43 162 (.val _ :: .val _ :: .val _ :: .val _ :: .val _ :: .val _ :: .val _ :: .val _ :: .val _ :: .val _ :: .val _ :: .val _ :: .val _ :: .val _ :: .val _ :: .val _ :: .val _ :: .val _ :: .val _ :: .val _ :: .val _ :: .val _ :: .val _ :: .val _ :: .val _ :: .val _ :: .val _ :: .val _ :: .val _ :: .val _ :: .val _ :: .val _ :: .val _ :: .val _ :: .val _ :: .val _ :: .val _ :: .val _ :: .val _ :: .val _ :: .val _ :: .val _ :: .val _ :: []) (by kernel_rfl) (by kernel_rfl) rfl trivial rfl ⟨
                      fun a u hB hO hJ => .inl ⟨rfl, fun K Q hK => by
                        have e5 : a.tmps[5]?.getD undef = .slice (some ⟨bb, 0, none⟩) pn pc := hO 5 rfl
                        clear hO hJ
                        exact wp_move_of e5 fun h => hK _ _ (Below.refl _ _) h⟩,
                      fun a u hB hO hJ => .inl ⟨rfl, fun K Q hK => by
                        have e16 : a.tmps[16]?.getD undef = .int .i64 (j : Int) := hO 16 rfl
                        clear hO hJ
                        exact wp_move_of e16 fun h => hK _ _ (Below.refl _ _) h⟩,
                      fun a u hB hO hJ => .inl ⟨rfl, fun K Q hK => by
                        have e113 : a.tmps[113]?.getD undef = _ := hJ 0 rfl
                        have e114 : a.tmps[114]?.getD undef = _ := hJ 1 rfl
                        clear hO hJ
                        go_simp
                        try go_bits
                        exact hK _ _ (Below.refl _ _) rfl⟩,
                      fun a u hB hO hJ => .inl ⟨rfl, fun K Q hK => by
                        have e115 : a.tmps[115]?.getD undef = _ := hJ 2 rfl
                        clear hO hJ
                        have hcu := ((bcell hB).1 _ _ hbbd).trans hccd
                        go_simp
                        exact hK _ _ (Below.refl _ _) rfl⟩,
                      fun a u hB hO hJ => .inl ⟨rfl, fun K Q hK => by
                        have e116 : a.tmps[116]?.getD undef = _ := hJ 3 rfl
                        clear hO hJ
                        go_simp
                        try go_bits
                        exact hK _ _ (Below.refl _ _) rfl⟩,
                      fun a u hB hO hJ => .inl ⟨rfl, fun K Q hK => by
                        have e11 : a.tmps[11]?.getD undef = .string T2 := hO 11 rfl
                        clear hO hJ
                        exact wp_move_of e11 fun h => hK _ _ (Below.refl _ _) h⟩,
                      fun a u hB hO hJ => .inl ⟨rfl, fun K Q hK => by
                        have e118 : a.tmps[118]?.getD undef = _ := hJ 5 rfl
                        clear hO hJ
                        go_simp
                        try go_bits
                        exact hK _ _ (Below.refl _ _) rfl⟩,
                      fun a u hB hO hJ => .inl ⟨rfl, fun K Q hK => by
                        have e117 : a.tmps[117]?.getD undef = _ := hJ 4 rfl
                        have e119 : a.tmps[119]?.getD undef = _ := hJ 6 rfl
                        clear hO hJ
                        go_simp
                        try go_bits
                        exact hK _ _ (Below.refl _ _) rfl⟩,
                      fun a u hB hO hJ => .inl ⟨rfl, fun K Q hK => by
                        have e120 : a.tmps[120]?.getD undef = _ := hJ 7 rfl
                        clear hO hJ
                        exact wp_move_of e120 fun h => hK _ _ (Below.refl _ _) h⟩,
                      fun a u hB hO hJ => .inl ⟨(wanted_of rfl (hJ 8 rfl)), fun K Q hK => by
                        have e5 : a.tmps[5]?.getD undef = .slice (some ⟨bb, 0, none⟩) pn pc := hO 5 rfl
                        clear hO hJ
                        exact wp_move_of e5 fun h => hK _ _ (Below.refl _ _) h⟩,
                      fun a u hB hO hJ => .inl ⟨(wanted_of rfl (hJ 8 rfl)), fun K Q hK => by
                        have e16 : a.tmps[16]?.getD undef = .int .i64 (j : Int) := hO 16 rfl
                        clear hO hJ
                        exact wp_move_of e16 fun h => hK _ _ (Below.refl _ _) h⟩,
                      fun a u hB hO hJ => .inl ⟨(wanted_of rfl (hJ 8 rfl)), fun K Q hK => by
                        have e122 : a.tmps[122]?.getD undef = _ := hJ 9 rfl
                        have e123 : a.tmps[123]?.getD undef = _ := hJ 10 rfl
                        clear hO hJ
                        go_simp
                        try go_bits
                        exact hK _ _ (Below.refl _ _) rfl⟩,
                      fun a u hB hO hJ => .inl ⟨(wanted_of rfl (hJ 8 rfl)), fun K Q hK => by
                        have e124 : a.tmps[124]?.getD undef = _ := hJ 11 rfl
                        clear hO hJ
                        have hcu := ((bcell hB).1 _ _ hbbd).trans hccd
                        go_simp
                        exact hK _ _ (Below.refl _ _) rfl⟩,
                      fun a u hB hO hJ => .inl ⟨(wanted_of rfl (hJ 8 rfl)), fun K Q hK => by
                        have e11 : a.tmps[11]?.getD undef = .string T2 := hO 11 rfl
                        clear hO hJ
                        exact wp_move_of e11 fun h => hK _ _ (Below.refl _ _) h⟩,
                      fun a u hB hO hJ => .inl ⟨(wanted_of rfl (hJ 8 rfl)), fun K Q hK => by
                        have e5 : a.tmps[5]?.getD undef = .slice (some ⟨bb, 0, none⟩) pn pc := hO 5 rfl
                        clear hO hJ
                        exact wp_move_of e5 fun h => hK _ _ (Below.refl _ _) h⟩,
                      fun a u hB hO hJ => .inl ⟨(wanted_of rfl (hJ 8 rfl)), fun K Q hK => by
                        have e16 : a.tmps[16]?.getD undef = .int .i64 (j : Int) := hO 16 rfl
                        clear hO hJ
                        exact wp_move_of e16 fun h => hK _ _ (Below.refl _ _) h⟩,
                      fun a u hB hO hJ => .inl ⟨(wanted_of rfl (hJ 8 rfl)), fun K Q hK => by
                        have e127 : a.tmps[127]?.getD undef = _ := hJ 14 rfl
                        have e128 : a.tmps[128]?.getD undef = _ := hJ 15 rfl
                        clear hO hJ
                        go_simp
                        try go_bits
                        exact hK _ _ (Below.refl _ _) rfl⟩,
                      fun a u hB hO hJ => .inl ⟨(wanted_of rfl (hJ 8 rfl)), fun K Q hK => by
                        have e129 : a.tmps[129]?.getD undef = _ := hJ 16 rfl
                        clear hO hJ
                        have hcu := ((bcell hB).1 _ _ hbbd).trans hccd
                        go_simp
                        exact hK _ _ (Below.refl _ _) rfl⟩,
                      fun a u hB hO hJ => .inl ⟨(wanted_of rfl (hJ 8 rfl)), fun K Q hK => by
                        have e130 : a.tmps[130]?.getD undef = _ := hJ 17 rfl
                        clear hO hJ
                        go_simp
                        try go_bits
                        exact hK _ _ (Below.refl _ _) rfl⟩,
                      fun a u hB hO hJ => .inl ⟨(wanted_of rfl (hJ 8 rfl)), fun K Q hK => by
                        have e126 : a.tmps[126]?.getD undef = _ := hJ 13 rfl
                        have e131 : a.tmps[131]?.getD undef = _ := hJ 18 rfl
                        clear hO hJ
                        go_simp
                        try go_bits
                        exact hK _ _ (Below.refl _ _) rfl⟩,
                      fun a u hB hO hJ => .inl ⟨(wanted_of rfl (hJ 8 rfl)), fun K Q hK => by
                        have e125 : a.tmps[125]?.getD undef = _ := hJ 12 rfl
                        have e132 : a.tmps[132]?.getD undef = _ := hJ 19 rfl
                        clear hO hJ
                        have hh := HT1.out
                        go_simp
                        exact hK _ _ (Below.refl _ _) rfl⟩,
                      fun a u hB hO hJ => .inl ⟨rfl, fun K Q hK => by
                        have e121 : a.tmps[121]?.getD undef = _ := hJ 8 rfl
                        have e133 : a.tmps[133]?.getD undef = _ := hJ 20 rfl
                        clear hO hJ
                        go_simp
                        try go_bits
                        exact hK _ _ (Below.refl _ _) rfl⟩,
                      fun a u hB hO hJ => .inl ⟨rfl, fun K Q hK => by
                        have e134 : a.tmps[134]?.getD undef = _ := hJ 21 rfl
                        clear hO hJ
                        exact wp_move_of e134 fun h => hK _ _ (Below.refl _ _) h⟩,
                      fun a u hB hO hJ => .inl ⟨(wanted_of rfl (hJ 22 rfl)), fun K Q hK => by
                        have e11 : a.tmps[11]?.getD undef = .string T2 := hO 11 rfl
                        clear hO hJ
                        exact wp_move_of e11 fun h => hK _ _ (Below.refl _ _) h⟩,
                      fun a u hB hO hJ => .inl ⟨(wanted_of rfl (hJ 22 rfl)), fun K Q hK => by
                        have e136 : a.tmps[136]?.getD undef = _ := hJ 23 rfl
                        clear hO hJ
                        go_simp
                        try go_bits
                        exact hK _ _ (Below.refl _ _) rfl⟩,
                      fun a u hB hO hJ => .inl ⟨(wanted_of rfl (hJ 22 rfl)), fun K Q hK => by
                        have e5 : a.tmps[5]?.getD undef = .slice (some ⟨bb, 0, none⟩) pn pc := hO 5 rfl
                        clear hO hJ
                        exact wp_move_of e5 fun h => hK _ _ (Below.refl _ _) h⟩,
                      fun a u hB hO hJ => .inl ⟨(wanted_of rfl (hJ 22 rfl)), fun K Q hK => by
                        have e16 : a.tmps[16]?.getD undef = .int .i64 (j : Int) := hO 16 rfl
                        clear hO hJ
                        exact wp_move_of e16 fun h => hK _ _ (Below.refl _ _) h⟩,
                      fun a u hB hO hJ => .inl ⟨(wanted_of rfl (hJ 22 rfl)), fun K Q hK => by
                        have e138 : a.tmps[138]?.getD undef = _ := hJ 25 rfl
                        have e139 : a.tmps[139]?.getD undef = _ := hJ 26 rfl
                        clear hO hJ
                        go_simp
                        try go_bits
                        exact hK _ _ (Below.refl _ _) rfl⟩,
                      fun a u hB hO hJ => .inl ⟨(wanted_of rfl (hJ 22 rfl)), fun K Q hK => by
                        have e140 : a.tmps[140]?.getD undef = _ := hJ 27 rfl
                        clear hO hJ
                        have hcu := ((bcell hB).1 _ _ hbbd).trans hccd
                        go_simp
                        exact hK _ _ (Below.refl _ _) rfl⟩,
                      fun a u hB hO hJ => .inl ⟨(wanted_of rfl (hJ 22 rfl)), fun K Q hK => by
                        have e141 : a.tmps[141]?.getD undef = _ := hJ 28 rfl
                        clear hO hJ
                        go_simp
                        try go_bits
                        exact hK _ _ (Below.refl _ _) rfl⟩,
                      fun a u hB hO hJ => .inl ⟨(wanted_of rfl (hJ 22 rfl)), fun K Q hK => by
                        have e137 : a.tmps[137]?.getD undef = _ := hJ 24 rfl
                        have e142 : a.tmps[142]?.getD undef = _ := hJ 29 rfl
                        clear hO hJ
                        go_simp
                        try go_bits
                        exact hK _ _ (Below.refl _ _) rfl⟩,
                      fun a u hB hO hJ => .inl ⟨(wanted_of rfl (hJ 22 rfl)), fun K Q hK => by
                        have e143 : a.tmps[143]?.getD undef = _ := hJ 30 rfl
                        clear hO hJ
                        exact wp_move_of e143 fun h => hK _ _ (Below.refl _ _) h⟩,
                      fun a u hB hO hJ => .inr ⟨(wanted_not rfl (hJ 31 rfl) (by decide)), rfl⟩,
                      fun a u hB hO hJ => .inr ⟨(wanted_not rfl (hJ 31 rfl) (by decide)), rfl⟩,
                      fun a u hB hO hJ => .inr ⟨(wanted_not rfl (hJ 31 rfl) (by decide)), rfl⟩,
                      fun a u hB hO hJ => .inr ⟨(wanted_not rfl (hJ 31 rfl) (by decide)), rfl⟩,
                      fun a u hB hO hJ => .inr ⟨(wanted_not rfl (hJ 31 rfl) (by decide)), rfl⟩,
                      fun a u hB hO hJ => .inr ⟨(wanted_not rfl (hJ 31 rfl) (by decide)), rfl⟩,
                      fun a u hB hO hJ => .inr ⟨(wanted_not rfl (hJ 31 rfl) (by decide)), rfl⟩,
                      fun a u hB hO hJ => .inr ⟨(wanted_not rfl (hJ 31 rfl) (by decide)), rfl⟩,
                      fun a u hB hO hJ => .inr ⟨(wanted_not rfl (hJ 31 rfl) (by decide)), rfl⟩,
                      fun a u hB hO hJ => .inl ⟨(wanted_of rfl (hJ 22 rfl)), fun K Q hK => by
                        have e144 : a.tmps[144]?.getD undef = _ := hJ 31 rfl
                        have e153 : a.tmps[153]?.getD undef = _ := hJ 40 rfl
                        clear hO hJ
                        go_simp
                        try go_bits
                        exact hK _ _ (Below.refl _ _) rfl⟩,
                      fun a u hB hO hJ => .inl ⟨rfl, fun K Q hK => by
                        have e135 : a.tmps[135]?.getD undef = _ := hJ 22 rfl
                        have e154 : a.tmps[154]?.getD undef = _ := hJ 41 rfl
                        clear hO hJ
                        go_simp
                        try go_bits
                        exact hK _ _ (Below.refl _ _) rfl⟩,
                      trivial⟩ ?fin26
                    case fin26 =>
                      intro u hB
                      simp only [Act.put, List.setIfInBounds_toArray, List.set_cons_zero, List.set_cons_succ, List.drop_succ_cons, List.drop_nil, List.take_succ_cons, List.take_nil, Laid]
                      have HBU := hide (BD.out.trans (hB.mono zd))
                      clear hB
                      go_wp2_with fail
                      go_roundw
                      case rel => exact ⟨j + 1, by go_num, by omega, HBU.out⟩
                      case measure => simp [intOf]; omega
                  · obtain rfl : pn = j := by omega
                    clear hjp hj
                    have SWD := hide (SWC.out.below BD.out)
                    have BWD := hide (BWC.out.trans (BD.out.mono zc))
                    have zd1 : w1.heap.size ≤ wd.heap.size := by omega
                    have HPC : Hid ((codes N pn).length ≤ 1000000) := hide (by rw [codes_length]; omega)
                    go_wp2_with (at_builtin; refine wpList_append_S (y := signs pn N) (SWD.out.below ((Below.refl _ _).alloc (Nat.le_refl _) _)) (by rw [HT2.out]; exact heap_alloc_new wd _) HPC.out (by simp; omega) rfl rfl ?_)
                    intro p7 w7 o7 g7
                    have BW7 := hide ((BWD.out.alloc zd1 (.cells #[.string T2] 9)).grown g7 (by simp; omega) (fun i hi => (World.ownsRow.lt SWD.out i hi).1))
                    rw [← codes_succ] at o7
                    have OW7 := hide o7
                    clear o7 g7
                    go_wp2_with fail
                    go_roundw
                    case rel => exact ⟨pn + 1, by go_num, HLT.out, OW7.out, BW7.out⟩
                    case measure => simp [intOf]; omega
          · have hq1 : ((W : Int) != (WB : Int)) = true := by simp; omega
            have hq2 : ((W : Int) != (WB : Int) - 1) = false := by simp; omega
            go_wp2_with fail
            refine (start60 _ _ _ _).mono ?_
            rintro r w9 ⟨rfl, b9⟩
            have z9 := b9.size
            have B10 := hide ((B8.out.trans (b9.mono z8)).alloc (by omega) (.cells #[.slice sa sn sc, .int .i64 0, .int .i64 0] 67))
            have RD10 := hide (heap_alloc_new w9 (.cells #[.slice sa sn sc, .int .i64 0, .int .i64 0] 67))
            have zu10 : (w9.alloc (.cells #[.slice sa sn sc, .int .i64 0, .int .i64 0] 67)).heap.size = w9.heap.size + 1 := by simp
            clear b9 k1 k2 m1 m2 m3 hc hq1 hq2
            go_upto_region 17 with fail
            obtain ⟨gd, hgd⟩ : ∃ gd, gd = w9.heap.size := ⟨_, rfl⟩
            rw [← hgd] at RD10 zu10 z9
            rw [← hgd]
            clear hgd
            generalize w9.alloc (.cells #[.slice sa sn sc, .int .i64 0, .int .i64 0] 67) = uA at B10 RD10 zu10 ⊢
            have ZU10 := hide zu10
            clear zu10
            have hgu3 : u3.heap.size ≤ gd := by omega
            have hggd : g < gd := by omega
            have hgd1 : w1.heap.size ≤ gd := by have := BW3.out.size; omega
            have RKA := hide ((B10.out.block g (by have := ZU3.out; omega)).trans RK3.out)
            have ILA := hide (IL3.out.below B10.out)
            have SWA := hide (SW3.out.below B10.out)
            have BWA := hide (BW3.out.trans (B10.out.mono BW3.out.size))
            obtain ⟨k1, k2, k4⟩ := row_facts RKA.out
            go_wp2_with fail
            clear k1 k2 k4
            go_loopw [11, 13] (fun s i wc => ∃ j : Nat, i = .int .i64 (j : Int) ∧ j ≤ W ∧ s = sval ((signs pn N).take j) ∧ wc.heap[gd]? = some (.cells #[.slice sa sn sc, .int .i64 (j : Int), .int .i64 0] 67 (0, 0)) ∧ wc.heap[g]? = some (.cells #[.slice sa sn sc, .int .i64 (W : Int)] 69 (0, 0)) ∧ IsB wc (.slice sa sn sc) L ∧ OwnS wc w1.heap.size (.slice pa pn pc) (codes N pn) ∧ Below w1.heap.size w1 wc) (fun _ i _ => W - (intOf i).toNat)
            case atStart => exact ⟨0, rfl, Nat.zero_le _, by rw [List.take_zero]; rfl, RD10.out, RKA.out, ILA.out, SWA.out, BWA.out⟩
            case round =>
              obtain ⟨wc, rfl⟩ : ∃ wc, wc = wr := ⟨wr, rfl⟩
              obtain ⟨j, rfl, hj, rfl, hrd, hrk, hil, hsw, hbw⟩ := hrel
              have zc := hbw.size
              have RDC := hide hrd
              have RKC := hide hrk
              have ILC := hide hil
              have SWC := hide hsw
              have BWC := hide hbw
              obtain ⟨k1, k2, k4⟩ := row_facts hrk
              obtain ⟨d1, d2, d4⟩ := row_facts hrd
              clear hrd hrk hil hsw hbw
              by_cases hjW : j < W
              · have hjWi : (j : Int) < W := by omega
                have hj7 : (j : Int) ≤ 7 := by omega
                obtain ⟨bt, hbt⟩ : ∃ b, bitAt L j = b := ⟨_, rfl⟩
                obtain ⟨zb, hzb⟩ : ∃ z, z = bt.toNat := ⟨_, rfl⟩
                have hzb1 : zb ≤ 1 := by rw [hzb]; exact Bool.toNat_le _
                have HGT : Hid (∀ u, IsB u (.slice sa sn sc) L → Calls Try.prog 46 #[.agg #[.slice sa sn sc, .int .i64 (j : Int), .int .i64 0], .int .i64 1] u fun r w' => r = .returned (.tuple #[.agg #[.slice sa sn sc, .int .i64 ((j : Int) + 1), .int .i64 0], .int .u64 (zb : Int)]) ∧ Below u.heap.size u w') := hide (by
                  intro u hu
                  have := get46 sa sn sc (j : Int) 0 1 L u HSN.out (by have := HSN.out; have := HL1.out; omega) hu
                  unfold RetGet at this
                  obtain ⟨e1, e2, e3⟩ := bit_get (v := pn) (N := N) (i := j) (by rw [HW.out]; exact hjW)
                  rw [HL.out] at e1 e2 e3
                  rw [e1, e2, e3, hbt, ← hzb, Int.natCast_add] at this
                  exact this)
                have HTK : Hid ((signs pn N).take j ++ [sign bt] = (signs pn N).take (j + 1)) := hide (by
                  rw [signs_take (by rw [HW.out]; exact hjW), HL.out, hbt])
                have HSG : Hid ((48 : Int) + (zb : Int) = ((sign bt).toNat : Int)) := hide (by rw [hzb]; cases bt <;> rfl)
                have HLN : Hid (((signs pn N).take j).length ≤ 1000) := hide (by rw [List.length_take]; omega)
                clear hbt hzb
                go_wp2_with fail
                refine (HGT.out _ ILC.out).mono ?_
                rintro r w10 ⟨rfl, b10⟩
                have z10 := b10.size
                have BWX := hide ((BWC.out.trans (b10.mono zc)).alloc (by omega) (.cells #[.slice sa sn sc, .int .i64 ((j : Int) + 1), .int .i64 0] 67))
                have BX := hide (b10.alloc b10.size (.cells #[.slice sa sn sc, .int .i64 ((j : Int) + 1), .int .i64 0] 67))
                have RXX := hide (heap_alloc_new w10 (.cells #[.slice sa sn sc, .int .i64 ((j : Int) + 1), .int .i64 0] 67))
                have zuX : (w10.alloc (.cells #[.slice sa sn sc, .int .i64 ((j : Int) + 1), .int .i64 0] 67)).heap.size = w10.heap.size + 1 := by simp
                clear b10 k1 k2 d1 d2
                go_upto_region 21 with fail
                obtain ⟨gx, hgx⟩ : ∃ gx, gx = w10.heap.size := ⟨_, rfl⟩
                rw [← hgx] at RXX zuX z10
                rw [← hgx]
                clear hgx
                generalize w10.alloc (.cells #[.slice sa sn sc, .int .i64 ((j : Int) + 1), .int .i64 0] 67) = uX at BWX BX RXX zuX ⊢
                have ZUX := hide zuX
                have RDX := hide ((BX.out.block gd d4).trans RDC.out)
                have RKX := hide ((BX.out.block g k4).trans RKC.out)
                have ILX := hide (ILC.out.below BX.out)
                have SWX := hide (SWC.out.below BX.out)
                have hgdX : gd < uX.heap.size := by omega
                have hgX : g < uX.heap.size := by omega
                have hgne : some g ≠ some gd := by intro e; have := Option.some.inj e; omega
                clear zuX
                obtain ⟨k1, k2, k3'⟩ := row_facts RXX.out
                go_wp2_with (refine wpList_storeW gd _ rfl rfl 67 _ RDX.out (by kernel_rfl) rfl rfl ?_)
                intro w11 k11 g11 z11
                have RD11 := hide k11
                have RK11 := hide ((g11.block g hgX hgne).trans RKX.out)
                have IL11 := hide (ILX.out.row RDX.out (no_u8'' _ _ _ _ _) g11)
                have SW11 : Hid (OwnS w11 w1.heap.size (.slice pa pn pc) (codes N pn)) := hide (World.ownsRow.kept SWX.out g11 (apart_row (by decide) SWX.out RDX.out))
                have BW11 := hide (BWX.out.grown g11 (by omega) (fun i hi => by cases hi; exact hgd1))
                have Z11 := hide z11
                clear k11 g11 k1 k2 k3' z11
                go_wp2_with (first | (refine wpList_conv (by rfl) rfl (Own.isB (Own.lit (base := 0) [sign bt] _ 1 _ (by rw [List.map_cons, List.map_nil, bval, ← HSG.out]) rfl rfl (Nat.zero_le _) (by decide))) ?_) | ((with_reducible show wpList _ _ _ (Oper.mk _ (.binOp .add 9 _ _ _) _ _ _ _ :: _) _ _); go_loud (refine wpList_addS (l := (signs pn N).take j) (m := [sign bt]) (z := (signs pn N).take (j + 1)) rfl rfl rfl HLN.out (by simp) HTK.out ?_)))
                go_roundw
                case rel =>
                  have hgd11 : gd < w11.heap.size := by rw [Z11.out]; exact hgdX
                  have hg11 : g < w11.heap.size := by rw [Z11.out]; exact hgX
                  have hb11 : w1.heap.size ≤ w11.heap.size := by omega
                  exact ⟨j + 1, by go_num, by omega, rfl, (heap_alloc_old w11 (.cells #[.int .u8 (48 + (zb : Int))] 5) hgd11).trans RD11.out, (heap_alloc_old w11 (.cells #[.int .u8 (48 + (zb : Int))] 5) hg11).trans RK11.out, IL11.out.below ((Below.refl _ _).alloc (Nat.le_refl _) (.cells #[.int .u8 (48 + (zb : Int))] 5)), SW11.out.below ((Below.refl _ _).alloc (Nat.le_refl _) (.cells #[.int .u8 (48 + (zb : Int))] 5)), BW11.out.alloc hb11 (.cells #[.int .u8 (48 + (zb : Int))] 5)⟩
                case measure => simp [intOf]; omega
              · obtain rfl : W = j := by omega
                have HTW : Hid ((signs pn N).take W = signs pn N) := hide (List.take_of_length_le (by rw [signs_length, HW.out]; exact Nat.le_refl _))
                obtain ⟨T2, hT2⟩ : ∃ T, strV (signs pn N) = T := ⟨_, rfl⟩
                have HT2 : Hid (sval (signs pn N) = .string T2) := hide (by unfold sval; rw [hT2])
                rw [HTW.out, HT2.out]
                clear hjW hj
                go_wp2_with fail
                clear k1 k2 d1 d2 d4 k4
                go_loopw [16] (fun i wd => ∃ j : Nat, i = .int .i64 (j : Int) ∧ j ≤ pn ∧ Below wc.heap.size wc wd) (fun i _ => pn - (intOf i).toNat)
                case atStart => exact ⟨0, rfl, Nat.zero_le _, Below.refl _ _⟩
                case round =>
                  obtain ⟨wd, rfl⟩ : ∃ wd, wd = wr := ⟨wr, rfl⟩
                  obtain ⟨j, rfl, hj, hbd⟩ := hrel
                  have zd := hbd.size
                  have BD := hide hbd
                  clear hbd
                  by_cases hjp : j < pn
                  · have hjpi : (j : Int) < pn := by omega
                    obtain ⟨T1, hT1⟩ : ∃ T, strV (signs j N) = T := ⟨_, rfl⟩
                    obtain ⟨tst1, tst2⟩ := codes_test hjp HLT.out hN64
                    obtain ⟨bb, rfl, hbb, hcc⟩ := SWC.out.cellAt (codes_get (N := N) hjp)
                    rw [sval, hT1, Nat.zero_add] at hcc
                    rw [hT1, hT2] at tst1 tst2
                    have hccd := ((bcell BD.out).1 _ _ hbb).trans hcc
                    have hbbd : bb < wd.heap.size := by omega
                    have tst1i : (T1.size : Int) ≤ T2.size := by omega
                    have tst3 : ¬ (T2.size : Int) < T1.size := by omega
                    have HT1 := hide tst2
                    clear hcc hT1 tst2
                    go_upto_region 26 with fail
                    refine wp_region_mono 43 162 (.val _ :: .val _ :: .val _ :: .val _ :: .val _ :: .val _ :: .val _ :: .val _ :: .val _ :: .val _ :: .val _ :: .val _ :: .val _ :: .val _ :: .val _ :: .val _ :: .val _ :: .val _ :: .val _ :: .val _ :: .val _ :: .val _ :: .val _ :: .val _ :: .val _ :: .val _ :: .val _ :: .val _ :: .val _ :: .val _ :: .val _ :: .val _ :: .val _ :: .val _ :: .val _ :: .val _ :: .val _ :: .val _ :: .val _ :: .val _ :: .val _ :: .val _ :: .val _ :: []) (by kernel_rfl) (by kernel_rfl) rfl trivial rfl ⟨
                      fun a u hB hO hJ => .inl ⟨rfl, fun K Q hK => by
                        have e5 : a.tmps[5]?.getD undef = .slice (some ⟨bb, 0, none⟩) pn pc := hO 5 rfl
                        clear hO hJ
                        exact wp_move_of e5 fun h => hK _ _ (Below.refl _ _) h⟩,
                      fun a u hB hO hJ => .inl ⟨rfl, fun K Q hK => by
                        have e16 : a.tmps[16]?.getD undef = .int .i64 (j : Int) := hO 16 rfl
                        clear hO hJ
                        exact wp_move_of e16 fun h => hK _ _ (Below.refl _ _) h⟩,
                      fun a u hB hO hJ => .inl ⟨rfl, fun K Q hK => by
                        have e113 : a.tmps[113]?.getD undef = _ := hJ 0 rfl
                        have e114 : a.tmps[114]?.getD undef = _ := hJ 1 rfl
                        clear hO hJ
                        go_simp
                        try go_bits
                        exact hK _ _ (Below.refl _ _) rfl⟩,
                      fun a u hB hO hJ => .inl ⟨rfl, fun K Q hK => by
                        have e115 : a.tmps[115]?.getD undef = _ := hJ 2 rfl
                        clear hO hJ
                        have hcu := ((bcell hB).1 _ _ hbbd).trans hccd
                        go_simp
                        exact hK _ _ (Below.refl _ _) rfl⟩,
                      fun a u hB hO hJ => .inl ⟨rfl, fun K Q hK => by
                        have e116 : a.tmps[116]?.getD undef = _ := hJ 3 rfl
                        clear hO hJ
                        go_simp
                        try go_bits
                        exact hK _ _ (Below.refl _ _) rfl⟩,
                      fun a u hB hO hJ => .inl ⟨rfl, fun K Q hK => by
                        have e11 : a.tmps[11]?.getD undef = .string T2 := hO 11 rfl
                        clear hO hJ
                        exact wp_move_of e11 fun h => hK _ _ (Below.refl _ _) h⟩,
                      fun a u hB hO hJ => .inl ⟨rfl, fun K Q hK => by
                        have e118 : a.tmps[118]?.getD undef = _ := hJ 5 rfl
                        clear hO hJ
                        go_simp
                        try go_bits
                        exact hK _ _ (Below.refl _ _) rfl⟩,
                      fun a u hB hO hJ => .inl ⟨rfl, fun K Q hK => by
                        have e117 : a.tmps[117]?.getD undef = _ := hJ 4 rfl
                        have e119 : a.tmps[119]?.getD undef = _ := hJ 6 rfl
                        clear hO hJ
                        go_simp
                        try go_bits
                        exact hK _ _ (Below.refl _ _) rfl⟩,
                      fun a u hB hO hJ => .inl ⟨rfl, fun K Q hK => by
                        have e120 : a.tmps[120]?.getD undef = _ := hJ 7 rfl
                        clear hO hJ
                        exact wp_move_of e120 fun h => hK _ _ (Below.refl _ _) h⟩,
                      fun a u hB hO hJ => .inl ⟨(wanted_of rfl (hJ 8 rfl)), fun K Q hK => by
                        have e5 : a.tmps[5]?.getD undef = .slice (some ⟨bb, 0, none⟩) pn pc := hO 5 rfl
                        clear hO hJ
                        exact wp_move_of e5 fun h => hK _ _ (Below.refl _ _) h⟩,
                      fun a u hB hO hJ => .inl ⟨(wanted_of rfl (hJ 8 rfl)), fun K Q hK => by
                        have e16 : a.tmps[16]?.getD undef = .int .i64 (j : Int) := hO 16 rfl
                        clear hO hJ
                        exact wp_move_of e16 fun h => hK _ _ (Below.refl _ _) h⟩,
                      fun a u hB hO hJ => .inl ⟨(wanted_of rfl (hJ 8 rfl)), fun K Q hK => by
                        have e122 : a.tmps[122]?.getD undef = _ := hJ 9 rfl
                        have e123 : a.tmps[123]?.getD undef = _ := hJ 10 rfl
                        clear hO hJ
                        go_simp
                        try go_bits
                        exact hK _ _ (Below.refl _ _) rfl⟩,
                      fun a u hB hO hJ => .inl ⟨(wanted_of rfl (hJ 8 rfl)), fun K Q hK => by
                        have e124 : a.tmps[124]?.getD undef = _ := hJ 11 rfl
                        clear hO hJ
                        have hcu := ((bcell hB).1 _ _ hbbd).trans hccd
                        go_simp
                        exact hK _ _ (Below.refl _ _) rfl⟩,
                      fun a u hB hO hJ => .inl ⟨(wanted_of rfl (hJ 8 rfl)), fun K Q hK => by
                        have e11 : a.tmps[11]?.getD undef = .string T2 := hO 11 rfl
                        clear hO hJ
                        exact wp_move_of e11 fun h => hK _ _ (Below.refl _ _) h⟩,
                      fun a u hB hO hJ => .inl ⟨(wanted_of rfl (hJ 8 rfl)), fun K Q hK => by
                        have e5 : a.tmps[5]?.getD undef = .slice (some ⟨bb, 0, none⟩) pn pc := hO 5 rfl
                        clear hO hJ
                        exact wp_move_of e5 fun h => hK _ _ (Below.refl _ _) h⟩,
                      fun a u hB hO hJ => .inl ⟨(wanted_of rfl (hJ 8 rfl)), fun K Q hK => by
                        have e16 : a.tmps[16]?.getD undef = .int .i64 (j : Int) := hO 16 rfl
                        clear hO hJ
                        exact wp_move_of e16 fun h => hK _ _ (Below.refl _ _) h⟩,
                      fun a u hB hO hJ => .inl ⟨(wanted_of rfl (hJ 8 rfl)), fun K Q hK => by
                        have e127 : a.tmps[127]?.getD undef = _ := hJ 14 rfl
                        have e128 : a.tmps[128]?.getD undef = _ := hJ 15 rfl
                        clear hO hJ
                        go_simp
                        try go_bits
                        exact hK _ _ (Below.refl _ _) rfl⟩,
                      fun a u hB hO hJ => .inl ⟨(wanted_of rfl (hJ 8 rfl)), fun K Q hK => by
                        have e129 : a.tmps[129]?.getD undef = _ := hJ 16 rfl
                        clear hO hJ
                        have hcu := ((bcell hB).1 _ _ hbbd).trans hccd
                        go_simp
                        exact hK _ _ (Below.refl _ _) rfl⟩,
                      fun a u hB hO hJ => .inl ⟨(wanted_of rfl (hJ 8 rfl)), fun K Q hK => by
                        have e130 : a.tmps[130]?.getD undef = _ := hJ 17 rfl
                        clear hO hJ
                        go_simp
                        try go_bits
                        exact hK _ _ (Below.refl _ _) rfl⟩,
                      fun a u hB hO hJ => .inl ⟨(wanted_of rfl (hJ 8 rfl)), fun K Q hK => by
                        have e126 : a.tmps[126]?.getD undef = _ := hJ 13 rfl
                        have e131 : a.tmps[131]?.getD undef = _ := hJ 18 rfl
                        clear hO hJ
                        go_simp
                        try go_bits
                        exact hK _ _ (Below.refl _ _) rfl⟩,
                      fun a u hB hO hJ => .inl ⟨(wanted_of rfl (hJ 8 rfl)), fun K Q hK => by
                        have e125 : a.tmps[125]?.getD undef = _ := hJ 12 rfl
                        have e132 : a.tmps[132]?.getD undef = _ := hJ 19 rfl
                        clear hO hJ
                        have hh := HT1.out
                        go_simp
                        exact hK _ _ (Below.refl _ _) rfl⟩,
                      fun a u hB hO hJ => .inl ⟨rfl, fun K Q hK => by
                        have e121 : a.tmps[121]?.getD undef = _ := hJ 8 rfl
                        have e133 : a.tmps[133]?.getD undef = _ := hJ 20 rfl
                        clear hO hJ
                        go_simp
                        try go_bits
                        exact hK _ _ (Below.refl _ _) rfl⟩,
                      fun a u hB hO hJ => .inl ⟨rfl, fun K Q hK => by
                        have e134 : a.tmps[134]?.getD undef = _ := hJ 21 rfl
                        clear hO hJ
                        exact wp_move_of e134 fun h => hK _ _ (Below.refl _ _) h⟩,
                      fun a u hB hO hJ => .inl ⟨(wanted_of rfl (hJ 22 rfl)), fun K Q hK => by
                        have e11 : a.tmps[11]?.getD undef = .string T2 := hO 11 rfl
                        clear hO hJ
                        exact wp_move_of e11 fun h => hK _ _ (Below.refl _ _) h⟩,
                      fun a u hB hO hJ => .inl ⟨(wanted_of rfl (hJ 22 rfl)), fun K Q hK => by
                        have e136 : a.tmps[136]?.getD undef = _ := hJ 23 rfl
                        clear hO hJ
                        go_simp
                        try go_bits
                        exact hK _ _ (Below.refl _ _) rfl⟩,
                      fun a u hB hO hJ => .inl ⟨(wanted_of rfl (hJ 22 rfl)), fun K Q hK => by
                        have e5 : a.tmps[5]?.getD undef = .slice (some ⟨bb, 0, none⟩) pn pc := hO 5 rfl
                        clear hO hJ
                        exact wp_move_of e5 fun h => hK _ _ (Below.refl _ _) h⟩,
                      fun a u hB hO hJ => .inl ⟨(wanted_of rfl (hJ 22 rfl)), fun K Q hK => by
                        have e16 : a.tmps[16]?.getD undef = .int .i64 (j : Int) := hO 16 rfl
                        clear hO hJ
                        exact wp_move_of e16 fun h => hK _ _ (Below.refl _ _) h⟩,
                      fun a u hB hO hJ => .inl ⟨(wanted_of rfl (hJ 22 rfl)), fun K Q hK => by
                        have e138 : a.tmps[138]?.getD undef = _ := hJ 25 rfl
                        have e139 : a.tmps[139]?.getD undef = _ := hJ 26 rfl
                        clear hO hJ
                        go_simp
                        try go_bits
                        exact hK _ _ (Below.refl _ _) rfl⟩,
                      fun a u hB hO hJ => .inl ⟨(wanted_of rfl (hJ 22 rfl)), fun K Q hK => by
                        have e140 : a.tmps[140]?.getD undef = _ := hJ 27 rfl
                        clear hO hJ
                        have hcu := ((bcell hB).1 _ _ hbbd).trans hccd
                        go_simp
                        exact hK _ _ (Below.refl _ _) rfl⟩,
                      fun a u hB hO hJ => .inl ⟨(wanted_of rfl (hJ 22 rfl)), fun K Q hK => by
                        have e141 : a.tmps[141]?.getD undef = _ := hJ 28 rfl
                        clear hO hJ
                        go_simp
                        try go_bits
                        exact hK _ _ (Below.refl _ _) rfl⟩,
                      fun a u hB hO hJ => .inl ⟨(wanted_of rfl (hJ 22 rfl)), fun K Q hK => by
                        have e137 : a.tmps[137]?.getD undef = _ := hJ 24 rfl
                        have e142 : a.tmps[142]?.getD undef = _ := hJ 29 rfl
                        clear hO hJ
                        go_simp
                        try go_bits
                        exact hK _ _ (Below.refl _ _) rfl⟩,
                      fun a u hB hO hJ => .inl ⟨(wanted_of rfl (hJ 22 rfl)), fun K Q hK => by
                        have e143 : a.tmps[143]?.getD undef = _ := hJ 30 rfl
                        clear hO hJ
                        exact wp_move_of e143 fun h => hK _ _ (Below.refl _ _) h⟩,
                      fun a u hB hO hJ => .inr ⟨(wanted_not rfl (hJ 31 rfl) (by decide)), rfl⟩,
                      fun a u hB hO hJ => .inr ⟨(wanted_not rfl (hJ 31 rfl) (by decide)), rfl⟩,
                      fun a u hB hO hJ => .inr ⟨(wanted_not rfl (hJ 31 rfl) (by decide)), rfl⟩,
                      fun a u hB hO hJ => .inr ⟨(wanted_not rfl (hJ 31 rfl) (by decide)), rfl⟩,
                      fun a u hB hO hJ => .inr ⟨(wanted_not rfl (hJ 31 rfl) (by decide)), rfl⟩,
                      fun a u hB hO hJ => .inr ⟨(wanted_not rfl (hJ 31 rfl) (by decide)), rfl⟩,
                      fun a u hB hO hJ => .inr ⟨(wanted_not rfl (hJ 31 rfl) (by decide)), rfl⟩,
                      fun a u hB hO hJ => .inr ⟨(wanted_not rfl (hJ 31 rfl) (by decide)), rfl⟩,
                      fun a u hB hO hJ => .inr ⟨(wanted_not rfl (hJ 31 rfl) (by decide)), rfl⟩,
                      fun a u hB hO hJ => .inl ⟨(wanted_of rfl (hJ 22 rfl)), fun K Q hK => by
                        have e144 : a.tmps[144]?.getD undef = _ := hJ 31 rfl
                        have e153 : a.tmps[153]?.getD undef = _ := hJ 40 rfl
                        clear hO hJ
                        go_simp
                        try go_bits
                        exact hK _ _ (Below.refl _ _) rfl⟩,
                      fun a u hB hO hJ => .inl ⟨rfl, fun K Q hK => by
                        have e135 : a.tmps[135]?.getD undef = _ := hJ 22 rfl
                        have e154 : a.tmps[154]?.getD undef = _ := hJ 41 rfl
                        clear hO hJ
                        go_simp
                        try go_bits
                        exact hK _ _ (Below.refl _ _) rfl⟩,
                      trivial⟩ ?fin26
                    case fin26 =>
                      intro u hB
                      simp only [Act.put, List.setIfInBounds_toArray, List.set_cons_zero, List.set_cons_succ, List.drop_succ_cons, List.drop_nil, List.take_succ_cons, List.take_nil, Laid]
                      have HBU := hide (BD.out.trans (hB.mono zd))
                      clear hB
                      go_wp2_with fail
                      go_roundw
                      case rel => exact ⟨j + 1, by go_num, by omega, HBU.out⟩
                      case measure => simp [intOf]; omega
                  · obtain rfl : pn = j := by omega
                    clear hjp hj
                    have SWD := hide (SWC.out.below BD.out)
                    have BWD := hide (BWC.out.trans (BD.out.mono zc))
                    have zd1 : w1.heap.size ≤ wd.heap.size := by omega
                    have HPC : Hid ((codes N pn).length ≤ 1000000) := hide (by rw [codes_length]; omega)
                    go_wp2_with (at_builtin; refine wpList_append_S (y := signs pn N) (SWD.out.below ((Below.refl _ _).alloc (Nat.le_refl _) _)) (by rw [HT2.out]; exact heap_alloc_new wd _) HPC.out (by simp; omega) rfl rfl ?_)
                    intro p7 w7 o7 g7
                    have BW7 := hide ((BWD.out.alloc zd1 (.cells #[.string T2] 9)).grown g7 (by simp; omega) (fun i hi => (World.ownsRow.lt SWD.out i hi).1))
                    rw [← codes_succ] at o7
                    have OW7 := hide o7
                    clear o7 g7
                    go_wp2_with fail
                    go_roundw
                    case rel => exact ⟨pn + 1, by go_num, HLT.out, OW7.out, BW7.out⟩
                    case measure => simp [intOf]; omega
        · obtain rfl : N = pn := by omega
          clear hlt hk
          go_wp2_with fail
          go_ret
          exact ⟨rfl, HW1.out.trans (HBW.out.mono z1)⟩
end Go.Proofs.Ytellclclpmofcaa
