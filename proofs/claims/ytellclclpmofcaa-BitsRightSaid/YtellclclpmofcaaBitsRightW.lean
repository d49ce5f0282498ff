/-
  The walk of crossbarlaw02.BitsRight; conditions: the arguments read as data, the bytes within the bounds.
-/
import Derived.Test.YtellclclpmofcaaBAwake
import Derived.Deep.DeepCutAuto
namespace Go.Proofs.Ytellclclpmofcaa
open Go.RowKit
set_option linter.unusedVariables false

set_option maxRecDepth 100000 in
set_option maxHeartbeats 4000000 in
theorem bitsRight_ok (a a' : Option Addr) (n c n' c' v O : Nat) (P E m N : Int) (l l' : List UInt8) (w : World) (hn : n = l.length) (hl : n ≤ 3000) (hn' : n' = l'.length) (hl' : n' ≤ 3000)
    (hP : P ≤ 9223372036854775807) (hm : m ≤ 9223372036854775807) (hm2 : -9223372036854775808 ≤ m) (hv : v < 18446744073709551616) (hO : O < 18446744073709551616) (h : IsB w (.slice a n c) l) (h' : IsB w (.slice a' n' c') l') :
    Calls Try.prog 11 #[.agg #[.slice a n c, .int .i64 P, .int .i64 E], .agg #[.slice a' n' c', .int .i64 m], .int .i64 N, .int .u64 (v : Int), .int .u64 (O : Int)] w fun r w' => r = .returned (.bool true) ∧ Below w.heap.size w w' := by
  have hli : (n : Int) ≤ 3000 := by omega
  have hli' : (n' : Int) ≤ 3000 := by omega
  have HL : Hid (n ≤ 1000000) := hide (by omega)
  have HL' : Hid (n' ≤ 1000000) := hide (by omega)
  have HN := hide hn
  have HN' := hide hn'
  have B0 := (((Below.refl w.heap.size w).alloc (Nat.le_refl _) (.cells #[.slice a n c, .int .i64 P, .int .i64 E] 67)).alloc (by simp) (.cells #[.slice a' n' c', .int .i64 m] 69))
  have HB0 := hide B0
  have IC0 := hide (h.below B0)
  have IK0 := hide (h'.below B0)
  obtain ⟨p1, hp1⟩ : ∃ x, x = getP l P E N := ⟨_, rfl⟩
  obtain ⟨e1, he1⟩ : ∃ x, x = getE l P E N := ⟨_, rfl⟩
  obtain ⟨n1, hn1⟩ : ∃ x, x = getN l P E N := ⟨_, rfl⟩
  obtain ⟨p2, hp2⟩ : ∃ x, x = rngP l P E O := ⟨_, rfl⟩
  obtain ⟨e2, he2⟩ : ∃ x, x = rngE l P E O := ⟨_, rfl⟩
  obtain ⟨n2, hn2⟩ : ∃ x, x = rngN l P E O := ⟨_, rfl⟩
  obtain ⟨l3, hl3⟩ : ∃ x, x = addL l' m N v := ⟨_, rfl⟩
  obtain ⟨m3, hm3⟩ : ∃ x, x = addM l' m N v := ⟨_, rfl⟩
  obtain ⟨e3, he3⟩ : ∃ x, x = addBad l' m N v := ⟨_, rfl⟩
  obtain ⟨l4, hl4⟩ : ∃ x, x = radL l' m v O := ⟨_, rfl⟩
  obtain ⟨m4, hm4⟩ : ∃ x, x = radM l' m v O := ⟨_, rfl⟩
  obtain ⟨e4, he4⟩ : ∃ x, x = radBad l' m v O := ⟨_, rfl⟩
  have Q1 := hide hp1
  have Q2 := hide he1
  have Q3 := hide hn1
  have Q4 := hide hp2
  have Q5 := hide he2
  have Q6 := hide hn2
  have Q7 := hide hl3
  have Q8 := hide hm3
  have Q9 := hide he3
  have Q10 := hide hl4
  have Q11 := hide hm4
  have Q12 := hide he4
  have QV := hide hv
  have QO := hide hO
  obtain ⟨q, hq⟩ : ∃ q, q = rdyB l P E := ⟨_, rfl⟩
  obtain ⟨lf, hlf⟩ : ∃ lf, lf = leftN l P E := ⟨_, rfl⟩
  have HLT := hide (fun w => left48 a n c P E l w HN.out HL.out)
  rw [← hlf] at HLT
  have HRD := hide (fun w => right45 a n c P E l w HN.out HL.out hP)
  rw [← hq] at HRD
  have HLF : Hid (lf = if q = true then 8 * (n : Int) - P else 0) := hide (by rw [hlf, leftN, hq, hn])
  have HQB : Hid (q = true → 0 ≤ P ∧ P ≤ 8 * (n : Int)) := hide (by
    intro hh
    rw [hq] at hh
    simp [rdyB] at hh
    omega)
  have HEQ : Hid ((inkB l' m != inkB l' m) = false) := hide (by simp)
  clear hn hl hn' hl' h h' B0 hp1 he1 hn1 hp2 he2 hn2 hl3 hm3 he3 hl4 hm4 he4 hv hO hq hlf
  go_enter Try.func11, Try.ntmps11
  go_wp2_with fail
  refine (awake02 _).mono ?_
  rintro r w2 ⟨rfl, b2⟩
  have z2 := b2.size
  simp only [World.size_alloc] at z2
  have W2 := hide (HB0.out.trans (b2.mono (by simp only [World.size_alloc]; omega)))
  have RC2 := hide ((b2.block w.heap.size (by simp only [World.size_alloc]; omega)).trans (heap_alloc2_old w (.cells #[.slice a n c, .int .i64 P, .int .i64 E] 67) (.cells #[.slice a' n' c', .int .i64 m] 69)))
  have RK2 := hide ((b2.block (w.heap.size + 1) (by simp only [World.size_alloc]; omega)).trans (heap_alloc2_new w (.cells #[.slice a n c, .int .i64 P, .int .i64 E] 67) (.cells #[.slice a' n' c', .int .i64 m] 69)))
  have IC2 := hide (IC0.out.below b2)
  have IK2 := hide (IK0.out.below b2)
  clear b2
  obtain ⟨oC11, oC12, oC13⟩ := row_facts RC2.out
  obtain ⟨oK11, oK12, oK13⟩ := row_facts RK2.out
  go_wp2_with fail
  refine (HRD.out _).mono ?_
  rintro r w3 ⟨rfl, b3⟩
  clear oC11 oC12 oC13 oK11 oK12 oK13
  have z3 := b3.size
  have W3 := hide (W2.out.trans (b3.mono (by omega)))
  have RC_3 := hide ((b3.block (w.heap.size) (by omega)).trans RC2.out)
  have RK_3 := hide ((b3.block (w.heap.size + 1) (by omega)).trans RK2.out)
  have Ic_3 := hide (IC2.out.below b3)
  have Ik_3 := hide (IK2.out.below b3)
  clear b3
  go_upto_if 33 with fail
  go_cut [11] (fun lv wx => lv = .int .i64 lf ∧ w3 = wx)
  case first =>
    cases q
    · have hlf0 : lf = 0 := by simpa using HLF.out
      go_wp2_with fail
      go_meet
      case rel => exact ⟨by rw [hlf0], rfl⟩
    · obtain ⟨g1, g2⟩ := HQB.out rfl
      have hlf0 := HLF.out
      rw [if_pos rfl] at hlf0
      have HLF0 := hide hlf0
      clear hlf0
      obtain ⟨k1, k2, k3⟩ := row_facts RC_3.out
      go_wp2_with fail
      go_meet
      case rel => exact ⟨by rw [HLF0.out], rfl⟩
  case rest =>
    obtain ⟨rfl, rfl⟩ := hcut
    obtain ⟨oC21, oC22, oC23⟩ := row_facts RC_3.out
    obtain ⟨oK21, oK22, oK23⟩ := row_facts RK_3.out
    go_wp2_with fail
    have G4 := (get46 a n c P E N l w3 HN.out HL.out Ic_3.out)
    unfold RetGet at G4
    rw [← Q1.out, ← Q2.out, ← Q3.out] at G4
    refine G4.mono ?_
    clear G4
    rintro r w4 ⟨rfl, b4⟩
    clear oC21 oC22 oC23 oK21 oK22 oK23
    have z4 := b4.size
    have W4 := hide (W3.out.trans (b4.mono (by omega)))
    have RC_4 := hide ((b4.block (w.heap.size) (by omega)).trans RC_3.out)
    have RK_4 := hide ((b4.block (w.heap.size + 1) (by omega)).trans RK_3.out)
    have Ic_4 := hide (Ic_3.out.below b4)
    have Ik_4 := hide (Ik_3.out.below b4)
    clear b4
    have AA := hide (W4.out.alloc (by omega) (.cells #[.slice a n c, .int .i64 p1, .int .i64 e1] 67))
    have RC_A := hide ((heap_alloc_old w4 (.cells #[.slice a n c, .int .i64 p1, .int .i64 e1] 67) (show w.heap.size < w4.heap.size by omega)).trans RC_4.out)
    have RK_A := hide ((heap_alloc_old w4 (.cells #[.slice a n c, .int .i64 p1, .int .i64 e1] 67) (show w.heap.size + 1 < w4.heap.size by omega)).trans RK_4.out)
    have Ic_A := hide (Ic_4.out.below ((Below.refl _ _).alloc (Nat.le_refl _) (.cells #[.slice a n c, .int .i64 p1, .int .i64 e1] 67)))
    have Ik_A := hide (Ik_4.out.below ((Below.refl _ _).alloc (Nat.le_refl _) (.cells #[.slice a n c, .int .i64 p1, .int .i64 e1] 67)))
    have RA := hide (heap_alloc_new w4 (.cells #[.slice a n c, .int .i64 p1, .int .i64 e1] 67))
    obtain ⟨oC31, oC32, oC33⟩ := row_facts RC_A.out
    obtain ⟨oK31, oK32, oK33⟩ := row_facts RK_A.out
    obtain ⟨oA31, oA32, oA33⟩ := row_facts RA.out
    go_wp2_with fail
    have G5 := (get47 a n c P E N l _ HN.out HL.out hP Ic_A.out)
    unfold RetGet at G5
    rw [← Q1.out, ← Q2.out, ← Q3.out] at G5
    refine G5.mono ?_
    clear G5
    rintro r w5 ⟨rfl, b5⟩
    clear oC31 oC32 oC33 oK31 oK32 oK33 oA31 oA32 oA33
    have z5 := b5.size
    simp only [World.size_alloc] at z5
    have W5 := hide (AA.out.trans (b5.mono (by simp only [World.size_alloc]; omega)))
    have RC_5 := hide ((b5.block (w.heap.size) (by simp only [World.size_alloc]; omega)).trans RC_A.out)
    have RK_5 := hide ((b5.block (w.heap.size + 1) (by simp only [World.size_alloc]; omega)).trans RK_A.out)
    have RA_5 := hide ((b5.block (w4.heap.size) (by simp only [World.size_alloc]; omega)).trans RA.out)
    have Ic_5 := hide (Ic_A.out.below b5)
    have Ik_5 := hide (Ik_A.out.below b5)
    clear b5
    have AB := hide (W5.out.alloc (by omega) (.cells #[.slice a n c, .int .i64 p1, .int .i64 e1] 67))
    have RC_B := hide ((heap_alloc_old w5 (.cells #[.slice a n c, .int .i64 p1, .int .i64 e1] 67) (show w.heap.size < w5.heap.size by omega)).trans RC_5.out)
    have RK_B := hide ((heap_alloc_old w5 (.cells #[.slice a n c, .int .i64 p1, .int .i64 e1] 67) (show w.heap.size + 1 < w5.heap.size by omega)).trans RK_5.out)
    have RA_B := hide ((heap_alloc_old w5 (.cells #[.slice a n c, .int .i64 p1, .int .i64 e1] 67) (show w4.heap.size < w5.heap.size by omega)).trans RA_5.out)
    have Ic_B := hide (Ic_5.out.below ((Below.refl _ _).alloc (Nat.le_refl _) (.cells #[.slice a n c, .int .i64 p1, .int .i64 e1] 67)))
    have Ik_B := hide (Ik_5.out.below ((Below.refl _ _).alloc (Nat.le_refl _) (.cells #[.slice a n c, .int .i64 p1, .int .i64 e1] 67)))
    have RB := hide (heap_alloc_new w5 (.cells #[.slice a n c, .int .i64 p1, .int .i64 e1] 67))
    obtain ⟨oC41, oC42, oC43⟩ := row_facts RC_B.out
    obtain ⟨oA41, oA42, oA43⟩ := row_facts RA_B.out
    obtain ⟨oB41, oB42, oB43⟩ := row_facts RB.out
    go_wp2_with fail
    refine (HLT.out _).mono ?_
    rintro r w6 ⟨rfl, b6⟩
    clear oC41 oC42 oC43 oA41 oA42 oA43 oB41 oB42 oB43
    have z6 := b6.size
    simp only [World.size_alloc] at z6
    have W6 := hide (AB.out.trans (b6.mono (by simp only [World.size_alloc]; omega)))
    have RC_6 := hide ((b6.block (w.heap.size) (by simp only [World.size_alloc]; omega)).trans RC_B.out)
    have RK_6 := hide ((b6.block (w.heap.size + 1) (by simp only [World.size_alloc]; omega)).trans RK_B.out)
    have RA_6 := hide ((b6.block (w4.heap.size) (by simp only [World.size_alloc]; omega)).trans RA_B.out)
    have RB_6 := hide ((b6.block (w5.heap.size) (by simp only [World.size_alloc]; omega)).trans RB.out)
    have Ic_6 := hide (Ic_B.out.below b6)
    have Ik_6 := hide (Ik_B.out.below b6)
    clear b6
    obtain ⟨oC51, oC52, oC53⟩ := row_facts RC_6.out
    obtain ⟨oA51, oA52, oA53⟩ := row_facts RA_6.out
    obtain ⟨oB51, oB52, oB53⟩ := row_facts RB_6.out
    go_wp2_with fail
    refine (same49 a a n n c c p1 e1 l _ Ic_6.out Ic_6.out).mono ?_
    rintro r w7 ⟨rfl, b7⟩
    clear oC51 oC52 oC53 oA51 oA52 oA53 oB51 oB52 oB53
    have z7 := b7.size
    have W7 := hide (W6.out.trans (b7.mono (by omega)))
    have RC_7 := hide ((b7.block (w.heap.size) (by omega)).trans RC_6.out)
    have RK_7 := hide ((b7.block (w.heap.size + 1) (by omega)).trans RK_6.out)
    have RA_7 := hide ((b7.block (w4.heap.size) (by omega)).trans RA_6.out)
    have RB_7 := hide ((b7.block (w5.heap.size) (by omega)).trans RB_6.out)
    have Ic_7 := hide (Ic_6.out.below b7)
    have Ik_7 := hide (Ik_6.out.below b7)
    clear b7
    obtain ⟨oC61, oC62, oC63⟩ := row_facts RC_7.out
    go_wp2_with fail
    have G8 := (rng50 a n c P E O l _ HN.out HL.out hP QO.out Ic_7.out)
    unfold RetRng at G8
    rw [← Q4.out, ← Q5.out, ← Q6.out] at G8
    refine G8.mono ?_
    clear G8
    rintro r w8 ⟨rfl, b8⟩
    clear oC61 oC62 oC63
    have z8 := b8.size
    have W8 := hide (W7.out.trans (b8.mono (by omega)))
    have RC_8 := hide ((b8.block (w.heap.size) (by omega)).trans RC_7.out)
    have RK_8 := hide ((b8.block (w.heap.size + 1) (by omega)).trans RK_7.out)
    have RA_8 := hide ((b8.block (w4.heap.size) (by omega)).trans RA_7.out)
    have RB_8 := hide ((b8.block (w5.heap.size) (by omega)).trans RB_7.out)
    have Ic_8 := hide (Ic_7.out.below b8)
    have Ik_8 := hide (Ik_7.out.below b8)
    clear b8
    go_wp2_with (refine wpList_storeW (w4.heap.size) _ rfl rfl 67 _ RA_8.out (by kernel_rfl) rfl rfl ?_)
    intro w8s k8s g8s z8s
    have RA_8s := hide k8s
    have RC_8s := hide ((g8s.block (w.heap.size) (by omega) (fun e => by have := Option.some.inj e; omega)).trans RC_8.out)
    have RK_8s := hide ((g8s.block (w.heap.size + 1) (by omega) (fun e => by have := Option.some.inj e; omega)).trans RK_8.out)
    have RB_8s := hide ((g8s.block (w5.heap.size) (by omega) (fun e => by have := Option.some.inj e; omega)).trans RB_8.out)
    have Ic_8s := hide (Ic_8.out.row RA_8.out (no_u8'' _ _ _ _ _) g8s)
    have Ik_8s := hide (Ik_8.out.row RA_8.out (no_u8'' _ _ _ _ _) g8s)
    have W8s := hide (W8.out.grown g8s (by omega) (fun i hi => by cases hi; omega))
    clear k8s g8s
    obtain ⟨oC71, oC72, oC73⟩ := row_facts RC_8s.out
    go_wp2_with fail
    have G9 := (rng51 a n c P E O l _ HN.out HL.out hP QO.out Ic_8s.out)
    unfold RetRng at G9
    rw [← Q4.out, ← Q5.out, ← Q6.out] at G9
    refine G9.mono ?_
    clear G9
    rintro r w9 ⟨rfl, b9⟩
    clear oC71 oC72 oC73
    have z9 := b9.size
    have W9 := hide (W8s.out.trans (b9.mono (by omega)))
    have RC_9 := hide ((b9.block (w.heap.size) (by omega)).trans RC_8s.out)
    have RK_9 := hide ((b9.block (w.heap.size + 1) (by omega)).trans RK_8s.out)
    have RA_9 := hide ((b9.block (w4.heap.size) (by omega)).trans RA_8s.out)
    have RB_9 := hide ((b9.block (w5.heap.size) (by omega)).trans RB_8s.out)
    have Ic_9 := hide (Ic_8s.out.below b9)
    have Ik_9 := hide (Ik_8s.out.below b9)
    clear b9
    go_wp2_with (refine wpList_storeW (w5.heap.size) _ rfl rfl 67 _ RB_9.out (by kernel_rfl) rfl rfl ?_)
    intro w9s k9s g9s z9s
    have RB_9s := hide k9s
    have RC_9s := hide ((g9s.block (w.heap.size) (by omega) (fun e => by have := Option.some.inj e; omega)).trans RC_9.out)
    have RK_9s := hide ((g9s.block (w.heap.size + 1) (by omega) (fun e => by have := Option.some.inj e; omega)).trans RK_9.out)
    have RA_9s := hide ((g9s.block (w4.heap.size) (by omega) (fun e => by have := Option.some.inj e; omega)).trans RA_9.out)
    have Ic_9s := hide (Ic_9.out.row RB_9.out (no_u8'' _ _ _ _ _) g9s)
    have Ik_9s := hide (Ik_9.out.row RB_9.out (no_u8'' _ _ _ _ _) g9s)
    have W9s := hide (W9.out.grown g9s (by omega) (fun i hi => by cases hi; omega))
    clear k9s g9s
    obtain ⟨oC81, oC82, oC83⟩ := row_facts RC_9s.out
    obtain ⟨oA81, oA82, oA83⟩ := row_facts RA_9s.out
    obtain ⟨oB81, oB82, oB83⟩ := row_facts RB_9s.out
    go_wp2_with fail
    refine (same49 a a n n c c p2 e2 l _ Ic_9s.out Ic_9s.out).mono ?_
    rintro r w10 ⟨rfl, b10⟩
    clear oC81 oC82 oC83 oA81 oA82 oA83 oB81 oB82 oB83
    have z10 := b10.size
    have W10 := hide (W9s.out.trans (b10.mono (by omega)))
    have RC_10 := hide ((b10.block (w.heap.size) (by omega)).trans RC_9s.out)
    have RK_10 := hide ((b10.block (w.heap.size + 1) (by omega)).trans RK_9s.out)
    have RA_10 := hide ((b10.block (w4.heap.size) (by omega)).trans RA_9s.out)
    have RB_10 := hide ((b10.block (w5.heap.size) (by omega)).trans RB_9s.out)
    have Ic_10 := hide (Ic_9s.out.below b10)
    have Ik_10 := hide (Ik_9s.out.below b10)
    clear b10
    obtain ⟨oK91, oK92, oK93⟩ := row_facts RK_10.out
    go_wp2_with fail
    have G11 := (add52 a' n' c' v m N l' _ HN'.out HL'.out hm QV.out Ik_10.out)
    unfold RetAdd at G11
    rw [← Q7.out, ← Q8.out, ← Q9.out] at G11
    refine G11.mono ?_
    clear G11
    rintro r w11 ⟨s11, rfl, i11, b11⟩
    clear oK91 oK92 oK93
    obtain ⟨a11, n11, c11, rfl, hh11, -⟩ := i11.len'
    have z11 := b11.size
    have W11 := hide (W10.out.trans (b11.mono (by omega)))
    have RC_11 := hide ((b11.block (w.heap.size) (by omega)).trans RC_10.out)
    have RK_11 := hide ((b11.block (w.heap.size + 1) (by omega)).trans RK_10.out)
    have RA_11 := hide ((b11.block (w4.heap.size) (by omega)).trans RA_10.out)
    have RB_11 := hide ((b11.block (w5.heap.size) (by omega)).trans RB_10.out)
    have Ic_11 := hide (Ic_10.out.below b11)
    have Ik_11 := hide (Ik_10.out.below b11)
    clear b11
    have J11 := hide i11
    clear hh11 i11
    have AP := hide (W11.out.alloc (by omega) (.cells #[.slice a11 n11 c11, .int .i64 m3] 69))
    have RC_P := hide ((heap_alloc_old w11 (.cells #[.slice a11 n11 c11, .int .i64 m3] 69) (show w.heap.size < w11.heap.size by omega)).trans RC_11.out)
    have RK_P := hide ((heap_alloc_old w11 (.cells #[.slice a11 n11 c11, .int .i64 m3] 69) (show w.heap.size + 1 < w11.heap.size by omega)).trans RK_11.out)
    have RA_P := hide ((heap_alloc_old w11 (.cells #[.slice a11 n11 c11, .int .i64 m3] 69) (show w4.heap.size < w11.heap.size by omega)).trans RA_11.out)
    have RB_P := hide ((heap_alloc_old w11 (.cells #[.slice a11 n11 c11, .int .i64 m3] 69) (show w5.heap.size < w11.heap.size by omega)).trans RB_11.out)
    have Ic_P := hide (Ic_11.out.below ((Below.refl _ _).alloc (Nat.le_refl _) (.cells #[.slice a11 n11 c11, .int .i64 m3] 69)))
    have Ik_P := hide (Ik_11.out.below ((Below.refl _ _).alloc (Nat.le_refl _) (.cells #[.slice a11 n11 c11, .int .i64 m3] 69)))
    have Ix11_P := hide (J11.out.below ((Below.refl _ _).alloc (Nat.le_refl _) (.cells #[.slice a11 n11 c11, .int .i64 m3] 69)))
    have RP := hide (heap_alloc_new w11 (.cells #[.slice a11 n11 c11, .int .i64 m3] 69))
    obtain ⟨oK101, oK102, oK103⟩ := row_facts RK_P.out
    go_wp2_with fail
    have G12 := (add53 a' n' c' v m N l' _ HN'.out HL'.out hm hm2 QV.out Ik_P.out)
    unfold RetAdd at G12
    rw [← Q7.out, ← Q8.out, ← Q9.out] at G12
    refine G12.mono ?_
    clear G12
    rintro r w12 ⟨s12, rfl, i12, b12⟩
    clear oK101 oK102 oK103
    obtain ⟨a12, n12, c12, rfl, hh12, -⟩ := i12.len'
    have z12 := b12.size
    simp only [World.size_alloc] at z12
    have W12 := hide (AP.out.trans (b12.mono (by simp only [World.size_alloc]; omega)))
    have RC_12 := hide ((b12.block (w.heap.size) (by simp only [World.size_alloc]; omega)).trans RC_P.out)
    have RK_12 := hide ((b12.block (w.heap.size + 1) (by simp only [World.size_alloc]; omega)).trans RK_P.out)
    have RA_12 := hide ((b12.block (w4.heap.size) (by simp only [World.size_alloc]; omega)).trans RA_P.out)
    have RB_12 := hide ((b12.block (w5.heap.size) (by simp only [World.size_alloc]; omega)).trans RB_P.out)
    have RP_12 := hide ((b12.block (w11.heap.size) (by simp only [World.size_alloc]; omega)).trans RP.out)
    have Ic_12 := hide (Ic_P.out.below b12)
    have Ik_12 := hide (Ik_P.out.below b12)
    have Ix11_12 := hide (Ix11_P.out.below b12)
    clear b12
    have J12 := hide i12
    clear hh12 i12
    have AQ := hide (W12.out.alloc (by omega) (.cells #[.slice a12 n12 c12, .int .i64 m3] 69))
    have RC_Q := hide ((heap_alloc_old w12 (.cells #[.slice a12 n12 c12, .int .i64 m3] 69) (show w.heap.size < w12.heap.size by omega)).trans RC_12.out)
    have RK_Q := hide ((heap_alloc_old w12 (.cells #[.slice a12 n12 c12, .int .i64 m3] 69) (show w.heap.size + 1 < w12.heap.size by omega)).trans RK_12.out)
    have RA_Q := hide ((heap_alloc_old w12 (.cells #[.slice a12 n12 c12, .int .i64 m3] 69) (show w4.heap.size < w12.heap.size by omega)).trans RA_12.out)
    have RB_Q := hide ((heap_alloc_old w12 (.cells #[.slice a12 n12 c12, .int .i64 m3] 69) (show w5.heap.size < w12.heap.size by omega)).trans RB_12.out)
    have RP_Q := hide ((heap_alloc_old w12 (.cells #[.slice a12 n12 c12, .int .i64 m3] 69) (show w11.heap.size < w12.heap.size by omega)).trans RP_12.out)
    have Ic_Q := hide (Ic_12.out.below ((Below.refl _ _).alloc (Nat.le_refl _) (.cells #[.slice a12 n12 c12, .int .i64 m3] 69)))
    have Ik_Q := hide (Ik_12.out.below ((Below.refl _ _).alloc (Nat.le_refl _) (.cells #[.slice a12 n12 c12, .int .i64 m3] 69)))
    have Ix11_Q := hide (Ix11_12.out.below ((Below.refl _ _).alloc (Nat.le_refl _) (.cells #[.slice a12 n12 c12, .int .i64 m3] 69)))
    have Ix12_Q := hide (J12.out.below ((Below.refl _ _).alloc (Nat.le_refl _) (.cells #[.slice a12 n12 c12, .int .i64 m3] 69)))
    have RQ := hide (heap_alloc_new w12 (.cells #[.slice a12 n12 c12, .int .i64 m3] 69))
    go_wp2_with fail
    refine wp_region_mono 16 141 (.val _ :: .val _ :: .val _ :: .val _ :: .val _ :: .val _ :: .val _ :: .val _ :: .val _ :: .val _ :: .val _ :: .val _ :: .val _ :: .val _ :: .val _ :: .val _ :: []) (by kernel_rfl) (by kernel_rfl) rfl trivial rfl ⟨
      fun a u hB hO hJ => .inl ⟨rfl, fun K Q hK => by
        have e6 : a.tmps[6]?.getD undef = .pointer (some ⟨w.heap.size + 1, 0, none⟩) := hO 6 rfl
        clear hO hJ
        obtain ⟨q1, q2, q3⟩ := row_facts ((hB.block (w.heap.size + 1) (by simp only [World.size_alloc]; omega)).trans RK_Q.out)
        go_simp
        exact hK _ _ (Below.refl _ _) rfl⟩,
      fun a u hB hO hJ => .inl ⟨rfl, fun K Q hK => by
        have e103 : a.tmps[103]?.getD undef = _ := hJ 0 rfl
        clear hO hJ
        go_simp
        refine (right54 a' n' c' m l' _ HN'.out HL'.out hm (Ik_Q.out.below hB)).mono ?_
        rintro e w7 ⟨rfl, b7⟩
        exact hK _ _ b7 rfl⟩,
      fun a u hB hO hJ => .inl ⟨rfl, fun K Q hK => by
        have e6 : a.tmps[6]?.getD undef = .pointer (some ⟨w.heap.size + 1, 0, none⟩) := hO 6 rfl
        clear hO hJ
        obtain ⟨q1, q2, q3⟩ := row_facts ((hB.block (w.heap.size + 1) (by simp only [World.size_alloc]; omega)).trans RK_Q.out)
        go_simp
        exact hK _ _ (Below.refl _ _) rfl⟩,
      fun a u hB hO hJ => .inl ⟨rfl, fun K Q hK => by
        have e105 : a.tmps[105]?.getD undef = _ := hJ 2 rfl
        clear hO hJ
        go_simp
        refine (ink55 a' n' c' m l' _ HN'.out HL'.out hm hm2 (Ik_Q.out.below hB)).mono ?_
        rintro e w7 ⟨rfl, b7⟩
        exact hK _ _ b7 rfl⟩,
      fun a u hB hO hJ => .inl ⟨rfl, fun K Q hK => by
        have e104 : a.tmps[104]?.getD undef = _ := hJ 1 rfl
        have e106 : a.tmps[106]?.getD undef = _ := hJ 3 rfl
        clear hO hJ
        go_simp
        try go_bits
        exact hK _ _ (Below.refl _ _) rfl⟩,
      fun a u hB hO hJ => .inl ⟨rfl, fun K Q hK => by
        have e107 : a.tmps[107]?.getD undef = _ := hJ 4 rfl
        clear hO hJ
        exact wp_move_of e107 fun h => hK _ _ (Below.refl _ _) h⟩,
      fun a u hB hO hJ => .inl ⟨(wanted_of rfl (hJ 5 rfl)), fun K Q hK => by
        have e17 : a.tmps[17]?.getD undef = .int .i64 e3 := hO 17 rfl
        clear hO hJ
        exact wp_move_of e17 fun h => hK _ _ (Below.refl _ _) h⟩,
      fun a u hB hO hJ => .inl ⟨(wanted_of rfl (hJ 5 rfl)), fun K Q hK => by
        have e19 : a.tmps[19]?.getD undef = .int .i64 e3 := hO 19 rfl
        clear hO hJ
        exact wp_move_of e19 fun h => hK _ _ (Below.refl _ _) h⟩,
      fun a u hB hO hJ => .inl ⟨(wanted_of rfl (hJ 5 rfl)), fun K Q hK => by
        have e109 : a.tmps[109]?.getD undef = _ := hJ 6 rfl
        have e110 : a.tmps[110]?.getD undef = _ := hJ 7 rfl
        clear hO hJ
        go_simp
        try go_bits
        exact hK _ _ (Below.refl _ _) rfl⟩,
      fun a u hB hO hJ => .inl ⟨rfl, fun K Q hK => by
        have e108 : a.tmps[108]?.getD undef = _ := hJ 5 rfl
        have e111 : a.tmps[111]?.getD undef = _ := hJ 8 rfl
        clear hO hJ
        go_simp
        try go_bits
        exact hK _ _ (Below.refl _ _) rfl⟩,
      fun a u hB hO hJ => .inl ⟨rfl, fun K Q hK => by
        have e112 : a.tmps[112]?.getD undef = _ := hJ 9 rfl
        clear hO hJ
        exact wp_move_of e112 fun h => hK _ _ (Below.refl _ _) h⟩,
      fun a u hB hO hJ => .inl ⟨(wanted_of rfl (hJ 10 rfl)), fun K Q hK => by
        have e16 : a.tmps[16]?.getD undef = .pointer (some ⟨w11.heap.size, 0, none⟩) := hO 16 rfl
        clear hO hJ
        obtain ⟨q1, q2, q3⟩ := row_facts ((hB.block (w11.heap.size) (by simp only [World.size_alloc]; omega)).trans RP_Q.out)
        go_simp
        exact hK _ _ (Below.refl _ _) rfl⟩,
      fun a u hB hO hJ => .inl ⟨(wanted_of rfl (hJ 10 rfl)), fun K Q hK => by
        have e18 : a.tmps[18]?.getD undef = .pointer (some ⟨w12.heap.size, 0, none⟩) := hO 18 rfl
        clear hO hJ
        obtain ⟨q1, q2, q3⟩ := row_facts ((hB.block (w12.heap.size) (by simp only [World.size_alloc]; omega)).trans RQ.out)
        go_simp
        exact hK _ _ (Below.refl _ _) rfl⟩,
      fun a u hB hO hJ => .inl ⟨(wanted_of rfl (hJ 10 rfl)), fun K Q hK => by
        have e114 : a.tmps[114]?.getD undef = _ := hJ 11 rfl
        have e115 : a.tmps[115]?.getD undef = _ := hJ 12 rfl
        clear hO hJ
        go_simp
        refine (same56 a11 a12 n11 n12 c11 c12 m3 l3 _ (Ix11_Q.out.below hB) (Ix12_Q.out.below hB)).mono ?_
        rintro e w7 ⟨rfl, b7⟩
        exact hK _ _ b7 rfl⟩,
      fun a u hB hO hJ => .inl ⟨(wanted_of rfl (hJ 10 rfl)), fun K Q hK => by
        have e116 : a.tmps[116]?.getD undef = _ := hJ 13 rfl
        clear hO hJ
        go_simp
        try go_bits
        exact hK _ _ (Below.refl _ _) rfl⟩,
      fun a u hB hO hJ => .inl ⟨rfl, fun K Q hK => by
        have e113 : a.tmps[113]?.getD undef = _ := hJ 10 rfl
        have e117 : a.tmps[117]?.getD undef = _ := hJ 14 rfl
        clear hO hJ
        go_simp
        try go_bits
        exact hK _ _ (Below.refl _ _) rfl⟩,
      trivial⟩ ?fin18
    case fin18 =>
      intro u hB
      simp only [Act.put, List.setIfInBounds_toArray, List.set_cons_zero, List.set_cons_succ, List.drop_succ_cons, List.drop_nil, List.take_succ_cons, List.take_nil, Laid]
      have zu := hB.size
      simp only [World.size_alloc] at zu
      have Wu := hide (AQ.out.trans (hB.mono (by simp only [World.size_alloc]; omega)))
      have RC_u := hide ((hB.block (w.heap.size) (by simp only [World.size_alloc]; omega)).trans RC_Q.out)
      have RK_u := hide ((hB.block (w.heap.size + 1) (by simp only [World.size_alloc]; omega)).trans RK_Q.out)
      have RA_u := hide ((hB.block (w4.heap.size) (by simp only [World.size_alloc]; omega)).trans RA_Q.out)
      have RB_u := hide ((hB.block (w5.heap.size) (by simp only [World.size_alloc]; omega)).trans RB_Q.out)
      have RP_u := hide ((hB.block (w11.heap.size) (by simp only [World.size_alloc]; omega)).trans RP_Q.out)
      have RQ_u := hide ((hB.block (w12.heap.size) (by simp only [World.size_alloc]; omega)).trans RQ.out)
      have Ic_u := hide (Ic_Q.out.below hB)
      have Ik_u := hide (Ik_Q.out.below hB)
      have Ix11_u := hide (Ix11_Q.out.below hB)
      have Ix12_u := hide (Ix12_Q.out.below hB)
      clear hB
      obtain ⟨oK121, oK122, oK123⟩ := row_facts RK_u.out
      go_wp2_with fail
      have G13 := (rad57 a' n' c' v O m l' _ HN'.out HL'.out hm QV.out QO.out Ik_u.out)
      unfold RetAdd at G13
      rw [← Q10.out, ← Q11.out, ← Q12.out] at G13
      refine G13.mono ?_
      clear G13
      rintro r w13 ⟨s13, rfl, i13, b13⟩
      clear oK121 oK122 oK123
      obtain ⟨a13, n13, c13, rfl, hh13, -⟩ := i13.len'
      have z13 := b13.size
      have W13 := hide (Wu.out.trans (b13.mono (by omega)))
      have RC_13 := hide ((b13.block (w.heap.size) (by omega)).trans RC_u.out)
      have RK_13 := hide ((b13.block (w.heap.size + 1) (by omega)).trans RK_u.out)
      have RA_13 := hide ((b13.block (w4.heap.size) (by omega)).trans RA_u.out)
      have RB_13 := hide ((b13.block (w5.heap.size) (by omega)).trans RB_u.out)
      have RP_13 := hide ((b13.block (w11.heap.size) (by omega)).trans RP_u.out)
      have RQ_13 := hide ((b13.block (w12.heap.size) (by omega)).trans RQ_u.out)
      have Ic_13 := hide (Ic_u.out.below b13)
      have Ik_13 := hide (Ik_u.out.below b13)
      clear b13
      have J13 := hide i13
      clear hh13 i13
      go_wp2_with (refine wpList_storeW (w11.heap.size) _ rfl rfl 69 _ RP_13.out (by kernel_rfl) rfl rfl ?_)
      intro w13s k13s g13s z13s
      have RP_13s := hide k13s
      have RC_13s := hide ((g13s.block (w.heap.size) (by omega) (fun e => by have := Option.some.inj e; omega)).trans RC_13.out)
      have RK_13s := hide ((g13s.block (w.heap.size + 1) (by omega) (fun e => by have := Option.some.inj e; omega)).trans RK_13.out)
      have RA_13s := hide ((g13s.block (w4.heap.size) (by omega) (fun e => by have := Option.some.inj e; omega)).trans RA_13.out)
      have RB_13s := hide ((g13s.block (w5.heap.size) (by omega) (fun e => by have := Option.some.inj e; omega)).trans RB_13.out)
      have RQ_13s := hide ((g13s.block (w12.heap.size) (by omega) (fun e => by have := Option.some.inj e; omega)).trans RQ_13.out)
      have Ic_13s := hide (Ic_13.out.row RP_13.out (no_u8' _ _ _ _) g13s)
      have Ik_13s := hide (Ik_13.out.row RP_13.out (no_u8' _ _ _ _) g13s)
      have Ix13_13s := hide (J13.out.row RP_13.out (no_u8' _ _ _ _) g13s)
      have W13s := hide (W13.out.grown g13s (by omega) (fun i hi => by cases hi; omega))
      clear k13s g13s
      obtain ⟨oK131, oK132, oK133⟩ := row_facts RK_13s.out
      go_wp2_with fail
      have G14 := (rad58 a' n' c' v O m l' _ HN'.out HL'.out hm hm2 QV.out QO.out Ik_13s.out)
      unfold RetAdd at G14
      rw [← Q10.out, ← Q11.out, ← Q12.out] at G14
      refine G14.mono ?_
      clear G14
      rintro r w14 ⟨s14, rfl, i14, b14⟩
      clear oK131 oK132 oK133
      obtain ⟨a14, n14, c14, rfl, hh14, -⟩ := i14.len'
      have z14 := b14.size
      have W14 := hide (W13s.out.trans (b14.mono (by omega)))
      have RC_14 := hide ((b14.block (w.heap.size) (by omega)).trans RC_13s.out)
      have RK_14 := hide ((b14.block (w.heap.size + 1) (by omega)).trans RK_13s.out)
      have RA_14 := hide ((b14.block (w4.heap.size) (by omega)).trans RA_13s.out)
      have RB_14 := hide ((b14.block (w5.heap.size) (by omega)).trans RB_13s.out)
      have RP_14 := hide ((b14.block (w11.heap.size) (by omega)).trans RP_13s.out)
      have RQ_14 := hide ((b14.block (w12.heap.size) (by omega)).trans RQ_13s.out)
      have Ic_14 := hide (Ic_13s.out.below b14)
      have Ik_14 := hide (Ik_13s.out.below b14)
      have Ix13_14 := hide (Ix13_13s.out.below b14)
      clear b14
      have J14 := hide i14
      clear hh14 i14
      go_wp2_with (refine wpList_storeW (w12.heap.size) _ rfl rfl 69 _ RQ_14.out (by kernel_rfl) rfl rfl ?_)
      intro w14s k14s g14s z14s
      have RQ_14s := hide k14s
      have RC_14s := hide ((g14s.block (w.heap.size) (by omega) (fun e => by have := Option.some.inj e; omega)).trans RC_14.out)
      have RK_14s := hide ((g14s.block (w.heap.size + 1) (by omega) (fun e => by have := Option.some.inj e; omega)).trans RK_14.out)
      have RA_14s := hide ((g14s.block (w4.heap.size) (by omega) (fun e => by have := Option.some.inj e; omega)).trans RA_14.out)
      have RB_14s := hide ((g14s.block (w5.heap.size) (by omega) (fun e => by have := Option.some.inj e; omega)).trans RB_14.out)
      have RP_14s := hide ((g14s.block (w11.heap.size) (by omega) (fun e => by have := Option.some.inj e; omega)).trans RP_14.out)
      have Ic_14s := hide (Ic_14.out.row RQ_14.out (no_u8' _ _ _ _) g14s)
      have Ik_14s := hide (Ik_14.out.row RQ_14.out (no_u8' _ _ _ _) g14s)
      have Ix13_14s := hide (Ix13_14.out.row RQ_14.out (no_u8' _ _ _ _) g14s)
      have Ix14_14s := hide (J14.out.row RQ_14.out (no_u8' _ _ _ _) g14s)
      have W14s := hide (W14.out.grown g14s (by omega) (fun i hi => by cases hi; omega))
      clear k14s g14s
      obtain ⟨oP141, oP142, oP143⟩ := row_facts RP_14s.out
      obtain ⟨oQ141, oQ142, oQ143⟩ := row_facts RQ_14s.out
      go_wp2_with fail
      refine (same56 a13 a14 n13 n14 c13 c14 m4 l4 _ Ix13_14s.out Ix14_14s.out).mono ?_
      rintro r w15 ⟨rfl, b15⟩
      clear oP141 oP142 oP143 oQ141 oQ142 oQ143
      have z15 := b15.size
      have W15 := hide (W14s.out.trans (b15.mono (by omega)))
      have RC_15 := hide ((b15.block (w.heap.size) (by omega)).trans RC_14s.out)
      have RK_15 := hide ((b15.block (w.heap.size + 1) (by omega)).trans RK_14s.out)
      have RA_15 := hide ((b15.block (w4.heap.size) (by omega)).trans RA_14s.out)
      have RB_15 := hide ((b15.block (w5.heap.size) (by omega)).trans RB_14s.out)
      have RP_15 := hide ((b15.block (w11.heap.size) (by omega)).trans RP_14s.out)
      have RQ_15 := hide ((b15.block (w12.heap.size) (by omega)).trans RQ_14s.out)
      have Ic_15 := hide (Ic_14s.out.below b15)
      have Ik_15 := hide (Ik_14s.out.below b15)
      have Ix13_15 := hide (Ix13_14s.out.below b15)
      have Ix14_15 := hide (Ix14_14s.out.below b15)
      clear b15
      go_wp2_with fail
      go_ret
      exact ⟨rfl, W15.out⟩

end Go.Proofs.Ytellclclpmofcaa
