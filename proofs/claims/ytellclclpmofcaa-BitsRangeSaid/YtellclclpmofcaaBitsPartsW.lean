/-
  The walk of crossbarlaw02.BitsParts; conditions: the arguments read as data, the bytes within the bounds.
-/
import Derived.Test.YtellclclpmofcaaBParts
import Derived.Test.YtellclclpmofcaaK
import Derived.Deep.DeepCutAuto
namespace Go.Proofs.Ytellclclpmofcaa
open Go.RowKit
set_option linter.unusedVariables false

theorem wpList_addI {ops : Array Oper} {Q : Exit → Act → World → Prop} {a : Act} {w : World} {rest : List Oper} {dst : Option Tmp} {x y : Operand} {t t2 ty : TypeId} {pos : String} {after : Array Edge} {guard : Option (Nat × Bool)} {X Y Z : Nat}
    (hx : a.eval x = .int .i64 (X : Int)) (hy : a.eval y = .int .i64 (Y : Int)) (hw : Region.wanted ⟨dst, .binOp .add t x y t2, ty, pos, after, guard⟩ (yielded ops a.tmps) = true) (hZ : Z ≤ 9223372036854775807) (h : X + Y = Z)
    (hK : wpList Try.prog ops Q rest (a.put dst (.int .i64 (Z : Int))) w) : wpList Try.prog ops Q (⟨dst, .binOp .add t x y t2, ty, pos, after, guard⟩ :: rest) a w := by
  refine wpList_bin (by simp) hx hy hw ?_ hK
  have h3 : (X : Int) + (Y : Int) = (Z : Int) := by omega
  simp [binOp, Op.intArith, h3, wrapI64 (Z : Int) (by omega) (by omega)]

theorem wpList_add64 {ops : Array Oper} {Q : Exit → Act → World → Prop} {a : Act} {w : World} {rest : List Oper} {dst : Option Tmp} {x y : Operand} {t t2 ty : TypeId} {pos : String} {after : Array Edge} {guard : Option (Nat × Bool)} {X Y Z : Nat}
    (hx : a.eval x = .int .u64 (X : Int)) (hy : a.eval y = .int .u64 (Y : Int)) (hw : Region.wanted ⟨dst, .binOp .add t x y t2, ty, pos, after, guard⟩ (yielded ops a.tmps) = true) (hZ : X + Y < 18446744073709551616) (h : X + Y = Z)
    (hK : wpList Try.prog ops Q rest (a.put dst (.int .u64 (Z : Int))) w) : wpList Try.prog ops Q (⟨dst, .binOp .add t x y t2, ty, pos, after, guard⟩ :: rest) a w := by
  subst h
  refine wpList_bin (by simp) hx hy hw ?_ hK
  simp [binOp, Op.intArith, IntKind.wrap_u64]
  omega

theorem wpOp_at {P : Program} {ops : Array Oper} {Q : Exit → Act → World → Prop} {i : Nat} {K : Act → World → Prop} {a : Act} {w : World} {o : Oper} (ho : ops[i]? = some o) (hg : o.guard = none) (h : o.wp P a w K Q) : wpOp P ops Q i K a w := by
  unfold wpOp
  rw [ho]
  simp only []
  rw [if_pos (by unfold Region.wanted; rw [hg])]
  exact .inl h

theorem wp_storeW {a : Act} {w : World} {K : Act → World → Prop} {Q : Exit → Act → World → Prop} {ty : TypeId} {x y : Operand} {ty2 : TypeId} {pos : String} {after : Array Edge}
    (g : Nat) (cells : Array Value) (hx : a.eval x = .pointer (some ⟨g, 0, none⟩)) (hy : a.eval y = .agg cells)
    (t : TypeId) (old : Array Value) (hg : w.heap[g]? = some (.cells old t (0, 0))) (hi : (Try.prog.info? ty).map (·.size) = some cells.size)
    (hold : old.size = cells.size) (h1 : cells.toList.all (·.oneCell') = true)
    (h : ∀ w', w'.heap[g]? = some (.cells cells t (0, 0)) → w.grownBy w' (some g) → w'.heap.size = w.heap.size → K a w') : (Oper.mk none (.store ty x y) ty2 pos after none).wp Try.prog a w K Q :=
  wp_store_row ty x y rfl g cells hx hy t old hg hi hold (by rw [← h1, Array.all_toList]) (h _ (setRow_heap w g old cells t _ hg) ⟨rfl, rfl, rfl, by simp, fun k _ hk => setRow_other w g k _ (fun e => hk (by simp [e]))⟩ (by simp))

def PAdd (l : List UInt8) (m e : Int) (v : Value) (w : World) : Prop := ∃ s, v = .tuple #[.agg #[s, .int .i64 m], .int .i64 e] ∧ IsB w s l
theorem PAdd.stable (l : List UInt8) (m e : Int) : ∀ v w w', PAdd l m e v w → Below w.heap.size w w' → PAdd l m e v w' := fun _ _ _ ⟨s, h, ho⟩ hb => ⟨s, h, ho.below hb⟩
def PInkB (l : List UInt8) (m : Int) (v : Value) (w : World) : Prop := ∃ s, v = .agg #[s, .int .i64 m] ∧ IsB w s l
theorem PInkB.stable (l : List UInt8) (m : Int) : ∀ v w w', PInkB l m v w → Below w.heap.size w w' → PInkB l m v w' := fun _ _ _ ⟨s, h, ho⟩ hb => ⟨s, h, ho.below hb⟩

set_option maxRecDepth 100000 in
set_option maxHeartbeats 4000000 in
theorem bitsParts_ok (a a' : Option Addr) (n c n' c' v mm nn : Nat) (P E m : Int) (l l' : List UInt8) (w : World) (hn : n = l.length) (hl : n ≤ 3000) (hn' : n' = l'.length) (hl' : n' ≤ 3000)
    (hmm : mm ≤ 255) (hnn : nn ≤ 255) (hm0 : m ≤ 9223372036854775807) (hv : v < 18446744073709551616) (h : IsB w (.slice a n c) l) (h' : IsB w (.slice a' n' c') l') :
    Calls Try.prog 13 #[.agg #[.slice a n c, .int .i64 P, .int .i64 E], .agg #[.slice a' n' c', .int .i64 m], .int .u8 (mm : Int), .int .u8 (nn : Int), .int .u64 (v : Int)] w fun r w' => r = .returned (.bool true) ∧ Below w.heap.size w w' := by
  have hli : (n : Int) ≤ 3000 := by omega
  have hli' : (n' : Int) ≤ 3000 := by omega
  have hmi : (mm : Int) ≤ 255 := by omega
  have hni : (nn : Int) ≤ 255 := by omega
  have HL : Hid (n ≤ 1000000) := hide (by omega)
  have HL' : Hid (n' ≤ 1000000) := hide (by omega)
  have HN := hide hn
  have HN' := hide hn'
  have B0 := (((Below.refl w.heap.size w).alloc (Nat.le_refl _) (.cells #[.slice a n c, .int .i64 P, .int .i64 E] 67)).alloc (by simp) (.cells #[.slice a' n' c', .int .i64 m] 69))
  have HB0 := hide B0
  have IC0 := hide (h.below B0)
  have IK0 := hide (h'.below B0)
  obtain ⟨x, hx⟩ : ∃ x, x = mm % 33 := ⟨_, rfl⟩
  obtain ⟨y, hy⟩ : ∃ y, y = nn % 32 := ⟨_, rfl⟩
  have hx32 : x ≤ 32 := by omega
  have hy31 : y ≤ 31 := by omega
  have hxi : (x : Int) ≤ 32 := by omega
  have hyi : (y : Int) ≤ 31 := by omega
  have HX : Hid ((mm : Int) % 33 = x) := hide (by omega)
  have HY : Hid ((nn : Int) % 32 = y) := hide (by omega)
  obtain ⟨s, hs⟩ : ∃ s, x + y = s := ⟨_, rfl⟩
  have hs63 : s ≤ 63 := by omega
  have HS := hide hs
  -- the reads
  have hpg := parts_get l P E x y hx32 hy31
  have hg1 := getN_lt l P E x
  have hg2 := getN_lt l (getP l P E x) (getE l P E x) y
  rw [hs] at hpg
  obtain ⟨p1, hp1⟩ : ∃ z, z = getP l P E x := ⟨_, rfl⟩
  obtain ⟨e1, he1⟩ : ∃ z, z = getE l P E x := ⟨_, rfl⟩
  obtain ⟨n1, hn1⟩ : ∃ z, z = getN l P E x := ⟨_, rfl⟩
  rw [← hp1, ← he1, ← hn1] at hpg
  rw [← hn1] at hg1
  rw [← hp1, ← he1] at hg2
  obtain ⟨p2, hp2⟩ : ∃ z, z = getP l p1 e1 y := ⟨_, rfl⟩
  obtain ⟨e2, he2⟩ : ∃ z, z = getE l p1 e1 y := ⟨_, rfl⟩
  obtain ⟨n2, hn2⟩ : ∃ z, z = getN l p1 e1 y := ⟨_, rfl⟩
  obtain ⟨p3, hp3⟩ : ∃ z, z = getP l P E s := ⟨_, rfl⟩
  obtain ⟨e3, he3⟩ : ∃ z, z = getE l P E s := ⟨_, rfl⟩
  obtain ⟨n3, hn3⟩ : ∃ z, z = getN l P E s := ⟨_, rfl⟩
  rw [← hp2, ← he2, ← hn2, ← hp3, ← he3, ← hn3] at hpg
  rw [← hn2] at hg2
  have Q1 := hide hp1
  have Q2 := hide he1
  have Q3 := hide hn1
  have Q4 := hide hp2
  have Q5 := hide he2
  have Q6 := hide hn2
  have Q7 := hide hp3
  have Q8 := hide he3
  have Q9 := hide hn3
  obtain ⟨z, hz⟩ : ∃ z, n1 <<< y = z := ⟨_, rfl⟩
  rw [hz] at hpg
  have hzl : z < 2 ^ 63 := by
    rw [← hz, Nat.shiftLeft_eq]
    calc n1 * 2 ^ y < 2 ^ x * 2 ^ y := Nat.mul_lt_mul_of_pos_right hg1 (Nat.pow_pos (by decide))
      _ = 2 ^ (x + y) := (Nat.pow_add _ _ _).symm
      _ ≤ 2 ^ 63 := Nat.pow_le_pow_right (by decide) (by omega)
  have hn2l : n2 < 2 ^ 31 := Nat.lt_of_lt_of_le hg2 (Nat.pow_le_pow_right (by decide) hy31)
  have HZ := hide hz
  have HZL : Hid (n1 <<< y < 18446744073709551616) := hide (by rw [hz]; omega)
  have HZ2 : Hid (z + n2 < 18446744073709551616) := hide (by omega)
  have HPG := hide hpg
  -- the inks
  obtain ⟨ps, hps0⟩ : ∃ z, 2 ^ s = z := ⟨_, rfl⟩
  obtain ⟨ps1, hps10⟩ : ∃ z, ps - 1 = z := ⟨_, rfl⟩
  obtain ⟨vv, hvv0⟩ : ∃ z, v &&& ps1 = z := ⟨_, rfl⟩
  obtain ⟨py, hpy0⟩ : ∃ z, 2 ^ y = z := ⟨_, rfl⟩
  obtain ⟨py1, hpy10⟩ : ∃ z, py - 1 = z := ⟨_, rfl⟩
  obtain ⟨h1, hh10⟩ : ∃ z, vv >>> y = z := ⟨_, rfl⟩
  obtain ⟨h2, hh20⟩ : ∃ z, vv &&& py1 = z := ⟨_, rfl⟩
  have hps63 : 2 ^ s ≤ 2 ^ 63 := Nat.pow_le_pow_right (by decide) hs63
  have hpy31 : 2 ^ y ≤ 2 ^ 31 := Nat.pow_le_pow_right (by decide) hy31
  have hps : 1 ≤ ps ∧ ps < 18446744073709551616 := ⟨by rw [← hps0]; exact Nat.one_le_two_pow, by omega⟩
  have hpy : 1 ≤ py ∧ py < 18446744073709551616 := ⟨by rw [← hpy0]; exact Nat.one_le_two_pow, by omega⟩
  have hps1 : ps1 < 18446744073709551616 := by omega
  have hpy1 : py1 < 18446744073709551616 := by omega
  have hvs : vv < 2 ^ (x + y) := by
    rw [hs, hps0, ← hvv0]
    have := Nat.and_lt_two_pow v (n := s) (show ps1 < 2 ^ s by omega)
    omega
  have hvv : vv < 18446744073709551616 := by rw [hs] at hvs; omega
  have hh1 : h1 < 18446744073709551616 := by
    rw [← hh10, Nat.shiftRight_eq_div_pow]
    exact Nat.lt_of_le_of_lt (Nat.div_le_self _ _) hvv
  have hh2 : h2 < 18446744073709551616 := by
    rw [← hh20]
    have := Nat.and_lt_two_pow vv (n := y) (show py1 < 2 ^ y by omega)
    omega
  obtain ⟨e4, ha3, hb3, hc3, hb1, hb2, hlen, hmle, hmeq⟩ := parts_add l' m x y vv hx32 hy31 hvs
  rw [hh10] at ha3 hb3 hb1 hb2 hlen hmle hmeq
  rw [show vv &&& (2 ^ y - 1) = h2 by rw [hpy0, hpy10]; exact hh20] at hb3 hb1 hb2
  rw [hs] at hc3 hb1 hb2
  obtain ⟨l1, hl1⟩ : ∃ z, addL l' m x h1 = z := ⟨_, rfl⟩
  obtain ⟨m1, hm1'⟩ : ∃ z, addM l' m x h1 = z := ⟨_, rfl⟩
  obtain ⟨l2, hl2⟩ : ∃ z, addL l' m s vv = z := ⟨_, rfl⟩
  obtain ⟨m2, hm2'⟩ : ∃ z, addM l' m s vv = z := ⟨_, rfl⟩
  rw [hl1, hm1'] at hb3 hb1 hb2
  rw [hl2] at hb1
  rw [hm2'] at hb2
  rw [hl1] at hlen
  rw [hm1'] at hmle hmeq
  have hm1 : m1 ≤ 9223372036854775807 := by
    cases hi : inkB l' m
    · rw [hmeq hi]; exact hm0
    · have := (inkB_spec.1 hi).2.1
      omega
  have hm := hm0
  have HA1 := hide hl1
  have HA2 := hide hm1'
  have HA3 := hide ha3
  have HB1 := hide hb1
  have HB2 := hide hb2
  have HB3 := hide hb3
  have HC1 := hide hl2
  have HC2 := hide hm2'
  have HC3 := hide hc3
  have HPS := hide hps0
  have HPS1 := hide hps10
  have HVV := hide hvv0
  have HPY := hide hpy0
  have HPY1 := hide hpy10
  have HH1 := hide hh10
  have HH2 := hide hh20
  have HV := hide hv
  have HLL : Hid (l1.length ≤ 1000000) := hide (by omega)
  have KPS := hide hps
  have KPY := hide hpy
  have KPS1 := hide hps1
  have KPY1 := hide hpy1
  have KVV := hide hvv
  have KH1 := hide hh1
  have KH2 := hide hh2
  clear hn hl hn' hl' h h' B0 hx hy hs hpg hg1 hg2 hp1 he1 hn1 hp2 he2 hn2 hp3 he3 hn3 hz hzl hn2l hps0 hps10 hvv0 hpy0 hpy10 hh10 hh20 hps63 hpy31 hvs ha3 hb3 hc3 hb1 hb2 hlen hmle hmeq hl1 hm1' hl2 hm2' hv hps hpy hps1 hpy1 hvv hh1 hh2
  go_enter Try.func13, Try.ntmps13
  go_wp2_with fail
  refine (awake02 _).mono ?_
  rintro r w2 ⟨rfl, b2⟩
  have z2 := b2.size
  simp only [World.size_alloc] at z2
  have W2 := hide (HB0.out.trans (b2.mono (by simp only [World.size_alloc]; omega)))
  have RC2 := hide ((b2.block w.heap.size (by simp only [World.size_alloc]; omega)).trans (heap_alloc2_old w (.cells #[.slice a n c, .int .i64 P, .int .i64 E] 67) (.cells #[.slice a' n' c', .int .i64 m] 69)))
  have RK2 := hide ((b2.block (w.heap.size + 1) (by simp only [World.size_alloc]; omega)).trans (heap_alloc2_new w (.cells #[.slice a n c, .int .i64 P, .int .i64 E] 67) (.cells #[.slice a' n' c', .int .i64 m] 69)))
  have IC2 := hide (IC0.out.below b2)
  have IK2 := hide (IK0.out.below b2)
  clear b2
  obtain ⟨oC01, oC02, oC03⟩ := row_facts RC2.out
  obtain ⟨oK01, oK02, oK03⟩ := row_facts RK2.out
  go_upto_region 6 with fail
  rw [HX.out, HY.out]
  clear oC01 oC02 oC03 oK01 oK02 oK03
  obtain ⟨oC21, oC22, oC23⟩ := row_facts RC2.out
  go_wp2_with fail
  have G3 := (get46 a n c P E x l w2 HN.out HL.out IC2.out)
  unfold RetGet at G3
  rw [← Q1.out, ← Q2.out, ← Q3.out] at G3
  refine G3.mono ?_
  clear G3
  rintro r w3 ⟨rfl, b3⟩
  clear oC21 oC22 oC23
  have z3 := b3.size
  have W3 := hide (W2.out.trans (b3.mono (by omega)))
  have RC_3 := hide ((b3.block (w.heap.size) (by omega)).trans RC2.out)
  have RK_3 := hide ((b3.block (w.heap.size + 1) (by omega)).trans RK2.out)
  have Ic_3 := hide (IC2.out.below b3)
  have Ik_3 := hide (IK2.out.below b3)
  clear b3
  have AA := hide (W3.out.alloc (by omega) (.cells #[.slice a n c, .int .i64 p1, .int .i64 e1] 67))
  have RC_A := hide ((heap_alloc_old w3 (.cells #[.slice a n c, .int .i64 p1, .int .i64 e1] 67) (show w.heap.size < w3.heap.size by omega)).trans RC_3.out)
  have RK_A := hide ((heap_alloc_old w3 (.cells #[.slice a n c, .int .i64 p1, .int .i64 e1] 67) (show w.heap.size + 1 < w3.heap.size by omega)).trans RK_3.out)
  have Ic_A := hide (Ic_3.out.below ((Below.refl _ _).alloc (Nat.le_refl _) (.cells #[.slice a n c, .int .i64 p1, .int .i64 e1] 67)))
  have Ik_A := hide (Ik_3.out.below ((Below.refl _ _).alloc (Nat.le_refl _) (.cells #[.slice a n c, .int .i64 p1, .int .i64 e1] 67)))
  have RA := hide (heap_alloc_new w3 (.cells #[.slice a n c, .int .i64 p1, .int .i64 e1] 67))
  obtain ⟨oA31, oA32, oA33⟩ := row_facts RA.out
  go_wp2_with fail
  have G4 := (get46 a n c p1 e1 y l _ HN.out HL.out Ic_A.out)
  unfold RetGet at G4
  rw [← Q4.out, ← Q5.out, ← Q6.out] at G4
  refine G4.mono ?_
  clear G4
  rintro r w4 ⟨rfl, b4⟩
  clear oA31 oA32 oA33
  have z4 := b4.size
  simp only [World.size_alloc] at z4
  have W4 := hide (AA.out.trans (b4.mono (by simp only [World.size_alloc]; omega)))
  have RC_4 := hide ((b4.block (w.heap.size) (by simp only [World.size_alloc]; omega)).trans RC_A.out)
  have RK_4 := hide ((b4.block (w.heap.size + 1) (by simp only [World.size_alloc]; omega)).trans RK_A.out)
  have RA_4 := hide ((b4.block (w3.heap.size) (by simp only [World.size_alloc]; omega)).trans RA.out)
  have Ic_4 := hide (Ic_A.out.below b4)
  have Ik_4 := hide (Ik_A.out.below b4)
  clear b4
  have AB := hide (W4.out.alloc (by omega) (.cells #[.slice a n c, .int .i64 p2, .int .i64 e2] 67))
  have RC_B := hide ((heap_alloc_old w4 (.cells #[.slice a n c, .int .i64 p2, .int .i64 e2] 67) (show w.heap.size < w4.heap.size by omega)).trans RC_4.out)
  have RK_B := hide ((heap_alloc_old w4 (.cells #[.slice a n c, .int .i64 p2, .int .i64 e2] 67) (show w.heap.size + 1 < w4.heap.size by omega)).trans RK_4.out)
  have RA_B := hide ((heap_alloc_old w4 (.cells #[.slice a n c, .int .i64 p2, .int .i64 e2] 67) (show w3.heap.size < w4.heap.size by omega)).trans RA_4.out)
  have Ic_B := hide (Ic_4.out.below ((Below.refl _ _).alloc (Nat.le_refl _) (.cells #[.slice a n c, .int .i64 p2, .int .i64 e2] 67)))
  have Ik_B := hide (Ik_4.out.below ((Below.refl _ _).alloc (Nat.le_refl _) (.cells #[.slice a n c, .int .i64 p2, .int .i64 e2] 67)))
  have RB := hide (heap_alloc_new w4 (.cells #[.slice a n c, .int .i64 p2, .int .i64 e2] 67))
  obtain ⟨oC41, oC42, oC43⟩ := row_facts RC_B.out
  go_wp2_with (((with_reducible show wpList _ _ _ (Oper.mk _ (.binOp .add 3 _ _ _) _ _ _ _ :: _) _ _); refine wpList_addI (X := x) (Y := y) (Z := s) rfl rfl rfl (by omega) HS.out ?_))
  have G5 := (get46 a n c P E s l _ HN.out HL.out Ic_B.out)
  unfold RetGet at G5
  rw [← Q7.out, ← Q8.out, ← Q9.out] at G5
  refine G5.mono ?_
  clear G5
  rintro r w5 ⟨rfl, b5⟩
  clear oC41 oC42 oC43
  have z5 := b5.size
  simp only [World.size_alloc] at z5
  have W5 := hide (AB.out.trans (b5.mono (by simp only [World.size_alloc]; omega)))
  have RC_5 := hide ((b5.block (w.heap.size) (by simp only [World.size_alloc]; omega)).trans RC_B.out)
  have RK_5 := hide ((b5.block (w.heap.size + 1) (by simp only [World.size_alloc]; omega)).trans RK_B.out)
  have RA_5 := hide ((b5.block (w3.heap.size) (by simp only [World.size_alloc]; omega)).trans RA_B.out)
  have RB_5 := hide ((b5.block (w4.heap.size) (by simp only [World.size_alloc]; omega)).trans RB.out)
  have Ic_5 := hide (Ic_B.out.below b5)
  have Ik_5 := hide (Ik_B.out.below b5)
  clear b5
  have AD := hide (W5.out.alloc (by omega) (.cells #[.slice a n c, .int .i64 p3, .int .i64 e3] 67))
  have RC_D := hide ((heap_alloc_old w5 (.cells #[.slice a n c, .int .i64 p3, .int .i64 e3] 67) (show w.heap.size < w5.heap.size by omega)).trans RC_5.out)
  have RK_D := hide ((heap_alloc_old w5 (.cells #[.slice a n c, .int .i64 p3, .int .i64 e3] 67) (show w.heap.size + 1 < w5.heap.size by omega)).trans RK_5.out)
  have RA_D := hide ((heap_alloc_old w5 (.cells #[.slice a n c, .int .i64 p3, .int .i64 e3] 67) (show w3.heap.size < w5.heap.size by omega)).trans RA_5.out)
  have RB_D := hide ((heap_alloc_old w5 (.cells #[.slice a n c, .int .i64 p3, .int .i64 e3] 67) (show w4.heap.size < w5.heap.size by omega)).trans RB_5.out)
  have Ic_D := hide (Ic_5.out.below ((Below.refl _ _).alloc (Nat.le_refl _) (.cells #[.slice a n c, .int .i64 p3, .int .i64 e3] 67)))
  have Ik_D := hide (Ik_5.out.below ((Below.refl _ _).alloc (Nat.le_refl _) (.cells #[.slice a n c, .int .i64 p3, .int .i64 e3] 67)))
  have RD := hide (heap_alloc_new w5 (.cells #[.slice a n c, .int .i64 p3, .int .i64 e3] 67))
  obtain ⟨oB51, oB52, oB53⟩ := row_facts RB_D.out
  obtain ⟨oD51, oD52, oD53⟩ := row_facts RD.out
  go_upto_if 64 with fail
  go_cut [] (fun wx => wx = (w5.alloc (.cells #[.slice a n c, .int .i64 p3, .int .i64 e3] 67)))
  case first =>
    rcases HPG.out with ⟨rfl, rfl, rfl, g3⟩ | ⟨g1, g2⟩
    · have HG3 := hide g3.symm
      clear g3
      go_wp2_with (first | ((with_reducible show wpList _ _ _ (Oper.mk _ (.binOp .shl 70 _ _ _) _ _ _ _ :: _) _ _); refine wpList_shlK (X := n1) (s := y) (Z := z) rfl rfl rfl HZL.out HZ.out ?_) | ((with_reducible show wpList _ _ _ (Oper.mk _ (.binOp .add 70 _ _ _) _ _ _ _ :: _) _ _); refine wpList_add64 (X := z) (Y := n2) (Z := n3) rfl rfl rfl HZ2.out HG3.out ?_))
      go_meet
      case rel => rfl
    · have g1' : (e2 == 0) = false := by simpa using g1
      have g2' : (e3 == 0) = false := by simpa using g2
      clear g1 g2
      go_wp2_with fail
      go_meet
      case rel => rfl
  case rest =>
    clear oB51 oB52 oB53 oD51 oD52 oD53
    obtain rfl := hcut
    obtain ⟨oK61, oK62, oK63⟩ := row_facts RK_D.out
    go_upto_region 15 with (first | ((with_reducible show wpList _ _ _ (Oper.mk _ (.binOp .add 3 _ _ _) _ _ _ _ :: _) _ _); refine wpList_addI (X := x) (Y := y) (Z := s) rfl rfl rfl (by omega) HS.out ?_) | ((with_reducible show wpList _ _ _ (Oper.mk _ (.binOp .shl 70 _ _ _) _ _ _ _ :: _) _ _); (first | refine wpList_shl1K (s := s) (Z := ps) rfl rfl rfl (by omega) HPS.out ?_)) | ((with_reducible show wpList _ _ _ (Oper.mk _ (.binOp .sub 70 _ _ _) _ _ _ _ :: _) _ _); refine wpList_sub1 (X := ps) (Z := ps1) rfl rfl rfl KPS.out.2 KPS.out.1 HPS1.out ?_) | ((with_reducible show wpList _ _ _ (Oper.mk _ (.binOp .and 70 _ _ _) _ _ _ _ :: _) _ _); refine wpList_and (X := v) (Y := ps1) (Z := vv) rfl rfl rfl HV.out KPS1.out HVV.out ?_))
    clear oK61 oK62 oK63
    go_cut [19, 20] (fun p e wx => ∃ (g : Nat) (sa : Option Addr) (sn sc : Nat), p = .pointer (some ⟨g, 0, none⟩) ∧ e = .int .i64 e4 ∧ w5.heap.size + 1 ≤ g ∧ g < wx.heap.size ∧ wx.heap[g]? = some (.cells #[.slice sa sn sc, .int .i64 m1] 69 (0, 0)) ∧ IsB wx (.slice sa sn sc) l1 ∧ Below (w5.alloc (.cells #[.slice a n c, .int .i64 p3, .int .i64 e3] 67)).heap.size (w5.alloc (.cells #[.slice a n c, .int .i64 p3, .int .i64 e3] 67)) wx)
    case first =>
        refine wp_region_late 10 136 8 0 (.val _ :: .val _ :: .val _ :: .val _ :: .val _ :: .pred (PAdd l1 m1 e4) :: .pred (PAdd l1 m1 e4) :: .pred (PInkB l1 m1) :: .val _ :: .pred (PtrTo (w5.heap.size + 1) #[.slice none 0 0, .int .i64 0] 69) :: []) (by kernel_rfl) (by kernel_rfl) rfl ⟨PAdd.stable _ _ _, PAdd.stable _ _ _, PInkB.stable _ _, PtrTo.stable _ _ _, trivial⟩ rfl ⟨
          fun a u hB hO hJ => .inl ⟨rfl, fun K Q hK => by
            have e6 : a.tmps[6]?.getD undef = .pointer (some ⟨w.heap.size + 1, 0, none⟩) := hO 6 rfl
            clear hO hJ
            obtain ⟨q1, q2, q3⟩ := row_facts ((hB.block (w.heap.size + 1) (by simp only [World.size_alloc]; omega)).trans RK_D.out)
            go_simp
            exact hK _ _ (Below.refl _ _) rfl⟩,
          fun a u hB hO hJ => .inl ⟨rfl, fun K Q hK => by
            have e4 : a.tmps[4]?.getD undef = .int .u64 (vv : Int) := hO 4 rfl
            clear hO hJ
            exact wp_move_of e4 fun h => hK _ _ (Below.refl _ _) h⟩,
          fun a u hB hO hJ => .inl ⟨rfl, fun K Q hK => by
            have e12 : a.tmps[12]?.getD undef = .int .i64 (y : Int) := hO 12 rfl
            clear hO hJ
            exact wp_move_of e12 fun h => hK _ _ (Below.refl _ _) h⟩,
          fun a u hB hO hJ => .inl ⟨rfl, fun K Q hK => by
            have e96 : a.tmps[96]?.getD undef = _ := hJ 1 rfl
            have e97 : a.tmps[97]?.getD undef = _ := hJ 2 rfl
            clear hO hJ
            exact wp_bin_of (by simp) (by rw [evalTmp, e96]) (by rw [evalTmp, e97]) (run_shr KVV.out HH1.out) (hK _ _ (Below.refl _ _) rfl)⟩,
          fun a u hB hO hJ => .inl ⟨rfl, fun K Q hK => by
            have e11 : a.tmps[11]?.getD undef = .int .i64 (x : Int) := hO 11 rfl
            clear hO hJ
            exact wp_move_of e11 fun h => hK _ _ (Below.refl _ _) h⟩,
          fun a u hB hO hJ => .inl ⟨rfl, fun K Q hK => by
            have e95 : a.tmps[95]?.getD undef = _ := hJ 0 rfl
            have e98 : a.tmps[98]?.getD undef = _ := hJ 3 rfl
            have e99 : a.tmps[99]?.getD undef = _ := hJ 4 rfl
            clear hO hJ
            go_simp
            have G6 := add52 a' n' c' h1 m x l' u HN'.out HL'.out hm KH1.out (Ik_D.out.below hB)
            unfold RetAdd at G6
            rw [HA1.out, HA2.out, HA3.out] at G6
            refine G6.mono ?_
            rintro e w7 ⟨s7, rfl, i7, b7⟩
            exact hK _ _ b7 ⟨s7, rfl, i7⟩⟩,
          fun a u hB hO hJ => .inl ⟨rfl, fun K Q hK => by
            have e100 : (PAdd l1 m1 e4) (a.tmps[100]?.getD undef) u := hJ 5 rfl
            clear hO hJ
            exact wp_move_of rfl fun h => hK _ _ (Below.refl _ _) (by rw [evalTmp]; exact e100)⟩,
          fun a u hB hO hJ => .inl ⟨rfl, fun K Q hK => by
            have e94 : (PAdd l1 m1 e4) (a.tmps[94]?.getD undef) u := hJ 6 rfl
            clear hO hJ
            obtain ⟨s9, h9, i9⟩ := e94
            go_simp
            exact hK _ _ (Below.refl _ _) ⟨s9, rfl, i9⟩⟩,
          fun a u hB hO hJ => .inl ⟨rfl, fun K Q hK => by
            have e94 : (PAdd l1 m1 e4) (a.tmps[94]?.getD undef) u := hJ 6 rfl
            clear hO hJ
            obtain ⟨s9, h9, i9⟩ := e94
            go_simp
            exact hK _ _ (Below.refl _ _) rfl⟩,
          fun a u hB hO hJ => .inl ⟨rfl, fun K Q hK => by
            clear hO hJ
            have zz := hB.size
            simp only [World.size_alloc] at zz
            go_simp
            exact hK _ _ ((Below.refl _ _).alloc (Nat.le_refl _) _) (PtrTo.alloc _ _ _ (by omega))⟩,
          trivial⟩ ?fin15 ?early15
        case fin15 =>
          intro u hB
          simp only [Act.put, List.setIfInBounds_toArray, List.set_cons_zero, List.set_cons_succ, List.drop_succ_cons, List.drop_zero, List.take_succ_cons, List.take_zero, Laid]
          rintro v100 - v94 - _ ⟨s9, rfl, i9⟩ _ ⟨g, rfl, hgB, hgr⟩
          obtain ⟨a9, n9, c9, rfl, -⟩ := i9.len'
          have hgl := (Array.getElem?_eq_some_iff.1 hgr).1
          have zu := hB.size
          simp only [World.size_alloc] at zu
          have J9 := hide i9
          have RG := hide hgr
          have HBU := hide hB
          clear i9 hgr hB
          go_wp2_with (refine wpList_storeW g _ rfl rfl 69 _ RG.out (by kernel_rfl) rfl rfl ?_)
          intro wus kus gus zus
          go_wp2_with fail
          go_meet
          case rel => exact ⟨g, a9, n9, c9, rfl, rfl, hgB, by omega, kus, J9.out.row RG.out no_u8 gus, HBU.out.grown gus (by simp only [World.size_alloc]; omega) (fun i hi => by cases hi; simp only [World.size_alloc]; exact hgB)⟩
        case early15 =>
          intro u hB
          simp only [Act.put, List.setIfInBounds_toArray, List.set_cons_zero, List.set_cons_succ, List.take_succ_cons, List.take_zero, Laid]
          rintro v100 - _ ⟨s94, rfl, -⟩ _ ⟨s9, rfl, i9⟩ v102 - _ ⟨g, rfl, hgB, hgr⟩
          obtain ⟨a9, n9, c9, rfl, -⟩ := i9.len'
          have hgl := (Array.getElem?_eq_some_iff.1 hgr).1
          have zu := hB.size
          simp only [World.size_alloc] at zu
          have J9 := hide i9
          have RG := hide hgr
          have HBU := hide hB
          clear i9 hgr hB
          refine wpOp_at rfl rfl ?_
          refine wp_storeW g _ rfl rfl 69 _ RG.out (by kernel_rfl) rfl rfl ?_
          intro wus kus gus zus
          simp only [early]
          go_wp2_with fail
          go_meet
          case rel => exact ⟨g, a9, n9, c9, rfl, rfl, hgB, by omega, kus, J9.out.row RG.out no_u8 gus, HBU.out.grown gus (by simp only [World.size_alloc]; omega) (fun i hi => by cases hi; simp only [World.size_alloc]; exact hgB)⟩
    case rest =>
      obtain ⟨g, a9, n9, c9, rfl, rfl, hgB, hgl, hgr, i9, hbc⟩ := hcut
      have HN9 : Hid (n9 = l1.length) := hide (by obtain ⟨_, _, h9, -⟩ := i9; injection h9)
      have J9 := hide i9
      have RP0 := hide hgr
      clear i9 hgr
      have z15 := hbc.size
      simp only [World.size_alloc] at z15
      have W15 := hide (AD.out.trans (hbc.mono (by simp only [World.size_alloc]; omega)))
      have RC_15 := hide ((hbc.block (w.heap.size) (by simp only [World.size_alloc]; omega)).trans RC_D.out)
      have RK_15 := hide ((hbc.block (w.heap.size + 1) (by simp only [World.size_alloc]; omega)).trans RK_D.out)
      have RA_15 := hide ((hbc.block (w3.heap.size) (by simp only [World.size_alloc]; omega)).trans RA_D.out)
      have RB_15 := hide ((hbc.block (w4.heap.size) (by simp only [World.size_alloc]; omega)).trans RB_D.out)
      have RD_15 := hide ((hbc.block (w5.heap.size) (by simp only [World.size_alloc]; omega)).trans RD.out)
      have Ic_15 := hide (Ic_D.out.below hbc)
      have Ik_15 := hide (Ik_D.out.below hbc)
      clear hbc
      obtain ⟨oP71, oP72, oP73⟩ := row_facts RP0.out
      go_upto_region 16 with fail
      clear oP71 oP72 oP73
      go_cut [21] (fun e wx => e = .int .i64 e4 ∧ ∃ (u : World) (sa : Option Addr) (sn sc : Nat), Below wc.heap.size wc u ∧ u.grownBy wx (some g) ∧ wx.heap.size = u.heap.size ∧ wx.heap[g]? = some (.cells #[.slice sa sn sc, .int .i64 m2] 69 (0, 0)) ∧ IsB wx (.slice sa sn sc) l2)
      case first =>
          refine wp_region_late 11 136 10 0 (.val _ :: .val _ :: .val _ :: .val _ :: .val _ :: .val _ :: .val _ :: .pred (PAdd l2 m2 e4) :: .pred (PAdd l2 m2 e4) :: .pred (PInkB l2 m2) :: .val _ :: []) (by kernel_rfl) (by kernel_rfl) rfl ⟨PAdd.stable _ _ _, PAdd.stable _ _ _, PInkB.stable _ _, trivial⟩ rfl ⟨
            fun a u hB hO hJ => .inl ⟨rfl, fun K Q hK => by
              have e19 : a.tmps[19]?.getD undef = .pointer (some ⟨g, 0, none⟩) := hO 19 rfl
              clear hO hJ
              obtain ⟨q1, q2, q3⟩ := row_facts ((hB.block (g) (by omega)).trans RP0.out)
              go_simp
              exact hK _ _ (Below.refl _ _) rfl⟩,
            fun a u hB hO hJ => .inl ⟨rfl, fun K Q hK => by
              have e4 : a.tmps[4]?.getD undef = .int .u64 (vv : Int) := hO 4 rfl
              clear hO hJ
              exact wp_move_of e4 fun h => hK _ _ (Below.refl _ _) h⟩,
            fun a u hB hO hJ => .inl ⟨rfl, fun K Q hK => by
              have e12 : a.tmps[12]?.getD undef = .int .i64 (y : Int) := hO 12 rfl
              clear hO hJ
              exact wp_move_of e12 fun h => hK _ _ (Below.refl _ _) h⟩,
            fun a u hB hO hJ => .inl ⟨rfl, fun K Q hK => by
              have e106 : a.tmps[106]?.getD undef = _ := hJ 2 rfl
              clear hO hJ
              exact wp_bin_of (by simp) rfl (by rw [evalTmp, e106]) (run_shl1 (by omega) HPY.out) (hK _ _ (Below.refl _ _) rfl)⟩,
            fun a u hB hO hJ => .inl ⟨rfl, fun K Q hK => by
              have e107 : a.tmps[107]?.getD undef = _ := hJ 3 rfl
              clear hO hJ
              exact wp_bin_of (by simp) (by rw [evalTmp, e107]) rfl (run_sub1 KPY.out.2 KPY.out.1 HPY1.out) (hK _ _ (Below.refl _ _) rfl)⟩,
            fun a u hB hO hJ => .inl ⟨rfl, fun K Q hK => by
              have e105 : a.tmps[105]?.getD undef = _ := hJ 1 rfl
              have e108 : a.tmps[108]?.getD undef = _ := hJ 4 rfl
              clear hO hJ
              exact wp_bin_of (by simp) (by rw [evalTmp, e105]) (by rw [evalTmp, e108]) (run_and KVV.out KPY1.out HH2.out) (hK _ _ (Below.refl _ _) rfl)⟩,
            fun a u hB hO hJ => .inl ⟨rfl, fun K Q hK => by
              have e12 : a.tmps[12]?.getD undef = .int .i64 (y : Int) := hO 12 rfl
              clear hO hJ
              exact wp_move_of e12 fun h => hK _ _ (Below.refl _ _) h⟩,
            fun a u hB hO hJ => .inl ⟨rfl, fun K Q hK => by
              have e104 : a.tmps[104]?.getD undef = _ := hJ 0 rfl
              have e109 : a.tmps[109]?.getD undef = _ := hJ 5 rfl
              have e110 : a.tmps[110]?.getD undef = _ := hJ 6 rfl
              clear hO hJ
              go_simp
              have G7 := add52 a9 n9 c9 h2 m1 y l1 u HN9.out (by rw [HN9.out]; exact HLL.out) hm1 KH2.out (J9.out.below hB)
              unfold RetAdd at G7
              rw [HB1.out, HB2.out, HB3.out] at G7
              refine G7.mono ?_
              rintro e w7 ⟨s7, rfl, i7, b7⟩
              exact hK _ _ b7 ⟨s7, rfl, i7⟩⟩,
            fun a u hB hO hJ => .inl ⟨rfl, fun K Q hK => by
              have e111 : (PAdd l2 m2 e4) (a.tmps[111]?.getD undef) u := hJ 7 rfl
              clear hO hJ
              exact wp_move_of rfl fun h => hK _ _ (Below.refl _ _) (by rw [evalTmp]; exact e111)⟩,
            fun a u hB hO hJ => .inl ⟨rfl, fun K Q hK => by
              have e103 : (PAdd l2 m2 e4) (a.tmps[103]?.getD undef) u := hJ 8 rfl
              clear hO hJ
              obtain ⟨s9, h9, i9⟩ := e103
              go_simp
              exact hK _ _ (Below.refl _ _) ⟨s9, rfl, i9⟩⟩,
            fun a u hB hO hJ => .inl ⟨rfl, fun K Q hK => by
              have e103 : (PAdd l2 m2 e4) (a.tmps[103]?.getD undef) u := hJ 8 rfl
              clear hO hJ
              obtain ⟨s9, h9, i9⟩ := e103
              go_simp
              exact hK _ _ (Below.refl _ _) rfl⟩,
            trivial⟩ ?fin16 ?early16
          case fin16 =>
            intro u hB
            simp only [Act.put, List.setIfInBounds_toArray, List.set_cons_zero, List.set_cons_succ, List.drop_succ_cons, List.drop_zero, List.take_succ_cons, List.take_zero, Laid]
            rintro v111 - v103 - _ ⟨s8, rfl, i8⟩
            obtain ⟨a8, n8, c8, rfl, -⟩ := i8.len'
            have zu := hB.size
            have J8 := hide i8
            have RG := hide ((hB.block g hgl).trans RP0.out)
            have HBU := hide hB
            clear i8 hB
            go_wp2_with (refine wpList_storeW g _ rfl rfl 69 _ RG.out (by kernel_rfl) rfl rfl ?_)
            intro wus kus gus zus
            go_wp2_with fail
            go_meet
            case rel => exact ⟨rfl, u, a8, n8, c8, HBU.out, gus, zus, kus, J8.out.row RG.out (no_u8' _ _ _ _) gus⟩
          case early16 =>
            intro u hB
            simp only [Act.put, List.setIfInBounds_toArray, List.set_cons_zero, List.set_cons_succ, List.take_succ_cons, List.take_zero, Laid]
            rintro v111 - _ ⟨s103, rfl, -⟩ _ ⟨s8, rfl, i8⟩ v113 -
            obtain ⟨a8, n8, c8, rfl, -⟩ := i8.len'
            have zu := hB.size
            have J8 := hide i8
            have RG := hide ((hB.block g hgl).trans RP0.out)
            have HBU := hide hB
            clear i8 hB
            refine wpOp_at rfl rfl ?_
            refine wp_storeW g _ rfl rfl 69 _ RG.out (by kernel_rfl) rfl rfl ?_
            intro wus kus gus zus
            simp only [early]
            go_wp2_with fail
            go_meet
            case rel => exact ⟨rfl, u, a8, n8, c8, HBU.out, gus, zus, kus, J8.out.row RG.out (no_u8' _ _ _ _) gus⟩
      case rest =>
        obtain ⟨rfl, u2, a8, n8, c8, hb2, gus, zus, kus, i8⟩ := hcut
        have J8 := hide i8
        clear i8
        have zu2 := hb2.size
        have Wu2 := hide (W15.out.trans (hb2.mono (by omega)))
        have RC_u2 := hide ((hb2.block (w.heap.size) (by omega)).trans RC_15.out)
        have RK_u2 := hide ((hb2.block (w.heap.size + 1) (by omega)).trans RK_15.out)
        have RA_u2 := hide ((hb2.block (w3.heap.size) (by omega)).trans RA_15.out)
        have RB_u2 := hide ((hb2.block (w4.heap.size) (by omega)).trans RB_15.out)
        have RD_u2 := hide ((hb2.block (w5.heap.size) (by omega)).trans RD_15.out)
        have RP_u2 := hide ((hb2.block (g) (by omega)).trans RP0.out)
        have Ic_u2 := hide (Ic_15.out.below hb2)
        have Ik_u2 := hide (Ik_15.out.below hb2)
        have Ip_u2 := hide (J9.out.below hb2)
        clear hb2
        have RP_us := hide kus
        have RC_us := hide ((gus.block (w.heap.size) (by omega) (fun e => by have := Option.some.inj e; omega)).trans RC_u2.out)
        have RK_us := hide ((gus.block (w.heap.size + 1) (by omega) (fun e => by have := Option.some.inj e; omega)).trans RK_u2.out)
        have RA_us := hide ((gus.block (w3.heap.size) (by omega) (fun e => by have := Option.some.inj e; omega)).trans RA_u2.out)
        have RB_us := hide ((gus.block (w4.heap.size) (by omega) (fun e => by have := Option.some.inj e; omega)).trans RB_u2.out)
        have RD_us := hide ((gus.block (w5.heap.size) (by omega) (fun e => by have := Option.some.inj e; omega)).trans RD_u2.out)
        have Ic_us := hide (Ic_u2.out.row RP_u2.out (no_u8' _ _ _ _) gus)
        have Ik_us := hide (Ik_u2.out.row RP_u2.out (no_u8' _ _ _ _) gus)
        have Wus := hide (Wu2.out.grown gus (by omega) (fun i hi => by cases hi; omega))
        clear kus gus
        obtain ⟨oK81, oK82, oK83⟩ := row_facts RK_us.out
        go_wp2_with (((with_reducible show wpList _ _ _ (Oper.mk _ (.binOp .add 3 _ _ _) _ _ _ _ :: _) _ _); refine wpList_addI (X := x) (Y := y) (Z := s) rfl rfl rfl (by omega) HS.out ?_))
        have G8 := (add52 a' n' c' vv m s l' _ HN'.out HL'.out hm KVV.out Ik_us.out)
        unfold RetAdd at G8
        rw [HC1.out, HC2.out, HC3.out] at G8
        refine G8.mono ?_
        clear G8
        rintro r w8 ⟨s10, rfl, i10, b8⟩
        clear oK81 oK82 oK83
        obtain ⟨a10, n10, c10, rfl, hh10, -⟩ := i10.len'
        have z8 := b8.size
        have W8 := hide (Wus.out.trans (b8.mono (by omega)))
        have RC_8 := hide ((b8.block (w.heap.size) (by omega)).trans RC_us.out)
        have RK_8 := hide ((b8.block (w.heap.size + 1) (by omega)).trans RK_us.out)
        have RA_8 := hide ((b8.block (w3.heap.size) (by omega)).trans RA_us.out)
        have RB_8 := hide ((b8.block (w4.heap.size) (by omega)).trans RB_us.out)
        have RD_8 := hide ((b8.block (w5.heap.size) (by omega)).trans RD_us.out)
        have RP_8 := hide ((b8.block (g) (by omega)).trans RP_us.out)
        have Ic_8 := hide (Ic_us.out.below b8)
        have Ik_8 := hide (Ik_us.out.below b8)
        have Ip_8 := hide (J8.out.below b8)
        clear b8
        have J10 := hide i10
        clear hh10 i10
        have AQ := hide (W8.out.alloc (by omega) (.cells #[.slice a10 n10 c10, .int .i64 m2] 69))
        have RC_Q := hide ((heap_alloc_old w8 (.cells #[.slice a10 n10 c10, .int .i64 m2] 69) (show w.heap.size < w8.heap.size by omega)).trans RC_8.out)
        have RK_Q := hide ((heap_alloc_old w8 (.cells #[.slice a10 n10 c10, .int .i64 m2] 69) (show w.heap.size + 1 < w8.heap.size by omega)).trans RK_8.out)
        have RA_Q := hide ((heap_alloc_old w8 (.cells #[.slice a10 n10 c10, .int .i64 m2] 69) (show w3.heap.size < w8.heap.size by omega)).trans RA_8.out)
        have RB_Q := hide ((heap_alloc_old w8 (.cells #[.slice a10 n10 c10, .int .i64 m2] 69) (show w4.heap.size < w8.heap.size by omega)).trans RB_8.out)
        have RD_Q := hide ((heap_alloc_old w8 (.cells #[.slice a10 n10 c10, .int .i64 m2] 69) (show w5.heap.size < w8.heap.size by omega)).trans RD_8.out)
        have RP_Q := hide ((heap_alloc_old w8 (.cells #[.slice a10 n10 c10, .int .i64 m2] 69) (show g < w8.heap.size by omega)).trans RP_8.out)
        have Ic_Q := hide (Ic_8.out.below ((Below.refl _ _).alloc (Nat.le_refl _) (.cells #[.slice a10 n10 c10, .int .i64 m2] 69)))
        have Ik_Q := hide (Ik_8.out.below ((Below.refl _ _).alloc (Nat.le_refl _) (.cells #[.slice a10 n10 c10, .int .i64 m2] 69)))
        have Ip_Q := hide (Ip_8.out.below ((Below.refl _ _).alloc (Nat.le_refl _) (.cells #[.slice a10 n10 c10, .int .i64 m2] 69)))
        have Iq_Q := hide (J10.out.below ((Below.refl _ _).alloc (Nat.le_refl _) (.cells #[.slice a10 n10 c10, .int .i64 m2] 69)))
        have RQ := hide (heap_alloc_new w8 (.cells #[.slice a10 n10 c10, .int .i64 m2] 69))
        obtain ⟨oP91, oP92, oP93⟩ := row_facts RP_Q.out
        obtain ⟨oQ91, oQ92, oQ93⟩ := row_facts RQ.out
        go_wp2_with fail
        refine (same56 a8 a10 n8 n10 c8 c10 m2 l2 _ Ip_Q.out Iq_Q.out).mono ?_
        rintro r w9 ⟨rfl, b9⟩
        clear oP91 oP92 oP93 oQ91 oQ92 oQ93
        have z9 := b9.size
        simp only [World.size_alloc] at z9
        have W9 := hide (AQ.out.trans (b9.mono (by simp only [World.size_alloc]; omega)))
        have RC_9 := hide ((b9.block (w.heap.size) (by simp only [World.size_alloc]; omega)).trans RC_Q.out)
        have RK_9 := hide ((b9.block (w.heap.size + 1) (by simp only [World.size_alloc]; omega)).trans RK_Q.out)
        have RA_9 := hide ((b9.block (w3.heap.size) (by simp only [World.size_alloc]; omega)).trans RA_Q.out)
        have RB_9 := hide ((b9.block (w4.heap.size) (by simp only [World.size_alloc]; omega)).trans RB_Q.out)
        have RD_9 := hide ((b9.block (w5.heap.size) (by simp only [World.size_alloc]; omega)).trans RD_Q.out)
        have RP_9 := hide ((b9.block (g) (by simp only [World.size_alloc]; omega)).trans RP_Q.out)
        have RQ_9 := hide ((b9.block (w8.heap.size) (by simp only [World.size_alloc]; omega)).trans RQ.out)
        have Ic_9 := hide (Ic_Q.out.below b9)
        have Ik_9 := hide (Ik_Q.out.below b9)
        have Ip_9 := hide (Ip_Q.out.below b9)
        have Iq_9 := hide (Iq_Q.out.below b9)
        clear b9
        go_wp2_with fail
        go_ret
        exact ⟨rfl, W9.out⟩

end Go.Proofs.Ytellclclpmofcaa
