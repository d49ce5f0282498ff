/-
  The contract of the reference's Add; conditions: the bytes are no more than 1000000.
-/
import Derived.Test.YtellclclpmofcaaBAdd
import Derived.Deep.DeepCutAuto
namespace Go.Proofs.Ytellclclpmofcaa
open Go.RowKit
set_option linter.unusedVariables false

theorem own_nil (w : World) (base : Nat) : Own w base (.slice none 0 0) [] := ⟨rfl, .inl ⟨rfl, rfl⟩⟩

/-- The lowest d bits of a number, a byte each, the lowest first. -/
def lowB (v d : Nat) : List UInt8 := (List.range d).map fun i => UInt8.ofNat (v.testBit i).toNat

theorem lowB_succ (v d : Nat) : lowB v (d + 1) = lowB v d ++ [UInt8.ofNat (v.testBit d).toNat] := by
  unfold lowB
  rw [List.range_succ, List.map_append]
  rfl

theorem lowB_length (v d : Nat) : (lowB v d).length = d := by simp [lowB]

theorem lowB_get {v d i : Nat} (h : i < d) : (lowB v d)[i]? = some (UInt8.ofNat (v.testBit i).toNat) := by
  unfold lowB
  rw [List.getElem?_map, List.getElem?_range h]
  rfl

theorem low_bit (v d : Nat) : v / 2 ^ d % 2 = (UInt8.ofNat (v.testBit d).toNat).toNat := by
  rw [Nat.testBit_eq_decide_div_mod_eq]
  rcases Nat.mod_two_eq_zero_or_one (v / 2 ^ d) with h | h <;> rw [h] <;> rfl

theorem or_add {y k : Nat} (h : y.testBit k = false) : y ||| 2 ^ k = y + 2 ^ k := by
  have h1 : y % 2 ^ (k + 1) < 2 ^ k := by
    have h2 : y / 2 ^ k % 2 = 0 := by
      rw [Nat.testBit_eq_decide_div_mod_eq, decide_eq_false_iff_not] at h
      omega
    have h3 := Nat.mod_pow_succ (b := 2) (x := y) (k := k)
    have h4 := Nat.mod_lt y (Nat.pow_pos (n := k) (show 0 < 2 by decide))
    rw [h2, Nat.mul_zero, Nat.add_zero] at h3
    omega
  have e1 : y = 2 ^ (k + 1) * (y / 2 ^ (k + 1)) + y % 2 ^ (k + 1) := (Nat.div_add_mod _ _).symm
  have e2 : 2 ^ (k + 1) = 2 * 2 ^ k := by rw [Nat.pow_succ]; omega
  have a1 := Nat.two_pow_add_eq_or_of_lt (show y % 2 ^ (k + 1) < 2 ^ (k + 1) by omega) (y / 2 ^ (k + 1))
  have a2 := Nat.two_pow_add_eq_or_of_lt (show 2 ^ k + y % 2 ^ (k + 1) < 2 ^ (k + 1) by omega) (y / 2 ^ (k + 1))
  have a3 := Nat.two_pow_add_eq_or_of_lt h1 1
  rw [Nat.mul_one] at a3
  calc y ||| 2 ^ k = (2 ^ (k + 1) * (y / 2 ^ (k + 1)) ||| y % 2 ^ (k + 1)) ||| 2 ^ k := by rw [← a1, ← e1]
    _ = 2 ^ (k + 1) * (y / 2 ^ (k + 1)) ||| (2 ^ k ||| y % 2 ^ (k + 1)) := by rw [Nat.or_assoc, Nat.or_comm (y % 2 ^ (k + 1))]
    _ = 2 ^ (k + 1) * (y / 2 ^ (k + 1)) + (2 ^ k + y % 2 ^ (k + 1)) := by rw [← a3, ← a2]
    _ = y + 2 ^ k := by omega

/-- One bit more. -/
theorem inkD_step {l : List UInt8} {M v K d j : Nat} {x : UInt8} (hj : (M + d) / 8 = j) (hd : d < K) (hx : (drawn (j + 1) l M v K d)[j]? = some x) :
    inkD l M v K (d + 1) = (drawn (j + 1) l M v K d).set j (UInt8.ofNat (x.toNat + (v.testBit (K - 1 - d)).toNat * 2 ^ (7 - (M + d) % 8))) ∧ x.toNat + (v.testBit (K - 1 - d)).toNat * 2 ^ (7 - (M + d) % 8) < 256 := by
  obtain ⟨h1, h2⟩ := drawn_step (t := 1) (sh := 7 - (M + d) % 8) hj (Nat.lt_succ_self j) hx (by omega) (by omega) (by omega)
  have e1 : (v >>> (K - d - 1)) &&& (2 ^ 1 - 1) = (v.testBit (K - 1 - d)).toNat := by
    rw [Nat.and_two_pow_sub_one_eq_mod, Nat.shiftRight_eq_div_pow, Nat.testBit_eq_decide_div_mod_eq, show K - d - 1 = K - 1 - d by omega]
    rcases Nat.mod_two_eq_zero_or_one (v / 2 ^ (K - 1 - d)) with h | h <;> simp [h]
  have hz : x.toNat.testBit (7 - (M + d) % 8) = false := by
    have hb : bitAt (drawn (j + 1) l M v K d) (M + d) = false := by
      rw [drawn, bitAt_mk (by omega), inkF_out (Nat.le_refl _)]
    rw [bitAt, hj, List.getD_eq_getElem?_getD, hx] at hb
    exact hb
  rw [e1, Nat.shiftLeft_eq] at h1 h2
  have e3 : x.toNat ||| (v.testBit (K - 1 - d)).toNat * 2 ^ (7 - (M + d) % 8) = x.toNat + (v.testBit (K - 1 - d)).toNat * 2 ^ (7 - (M + d) % 8) := by
    cases v.testBit (K - 1 - d)
    · simp
    · simpa using or_add hz
  rw [e3] at h1
  refine ⟨?_, ?_⟩
  · rw [← h1, inkD, drawn, show (M + (d + 1) + 7) / 8 = j + 1 by omega]
  · have : x.toNat ||| (v.testBit (K - 1 - d)).toNat * 2 ^ (7 - (M + d) % 8) < 2 ^ 8 := Nat.or_lt_two_pow x.toNat_lt h2
    rw [e3] at this
    exact this

/-- The bytes that one bit more goes into. -/
theorem inkD_room {l : List UInt8} {M v K d j : Nat} (hj : (M + d) / 8 = j) : (if (M + d) % 8 = 0 then inkD l M v K d ++ [0] else inkD l M v K d) = drawn (j + 1) l M v K d := by
  by_cases h : (M + d) % 8 = 0
  · rw [if_pos h]
    refine mk_ext (by rw [List.length_append, inkD_length, List.length_singleton]; omega) fun i hi => ?_
    rw [bitAt_append, inkD_length]
    by_cases h2 : i < 8 * ((M + d + 7) / 8)
    · rw [if_pos h2, bitAt_inkD]
    · rw [if_neg h2, inkF_out (by omega)]
      unfold bitAt
      rw [show (i - 8 * ((M + d + 7) / 8)) / 8 = 0 by omega]
      simp
  · rw [if_neg h, inkD, drawn, show (M + d + 7) / 8 = j + 1 by omega]

/-- 'append(s, x...)' onto a byte slice that the call owns: which block may have changed. -/
theorem wpList_append_G {ops : Array Oper} {Q : Exit → Act → World → Prop} {a : Act} {w : World} {rest : List Oper} {dst : Option Tmp} {s x : Operand} {ty : TypeId} {pos : String} {after : Array Edge}
    {base : Nat} {v vx : Value} {l lx : List UInt8} (hown : Own w base v l) (hb : IsB w vx lx) (hlen : l.length + lx.length ≤ 140737488355328) (hbase : base ≤ w.heap.size) (hs : a.eval s = v) (hx : a.eval x = vx)
    (hK : ∀ v' w', Own w' base v' (l ++ lx) → w.grownBy w' v.ownBlock → wpList Try.prog ops Q rest (a.put dst v') w') : wpList Try.prog ops Q (⟨dst, .call { callee := .builtin .append, args := #[s, x], argTypes := #[24, 24] }, ty, pos, after, none⟩ :: rest) a w := by
  refine wpList_plain rfl fun K hK' => ?_
  obtain ⟨i, hi, hz, hsz, hby⟩ := info_parts info5
  obtain ⟨ad, cap, rfl, h1, h2, h3, h4⟩ := hb
  cases ad with
  | none =>
    have hc0 := h3 rfl
    subst hc0
    have hl0 : lx = [] := List.eq_nil_of_length_eq_zero (by omega)
    subst hl0
    have hr := run_append_owned_none (P := Try.prog) w base 24 ty 5 i 1 Try.underlying24 hi v l.length (l.map bval) hown
    unfold Oper.wp execOp
    simp only [resolve, invoke, builtin, Sem.run_bind, Sem.run_pure, Result.andThen_ok, List.map_toArray, List.map_cons, List.map_nil, hs, hx, List.length_nil, hr]
    exact hK' _ _ (hK _ _ (by rw [List.append_nil]; exact hown) ⟨rfl, rfl, rfl, Nat.le_refl _, fun _ _ _ => rfl⟩)
  | some ad =>
    refine wp_append_own w s x 24 rfl base 5 i (.int .u8 0) 1 1 Try.underlying24 hi hz hsz hby rfl (by decide) v l.length (l.map bval) hs hown ad lx.length cap (lx.map bval) hx (by simp) (fun j u hu => ?_) (fun u hu => ?_) (by simp only [maxLen]; omega) (by omega) hbase ?_
    · rw [List.getElem?_map] at hu
      cases hj : lx[j]? with
      | none => rw [hj] at hu; cases hu
      | some x' =>
        rw [hj] at hu
        obtain rfl := Option.some.inj hu
        exact h4 ad rfl j x' hj
    · obtain ⟨y, _, rfl⟩ := List.mem_map.1 hu
      rfl
    · intro v' w' hown' hg _
      refine hK' _ _ (hK v' w' ?_ hg)
      unfold Own
      rw [List.length_append, List.map_append]
      exact hown'

/-- A struct's row is no byte slice's. -/
theorem row_apart {w : World} {base g : Nat} {s : Value} {l : List UInt8} {cs : Array Value} (hrow : w.heap[g]? = some (.cells cs 69 (0, 0))) (ho : Own w base s l) : s.ownBlock = none ∨ s.ownBlock ≠ some g := by
  rcases ho.2 with ⟨rfl, _⟩ | ⟨k, cap, cur, rfl, _, hk, _⟩
  · exact .inl rfl
  · refine .inr fun e => ?_
    have e2 : k = g := by simpa [Value.ownBlock] using e
    subst e2
    rw [hrow] at hk
    have := Option.some.inj hk
    injection this with _ h2 _
    cases h2

theorem IsB.cellIn {w : World} {b off n cap k : Nat} {l : List UInt8} {x : UInt8} (h : IsB w (.slice (some ⟨b, off, none⟩) n cap) l) (hk : l[k]? = some x) : b < w.heap.size ∧ w.cell? ⟨b, off + k, none⟩ = some (.int .u8 (x.toNat : Int)) := by
  obtain ⟨b2, off2, he, h1, h2⟩ := h.cellAt hk
  have := Option.some.inj he
  injection this with e1 e2 _
  subst e1 e2
  exact ⟨h1, h2⟩

theorem Own.row {w : World} {base n cap : Nat} {a : Option Addr} {l : List UInt8} (h : Own w base (.slice a n cap) l) (hn : 0 < n) : ∃ g cur, a = some ⟨g, 0, none⟩ ∧ w.heap[g]? = some (.cells cur 5 (0, 0)) ∧ base ≤ g := by
  rcases h.2 with ⟨he, _⟩ | ⟨g', cap', cur, he, hb, hg, _⟩
  · injection he with _ e2 _
    omega
  · injection he with e1 _ _
    exact ⟨g', cur, e1, hg, hb⟩

theorem setCell_grown (w : World) (g i : Nat) (u : Value) : w.grownBy (w.setCell ⟨g, i, none⟩ u) (some g) :=
  ⟨rfl, rfl, rfl, by simp, fun k _ hk => heap_setCell_other w _ k u (fun e => hk (by rw [e]))⟩

def PInk (base : Nat) (l : List UInt8) (m : Int) (v : Value) (w : World) : Prop := ∃ s, v = .agg #[s, .int .i64 m] ∧ Own w base s l
theorem PInk.stable (base : Nat) (l : List UInt8) (m : Int) : ∀ v w w', PInk base l m v w → Below w.heap.size w w' → PInk base l m v w' := fun _ _ _ ⟨s, h, ho⟩ hb => ⟨s, h, ho.below hb⟩

/-- An ink in a row of its own while a number is added. -/
def Drawing (B g : Nat) (l : List UInt8) (M v K d : Nat) (w : World) : Prop := ∃ s, w.heap[g]? = some (.cells #[s, .int .i64 ((M + d : Nat) : Int)] 69 (0, 0)) ∧ Own w B s (inkD l M v K d)

set_option maxRecDepth 100000 in
set_option maxHeartbeats 2000000 in
theorem add53 (a : Option Addr) (n c v : Nat) (m k : Int) (l : List UInt8) (w : World) (hn : n = l.length) (hl : n ≤ 1000000) (hm : m ≤ 9223372036854775807) (hm2 : -9223372036854775808 ≤ m) (hv : v < 18446744073709551616) (h : IsB w (.slice a n c) l) :
    Calls Try.prog 53 #[.agg #[.slice a n c, .int .i64 m], .int .u64 (v : Int), .int .i64 k] w (RetAdd w (addL l m k v) (addM l m k v) (addBad l m k v)) := by
  have HR := hide (fun w h => ink55 a n c m l w hn hl hm hm2 h)
  have HI := hide h
  have HB0 := hide (((Below.refl w.heap.size w).alloc (Nat.le_refl _) (.cells #[.slice a n c, .int .i64 m] 69)).alloc (by simp) (.cells #[.slice none 0 0, .int .i64 0] 69))
  have HN := hide hn
  have HV := hide hv
  have HL := hide hl
  unfold RetAdd
  clear hn h hv
  obtain ⟨q, hq⟩ : ∃ q, q = inkB l m := ⟨_, rfl⟩
  cases q
  · have hb : addBad l m k v = 1 := by rw [addBad, if_pos (.inl hq.symm)]
    rw [addL, addM, hb, if_neg (by decide), if_neg (by decide)]
    rw [← hq] at HR
    clear hb hq hl
    go_enter Try.func53, Try.ntmps53

    go_wp2_with fail
    refine (HR.out _ (HI.out.below HB0.out)).mono ?_
    rintro r w1 ⟨rfl, b1⟩
    have HW1 := hide (HB0.out.trans (b1.mono (by simp only [World.size_alloc]; omega)))
    have z1 := b1.size
    simp only [World.size_alloc] at z1
    have HR2 := hide ((b1.block w.heap.size (by simp only [World.size_alloc]; omega)).trans (heap_alloc2_old w (.cells #[.slice a n c, .int .i64 m] 69) (.cells #[.slice none 0 0, .int .i64 0] 69)))
    have HR4 := hide ((b1.block (w.heap.size + 1) (by simp only [World.size_alloc]; omega)).trans (heap_alloc2_new w (.cells #[.slice a n c, .int .i64 m] 69) (.cells #[.slice none 0 0, .int .i64 0] 69)))
    have HIX := hide (HI.out.below HW1.out)
    clear b1
    obtain ⟨k1, k2, k3⟩ := row_facts HR2.out

    go_wp2_with (refine wpList_storeW (w.heap.size + 1) _ rfl rfl 69 _ HR4.out (by kernel_rfl) rfl rfl ?_)
    intro w3 hk3 hg3 hz3
    have HBF := hide (HW1.out.grown hg3 (by omega) (fun i hi => by cases hi; omega))
    go_wp2_with fail
    exact bodyPost_ret (v := .tuple #[.agg #[.slice a n c, .int .i64 m], .int .i64 1]) (results_cell_row_tmp (p := 6) (u := 7) rfl _ _ (w.heap.size + 1) 69 _ (0, 0) _ rfl hk3 Try.underlying69 rfl (by kernel_rfl)) rfl ⟨_, rfl, HI.out.below HBF.out, HBF.out⟩
  · have HQ := hide hq.symm
    rw [HQ.out] at HR
    clear hq
    by_cases h1 : k < 0
    · have hb : addBad l m k v = 1 := by rw [addBad, if_pos (.inr (.inl h1))]
      rw [addL, addM, hb, if_neg (by decide), if_neg (by decide)]
      clear hb hl
      go_enter Try.func53, Try.ntmps53

      go_wp2_with fail
      refine (HR.out _ (HI.out.below HB0.out)).mono ?_
      rintro r w1 ⟨rfl, b1⟩
      have HW1 := hide (HB0.out.trans (b1.mono (by simp only [World.size_alloc]; omega)))
      have z1 := b1.size
      simp only [World.size_alloc] at z1
      have HR2 := hide ((b1.block w.heap.size (by simp only [World.size_alloc]; omega)).trans (heap_alloc2_old w (.cells #[.slice a n c, .int .i64 m] 69) (.cells #[.slice none 0 0, .int .i64 0] 69)))
      have HR4 := hide ((b1.block (w.heap.size + 1) (by simp only [World.size_alloc]; omega)).trans (heap_alloc2_new w (.cells #[.slice a n c, .int .i64 m] 69) (.cells #[.slice none 0 0, .int .i64 0] 69)))
      have HIX := hide (HI.out.below HW1.out)
      clear b1
      obtain ⟨k1, k2, k3⟩ := row_facts HR2.out

      go_wp2_with (refine wpList_storeW (w.heap.size + 1) _ rfl rfl 69 _ HR4.out (by kernel_rfl) rfl rfl ?_)
      intro w3 hk3 hg3 hz3
      have HBF := hide (HW1.out.grown hg3 (by omega) (fun i hi => by cases hi; omega))
      go_wp2_with fail
      exact bodyPost_ret (v := .tuple #[.agg #[.slice a n c, .int .i64 m], .int .i64 1]) (results_cell_row_tmp (p := 6) (u := 7) rfl _ _ (w.heap.size + 1) 69 _ (0, 0) _ rfl hk3 Try.underlying69 rfl (by kernel_rfl)) rfl ⟨_, rfl, HI.out.below HBF.out, HBF.out⟩
    · have h1' : 0 ≤ k := by omega
      by_cases h2 : 64 < k
      · have hb : addBad l m k v = 1 := by rw [addBad, if_pos (.inr (.inr h2))]
        rw [addL, addM, hb, if_neg (by decide), if_neg (by decide)]
        clear hb hl
        go_enter Try.func53, Try.ntmps53

        go_wp2_with fail
        refine (HR.out _ (HI.out.below HB0.out)).mono ?_
        rintro r w1 ⟨rfl, b1⟩
        have HW1 := hide (HB0.out.trans (b1.mono (by simp only [World.size_alloc]; omega)))
        have z1 := b1.size
        simp only [World.size_alloc] at z1
        have HR2 := hide ((b1.block w.heap.size (by simp only [World.size_alloc]; omega)).trans (heap_alloc2_old w (.cells #[.slice a n c, .int .i64 m] 69) (.cells #[.slice none 0 0, .int .i64 0] 69)))
        have HR4 := hide ((b1.block (w.heap.size + 1) (by simp only [World.size_alloc]; omega)).trans (heap_alloc2_new w (.cells #[.slice a n c, .int .i64 m] 69) (.cells #[.slice none 0 0, .int .i64 0] 69)))
        have HIX := hide (HI.out.below HW1.out)
        clear b1
        obtain ⟨k1, k2, k3⟩ := row_facts HR2.out

        go_wp2_with (refine wpList_storeW (w.heap.size + 1) _ rfl rfl 69 _ HR4.out (by kernel_rfl) rfl rfl ?_)
        intro w3 hk3 hg3 hz3
        have HBF := hide (HW1.out.grown hg3 (by omega) (fun i hi => by cases hi; omega))
        go_wp2_with fail
        exact bodyPost_ret (v := .tuple #[.agg #[.slice a n c, .int .i64 m], .int .i64 1]) (results_cell_row_tmp (p := 6) (u := 7) rfl _ _ (w.heap.size + 1) 69 _ (0, 0) _ rfl hk3 Try.underlying69 rfl (by kernel_rfl)) rfl ⟨_, rfl, HI.out.below HBF.out, HBF.out⟩
      · have h2' : k ≤ 64 := by omega
        obtain ⟨g1, g2, -⟩ := inkB_spec.1 HQ.out
        obtain ⟨M, rfl⟩ := Int.eq_ofNat_of_zero_le g1
        obtain ⟨K, rfl⟩ := Int.eq_ofNat_of_zero_le h1'
        have hnb : ¬ (inkB l (M : Int) = false ∨ (K : Int) < 0 ∨ 64 < (K : Int)) := by
          rw [HQ.out]
          simp
          omega
        have hbad : addBad l (M : Int) (K : Int) v = if 2 ^ K ≤ v then 6 else 0 := by rw [addBad, if_neg hnb, Int.toNat_natCast]
        have hM6 : (M : Int) ≤ 8000000 := by have := HN.out; omega
        have HBAD := hide hbad
        have HG2 := hide g2
        clear hnb hbad g2 hl h1' g1
        by_cases h3 : 2 ^ K ≤ v
        · rw [addL, addM, show addBad l (M : Int) (K : Int) v = 6 by rw [HBAD.out, if_pos h3], if_neg (by decide), if_neg (by decide)]
          have HVK := hide h3
          clear h3
          go_enter Try.func53, Try.ntmps53

          go_wp2_with fail
          refine (HR.out _ (HI.out.below HB0.out)).mono ?_
          rintro r w1 ⟨rfl, b1⟩
          have HW1 := hide (HB0.out.trans (b1.mono (by simp only [World.size_alloc]; omega)))
          have z1 := b1.size
          simp only [World.size_alloc] at z1
          have HR2 := hide ((b1.block w.heap.size (by simp only [World.size_alloc]; omega)).trans (heap_alloc2_old w (.cells #[.slice a n c, .int .i64 (M : Int)] 69) (.cells #[.slice none 0 0, .int .i64 0] 69)))
          have HR4 := hide ((b1.block (w.heap.size + 1) (by simp only [World.size_alloc]; omega)).trans (heap_alloc2_new w (.cells #[.slice a n c, .int .i64 (M : Int)] 69) (.cells #[.slice none 0 0, .int .i64 0] 69)))
          have HIX := hide (HI.out.below HW1.out)
          clear b1
          obtain ⟨k1, k2, k3⟩ := row_facts HR2.out
          go_wp2_with fail
          go_loopw [1, 8, 9] (fun y s i wr => ∃ d : Nat, i = .int .i64 (d : Int) ∧ d ≤ K ∧ y = .int .u64 ((v / 2 ^ d : Nat) : Int) ∧ Own wr w1.heap.size s (lowB v d) ∧ Below w1.heap.size w1 wr) (fun _ _ i _ => K - (intOf i).toNat)
          case atStart => exact ⟨0, rfl, Nat.zero_le _, by simp, own_nil _ _, Below.refl _ _⟩
          case round =>
            obtain ⟨d, rfl, hd, rfl, how, hbw⟩ := hrel
            have HOW := hide how
            have HBW := hide hbw
            have zr := hbw.size
            clear how hbw
            obtain ⟨y, hy⟩ : ∃ y, y = v / 2 ^ d := ⟨_, rfl⟩
            have hyv : y ≤ v := by rw [hy]; exact Nat.div_le_self _ _
            have hyv2 : (y : Int) ≤ 18446744073709551615 := by have := HV.out; omega
            rw [← hy]
            by_cases hlt : d < K
            · have hlt2 : (d : Int) < K := by omega
              obtain ⟨z, hz⟩ : ∃ z, z = UInt8.ofNat (v.testBit d).toNat := ⟨_, rfl⟩
              have HZ : Hid ((y : Int) % 2 = (z.toNat : Int)) := hide (by have := low_bit v d; rw [← hy, ← hz] at this; omega)
              have HY2 : Hid (v / 2 ^ (d + 1) = y / 2) := hide (by rw [hy, Nat.pow_succ, Nat.div_div_eq_div_mul])
              have HS : Hid (lowB v (d + 1) = lowB v d ++ [z]) := hide (by rw [lowB_succ, hz])
              have HLB : Hid ((lowB v d).length + [z].length ≤ 140737488355328) := hide (by rw [lowB_length]; simp; omega)
              have hz8 := z.toNat_lt
              clear hy hyv hz
              go_wp2_with (at_builtin; refine wpList_append_B (HOW.out.below ((Below.refl _ _).alloc (Nat.le_refl _) _)) (Own.isB (Own.lit (base := 0) [z] _ 1 wr.heap.size (by rw [HZ.out]; rfl) rfl rfl (Nat.zero_le _) (by decide))) HLB.out (by simp; omega) rfl rfl ?_)
              intro s2 w2 o2 b2
              have HO2 := hide o2
              have HB2 := hide ((HBW.out.alloc zr (.cells #[.int .u8 ((y : Int) % 2)] 5)).trans b2)
              clear o2 b2
              go_wp2_with fail
              go_roundw
              case rel => exact ⟨d + 1, by go_num, by omega, by rw [HY2.out]; go_num, by rw [HS.out]; exact HO2.out, HB2.out⟩
              case measure => simp [intOf]; omega
            · obtain rfl : d = K := by omega
              obtain ⟨aL, nL, cL, rfl, hnL, -⟩ := HOW.out.isB.len'
              rw [lowB_length] at hnL
              subst hnL
              have HW2 := hide (HW1.out.trans (HBW.out.mono (by omega)))
              have HR2' := hide ((HBW.out.block w.heap.size (by omega)).trans HR2.out)
              have HR4' := hide ((HBW.out.block (w.heap.size + 1) (by omega)).trans HR4.out)
              have HIL := hide HOW.out.isB
              have HI2 := hide (HI.out.below HW2.out)
              clear k1 k2 k3
              obtain ⟨k1, k2, k3⟩ := row_facts HR2'.out
              have hy1 : (0 : Int) < y := by
                have : ¬ y = 0 := by
                  intro hh
                  rw [hh] at hy
                  have := (Nat.div_eq_zero_iff_lt (Nat.pow_pos (by decide))).1 hy.symm
                  have := HVK.out
                  omega
                omega
              clear hy hyv
              go_wp2_with (refine wpList_storeW (w.heap.size + 1) _ rfl rfl 69 _ HR4'.out (by kernel_rfl) rfl rfl ?_)
              intro w3 hk3 hg3 hz3
              have HBF := hide (HW2.out.grown hg3 (by omega) (fun i hi => by cases hi; omega))
              go_wp2_with fail
              exact bodyPost_ret (v := .tuple #[.agg #[.slice a n c, .int .i64 (M : Int)], .int .i64 6]) (results_cell_row_tmp (p := 6) (u := 7) rfl _ _ (w.heap.size + 1) 69 _ (0, 0) _ rfl hk3 Try.underlying69 rfl (by kernel_rfl)) rfl ⟨_, rfl, HI.out.below HBF.out, HBF.out⟩
        · rw [addL, addM, show addBad l (M : Int) (K : Int) v = 0 by rw [HBAD.out, if_neg h3], if_pos rfl, if_pos rfl]
          simp only [Int.toNat_natCast]
          have HVK : Hid (v < 2 ^ K) := hide (by omega)
          clear h3
          go_enter Try.func53, Try.ntmps53

          go_wp2_with fail
          refine (HR.out _ (HI.out.below HB0.out)).mono ?_
          rintro r w1 ⟨rfl, b1⟩
          have HW1 := hide (HB0.out.trans (b1.mono (by simp only [World.size_alloc]; omega)))
          have z1 := b1.size
          simp only [World.size_alloc] at z1
          have HR2 := hide ((b1.block w.heap.size (by simp only [World.size_alloc]; omega)).trans (heap_alloc2_old w (.cells #[.slice a n c, .int .i64 (M : Int)] 69) (.cells #[.slice none 0 0, .int .i64 0] 69)))
          have HR4 := hide ((b1.block (w.heap.size + 1) (by simp only [World.size_alloc]; omega)).trans (heap_alloc2_new w (.cells #[.slice a n c, .int .i64 (M : Int)] 69) (.cells #[.slice none 0 0, .int .i64 0] 69)))
          have HIX := hide (HI.out.below HW1.out)
          clear b1
          obtain ⟨k1, k2, k3⟩ := row_facts HR2.out
          go_wp2_with fail
          go_loopw [1, 8, 9] (fun y s i wr => ∃ d : Nat, i = .int .i64 (d : Int) ∧ d ≤ K ∧ y = .int .u64 ((v / 2 ^ d : Nat) : Int) ∧ Own wr w1.heap.size s (lowB v d) ∧ Below w1.heap.size w1 wr) (fun _ _ i _ => K - (intOf i).toNat)
          case atStart => exact ⟨0, rfl, Nat.zero_le _, by simp, own_nil _ _, Below.refl _ _⟩
          case round =>
            obtain ⟨d, rfl, hd, rfl, how, hbw⟩ := hrel
            have HOW := hide how
            have HBW := hide hbw
            have zr := hbw.size
            clear how hbw
            obtain ⟨y, hy⟩ : ∃ y, y = v / 2 ^ d := ⟨_, rfl⟩
            have hyv : y ≤ v := by rw [hy]; exact Nat.div_le_self _ _
            have hyv2 : (y : Int) ≤ 18446744073709551615 := by have := HV.out; omega
            rw [← hy]
            by_cases hlt : d < K
            · have hlt2 : (d : Int) < K := by omega
              obtain ⟨z, hz⟩ : ∃ z, z = UInt8.ofNat (v.testBit d).toNat := ⟨_, rfl⟩
              have HZ : Hid ((y : Int) % 2 = (z.toNat : Int)) := hide (by have := low_bit v d; rw [← hy, ← hz] at this; omega)
              have HY2 : Hid (v / 2 ^ (d + 1) = y / 2) := hide (by rw [hy, Nat.pow_succ, Nat.div_div_eq_div_mul])
              have HS : Hid (lowB v (d + 1) = lowB v d ++ [z]) := hide (by rw [lowB_succ, hz])
              have HLB : Hid ((lowB v d).length + [z].length ≤ 140737488355328) := hide (by rw [lowB_length]; simp; omega)
              have hz8 := z.toNat_lt
              clear hy hyv hz
              go_wp2_with (at_builtin; refine wpList_append_B (HOW.out.below ((Below.refl _ _).alloc (Nat.le_refl _) _)) (Own.isB (Own.lit (base := 0) [z] _ 1 wr.heap.size (by rw [HZ.out]; rfl) rfl rfl (Nat.zero_le _) (by decide))) HLB.out (by simp; omega) rfl rfl ?_)
              intro s2 w2 o2 b2
              have HO2 := hide o2
              have HB2 := hide ((HBW.out.alloc zr (.cells #[.int .u8 ((y : Int) % 2)] 5)).trans b2)
              clear o2 b2
              go_wp2_with fail
              go_roundw
              case rel => exact ⟨d + 1, by go_num, by omega, by rw [HY2.out]; go_num, by rw [HS.out]; exact HO2.out, HB2.out⟩
              case measure => simp [intOf]; omega
            · obtain rfl : d = K := by omega
              obtain ⟨aL, nL, cL, rfl, hnL, -⟩ := HOW.out.isB.len'
              rw [lowB_length] at hnL
              subst hnL
              have HW2 := hide (HW1.out.trans (HBW.out.mono (by omega)))
              have HR2' := hide ((HBW.out.block w.heap.size (by omega)).trans HR2.out)
              have HR4' := hide ((HBW.out.block (w.heap.size + 1) (by omega)).trans HR4.out)
              have HIL := hide HOW.out.isB
              have HI2 := hide (HI.out.below HW2.out)
              clear k1 k2 k3
              obtain ⟨k1, k2, k3⟩ := row_facts HR2'.out
              have hy0 : y = 0 := by rw [hy]; exact (Nat.div_eq_zero_iff_lt (Nat.pow_pos (by decide))).2 HVK.out
              have hyi : (y : Int) = 0 := by omega
              rw [hyi]
              clear hy hyv hyi hy0 hyv2
              have HLEN : Hid (l.length ≤ 140737488355328) := hide (by have := HN.out; have := HL.out; omega)
              go_wp2_with fail
              refine wp_region_mono 8 100 (.pred (PE wr.heap.size) :: .val _ :: .val _ :: .pred (PO wr.heap.size l) :: .val _ :: .val _ :: .pred (PInk wr.heap.size l (M : Int)) :: .pred (PtrTo wr.heap.size #[.slice none 0 0, .int .i64 0] 69) :: []) (by kernel_rfl) (by kernel_rfl) rfl ⟨PE.stable _, PO.stable _ _, PInk.stable _ _ _, PtrTo.stable _ _ _, trivial⟩ rfl ⟨
                fun a u hB hO hJ => .inl ⟨rfl, fun K Q hK => by
                  clear hO hJ
                  have zz := hB.size
                  go_simp
                  exact hK _ _ ((Below.refl _ _).alloc (Nat.le_refl _) _) ⟨⟨_, rfl⟩, Own.empty (by omega) _ rfl⟩⟩,
                fun a u hB hO hJ => .inl ⟨rfl, fun K Q hK => by
                  have e3 : a.tmps[3]?.getD undef = .pointer (some ⟨w.heap.size, 0, none⟩) := hO 3 rfl
                  clear hO hJ
                  go_simp
                  try go_bits
                  exact hK _ _ (Below.refl _ _) rfl⟩,
                fun a u hB hO hJ => .inl ⟨rfl, fun K Q hK => by
                  have e43 : a.tmps[43]?.getD undef = _ := hJ 1 rfl
                  clear hO hJ
                  have hcu := ((bcell hB).1 _ _ k3).trans (k1 0)
                  go_simp
                  exact hK _ _ (Below.refl _ _) rfl⟩,
                fun a u hB hO hJ => .inl ⟨rfl, fun K Q hK => by
                  have e42 : (PE wr.heap.size) (a.tmps[42]?.getD undef) u := hJ 0 rfl
                  have e44 : a.tmps[44]?.getD undef = _ := hJ 2 rfl
                  clear hO hJ
                  have zz := hB.size
                  exact wp_append_E_of e42 (by rw [e44]; exact HI2.out.below hB) HLEN.out (by omega) fun v2 w2 o2 b2 => hK _ _ b2 o2⟩,
                fun a u hB hO hJ => .inl ⟨rfl, fun K Q hK => by
                  have e3 : a.tmps[3]?.getD undef = .pointer (some ⟨w.heap.size, 0, none⟩) := hO 3 rfl
                  clear hO hJ
                  go_simp
                  try go_bits
                  exact hK _ _ (Below.refl _ _) rfl⟩,
                fun a u hB hO hJ => .inl ⟨rfl, fun K Q hK => by
                  have e46 : a.tmps[46]?.getD undef = _ := hJ 4 rfl
                  clear hO hJ
                  have hcu := ((bcell hB).1 _ _ k3).trans (k1 1)
                  go_simp
                  exact hK _ _ (Below.refl _ _) rfl⟩,
                fun a u hB hO hJ => .inl ⟨rfl, fun K Q hK => by
                  have e45 : (PO wr.heap.size l) (a.tmps[45]?.getD undef) u := hJ 3 rfl
                  have e47 : a.tmps[47]?.getD undef = _ := hJ 5 rfl
                  clear hO hJ
                  obtain ⟨a9, n9, c9, h9, -⟩ := IsB.len' (Own.isB e45)
                  rw [h9] at e45
                  go_simp
                  exact hK _ _ (Below.refl _ _) ⟨_, rfl, e45⟩⟩,
                fun a u hB hO hJ => .inl ⟨rfl, fun K Q hK => by
                  clear hO hJ
                  have zz := hB.size
                  go_simp
                  exact hK _ _ ((Below.refl _ _).alloc (Nat.le_refl _) _) (PtrTo.alloc _ _ _ (by omega))⟩,
                trivial⟩ ?fin11
              case fin11 =>
                intro u hB
                simp only [Act.put, List.setIfInBounds_toArray, List.set_cons_zero, List.set_cons_succ, List.drop_succ_cons, List.drop_zero, List.take_succ_cons, List.take_zero, Laid]
                rintro v42 - v45 - _ ⟨s0, rfl, hs0⟩ _ ⟨g, rfl, hgB, hgr⟩
                have zu := hB.size
                obtain ⟨a9, n9, c9, rfl, -⟩ := hs0.isB.len'
                have HS0 := hide hs0
                have HGR := hide hgr
                have HBU := hide hB
                clear hs0 hgr hB
                go_wp2_with (refine wpList_storeW g _ rfl rfl 69 _ HGR.out (by kernel_rfl) rfl rfl ?_)
                intro u2 hk2 hg2 hz2
                obtain ⟨B0, hB0⟩ : ∃ B0, B0 = wr.heap.size := ⟨_, rfl⟩
                have HS2 := hide (World.ownsRow.kept HS0.out hg2 (row_apart HGR.out HS0.out))
                rw [← hB0] at HS2
                have hgB0 : B0 ≤ g := by omega
                have hgu : g < u2.heap.size := (Array.getElem?_eq_some_iff.1 hk2).1
                have HBU2 := hide ((HBU.out).grown hg2 zu (fun i hi => by cases hi; exact hgB))
                rw [← hB0] at HBU2
                have HK2 := hide hk2
                have HWL : Hid (wr.heap.size ≤ B0) := hide (by omega)
                have HR4u := hide ((HBU2.out.block (w.heap.size + 1) (by omega)).trans HR4'.out)
                have hN1B : w.heap.size + 1 < B0 := by omega
                have HWU := hide (HW2.out.trans (HBU2.out.mono (by omega)))
                have HINK := hide (inkD_zero HQ.out v nL)
                rw [← HINK.out] at HS2
                clear hk2 hg2 k1 k2 k3
                go_wp2_with fail
                generalize decide ((nL : Int) < 0) = dd0
                generalize decide ((64 : Int) < (nL : Int)) = dd1
                go_loopw [11] (fun i wx => ∃ d : Nat, i = .int .i64 ((nL : Int) - 1 - d) ∧ d ≤ nL ∧ Drawing B0 g l M v nL d wx ∧ Below B0 u2 wx) (fun i _ => (intOf i + 1).toNat)
                case atStart => exact ⟨0, by simp, Nat.zero_le _, ⟨_, HK2.out, HS2.out⟩, Below.refl _ _⟩
                case round =>
                  obtain ⟨d, rfl, hd, ⟨s, hrow, how⟩, hbw⟩ := hrel
                  have zr := hbw.size
                  by_cases hlt : d < nL
                  · obtain ⟨e, he⟩ : ∃ e, e = nL - 1 - d := ⟨_, rfl⟩
                    have hei : (nL : Int) - 1 - d = (e : Int) := by omega
                    rw [hei]
                    obtain ⟨q, hq⟩ : ∃ q, q = M + d := ⟨_, rfl⟩
                    obtain ⟨j, hj⟩ : ∃ j, q / 8 = j := ⟨_, rfl⟩
                    obtain ⟨o, ho⟩ : ∃ o, q % 8 = o := ⟨_, rfl⟩
                    have ho8 : o < 8 := by omega
                    have hq6 : (q : Int) ≤ 8000064 := by omega
                    have hroom := inkD_room (l := l) (v := v) (K := nL) (show (M + d) / 8 = j by rw [← hq]; exact hj)
                    rw [← hq] at hrow hroom
                    obtain ⟨z, hz⟩ : ∃ z, (lowB v nL)[e]? = some z := ⟨_, lowB_get (by omega)⟩
                    have hzb : z.toNat = (v.testBit (nL - 1 - d)).toNat := by
                      rw [lowB_get (by omega)] at hz
                      rw [← Option.some.inj hz, he]
                      cases v.testBit (nL - 1 - d) <;> rfl
                    have hz1 : z.toNat ≤ 1 := by rw [hzb]; exact Bool.toNat_le _
                    obtain ⟨bL, oL, rfl, -, -⟩ := HIL.out.cellAt hz
                    have HZ := hide hz
                    have HZB := hide hzb
                    have HQD := hide hq
                    have HJ := hide hj
                    have HE := hide he
                    have HO : Hid ((q : Int) % 8 = (o : Int)) := hide (by omega)
                    have heL : (e : Int) < nL := by omega
                    have heL2 : (0 : Int) ≤ e := by omega
                    obtain ⟨sa, sn, sc, rfl, hns, -⟩ := how.isB.len'
                    have HNS := hide hns
                    clear hz hzb hq hj he hei hns
                    by_cases ho0 : o = 0
                    · subst ho0
                      rw [if_pos ho] at hroom
                      have hb0 : ((q : Int) % 8 == 0) = true := by simp; omega
                      have HROOM := hide hroom
                      have HROW := hide hrow
                      have HOWN := hide how
                      have HBW := hide hbw
                      obtain ⟨k1, k2, k3⟩ := row_facts hrow
                      have HLA : Hid ((inkD l M v nL d).length + [(0 : UInt8)].length ≤ 140737488355328) := hide (by rw [inkD_length]; simp; omega)
                      clear hroom hrow how hbw ho
                      go_wp2_with (at_builtin; refine wpList_append_G (base := B0) (HOWN.out.below ((Below.refl _ _).alloc (Nat.le_refl _) _)) (Own.isB (Own.lit (base := 0) [0] _ 1 _ rfl rfl rfl (Nat.zero_le _) (by decide))) HLA.out (by simp; omega) rfl rfl ?_)
                      intro s7 w7 o7 g7
                      obtain ⟨sa7, sn7, sc7, rfl, hns7, -⟩ := o7.isB.len'
                      have hne := row_apart HROW.out HOWN.out
                      have hrow7 := (g7.block g (by simp; omega) (by
                        intro e7
                        rcases hne with h | h
                        · rw [h] at e7
                          cases e7
                        · exact h e7.symm)).trans ((heap_alloc_old _ _ k3).trans HROW.out)
                      obtain ⟨k4, k5, k6⟩ := row_facts hrow7
                      rw [HROOM.out] at o7 hns7
                      have HB7 := hide (((HBW.out.alloc (by omega) (.cells #[.int .u8 0] 5))).grown g7 (by simp; omega) (fun i hi => (HOWN.out.lt i hi).1))
                      have HO7 := hide o7
                      have HG7 := hide hrow7
                      have HNS7 := hide hns7
                      clear o7 g7 hrow7 hns7
                      have z7 := HB7.out.size
                      go_upto_region 17 with fail
                      have HRX := hide (heap_setCell_same w7 g 0 _ 69 (.slice sa7 sn7 sc7) HG7.out)
                      have HOX := hide (World.ownsRow.kept HO7.out (setCell_grown w7 g 0 (.slice sa7 sn7 sc7)) (row_apart HG7.out HO7.out))
                      have HBX := hide (HB7.out.setCell hgB0 (p := ⟨g, 0, none⟩) (.slice sa7 sn7 sc7))
                      generalize w7.setCell ⟨g, 0, none⟩ (.slice sa7 sn7 sc7) = wX at HRX HOX HBX ⊢
                      have zX := HBX.out.size
                      have zX2 : B0 ≤ wX.heap.size := by omega
                      clear k1 k2 k3 k4 k5 k6
                      have hdl : (drawn (j + 1) l M v nL d).length = j + 1 := mkBits_length _ _
                      obtain rfl : sn7 = j + 1 := by rw [HNS7.out, hdl]
                      obtain ⟨y, hy⟩ : ∃ y, (drawn (j + 1) l M v nL d)[j]? = some y := ⟨(drawn (j + 1) l M v nL d)[j]'(by rw [hdl]; omega), by simp⟩
                      obtain ⟨gs, cur, rfl, hcur, hBgs⟩ := Own.row HOX.out (by omega)
                      obtain ⟨hgsl, hcy⟩ := (Own.isB HOX.out).cellIn hy
                      rw [Nat.zero_add] at hcy
                      have hfr := (row_facts hcur).2.1 j
                      have hne : gs ≠ g := by
                        rintro rfl
                        have h8 := HRX.out
                        rw [hcur] at h8
                        have h9 := Option.some.inj h8
                        injection h9 with _ h10 _
                        cases h10
                      have hne2 : g ≠ gs := fun h => hne h.symm
                      obtain ⟨hbLl, hcL⟩ := (HIL.out.belowB (HBU2.out.trans HBX.out) HWL.out).cellIn HZ.out
                      obtain ⟨k1, k2, k3⟩ := row_facts HRX.out
                      obtain ⟨hst, hsum⟩ := inkD_step (v := v) (K := nL) (show (M + d) / 8 = j by rw [← HQD.out]; exact HJ.out) hlt hy
                      rw [← HZB.out, show (M + d) % 8 = 0 by rw [← HQD.out]; have := HO.out; omega] at hst hsum
                      have HJL : Hid (j < (drawn (j + 1) l M v nL d).length) := hide (by rw [hdl]; omega)
                      have hy8 := y.toNat_lt
                      have HST := hide hst
                      have hj6 : (j : Int) ≤ 1000008 := by have := HJ.out; omega
                      clear hst hy hcur hdl
                      go_wp2_with fail
                      go_loop [12, 13] (fun x p => ∃ t : Nat, p = .int .i64 (t : Int) ∧ t ≤ 7 - 0 ∧ x = .int .u8 ((z.toNat * 2 ^ t : Nat) : Int)) (fun _ p => 8 - (intOf p).toNat)
                      case atStart => exact ⟨0, rfl, Nat.zero_le _, by simp⟩
                      case round =>
                        obtain ⟨t, rfl, ht, rfl⟩ := hrel
                        obtain ⟨x, hx⟩ : ∃ x, x = z.toNat * 2 ^ t := ⟨_, rfl⟩
                        have hx2 : z.toNat * 2 ^ (t + 1) = 2 * x := by rw [hx, Nat.pow_succ, ← Nat.mul_assoc, Nat.mul_comm]
                        have hxl : x ≤ 2 ^ t := by rw [hx]; calc z.toNat * 2 ^ t ≤ 1 * 2 ^ t := Nat.mul_le_mul_right _ hz1
                                                         _ = 2 ^ t := Nat.one_mul _
                        rw [← hx]
                        have HX2 := hide hx2
                        by_cases hlt3 : t < 7 - 0
                        · have hp6 : 2 ^ t ≤ 2 ^ 6 := Nat.pow_le_pow_right (by decide) (by omega)
                          have hx64 : (x : Int) ≤ 64 := by omega
                          have hlt4 : (t : Int) < 7 - (q : Int) % 8 := by have := HO.out; omega
                          clear hx hx2 hxl hp6
                          go_wp2_with fail
                          go_round
                          case rel => exact ⟨t + 1, by go_num, by omega, by rw [HX2.out]; go_num⟩
                          case measure => simp [intOf]; omega
                        · obtain rfl : t = 7 - 0 := by omega
                          rw [← hx] at hsum
                          have hge4 : 7 - (q : Int) % 8 ≤ ((7 - 0 : Nat) : Int) := by have := HO.out; omega
                          have HX := hide hx
                          have hsi : (y.toNat : Int) + x < 256 := by omega
                          clear hx hx2 hxl hlt3
                          go_wp2_with fail
                          refine wp_region_mono 17 100 (.val _ :: .val _ :: .val _ :: .val _ :: .val _ :: .val _ :: .val _ :: .val _ :: .val _ :: .val _ :: .val _ :: .val _ :: .val _ :: .val _ :: .val _ :: .val _ :: .val _ :: []) (by kernel_rfl) (by kernel_rfl) rfl trivial rfl ⟨
                            fun a u hB hO hJ => .inl ⟨rfl, fun K Q hK => by
                              have e10 : a.tmps[10]?.getD undef = .pointer (some ⟨g, 0, none⟩) := hO 10 rfl
                              clear hO hJ
                              go_simp
                              try go_bits
                              exact hK _ _ (Below.refl _ _) rfl⟩,
                            fun a u hB hO hJ => .inl ⟨rfl, fun K Q hK => by
                              have e78 : a.tmps[78]?.getD undef = _ := hJ 0 rfl
                              clear hO hJ
                              have hcu := ((bcell hB).1 _ _ k3).trans (k1 0)
                              go_simp
                              exact hK _ _ (Below.refl _ _) rfl⟩,
                            fun a u hB hO hJ => .inl ⟨rfl, fun K Q hK => by
                              have e10 : a.tmps[10]?.getD undef = .pointer (some ⟨g, 0, none⟩) := hO 10 rfl
                              clear hO hJ
                              go_simp
                              try go_bits
                              exact hK _ _ (Below.refl _ _) rfl⟩,
                            fun a u hB hO hJ => .inl ⟨rfl, fun K Q hK => by
                              have e80 : a.tmps[80]?.getD undef = _ := hJ 2 rfl
                              clear hO hJ
                              have hcu := ((bcell hB).1 _ _ k3).trans (k1 0)
                              go_simp
                              exact hK _ _ (Below.refl _ _) rfl⟩,
                            fun a u hB hO hJ => .inl ⟨rfl, fun K Q hK => by
                              have e81 : a.tmps[81]?.getD undef = _ := hJ 3 rfl
                              clear hO hJ
                              go_simp
                              try go_bits
                              exact hK _ _ (Below.refl _ _) rfl⟩,
                            fun a u hB hO hJ => .inl ⟨rfl, fun K Q hK => by
                              have e82 : a.tmps[82]?.getD undef = _ := hJ 4 rfl
                              clear hO hJ
                              go_simp
                              try go_bits
                              exact hK _ _ (Below.refl _ _) rfl⟩,
                            fun a u hB hO hJ => .inl ⟨rfl, fun K Q hK => by
                              have e10 : a.tmps[10]?.getD undef = .pointer (some ⟨g, 0, none⟩) := hO 10 rfl
                              clear hO hJ
                              go_simp
                              try go_bits
                              exact hK _ _ (Below.refl _ _) rfl⟩,
                            fun a u hB hO hJ => .inl ⟨rfl, fun K Q hK => by
                              have e84 : a.tmps[84]?.getD undef = _ := hJ 6 rfl
                              clear hO hJ
                              have hcu := ((bcell hB).1 _ _ k3).trans (k1 0)
                              go_simp
                              exact hK _ _ (Below.refl _ _) rfl⟩,
                            fun a u hB hO hJ => .inl ⟨rfl, fun K Q hK => by
                              have e10 : a.tmps[10]?.getD undef = .pointer (some ⟨g, 0, none⟩) := hO 10 rfl
                              clear hO hJ
                              go_simp
                              try go_bits
                              exact hK _ _ (Below.refl _ _) rfl⟩,
                            fun a u hB hO hJ => .inl ⟨rfl, fun K Q hK => by
                              have e86 : a.tmps[86]?.getD undef = _ := hJ 8 rfl
                              clear hO hJ
                              have hcu := ((bcell hB).1 _ _ k3).trans (k1 0)
                              go_simp
                              exact hK _ _ (Below.refl _ _) rfl⟩,
                            fun a u hB hO hJ => .inl ⟨rfl, fun K Q hK => by
                              have e87 : a.tmps[87]?.getD undef = _ := hJ 9 rfl
                              clear hO hJ
                              go_simp
                              try go_bits
                              exact hK _ _ (Below.refl _ _) rfl⟩,
                            fun a u hB hO hJ => .inl ⟨rfl, fun K Q hK => by
                              have e88 : a.tmps[88]?.getD undef = _ := hJ 10 rfl
                              clear hO hJ
                              go_simp
                              try go_bits
                              exact hK _ _ (Below.refl _ _) rfl⟩,
                            fun a u hB hO hJ => .inl ⟨rfl, fun K Q hK => by
                              have e85 : a.tmps[85]?.getD undef = _ := hJ 7 rfl
                              have e89 : a.tmps[89]?.getD undef = _ := hJ 11 rfl
                              clear hO hJ
                              have hjj : (j : Int) < (j : Int) + 1 := by omega
                              go_simp
                              exact hK _ _ (Below.refl _ _) rfl⟩,
                            fun a u hB hO hJ => .inl ⟨rfl, fun K Q hK => by
                              have e90 : a.tmps[90]?.getD undef = _ := hJ 12 rfl
                              clear hO hJ
                              have hcu := ((bcell hB).1 _ _ hgsl).trans hcy
                              go_simp
                              exact hK _ _ (Below.refl _ _) rfl⟩,
                            fun a u hB hO hJ => .inl ⟨rfl, fun K Q hK => by
                              have e12 : a.tmps[12]?.getD undef = .int .u8 (x : Int) := hO 12 rfl
                              clear hO hJ
                              exact wp_move_of e12 fun h => hK _ _ (Below.refl _ _) h⟩,
                            fun a u hB hO hJ => .inl ⟨rfl, fun K Q hK => by
                              have e91 : a.tmps[91]?.getD undef = _ := hJ 13 rfl
                              have e92 : a.tmps[92]?.getD undef = _ := hJ 14 rfl
                              clear hO hJ
                              go_simp
                              try go_bits
                              exact hK _ _ (Below.refl _ _) rfl⟩,
                            fun a u hB hO hJ => .inl ⟨rfl, fun K Q hK => by
                              have e79 : a.tmps[79]?.getD undef = _ := hJ 1 rfl
                              have e83 : a.tmps[83]?.getD undef = _ := hJ 5 rfl
                              clear hO hJ
                              have hjj : (j : Int) < (j : Int) + 1 := by omega
                              go_simp
                              exact hK _ _ (Below.refl _ _) rfl⟩,
                            trivial⟩ ?fin22
                          case fin22 =>
                            intro u hB
                            simp only [Act.put, List.setIfInBounds_toArray, List.set_cons_zero, List.set_cons_succ, List.drop_succ_cons, List.drop_zero, List.take_succ_cons, List.take_zero, Laid]
                            have hcy2 := ((bcell hB).1 _ _ hgsl).trans hcy
                            have hfr2 := ((bcell hB).2 _ _ hgsl).trans hfr
                            have zu2 := hB.size
                            have HRU := hide ((hB.block g k3).trans HRX.out)
                            have HOU := hide (Own.below HOX.out hB)
                            have HBU3 := hide (HBX.out.trans (hB.mono zX2))
                            clear k1 k2 hcy hfr hB hcL
                            obtain ⟨k1, k2, k3'⟩ := row_facts HRU.out
                            go_wp2_with fail
                            go_roundw
                            case rel =>
                              have r1 := HE.out
                              have r2 := HQD.out
                              have h1 := HOU.out.setB HJL.out (UInt8.ofNat (y.toNat + x))
                              rw [HX.out, ← HST.out, ← HX.out, bval_ofNat _ hsum, Int.natCast_add] at h1
                              have h2 := World.ownsRow.kept h1 (setCell_grown _ g 1 (.int .i64 ((q : Int) + 1))) (.inr (by simp [Value.ownBlock]; exact hne))
                              have h3 := heap_setCell_same (u.setCell ⟨gs, j, none⟩ (.int .u8 ((y.toNat : Int) + x))) g 1 _ 69 (.int .i64 ((q : Int) + 1)) ((heap_setCell_other u _ g _ hne2).trans HRU.out)
                              rw [show (q : Int) + 1 = ((M + (d + 1) : Nat) : Int) by omega] at h2 h3 ⊢
                              exact ⟨d + 1, by go_num, by omega, ⟨_, h3, h2⟩, (HBU3.out.setCell hBgs _).setCell hgB0 _⟩
                            case measure => have r1 := HE.out; simp [intOf]; try omega
                    · rw [if_neg (by rw [ho]; exact ho0)] at hroom
                      have hb0 : ((q : Int) % 8 == 0) = false := by simp; omega
                      rw [hroom] at how
                      have HNX : Hid (sn = (drawn (j + 1) l M v nL d).length) := hide (by rw [HNS.out, hroom])
                      have HOX := hide how
                      have HRX := hide hrow
                      have HBX := hide hbw
                      have zX2 : B0 ≤ wr.heap.size := by omega
                      obtain ⟨k1, k2, k3⟩ := row_facts hrow
                      clear hroom hrow how hbw ho
                      go_upto_region 17 with fail
                      clear k1 k2 k3
                      have hdl : (drawn (j + 1) l M v nL d).length = j + 1 := mkBits_length _ _
                      obtain rfl : sn = j + 1 := by rw [HNX.out, hdl]
                      obtain ⟨y, hy⟩ : ∃ y, (drawn (j + 1) l M v nL d)[j]? = some y := ⟨(drawn (j + 1) l M v nL d)[j]'(by rw [hdl]; omega), by simp⟩
                      obtain ⟨gs, cur, rfl, hcur, hBgs⟩ := Own.row HOX.out (by omega)
                      obtain ⟨hgsl, hcy⟩ := (Own.isB HOX.out).cellIn hy
                      rw [Nat.zero_add] at hcy
                      have hfr := (row_facts hcur).2.1 j
                      have hne : gs ≠ g := by
                        rintro rfl
                        have h8 := HRX.out
                        rw [hcur] at h8
                        have h9 := Option.some.inj h8
                        injection h9 with _ h10 _
                        cases h10
                      have hne2 : g ≠ gs := fun h => hne h.symm
                      obtain ⟨hbLl, hcL⟩ := (HIL.out.belowB (HBU2.out.trans HBX.out) HWL.out).cellIn HZ.out
                      obtain ⟨k1, k2, k3⟩ := row_facts HRX.out
                      obtain ⟨hst, hsum⟩ := inkD_step (v := v) (K := nL) (show (M + d) / 8 = j by rw [← HQD.out]; exact HJ.out) hlt hy
                      rw [← HZB.out, show (M + d) % 8 = o by rw [← HQD.out]; have := HO.out; omega] at hst hsum
                      have HJL : Hid (j < (drawn (j + 1) l M v nL d).length) := hide (by rw [hdl]; omega)
                      have hy8 := y.toNat_lt
                      have HST := hide hst
                      have hj6 : (j : Int) ≤ 1000008 := by have := HJ.out; omega
                      clear hst hy hcur hdl
                      go_wp2_with fail
                      go_loop [12, 13] (fun x p => ∃ t : Nat, p = .int .i64 (t : Int) ∧ t ≤ 7 - o ∧ x = .int .u8 ((z.toNat * 2 ^ t : Nat) : Int)) (fun _ p => 8 - (intOf p).toNat)
                      case atStart => exact ⟨0, rfl, Nat.zero_le _, by simp⟩
                      case round =>
                        obtain ⟨t, rfl, ht, rfl⟩ := hrel
                        obtain ⟨x, hx⟩ : ∃ x, x = z.toNat * 2 ^ t := ⟨_, rfl⟩
                        have hx2 : z.toNat * 2 ^ (t + 1) = 2 * x := by rw [hx, Nat.pow_succ, ← Nat.mul_assoc, Nat.mul_comm]
                        have hxl : x ≤ 2 ^ t := by rw [hx]; calc z.toNat * 2 ^ t ≤ 1 * 2 ^ t := Nat.mul_le_mul_right _ hz1
                                                         _ = 2 ^ t := Nat.one_mul _
                        rw [← hx]
                        have HX2 := hide hx2
                        by_cases hlt3 : t < 7 - o
                        · have hp6 : 2 ^ t ≤ 2 ^ 6 := Nat.pow_le_pow_right (by decide) (by omega)
                          have hx64 : (x : Int) ≤ 64 := by omega
                          have hlt4 : (t : Int) < 7 - (q : Int) % 8 := by have := HO.out; omega
                          clear hx hx2 hxl hp6
                          go_wp2_with fail
                          go_round
                          case rel => exact ⟨t + 1, by go_num, by omega, by rw [HX2.out]; go_num⟩
                          case measure => simp [intOf]; omega
                        · obtain rfl : t = 7 - o := by omega
                          rw [← hx] at hsum
                          have hge4 : 7 - (q : Int) % 8 ≤ ((7 - o : Nat) : Int) := by have := HO.out; omega
                          have HX := hide hx
                          have hsi : (y.toNat : Int) + x < 256 := by omega
                          clear hx hx2 hxl hlt3
                          go_wp2_with fail
                          refine wp_region_mono 17 100 (.val _ :: .val _ :: .val _ :: .val _ :: .val _ :: .val _ :: .val _ :: .val _ :: .val _ :: .val _ :: .val _ :: .val _ :: .val _ :: .val _ :: .val _ :: .val _ :: .val _ :: []) (by kernel_rfl) (by kernel_rfl) rfl trivial rfl ⟨
                            fun a u hB hO hJ => .inl ⟨rfl, fun K Q hK => by
                              have e10 : a.tmps[10]?.getD undef = .pointer (some ⟨g, 0, none⟩) := hO 10 rfl
                              clear hO hJ
                              go_simp
                              try go_bits
                              exact hK _ _ (Below.refl _ _) rfl⟩,
                            fun a u hB hO hJ => .inl ⟨rfl, fun K Q hK => by
                              have e78 : a.tmps[78]?.getD undef = _ := hJ 0 rfl
                              clear hO hJ
                              have hcu := ((bcell hB).1 _ _ k3).trans (k1 0)
                              go_simp
                              exact hK _ _ (Below.refl _ _) rfl⟩,
                            fun a u hB hO hJ => .inl ⟨rfl, fun K Q hK => by
                              have e10 : a.tmps[10]?.getD undef = .pointer (some ⟨g, 0, none⟩) := hO 10 rfl
                              clear hO hJ
                              go_simp
                              try go_bits
                              exact hK _ _ (Below.refl _ _) rfl⟩,
                            fun a u hB hO hJ => .inl ⟨rfl, fun K Q hK => by
                              have e80 : a.tmps[80]?.getD undef = _ := hJ 2 rfl
                              clear hO hJ
                              have hcu := ((bcell hB).1 _ _ k3).trans (k1 0)
                              go_simp
                              exact hK _ _ (Below.refl _ _) rfl⟩,
                            fun a u hB hO hJ => .inl ⟨rfl, fun K Q hK => by
                              have e81 : a.tmps[81]?.getD undef = _ := hJ 3 rfl
                              clear hO hJ
                              go_simp
                              try go_bits
                              exact hK _ _ (Below.refl _ _) rfl⟩,
                            fun a u hB hO hJ => .inl ⟨rfl, fun K Q hK => by
                              have e82 : a.tmps[82]?.getD undef = _ := hJ 4 rfl
                              clear hO hJ
                              go_simp
                              try go_bits
                              exact hK _ _ (Below.refl _ _) rfl⟩,
                            fun a u hB hO hJ => .inl ⟨rfl, fun K Q hK => by
                              have e10 : a.tmps[10]?.getD undef = .pointer (some ⟨g, 0, none⟩) := hO 10 rfl
                              clear hO hJ
                              go_simp
                              try go_bits
                              exact hK _ _ (Below.refl _ _) rfl⟩,
                            fun a u hB hO hJ => .inl ⟨rfl, fun K Q hK => by
                              have e84 : a.tmps[84]?.getD undef = _ := hJ 6 rfl
                              clear hO hJ
                              have hcu := ((bcell hB).1 _ _ k3).trans (k1 0)
                              go_simp
                              exact hK _ _ (Below.refl _ _) rfl⟩,
                            fun a u hB hO hJ => .inl ⟨rfl, fun K Q hK => by
                              have e10 : a.tmps[10]?.getD undef = .pointer (some ⟨g, 0, none⟩) := hO 10 rfl
                              clear hO hJ
                              go_simp
                              try go_bits
                              exact hK _ _ (Below.refl _ _) rfl⟩,
                            fun a u hB hO hJ => .inl ⟨rfl, fun K Q hK => by
                              have e86 : a.tmps[86]?.getD undef = _ := hJ 8 rfl
                              clear hO hJ
                              have hcu := ((bcell hB).1 _ _ k3).trans (k1 0)
                              go_simp
                              exact hK _ _ (Below.refl _ _) rfl⟩,
                            fun a u hB hO hJ => .inl ⟨rfl, fun K Q hK => by
                              have e87 : a.tmps[87]?.getD undef = _ := hJ 9 rfl
                              clear hO hJ
                              go_simp
                              try go_bits
                              exact hK _ _ (Below.refl _ _) rfl⟩,
                            fun a u hB hO hJ => .inl ⟨rfl, fun K Q hK => by
                              have e88 : a.tmps[88]?.getD undef = _ := hJ 10 rfl
                              clear hO hJ
                              go_simp
                              try go_bits
                              exact hK _ _ (Below.refl _ _) rfl⟩,
                            fun a u hB hO hJ => .inl ⟨rfl, fun K Q hK => by
                              have e85 : a.tmps[85]?.getD undef = _ := hJ 7 rfl
                              have e89 : a.tmps[89]?.getD undef = _ := hJ 11 rfl
                              clear hO hJ
                              have hjj : (j : Int) < (j : Int) + 1 := by omega
                              go_simp
                              exact hK _ _ (Below.refl _ _) rfl⟩,
                            fun a u hB hO hJ => .inl ⟨rfl, fun K Q hK => by
                              have e90 : a.tmps[90]?.getD undef = _ := hJ 12 rfl
                              clear hO hJ
                              have hcu := ((bcell hB).1 _ _ hgsl).trans hcy
                              go_simp
                              exact hK _ _ (Below.refl _ _) rfl⟩,
                            fun a u hB hO hJ => .inl ⟨rfl, fun K Q hK => by
                              have e12 : a.tmps[12]?.getD undef = .int .u8 (x : Int) := hO 12 rfl
                              clear hO hJ
                              exact wp_move_of e12 fun h => hK _ _ (Below.refl _ _) h⟩,
                            fun a u hB hO hJ => .inl ⟨rfl, fun K Q hK => by
                              have e91 : a.tmps[91]?.getD undef = _ := hJ 13 rfl
                              have e92 : a.tmps[92]?.getD undef = _ := hJ 14 rfl
                              clear hO hJ
                              go_simp
                              try go_bits
                              exact hK _ _ (Below.refl _ _) rfl⟩,
                            fun a u hB hO hJ => .inl ⟨rfl, fun K Q hK => by
                              have e79 : a.tmps[79]?.getD undef = _ := hJ 1 rfl
                              have e83 : a.tmps[83]?.getD undef = _ := hJ 5 rfl
                              clear hO hJ
                              have hjj : (j : Int) < (j : Int) + 1 := by omega
                              go_simp
                              exact hK _ _ (Below.refl _ _) rfl⟩,
                            trivial⟩ ?fin22b
                          case fin22b =>
                            intro u hB
                            simp only [Act.put, List.setIfInBounds_toArray, List.set_cons_zero, List.set_cons_succ, List.drop_succ_cons, List.drop_zero, List.take_succ_cons, List.take_zero, Laid]
                            have hcy2 := ((bcell hB).1 _ _ hgsl).trans hcy
                            have hfr2 := ((bcell hB).2 _ _ hgsl).trans hfr
                            have zu2 := hB.size
                            have HRU := hide ((hB.block g k3).trans HRX.out)
                            have HOU := hide (Own.below HOX.out hB)
                            have HBU3 := hide (HBX.out.trans (hB.mono zX2))
                            clear k1 k2 hcy hfr hB hcL
                            obtain ⟨k1, k2, k3'⟩ := row_facts HRU.out
                            go_wp2_with fail
                            go_roundw
                            case rel =>
                              have r1 := HE.out
                              have r2 := HQD.out
                              have h1 := HOU.out.setB HJL.out (UInt8.ofNat (y.toNat + x))
                              rw [HX.out, ← HST.out, ← HX.out, bval_ofNat _ hsum, Int.natCast_add] at h1
                              have h2 := World.ownsRow.kept h1 (setCell_grown _ g 1 (.int .i64 ((q : Int) + 1))) (.inr (by simp [Value.ownBlock]; exact hne))
                              have h3 := heap_setCell_same (u.setCell ⟨gs, j, none⟩ (.int .u8 ((y.toNat : Int) + x))) g 1 _ 69 (.int .i64 ((q : Int) + 1)) ((heap_setCell_other u _ g _ hne2).trans HRU.out)
                              rw [show (q : Int) + 1 = ((M + (d + 1) : Nat) : Int) by omega] at h2 h3 ⊢
                              exact ⟨d + 1, by go_num, by omega, ⟨_, h3, h2⟩, (HBU3.out.setCell hBgs _).setCell hgB0 _⟩
                            case measure => have r1 := HE.out; simp [intOf]; try omega
                  · obtain rfl : d = nL := by omega
                    have hei : (d : Int) - 1 - d = -1 := by omega
                    rw [hei]
                    obtain ⟨sa, sn, sc, rfl, -⟩ := how.isB.len'
                    have HRX := hide hrow
                    have HOX := hide how
                    have HBX := hide (HWU.out.trans (hbw.mono (by omega)))
                    have HR4x := hide ((hbw.block (w.heap.size + 1) hN1B).trans HR4u.out)
                    have zz := HBX.out.size
                    have zw : w.heap.size + 1 < wr.heap.size := by omega
                    have hne3 : g ≠ w.heap.size + 1 := by omega
                    obtain ⟨k1, k2, k3⟩ := row_facts hrow
                    clear hrow how hbw hei hlt
                    go_wp2_with (refine wpList_storeW (w.heap.size + 1) _ rfl rfl 69 _ HR4x.out (by kernel_rfl) rfl rfl ?_)
                    intro w3 hk3 hg3 hz3
                    have HOG := hide (World.ownsRow.kept HOX.out hg3 (by
                      rcases HOX.out.2 with ⟨h1, _⟩ | ⟨g', cap, cur, h1, h2, _⟩
                      · exact .inl (by rw [h1]; rfl)
                      · refine .inr ?_
                        rw [h1]
                        simp only [Value.ownBlock]
                        intro he
                        have := Option.some.inj he
                        omega))
                    have HBF := hide (HBX.out.grown hg3 (by omega) (fun i hi => by cases hi; omega))
                    go_wp2_with fail
                    exact bodyPost_ret (v := .tuple #[.agg #[.slice sa sn sc, .int .i64 ((M + d : Nat) : Int)], .int .i64 0]) (results_cell_row_tmp (p := 6) (u := 7) rfl _ _ (w.heap.size + 1) 69 _ (0, 0) _ rfl hk3 Try.underlying69 rfl (by kernel_rfl)) rfl ⟨_, by rw [Int.natCast_add], Own.isB HOG.out, HBF.out⟩

end Go.Proofs.Ytellclclpmofcaa
