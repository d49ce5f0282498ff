/-
  The contract of crossbarref11.Open; conditions: the argument reads as bytes.
-/
import Derived.Test.YtellclclpmofcaaTOpen
namespace Go.Proofs.Ytellclclpmofcaa
open Go.RowKit

/-- A car as the reference has it. -/
def PCar (base : Nat) (p : Bool) (c t s : Int) (l : List UInt8) (m : Int) (v : Value) (w : World) : Prop := ∃ b, v = .agg #[.bool p, .int .i64 c, .int .i64 t, .int .i64 s, b, .int .i64 m] ∧ Own w base b l
theorem PCar.stable (base : Nat) (p : Bool) (c t s : Int) (l : List UInt8) (m : Int) : ∀ v w w', PCar base p c t s l m v w → Below w.heap.size w w' → PCar base p c t s l m v w' :=
  fun _ _ _ ⟨b, h, ho⟩ hb => ⟨b, h, ho.below hb⟩

def RetRop (w : World) (l : List UInt8) (e : Ending) (w' : World) : Prop :=
  ∃ p c t s v, opV l = .agg #[.bool p, .int .i64 c, .int .i64 t, .int .i64 s] ∧ e = .returned (.tuple #[.agg #[.bool p, .int .i64 c, .int .i64 t, .int .i64 s, v, .int .i64 (opN l)], .int .i64 (opE l)]) ∧ Own w' w.heap.size v (opB l) ∧ Below w.heap.size w w'

theorem RetRop.bad {w w' : World} {l : List UInt8} {x : Int} (h : opE l = x) (hx : x ≠ 0) (hb : Below w.heap.size w w') : RetRop w l (.returned (.tuple #[.agg #[.bool false, .int .i64 0, .int .i64 0, .int .i64 0, .slice none 0 0, .int .i64 0], .int .i64 x])) w' := by
  obtain ⟨h1, h2, h3⟩ := op_bad (l := l) (by rw [h]; exact hx)
  exact ⟨false, 0, 0, 0, .slice none 0 0, h3, by rw [h1, h]; rfl, by rw [h2]; exact Own.nil _ _, hb⟩

theorem RetRop.good {w w' : World} {l : List UInt8} {p : Bool} {c t s : Int} {m : Nat} {v : Value} (h : opE l = 0) (hv : rdV l = .agg #[.bool p, .int .i64 c, .int .i64 t, .int .i64 s]) (hm : opN l = m) (ho : Own w' w.heap.size v (opB l)) (hb : Below w.heap.size w w') :
    RetRop w l (.returned (.tuple #[.agg #[.bool p, .int .i64 c, .int .i64 t, .int .i64 s, v, .int .i64 m], .int .i64 0])) w' :=
  ⟨p, c, t, s, v, by rw [opV, if_pos h, hv], by rw [hm, h], ho, hb⟩

theorem Own.grown {w w' : World} {base g : Nat} {v : Value} {l : List UInt8} (h : Own w base v l) (hg : w.grownBy w' (some g)) (hlt : g < base) : Own w' base v l := by
  refine World.ownsRow.kept (row := some g) h hg (.inr fun e => ?_)
  have := (h.lt g e).1
  omega

set_option maxRecDepth 100000 in
set_option maxHeartbeats 2000000 in
theorem ropen_walk (ad : Option Addr) (n cap : Nat) (l : List UInt8) (w : World) (hn : n = l.length) (hm : n ≤ maxLen) (h : IsB w (.slice ad n cap) l) : Calls Try.prog 37 #[.slice ad n cap] w (RetRop w l) := by
  have HB := hide h
  have HN := hide hn
  unfold maxLen at hm
  clear h hn
  by_cases h0 : rdE l = 0
  · obtain ⟨p, hp⟩ : ∃ p, p = rdP l := ⟨_, rfl⟩
    obtain ⟨c, hc⟩ : ∃ c, c = rdN l := ⟨_, rfl⟩
    obtain ⟨t, ht⟩ : ∃ t, t = rdT l := ⟨_, rfl⟩
    obtain ⟨s, hs⟩ : ∃ s, s = rdS l := ⟨_, rfl⟩
    have HV : Hid (rdV l = .agg #[.bool p, .int .i64 c, .int .i64 t, .int .i64 s]) := hide (by rw [rdV, hp, hc, ht, hs])
    have HP := hide hp
    have HS := hide hs
    have H0 := hide h0
    have hle := rd_le h0
    rw [← hs] at hle
    obtain ⟨q1, q2, _⟩ := hle
    have HL4 : Hid (4 ≤ l.length) := hide (by omega)
    by_cases hlt : s < (n : Int)
    · have HX : Hid (opE l = 4) := hide (by rw [opE, if_neg (by simp [H0.out]), if_pos (by rw [← HS.out, ← HN.out]; exact hlt)])
      have hb : (s != (n : Int)) = true := by simp; omega
      clear hp hc ht hs h0 q1
      go_enter Try.func37, Try.ntmps37
      go_wp2_with fail
      refine (rread_any _ _ _ (HB.out.below ((Below.refl _ _).alloc (Nat.le_refl _) _))).mono ?_
      rintro e w1 ⟨rfl, b1⟩
      rw [H0.out, HV.out]
      have z1 := b1.size
      simp only [World.size_alloc] at z1
      have lt1 : w.heap.size < w1.heap.size := by omega
      have lt4 : w.heap.size < w1.heap.size + 1 := by omega
      have hne : w1.heap.size ≠ w.heap.size := by omega
      obtain ⟨hc, hf⟩ := bcell b1
      have B1 := ((Below.refl w.heap.size w).alloc (Nat.le_refl _) _).trans (b1.mono (by simp))
      have HRow : ∀ cs, Hid ((w1.alloc (.cells cs 23)).heap[w.heap.size]? = some (.cells #[.bool false, .int .i64 0, .int .i64 0, .int .i64 0, .slice none 0 0, .int .i64 0] 51 (0, 0))) := fun cs => hide (by
        rw [heap_alloc_old _ _ lt1, b1.block _ (by simp), heap_alloc_new])
      have HI1 := hide (HB.out.below B1)
      have HB1 := hide B1
      clear b1 B1
      go_wp2_with (refine wpList_storeW w.heap.size _ rfl rfl 51 _ (HRow _).out (by kernel_rfl) rfl rfl ?_)
      intro u2 hk2 hg2 hs2
      go_wp2_with fail
      exact bodyPost_ret (v := .tuple #[.agg #[.bool false, .int .i64 0, .int .i64 0, .int .i64 0, .slice none 0 0, .int .i64 0], .int .i64 4]) (results_cell_row_tmp (p := 2) (u := 3) rfl _ _ w.heap.size 51 _ (0, 0) _ rfl hk2 Try.underlying51 rfl (by kernel_rfl)) rfl (RetRop.bad HX.out (by decide) ((HB1.out.alloc (Nat.le_of_lt lt1) _).grown hg2 (by simp; omega) (fun i hi => by cases hi; exact Nat.le_refl _)))
    · have hge : (n : Int) ≤ s := by omega
      have hb : (s != (n : Int)) = false := by have := HN.out; simp; omega
      have HG : Hid (¬ rdS l < (l.length : Int)) := hide (by rw [← HS.out, ← HN.out]; exact hlt)
      have hl7 : (n : Int) ≤ 262144 := by have := rd_size H0.out; have := HS.out; omega
      have HL : Hid ((opB l).length ≤ 140737488355328) := hide (by
        have h1 : (opB l).length ≤ l.length := by unfold opB; split <;> simp <;> omega
        have := HN.out
        omega)
      clear hp hc ht hs h0 q1
      cases p
      · have HX : Hid (opE l = 0) := hide (by rw [opE, if_neg (by simp [H0.out]), if_neg HG.out, if_neg (by rw [← HP.out]; decide)])
        have HX2 : Hid (opN l = 0) := hide (by rw [opN, if_pos HX.out, if_neg (by rw [← HP.out]; decide)])
        have HO : Hid ((l.take n).drop 4 = opB l) := hide (by rw [opB, if_pos HX.out, HX2.out, HN.out]; rfl)
        have HS1 : Hid (4 ≤ n) := hide (by have := HL4.out; have := HN.out; omega)
        have HS2 : Hid (n ≤ l.length) := hide (by have := HN.out; omega)
        clear hlt
        go_enter Try.func37, Try.ntmps37
        go_wp2_with fail
        refine (rread_any _ _ _ (HB.out.below ((Below.refl _ _).alloc (Nat.le_refl _) _))).mono ?_
        rintro e w1 ⟨rfl, b1⟩
        rw [H0.out, HV.out]
        have z1 := b1.size
        simp only [World.size_alloc] at z1
        have lt1 : w.heap.size < w1.heap.size := by omega
        have lt4 : w.heap.size < w1.heap.size + 1 := by omega
        have hne : w1.heap.size ≠ w.heap.size := by omega
        obtain ⟨hc, hf⟩ := bcell b1
        have B1 := ((Below.refl w.heap.size w).alloc (Nat.le_refl _) _).trans (b1.mono (by simp))
        have HRow : ∀ cs, Hid ((w1.alloc (.cells cs 23)).heap[w.heap.size]? = some (.cells #[.bool false, .int .i64 0, .int .i64 0, .int .i64 0, .slice none 0 0, .int .i64 0] 51 (0, 0))) := fun cs => hide (by
          rw [heap_alloc_old _ _ lt1, b1.block _ (by simp), heap_alloc_new])
        have HI1 := hide (HB.out.below B1)
        have HB1 := hide B1
        clear b1 B1
        go_wp2_with fail
        refine wp_region_mono 11 46 (.val _ :: .pred (PE (w.heap.size + 1)) :: .val _ :: .val _ :: .val _ :: .val _ :: .val _ :: .pred (PB (opB l)) :: .pred (PO (w.heap.size + 1) (opB l)) :: .val _ :: .pred (PCar (w.heap.size + 1) false c t s (opB l) 0) :: []) (by kernel_rfl) (by kernel_rfl) rfl ⟨PE.stable _, PB.stable _, PO.stable _ _, PCar.stable _ _ _ _ _ _ _, trivial⟩ rfl ⟨
          fun a u hB hO hJ => .inl ⟨rfl, fun K Q hK => by
            have e4 : a.tmps[4]?.getD undef = .pointer (some ⟨w1.heap.size, 0, none⟩) := hO 4 rfl
            clear hO hJ
            obtain ⟨hc9, hf9⟩ := bcell hB
            go_simp
            exact hK _ _ (Below.refl _ _) rfl⟩,
          fun a u hB hO hJ => .inl ⟨rfl, fun K Q hK => by
            clear hO hJ
            have zz := hB.size
            try simp only [World.size_alloc] at zz
            go_simp
            exact hK _ _ ((Below.refl _ _).alloc (Nat.le_refl _) _) ⟨⟨_, rfl⟩, Own.empty (by omega) _ rfl⟩⟩,
          fun a u hB hO hJ => .inl ⟨rfl, fun K Q hK => by
            have e0 : a.tmps[0]?.getD undef = .slice ad n cap := hO 0 rfl
            clear hO hJ
            exact wp_move_of e0 fun h => hK _ _ (Below.refl _ _) h⟩,
          fun a u hB hO hJ => .inl ⟨rfl, fun K Q hK => by
            have e0 : a.tmps[0]?.getD undef = .slice ad n cap := hO 0 rfl
            clear hO hJ
            exact wp_move_of e0 fun h => hK _ _ (Below.refl _ _) h⟩,
          fun a u hB hO hJ => .inl ⟨rfl, fun K Q hK => by
            have e38 : a.tmps[38]?.getD undef = _ := hJ 3 rfl
            clear hO hJ
            go_simp
            try go_bits
            exact hK _ _ (Below.refl _ _) rfl⟩,
          fun a u hB hO hJ => .inl ⟨rfl, fun K Q hK => by
            have e6 : a.tmps[6]?.getD undef = .int .i64 0 := hO 6 rfl
            clear hO hJ
            exact wp_move_of e6 fun h => hK _ _ (Below.refl _ _) h⟩,
          fun a u hB hO hJ => .inl ⟨rfl, fun K Q hK => by
            have e39 : a.tmps[39]?.getD undef = _ := hJ 4 rfl
            have e40 : a.tmps[40]?.getD undef = _ := hJ 5 rfl
            clear hO hJ
            go_simp
            try go_bits
            exact hK _ _ (Below.refl _ _) rfl⟩,
          fun a u hB hO hJ => .inl ⟨rfl, fun K Q hK => by
            have e37 : a.tmps[37]?.getD undef = _ := hJ 2 rfl
            have e41 : a.tmps[41]?.getD undef = _ := hJ 6 rfl
            clear hO hJ
            have i0 := HI1.out.below (((Below.refl _ _).alloc (Nat.le_refl _) _).trans (hB.mono (by simp)))
            have i1 := i0.slice HS1.out HS2.out
            rw [HO.out] at i1
            exact wp_slice_lohi (lo := 4) (hi := n) (by rw [evalTmp, e37]) i0 rfl (by rw [evalTmp, e41]) rfl (by simp) HS1.out HS2.out (hK _ _ (Below.refl _ _) i1)⟩,
          fun a u hB hO hJ => .inl ⟨rfl, fun K Q hK => by
            have e36 : (PE (w.heap.size + 1)) (a.tmps[36]?.getD undef) u := hJ 1 rfl
            have e42 : (PB (opB l)) (a.tmps[42]?.getD undef) u := hJ 7 rfl
            clear hO hJ
            have zz := hB.size
            try simp only [World.size_alloc] at zz
            exact wp_append_E_of e36 e42 HL.out (by omega) fun v2 w2 o2 b2 => hK _ _ b2 o2⟩,
          fun a u hB hO hJ => .inl ⟨rfl, fun K Q hK => by
            have e6 : a.tmps[6]?.getD undef = .int .i64 0 := hO 6 rfl
            clear hO hJ
            exact wp_move_of e6 fun h => hK _ _ (Below.refl _ _) h⟩,
          fun a u hB hO hJ => .inl ⟨rfl, fun K Q hK => by
            have e35 : a.tmps[35]?.getD undef = _ := hJ 0 rfl
            have e43 : (PO (w.heap.size + 1) (opB l)) (a.tmps[43]?.getD undef) u := hJ 8 rfl
            have e44 : a.tmps[44]?.getD undef = _ := hJ 9 rfl
            clear hO hJ
            obtain ⟨a9, n9, c9, h9, -⟩ := IsB.len' (Own.isB e43)
            rw [h9] at e43
            go_simp
            exact hK _ _ (Below.refl _ _) ⟨_, rfl, e43⟩⟩,
          trivial⟩ ?fin11
        case fin11 =>
          intro u hB
          simp only [Act.put, List.setIfInBounds_toArray, List.set_cons_zero, List.set_cons_succ, List.drop_succ_cons, List.drop_zero, List.take_succ_cons, List.take_zero, Laid]
          rintro v5 - v6 - v7 - _ ⟨v8, rfl, h8⟩
          obtain ⟨hc9, hf9⟩ := bcell hB
          have hsz := hB.size
          try simp only [World.size_alloc] at hsz
          have lt3 : w.heap.size < u.heap.size := by omega
          obtain ⟨a9, n9, c9, rfl, -⟩ := h8.isB.len'
          have H8 := hide h8
          have HRu := hide ((hB.block w.heap.size (by first | omega | (simp; omega))).trans (HRow _).out)
          have HBB := hide ((HB1.out.alloc (Nat.le_of_lt lt1) _).trans (hB.mono (by first | omega | (simp; omega))))
          clear h8 hB
          go_wp2_with (refine wpList_storeW w.heap.size _ rfl rfl 51 _ HRu.out (by kernel_rfl) rfl rfl ?_)
          intro u2 hk2 hg2 hs2
          go_wp2_with fail
          exact bodyPost_ret (v := .tuple #[.agg #[.bool false, .int .i64 c, .int .i64 t, .int .i64 s, .slice a9 n9 c9, .int .i64 0], .int .i64 0]) (results_cell_row_tmp (p := 2) (u := 3) rfl _ _ w.heap.size 51 _ (0, 0) _ rfl hk2 Try.underlying51 rfl (by kernel_rfl)) rfl (RetRop.good HX.out HV.out HX2.out ((H8.out.grown hg2 (by omega)).mono (by omega)) (HBB.out.grown hg2 (by omega) (fun i hi => by cases hi; exact Nat.le_refl _)))
      · obtain ⟨r, hr⟩ : ∃ r, r = trailN (l.drop 4) := ⟨_, rfl⟩
        have HR := hide hr
        have hrle : r ≤ 255 ∧ r + 4 ≤ n := by
          have h1 := trailN_le (l.drop 4)
          have h2 := HL4.out
          have h3 := HN.out
          rw [List.length_drop] at h1
          omega
        obtain ⟨hr1, hr2⟩ := hrle
        have HE0 : Hid (opE l = trE (l.drop 4)) := hide (by rw [opE, if_neg (by simp [H0.out]), if_neg HG.out, if_pos HP.out.symm])
        have HSl : Hid (∀ u, IsB u (.slice ad n cap) l → IsB u (slV (.slice ad n cap) 4 l.length) (l.drop 4)) := hide (fun u h => by have i1 := h.slice (lo := 4) (hi := l.length) HL4.out (Nat.le_refl _); rwa [List.take_length] at i1)
        clear hr
        by_cases hgood : r ≠ 0 ∧ r % 4 = 0
        · have HT1 : Hid (trN (l.drop 4) = r) := hide (by rw [trN, ← HR.out, if_pos hgood.2])
          have HE : Hid (opE l = 0) := hide (by rw [HE0.out, trE, HT1.out, if_neg hgood.1])
          have HX2 : Hid (opN l = r) := hide (by rw [opN, if_pos HE.out, if_pos HP.out.symm, HT1.out])
          obtain ⟨m2, hm3⟩ : ∃ m2, n = m2 + r := ⟨n - r, by omega⟩
          have HO : Hid ((l.take m2).drop 4 = opB l) := hide (by rw [opB, if_pos HE.out, HX2.out, ← HN.out, hm3, Nat.add_sub_cancel])
          have HM2 : Hid ((n : Int) - r = m2) := hide (by omega)
          have HS1 : Hid (4 ≤ m2) := hide (by omega)
          have HS2 : Hid (m2 ≤ l.length) := hide (by have := HN.out; omega)
          have HX := HE
          have hb2 : ((r : Int) == 0) = false := by simp; exact hgood.1
          have hb3 : ((r : Int) % 4 != 0) = false := by simp; have := hgood.2; omega
          clear hm3 hlt hgood
          go_enter Try.func37, Try.ntmps37
          go_wp2_with fail
          refine (rread_any _ _ _ (HB.out.below ((Below.refl _ _).alloc (Nat.le_refl _) _))).mono ?_
          rintro e w1 ⟨rfl, b1⟩
          rw [H0.out, HV.out]
          have z1 := b1.size
          simp only [World.size_alloc] at z1
          have lt1 : w.heap.size < w1.heap.size := by omega
          have lt4 : w.heap.size < w1.heap.size + 1 := by omega
          have hne : w1.heap.size ≠ w.heap.size := by omega
          obtain ⟨hc, hf⟩ := bcell b1
          have B1 := ((Below.refl w.heap.size w).alloc (Nat.le_refl _) _).trans (b1.mono (by simp))
          have HRow : ∀ cs, Hid ((w1.alloc (.cells cs 23)).heap[w.heap.size]? = some (.cells #[.bool false, .int .i64 0, .int .i64 0, .int .i64 0, .slice none 0 0, .int .i64 0] 51 (0, 0))) := fun cs => hide (by
            rw [heap_alloc_old _ _ lt1, b1.block _ (by simp), heap_alloc_new])
          have HI1 := hide (HB.out.below B1)
          have HB1 := hide B1
          clear b1 B1
          go_wp2_with (refine wpList_slice_lo (HI1.out.below ((Below.refl _ _).alloc (Nat.le_refl _) _)) 4 HL4.out rfl (by rfl) rfl rfl ?_)
          refine (rtrail_any _ (l.drop 4) _ (HSl.out _ (HI1.out.below ((Below.refl _ _).alloc (Nat.le_refl _) _)))).mono ?_
          rintro e w2 ⟨rfl, b2⟩
          rw [← HR.out]
          have z2 := b2.size
          simp only [World.size_alloc] at z2
          have lt5 : w1.heap.size < w2.heap.size := by omega
          have lt6 : w.heap.size < w2.heap.size := by omega
          obtain ⟨hc2, hf2⟩ := bcell b2
          have B2 := (HB1.out.alloc (Nat.le_of_lt lt1) _).trans (b2.mono (by simp; omega))
          have HR2 := hide ((b2.block w.heap.size (by simp; omega)).trans (HRow _).out)
          have HI2 := hide (HB.out.below B2)
          have HB2 := hide B2
          clear b2 B2
          go_wp2_with fail
          refine wp_region_mono 11 46 (.val _ :: .pred (PE (w.heap.size + 1)) :: .val _ :: .val _ :: .val _ :: .val _ :: .val _ :: .pred (PB (opB l)) :: .pred (PO (w.heap.size + 1) (opB l)) :: .val _ :: .pred (PCar (w.heap.size + 1) true c t s (opB l) r) :: []) (by kernel_rfl) (by kernel_rfl) rfl ⟨PE.stable _, PB.stable _, PO.stable _ _, PCar.stable _ _ _ _ _ _ _, trivial⟩ rfl ⟨
            fun a u hB hO hJ => .inl ⟨rfl, fun K Q hK => by
              have e4 : a.tmps[4]?.getD undef = .pointer (some ⟨w1.heap.size, 0, none⟩) := hO 4 rfl
              clear hO hJ
              obtain ⟨hc9, hf9⟩ := bcell hB
              go_simp
              exact hK _ _ (Below.refl _ _) rfl⟩,
            fun a u hB hO hJ => .inl ⟨rfl, fun K Q hK => by
              clear hO hJ
              have zz := hB.size
              try simp only [World.size_alloc] at zz
              go_simp
              exact hK _ _ ((Below.refl _ _).alloc (Nat.le_refl _) _) ⟨⟨_, rfl⟩, Own.empty (by omega) _ rfl⟩⟩,
            fun a u hB hO hJ => .inl ⟨rfl, fun K Q hK => by
              have e0 : a.tmps[0]?.getD undef = .slice ad n cap := hO 0 rfl
              clear hO hJ
              exact wp_move_of e0 fun h => hK _ _ (Below.refl _ _) h⟩,
            fun a u hB hO hJ => .inl ⟨rfl, fun K Q hK => by
              have e0 : a.tmps[0]?.getD undef = .slice ad n cap := hO 0 rfl
              clear hO hJ
              exact wp_move_of e0 fun h => hK _ _ (Below.refl _ _) h⟩,
            fun a u hB hO hJ => .inl ⟨rfl, fun K Q hK => by
              have e38 : a.tmps[38]?.getD undef = _ := hJ 3 rfl
              clear hO hJ
              go_simp
              try go_bits
              exact hK _ _ (Below.refl _ _) rfl⟩,
            fun a u hB hO hJ => .inl ⟨rfl, fun K Q hK => by
              have e6 : a.tmps[6]?.getD undef = .int .i64 r := hO 6 rfl
              clear hO hJ
              exact wp_move_of e6 fun h => hK _ _ (Below.refl _ _) h⟩,
            fun a u hB hO hJ => .inl ⟨rfl, fun K Q hK => by
              have e39 : a.tmps[39]?.getD undef = _ := hJ 4 rfl
              have e40 : a.tmps[40]?.getD undef = _ := hJ 5 rfl
              clear hO hJ
              go_simp
              try go_bits
              exact hK _ _ (Below.refl _ _) rfl⟩,
            fun a u hB hO hJ => .inl ⟨rfl, fun K Q hK => by
              have e37 : a.tmps[37]?.getD undef = _ := hJ 2 rfl
              have e41 : a.tmps[41]?.getD undef = _ := hJ 6 rfl
              clear hO hJ
              have i0 := HI2.out.below (hB)
              have i1 := i0.slice HS1.out HS2.out
              rw [HO.out] at i1
              exact wp_slice_lohi (lo := 4) (hi := m2) (by rw [evalTmp, e37]) i0 rfl (by rw [evalTmp, e41]) rfl HM2.out HS1.out HS2.out (hK _ _ (Below.refl _ _) i1)⟩,
            fun a u hB hO hJ => .inl ⟨rfl, fun K Q hK => by
              have e36 : (PE (w.heap.size + 1)) (a.tmps[36]?.getD undef) u := hJ 1 rfl
              have e42 : (PB (opB l)) (a.tmps[42]?.getD undef) u := hJ 7 rfl
              clear hO hJ
              have zz := hB.size
              try simp only [World.size_alloc] at zz
              exact wp_append_E_of e36 e42 HL.out (by omega) fun v2 w2 o2 b2 => hK _ _ b2 o2⟩,
            fun a u hB hO hJ => .inl ⟨rfl, fun K Q hK => by
              have e6 : a.tmps[6]?.getD undef = .int .i64 r := hO 6 rfl
              clear hO hJ
              exact wp_move_of e6 fun h => hK _ _ (Below.refl _ _) h⟩,
            fun a u hB hO hJ => .inl ⟨rfl, fun K Q hK => by
              have e35 : a.tmps[35]?.getD undef = _ := hJ 0 rfl
              have e43 : (PO (w.heap.size + 1) (opB l)) (a.tmps[43]?.getD undef) u := hJ 8 rfl
              have e44 : a.tmps[44]?.getD undef = _ := hJ 9 rfl
              clear hO hJ
              obtain ⟨a9, n9, c9, h9, -⟩ := IsB.len' (Own.isB e43)
              rw [h9] at e43
              go_simp
              exact hK _ _ (Below.refl _ _) ⟨_, rfl, e43⟩⟩,
            trivial⟩ ?fin11
          case fin11 =>
            intro u hB
            simp only [Act.put, List.setIfInBounds_toArray, List.set_cons_zero, List.set_cons_succ, List.drop_succ_cons, List.drop_zero, List.take_succ_cons, List.take_zero, Laid]
            rintro v5 - v6 - v7 - _ ⟨v8, rfl, h8⟩
            obtain ⟨hc9, hf9⟩ := bcell hB
            have hsz := hB.size
            try simp only [World.size_alloc] at hsz
            have lt3 : w.heap.size < u.heap.size := by omega
            obtain ⟨a9, n9, c9, rfl, -⟩ := h8.isB.len'
            have H8 := hide h8
            have HRu := hide ((hB.block w.heap.size (by first | omega | (simp; omega))).trans HR2.out)
            have HBB := hide (HB2.out.trans (hB.mono (by first | omega | (simp; omega))))
            clear h8 hB
            go_wp2_with (refine wpList_storeW w.heap.size _ rfl rfl 51 _ HRu.out (by kernel_rfl) rfl rfl ?_)
            intro u2 hk2 hg2 hs2
            go_wp2_with fail
            exact bodyPost_ret (v := .tuple #[.agg #[.bool true, .int .i64 c, .int .i64 t, .int .i64 s, .slice a9 n9 c9, .int .i64 r], .int .i64 0]) (results_cell_row_tmp (p := 2) (u := 3) rfl _ _ w.heap.size 51 _ (0, 0) _ rfl hk2 Try.underlying51 rfl (by kernel_rfl)) rfl (RetRop.good HX.out HV.out HX2.out ((H8.out.grown hg2 (by omega)).mono (by omega)) (HBB.out.grown hg2 (by omega) (fun i hi => by cases hi; exact Nat.le_refl _)))
        · have HT1 : Hid (trN (l.drop 4) = 0) := hide (by rw [trN, ← HR.out]; split <;> omega)
          have HE : Hid (opE l = 5) := hide (by rw [HE0.out, trE, HT1.out]; rfl)
          by_cases hr0 : r = 0
          · subst hr0
            clear hlt hgood
            go_enter Try.func37, Try.ntmps37
            go_wp2_with fail
            refine (rread_any _ _ _ (HB.out.below ((Below.refl _ _).alloc (Nat.le_refl _) _))).mono ?_
            rintro e w1 ⟨rfl, b1⟩
            rw [H0.out, HV.out]
            have z1 := b1.size
            simp only [World.size_alloc] at z1
            have lt1 : w.heap.size < w1.heap.size := by omega
            have lt4 : w.heap.size < w1.heap.size + 1 := by omega
            have hne : w1.heap.size ≠ w.heap.size := by omega
            obtain ⟨hc, hf⟩ := bcell b1
            have B1 := ((Below.refl w.heap.size w).alloc (Nat.le_refl _) _).trans (b1.mono (by simp))
            have HRow : ∀ cs, Hid ((w1.alloc (.cells cs 23)).heap[w.heap.size]? = some (.cells #[.bool false, .int .i64 0, .int .i64 0, .int .i64 0, .slice none 0 0, .int .i64 0] 51 (0, 0))) := fun cs => hide (by
              rw [heap_alloc_old _ _ lt1, b1.block _ (by simp), heap_alloc_new])
            have HI1 := hide (HB.out.below B1)
            have HB1 := hide B1
            clear b1 B1
            go_wp2_with (refine wpList_slice_lo (HI1.out.below ((Below.refl _ _).alloc (Nat.le_refl _) _)) 4 HL4.out rfl (by rfl) rfl rfl ?_)
            refine (rtrail_any _ (l.drop 4) _ (HSl.out _ (HI1.out.below ((Below.refl _ _).alloc (Nat.le_refl _) _)))).mono ?_
            rintro e w2 ⟨rfl, b2⟩
            rw [← HR.out]
            have z2 := b2.size
            simp only [World.size_alloc] at z2
            have lt5 : w1.heap.size < w2.heap.size := by omega
            have lt6 : w.heap.size < w2.heap.size := by omega
            obtain ⟨hc2, hf2⟩ := bcell b2
            have B2 := (HB1.out.alloc (Nat.le_of_lt lt1) _).trans (b2.mono (by simp; omega))
            have HR2 := hide ((b2.block w.heap.size (by simp; omega)).trans (HRow _).out)
            have HI2 := hide (HB.out.below B2)
            have HB2 := hide B2
            clear b2 B2
            go_wp2_with (refine wpList_storeW w.heap.size _ rfl rfl 51 _ HR2.out (by kernel_rfl) rfl rfl ?_)
            intro u2 hk2 hg2 hs2
            go_wp2_with fail
            exact bodyPost_ret (v := .tuple #[.agg #[.bool false, .int .i64 0, .int .i64 0, .int .i64 0, .slice none 0 0, .int .i64 0], .int .i64 5]) (results_cell_row_tmp (p := 2) (u := 3) rfl _ _ w.heap.size 51 _ (0, 0) _ rfl hk2 Try.underlying51 rfl (by kernel_rfl)) rfl (RetRop.bad HE.out (by decide) (HB2.out.grown hg2 (by omega) (fun i hi => by cases hi; exact Nat.le_refl _)))
          · have hb2 : ((r : Int) == 0) = false := by simp; exact hr0
            have hb3 : ((r : Int) % 4 != 0) = true := by simp; omega
            clear hlt hgood
            go_enter Try.func37, Try.ntmps37
            go_wp2_with fail
            refine (rread_any _ _ _ (HB.out.below ((Below.refl _ _).alloc (Nat.le_refl _) _))).mono ?_
            rintro e w1 ⟨rfl, b1⟩
            rw [H0.out, HV.out]
            have z1 := b1.size
            simp only [World.size_alloc] at z1
            have lt1 : w.heap.size < w1.heap.size := by omega
            have lt4 : w.heap.size < w1.heap.size + 1 := by omega
            have hne : w1.heap.size ≠ w.heap.size := by omega
            obtain ⟨hc, hf⟩ := bcell b1
            have B1 := ((Below.refl w.heap.size w).alloc (Nat.le_refl _) _).trans (b1.mono (by simp))
            have HRow : ∀ cs, Hid ((w1.alloc (.cells cs 23)).heap[w.heap.size]? = some (.cells #[.bool false, .int .i64 0, .int .i64 0, .int .i64 0, .slice none 0 0, .int .i64 0] 51 (0, 0))) := fun cs => hide (by
              rw [heap_alloc_old _ _ lt1, b1.block _ (by simp), heap_alloc_new])
            have HI1 := hide (HB.out.below B1)
            have HB1 := hide B1
            clear b1 B1
            go_wp2_with (refine wpList_slice_lo (HI1.out.below ((Below.refl _ _).alloc (Nat.le_refl _) _)) 4 HL4.out rfl (by rfl) rfl rfl ?_)
            refine (rtrail_any _ (l.drop 4) _ (HSl.out _ (HI1.out.below ((Below.refl _ _).alloc (Nat.le_refl _) _)))).mono ?_
            rintro e w2 ⟨rfl, b2⟩
            rw [← HR.out]
            have z2 := b2.size
            simp only [World.size_alloc] at z2
            have lt5 : w1.heap.size < w2.heap.size := by omega
            have lt6 : w.heap.size < w2.heap.size := by omega
            obtain ⟨hc2, hf2⟩ := bcell b2
            have B2 := (HB1.out.alloc (Nat.le_of_lt lt1) _).trans (b2.mono (by simp; omega))
            have HR2 := hide ((b2.block w.heap.size (by simp; omega)).trans (HRow _).out)
            have HI2 := hide (HB.out.below B2)
            have HB2 := hide B2
            clear b2 B2
            go_wp2_with (refine wpList_storeW w.heap.size _ rfl rfl 51 _ HR2.out (by kernel_rfl) rfl rfl ?_)
            intro u2 hk2 hg2 hs2
            go_wp2_with fail
            exact bodyPost_ret (v := .tuple #[.agg #[.bool false, .int .i64 0, .int .i64 0, .int .i64 0, .slice none 0 0, .int .i64 0], .int .i64 5]) (results_cell_row_tmp (p := 2) (u := 3) rfl _ _ w.heap.size 51 _ (0, 0) _ rfl hk2 Try.underlying51 rfl (by kernel_rfl)) rfl (RetRop.bad HE.out (by decide) (HB2.out.grown hg2 (by omega) (fun i hi => by cases hi; exact Nat.le_refl _)))
  · obtain ⟨x, hx⟩ : ∃ x, x = rdE l := ⟨_, rfl⟩
    have HE := hide hx
    have HX : Hid (opE l = x) := hide (by rw [opE, if_pos h0, hx])
    have hb : (x != 0) = true := by rw [hx]; simpa using h0
    have HV := hide (rdV_zero h0)
    have H0 := hide (show x ≠ 0 by rw [hx]; exact h0)
    clear hx h0
    go_enter Try.func37, Try.ntmps37
    go_wp2_with fail
    refine (rread_any _ _ _ (HB.out.below ((Below.refl _ _).alloc (Nat.le_refl _) _))).mono ?_
    rintro e w1 ⟨rfl, b1⟩
    rw [← HE.out, HV.out]
    have z1 := b1.size
    simp only [World.size_alloc] at z1
    have lt1 : w.heap.size < w1.heap.size := by omega
    have lt4 : w.heap.size < w1.heap.size + 1 := by omega
    have hne : w1.heap.size ≠ w.heap.size := by omega
    obtain ⟨hc, hf⟩ := bcell b1
    have B1 := ((Below.refl w.heap.size w).alloc (Nat.le_refl _) _).trans (b1.mono (by simp))
    have HRow : ∀ cs, Hid ((w1.alloc (.cells cs 23)).heap[w.heap.size]? = some (.cells #[.bool false, .int .i64 0, .int .i64 0, .int .i64 0, .slice none 0 0, .int .i64 0] 51 (0, 0))) := fun cs => hide (by
      rw [heap_alloc_old _ _ lt1, b1.block _ (by simp), heap_alloc_new])
    have HI1 := hide (HB.out.below B1)
    have HB1 := hide B1
    clear b1 B1
    go_wp2_with (refine wpList_storeW w.heap.size _ rfl rfl 51 _ (HRow _).out (by kernel_rfl) rfl rfl ?_)
    intro u2 hk2 hg2 hs2
    go_wp2_with fail
    exact bodyPost_ret (v := .tuple #[.agg #[.bool false, .int .i64 0, .int .i64 0, .int .i64 0, .slice none 0 0, .int .i64 0], .int .i64 x]) (results_cell_row_tmp (p := 2) (u := 3) rfl _ _ w.heap.size 51 _ (0, 0) _ rfl hk2 Try.underlying51 rfl (by kernel_rfl)) rfl (RetRop.bad HX.out H0.out ((HB1.out.alloc (Nat.le_of_lt lt1) _).grown hg2 (by simp; omega) (fun i hi => by cases hi; exact Nat.le_refl _)))

theorem ropen_any (v : Value) (l : List UInt8) (w : World) (h : IsB w v l) : Calls Try.prog 37 #[v] w (RetRop w l) := by
  obtain ⟨a, n, cap, rfl, hn, h1, h2⟩ := h.len'
  exact ropen_walk a n cap l w hn (by omega) h

theorem open_any (v : Value) (l : List UInt8) (w : World) (h : IsB w v l) : Calls Try.prog 36 #[v] w (RetOp w l) := by
  obtain ⟨a, n, cap, rfl, hn, h1, h2⟩ := h.len'
  exact open_walk a n cap l w hn (by omega) h

end Go.Proofs.Ytellclclpmofcaa
