/-
  The contract of train.Open; conditions: the argument reads as bytes.
-/
import Derived.Test.YtellclclpmofcaaJ
import Derived.Test.YtellclclpmofcaaK
import Derived.Test.YtellclclpmofcaaQ
namespace Go.Proofs.Ytellclclpmofcaa
open Go.RowKit

def opE (l : List UInt8) : Int := if rdE l ≠ 0 then rdE l else if rdS l < l.length then 4 else if rdP l = true then trE (l.drop 4) else 0
def opN (l : List UInt8) : Nat := if opE l = 0 then (if rdP l = true then trN (l.drop 4) else 0) else 0
def opB (l : List UInt8) : List UInt8 := if opE l = 0 then (l.take (l.length - opN l)).drop 4 else []
def zV : Value := .agg #[.bool false, .int .i64 0, .int .i64 0, .int .i64 0]
def opV (l : List UInt8) : Value := if opE l = 0 then rdV l else zV

def PL (ls : List (List UInt8)) (v : Value) (w : World) : Prop := IsL w v ls
theorem PL.stable (ls : List (List UInt8)) : ∀ v w w', PL ls v w → Below w.heap.size w w' → PL ls v w' := fun _ _ _ h hb => IsL.below h hb

theorem op_bad {l : List UInt8} (h : opE l ≠ 0) : opN l = 0 ∧ opB l = [] ∧ opV l = zV := by
  simp [opN, opB, opV, h]

theorem Own.nil (w : World) (base : Nat) : Own w base (.slice none 0 0) [] := ⟨by simp, .inl ⟨rfl, rfl⟩⟩

def RetOp (w : World) (l : List UInt8) (e : Ending) (w' : World) : Prop :=
  ∃ v, e = .returned (.tuple #[opV l, v, .int .i64 (opN l), .int .i64 (opE l)]) ∧ Own w' w.heap.size v (opB l) ∧ Below w.heap.size w w'

theorem RetOp.bad {w w' : World} {l : List UInt8} {x : Int} (h : opE l = x) (hx : x ≠ 0) (hb : Below w.heap.size w w') : RetOp w l (.returned (.tuple #[zV, .slice none 0 0, .int .i64 0, .int .i64 x])) w' := by
  obtain ⟨h1, h2, h3⟩ := op_bad (l := l) (by rw [h]; exact hx)
  exact ⟨_, by rw [h1, h3, h]; rfl, by rw [h2]; exact Own.nil _ _, hb⟩

theorem wpOp_of {P : Program} {ops : Array Oper} {Q : Exit → Act → World → Prop} {i : Nat} {K : Act → World → Prop} {a : Act} {w : World} {o : Oper} (ho : ops[i]? = some o) (hg : o.guard = none) (h : o.wp P a w K Q) : wpOp P ops Q i K a w := by
  unfold wpOp
  rw [ho]
  simp only []
  rw [if_pos (by unfold Region.wanted; rw [hg])]
  exact .inl h

theorem rd_size {l : List UInt8} (h : rdE l = 0) : rdS l ≤ 262144 := by
  have := rd_right h
  simp only [rightB, decide_eq_true_eq] at this
  omega

theorem RetOp.good {w w' : World} {l : List UInt8} {p : Bool} {c t s : Int} {m : Nat} {v : Value} (h : opE l = 0) (hv : rdV l = .agg #[.bool p, .int .i64 c, .int .i64 t, .int .i64 s]) (hm : opN l = m) (ho : Own w' w.heap.size v (opB l)) (hb : Below w.heap.size w w') :
    RetOp w l (.returned (.tuple #[.agg #[.bool p, .int .i64 c, .int .i64 t, .int .i64 s], v, .int .i64 m, .int .i64 0])) w' :=
  ⟨v, by rw [opV, if_pos h, hv, hm, h], ho, hb⟩

theorem Own.setC {w : World} {base : Nat} {v : Value} {l : List UInt8} (h : Own w base v l) {g i : Nat} (hg : g < base) (x : Value) : Own (w.setCell ⟨g, i, none⟩ x) base v l := by
  refine ⟨h.1, ?_⟩
  rcases h.2 with h2 | ⟨k, cap, cur, rfl, h1, h2, h3⟩
  · exact .inl h2
  · exact .inr ⟨k, cap, cur, rfl, h1, by rw [Below.heap_setCell _ _ _ _ (by simp; omega)]; exact h2, h3⟩

set_option maxRecDepth 100000 in
set_option maxHeartbeats 1000000 in
theorem open_walk (ad : Option Addr) (n cap : Nat) (l : List UInt8) (w : World) (hn : n = l.length) (hm : n ≤ maxLen) (h : IsB w (.slice ad n cap) l) : Calls Try.prog 36 #[.slice ad n cap] w (RetOp w l) := by
  have HB := hide h
  have HN := hide hn
  unfold maxLen at hm
  clear h hn
  by_cases h0 : rdE l = 0
  · obtain ⟨p, hp⟩ : ∃ p, p = rdP l := ⟨_, rfl⟩
    obtain ⟨c, hc⟩ : ∃ c, c = rdN l := ⟨_, rfl⟩
    obtain ⟨t, ht⟩ : ∃ t, t = rdT l := ⟨_, rfl⟩
    obtain ⟨s, hs⟩ : ∃ s, s = rdS l := ⟨_, rfl⟩
    have HV : Hid (rdV l = .agg #[.bool p, .int .i64 c, .int .i64 t, .int .i64 s]) := hide (by rw [rdV, hp, hc, ht, hs])
    have HP := hide hp
    have HS := hide hs
    have H0 := hide h0
    have hle := rd_le h0
    rw [← hs] at hle
    obtain ⟨q1, q2, _⟩ := hle
    have Q1 := hide q1
    have HL4 : Hid (4 ≤ l.length) := hide (by omega)
    clear hp hc ht hs h0 q1
    by_cases hlt : s < (n : Int)
    · have HX : Hid (opE l = 4) := hide (by rw [opE, if_neg (by simp [H0.out]), if_pos (by rw [← HS.out, ← HN.out]; exact hlt)])
      go_enter Try.func36, Try.ntmps36
      go_wp2_with fail
      refine (read_any _ _ _ (HB.out.below ((Below.refl _ _).alloc (Nat.le_refl _) _))).mono ?_
      rintro e w1 ⟨rfl, b1⟩
      rw [H0.out, HV.out]
      have z1 := b1.size
      simp only [World.size_alloc] at z1
      have hne : w1.heap.size ≠ w.heap.size := by omega
      obtain ⟨hc, hf⟩ := bcell b1
      have B1 := ((Below.refl w.heap.size w).alloc (Nat.le_refl _) _).trans (b1.mono (by simp))
      have lt1 : w.heap.size < w1.heap.size := by omega
      have lt2 : w.heap.size < (w.alloc (.cells #[Value.bool false, .int .i64 0, .int .i64 0, .int .i64 0] 23)).heap.size := by simp
      go_wp2_with fail
      exact bodyPost_ret (v := .tuple #[zV, .slice none 0 0, .int .i64 0, .int .i64 4]) (by simp [results, Try.results36, go_sem, zV, lt1, hc]) rfl (RetOp.bad HX.out (by decide) (by repeat' (first | exact B1 | refine Below.setCell ?_ ?_ _ | refine Below.alloc ?_ ?_ _ | (simp; done) | (simp; omega))))
    · have hge : (n : Int) ≤ s := by omega
      have HG : Hid (¬ rdS l < (l.length : Int)) := hide (by rw [← HS.out, ← HN.out]; exact hlt)
      have hl7 : (n : Int) ≤ 262144 := by have := rd_size H0.out; have := HS.out; omega
      have HL : Hid (([opB l] : List (List UInt8)).flatten.length ≤ 1000000) := hide (by
        have h1 : (opB l).length ≤ l.length := by unfold opB; split <;> simp <;> omega
        have := HN.out
        simp
        omega)
      cases p
      · have HX : Hid (opE l = 0) := hide (by rw [opE, if_neg (by simp [H0.out]), if_neg HG.out, if_neg (by rw [← HP.out]; decide)])
        have HX2 : Hid (opN l = 0) := hide (by rw [opN, if_pos HX.out, if_neg (by rw [← HP.out]; decide)])
        have HO : Hid ((l.take n).drop 4 = opB l) := hide (by rw [opB, if_pos HX.out, HX2.out, HN.out]; rfl)
        have HS1 : Hid (4 ≤ n) := hide (by have := HL4.out; have := HN.out; omega)
        have HS2 : Hid (n ≤ l.length) := hide (by have := HN.out; omega)
        clear hlt
        go_enter Try.func36, Try.ntmps36
        go_wp2_with fail
        refine (read_any _ _ _ (HB.out.below ((Below.refl _ _).alloc (Nat.le_refl _) _))).mono ?_
        rintro e w1 ⟨rfl, b1⟩
        rw [H0.out, HV.out]
        have z1 := b1.size
        simp only [World.size_alloc] at z1
        have lt1 : w.heap.size < w1.heap.size := by omega
        have lt4 : w.heap.size < w1.heap.size + 1 := by omega
        have hne : w1.heap.size ≠ w.heap.size := by omega
        obtain ⟨hc, hf⟩ := bcell b1
        have B1 := ((Below.refl w.heap.size w).alloc (Nat.le_refl _) _).trans (b1.mono (by simp))
        have HI1 := hide (HB.out.below B1)
        have HB1 := hide B1
        clear b1 B1
        go_wp2_with fail
        refine wp_region_late 10 45 9 1 (.val _ :: .val _ :: .val _ :: .val _ :: .val _ :: .val _ :: .pred (PB (opB l)) :: .pred (PL [opB l]) :: .pred (PO (w.heap.size + 1) (opB l)) :: .val _ :: []) (by kernel_rfl) (by kernel_rfl) rfl ⟨PB.stable _, PL.stable _, PO.stable _ _, trivial⟩ rfl ⟨
          fun a u hB hO hJ => .inl ⟨rfl, fun K Q hK => by
            have e6 : a.tmps[6]?.getD undef = .pointer (some ⟨w1.heap.size, 0, none⟩) := hO 6 rfl
            clear hO hJ
            obtain ⟨hc9, hf9⟩ := bcell hB
            go_simp
            exact hK _ _ (Below.refl _ _) rfl⟩,
          fun a u hB hO hJ => .inl ⟨rfl, fun K Q hK => by
            have e0 : a.tmps[0]?.getD undef = .slice ad n cap := hO 0 rfl
            clear hO hJ
            exact wp_move_of e0 fun h => hK _ _ (Below.refl _ _) h⟩,
          fun a u hB hO hJ => .inl ⟨rfl, fun K Q hK => by
            have e0 : a.tmps[0]?.getD undef = .slice ad n cap := hO 0 rfl
            clear hO hJ
            exact wp_move_of e0 fun h => hK _ _ (Below.refl _ _) h⟩,
          fun a u hB hO hJ => .inl ⟨rfl, fun K Q hK => by
            have e37 : a.tmps[37]?.getD undef = _ := hJ 2 rfl
            clear hO hJ
            go_simp
            try go_bits
            exact hK _ _ (Below.refl _ _) rfl⟩,
          fun a u hB hO hJ => .inl ⟨rfl, fun K Q hK => by
            have e8 : a.tmps[8]?.getD undef = .int .i64 0 := hO 8 rfl
            clear hO hJ
            exact wp_move_of e8 fun h => hK _ _ (Below.refl _ _) h⟩,
          fun a u hB hO hJ => .inl ⟨rfl, fun K Q hK => by
            have e38 : a.tmps[38]?.getD undef = _ := hJ 3 rfl
            have e39 : a.tmps[39]?.getD undef = _ := hJ 4 rfl
            clear hO hJ
            go_simp
            try go_bits
            exact hK _ _ (Below.refl _ _) rfl⟩,
          fun a u hB hO hJ => .inl ⟨rfl, fun K Q hK => by
            have e36 : a.tmps[36]?.getD undef = _ := hJ 1 rfl
            have e40 : a.tmps[40]?.getD undef = _ := hJ 5 rfl
            clear hO hJ
            have i1 := (HI1.out.below (((Below.refl _ _).alloc (Nat.le_refl _) _).trans (hB.mono (by simp)))).slice HS1.out HS2.out
            rw [HO.out] at i1
            exact wp_slice_lohi (lo := 4) (hi := n) (by rw [evalTmp, e36]) (HI1.out.below (((Below.refl _ _).alloc (Nat.le_refl _) _).trans (hB.mono (by simp)))) rfl (by rw [evalTmp, e40]) rfl (by simp) HS1.out HS2.out (hK _ _ (Below.refl _ _) i1)⟩,
          fun a u hB hO hJ => .inl ⟨rfl, fun K Q hK => by
            have e41 : (PB (opB l)) (a.tmps[41]?.getD undef) u := hJ 6 rfl
            clear hO hJ
            obtain ⟨a9, n9, c9, h9, -⟩ := IsB.len' e41
            rw [h9] at e41
            go_simp
            exact hK _ _ ((Below.refl _ _).alloc (Nat.le_refl _) _) (IsL.one e41 rfl)⟩,
          fun a u hB hO hJ => .inl ⟨rfl, fun K Q hK => by
            have e42 : (PL [opB l]) (a.tmps[42]?.getD undef) u := hJ 7 rfl
            clear hO hJ
            go_simp
            refine (join_any _ _ _ e42 HL.out).mono ?_
            rintro e w2 ⟨v2, rfl, hown, b2⟩
            have zz := hB.size
            try simp only [World.size_alloc] at zz
            rw [show [opB l].flatten = opB l by simp] at hown
            exact hK _ _ b2 (hown.mono (by omega))⟩,
          fun a u hB hO hJ => .inl ⟨rfl, fun K Q hK => by
            have e8 : a.tmps[8]?.getD undef = .int .i64 0 := hO 8 rfl
            clear hO hJ
            exact wp_move_of e8 fun h => hK _ _ (Below.refl _ _) h⟩,
          trivial⟩ ?fin11 ?early11
        case fin11 =>
          intro u hB
          simp only [Act.put, List.setIfInBounds_toArray, List.set_cons_zero, List.set_cons_succ, List.drop_succ_cons, List.drop_zero, List.take_succ_cons, List.take_zero, Laid]
          rintro v6 - v7 - v8 h8
          obtain ⟨hc9, hf9⟩ := bcell hB
          have hsz := hB.size
          try simp only [World.size_alloc] at hsz
          have lt3 : w.heap.size < u.heap.size := by omega
          have H8 := hide h8
          have HBB := hide ((HB1.out.alloc (Nat.le_of_lt lt1) _).trans (hB.mono (by first | omega | (simp; omega))))
          clear h8 hB
          go_wp2_with fail
          exact bodyPost_ret (v := .tuple #[.agg #[.bool false, .int .i64 c, .int .i64 t, .int .i64 s], v8, .int .i64 0, .int .i64 0]) (by simp [results, Try.results36, go_sem, hc, hc9, lt1, lt4]) rfl (RetOp.good HX.out HV.out HX2.out ((((((H8.out.setC (by omega) _).setC (by omega) _).setC (by omega) _).setC (by omega) _)).mono (by omega)) (by repeat' (first | exact HBB.out | refine Below.setCell ?_ ?_ _ | refine Below.alloc ?_ ?_ _ | (simp; done) | (simp; omega))))
        case early11 =>
          intro u hB
          simp only [Act.put, List.setIfInBounds_toArray, List.set_cons_zero, List.set_cons_succ, List.take_succ_cons, List.take_zero, Laid]
          rintro v6 - v7 - v8 h8 v9 -
          obtain ⟨hc9, hf9⟩ := bcell hB
          have hsz := hB.size
          try simp only [World.size_alloc] at hsz
          have lt3 : w.heap.size < u.heap.size := by omega
          have H8 := hide h8
          have HBB := hide ((HB1.out.alloc (Nat.le_of_lt lt1) _).trans (hB.mono (by first | omega | (simp; omega))))
          clear h8 hB
          refine wpOp_of rfl rfl ?_
          go_simp
          simp only [early]
          refine ⟨?_, wpOp_of rfl rfl ?_⟩
          · go_wp2_with fail
            exact bodyPost_ret (v := .tuple #[.agg #[.bool false, .int .i64 c, .int .i64 t, .int .i64 s], v8, .int .i64 0, .int .i64 0]) (by simp [results, Try.results36, go_sem, hc, hc9, lt1, lt4]) rfl (RetOp.good HX.out HV.out HX2.out ((((((H8.out.setC (by omega) _).setC (by omega) _).setC (by omega) _).setC (by omega) _)).mono (by omega)) (by repeat' (first | exact HBB.out | refine Below.setCell ?_ ?_ _ | refine Below.alloc ?_ ?_ _ | (simp; done) | (simp; omega))))
          · go_simp
            go_wp2_with fail
            exact bodyPost_ret (v := .tuple #[.agg #[.bool false, .int .i64 c, .int .i64 t, .int .i64 s], v8, .int .i64 0, .int .i64 0]) (by simp [results, Try.results36, go_sem, hc, hc9, lt1, lt4]) rfl (RetOp.good HX.out HV.out HX2.out ((((((H8.out.setC (by omega) _).setC (by omega) _).setC (by omega) _).setC (by omega) _)).mono (by omega)) (by repeat' (first | exact HBB.out | refine Below.setCell ?_ ?_ _ | refine Below.alloc ?_ ?_ _ | (simp; done) | (simp; omega))))
      · obtain ⟨m, hm0⟩ : ∃ m, m = trN (l.drop 4) := ⟨_, rfl⟩
        obtain ⟨er, her⟩ : ∃ er, er = trE (l.drop 4) := ⟨_, rfl⟩
        have HT1 := hide hm0
        have HT2 := hide her
        have hmle : m ≤ 255 ∧ m + 4 ≤ n := by
          have h1 := trailN_le (l.drop 4)
          have h2 := HL4.out
          have h3 := HN.out
          rw [List.length_drop] at h1
          rw [hm0]
          unfold trN
          split <;> omega
        obtain ⟨hm1, hm2⟩ := hmle
        have HE : Hid (opE l = er) := hide (by rw [opE, if_neg (by simp [H0.out]), if_neg HG.out, if_pos HP.out.symm, her])
        clear hm0 her
        by_cases her0 : er = 0
        · subst her0
          have HX2 : Hid (opN l = m) := hide (by rw [opN, if_pos HE.out, if_pos HP.out.symm, HT1.out])
          obtain ⟨m2, hm3⟩ : ∃ m2, n = m2 + m := ⟨n - m, by omega⟩
          have HO : Hid ((l.take m2).drop 4 = opB l) := hide (by rw [opB, if_pos HE.out, HX2.out, ← HN.out, hm3, Nat.add_sub_cancel])
          have HM2 : Hid ((n : Int) - m = m2) := hide (by omega)
          have HS1 : Hid (4 ≤ m2) := hide (by omega)
          have HS2 : Hid (m2 ≤ l.length) := hide (by have := HN.out; omega)
          have HX := HE
          clear hm3 hlt
          go_enter Try.func36, Try.ntmps36
          go_wp2_with fail
          refine (read_any _ _ _ (HB.out.below ((Below.refl _ _).alloc (Nat.le_refl _) _))).mono ?_
          rintro e w1 ⟨rfl, b1⟩
          rw [H0.out, HV.out]
          have z1 := b1.size
          simp only [World.size_alloc] at z1
          have lt1 : w.heap.size < w1.heap.size := by omega
          have lt4 : w.heap.size < w1.heap.size + 1 := by omega
          have hne : w1.heap.size ≠ w.heap.size := by omega
          obtain ⟨hc, hf⟩ := bcell b1
          have B1 := ((Below.refl w.heap.size w).alloc (Nat.le_refl _) _).trans (b1.mono (by simp))
          have HI1 := hide (HB.out.below B1)
          have HB1 := hide B1
          clear b1 B1
          go_wp2_with fail
          refine (trailer_any _ _ _ (HI1.out.below ((Below.refl _ _).alloc (Nat.le_refl _) _)) HL4.out).mono ?_
          rintro e w2 ⟨rfl, b2⟩
          rw [← HT1.out, ← HT2.out]
          have z2 := b2.size
          simp only [World.size_alloc] at z2
          have lt5 : w1.heap.size < w2.heap.size := by omega
          have lt6 : w.heap.size < w2.heap.size := by omega
          obtain ⟨hc2, hf2⟩ := bcell b2
          have B2 := (HB1.out.alloc (Nat.le_of_lt lt1) _).trans (b2.mono (by simp; omega))
          have HI2 := hide (HB.out.below B2)
          have HB2 := hide B2
          clear b2 B2
          go_wp2_with fail
          refine wp_region_late 10 45 9 1 (.val _ :: .val _ :: .val _ :: .val _ :: .val _ :: .val _ :: .pred (PB (opB l)) :: .pred (PL [opB l]) :: .pred (PO (w.heap.size + 1) (opB l)) :: .val _ :: []) (by kernel_rfl) (by kernel_rfl) rfl ⟨PB.stable _, PL.stable _, PO.stable _ _, trivial⟩ rfl ⟨
            fun a u hB hO hJ => .inl ⟨rfl, fun K Q hK => by
              have e6 : a.tmps[6]?.getD undef = .pointer (some ⟨w1.heap.size, 0, none⟩) := hO 6 rfl
              clear hO hJ
              obtain ⟨hc9, hf9⟩ := bcell hB
              go_simp
              exact hK _ _ (Below.refl _ _) rfl⟩,
            fun a u hB hO hJ => .inl ⟨rfl, fun K Q hK => by
              have e0 : a.tmps[0]?.getD undef = .slice ad n cap := hO 0 rfl
              clear hO hJ
              exact wp_move_of e0 fun h => hK _ _ (Below.refl _ _) h⟩,
            fun a u hB hO hJ => .inl ⟨rfl, fun K Q hK => by
              have e0 : a.tmps[0]?.getD undef = .slice ad n cap := hO 0 rfl
              clear hO hJ
              exact wp_move_of e0 fun h => hK _ _ (Below.refl _ _) h⟩,
            fun a u hB hO hJ => .inl ⟨rfl, fun K Q hK => by
              have e37 : a.tmps[37]?.getD undef = _ := hJ 2 rfl
              clear hO hJ
              go_simp
              try go_bits
              exact hK _ _ (Below.refl _ _) rfl⟩,
            fun a u hB hO hJ => .inl ⟨rfl, fun K Q hK => by
              have e8 : a.tmps[8]?.getD undef = .int .i64 m := hO 8 rfl
              clear hO hJ
              exact wp_move_of e8 fun h => hK _ _ (Below.refl _ _) h⟩,
            fun a u hB hO hJ => .inl ⟨rfl, fun K Q hK => by
              have e38 : a.tmps[38]?.getD undef = _ := hJ 3 rfl
              have e39 : a.tmps[39]?.getD undef = _ := hJ 4 rfl
              clear hO hJ
              go_simp
              try go_bits
              exact hK _ _ (Below.refl _ _) rfl⟩,
            fun a u hB hO hJ => .inl ⟨rfl, fun K Q hK => by
              have e36 : a.tmps[36]?.getD undef = _ := hJ 1 rfl
              have e40 : a.tmps[40]?.getD undef = _ := hJ 5 rfl
              clear hO hJ
              have i1 := (HI2.out.below hB).slice HS1.out HS2.out
              rw [HO.out] at i1
              exact wp_slice_lohi (lo := 4) (hi := m2) (by rw [evalTmp, e36]) (HI2.out.below hB) rfl (by rw [evalTmp, e40]) rfl HM2.out HS1.out HS2.out (hK _ _ (Below.refl _ _) i1)⟩,
            fun a u hB hO hJ => .inl ⟨rfl, fun K Q hK => by
              have e41 : (PB (opB l)) (a.tmps[41]?.getD undef) u := hJ 6 rfl
              clear hO hJ
              obtain ⟨a9, n9, c9, h9, -⟩ := IsB.len' e41
              rw [h9] at e41
              go_simp
              exact hK _ _ ((Below.refl _ _).alloc (Nat.le_refl _) _) (IsL.one e41 rfl)⟩,
            fun a u hB hO hJ => .inl ⟨rfl, fun K Q hK => by
              have e42 : (PL [opB l]) (a.tmps[42]?.getD undef) u := hJ 7 rfl
              clear hO hJ
              go_simp
              refine (join_any _ _ _ e42 HL.out).mono ?_
              rintro e w2 ⟨v2, rfl, hown, b2⟩
              have zz := hB.size
              try simp only [World.size_alloc] at zz
              rw [show [opB l].flatten = opB l by simp] at hown
              exact hK _ _ b2 (hown.mono (by omega))⟩,
            fun a u hB hO hJ => .inl ⟨rfl, fun K Q hK => by
              have e8 : a.tmps[8]?.getD undef = .int .i64 m := hO 8 rfl
              clear hO hJ
              exact wp_move_of e8 fun h => hK _ _ (Below.refl _ _) h⟩,
            trivial⟩ ?fin11 ?early11
          case fin11 =>
            intro u hB
            simp only [Act.put, List.setIfInBounds_toArray, List.set_cons_zero, List.set_cons_succ, List.drop_succ_cons, List.drop_zero, List.take_succ_cons, List.take_zero, Laid]
            rintro v6 - v7 - v8 h8
            obtain ⟨hc9, hf9⟩ := bcell hB
            have hsz := hB.size
            try simp only [World.size_alloc] at hsz
            have lt3 : w.heap.size < u.heap.size := by omega
            have H8 := hide h8
            have HBB := hide (HB2.out.trans (hB.mono (by first | omega | (simp; omega))))
            clear h8 hB
            go_wp2_with fail
            exact bodyPost_ret (v := .tuple #[.agg #[.bool true, .int .i64 c, .int .i64 t, .int .i64 s], v8, .int .i64 m, .int .i64 0]) (by simp [results, Try.results36, go_sem, hc, hc2, hc9, lt1, lt4, lt6]) rfl (RetOp.good HX.out HV.out HX2.out ((((((H8.out.setC (by omega) _).setC (by omega) _).setC (by omega) _).setC (by omega) _)).mono (by omega)) (by repeat' (first | exact HBB.out | refine Below.setCell ?_ ?_ _ | refine Below.alloc ?_ ?_ _ | (simp; done) | (simp; omega))))
          case early11 =>
            intro u hB
            simp only [Act.put, List.setIfInBounds_toArray, List.set_cons_zero, List.set_cons_succ, List.take_succ_cons, List.take_zero, Laid]
            rintro v6 - v7 - v8 h8 v9 -
            obtain ⟨hc9, hf9⟩ := bcell hB
            have hsz := hB.size
            try simp only [World.size_alloc] at hsz
            have lt3 : w.heap.size < u.heap.size := by omega
            have H8 := hide h8
            have HBB := hide (HB2.out.trans (hB.mono (by first | omega | (simp; omega))))
            clear h8 hB
            refine wpOp_of rfl rfl ?_
            go_simp
            simp only [early]
            refine ⟨?_, wpOp_of rfl rfl ?_⟩
            · go_wp2_with fail
              exact bodyPost_ret (v := .tuple #[.agg #[.bool true, .int .i64 c, .int .i64 t, .int .i64 s], v8, .int .i64 m, .int .i64 0]) (by simp [results, Try.results36, go_sem, hc, hc2, hc9, lt1, lt4, lt6]) rfl (RetOp.good HX.out HV.out HX2.out ((((((H8.out.setC (by omega) _).setC (by omega) _).setC (by omega) _).setC (by omega) _)).mono (by omega)) (by repeat' (first | exact HBB.out | refine Below.setCell ?_ ?_ _ | refine Below.alloc ?_ ?_ _ | (simp; done) | (simp; omega))))
            · go_simp
              go_wp2_with fail
              exact bodyPost_ret (v := .tuple #[.agg #[.bool true, .int .i64 c, .int .i64 t, .int .i64 s], v8, .int .i64 m, .int .i64 0]) (by simp [results, Try.results36, go_sem, hc, hc2, hc9, lt1, lt4, lt6]) rfl (RetOp.good HX.out HV.out HX2.out ((((((H8.out.setC (by omega) _).setC (by omega) _).setC (by omega) _).setC (by omega) _)).mono (by omega)) (by repeat' (first | exact HBB.out | refine Below.setCell ?_ ?_ _ | refine Below.alloc ?_ ?_ _ | (simp; done) | (simp; omega))))
        · have hb : (er != 0) = true := by simpa using her0
          have HR := hide her0
          clear her0
          go_enter Try.func36, Try.ntmps36
          go_wp2_with fail
          refine (read_any _ _ _ (HB.out.below ((Below.refl _ _).alloc (Nat.le_refl _) _))).mono ?_
          rintro e w1 ⟨rfl, b1⟩
          rw [H0.out, HV.out]
          have z1 := b1.size
          simp only [World.size_alloc] at z1
          have lt1 : w.heap.size < w1.heap.size := by omega
          have lt4 : w.heap.size < w1.heap.size + 1 := by omega
          have hne : w1.heap.size ≠ w.heap.size := by omega
          obtain ⟨hc, hf⟩ := bcell b1
          have B1 := ((Below.refl w.heap.size w).alloc (Nat.le_refl _) _).trans (b1.mono (by simp))
          have HI1 := hide (HB.out.below B1)
          have HB1 := hide B1
          clear b1 B1
          go_wp2_with fail
          refine (trailer_any _ _ _ (HI1.out.below ((Below.refl _ _).alloc (Nat.le_refl _) _)) HL4.out).mono ?_
          rintro e w2 ⟨rfl, b2⟩
          rw [← HT1.out, ← HT2.out]
          have z2 := b2.size
          simp only [World.size_alloc] at z2
          have lt5 : w1.heap.size < w2.heap.size := by omega
          have lt6 : w.heap.size < w2.heap.size := by omega
          obtain ⟨hc2, hf2⟩ := bcell b2
          have HB2 := hide ((HB1.out.alloc (Nat.le_of_lt lt1) _).trans (b2.mono (by simp; omega)))
          clear b2
          go_wp2_with fail
          exact bodyPost_ret (v := .tuple #[zV, .slice none 0 0, .int .i64 0, .int .i64 er]) (by simp [results, Try.results36, go_sem, zV, lt1, lt4, hc, hc2]) rfl (RetOp.bad HE.out HR.out (by repeat' (first | exact HB2.out | refine Below.setCell ?_ ?_ _ | refine Below.alloc ?_ ?_ _ | (simp; done) | (simp; omega))))
  · obtain ⟨x, hx⟩ : ∃ x, x = rdE l := ⟨_, rfl⟩
    have HE := hide hx
    have HX : Hid (opE l = x) := hide (by rw [opE, if_pos h0, hx])
    have hb : (x != 0) = true := by rw [hx]; simpa using h0
    have HV := hide (rdV_zero h0)
    have H0 := hide (show x ≠ 0 by rw [hx]; exact h0)
    clear hx h0
    go_enter Try.func36, Try.ntmps36
    go_wp2_with fail
    refine (read_any _ _ _ (HB.out.below ((Below.refl _ _).alloc (Nat.le_refl _) _))).mono ?_
    rintro e w1 ⟨rfl, b1⟩
    rw [← HE.out, HV.out]
    have z1 := b1.size
    simp only [World.size_alloc] at z1
    have lt1 : w.heap.size < w1.heap.size := by omega
    obtain ⟨hc, hf⟩ := bcell b1
    have B1 := ((Below.refl w.heap.size w).alloc (Nat.le_refl _) _).trans (b1.mono (by simp))
    go_wp2_with fail
    exact bodyPost_ret (v := .tuple #[zV, .slice none 0 0, .int .i64 0, .int .i64 x]) (by simp [results, Try.results36, go_sem, zV, lt1, hc]) rfl (RetOp.bad HX.out H0.out (by repeat' (first | exact B1 | refine Below.setCell ?_ ?_ _ | refine Below.alloc ?_ ?_ _ | (simp; done) | (simp; omega))))
end Go.Proofs.Ytellclclpmofcaa
