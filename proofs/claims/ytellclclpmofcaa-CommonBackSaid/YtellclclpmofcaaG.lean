/-
  The walk of crossbarlaw10.CommonBack; conditions: the arguments read as data.
-/
import Derived.Test.YtellclclpmofcaaQ
import Derived.Test.YtellclclpmofcaaP
import Derived.Deep.DeepCutAuto
namespace Go.Proofs.Ytellclclpmofcaa
open Go.RowKit

theorem ifs4 {α : Type} (q1 q2 q3 q4 : Prop) [Decidable q1] [Decidable q2] [Decidable q3] [Decidable q4] (x y : α) : (if q1 then if q2 then if q3 then if q4 then x else y else y else y else y) = if q1 ∧ q2 ∧ q3 ∧ q4 then x else y := by
  by_cases h1 : q1 <;> by_cases h2 : q2 <;> by_cases h3 : q3 <;> by_cases h4 : q4 <;> simp [h1, h2, h3, h4]

theorem ofNat_inj {a b : Nat} (ha : a < 256) (hb : b < 256) (h : UInt8.ofNat a = UInt8.ofNat b) : a = b := by
  have := congrArg UInt8.toNat h
  simp at this
  omega

/-- Unlike headers have unlike bytes. -/
theorem wrL_inj {p : Bool} {n t s : Int} {p2 : Bool} {n2 t2 s2 : Int} (h : rightB n t s = true) (h2 : rightB n2 t2 s2 = true) (he : wrL p n t s = wrL p2 n2 t2 s2) : p = p2 ∧ n = n2 ∧ t = t2 ∧ s = s2 := by
  have hr : 0 ≤ n ∧ n ≤ 31 ∧ 0 ≤ t ∧ t ≤ 255 ∧ 4 ≤ s ∧ s ≤ 262144 ∧ s % 4 = 0 := by simpa [rightB] using h
  have hr2 : 0 ≤ n2 ∧ n2 ≤ 31 ∧ 0 ≤ t2 ∧ t2 ≤ 255 ∧ 4 ≤ s2 ∧ s2 ≤ 262144 ∧ s2 % 4 = 0 := by simpa [rightB] using h2
  simp only [wrL, List.cons.injEq, and_true] at he
  obtain ⟨e1, e2, e3, e4⟩ := he
  have e2' := ofNat_inj (by omega) (by omega) e2
  have e3' := ofNat_inj (by omega) (by omega) e3
  have e4' := ofNat_inj (by omega) (by omega) e4
  cases p <;> cases p2 <;> simp only [Bool.false_eq_true, if_true, if_false] at e1
  all_goals have e1' := ofNat_inj (by omega) (by omega) e1
  all_goals refine ⟨?_, by omega, by omega, by omega⟩
  all_goals first | rfl | (exfalso; omega)

/-- common.Write, whatever the header. -/
theorem write_un (p : Bool) (n t s : Int) (w : World) : Calls Try.prog 17 #[.agg #[.bool p, .int .i64 n, .int .i64 t, .int .i64 s]] w fun e w' => ∃ v e2, e = .returned (.tuple #[v, .int .i64 e2]) ∧
    ((e2 = 0 ∧ rightB n t s = true ∧ IsB w' v (wrL p n t s)) ∨ (e2 = 1 ∧ rightB n t s = false ∧ v = .slice none 0 0)) ∧ Below w.heap.size w w' := by
  cases h : rightB n t s with
  | true =>
    refine (write_yes p n t s w h).mono ?_
    rintro e w' ⟨v, rfl, ho, hb⟩
    exact ⟨v, 0, rfl, .inl ⟨rfl, rfl, ho.isB⟩, hb⟩
  | false =>
    refine (write_no p n t s w h).mono ?_
    rintro e w' ⟨rfl, hb⟩
    exact ⟨_, 1, rfl, .inr ⟨rfl, rfl, rfl⟩, hb⟩

set_option maxRecDepth 100000 in
set_option maxHeartbeats 2000000 in
theorem commonBack_y (p : Bool) (n t s : Int) (p2 : Bool) (n2 t2 s2 : Int) (ad : Option Addr) (cap : Nat) (l : List UInt8) (less : Int) (hless : 0 ≤ less) (hless2 : less ≤ 65535) (w : World) (h : rightB n t s = true) (hb0 : IsB w (.slice ad l.length cap) l) (hl : l.length ≤ 70000) :
    Calls Try.prog 4 #[.agg #[.bool p, .int .i64 n, .int .i64 t, .int .i64 s], .agg #[.bool p2, .int .i64 n2, .int .i64 t2, .int .i64 s2], .slice ad l.length cap, .int .u16 less] w fun e w' => e = .returned (.bool true) ∧ Below w.heap.size w w' := by
  have H := hide h
  have HB := hide hb0
  have g : (l.length : Int) ≤ 70000 := by omega
  have hr : 0 ≤ n ∧ n ≤ 31 ∧ 0 ≤ t ∧ t ≤ 255 ∧ 4 ≤ s ∧ s ≤ 262144 ∧ s % 4 = 0 := by simpa [rightB] using h
  obtain ⟨_, _, _, _, hs4, hs5, _⟩ := hr
  clear h hb0 hl
  go_enter Try.func4, Try.ntmps4
  go_wp2_with fail
  refine (awake10 _).mono ?_
  rintro e u1 ⟨rfl, b1⟩
  obtain ⟨hc1, hf1⟩ := bcell b1
  have z1 := b1.size
  simp only [World.size_alloc] at z1
  have l1 : w.heap.size < u1.heap.size := by omega
  have m1 : w.heap.size + 1 < u1.heap.size := by omega
  have B1 := (((Below.refl w.heap.size w).alloc (Nat.le_refl _) _).alloc (by simp) _).trans (b1.mono (by simp; omega))
  go_wp2_with fail
  refine (write_yes _ _ _ _ _ H.out).mono ?_
  rintro e u2 ⟨v1, rfl, o2, b2⟩
  obtain ⟨hc2, hf2⟩ := bcell b2
  have z2 := b2.size
  have l2 : w.heap.size < u2.heap.size := by omega
  have m2 : w.heap.size + 1 < u2.heap.size := by omega
  have B2 := B1.trans (b2.mono (by omega))
  go_wp2_with fail
  refine (write_un _ _ _ _ _).mono ?_
  rintro e u3 ⟨v2, e2, rfl, o3, b3⟩
  obtain ⟨hc3, hf3⟩ := bcell b3
  have z3 := b3.size
  have l3 : w.heap.size < u3.heap.size := by omega
  have m3 : w.heap.size + 1 < u3.heap.size := by omega
  have B3 := B2.trans (b3.mono (by omega))
  have i2 := o2.isB.below b3
  obtain ⟨a1, c1, hv1, _, _⟩ := i2.len
  rw [show (wrL p n t s).length = 4 from rfl] at hv1
  subst hv1
  have HI := hide i2
  clear o2 i2
  go_upto_region 7 with fail
  go_cut [54] (fun s54 wx => s54 = .bool false ∧ Below u3.heap.size u3 wx)
  case first =>
    rcases o3 with ⟨rfl, H2, i3⟩ | ⟨rfl, H2, rfl⟩
    · have HJ := hide i3
      clear i3
      by_cases hq : p = p2 ∧ n = n2 ∧ t = t2 ∧ s = s2
      · obtain ⟨rfl, rfl, rfl, rfl⟩ := hq
        refine wp_region_mono 17 165 [.val _, .val _, .val _, .val _, .val _, .val _, .val _, .val _, .val _, .val _, .val _, .val _, .val _, .val _, .val _, .val _, .val _] (by kernel_rfl) (by kernel_rfl) rfl trivial rfl ⟨
          fun a u hB hO hJ => .inl ⟨rfl, fun K Q hK => by
            have e10 : a.tmps[10]?.getD undef = .int .i64 0 := hO 10 rfl
            clear hO hJ
            exact wp_move_of e10 fun h => hK _ _ (Below.refl _ _) h⟩,
          fun a u hB hO hJ => .inl ⟨rfl, fun K Q hK => by
            have e38 : a.tmps[38]?.getD undef = _ := hJ 0 rfl
            clear hO hJ
            go_simp
            try go_bits
            exact hK _ _ (Below.refl _ _) rfl⟩,
          fun a u hB hO hJ => .inl ⟨rfl, fun K Q hK => by
            have e39 : a.tmps[39]?.getD undef = _ := hJ 1 rfl
            clear hO hJ
            exact wp_move_of e39 fun h => hK _ _ (Below.refl _ _) h⟩,
          fun a u hB hO hJ => .inl ⟨(wanted_of rfl (hJ 2 rfl)), fun K Q hK => by
            have e12 : a.tmps[12]?.getD undef = .int .i64 0 := hO 12 rfl
            clear hO hJ
            exact wp_move_of e12 fun h => hK _ _ (Below.refl _ _) h⟩,
          fun a u hB hO hJ => .inl ⟨(wanted_of rfl (hJ 2 rfl)), fun K Q hK => by
            have e41 : a.tmps[41]?.getD undef = _ := hJ 3 rfl
            clear hO hJ
            go_simp
            try go_bits
            exact hK _ _ (Below.refl _ _) rfl⟩,
          fun a u hB hO hJ => .inl ⟨rfl, fun K Q hK => by
            have e40 : a.tmps[40]?.getD undef = _ := hJ 2 rfl
            have e42 : a.tmps[42]?.getD undef = _ := hJ 4 rfl
            clear hO hJ
            go_simp
            try go_bits
            exact hK _ _ (Below.refl _ _) rfl⟩,
          fun a u hB hO hJ => .inl ⟨rfl, fun K Q hK => by
            have e43 : a.tmps[43]?.getD undef = _ := hJ 5 rfl
            clear hO hJ
            exact wp_move_of e43 fun h => hK _ _ (Below.refl _ _) h⟩,
          fun a u hB hO hJ => .inl ⟨(wanted_of rfl (hJ 6 rfl)), fun K Q hK => by
            have e9 : a.tmps[9]?.getD undef = .slice a1 4 c1 := hO 9 rfl
            clear hO hJ
            exact wp_move_of e9 fun h => hK _ _ (Below.refl _ _) h⟩,
          fun a u hB hO hJ => .inl ⟨(wanted_of rfl (hJ 6 rfl)), fun K Q hK => by
            have e45 : a.tmps[45]?.getD undef = _ := hJ 7 rfl
            clear hO hJ
            exact wp_conv_of e45 (HI.out.below hB) (hK _ _ (Below.refl _ _) rfl)⟩,
          fun a u hB hO hJ => .inl ⟨(wanted_of rfl (hJ 6 rfl)), fun K Q hK => by
            have e11 : a.tmps[11]?.getD undef = v2 := hO 11 rfl
            clear hO hJ
            exact wp_move_of e11 fun h => hK _ _ (Below.refl _ _) h⟩,
          fun a u hB hO hJ => .inl ⟨(wanted_of rfl (hJ 6 rfl)), fun K Q hK => by
            have e47 : a.tmps[47]?.getD undef = _ := hJ 9 rfl
            clear hO hJ
            exact wp_conv_of e47 (HJ.out.below hB) (hK _ _ (Below.refl _ _) rfl)⟩,
          fun a u hB hO hJ => .inl ⟨(wanted_of rfl (hJ 6 rfl)), fun K Q hK => by
            have e46 : a.tmps[46]?.getD undef = _ := hJ 8 rfl
            have e48 : a.tmps[48]?.getD undef = _ := hJ 10 rfl
            clear hO hJ
            go_simp
            try go_bits
            exact hK _ _ (Below.refl _ _) rfl⟩,
          fun a u hB hO hJ => .inl ⟨(wanted_of rfl (hJ 6 rfl)), fun K Q hK => by
            have e4 : a.tmps[4]?.getD undef = .pointer (some ⟨w.heap.size, 0, none⟩) := hO 4 rfl
            clear hO hJ
            obtain ⟨hc, hf⟩ := bcell hB
            go_simp
            exact hK _ _ (Below.refl _ _) rfl⟩,
          fun a u hB hO hJ => .inl ⟨(wanted_of rfl (hJ 6 rfl)), fun K Q hK => by
            have e5 : a.tmps[5]?.getD undef = .pointer (some ⟨w.heap.size + 1, 0, none⟩) := hO 5 rfl
            clear hO hJ
            obtain ⟨hc, hf⟩ := bcell hB
            go_simp
            exact hK _ _ (Below.refl _ _) rfl⟩,
          fun a u hB hO hJ => .inl ⟨(wanted_of rfl (hJ 6 rfl)), fun K Q hK => by
            have e50 : a.tmps[50]?.getD undef = _ := hJ 12 rfl
            have e51 : a.tmps[51]?.getD undef = _ := hJ 13 rfl
            clear hO hJ
            go_simp
            try go_bits
            exact hK _ _ (Below.refl _ _) rfl⟩,
          fun a u hB hO hJ => .inl ⟨(wanted_of rfl (hJ 6 rfl)), fun K Q hK => by
            have e49 : a.tmps[49]?.getD undef = _ := hJ 11 rfl
            have e52 : a.tmps[52]?.getD undef = _ := hJ 14 rfl
            clear hO hJ
            go_simp
            try go_bits
            exact hK _ _ (Below.refl _ _) rfl⟩,
          fun a u hB hO hJ => .inl ⟨rfl, fun K Q hK => by
            have e44 : a.tmps[44]?.getD undef = _ := hJ 6 rfl
            have e53 : a.tmps[53]?.getD undef = _ := hJ 15 rfl
            clear hO hJ
            go_simp
            try go_bits
            exact hK _ _ (Below.refl _ _) rfl⟩,
          trivial⟩ ?fin7
        case fin7 =>
          intro u4 b4
          simp only [Act.put, List.setIfInBounds_toArray, List.set_cons_zero, List.set_cons_succ, List.drop_succ_cons, List.drop_zero, List.take_succ_cons, List.take_zero, Laid]
          have HB4 := hide b4
          clear b4
          go_wp2_with fail
          go_meet
          exact ⟨rfl, HB4.out⟩
      · have hs : (wrL p n t s == wrL p2 n2 t2 s2) = false := by
          rw [beq_eq_false_iff_ne]
          exact fun he => hq (wrL_inj H.out H2 he)
        have HN := hide hq
        clear hq
        refine wp_region_mono 17 165 [.val _, .val _, .val _, .val _, .val _, .val _, .val _, .val _, .val _, .val _, .val _, .val _, .val _, .val _, .val _, .val _, .val _] (by kernel_rfl) (by kernel_rfl) rfl trivial rfl ⟨
          fun a u hB hO hJ => .inl ⟨rfl, fun K Q hK => by
            have e10 : a.tmps[10]?.getD undef = .int .i64 0 := hO 10 rfl
            clear hO hJ
            exact wp_move_of e10 fun h => hK _ _ (Below.refl _ _) h⟩,
          fun a u hB hO hJ => .inl ⟨rfl, fun K Q hK => by
            have e38 : a.tmps[38]?.getD undef = _ := hJ 0 rfl
            clear hO hJ
            go_simp
            try go_bits
            exact hK _ _ (Below.refl _ _) rfl⟩,
          fun a u hB hO hJ => .inl ⟨rfl, fun K Q hK => by
            have e39 : a.tmps[39]?.getD undef = _ := hJ 1 rfl
            clear hO hJ
            exact wp_move_of e39 fun h => hK _ _ (Below.refl _ _) h⟩,
          fun a u hB hO hJ => .inl ⟨(wanted_of rfl (hJ 2 rfl)), fun K Q hK => by
            have e12 : a.tmps[12]?.getD undef = .int .i64 0 := hO 12 rfl
            clear hO hJ
            exact wp_move_of e12 fun h => hK _ _ (Below.refl _ _) h⟩,
          fun a u hB hO hJ => .inl ⟨(wanted_of rfl (hJ 2 rfl)), fun K Q hK => by
            have e41 : a.tmps[41]?.getD undef = _ := hJ 3 rfl
            clear hO hJ
            go_simp
            try go_bits
            exact hK _ _ (Below.refl _ _) rfl⟩,
          fun a u hB hO hJ => .inl ⟨rfl, fun K Q hK => by
            have e40 : a.tmps[40]?.getD undef = _ := hJ 2 rfl
            have e42 : a.tmps[42]?.getD undef = _ := hJ 4 rfl
            clear hO hJ
            go_simp
            try go_bits
            exact hK _ _ (Below.refl _ _) rfl⟩,
          fun a u hB hO hJ => .inl ⟨rfl, fun K Q hK => by
            have e43 : a.tmps[43]?.getD undef = _ := hJ 5 rfl
            clear hO hJ
            exact wp_move_of e43 fun h => hK _ _ (Below.refl _ _) h⟩,
          fun a u hB hO hJ => .inl ⟨(wanted_of rfl (hJ 6 rfl)), fun K Q hK => by
            have e9 : a.tmps[9]?.getD undef = .slice a1 4 c1 := hO 9 rfl
            clear hO hJ
            exact wp_move_of e9 fun h => hK _ _ (Below.refl _ _) h⟩,
          fun a u hB hO hJ => .inl ⟨(wanted_of rfl (hJ 6 rfl)), fun K Q hK => by
            have e45 : a.tmps[45]?.getD undef = _ := hJ 7 rfl
            clear hO hJ
            exact wp_conv_of e45 (HI.out.below hB) (hK _ _ (Below.refl _ _) rfl)⟩,
          fun a u hB hO hJ => .inl ⟨(wanted_of rfl (hJ 6 rfl)), fun K Q hK => by
            have e11 : a.tmps[11]?.getD undef = v2 := hO 11 rfl
            clear hO hJ
            exact wp_move_of e11 fun h => hK _ _ (Below.refl _ _) h⟩,
          fun a u hB hO hJ => .inl ⟨(wanted_of rfl (hJ 6 rfl)), fun K Q hK => by
            have e47 : a.tmps[47]?.getD undef = _ := hJ 9 rfl
            clear hO hJ
            exact wp_conv_of e47 (HJ.out.below hB) (hK _ _ (Below.refl _ _) rfl)⟩,
          fun a u hB hO hJ => .inl ⟨(wanted_of rfl (hJ 6 rfl)), fun K Q hK => by
            have e46 : a.tmps[46]?.getD undef = _ := hJ 8 rfl
            have e48 : a.tmps[48]?.getD undef = _ := hJ 10 rfl
            clear hO hJ
            go_simp
            try go_bits
            exact hK _ _ (Below.refl _ _) rfl⟩,
          fun a u hB hO hJ => .inl ⟨(wanted_of rfl (hJ 6 rfl)), fun K Q hK => by
            have e4 : a.tmps[4]?.getD undef = .pointer (some ⟨w.heap.size, 0, none⟩) := hO 4 rfl
            clear hO hJ
            obtain ⟨hc, hf⟩ := bcell hB
            go_simp
            exact hK _ _ (Below.refl _ _) rfl⟩,
          fun a u hB hO hJ => .inl ⟨(wanted_of rfl (hJ 6 rfl)), fun K Q hK => by
            have e5 : a.tmps[5]?.getD undef = .pointer (some ⟨w.heap.size + 1, 0, none⟩) := hO 5 rfl
            clear hO hJ
            obtain ⟨hc, hf⟩ := bcell hB
            go_simp
            exact hK _ _ (Below.refl _ _) rfl⟩,
          fun a u hB hO hJ => .inl ⟨(wanted_of rfl (hJ 6 rfl)), fun K Q hK => by
            have e50 : a.tmps[50]?.getD undef = _ := hJ 12 rfl
            have e51 : a.tmps[51]?.getD undef = _ := hJ 13 rfl
            clear hO hJ
            go_simp
            rw [ifs4, if_neg HN.out]
            go_simp
            exact hK _ _ (Below.refl _ _) rfl⟩,
          fun a u hB hO hJ => .inl ⟨(wanted_of rfl (hJ 6 rfl)), fun K Q hK => by
            have e49 : a.tmps[49]?.getD undef = _ := hJ 11 rfl
            have e52 : a.tmps[52]?.getD undef = _ := hJ 14 rfl
            clear hO hJ
            go_simp
            try go_bits
            exact hK _ _ (Below.refl _ _) rfl⟩,
          fun a u hB hO hJ => .inl ⟨rfl, fun K Q hK => by
            have e44 : a.tmps[44]?.getD undef = _ := hJ 6 rfl
            have e53 : a.tmps[53]?.getD undef = _ := hJ 15 rfl
            clear hO hJ
            go_simp
            try go_bits
            exact hK _ _ (Below.refl _ _) rfl⟩,
          trivial⟩ ?fin7
        case fin7 =>
          intro u4 b4
          simp only [Act.put, List.setIfInBounds_toArray, List.set_cons_zero, List.set_cons_succ, List.drop_succ_cons, List.drop_zero, List.take_succ_cons, List.take_zero, Laid]
          have HB4 := hide b4
          clear b4
          go_wp2_with fail
          go_meet
          exact ⟨rfl, HB4.out⟩
    · refine wp_region_mono 17 165 [.val _, .val _, .val _, .val _, .val _, .val _, .val _, .val _, .val _, .val _, .val _, .val _, .val _, .val _, .val _, .val _, .val _] (by kernel_rfl) (by kernel_rfl) rfl trivial rfl ⟨
        fun a u hB hO hJ => .inl ⟨rfl, fun K Q hK => by
          have e10 : a.tmps[10]?.getD undef = .int .i64 0 := hO 10 rfl
          clear hO hJ
          exact wp_move_of e10 fun h => hK _ _ (Below.refl _ _) h⟩,
        fun a u hB hO hJ => .inl ⟨rfl, fun K Q hK => by
          have e38 : a.tmps[38]?.getD undef = _ := hJ 0 rfl
          clear hO hJ
          go_simp
          try go_bits
          exact hK _ _ (Below.refl _ _) rfl⟩,
        fun a u hB hO hJ => .inl ⟨rfl, fun K Q hK => by
          have e39 : a.tmps[39]?.getD undef = _ := hJ 1 rfl
          clear hO hJ
          exact wp_move_of e39 fun h => hK _ _ (Below.refl _ _) h⟩,
        fun a u hB hO hJ => .inl ⟨(wanted_of rfl (hJ 2 rfl)), fun K Q hK => by
          have e12 : a.tmps[12]?.getD undef = .int .i64 1 := hO 12 rfl
          clear hO hJ
          exact wp_move_of e12 fun h => hK _ _ (Below.refl _ _) h⟩,
        fun a u hB hO hJ => .inl ⟨(wanted_of rfl (hJ 2 rfl)), fun K Q hK => by
          have e41 : a.tmps[41]?.getD undef = _ := hJ 3 rfl
          clear hO hJ
          go_simp
          try go_bits
          exact hK _ _ (Below.refl _ _) rfl⟩,
        fun a u hB hO hJ => .inl ⟨rfl, fun K Q hK => by
          have e40 : a.tmps[40]?.getD undef = _ := hJ 2 rfl
          have e42 : a.tmps[42]?.getD undef = _ := hJ 4 rfl
          clear hO hJ
          go_simp
          try go_bits
          exact hK _ _ (Below.refl _ _) rfl⟩,
        fun a u hB hO hJ => .inl ⟨rfl, fun K Q hK => by
          have e43 : a.tmps[43]?.getD undef = _ := hJ 5 rfl
          clear hO hJ
          exact wp_move_of e43 fun h => hK _ _ (Below.refl _ _) h⟩,
        fun a u hB hO hJ => .inr ⟨(wanted_not rfl (hJ 6 rfl) (by decide)), rfl⟩,
        fun a u hB hO hJ => .inr ⟨(wanted_not rfl (hJ 6 rfl) (by decide)), rfl⟩,
        fun a u hB hO hJ => .inr ⟨(wanted_not rfl (hJ 6 rfl) (by decide)), rfl⟩,
        fun a u hB hO hJ => .inr ⟨(wanted_not rfl (hJ 6 rfl) (by decide)), rfl⟩,
        fun a u hB hO hJ => .inr ⟨(wanted_not rfl (hJ 6 rfl) (by decide)), rfl⟩,
        fun a u hB hO hJ => .inr ⟨(wanted_not rfl (hJ 6 rfl) (by decide)), rfl⟩,
        fun a u hB hO hJ => .inr ⟨(wanted_not rfl (hJ 6 rfl) (by decide)), rfl⟩,
        fun a u hB hO hJ => .inr ⟨(wanted_not rfl (hJ 6 rfl) (by decide)), rfl⟩,
        fun a u hB hO hJ => .inr ⟨(wanted_not rfl (hJ 6 rfl) (by decide)), rfl⟩,
        fun a u hB hO hJ => .inl ⟨rfl, fun K Q hK => by
          have e44 : a.tmps[44]?.getD undef = _ := hJ 6 rfl
          have e53 : a.tmps[53]?.getD undef = _ := hJ 15 rfl
          clear hO hJ
          go_simp
          try go_bits
          exact hK _ _ (Below.refl _ _) rfl⟩,
        trivial⟩ ?fin7
      case fin7 =>
        intro u4 b4
        simp only [Act.put, List.setIfInBounds_toArray, List.set_cons_zero, List.set_cons_succ, List.drop_succ_cons, List.drop_zero, List.take_succ_cons, List.take_zero, Laid]
        have HB4 := hide b4
        clear b4
        go_wp2_with fail
        go_meet
        exact ⟨rfl, HB4.out⟩
  case rest =>
    obtain ⟨rfl, b4⟩ := hcut
    have HI4 := hide (HI.out.below b4)
    have B4 := B3.trans (b4.mono (by omega))
    obtain ⟨hc4, hf4⟩ := bcell b4
    have z4 := b4.size
    have l4 : w.heap.size < wc.heap.size := by omega
    have m4 : w.heap.size + 1 < wc.heap.size := by omega
    clear b1 b2 b3 b4 B1 B2 B3 HI o3
    by_cases hs3 : s ≤ 3000
    · go_wp2_with fail
      refine wp_region_mono 6 165 [.pred (PE wc.heap.size), .val _, .pred (PO wc.heap.size (wrL p n t s)), .val _, .val _, .val _] (by kernel_rfl) (by kernel_rfl) rfl ⟨PE.stable _, PO.stable _ _, trivial⟩ rfl ⟨
        fun a u hB hO hJ => .inl ⟨rfl, fun K Q hK => by
          clear hO hJ
          go_simp
          exact hK _ _ ((Below.refl _ _).alloc (Nat.le_refl _) _) ⟨⟨_, rfl⟩, Own.empty hB.size _ rfl⟩⟩,
        fun a u hB hO hJ => .inl ⟨rfl, fun K Q hK => by
          have e9 : a.tmps[9]?.getD undef = .slice a1 4 c1 := hO 9 rfl
          clear hO hJ
          exact wp_move_of e9 fun h => hK _ _ (Below.refl _ _) h⟩,
        fun a u hB hO hJ => .inl ⟨rfl, fun K Q hK => by
          have e72 : (PE wc.heap.size) (a.tmps[72]?.getD undef) u := hJ 0 rfl
          have e73 : a.tmps[73]?.getD undef = _ := hJ 1 rfl
          clear hO hJ
          exact wp_append_E_of e72 (by rw [e73]; exact HI4.out.below hB) (by simp [wrL]) hB.size (fun v3 w3 h3 b3 => hK _ _ b3 h3)⟩,
        fun a u hB hO hJ => .inl ⟨rfl, fun K Q hK => by
          have e4 : a.tmps[4]?.getD undef = .pointer (some ⟨w.heap.size, 0, none⟩) := hO 4 rfl
          clear hO hJ
          go_simp
          try go_bits
          exact hK _ _ (Below.refl _ _) rfl⟩,
        fun a u hB hO hJ => .inl ⟨rfl, fun K Q hK => by
          have e75 : a.tmps[75]?.getD undef = _ := hJ 3 rfl
          clear hO hJ
          obtain ⟨hc, hf⟩ := bcell hB
          go_simp
          exact hK _ _ (Below.refl _ _) rfl⟩,
        fun a u hB hO hJ => .inl ⟨rfl, fun K Q hK => by
          have e76 : a.tmps[76]?.getD undef = _ := hJ 4 rfl
          clear hO hJ
          go_simp
          try go_bits
          exact hK _ _ (Below.refl _ _) rfl⟩,
        trivial⟩ ?fin10
      case fin10 =>
        rintro u5 b5 _ _ v5 h5
        simp only [Act.put, List.setIfInBounds_toArray, List.set_cons_zero, List.set_cons_succ, List.drop_succ_cons, List.drop_zero, List.take_succ_cons, List.take_zero, Laid]
        have z5 := b5.size
        have HA : Hid ((s - 4).toNat = s - 4) := hide (by omega)
        refine wpList_append_Z h5 (s - 4).toNat HA.out.symm (by simp [wrL]; omega) z5 rfl rfl ?_
        intro v6 u6 o6 b6
        have B6 := (B4.trans (b5.mono (by omega))).trans (b6.mono (by omega))
        obtain ⟨hc6, hf6⟩ : (∀ b o, b < wc.heap.size → u6.cell? ⟨b, o, none⟩ = wc.cell? ⟨b, o, none⟩) ∧ (∀ b o, b < wc.heap.size → u6.frozen? ⟨b, o, none⟩ = wc.frozen? ⟨b, o, none⟩) :=
          ⟨fun b o hb => ((b5.trans b6).cell (p := ⟨b, o, none⟩) hb), fun b o hb => ((b5.trans b6).frozen (p := ⟨b, o, none⟩) hb)⟩
        have z6 := b6.size
        have l6 : w.heap.size < u6.heap.size := by omega
        have i6 := o6.isB
        have hlen : (wrL p n t s ++ List.replicate (s - 4).toNat 0).length = s.toNat := by simp [wrL]; omega
        obtain ⟨aa, n6, ca, rfl, hn6, hca, hcm⟩ := i6.len'
        have HI6 := hide i6
        have HLn := hide hlen
        have hs6 : (n6 : Int) = s := by rw [hn6, hlen]; omega
        have HS6 := hide hs6
        clear h5 o6 b5 b6 B4 i6 hlen hn6 hs6
        go_wp2_with fail
        refine (read_any _ _ _ HI6.out).mono ?_
        rintro e u7 ⟨rfl, b7⟩
        rw [rd_wr H.out, if_neg (by simp; omega), rdV_wr H.out _ (by simp; omega)]
        obtain ⟨hc7, hf7⟩ := bcell b7
        have z7 := b7.size
        have l7 : w.heap.size < u7.heap.size := by omega
        have B7 := B6.trans (b7.mono (by omega))
        have HI7 := hide (HI6.out.below b7)
        clear b7 B6 HI6
        have hk0 : 0 ≤ less % s := Int.emod_nonneg _ (by omega)
        have hk1 : less % s < s := Int.emod_lt_of_pos _ (by omega)
        obtain ⟨k, hk⟩ : ∃ k : Nat, less % s = (k : Int) := ⟨(less % s).toNat, by omega⟩
        have HK := hide hk
        have hks : (k : Int) < s := by omega
        clear hk0 hk1 hk
        go_wp2_with (refine wpList_slice_hi (HI7.out.below ((Below.refl _ _).alloc (Nat.le_refl _) _)) k (by rw [HLn.out]; omega) HK.out (by rfl) rfl rfl ?_)
        have HS := hide ((HI7.out.below ((Below.refl _ _).alloc (Nat.le_refl _) (Obj.cells #[Value.bool p, Value.int IntKind.i64 n, Value.int IntKind.i64 t, Value.int IntKind.i64 s] 23))).slice (Nat.zero_le k) (by rw [HLn.out]; omega))
        refine (read_any _ _ _ HS.out).mono ?_
        rintro e u8 ⟨rfl, b8⟩
        have hcut0 := rd_cut (p := p) H.out (List.replicate (s - 4).toNat 0) k hks (by simp; omega)
        rw [List.drop_zero, hcut0, rdV_zero (by rw [hcut0]; split <;> omega)]
        obtain ⟨hc8, hf8⟩ := bcell b8
        have z8 := b8.size
        simp only [World.size_alloc] at z8
        have l8 : w.heap.size < u8.heap.size := by omega
        have m8 : u7.heap.size < u8.heap.size := by omega
        have B8 := (B7.alloc (by omega) (Obj.cells #[Value.bool p, Value.int IntKind.i64 n, Value.int IntKind.i64 t, Value.int IntKind.i64 s] 23)).trans (b8.mono (by simp; omega))
        clear b8 B7 HI7 HS hcut0
        by_cases hk4 : k < 4
        · rw [if_pos hk4]
          have hk4' : less % s < 4 := by rw [HK.out]; omega
          clear hk4
          go_wp2_with fail
          have B8a := B8.alloc (by omega) (Obj.cells #[Value.bool false, Value.int IntKind.i64 0, Value.int IntKind.i64 0, Value.int IntKind.i64 0] 23)
          clear B8
          refine (read_any _ _ _ (HB.out.below B8a)).mono ?_
          rintro e u8 ⟨rfl, b8⟩
          have z8 := b8.size
          try simp only [World.size_alloc] at z8
          have B8 := B8a.trans (b8.mono (by first | omega | (simp; omega)))
          clear b8
          by_cases he : rdE l = 0
          · have HR := hide (rd_right he)
            have HW := hide (wr_rd he)
            obtain ⟨hle, hle4, _⟩ := rd_le he
            have HL : Hid (4 ≤ l.length) := hide (by omega)
            unfold rdV
            rw [he]
            clear he
            go_wp2_with fail
            refine (write_yes _ _ _ _ _ HR.out).mono ?_
            rintro e u9 ⟨v9, rfl, o9, b9⟩
            have z9 := b9.size
            simp only [World.size_alloc] at z9
            have B9 := (B8.alloc (by omega) (.cells #[.bool (rdP l), .int .i64 (rdN l), .int .i64 (rdT l), .int .i64 (rdS l)] 23)).trans (b9.mono (by simp; omega))
            have HB9 := hide (HB.out.below B9)
            have HV := hide o9.isB
            obtain ⟨hc9, hf9⟩ := bcell b9
            have l9 : u8.heap.size < u9.heap.size := by omega
            clear B8 b9 o9
            go_wp2_with fail
            refine wp_region_mono 21 165 [.val _, .val _, .val _, .val _, .val _, .val _, .val _, .val _, .val _, .val _, .val _, .val _, .val _, .val _, .val _, .val _, .val _, .pred (PB (wrL (rdP l) (rdN l) (rdT l) (rdS l))), .val _, .val _, .val _] (by kernel_rfl) (by kernel_rfl) rfl ⟨PB.stable _, trivial⟩ rfl ⟨
              fun a u hB hO hJ => .inl ⟨rfl, fun K Q hK => by
                have e22 : a.tmps[22]?.getD undef = .int .i64 0 := hO 22 rfl
                clear hO hJ
                exact wp_move_of e22 fun h => hK _ _ (Below.refl _ _) h⟩,
              fun a u hB hO hJ => .inl ⟨rfl, fun K Q hK => by
                have e144 : a.tmps[144]?.getD undef = _ := hJ 0 rfl
                clear hO hJ
                go_simp
                try go_bits
                exact hK _ _ (Below.refl _ _) rfl⟩,
              fun a u hB hO hJ => .inl ⟨rfl, fun K Q hK => by
                have e145 : a.tmps[145]?.getD undef = _ := hJ 1 rfl
                clear hO hJ
                exact wp_move_of e145 fun h => hK _ _ (Below.refl _ _) h⟩,
              fun a u hB hO hJ => .inl ⟨(wanted_of rfl (hJ 2 rfl)), fun K Q hK => by
                have e19 : a.tmps[19]?.getD undef = .pointer (some ⟨u8.heap.size, 0, none⟩) := hO 19 rfl
                clear hO hJ
                obtain ⟨hc, hf⟩ := bcell hB
                go_simp
                exact hK _ _ (Below.refl _ _) rfl⟩,
              fun a u hB hO hJ => .inl ⟨(wanted_of rfl (hJ 2 rfl)), fun K Q hK => by
                have e147 : a.tmps[147]?.getD undef = _ := hJ 3 rfl
                clear hO hJ
                go_simp
                refine (right_true _ _ _ _ _ HR.out).mono ?_
                rintro e u0 ⟨rfl, hb⟩
                exact hK _ _ hb rfl⟩,
              fun a u hB hO hJ => .inl ⟨rfl, fun K Q hK => by
                have e146 : a.tmps[146]?.getD undef = _ := hJ 2 rfl
                have e148 : a.tmps[148]?.getD undef = _ := hJ 4 rfl
                clear hO hJ
                go_simp
                try go_bits
                exact hK _ _ (Below.refl _ _) rfl⟩,
              fun a u hB hO hJ => .inl ⟨rfl, fun K Q hK => by
                have e149 : a.tmps[149]?.getD undef = _ := hJ 5 rfl
                clear hO hJ
                exact wp_move_of e149 fun h => hK _ _ (Below.refl _ _) h⟩,
              fun a u hB hO hJ => .inl ⟨(wanted_of rfl (hJ 6 rfl)), fun K Q hK => by
                have e19 : a.tmps[19]?.getD undef = .pointer (some ⟨u8.heap.size, 0, none⟩) := hO 19 rfl
                clear hO hJ
                go_simp
                try go_bits
                exact hK _ _ (Below.refl _ _) rfl⟩,
              fun a u hB hO hJ => .inl ⟨(wanted_of rfl (hJ 6 rfl)), fun K Q hK => by
                have e151 : a.tmps[151]?.getD undef = _ := hJ 7 rfl
                clear hO hJ
                obtain ⟨hc, hf⟩ := bcell hB
                go_simp
                exact hK _ _ (Below.refl _ _) rfl⟩,
              fun a u hB hO hJ => .inl ⟨(wanted_of rfl (hJ 6 rfl)), fun K Q hK => by
                have e2 : a.tmps[2]?.getD undef = .slice ad l.length cap := hO 2 rfl
                clear hO hJ
                exact wp_move_of e2 fun h => hK _ _ (Below.refl _ _) h⟩,
              fun a u hB hO hJ => .inl ⟨(wanted_of rfl (hJ 6 rfl)), fun K Q hK => by
                have e153 : a.tmps[153]?.getD undef = _ := hJ 9 rfl
                clear hO hJ
                go_simp
                try go_bits
                exact hK _ _ (Below.refl _ _) rfl⟩,
              fun a u hB hO hJ => .inl ⟨(wanted_of rfl (hJ 6 rfl)), fun K Q hK => by
                have e152 : a.tmps[152]?.getD undef = _ := hJ 8 rfl
                have e154 : a.tmps[154]?.getD undef = _ := hJ 10 rfl
                clear hO hJ
                go_simp
                try go_bits
                exact hK _ _ (Below.refl _ _) rfl⟩,
              fun a u hB hO hJ => .inl ⟨rfl, fun K Q hK => by
                have e150 : a.tmps[150]?.getD undef = _ := hJ 6 rfl
                have e155 : a.tmps[155]?.getD undef = _ := hJ 11 rfl
                clear hO hJ
                go_simp
                try go_bits
                exact hK _ _ (Below.refl _ _) rfl⟩,
              fun a u hB hO hJ => .inl ⟨rfl, fun K Q hK => by
                have e156 : a.tmps[156]?.getD undef = _ := hJ 12 rfl
                clear hO hJ
                exact wp_move_of e156 fun h => hK _ _ (Below.refl _ _) h⟩,
              fun a u hB hO hJ => .inl ⟨(wanted_of rfl (hJ 13 rfl)), fun K Q hK => by
                have e21 : a.tmps[21]?.getD undef = v9 := hO 21 rfl
                clear hO hJ
                exact wp_move_of e21 fun h => hK _ _ (Below.refl _ _) h⟩,
              fun a u hB hO hJ => .inl ⟨(wanted_of rfl (hJ 13 rfl)), fun K Q hK => by
                have e158 : a.tmps[158]?.getD undef = _ := hJ 14 rfl
                clear hO hJ
                exact wp_conv_of e158 (HV.out.below hB) (hK _ _ (Below.refl _ _) rfl)⟩,
              fun a u hB hO hJ => .inl ⟨(wanted_of rfl (hJ 13 rfl)), fun K Q hK => by
                have e2 : a.tmps[2]?.getD undef = .slice ad l.length cap := hO 2 rfl
                clear hO hJ
                exact wp_move_of e2 fun h => hK _ _ (Below.refl _ _) h⟩,
              fun a u hB hO hJ => .inl ⟨(wanted_of rfl (hJ 13 rfl)), fun K Q hK => by
                have e160 : a.tmps[160]?.getD undef = _ := hJ 16 rfl
                clear hO hJ
                have i0 := HB9.out.below hB
                have i1 := i0.slice (Nat.zero_le 4) HL.out
                rw [List.drop_zero, ← HW.out] at i1
                exact wp_slice_hi (hi := 4) (by rw [evalTmp, e160]) i0 rfl rfl HL.out (hK _ _ (Below.refl _ _) i1)⟩,
              fun a u hB hO hJ => .inl ⟨(wanted_of rfl (hJ 13 rfl)), fun K Q hK => by
                have e161 : (PB (wrL (rdP l) (rdN l) (rdT l) (rdS l))) (a.tmps[161]?.getD undef) u := hJ 17 rfl
                clear hO hJ
                exact wp_conv_of rfl e161 (hK _ _ (Below.refl _ _) rfl)⟩,
              fun a u hB hO hJ => .inl ⟨(wanted_of rfl (hJ 13 rfl)), fun K Q hK => by
                have e159 : a.tmps[159]?.getD undef = _ := hJ 15 rfl
                have e162 : a.tmps[162]?.getD undef = _ := hJ 18 rfl
                clear hO hJ
                go_simp
                try go_bits
                exact hK _ _ (Below.refl _ _) rfl⟩,
              fun a u hB hO hJ => .inl ⟨rfl, fun K Q hK => by
                have e157 : a.tmps[157]?.getD undef = _ := hJ 13 rfl
                have e163 : a.tmps[163]?.getD undef = _ := hJ 19 rfl
                clear hO hJ
                go_simp
                try go_bits
                exact hK _ _ (Below.refl _ _) rfl⟩,
              trivial⟩ ?fin22
            case fin22 =>
              intro uA bA _ _
              simp only [Act.put, List.setIfInBounds_toArray, List.set_cons_zero, List.set_cons_succ, List.drop_succ_cons, List.drop_zero, List.take_succ_cons, List.take_zero, Laid]
              have BA := B9.trans (bA.mono (by omega))
              clear bA B9
              go_wp2_with fail
              go_ret
              exact ⟨rfl, BA⟩
          · have hne : (rdE l != 0) = true := by simpa using he
            rw [rdV_zero he]
            clear he
            go_wp2_with fail
            go_ret
            exact ⟨rfl, B8.alloc (by omega) _⟩
        · rw [if_neg hk4]
          have hk4' : 4 ≤ less % s := by rw [HK.out]; omega
          clear hk4
          go_wp2_with fail
          have B8a := B8.alloc (by omega) (Obj.cells #[Value.bool false, Value.int IntKind.i64 0, Value.int IntKind.i64 0, Value.int IntKind.i64 0] 23)
          clear B8
          refine (read_any _ _ _ (HB.out.below B8a)).mono ?_
          rintro e u8 ⟨rfl, b8⟩
          have z8 := b8.size
          try simp only [World.size_alloc] at z8
          have B8 := B8a.trans (b8.mono (by first | omega | (simp; omega)))
          clear b8
          by_cases he : rdE l = 0
          · have HR := hide (rd_right he)
            have HW := hide (wr_rd he)
            obtain ⟨hle, hle4, _⟩ := rd_le he
            have HL : Hid (4 ≤ l.length) := hide (by omega)
            unfold rdV
            rw [he]
            clear he
            go_wp2_with fail
            refine (write_yes _ _ _ _ _ HR.out).mono ?_
            rintro e u9 ⟨v9, rfl, o9, b9⟩
            have z9 := b9.size
            simp only [World.size_alloc] at z9
            have B9 := (B8.alloc (by omega) (.cells #[.bool (rdP l), .int .i64 (rdN l), .int .i64 (rdT l), .int .i64 (rdS l)] 23)).trans (b9.mono (by simp; omega))
            have HB9 := hide (HB.out.below B9)
            have HV := hide o9.isB
            obtain ⟨hc9, hf9⟩ := bcell b9
            have l9 : u8.heap.size < u9.heap.size := by omega
            clear B8 b9 o9
            go_wp2_with fail
            refine wp_region_mono 21 165 [.val _, .val _, .val _, .val _, .val _, .val _, .val _, .val _, .val _, .val _, .val _, .val _, .val _, .val _, .val _, .val _, .val _, .pred (PB (wrL (rdP l) (rdN l) (rdT l) (rdS l))), .val _, .val _, .val _] (by kernel_rfl) (by kernel_rfl) rfl ⟨PB.stable _, trivial⟩ rfl ⟨
              fun a u hB hO hJ => .inl ⟨rfl, fun K Q hK => by
                have e22 : a.tmps[22]?.getD undef = .int .i64 0 := hO 22 rfl
                clear hO hJ
                exact wp_move_of e22 fun h => hK _ _ (Below.refl _ _) h⟩,
              fun a u hB hO hJ => .inl ⟨rfl, fun K Q hK => by
                have e144 : a.tmps[144]?.getD undef = _ := hJ 0 rfl
                clear hO hJ
                go_simp
                try go_bits
                exact hK _ _ (Below.refl _ _) rfl⟩,
              fun a u hB hO hJ => .inl ⟨rfl, fun K Q hK => by
                have e145 : a.tmps[145]?.getD undef = _ := hJ 1 rfl
                clear hO hJ
                exact wp_move_of e145 fun h => hK _ _ (Below.refl _ _) h⟩,
              fun a u hB hO hJ => .inl ⟨(wanted_of rfl (hJ 2 rfl)), fun K Q hK => by
                have e19 : a.tmps[19]?.getD undef = .pointer (some ⟨u8.heap.size, 0, none⟩) := hO 19 rfl
                clear hO hJ
                obtain ⟨hc, hf⟩ := bcell hB
                go_simp
                exact hK _ _ (Below.refl _ _) rfl⟩,
              fun a u hB hO hJ => .inl ⟨(wanted_of rfl (hJ 2 rfl)), fun K Q hK => by
                have e147 : a.tmps[147]?.getD undef = _ := hJ 3 rfl
                clear hO hJ
                go_simp
                refine (right_true _ _ _ _ _ HR.out).mono ?_
                rintro e u0 ⟨rfl, hb⟩
                exact hK _ _ hb rfl⟩,
              fun a u hB hO hJ => .inl ⟨rfl, fun K Q hK => by
                have e146 : a.tmps[146]?.getD undef = _ := hJ 2 rfl
                have e148 : a.tmps[148]?.getD undef = _ := hJ 4 rfl
                clear hO hJ
                go_simp
                try go_bits
                exact hK _ _ (Below.refl _ _) rfl⟩,
              fun a u hB hO hJ => .inl ⟨rfl, fun K Q hK => by
                have e149 : a.tmps[149]?.getD undef = _ := hJ 5 rfl
                clear hO hJ
                exact wp_move_of e149 fun h => hK _ _ (Below.refl _ _) h⟩,
              fun a u hB hO hJ => .inl ⟨(wanted_of rfl (hJ 6 rfl)), fun K Q hK => by
                have e19 : a.tmps[19]?.getD undef = .pointer (some ⟨u8.heap.size, 0, none⟩) := hO 19 rfl
                clear hO hJ
                go_simp
                try go_bits
                exact hK _ _ (Below.refl _ _) rfl⟩,
              fun a u hB hO hJ => .inl ⟨(wanted_of rfl (hJ 6 rfl)), fun K Q hK => by
                have e151 : a.tmps[151]?.getD undef = _ := hJ 7 rfl
                clear hO hJ
                obtain ⟨hc, hf⟩ := bcell hB
                go_simp
                exact hK _ _ (Below.refl _ _) rfl⟩,
              fun a u hB hO hJ => .inl ⟨(wanted_of rfl (hJ 6 rfl)), fun K Q hK => by
                have e2 : a.tmps[2]?.getD undef = .slice ad l.length cap := hO 2 rfl
                clear hO hJ
                exact wp_move_of e2 fun h => hK _ _ (Below.refl _ _) h⟩,
              fun a u hB hO hJ => .inl ⟨(wanted_of rfl (hJ 6 rfl)), fun K Q hK => by
                have e153 : a.tmps[153]?.getD undef = _ := hJ 9 rfl
                clear hO hJ
                go_simp
                try go_bits
                exact hK _ _ (Below.refl _ _) rfl⟩,
              fun a u hB hO hJ => .inl ⟨(wanted_of rfl (hJ 6 rfl)), fun K Q hK => by
                have e152 : a.tmps[152]?.getD undef = _ := hJ 8 rfl
                have e154 : a.tmps[154]?.getD undef = _ := hJ 10 rfl
                clear hO hJ
                go_simp
                try go_bits
                exact hK _ _ (Below.refl _ _) rfl⟩,
              fun a u hB hO hJ => .inl ⟨rfl, fun K Q hK => by
                have e150 : a.tmps[150]?.getD undef = _ := hJ 6 rfl
                have e155 : a.tmps[155]?.getD undef = _ := hJ 11 rfl
                clear hO hJ
                go_simp
                try go_bits
                exact hK _ _ (Below.refl _ _) rfl⟩,
              fun a u hB hO hJ => .inl ⟨rfl, fun K Q hK => by
                have e156 : a.tmps[156]?.getD undef = _ := hJ 12 rfl
                clear hO hJ
                exact wp_move_of e156 fun h => hK _ _ (Below.refl _ _) h⟩,
              fun a u hB hO hJ => .inl ⟨(wanted_of rfl (hJ 13 rfl)), fun K Q hK => by
                have e21 : a.tmps[21]?.getD undef = v9 := hO 21 rfl
                clear hO hJ
                exact wp_move_of e21 fun h => hK _ _ (Below.refl _ _) h⟩,
              fun a u hB hO hJ => .inl ⟨(wanted_of rfl (hJ 13 rfl)), fun K Q hK => by
                have e158 : a.tmps[158]?.getD undef = _ := hJ 14 rfl
                clear hO hJ
                exact wp_conv_of e158 (HV.out.below hB) (hK _ _ (Below.refl _ _) rfl)⟩,
              fun a u hB hO hJ => .inl ⟨(wanted_of rfl (hJ 13 rfl)), fun K Q hK => by
                have e2 : a.tmps[2]?.getD undef = .slice ad l.length cap := hO 2 rfl
                clear hO hJ
                exact wp_move_of e2 fun h => hK _ _ (Below.refl _ _) h⟩,
              fun a u hB hO hJ => .inl ⟨(wanted_of rfl (hJ 13 rfl)), fun K Q hK => by
                have e160 : a.tmps[160]?.getD undef = _ := hJ 16 rfl
                clear hO hJ
                have i0 := HB9.out.below hB
                have i1 := i0.slice (Nat.zero_le 4) HL.out
                rw [List.drop_zero, ← HW.out] at i1
                exact wp_slice_hi (hi := 4) (by rw [evalTmp, e160]) i0 rfl rfl HL.out (hK _ _ (Below.refl _ _) i1)⟩,
              fun a u hB hO hJ => .inl ⟨(wanted_of rfl (hJ 13 rfl)), fun K Q hK => by
                have e161 : (PB (wrL (rdP l) (rdN l) (rdT l) (rdS l))) (a.tmps[161]?.getD undef) u := hJ 17 rfl
                clear hO hJ
                exact wp_conv_of rfl e161 (hK _ _ (Below.refl _ _) rfl)⟩,
              fun a u hB hO hJ => .inl ⟨(wanted_of rfl (hJ 13 rfl)), fun K Q hK => by
                have e159 : a.tmps[159]?.getD undef = _ := hJ 15 rfl
                have e162 : a.tmps[162]?.getD undef = _ := hJ 18 rfl
                clear hO hJ
                go_simp
                try go_bits
                exact hK _ _ (Below.refl _ _) rfl⟩,
              fun a u hB hO hJ => .inl ⟨rfl, fun K Q hK => by
                have e157 : a.tmps[157]?.getD undef = _ := hJ 13 rfl
                have e163 : a.tmps[163]?.getD undef = _ := hJ 19 rfl
                clear hO hJ
                go_simp
                try go_bits
                exact hK _ _ (Below.refl _ _) rfl⟩,
              trivial⟩ ?fin22
            case fin22 =>
              intro uA bA _ _
              simp only [Act.put, List.setIfInBounds_toArray, List.set_cons_zero, List.set_cons_succ, List.drop_succ_cons, List.drop_zero, List.take_succ_cons, List.take_zero, Laid]
              have BA := B9.trans (bA.mono (by omega))
              clear bA B9
              go_wp2_with fail
              go_ret
              exact ⟨rfl, BA⟩
          · have hne : (rdE l != 0) = true := by simpa using he
            rw [rdV_zero he]
            clear he
            go_wp2_with fail
            go_ret
            exact ⟨rfl, B8.alloc (by omega) _⟩
    · have hs4' : 3000 < s := by omega
      go_wp2_with fail
      refine (right_true _ _ _ _ _ H.out).mono ?_
      rintro e u7 ⟨rfl, b7⟩
      have z7 := b7.size
      have B7 := B4.trans (b7.mono (by omega))
      have l7 : w.heap.size ≤ u7.heap.size := by omega
      clear b7 B4
      go_wp2_with fail
      refine (read_any _ _ _ (HB.out.below B7)).mono ?_
      rintro e u8 ⟨rfl, b8⟩
      have z8 := b8.size
      try simp only [World.size_alloc] at z8
      have B8 := B7.trans (b8.mono (by first | omega | (simp; omega)))
      clear b8
      by_cases he : rdE l = 0
      · have HR := hide (rd_right he)
        have HW := hide (wr_rd he)
        obtain ⟨hle, hle4, _⟩ := rd_le he
        have HL : Hid (4 ≤ l.length) := hide (by omega)
        unfold rdV
        rw [he]
        clear he
        go_wp2_with fail
        refine (write_yes _ _ _ _ _ HR.out).mono ?_
        rintro e u9 ⟨v9, rfl, o9, b9⟩
        have z9 := b9.size
        simp only [World.size_alloc] at z9
        have B9 := (B8.alloc (by omega) (.cells #[.bool (rdP l), .int .i64 (rdN l), .int .i64 (rdT l), .int .i64 (rdS l)] 23)).trans (b9.mono (by simp; omega))
        have HB9 := hide (HB.out.below B9)
        have HV := hide o9.isB
        obtain ⟨hc9, hf9⟩ := bcell b9
        have l9 : u8.heap.size < u9.heap.size := by omega
        clear B8 b9 o9
        go_wp2_with fail
        refine wp_region_mono 21 165 [.val _, .val _, .val _, .val _, .val _, .val _, .val _, .val _, .val _, .val _, .val _, .val _, .val _, .val _, .val _, .val _, .val _, .pred (PB (wrL (rdP l) (rdN l) (rdT l) (rdS l))), .val _, .val _, .val _] (by kernel_rfl) (by kernel_rfl) rfl ⟨PB.stable _, trivial⟩ rfl ⟨
          fun a u hB hO hJ => .inl ⟨rfl, fun K Q hK => by
            have e22 : a.tmps[22]?.getD undef = .int .i64 0 := hO 22 rfl
            clear hO hJ
            exact wp_move_of e22 fun h => hK _ _ (Below.refl _ _) h⟩,
          fun a u hB hO hJ => .inl ⟨rfl, fun K Q hK => by
            have e144 : a.tmps[144]?.getD undef = _ := hJ 0 rfl
            clear hO hJ
            go_simp
            try go_bits
            exact hK _ _ (Below.refl _ _) rfl⟩,
          fun a u hB hO hJ => .inl ⟨rfl, fun K Q hK => by
            have e145 : a.tmps[145]?.getD undef = _ := hJ 1 rfl
            clear hO hJ
            exact wp_move_of e145 fun h => hK _ _ (Below.refl _ _) h⟩,
          fun a u hB hO hJ => .inl ⟨(wanted_of rfl (hJ 2 rfl)), fun K Q hK => by
            have e19 : a.tmps[19]?.getD undef = .pointer (some ⟨u8.heap.size, 0, none⟩) := hO 19 rfl
            clear hO hJ
            obtain ⟨hc, hf⟩ := bcell hB
            go_simp
            exact hK _ _ (Below.refl _ _) rfl⟩,
          fun a u hB hO hJ => .inl ⟨(wanted_of rfl (hJ 2 rfl)), fun K Q hK => by
            have e147 : a.tmps[147]?.getD undef = _ := hJ 3 rfl
            clear hO hJ
            go_simp
            refine (right_true _ _ _ _ _ HR.out).mono ?_
            rintro e u0 ⟨rfl, hb⟩
            exact hK _ _ hb rfl⟩,
          fun a u hB hO hJ => .inl ⟨rfl, fun K Q hK => by
            have e146 : a.tmps[146]?.getD undef = _ := hJ 2 rfl
            have e148 : a.tmps[148]?.getD undef = _ := hJ 4 rfl
            clear hO hJ
            go_simp
            try go_bits
            exact hK _ _ (Below.refl _ _) rfl⟩,
          fun a u hB hO hJ => .inl ⟨rfl, fun K Q hK => by
            have e149 : a.tmps[149]?.getD undef = _ := hJ 5 rfl
            clear hO hJ
            exact wp_move_of e149 fun h => hK _ _ (Below.refl _ _) h⟩,
          fun a u hB hO hJ => .inl ⟨(wanted_of rfl (hJ 6 rfl)), fun K Q hK => by
            have e19 : a.tmps[19]?.getD undef = .pointer (some ⟨u8.heap.size, 0, none⟩) := hO 19 rfl
            clear hO hJ
            go_simp
            try go_bits
            exact hK _ _ (Below.refl _ _) rfl⟩,
          fun a u hB hO hJ => .inl ⟨(wanted_of rfl (hJ 6 rfl)), fun K Q hK => by
            have e151 : a.tmps[151]?.getD undef = _ := hJ 7 rfl
            clear hO hJ
            obtain ⟨hc, hf⟩ := bcell hB
            go_simp
            exact hK _ _ (Below.refl _ _) rfl⟩,
          fun a u hB hO hJ => .inl ⟨(wanted_of rfl (hJ 6 rfl)), fun K Q hK => by
            have e2 : a.tmps[2]?.getD undef = .slice ad l.length cap := hO 2 rfl
            clear hO hJ
            exact wp_move_of e2 fun h => hK _ _ (Below.refl _ _) h⟩,
          fun a u hB hO hJ => .inl ⟨(wanted_of rfl (hJ 6 rfl)), fun K Q hK => by
            have e153 : a.tmps[153]?.getD undef = _ := hJ 9 rfl
            clear hO hJ
            go_simp
            try go_bits
            exact hK _ _ (Below.refl _ _) rfl⟩,
          fun a u hB hO hJ => .inl ⟨(wanted_of rfl (hJ 6 rfl)), fun K Q hK => by
            have e152 : a.tmps[152]?.getD undef = _ := hJ 8 rfl
            have e154 : a.tmps[154]?.getD undef = _ := hJ 10 rfl
            clear hO hJ
            go_simp
            try go_bits
            exact hK _ _ (Below.refl _ _) rfl⟩,
          fun a u hB hO hJ => .inl ⟨rfl, fun K Q hK => by
            have e150 : a.tmps[150]?.getD undef = _ := hJ 6 rfl
            have e155 : a.tmps[155]?.getD undef = _ := hJ 11 rfl
            clear hO hJ
            go_simp
            try go_bits
            exact hK _ _ (Below.refl _ _) rfl⟩,
          fun a u hB hO hJ => .inl ⟨rfl, fun K Q hK => by
            have e156 : a.tmps[156]?.getD undef = _ := hJ 12 rfl
            clear hO hJ
            exact wp_move_of e156 fun h => hK _ _ (Below.refl _ _) h⟩,
          fun a u hB hO hJ => .inl ⟨(wanted_of rfl (hJ 13 rfl)), fun K Q hK => by
            have e21 : a.tmps[21]?.getD undef = v9 := hO 21 rfl
            clear hO hJ
            exact wp_move_of e21 fun h => hK _ _ (Below.refl _ _) h⟩,
          fun a u hB hO hJ => .inl ⟨(wanted_of rfl (hJ 13 rfl)), fun K Q hK => by
            have e158 : a.tmps[158]?.getD undef = _ := hJ 14 rfl
            clear hO hJ
            exact wp_conv_of e158 (HV.out.below hB) (hK _ _ (Below.refl _ _) rfl)⟩,
          fun a u hB hO hJ => .inl ⟨(wanted_of rfl (hJ 13 rfl)), fun K Q hK => by
            have e2 : a.tmps[2]?.getD undef = .slice ad l.length cap := hO 2 rfl
            clear hO hJ
            exact wp_move_of e2 fun h => hK _ _ (Below.refl _ _) h⟩,
          fun a u hB hO hJ => .inl ⟨(wanted_of rfl (hJ 13 rfl)), fun K Q hK => by
            have e160 : a.tmps[160]?.getD undef = _ := hJ 16 rfl
            clear hO hJ
            have i0 := HB9.out.below hB
            have i1 := i0.slice (Nat.zero_le 4) HL.out
            rw [List.drop_zero, ← HW.out] at i1
            exact wp_slice_hi (hi := 4) (by rw [evalTmp, e160]) i0 rfl rfl HL.out (hK _ _ (Below.refl _ _) i1)⟩,
          fun a u hB hO hJ => .inl ⟨(wanted_of rfl (hJ 13 rfl)), fun K Q hK => by
            have e161 : (PB (wrL (rdP l) (rdN l) (rdT l) (rdS l))) (a.tmps[161]?.getD undef) u := hJ 17 rfl
            clear hO hJ
            exact wp_conv_of rfl e161 (hK _ _ (Below.refl _ _) rfl)⟩,
          fun a u hB hO hJ => .inl ⟨(wanted_of rfl (hJ 13 rfl)), fun K Q hK => by
            have e159 : a.tmps[159]?.getD undef = _ := hJ 15 rfl
            have e162 : a.tmps[162]?.getD undef = _ := hJ 18 rfl
            clear hO hJ
            go_simp
            try go_bits
            exact hK _ _ (Below.refl _ _) rfl⟩,
          fun a u hB hO hJ => .inl ⟨rfl, fun K Q hK => by
            have e157 : a.tmps[157]?.getD undef = _ := hJ 13 rfl
            have e163 : a.tmps[163]?.getD undef = _ := hJ 19 rfl
            clear hO hJ
            go_simp
            try go_bits
            exact hK _ _ (Below.refl _ _) rfl⟩,
          trivial⟩ ?fin22
        case fin22 =>
          intro uA bA _ _
          simp only [Act.put, List.setIfInBounds_toArray, List.set_cons_zero, List.set_cons_succ, List.drop_succ_cons, List.drop_zero, List.take_succ_cons, List.take_zero, Laid]
          have BA := B9.trans (bA.mono (by omega))
          clear bA B9
          go_wp2_with fail
          go_ret
          exact ⟨rfl, BA⟩
      · have hne : (rdE l != 0) = true := by simpa using he
        rw [rdV_zero he]
        clear he
        go_wp2_with fail
        go_ret
        exact ⟨rfl, B8.alloc (by omega) _⟩

set_option maxRecDepth 100000 in
set_option maxHeartbeats 2000000 in
theorem commonBack_n (p : Bool) (n t s : Int) (p2 : Bool) (n2 t2 s2 : Int) (ad : Option Addr) (cap : Nat) (l : List UInt8) (less : Int) (w : World) (h : rightB n t s = false) (hb0 : IsB w (.slice ad l.length cap) l) (hl : l.length ≤ 70000) :
    Calls Try.prog 4 #[.agg #[.bool p, .int .i64 n, .int .i64 t, .int .i64 s], .agg #[.bool p2, .int .i64 n2, .int .i64 t2, .int .i64 s2], .slice ad l.length cap, .int .u16 less] w fun e w' => e = .returned (.bool true) ∧ Below w.heap.size w w' := by
  have H := hide h
  have HB := hide hb0
  have g : (l.length : Int) ≤ 70000 := by omega
  clear h hb0 hl
  go_enter Try.func4, Try.ntmps4
  go_wp2_with fail
  refine (awake10 _).mono ?_
  rintro e u1 ⟨rfl, b1⟩
  obtain ⟨hc1, hf1⟩ := bcell b1
  have z1 := b1.size
  simp only [World.size_alloc] at z1
  have l1 : w.heap.size < u1.heap.size := by omega
  have m1 : w.heap.size + 1 < u1.heap.size := by omega
  have B1 := (((Below.refl w.heap.size w).alloc (Nat.le_refl _) _).alloc (by simp) _).trans (b1.mono (by simp; omega))
  go_wp2_with fail
  refine (write_no _ _ _ _ _ H.out).mono ?_
  rintro e u2 ⟨rfl, b2⟩
  obtain ⟨hc2, hf2⟩ := bcell b2
  have z2 := b2.size
  have l2 : w.heap.size < u2.heap.size := by omega
  have m2 : w.heap.size + 1 < u2.heap.size := by omega
  have B2 := B1.trans (b2.mono (by omega))
  go_wp2_with fail
  refine (write_un _ _ _ _ _).mono ?_
  rintro e u3 ⟨v2, e2, rfl, _, b3⟩
  obtain ⟨hc3, hf3⟩ := bcell b3
  have z3 := b3.size
  have l3 : w.heap.size < u3.heap.size := by omega
  have m3 : w.heap.size + 1 < u3.heap.size := by omega
  have B3 := B2.trans (b3.mono (by omega))
  go_wp2_with fail
  refine wp_region_mono 17 165 [.val _, .val _, .val _, .val _, .val _, .val _, .val _, .val _, .val _, .val _, .val _, .val _, .val _, .val _, .val _, .val _, .val _] (by kernel_rfl) (by kernel_rfl) rfl trivial rfl ⟨
    fun a u hB hO hJ => .inl ⟨rfl, fun K Q hK => by
      have e10 : a.tmps[10]?.getD undef = .int .i64 1 := hO 10 rfl
      clear hO hJ
      exact wp_move_of e10 fun h => hK _ _ (Below.refl _ _) h⟩,
    fun a u hB hO hJ => .inl ⟨rfl, fun K Q hK => by
      have e38 : a.tmps[38]?.getD undef = _ := hJ 0 rfl
      clear hO hJ
      go_simp
      try go_bits
      exact hK _ _ (Below.refl _ _) rfl⟩,
    fun a u hB hO hJ => .inl ⟨rfl, fun K Q hK => by
      have e39 : a.tmps[39]?.getD undef = _ := hJ 1 rfl
      clear hO hJ
      exact wp_move_of e39 fun h => hK _ _ (Below.refl _ _) h⟩,
    fun a u hB hO hJ => .inr ⟨(wanted_not rfl (hJ 2 rfl) (by decide)), rfl⟩,
    fun a u hB hO hJ => .inr ⟨(wanted_not rfl (hJ 2 rfl) (by decide)), rfl⟩,
    fun a u hB hO hJ => .inl ⟨rfl, fun K Q hK => by
      have e40 : a.tmps[40]?.getD undef = _ := hJ 2 rfl
      have e42 : a.tmps[42]?.getD undef = _ := hJ 4 rfl
      clear hO hJ
      go_simp
      try go_bits
      exact hK _ _ (Below.refl _ _) rfl⟩,
    fun a u hB hO hJ => .inl ⟨rfl, fun K Q hK => by
      have e43 : a.tmps[43]?.getD undef = _ := hJ 5 rfl
      clear hO hJ
      exact wp_move_of e43 fun h => hK _ _ (Below.refl _ _) h⟩,
    fun a u hB hO hJ => .inr ⟨(wanted_not rfl (hJ 6 rfl) (by decide)), rfl⟩,
    fun a u hB hO hJ => .inr ⟨(wanted_not rfl (hJ 6 rfl) (by decide)), rfl⟩,
    fun a u hB hO hJ => .inr ⟨(wanted_not rfl (hJ 6 rfl) (by decide)), rfl⟩,
    fun a u hB hO hJ => .inr ⟨(wanted_not rfl (hJ 6 rfl) (by decide)), rfl⟩,
    fun a u hB hO hJ => .inr ⟨(wanted_not rfl (hJ 6 rfl) (by decide)), rfl⟩,
    fun a u hB hO hJ => .inr ⟨(wanted_not rfl (hJ 6 rfl) (by decide)), rfl⟩,
    fun a u hB hO hJ => .inr ⟨(wanted_not rfl (hJ 6 rfl) (by decide)), rfl⟩,
    fun a u hB hO hJ => .inr ⟨(wanted_not rfl (hJ 6 rfl) (by decide)), rfl⟩,
    fun a u hB hO hJ => .inr ⟨(wanted_not rfl (hJ 6 rfl) (by decide)), rfl⟩,
    fun a u hB hO hJ => .inl ⟨rfl, fun K Q hK => by
      have e44 : a.tmps[44]?.getD undef = _ := hJ 6 rfl
      have e53 : a.tmps[53]?.getD undef = _ := hJ 15 rfl
      clear hO hJ
      go_simp
      try go_bits
      exact hK _ _ (Below.refl _ _) rfl⟩,
    trivial⟩ ?fin7
  case fin7 =>
    intro u4 b4
    simp only [Act.put, List.setIfInBounds_toArray, List.set_cons_zero, List.set_cons_succ, List.drop_succ_cons, List.drop_zero, List.take_succ_cons, List.take_zero, Laid]
    obtain ⟨hc4, hf4⟩ := bcell b4
    have z4 := b4.size
    have l4 : w.heap.size < u4.heap.size := by omega
    have B4 := B3.trans (b4.mono (by omega))
    clear b1 b2 b3 b4 B1 B2 B3
    go_wp2_with fail
    refine (right_false _ _ _ _ _ H.out).mono ?_
    rintro e u7 ⟨rfl, b7⟩
    have z7 := b7.size
    have B7 := B4.trans (b7.mono (by omega))
    have l7 : w.heap.size ≤ u7.heap.size := by omega
    clear b7 B4
    go_wp2_with fail
    refine (read_any _ _ _ (HB.out.below B7)).mono ?_
    rintro e u8 ⟨rfl, b8⟩
    have z8 := b8.size
    try simp only [World.size_alloc] at z8
    have B8 := B7.trans (b8.mono (by first | omega | (simp; omega)))
    clear b8
    by_cases he : rdE l = 0
    · have HR := hide (rd_right he)
      have HW := hide (wr_rd he)
      obtain ⟨hle, hle4, _⟩ := rd_le he
      have HL : Hid (4 ≤ l.length) := hide (by omega)
      unfold rdV
      rw [he]
      clear he
      go_wp2_with fail
      refine (write_yes _ _ _ _ _ HR.out).mono ?_
      rintro e u9 ⟨v9, rfl, o9, b9⟩
      have z9 := b9.size
      simp only [World.size_alloc] at z9
      have B9 := (B8.alloc (by omega) (.cells #[.bool (rdP l), .int .i64 (rdN l), .int .i64 (rdT l), .int .i64 (rdS l)] 23)).trans (b9.mono (by simp; omega))
      have HB9 := hide (HB.out.below B9)
      have HV := hide o9.isB
      obtain ⟨hc9, hf9⟩ := bcell b9
      have l9 : u8.heap.size < u9.heap.size := by omega
      clear B8 b9 o9
      go_wp2_with fail
      refine wp_region_mono 21 165 [.val _, .val _, .val _, .val _, .val _, .val _, .val _, .val _, .val _, .val _, .val _, .val _, .val _, .val _, .val _, .val _, .val _, .pred (PB (wrL (rdP l) (rdN l) (rdT l) (rdS l))), .val _, .val _, .val _] (by kernel_rfl) (by kernel_rfl) rfl ⟨PB.stable _, trivial⟩ rfl ⟨
        fun a u hB hO hJ => .inl ⟨rfl, fun K Q hK => by
          have e22 : a.tmps[22]?.getD undef = .int .i64 0 := hO 22 rfl
          clear hO hJ
          exact wp_move_of e22 fun h => hK _ _ (Below.refl _ _) h⟩,
        fun a u hB hO hJ => .inl ⟨rfl, fun K Q hK => by
          have e144 : a.tmps[144]?.getD undef = _ := hJ 0 rfl
          clear hO hJ
          go_simp
          try go_bits
          exact hK _ _ (Below.refl _ _) rfl⟩,
        fun a u hB hO hJ => .inl ⟨rfl, fun K Q hK => by
          have e145 : a.tmps[145]?.getD undef = _ := hJ 1 rfl
          clear hO hJ
          exact wp_move_of e145 fun h => hK _ _ (Below.refl _ _) h⟩,
        fun a u hB hO hJ => .inl ⟨(wanted_of rfl (hJ 2 rfl)), fun K Q hK => by
          have e19 : a.tmps[19]?.getD undef = .pointer (some ⟨u8.heap.size, 0, none⟩) := hO 19 rfl
          clear hO hJ
          obtain ⟨hc, hf⟩ := bcell hB
          go_simp
          exact hK _ _ (Below.refl _ _) rfl⟩,
        fun a u hB hO hJ => .inl ⟨(wanted_of rfl (hJ 2 rfl)), fun K Q hK => by
          have e147 : a.tmps[147]?.getD undef = _ := hJ 3 rfl
          clear hO hJ
          go_simp
          refine (right_true _ _ _ _ _ HR.out).mono ?_
          rintro e u0 ⟨rfl, hb⟩
          exact hK _ _ hb rfl⟩,
        fun a u hB hO hJ => .inl ⟨rfl, fun K Q hK => by
          have e146 : a.tmps[146]?.getD undef = _ := hJ 2 rfl
          have e148 : a.tmps[148]?.getD undef = _ := hJ 4 rfl
          clear hO hJ
          go_simp
          try go_bits
          exact hK _ _ (Below.refl _ _) rfl⟩,
        fun a u hB hO hJ => .inl ⟨rfl, fun K Q hK => by
          have e149 : a.tmps[149]?.getD undef = _ := hJ 5 rfl
          clear hO hJ
          exact wp_move_of e149 fun h => hK _ _ (Below.refl _ _) h⟩,
        fun a u hB hO hJ => .inl ⟨(wanted_of rfl (hJ 6 rfl)), fun K Q hK => by
          have e19 : a.tmps[19]?.getD undef = .pointer (some ⟨u8.heap.size, 0, none⟩) := hO 19 rfl
          clear hO hJ
          go_simp
          try go_bits
          exact hK _ _ (Below.refl _ _) rfl⟩,
        fun a u hB hO hJ => .inl ⟨(wanted_of rfl (hJ 6 rfl)), fun K Q hK => by
          have e151 : a.tmps[151]?.getD undef = _ := hJ 7 rfl
          clear hO hJ
          obtain ⟨hc, hf⟩ := bcell hB
          go_simp
          exact hK _ _ (Below.refl _ _) rfl⟩,
        fun a u hB hO hJ => .inl ⟨(wanted_of rfl (hJ 6 rfl)), fun K Q hK => by
          have e2 : a.tmps[2]?.getD undef = .slice ad l.length cap := hO 2 rfl
          clear hO hJ
          exact wp_move_of e2 fun h => hK _ _ (Below.refl _ _) h⟩,
        fun a u hB hO hJ => .inl ⟨(wanted_of rfl (hJ 6 rfl)), fun K Q hK => by
          have e153 : a.tmps[153]?.getD undef = _ := hJ 9 rfl
          clear hO hJ
          go_simp
          try go_bits
          exact hK _ _ (Below.refl _ _) rfl⟩,
        fun a u hB hO hJ => .inl ⟨(wanted_of rfl (hJ 6 rfl)), fun K Q hK => by
          have e152 : a.tmps[152]?.getD undef = _ := hJ 8 rfl
          have e154 : a.tmps[154]?.getD undef = _ := hJ 10 rfl
          clear hO hJ
          go_simp
          try go_bits
          exact hK _ _ (Below.refl _ _) rfl⟩,
        fun a u hB hO hJ => .inl ⟨rfl, fun K Q hK => by
          have e150 : a.tmps[150]?.getD undef = _ := hJ 6 rfl
          have e155 : a.tmps[155]?.getD undef = _ := hJ 11 rfl
          clear hO hJ
          go_simp
          try go_bits
          exact hK _ _ (Below.refl _ _) rfl⟩,
        fun a u hB hO hJ => .inl ⟨rfl, fun K Q hK => by
          have e156 : a.tmps[156]?.getD undef = _ := hJ 12 rfl
          clear hO hJ
          exact wp_move_of e156 fun h => hK _ _ (Below.refl _ _) h⟩,
        fun a u hB hO hJ => .inl ⟨(wanted_of rfl (hJ 13 rfl)), fun K Q hK => by
          have e21 : a.tmps[21]?.getD undef = v9 := hO 21 rfl
          clear hO hJ
          exact wp_move_of e21 fun h => hK _ _ (Below.refl _ _) h⟩,
        fun a u hB hO hJ => .inl ⟨(wanted_of rfl (hJ 13 rfl)), fun K Q hK => by
          have e158 : a.tmps[158]?.getD undef = _ := hJ 14 rfl
          clear hO hJ
          exact wp_conv_of e158 (HV.out.below hB) (hK _ _ (Below.refl _ _) rfl)⟩,
        fun a u hB hO hJ => .inl ⟨(wanted_of rfl (hJ 13 rfl)), fun K Q hK => by
          have e2 : a.tmps[2]?.getD undef = .slice ad l.length cap := hO 2 rfl
          clear hO hJ
          exact wp_move_of e2 fun h => hK _ _ (Below.refl _ _) h⟩,
        fun a u hB hO hJ => .inl ⟨(wanted_of rfl (hJ 13 rfl)), fun K Q hK => by
          have e160 : a.tmps[160]?.getD undef = _ := hJ 16 rfl
          clear hO hJ
          have i0 := HB9.out.below hB
          have i1 := i0.slice (Nat.zero_le 4) HL.out
          rw [List.drop_zero, ← HW.out] at i1
          exact wp_slice_hi (hi := 4) (by rw [evalTmp, e160]) i0 rfl rfl HL.out (hK _ _ (Below.refl _ _) i1)⟩,
        fun a u hB hO hJ => .inl ⟨(wanted_of rfl (hJ 13 rfl)), fun K Q hK => by
          have e161 : (PB (wrL (rdP l) (rdN l) (rdT l) (rdS l))) (a.tmps[161]?.getD undef) u := hJ 17 rfl
          clear hO hJ
          exact wp_conv_of rfl e161 (hK _ _ (Below.refl _ _) rfl)⟩,
        fun a u hB hO hJ => .inl ⟨(wanted_of rfl (hJ 13 rfl)), fun K Q hK => by
          have e159 : a.tmps[159]?.getD undef = _ := hJ 15 rfl
          have e162 : a.tmps[162]?.getD undef = _ := hJ 18 rfl
          clear hO hJ
          go_simp
          try go_bits
          exact hK _ _ (Below.refl _ _) rfl⟩,
        fun a u hB hO hJ => .inl ⟨rfl, fun K Q hK => by
          have e157 : a.tmps[157]?.getD undef = _ := hJ 13 rfl
          have e163 : a.tmps[163]?.getD undef = _ := hJ 19 rfl
          clear hO hJ
          go_simp
          try go_bits
          exact hK _ _ (Below.refl _ _) rfl⟩,
        trivial⟩ ?fin22
      case fin22 =>
        intro uA bA _ _
        simp only [Act.put, List.setIfInBounds_toArray, List.set_cons_zero, List.set_cons_succ, List.drop_succ_cons, List.drop_zero, List.take_succ_cons, List.take_zero, Laid]
        have BA := B9.trans (bA.mono (by omega))
        clear bA B9
        go_wp2_with fail
        go_ret
        exact ⟨rfl, BA⟩
    · have hne : (rdE l != 0) = true := by simpa using he
      rw [rdV_zero he]
      clear he
      go_wp2_with fail
      go_ret
      exact ⟨rfl, B8.alloc (by omega) _⟩

set_option maxRecDepth 100000 in
set_option maxHeartbeats 1000000 in
theorem commonBack_big (p : Bool) (n t s : Int) (p2 : Bool) (n2 t2 s2 : Int) (ad : Option Addr) (cap k : Nat) (less : Int) (w : World) (hl : 70000 < k) :
    Calls Try.prog 4 #[.agg #[.bool p, .int .i64 n, .int .i64 t, .int .i64 s], .agg #[.bool p2, .int .i64 n2, .int .i64 t2, .int .i64 s2], .slice ad k cap, .int .u16 less] w fun e w' => e = .returned (.bool true) ∧ Below w.heap.size w w' := by
  have g : (70000 : Int) < k := by omega
  go_enter Try.func4, Try.ntmps4
  go_wp2_with fail
  refine (awake10 _).mono ?_
  rintro e u1 ⟨rfl, b1⟩
  have B1 := (((Below.refl w.heap.size w).alloc (Nat.le_refl _) _).alloc (by simp) _).trans (b1.mono (by simp; omega))
  clear b1
  go_wp2_with fail
  go_ret
  exact ⟨rfl, B1⟩

theorem commonBack_any (p : Bool) (n t s : Int) (p2 : Bool) (n2 t2 s2 : Int) (v : Value) (l : List UInt8) (less : Int) (w : World) (hb : IsB w v l) (hw : 0 ≤ less ∧ less ≤ 65535) :
    Calls Try.prog 4 #[.agg #[.bool p, .int .i64 n, .int .i64 t, .int .i64 s], .agg #[.bool p2, .int .i64 n2, .int .i64 t2, .int .i64 s2], v, .int .u16 less] w fun e w' => e = .returned (.bool true) ∧ Below w.heap.size w w' := by
  obtain ⟨ad, cap, rfl, _⟩ := hb.len
  by_cases hl : 70000 < l.length
  · exact commonBack_big p n t s p2 n2 t2 s2 ad cap _ less w hl
  · cases h : rightB n t s with
    | true => exact commonBack_y p n t s p2 n2 t2 s2 ad cap l less hw.1 hw.2 w h hb (by omega)
    | false => exact commonBack_n p n t s p2 n2 t2 s2 ad cap l less w h hb (by omega)

end Go.Proofs.Ytellclclpmofcaa
