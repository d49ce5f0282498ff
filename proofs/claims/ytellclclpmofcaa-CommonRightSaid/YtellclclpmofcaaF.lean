/-
  The walk of crossbarlaw10.CommonRight: whatever the input, it returns true and writes nothing that was there; conditions: the arguments read as data.
-/
import Derived.Test.YtellclclpmofcaaE
import Derived.Test.YtellclclpmofcaaN
namespace Go.Proofs.Ytellclclpmofcaa
open Go.RowKit

set_option maxRecDepth 100000 in
set_option maxHeartbeats 1000000 in
theorem commonRight_yes (p : Bool) (n t s : Int) (a : Option Addr) (cap : Nat) (l : List UInt8) (w : World) (h : rightB n t s = true) (hb0 : IsB w (.slice a l.length cap) l) (hl : l.length ≤ 70000) :
    Calls Try.prog 3 #[.agg #[.bool p, .int .i64 n, .int .i64 t, .int .i64 s], .slice a l.length cap] w fun e w' => e = .returned (.bool true) ∧ Below w.heap.size w w' := by
  have H := hide h
  have HB := hide hb0
  have g : (l.length : Int) ≤ 70000 := by omega
  clear h hb0 hl
  go_enter Try.func3, Try.ntmps3
  go_wp2_with fail
  refine (awake10 _).mono ?_
  rintro e u1 ⟨rfl, b1⟩
  obtain ⟨hc1, hf1⟩ := bcell b1
  have z1 := b1.size
  simp only [World.size_alloc] at z1
  have B1 := ((Below.refl w.heap.size w).alloc (Nat.le_refl _) _).trans (b1.mono (by simp))
  go_wp2_with fail
  refine (rright_any _ _ _ _ _).mono ?_
  rintro e u2 ⟨rfl, b2⟩
  rw [H.out]
  obtain ⟨hc2, hf2⟩ := bcell b2
  have z2 := b2.size
  have l1 : w.heap.size < u1.heap.size := by omega
  have B2 := B1.trans (b2.mono (by omega))
  go_wp2_with fail
  refine (write_yes _ _ _ _ _ H.out).mono ?_
  rintro e u3 ⟨v1, rfl, o3, b3⟩
  obtain ⟨hc3, hf3⟩ := bcell b3
  have z3 := b3.size
  have l2 : w.heap.size < u2.heap.size := by omega
  have l3 : w.heap.size < u3.heap.size := by omega
  have B3 := B2.trans (b3.mono (by omega))
  have HI := hide o3.isB
  clear o3
  go_wp2_with fail
  refine wp_region_mono 10 66 [.val _, .val _, .val _, .val _, .val _, .val _, .pred (PB (wrL p n t s)), .val _, .val _, .val _] (by kernel_rfl) (by kernel_rfl) rfl ⟨PB.stable _, trivial⟩ rfl ⟨
    fun a u hB hO hJ => .inl ⟨rfl, fun K Q hK => by
      have e7 : a.tmps[7]?.getD undef = .int .i64 0 := hO 7 rfl
      clear hO hJ
      exact wp_move_of e7 fun h => hK _ _ (Below.refl _ _) h⟩,
    fun a u hB hO hJ => .inl ⟨rfl, fun K Q hK => by
      have e25 : a.tmps[25]?.getD undef = _ := hJ 0 rfl
      clear hO hJ
      go_simp
      try go_bits
      exact hK _ _ (Below.refl _ _) rfl⟩,
    fun a u hB hO hJ => .inl ⟨rfl, fun K Q hK => by
      have e26 : a.tmps[26]?.getD undef = _ := hJ 1 rfl
      clear hO hJ
      exact wp_move_of e26 fun h => hK _ _ (Below.refl _ _) h⟩,
    fun a u hB hO hJ => .inl ⟨(wanted_of rfl (hJ 2 rfl)), fun K Q hK => by
      have e6 : a.tmps[6]?.getD undef = v1 := hO 6 rfl
      clear hO hJ
      exact wp_move_of e6 fun h => hK _ _ (Below.refl _ _) h⟩,
    fun a u hB hO hJ => .inl ⟨(wanted_of rfl (hJ 2 rfl)), fun K Q hK => by
      have e28 : a.tmps[28]?.getD undef = _ := hJ 3 rfl
      clear hO hJ
      exact wp_conv_of e28 (HI.out.below hB) (hK _ _ (Below.refl _ _) rfl)⟩,
    fun a u hB hO hJ => .inl ⟨(wanted_of rfl (hJ 2 rfl)), fun K Q hK => by
      have e2 : a.tmps[2]?.getD undef = .pointer (some ⟨w.heap.size, 0, none⟩) := hO 2 rfl
      clear hO hJ
      obtain ⟨hc, hf⟩ := bcell hB
      go_simp
      exact hK _ _ (Below.refl _ _) rfl⟩,
    fun a u hB hO hJ => .inl ⟨(wanted_of rfl (hJ 2 rfl)), fun K Q hK => by
      have e30 : a.tmps[30]?.getD undef = _ := hJ 5 rfl
      clear hO hJ
      go_simp
      refine (rwrite_yes _ _ _ _ _ H.out).mono ?_
      rintro e w1 ⟨v2, rfl, hown, hb⟩
      exact hK _ _ hb hown.isB⟩,
    fun a u hB hO hJ => .inl ⟨(wanted_of rfl (hJ 2 rfl)), fun K Q hK => by
      have e31 : (PB (wrL p n t s)) (a.tmps[31]?.getD undef) u := hJ 6 rfl
      clear hO hJ
      exact wp_conv_of rfl e31 (hK _ _ (Below.refl _ _) rfl)⟩,
    fun a u hB hO hJ => .inl ⟨(wanted_of rfl (hJ 2 rfl)), fun K Q hK => by
      have e29 : a.tmps[29]?.getD undef = _ := hJ 4 rfl
      have e32 : a.tmps[32]?.getD undef = _ := hJ 7 rfl
      clear hO hJ
      go_simp
      try go_bits
      exact hK _ _ (Below.refl _ _) rfl⟩,
    fun a u hB hO hJ => .inl ⟨rfl, fun K Q hK => by
      have e27 : a.tmps[27]?.getD undef = _ := hJ 2 rfl
      have e33 : a.tmps[33]?.getD undef = _ := hJ 8 rfl
      clear hO hJ
      go_simp
      try go_bits
      exact hK _ _ (Below.refl _ _) rfl⟩,
    trivial⟩ ?fin8
  case fin8 =>
    intro u4 b4 v2 _
    simp only [Act.put, List.setIfInBounds_toArray, List.set_cons_zero, List.set_cons_succ, List.drop_succ_cons, List.drop_zero, List.take_succ_cons, List.take_zero, Laid]
    obtain ⟨hc4, hf4⟩ := bcell b4
    have z4 := b4.size
    have l4 : w.heap.size < u4.heap.size := by omega
    have B4 := B3.trans (b4.mono (by omega))
    clear b1 b2 b3 b4 B1 B2 B3 HI
    go_wp2_with fail
    refine (read_any _ _ _ (HB.out.below B4)).mono ?_
    rintro e u5 ⟨rfl, b5⟩
    obtain ⟨hc5, hf5⟩ := bcell b5
    have z5 := b5.size
    have l5 : w.heap.size < u5.heap.size := by omega
    have B5 := B4.trans (b5.mono (by omega))
    unfold rdV
    go_wp2_with fail
    refine (rread_any _ _ _ (HB.out.below (B5.alloc (by omega) _))).mono ?_
    rintro e u6 ⟨rfl, b6⟩
    obtain ⟨hc6, hf6⟩ := bcell b6
    have z6 := b6.size
    simp only [World.size_alloc] at z6
    have l6 : w.heap.size < u6.heap.size := by omega
    have l7 : u5.heap.size < u6.heap.size := by omega
    have B6 := (B5.alloc (by omega) (.cells #[.bool (rdP l), .int .i64 (rdN l), .int .i64 (rdT l), .int .i64 (rdS l)] 23)).trans (b6.mono (by simp; omega))
    unfold rdV
    go_wp2_with fail
    refine (right_true _ _ _ _ _ H.out).mono ?_
    rintro e u7 ⟨rfl, b7⟩
    obtain ⟨hc7, hf7⟩ := bcell b7
    have B7 := (B6.alloc (by omega) (.cells #[.bool (rdP l), .int .i64 (rdN l), .int .i64 (rdT l), .int .i64 (rdS l)] 23)).trans (b7.mono (by simp; omega))
    go_wp2_with fail
    go_ret
    exact ⟨rfl, B7⟩

set_option maxRecDepth 100000 in
set_option maxHeartbeats 1000000 in
theorem commonRight_no (p : Bool) (n t s : Int) (a : Option Addr) (cap : Nat) (l : List UInt8) (w : World) (h : rightB n t s = false) (hb0 : IsB w (.slice a l.length cap) l) (hl : l.length ≤ 70000) :
    Calls Try.prog 3 #[.agg #[.bool p, .int .i64 n, .int .i64 t, .int .i64 s], .slice a l.length cap] w fun e w' => e = .returned (.bool true) ∧ Below w.heap.size w w' := by
  have H := hide h
  have HB := hide hb0
  have g : (l.length : Int) ≤ 70000 := by omega
  clear h hb0 hl
  go_enter Try.func3, Try.ntmps3
  go_wp2_with fail
  refine (awake10 _).mono ?_
  rintro e u1 ⟨rfl, b1⟩
  obtain ⟨hc1, hf1⟩ := bcell b1
  have z1 := b1.size
  simp only [World.size_alloc] at z1
  have B1 := ((Below.refl w.heap.size w).alloc (Nat.le_refl _) _).trans (b1.mono (by simp))
  go_wp2_with fail
  refine (rright_any _ _ _ _ _).mono ?_
  rintro e u2 ⟨rfl, b2⟩
  rw [H.out]
  obtain ⟨hc2, hf2⟩ := bcell b2
  have z2 := b2.size
  have l1 : w.heap.size < u1.heap.size := by omega
  have B2 := B1.trans (b2.mono (by omega))
  go_wp2_with fail
  refine (write_no _ _ _ _ _ H.out).mono ?_
  rintro e u4 ⟨rfl, b4⟩
  obtain ⟨hc3, hf3⟩ := bcell b4
  have z3 := b4.size
  have l2 : w.heap.size < u2.heap.size := by omega
  have l4 : w.heap.size < u4.heap.size := by omega
  have B4 := B2.trans (b4.mono (by omega))
  clear b1 b2 b4 B1 B2
  go_wp2_with fail
  refine (read_any _ _ _ (HB.out.below B4)).mono ?_
  rintro e u5 ⟨rfl, b5⟩
  obtain ⟨hc5, hf5⟩ := bcell b5
  have z5 := b5.size
  have l5 : w.heap.size < u5.heap.size := by omega
  have B5 := B4.trans (b5.mono (by omega))
  unfold rdV
  go_wp2_with fail
  refine (rread_any _ _ _ (HB.out.below (B5.alloc (by omega) _))).mono ?_
  rintro e u6 ⟨rfl, b6⟩
  obtain ⟨hc6, hf6⟩ := bcell b6
  have z6 := b6.size
  simp only [World.size_alloc] at z6
  have l6 : w.heap.size < u6.heap.size := by omega
  have l7 : u5.heap.size < u6.heap.size := by omega
  have B6 := (B5.alloc (by omega) (.cells #[.bool (rdP l), .int .i64 (rdN l), .int .i64 (rdT l), .int .i64 (rdS l)] 23)).trans (b6.mono (by simp; omega))
  unfold rdV
  go_wp2_with fail
  refine (right_false _ _ _ _ _ H.out).mono ?_
  rintro e u7 ⟨rfl, b7⟩
  obtain ⟨hc7, hf7⟩ := bcell b7
  have B7 := (B6.alloc (by omega) (.cells #[.bool (rdP l), .int .i64 (rdN l), .int .i64 (rdT l), .int .i64 (rdS l)] 23)).trans (b7.mono (by simp; omega))
  go_wp2_with fail
  go_ret
  exact ⟨rfl, B7⟩

set_option maxHeartbeats 1000000 in
theorem commonRight_big (p : Bool) (n t s : Int) (a : Option Addr) (cap k : Nat) (w : World) (hl : 70000 < k) :
    Calls Try.prog 3 #[.agg #[.bool p, .int .i64 n, .int .i64 t, .int .i64 s], .slice a k cap] w fun e w' => e = .returned (.bool true) ∧ Below w.heap.size w w' := by
  have g : (70000 : Int) < k := by omega
  go_enter Try.func3, Try.ntmps3
  go_wp2_with fail
  refine (awake10 _).mono ?_
  rintro e u1 ⟨rfl, b1⟩
  have B1 := ((Below.refl w.heap.size w).alloc (Nat.le_refl _) _).trans (b1.mono (by simp))
  clear b1
  go_wp2_with fail
  go_ret
  exact ⟨rfl, B1⟩

theorem commonRight_any (p : Bool) (n t s : Int) (v : Value) (l : List UInt8) (w : World) (hb : IsB w v l) :
    Calls Try.prog 3 #[.agg #[.bool p, .int .i64 n, .int .i64 t, .int .i64 s], v] w fun e w' => e = .returned (.bool true) ∧ Below w.heap.size w w' := by
  obtain ⟨a, cap, rfl, _⟩ := hb.len
  by_cases hl : 70000 < l.length
  · exact commonRight_big p n t s a cap _ w hl
  · cases h : rightB n t s with
    | true => exact commonRight_yes p n t s a cap l w h hb (by omega)
    | false => exact commonRight_no p n t s a cap l w h hb (by omega)

end Go.Proofs.Ytellclclpmofcaa
