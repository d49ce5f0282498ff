/-
  The contract of crossbarref10.Read: what common.Read does; conditions: the argument reads as bytes.
-/
import Derived.Test.YtellclclpmofcaaC
namespace Go.Proofs.Ytellclclpmofcaa
open Go.RowKit

set_option maxHeartbeats 400000 in
theorem rread_short (a : Option Addr) (n cap : Nat) (w : World) (hn : n < 4) :
    Calls Try.prog 20 #[.slice a n cap] w fun e w' => e = .returned (.tuple #[.agg #[.bool false, .int .i64 0, .int .i64 0, .int .i64 0], .int .i64 2]) ∧ Below w.heap.size w w' := by
  have g : (n : Int) < 4 := by omega
  go_enter Try.func20, Try.ntmps20
  go_wp2
  exact bodyPost_ret (v := .tuple #[.agg #[.bool false, .int .i64 0, .int .i64 0, .int .i64 0], .int .i64 2]) (by simp [results, Try.results20, go_sem]) rfl ⟨rfl, (Below.refl _ _).alloc (Nat.le_refl _) _⟩

set_option maxRecDepth 100000 in
set_option maxHeartbeats 400000 in
theorem rread_version (b off cap n : Nat) (x0 : UInt8) (w : World) (hn : 4 ≤ n) (hbw : b < w.heap.size)
   (h0 : w.cell? ⟨b, off, none⟩ = some (.int .u8 (x0.toNat : Int))) (hv : (x0.toNat : Int) < 128 ∨ 191 < (x0.toNat : Int)) :
    Calls Try.prog 20 #[.slice (some ⟨b,off,none⟩) n cap] w fun e w' => e = .returned (.tuple #[.agg #[.bool false, .int .i64 0, .int .i64 0, .int .i64 0], .int .i64 3]) ∧ Below w.heap.size w w' := by
  have q0 := x0.toNat_lt
  have g : (4 : Int) ≤ n := by omega
  rcases hv with hv | hv
  · go_enter Try.func20, Try.ntmps20
    go_wp2
    exact bodyPost_ret (v := .tuple #[.agg #[.bool false, .int .i64 0, .int .i64 0, .int .i64 0], .int .i64 3]) (by simp [results, Try.results20, go_sem]) rfl ⟨rfl, (Below.refl _ _).alloc (Nat.le_refl _) _⟩
  · have hv2 : (128 : Int) ≤ x0.toNat := by omega
    go_enter Try.func20, Try.ntmps20
    go_wp2
    exact bodyPost_ret (v := .tuple #[.agg #[.bool false, .int .i64 0, .int .i64 0, .int .i64 0], .int .i64 3]) (by simp [results, Try.results20, go_sem]) rfl ⟨rfl, (Below.refl _ _).alloc (Nat.le_refl _) _⟩

set_option maxHeartbeats 1000000 in
theorem rread_go (b off cap n : Nat) (x0 x1 x2 x3 : UInt8) (w : World) (hn : 4 ≤ n) (hbw : b < w.heap.size)
   (h0 : w.cell? ⟨b, off, none⟩ = some (.int .u8 (x0.toNat : Int)))
   (h1 : w.cell? ⟨b, off+1, none⟩ = some (.int .u8 (x1.toNat : Int)))
   (h2 : w.cell? ⟨b, off+2, none⟩ = some (.int .u8 (x2.toNat : Int)))
   (h3 : w.cell? ⟨b, off+3, none⟩ = some (.int .u8 (x3.toNat : Int))) (hv1 : (128 : Int) ≤ x0.toNat) (hv2 : (x0.toNat : Int) ≤ 191)
   (v : Value)
   (hbig : n < 4 * (x2.toNat * 256 + x3.toNat + 1) → v = .tuple #[.agg #[.bool false, .int .i64 0, .int .i64 0, .int .i64 0], .int .i64 4])
   (hok : 4 * (x2.toNat * 256 + x3.toNat + 1) ≤ n → v = .tuple #[.agg #[.bool (decide (160 ≤ (x0.toNat : Int))), .int .i64 ((x0.toNat : Int) % 32), .int .i64 x1.toNat, .int .i64 (4 * (x2.toNat * 256 + x3.toNat + 1))], .int .i64 0]) :
    Calls Try.prog 20 #[.slice (some ⟨b,off,none⟩) n cap] w fun e w' => e = .returned v ∧ Below w.heap.size w w' := by
  have q0 := x0.toNat_lt
  have q1 := x1.toNat_lt
  have q2 := x2.toNat_lt
  have q3 := x3.toNat_lt
  have HB := hide hbig
  have HO := hide hok
  clear hbig hok
  have g : (4 : Int) ≤ n := by omega
  have g0 : 0 < n := by omega
  have g1 : (1 : Int) < n := by omega
  have g2 : (2 : Int) < n := by omega
  have g3 : (3 : Int) < n := by omega
  go_enter Try.func20, Try.ntmps20
  go_wp2
  refine wp_region_mono 13 52 [.val _, .val _, .val _, .val _, .val _, .val _, .val _, .val _, .val _, .val _, .val _, .val _, .val _] (by kernel_rfl) (by kernel_rfl) rfl trivial rfl ⟨
    fun a u hB hO hJ => .inl ⟨rfl, fun K Q hK => by
      have e0 : a.tmps[0]?.getD undef = .slice (some ⟨b,off,none⟩) n cap := hO 0 rfl
      clear hO hJ
      exact wp_move_of e0 fun h => hK _ _ (Below.refl _ _) h⟩,
    fun a u hB hO hJ => .inl ⟨rfl, fun K Q hK => by
      have e20 : a.tmps[20]?.getD undef = _ := hJ 0 rfl
      clear hO hJ
      go_simp
      try go_bits
      exact hK _ _ (Below.refl _ _) rfl⟩,
    fun a u hB hO hJ => .inl ⟨rfl, fun K Q hK => by
      have e21 : a.tmps[21]?.getD undef = _ := hJ 1 rfl
      clear hO hJ
      obtain ⟨hc, hf⟩ := bcell hB
      go_simp
      exact hK _ _ (Below.refl _ _) rfl⟩,
    fun a u hB hO hJ => .inl ⟨rfl, fun K Q hK => by
      have e22 : a.tmps[22]?.getD undef = _ := hJ 2 rfl
      clear hO hJ
      go_simp
      try go_bits
      exact hK _ _ (Below.refl _ _) rfl⟩,
    fun a u hB hO hJ => .inl ⟨rfl, fun K Q hK => by
      have e23 : a.tmps[23]?.getD undef = _ := hJ 3 rfl
      clear hO hJ
      go_simp
      try go_bits
      exact hK _ _ (Below.refl _ _) rfl⟩,
    fun a u hB hO hJ => .inl ⟨rfl, fun K Q hK => by
      have e0 : a.tmps[0]?.getD undef = .slice (some ⟨b,off,none⟩) n cap := hO 0 rfl
      clear hO hJ
      exact wp_move_of e0 fun h => hK _ _ (Below.refl _ _) h⟩,
    fun a u hB hO hJ => .inl ⟨rfl, fun K Q hK => by
      have e25 : a.tmps[25]?.getD undef = _ := hJ 5 rfl
      clear hO hJ
      go_simp
      try go_bits
      exact hK _ _ (Below.refl _ _) rfl⟩,
    fun a u hB hO hJ => .inl ⟨rfl, fun K Q hK => by
      have e26 : a.tmps[26]?.getD undef = _ := hJ 6 rfl
      clear hO hJ
      obtain ⟨hc, hf⟩ := bcell hB
      go_simp
      exact hK _ _ (Below.refl _ _) rfl⟩,
    fun a u hB hO hJ => .inl ⟨rfl, fun K Q hK => by
      have e27 : a.tmps[27]?.getD undef = _ := hJ 7 rfl
      clear hO hJ
      go_simp
      try go_bits
      exact hK _ _ (Below.refl _ _) rfl⟩,
    fun a u hB hO hJ => .inl ⟨rfl, fun K Q hK => by
      have e24 : a.tmps[24]?.getD undef = _ := hJ 4 rfl
      have e28 : a.tmps[28]?.getD undef = _ := hJ 8 rfl
      clear hO hJ
      go_simp
      try go_bits
      exact hK _ _ (Below.refl _ _) rfl⟩,
    fun a u hB hO hJ => .inl ⟨rfl, fun K Q hK => by
      have e29 : a.tmps[29]?.getD undef = _ := hJ 9 rfl
      clear hO hJ
      go_simp
      try go_bits
      exact hK _ _ (Below.refl _ _) rfl⟩,
    fun a u hB hO hJ => .inl ⟨rfl, fun K Q hK => by
      have e30 : a.tmps[30]?.getD undef = _ := hJ 10 rfl
      clear hO hJ
      go_simp
      try go_bits
      exact hK _ _ (Below.refl _ _) rfl⟩,
    fun a u hB hO hJ => .inl ⟨rfl, fun K Q hK => by
      have e31 : a.tmps[31]?.getD undef = _ := hJ 11 rfl
      clear hO hJ
      exact wp_assign_of e31 fun h => hK _ _ (Below.refl _ _) h⟩,
    trivial⟩ ?fin5
  case fin5 =>
    intro u hB
    simp only [Act.put, List.setIfInBounds_toArray, List.set_cons_zero, List.set_cons_succ, List.drop_succ_cons, List.drop_zero, List.take_succ_cons, List.take_zero, Laid]
    obtain ⟨hc0, hf0⟩ := bcell hB
    have hB2 : Below w.heap.size w u := ((Below.refl _ _).alloc (Nat.le_refl _) _).trans (hB.mono (by simp))
    have hsz := hB.size
    simp only [World.size_alloc] at hsz
    have hbu : b < u.heap.size := by omega
    have hru : w.heap.size < u.heap.size := by omega
    clear hB hsz
    by_cases hs : (n : Int) < 4 * (256 * (x2.toNat : Int) + x3.toNat + 1)
    · go_wp2
      obtain rfl := HB.out (by omega)
      exact bodyPost_ret (v := .tuple #[.agg #[.bool false, .int .i64 0, .int .i64 0, .int .i64 0], .int .i64 4]) (by simp [results, Try.results20, go_sem, hc0]) rfl ⟨rfl, (((hB2.setCell (by simp) _).setCell (by simp) _).setCell (by simp) _).setCell (by simp) _⟩
    · have hs' : 4 * (256 * (x2.toNat : Int) + x3.toNat + 1) ≤ n := by omega
      obtain rfl := HO.out (by omega)
      clear HB HO hs
      go_wp2
      refine wp_region_mono 15 52 [.val _, .val _, .val _, .val _, .val _, .val _, .val _, .val _, .val _, .val _, .val _, .val _, .val _, .val _, .val _] (by kernel_rfl) (by kernel_rfl) rfl trivial rfl ⟨
        fun a u hB hO hJ => .inl ⟨rfl, fun K Q hK => by
          have e0 : a.tmps[0]?.getD undef = .slice (some ⟨b,off,none⟩) n cap := hO 0 rfl
          clear hO hJ
          exact wp_move_of e0 fun h => hK _ _ (Below.refl _ _) h⟩,
        fun a u hB hO hJ => .inl ⟨rfl, fun K Q hK => by
          have e37 : a.tmps[37]?.getD undef = _ := hJ 0 rfl
          clear hO hJ
          go_simp
          try go_bits
          exact hK _ _ (Below.refl _ _) rfl⟩,
        fun a u hB hO hJ => .inl ⟨rfl, fun K Q hK => by
          have e38 : a.tmps[38]?.getD undef = _ := hJ 1 rfl
          clear hO hJ
          obtain ⟨hc, hf⟩ := bcell hB
          go_simp
          exact hK _ _ (Below.refl _ _) rfl⟩,
        fun a u hB hO hJ => .inl ⟨rfl, fun K Q hK => by
          have e39 : a.tmps[39]?.getD undef = _ := hJ 2 rfl
          clear hO hJ
          go_simp
          try go_bits
          exact hK _ _ (Below.refl _ _) rfl⟩,
        fun a u hB hO hJ => .inl ⟨rfl, fun K Q hK => by
          have e0 : a.tmps[0]?.getD undef = .slice (some ⟨b,off,none⟩) n cap := hO 0 rfl
          clear hO hJ
          exact wp_move_of e0 fun h => hK _ _ (Below.refl _ _) h⟩,
        fun a u hB hO hJ => .inl ⟨rfl, fun K Q hK => by
          have e41 : a.tmps[41]?.getD undef = _ := hJ 4 rfl
          clear hO hJ
          go_simp
          try go_bits
          exact hK _ _ (Below.refl _ _) rfl⟩,
        fun a u hB hO hJ => .inl ⟨rfl, fun K Q hK => by
          have e42 : a.tmps[42]?.getD undef = _ := hJ 5 rfl
          clear hO hJ
          obtain ⟨hc, hf⟩ := bcell hB
          go_simp
          exact hK _ _ (Below.refl _ _) rfl⟩,
        fun a u hB hO hJ => .inl ⟨rfl, fun K Q hK => by
          have e43 : a.tmps[43]?.getD undef = _ := hJ 6 rfl
          clear hO hJ
          go_simp
          try go_bits
          exact hK _ _ (Below.refl _ _) rfl⟩,
        fun a u hB hO hJ => .inl ⟨rfl, fun K Q hK => by
          have e44 : a.tmps[44]?.getD undef = _ := hJ 7 rfl
          clear hO hJ
          go_simp
          try go_bits
          exact hK _ _ (Below.refl _ _) rfl⟩,
        fun a u hB hO hJ => .inl ⟨rfl, fun K Q hK => by
          have e0 : a.tmps[0]?.getD undef = .slice (some ⟨b,off,none⟩) n cap := hO 0 rfl
          clear hO hJ
          exact wp_move_of e0 fun h => hK _ _ (Below.refl _ _) h⟩,
        fun a u hB hO hJ => .inl ⟨rfl, fun K Q hK => by
          have e46 : a.tmps[46]?.getD undef = _ := hJ 9 rfl
          clear hO hJ
          go_simp
          try go_bits
          exact hK _ _ (Below.refl _ _) rfl⟩,
        fun a u hB hO hJ => .inl ⟨rfl, fun K Q hK => by
          have e47 : a.tmps[47]?.getD undef = _ := hJ 10 rfl
          clear hO hJ
          obtain ⟨hc, hf⟩ := bcell hB
          go_simp
          exact hK _ _ (Below.refl _ _) rfl⟩,
        fun a u hB hO hJ => .inl ⟨rfl, fun K Q hK => by
          have e48 : a.tmps[48]?.getD undef = _ := hJ 11 rfl
          clear hO hJ
          go_simp
          try go_bits
          exact hK _ _ (Below.refl _ _) rfl⟩,
        fun a u hB hO hJ => .inl ⟨rfl, fun K Q hK => by
          have e4 : a.tmps[4]?.getD undef = .int .i64 (4 * (256 * (x2.toNat : Int) + x3.toNat + 1)) := hO 4 rfl
          clear hO hJ
          exact wp_move_of e4 fun h => hK _ _ (Below.refl _ _) h⟩,
        fun a u hB hO hJ => .inl ⟨rfl, fun K Q hK => by
          have e40 : a.tmps[40]?.getD undef = _ := hJ 3 rfl
          have e45 : a.tmps[45]?.getD undef = _ := hJ 8 rfl
          have e49 : a.tmps[49]?.getD undef = _ := hJ 12 rfl
          have e50 : a.tmps[50]?.getD undef = _ := hJ 13 rfl
          clear hO hJ
          go_simp
          try go_bits
          exact hK _ _ (Below.refl _ _) rfl⟩,
        trivial⟩ ?fin8
      case fin8 =>
        intro u2 hB3
        simp only [Act.put, List.setIfInBounds_toArray, List.set_cons_zero, List.set_cons_succ, List.drop_succ_cons, List.drop_zero, List.take_succ_cons, List.take_zero, Laid]
        obtain ⟨hc3, hf3⟩ := bcell hB3
        have hB4 : Below w.heap.size w u2 := hB2.trans (hB3.mono hB2.size)
        go_wp2
        refine bodyPost_ret (v := .tuple #[.agg #[.bool (decide (160 ≤ (x0.toNat : Int))), .int .i64 ((x0.toNat : Int) % 32), .int .i64 x1.toNat, .int .i64 (4 * (256 * (x2.toNat : Int) + x3.toNat + 1))], .int .i64 0]) (by simp [results, Try.results20, go_sem, hc0, hc3, hru]) rfl ⟨?_, (((hB4.setCell (by simp) _).setCell (by simp) _).setCell (by simp) _).setCell (by simp) _⟩
        rw [show (4 * (256 * (x2.toNat : Int) + x3.toNat + 1)) = 4 * (x2.toNat * 256 + x3.toNat + 1) by omega]

theorem rread_any (v : Value) (l : List UInt8) (w : World) (h : IsB w v l) : Calls Try.prog 20 #[v] w (RetRd w l) := by
  match l, h with
  | [], h => obtain ⟨a, cap, rfl, _, _⟩ := h.len; exact (rread_short _ _ _ _ (by simp)).mono fun e w' hh => by simpa [RetRd, rdV, rdP, rdN, rdT, rdS, rdE] using hh
  | [_], h => obtain ⟨a, cap, rfl, _, _⟩ := h.len; exact (rread_short _ _ _ _ (by simp)).mono fun e w' hh => by simpa [RetRd, rdV, rdP, rdN, rdT, rdS, rdE] using hh
  | [_, _], h => obtain ⟨a, cap, rfl, _, _⟩ := h.len; exact (rread_short _ _ _ _ (by simp)).mono fun e w' hh => by simpa [RetRd, rdV, rdP, rdN, rdT, rdS, rdE] using hh
  | [_, _, _], h => obtain ⟨a, cap, rfl, _, _⟩ := h.len; exact (rread_short _ _ _ _ (by simp)).mono fun e w' hh => by simpa [RetRd, rdV, rdP, rdN, rdT, rdS, rdE] using hh
  | x0 :: x1 :: x2 :: x3 :: r, h =>
    obtain ⟨b, off, cap, n, rfl, hn, hb, h0, h1, h2, h3⟩ := h.shape
    by_cases hv : x0.toNat / 64 = 2
    · refine rread_go b off cap n x0 x1 x2 x3 w (by omega) hb h0 h1 h2 h3 (by omega) (by omega) _ (fun hs => ?_) (fun hs => ?_)
      · have e : rdE (x0 :: x1 :: x2 :: x3 :: r) = 4 := by simp [rdE, hv]; omega
        simp [rdV, rdP, rdN, rdT, rdS, e]
      · have e : rdE (x0 :: x1 :: x2 :: x3 :: r) = 0 := by simp [rdE, hv]; omega
        have e1 : decide (160 ≤ x0.toNat) = decide (160 ≤ (x0.toNat : Int)) := by
          rw [decide_eq_decide]
          omega
        simp only [rdV, rdP, rdN, rdT, rdS, e, if_true, e1]
        simp
    · refine (rread_version b off cap n x0 w (by omega) hb h0 (by omega)).mono fun e w' hh => ?_
      have e : rdE (x0 :: x1 :: x2 :: x3 :: r) = 3 := by simp [rdE, hv]
      simpa [RetRd, rdV, rdP, rdN, rdT, rdS, e] using hh

end Go.Proofs.Ytellclclpmofcaa
