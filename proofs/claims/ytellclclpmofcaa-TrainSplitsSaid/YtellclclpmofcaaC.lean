/-
  The contracts of common.Read and of its reference: both read the same header, or the same error number, off any bytes; conditions: the argument reads as bytes.
-/
import Derived.Test.YtellclclpmofcaaB
import Derived.Test.YtellclclpmofcaaM
namespace Go.Proofs.Ytellclclpmofcaa
open Go.RowKit

/-- What a header of bytes is: pad, count, type, size, error. -/
def rdE (l : List UInt8) : Int :=
  match l with
  | x0 :: _ :: x2 :: x3 :: _ => if x0.toNat / 64 ≠ 2 then 3 else if l.length < 4 * (x2.toNat * 256 + x3.toNat + 1) then 4 else 0
  | _ => 2
def rdP (l : List UInt8) : Bool := if rdE l = 0 then (match l with | x0 :: _ => decide (160 ≤ x0.toNat) | _ => false) else false
def rdN (l : List UInt8) : Int := if rdE l = 0 then (match l with | x0 :: _ => ((x0.toNat % 32 : Nat) : Int) | _ => 0) else 0
def rdT (l : List UInt8) : Int := if rdE l = 0 then (match l with | _ :: x1 :: _ => (x1.toNat : Int) | _ => 0) else 0
def rdS (l : List UInt8) : Int := if rdE l = 0 then (match l with | _ :: _ :: x2 :: x3 :: _ => ((4 * (x2.toNat * 256 + x3.toNat + 1) : Nat) : Int) | _ => 0) else 0

/-- The header as a value. -/
def rdV (l : List UInt8) : Value := .agg #[.bool (rdP l), .int .i64 (rdN l), .int .i64 (rdT l), .int .i64 (rdS l)]

/-- The call hands back the header of 'l' and its error number, and writes nothing that was there. -/
def RetRd (w : World) (l : List UInt8) (e : Ending) (w' : World) : Prop :=
  e = .returned (.tuple #[rdV l, .int .i64 (rdE l)]) ∧ Below w.heap.size w w'

set_option maxHeartbeats 400000 in
theorem read_short (a : Option Addr) (n cap : Nat) (w : World) (hn : n < 4) :
    Calls Try.prog 19 #[.slice a n cap] w fun e w' => e = .returned (.tuple #[.agg #[.bool false, .int .i64 0, .int .i64 0, .int .i64 0], .int .i64 2]) ∧ Below w.heap.size w w' := by
  have g : (n : Int) < 4 := by omega
  go_enter Try.func19, Try.ntmps19
  go_wp2
  exact bodyPost_ret (v := .tuple #[.agg #[.bool false, .int .i64 0, .int .i64 0, .int .i64 0], .int .i64 2]) (by simp [results, Try.results19, go_sem]) rfl ⟨rfl, (Below.refl _ _).alloc (Nat.le_refl _) _⟩

set_option maxHeartbeats 400000 in
theorem read_version (b off cap n : Nat) (x0 : UInt8) (w : World) (hn : 4 ≤ n) (hbw : b < w.heap.size)
   (h0 : w.cell? ⟨b, off, none⟩ = some (.int .u8 (x0.toNat : Int))) (hv : ((x0.toNat : Int) / 64 != 2) = true) :
    Calls Try.prog 19 #[.slice (some ⟨b,off,none⟩) n cap] w fun e w' => e = .returned (.tuple #[.agg #[.bool false, .int .i64 0, .int .i64 0, .int .i64 0], .int .i64 3]) ∧ Below w.heap.size w w' := by
  have q0 := x0.toNat_lt
  have g : (4 : Int) ≤ n := by omega
  go_enter Try.func19, Try.ntmps19
  go_wp2
  exact bodyPost_ret (v := .tuple #[.agg #[.bool false, .int .i64 0, .int .i64 0, .int .i64 0], .int .i64 3]) (by simp [results, Try.results19, go_sem]) rfl ⟨rfl, (Below.refl _ _).alloc (Nat.le_refl _) _⟩

theorem and32 (x : UInt8) : (bits BinOp.and IntKind.u8 (x.toNat : Int) 32 != 0) = decide (x.toNat / 32 % 2 = 1) := by
  have h : ∀ j : _root_.Fin 256, (bits BinOp.and IntKind.u8 ((j.val : Nat) : Int) 32 != 0) = decide (j.val / 32 % 2 = 1) := by decide +kernel
  exact h ⟨x.toNat, by have := x.toNat_lt; omega⟩
theorem and31 (x : UInt8) : IntKind.i64.wrap (bits BinOp.and IntKind.u8 (x.toNat : Int) 31) = ((x.toNat % 32 : Nat) : Int) := by
  have h : ∀ j : _root_.Fin 256, IntKind.i64.wrap (bits BinOp.and IntKind.u8 ((j.val : Nat) : Int) 31) = ((j.val % 32 : Nat) : Int) := by decide +kernel
  exact h ⟨x.toNat, by have := x.toNat_lt; omega⟩

set_option maxHeartbeats 1000000 in
theorem read_go (b off cap n : Nat) (x0 x1 x2 x3 : UInt8) (w : World) (hn : 4 ≤ n) (hbw : b < w.heap.size)
   (h0 : w.cell? ⟨b, off, none⟩ = some (.int .u8 (x0.toNat : Int)))
   (h1 : w.cell? ⟨b, off+1, none⟩ = some (.int .u8 (x1.toNat : Int)))
   (h2 : w.cell? ⟨b, off+2, none⟩ = some (.int .u8 (x2.toNat : Int)))
   (h3 : w.cell? ⟨b, off+3, none⟩ = some (.int .u8 (x3.toNat : Int))) (hv : ((x0.toNat : Int) / 64 != 2) = false)
   (v : Value)
   (hbig : n < 4 * (x2.toNat * 256 + x3.toNat + 1) → v = .tuple #[.agg #[.bool false, .int .i64 0, .int .i64 0, .int .i64 0], .int .i64 4])
   (hok : 4 * (x2.toNat * 256 + x3.toNat + 1) ≤ n → v = .tuple #[.agg #[.bool (bits BinOp.and IntKind.u8 (x0.toNat : Int) 32 != 0), .int .i64 ((x0.toNat : Int) % 32), .int .i64 x1.toNat, .int .i64 (4 * (x2.toNat * 256 + x3.toNat + 1))], .int .i64 0]) :
    Calls Try.prog 19 #[.slice (some ⟨b,off,none⟩) n cap] w fun e w' => e = .returned v ∧ Below w.heap.size w w' := by
  have q0 := x0.toNat_lt
  have q1 := x1.toNat_lt
  have q2 := x2.toNat_lt
  have q3 := x3.toNat_lt
  have HB := hide hbig
  have HO := hide hok
  clear hbig hok
  have g : (4 : Int) ≤ n := by omega
  have g0 : 0 < n := by omega
  have g1 : (1 : Int) < n := by omega
  have g2 : (2 : Int) < n := by omega
  have g3 : (3 : Int) < n := by omega
  go_enter Try.func19, Try.ntmps19
  go_wp2
  refine wp_region_mono 28 49 [.val _, .val _, .val _, .val _, .val _, .val _, .val _, .val _, .val _, .val _, .val _, .val _, .val _, .val _, .val _, .val _, .val _, .val _, .val _, .val _, .val _, .val _, .val _, .val _, .val _, .val _, .val _, .pred (PtrTo (w.heap.size + 1) #[.bool false, .int .i64 0, .int .i64 0, .int .i64 0] 23)] (by kernel_rfl) (by kernel_rfl) rfl ⟨PtrTo.stable _ _ _, trivial⟩ rfl ⟨
    fun a u hB hO hJ => .inl ⟨rfl, fun K Q hK => by
      have e0 : a.tmps[0]?.getD undef = .slice (some ⟨b,off,none⟩) n cap := hO 0 rfl
      clear hO hJ
      exact wp_move_of e0 fun h => hK _ _ (Below.refl _ _) h⟩,
    fun a u hB hO hJ => .inl ⟨rfl, fun K Q hK => by
      have e15 : a.tmps[15]?.getD undef = _ := hJ 0 rfl
      clear hO hJ
      go_simp
      try go_bits
      exact hK _ _ (Below.refl _ _) rfl⟩,
    fun a u hB hO hJ => .inl ⟨rfl, fun K Q hK => by
      have e16 : a.tmps[16]?.getD undef = _ := hJ 1 rfl
      clear hO hJ
      obtain ⟨hc, hf⟩ := bcell hB
      go_simp
      exact hK _ _ (Below.refl _ _) rfl⟩,
    fun a u hB hO hJ => .inl ⟨rfl, fun K Q hK => by
      have e17 : a.tmps[17]?.getD undef = _ := hJ 2 rfl
      clear hO hJ
      go_simp
      try go_bits
      exact hK _ _ (Below.refl _ _) rfl⟩,
    fun a u hB hO hJ => .inl ⟨rfl, fun K Q hK => by
      have e18 : a.tmps[18]?.getD undef = _ := hJ 3 rfl
      clear hO hJ
      go_simp
      try go_bits
      exact hK _ _ (Below.refl _ _) rfl⟩,
    fun a u hB hO hJ => .inl ⟨rfl, fun K Q hK => by
      have e0 : a.tmps[0]?.getD undef = .slice (some ⟨b,off,none⟩) n cap := hO 0 rfl
      clear hO hJ
      exact wp_move_of e0 fun h => hK _ _ (Below.refl _ _) h⟩,
    fun a u hB hO hJ => .inl ⟨rfl, fun K Q hK => by
      have e20 : a.tmps[20]?.getD undef = _ := hJ 5 rfl
      clear hO hJ
      go_simp
      try go_bits
      exact hK _ _ (Below.refl _ _) rfl⟩,
    fun a u hB hO hJ => .inl ⟨rfl, fun K Q hK => by
      have e21 : a.tmps[21]?.getD undef = _ := hJ 6 rfl
      clear hO hJ
      obtain ⟨hc, hf⟩ := bcell hB
      go_simp
      exact hK _ _ (Below.refl _ _) rfl⟩,
    fun a u hB hO hJ => .inl ⟨rfl, fun K Q hK => by
      have e22 : a.tmps[22]?.getD undef = _ := hJ 7 rfl
      clear hO hJ
      go_simp
      try go_bits
      exact hK _ _ (Below.refl _ _) rfl⟩,
    fun a u hB hO hJ => .inl ⟨rfl, fun K Q hK => by
      have e23 : a.tmps[23]?.getD undef = _ := hJ 8 rfl
      clear hO hJ
      go_simp
      try go_bits
      exact hK _ _ (Below.refl _ _) rfl⟩,
    fun a u hB hO hJ => .inl ⟨rfl, fun K Q hK => by
      have e0 : a.tmps[0]?.getD undef = .slice (some ⟨b,off,none⟩) n cap := hO 0 rfl
      clear hO hJ
      exact wp_move_of e0 fun h => hK _ _ (Below.refl _ _) h⟩,
    fun a u hB hO hJ => .inl ⟨rfl, fun K Q hK => by
      have e25 : a.tmps[25]?.getD undef = _ := hJ 10 rfl
      clear hO hJ
      go_simp
      try go_bits
      exact hK _ _ (Below.refl _ _) rfl⟩,
    fun a u hB hO hJ => .inl ⟨rfl, fun K Q hK => by
      have e26 : a.tmps[26]?.getD undef = _ := hJ 11 rfl
      clear hO hJ
      obtain ⟨hc, hf⟩ := bcell hB
      go_simp
      exact hK _ _ (Below.refl _ _) rfl⟩,
    fun a u hB hO hJ => .inl ⟨rfl, fun K Q hK => by
      have e27 : a.tmps[27]?.getD undef = _ := hJ 12 rfl
      clear hO hJ
      go_simp
      try go_bits
      exact hK _ _ (Below.refl _ _) rfl⟩,
    fun a u hB hO hJ => .inl ⟨rfl, fun K Q hK => by
      have e0 : a.tmps[0]?.getD undef = .slice (some ⟨b,off,none⟩) n cap := hO 0 rfl
      clear hO hJ
      exact wp_move_of e0 fun h => hK _ _ (Below.refl _ _) h⟩,
    fun a u hB hO hJ => .inl ⟨rfl, fun K Q hK => by
      have e29 : a.tmps[29]?.getD undef = _ := hJ 14 rfl
      clear hO hJ
      go_simp
      try go_bits
      exact hK _ _ (Below.refl _ _) rfl⟩,
    fun a u hB hO hJ => .inl ⟨rfl, fun K Q hK => by
      have e30 : a.tmps[30]?.getD undef = _ := hJ 15 rfl
      clear hO hJ
      obtain ⟨hc, hf⟩ := bcell hB
      go_simp
      exact hK _ _ (Below.refl _ _) rfl⟩,
    fun a u hB hO hJ => .inl ⟨rfl, fun K Q hK => by
      have e31 : a.tmps[31]?.getD undef = _ := hJ 16 rfl
      clear hO hJ
      go_simp
      try go_bits
      exact hK _ _ (Below.refl _ _) rfl⟩,
    fun a u hB hO hJ => .inl ⟨rfl, fun K Q hK => by
      have e32 : a.tmps[32]?.getD undef = _ := hJ 17 rfl
      clear hO hJ
      go_simp
      try go_bits
      exact hK _ _ (Below.refl _ _) rfl⟩,
    fun a u hB hO hJ => .inl ⟨rfl, fun K Q hK => by
      have e0 : a.tmps[0]?.getD undef = .slice (some ⟨b,off,none⟩) n cap := hO 0 rfl
      clear hO hJ
      exact wp_move_of e0 fun h => hK _ _ (Below.refl _ _) h⟩,
    fun a u hB hO hJ => .inl ⟨rfl, fun K Q hK => by
      have e34 : a.tmps[34]?.getD undef = _ := hJ 19 rfl
      clear hO hJ
      go_simp
      try go_bits
      exact hK _ _ (Below.refl _ _) rfl⟩,
    fun a u hB hO hJ => .inl ⟨rfl, fun K Q hK => by
      have e35 : a.tmps[35]?.getD undef = _ := hJ 20 rfl
      clear hO hJ
      obtain ⟨hc, hf⟩ := bcell hB
      go_simp
      exact hK _ _ (Below.refl _ _) rfl⟩,
    fun a u hB hO hJ => .inl ⟨rfl, fun K Q hK => by
      have e36 : a.tmps[36]?.getD undef = _ := hJ 21 rfl
      clear hO hJ
      go_simp
      try go_bits
      exact hK _ _ (Below.refl _ _) rfl⟩,
    fun a u hB hO hJ => .inl ⟨rfl, fun K Q hK => by
      have e33 : a.tmps[33]?.getD undef = _ := hJ 18 rfl
      have e37 : a.tmps[37]?.getD undef = _ := hJ 22 rfl
      clear hO hJ
      go_simp
      try go_bits
      exact hK _ _ (Below.refl _ _) rfl⟩,
    fun a u hB hO hJ => .inl ⟨rfl, fun K Q hK => by
      have e38 : a.tmps[38]?.getD undef = _ := hJ 23 rfl
      clear hO hJ
      go_simp
      try go_bits
      exact hK _ _ (Below.refl _ _) rfl⟩,
    fun a u hB hO hJ => .inl ⟨rfl, fun K Q hK => by
      have e39 : a.tmps[39]?.getD undef = _ := hJ 24 rfl
      clear hO hJ
      go_simp
      try go_bits
      exact hK _ _ (Below.refl _ _) rfl⟩,
    fun a u hB hO hJ => .inl ⟨rfl, fun K Q hK => by
      have e19 : a.tmps[19]?.getD undef = _ := hJ 4 rfl
      have e24 : a.tmps[24]?.getD undef = _ := hJ 9 rfl
      have e28 : a.tmps[28]?.getD undef = _ := hJ 13 rfl
      have e40 : a.tmps[40]?.getD undef = _ := hJ 25 rfl
      clear hO hJ
      go_simp
      try go_bits
      exact hK _ _ (Below.refl _ _) rfl⟩,
    fun a u hB hO hJ => .inl ⟨rfl, fun K Q hK => by
      clear hO hJ
      go_simp
      exact hK _ _ ((Below.refl _ _).alloc (Nat.le_refl _) _) (PtrTo.alloc _ _ _ (by simpa using hB.size))⟩,
    trivial⟩ ?fin5
  case fin5 =>
    rintro u hB _ ⟨k, rfl, hkB, hk⟩
    simp only [Act.put, List.setIfInBounds_toArray, List.set_cons_zero, List.set_cons_succ, List.drop_succ_cons, List.drop_zero, List.take_zero, Laid]
    have hr := hB.block w.heap.size (by simp)
    rw [heap_alloc_new] at hr
    have hus := hB.size
    simp only [World.size_alloc] at hus
    refine wpList_storeW k _ rfl rfl 23 _ hk (by kernel_rfl) rfl rfl ?_
    intro u2 hk2 hg2 hs2
    have hr2 := hg2.block w.heap.size (by omega) (by simp; omega)
    rw [hr] at hr2
    have hB2 : Below w.heap.size w u2 := (((Below.refl _ _).alloc (Nat.le_refl _) _).trans (hB.mono (by simp))).grown hg2 (by omega) (fun i hi => by cases hi; omega)
    clear hr hk hB hg2
    obtain ⟨hck, hfk, _⟩ := row_facts hk2
    obtain ⟨hcr, hfr, _⟩ := row_facts hr2
    clear hk2 hr2
    have hkr : w.heap.size ≠ k := by omega
    go_wp2
    · obtain rfl := HB.out (by omega)
      exact bodyPost_ret (v := .tuple #[.agg #[.bool false, .int .i64 0, .int .i64 0, .int .i64 0], .int .i64 4]) (by simp [results, Try.results19, go_sem, hcr]) rfl ⟨rfl, (((hB2.setCell (by simp) _).setCell (by simp) _).setCell (by simp) _).setCell (by simp) _⟩
    · obtain rfl := HO.out (by omega)
      refine bodyPost_ret (v := .tuple #[.agg #[.bool (bits BinOp.and IntKind.u8 (x0.toNat : Int) 32 != 0), .int .i64 ((x0.toNat : Int) % 32), .int .i64 x1.toNat, .int .i64 (4 * (x2.toNat * 256 + x3.toNat + 1))], .int .i64 0]) (by simp [results, Try.results19, go_sem, hcr]) rfl ⟨rfl, (((hB2.setCell (by simp) _).setCell (by simp) _).setCell (by simp) _).setCell (by simp) _⟩

theorem IsB.shape {w : World} {x0 x1 x2 x3 : UInt8} {r : List UInt8} {v : Value} (h : IsB w v (x0 :: x1 :: x2 :: x3 :: r)) :
    ∃ b off cap n, v = .slice (some ⟨b, off, none⟩) n cap ∧ n = r.length + 4 ∧ b < w.heap.size ∧ w.cell? ⟨b, off, none⟩ = some (.int .u8 (x0.toNat : Int)) ∧ w.cell? ⟨b, off + 1, none⟩ = some (.int .u8 (x1.toNat : Int)) ∧ w.cell? ⟨b, off + 2, none⟩ = some (.int .u8 (x2.toNat : Int)) ∧ w.cell? ⟨b, off + 3, none⟩ = some (.int .u8 (x3.toNat : Int)) := by
  obtain ⟨b, off, cap, rfl, hb, _, _, hc⟩ := h.cells (by simp)
  exact ⟨b, off, cap, _, rfl, by simp, hb, hc 0 x0 rfl, hc 1 x1 rfl, hc 2 x2 rfl, hc 3 x3 rfl⟩

theorem read_any (v : Value) (l : List UInt8) (w : World) (h : IsB w v l) : Calls Try.prog 19 #[v] w (RetRd w l) := by
  match l, h with
  | [], h => obtain ⟨a, cap, rfl, _, _⟩ := h.len; exact (read_short _ _ _ _ (by simp)).mono fun e w' hh => by simpa [RetRd, rdV, rdP, rdN, rdT, rdS, rdE] using hh
  | [_], h => obtain ⟨a, cap, rfl, _, _⟩ := h.len; exact (read_short _ _ _ _ (by simp)).mono fun e w' hh => by simpa [RetRd, rdV, rdP, rdN, rdT, rdS, rdE] using hh
  | [_, _], h => obtain ⟨a, cap, rfl, _, _⟩ := h.len; exact (read_short _ _ _ _ (by simp)).mono fun e w' hh => by simpa [RetRd, rdV, rdP, rdN, rdT, rdS, rdE] using hh
  | [_, _, _], h => obtain ⟨a, cap, rfl, _, _⟩ := h.len; exact (read_short _ _ _ _ (by simp)).mono fun e w' hh => by simpa [RetRd, rdV, rdP, rdN, rdT, rdS, rdE] using hh
  | x0 :: x1 :: x2 :: x3 :: r, h =>
    obtain ⟨b, off, cap, n, rfl, hn, hb, h0, h1, h2, h3⟩ := h.shape
    by_cases hv : x0.toNat / 64 = 2
    · have hv' : ((x0.toNat : Int) / 64 != 2) = false := by simp; omega
      refine read_go b off cap n x0 x1 x2 x3 w (by omega) hb h0 h1 h2 h3 hv' _ (fun hs => ?_) (fun hs => ?_)
      · have e : rdE (x0 :: x1 :: x2 :: x3 :: r) = 4 := by simp [rdE, hv]; omega
        simp [rdV, rdP, rdN, rdT, rdS, e]
      · have e : rdE (x0 :: x1 :: x2 :: x3 :: r) = 0 := by simp [rdE, hv]; omega
        have q0 := x0.toNat_lt
        simp only [rdV, rdP, rdN, rdT, rdS, e, if_true, and32]
        have e1 : decide (x0.toNat / 32 % 2 = 1) = decide (160 ≤ x0.toNat) := by
          rw [decide_eq_decide]
          omega
        rw [e1]
        simp
    · have hv' : ((x0.toNat : Int) / 64 != 2) = true := by simp; omega
      refine (read_version b off cap n x0 w (by omega) hb h0 hv').mono fun e w' hh => ?_
      have e : rdE (x0 :: x1 :: x2 :: x3 :: r) = 3 := by simp [rdE, hv]
      simpa [RetRd, rdV, rdP, rdN, rdT, rdS, e] using hh

end Go.Proofs.Ytellclclpmofcaa
