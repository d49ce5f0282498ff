/-
  The contracts of common.Right, common.Write, common.Read and of their references; conditions: the arguments read as data.
-/
import Derived.Test.YtellclclpmofcaaA
import Derived.BigRegion
import Derived.BigQuiet
import Derived.Deep.QuietTactic
import Derived.Deep.RegionHeld3
import Derived.Handy
namespace Go.Proofs.Ytellclclpmofcaa
open Go.RowKit

def rightB (n t s : Int) : Bool := decide (0 ≤ n ∧ n ≤ 31 ∧ 0 ≤ t ∧ t ≤ 255 ∧ 4 ≤ s ∧ s ≤ 262144 ∧ s % 4 = 0)

theorem ret_bool {a b : Bool} (h : a = b) : Ending.returned (.bool a) = .returned (.bool b) := by rw [h]

set_option maxHeartbeats 400000 in
theorem right_any (p : Bool) (n t s : Int) (w : World) :
    Calls Try.prog 21 #[.agg #[.bool p, .int .i64 n, .int .i64 t, .int .i64 s]] w fun e w' => e = .returned (.bool (rightB n t s)) ∧ Below w.heap.size w w' := by
  go_enter Try.func21, Try.ntmps21
  go_wp2
  all_goals go_ret
  all_goals refine ⟨ret_bool ?_, (Below.refl _ _).alloc (Nat.le_refl _) _⟩
  all_goals (rw [Bool.eq_iff_iff]; simp only [rightB, decide_eq_true_eq, beq_iff_eq, Bool.false_eq_true, false_iff]; omega)

set_option maxHeartbeats 400000 in
theorem rright_any (p : Bool) (n t s : Int) (w : World) :
    Calls Try.prog 16 #[.agg #[.bool p, .int .i64 n, .int .i64 t, .int .i64 s]] w fun e w' => e = .returned (.bool (rightB n t s)) ∧ Below w.heap.size w w' := by
  go_enter Try.func16, Try.ntmps16
  go_wp2
  all_goals go_ret
  all_goals refine ⟨ret_bool ?_, (Below.refl _ _).alloc (Nat.le_refl _) _⟩
  all_goals (rw [Bool.eq_iff_iff]; simp only [rightB, decide_eq_true_eq, beq_iff_eq, Bool.false_eq_true, false_iff]; omega)

theorem right_true (p : Bool) (n t s : Int) (w : World) (h : rightB n t s = true) :
    Calls Try.prog 21 #[.agg #[.bool p, .int .i64 n, .int .i64 t, .int .i64 s]] w fun e w' => e = .returned (.bool true) ∧ Below w.heap.size w w' := by
  rw [← h]; exact right_any p n t s w

theorem right_false (p : Bool) (n t s : Int) (w : World) (h : rightB n t s = false) :
    Calls Try.prog 21 #[.agg #[.bool p, .int .i64 n, .int .i64 t, .int .i64 s]] w fun e w' => e = .returned (.bool false) ∧ Below w.heap.size w w' := by
  rw [← h]; exact right_any p n t s w

/-- The bytes of a header that is right. -/
def wrL (p : Bool) (n t s : Int) : List UInt8 :=
  [UInt8.ofNat (128 + n + if p then 32 else 0).toNat, UInt8.ofNat t.toNat, UInt8.ofNat ((s / 4 - 1) / 256).toNat, UInt8.ofNat ((s / 4 - 1) % 256).toNat]

set_option maxHeartbeats 400000 in
theorem write_no (p : Bool) (n t s : Int) (w : World) (h : rightB n t s = false) :
    Calls Try.prog 17 #[.agg #[.bool p, .int .i64 n, .int .i64 t, .int .i64 s]] w fun e w' => e = .returned (.tuple #[.slice none 0 0, .int .i64 1]) ∧ Below w.heap.size w w' := by
  have H := hide h
  clear h
  go_enter Try.func17, Try.ntmps17
  go_wp2_with (go_at_call 21; refine (right_false _ _ _ _ _ H.out).mono ?_; rintro e w1 ⟨rfl, hb⟩)
  go_ret2
  exact ⟨rfl, ((Below.refl _ _).alloc (Nat.le_refl _) _).trans (hb.mono (by simp))⟩

/-- The call hands back a fresh byte slice and an error number. -/
def RetOwn (w : World) (l : List UInt8) (err : Int) (e : Ending) (w' : World) : Prop :=
  ∃ v, e = .returned (.tuple #[v, .int .i64 err]) ∧ Own w' w.heap.size v l ∧ Below w.heap.size w w'

theorem or128 (n : Int) (h1 : 0 ≤ n) (h2 : n ≤ 31) : bits BinOp.or IntKind.i64 128 n = 128 + n := by
  obtain ⟨k, rfl⟩ := Int.eq_ofNat_of_zero_le h1
  have h : ∀ j : Fin 32, bits BinOp.or IntKind.i64 128 ((j.val : Nat) : Int) = 128 + ((j.val : Nat) : Int) := by decide +kernel
  exact h ⟨k, by omega⟩

theorem or32 (n : Int) (h1 : 128 ≤ n) (h2 : n ≤ 159) : bits BinOp.or IntKind.u8 n 32 = n + 32 := by
  have h : ∀ j : Fin 32, bits BinOp.or IntKind.u8 (128 + ((j.val : Nat) : Int)) 32 = 128 + ((j.val : Nat) : Int) + 32 := by decide +kernel
  have e : n = 128 + (((n - 128).toNat : Nat) : Int) := by omega
  rw [e]
  exact h ⟨(n - 128).toNat, by omega⟩

theorem wr_cells (p : Bool) (n t s : Int) (h1 : 0 ≤ n) (h2 : n ≤ 31) (h3 : 0 ≤ t) (h4 : t ≤ 255) (h5 : 4 ≤ s) (h6 : s ≤ 262144) :
    (wrL p n t s).map bval = [.int .u8 (128 + n + if p then 32 else 0), .int .u8 t, .int .u8 ((s / 4 - 1) / 256), .int .u8 ((s / 4 - 1) % 256)] := by
  have hp : (0 : Int) ≤ (if p then 32 else 0) ∧ (if p then 32 else 0 : Int) ≤ 32 := by cases p <;> decide
  simp only [wrL, List.map_cons, List.map_nil]
  rw [bval_int _ (by omega) (by omega), bval_int _ (by omega) (by omega), bval_int _ (by omega) (by omega), bval_int _ (by omega) (by omega)]

set_option maxHeartbeats 400000 in
theorem write_yes (p : Bool) (n t s : Int) (w : World) (h : rightB n t s = true) :
    Calls Try.prog 17 #[.agg #[.bool p, .int .i64 n, .int .i64 t, .int .i64 s]] w (RetOwn w (wrL p n t s) 0) := by
  have hr : 0 ≤ n ∧ n ≤ 31 ∧ 0 ≤ t ∧ t ≤ 255 ∧ 4 ≤ s ∧ s ≤ 262144 ∧ s % 4 = 0 := by simpa [rightB] using h
  obtain ⟨h1, h2, h3, h4, h5, h6, h7⟩ := hr
  have H := hide h
  have H7 := hide h7
  have HW := hide (wr_cells p n t s h1 h2 h3 h4 h5 h6)
  clear h h7
  cases p
  all_goals
    go_enter Try.func17, Try.ntmps17
    go_wp2_with (go_at_call 21; refine (right_true _ _ _ _ _ H.out).mono ?_; rintro e w1 ⟨rfl, hb⟩; obtain ⟨hc, hf⟩ := bcell hb)
    go_ret2
    have hz := hb.size
    simp only [World.size_alloc] at hz
    refine ⟨_, rfl, Own.lit (wrL _ n t s) _ 4 _ ?_ rfl rfl (by omega) (by decide), (((Below.refl _ _).alloc (Nat.le_refl _) _).trans (hb.mono (by simp))).alloc (by omega) _⟩
    rw [HW.out, or128 n h1 h2]
    first
      | (rw [show (128 + n) % 256 = 128 + n by omega, or32 _ (by omega) (by omega)]; simp; done)
      | (rw [show (128 + n) % 256 = 128 + n by omega]; simp; done)

/-- The call hands back a fresh byte slice. -/
def RetOwn1 (w : World) (l : List UInt8) (e : Ending) (w' : World) : Prop :=
  ∃ v, e = .returned v ∧ Own w' w.heap.size v l ∧ Below w.heap.size w w'

set_option maxHeartbeats 400000 in
theorem rwrite_yes (p : Bool) (n t s : Int) (w : World) (h : rightB n t s = true) :
    Calls Try.prog 18 #[.agg #[.bool p, .int .i64 n, .int .i64 t, .int .i64 s]] w (RetOwn1 w (wrL p n t s)) := by
  have hr : 0 ≤ n ∧ n ≤ 31 ∧ 0 ≤ t ∧ t ≤ 255 ∧ 4 ≤ s ∧ s ≤ 262144 ∧ s % 4 = 0 := by simpa [rightB] using h
  obtain ⟨h1, h2, h3, h4, h5, h6, h7⟩ := hr
  have H7 := hide h7
  have HW := hide (wr_cells p n t s h1 h2 h3 h4 h5 h6)
  clear h h7
  cases p
  all_goals
    go_enter Try.func18, Try.ntmps18
    go_wp2
    go_ret
    refine ⟨.slice (some ⟨w.heap.size + 1, 0, none⟩) 4 4, rfl, Own.lit (wrL _ n t s) _ 4 _ ?_ rfl ?_ ?_ (by decide), ((Below.refl _ _).alloc (Nat.le_refl _) _).alloc (by simp) _⟩
    · rw [HW.out]
      simp
    · simp
    · simp

end Go.Proofs.Ytellclclpmofcaa
