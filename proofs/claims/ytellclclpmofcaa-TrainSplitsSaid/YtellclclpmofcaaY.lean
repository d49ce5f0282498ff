/-
  The contracts of pad's Fill, Add and of their references; conditions: a bound on the size.
-/
import Derived.Test.YtellclclpmofcaaX
namespace Go.Proofs.Ytellclclpmofcaa
open Go.RowKit

def padN (n : Nat) : Nat := (4 - n % 4) % 4
def fillL (l : List UInt8) : List UInt8 := l ++ List.replicate (padN l.length) 0
def addL (l : List UInt8) (n : Nat) : List UInt8 := l ++ List.replicate (n - 1) 0 ++ [UInt8.ofNat n]

/-- How long a slice is. -/
def slLen : Value → Nat
  | .slice _ n _ => n
  | _ => 0

set_option maxHeartbeats 800000 in
theorem fill_any (v : Value) (l : List UInt8) (w : World) (h : IsB w v l) (hl : l.length ≤ 1000000) : Calls Try.prog 25 #[v] w (RetOwn1 w (fillL l)) := by
  obtain ⟨a, n, cap, rfl, hn, hx1, hx2⟩ := h.len'
  clear hx1 hx2
  have hl' : (n : Int) ≤ 1000000 := by omega
  have HN := hide hn
  have HB := hide h
  clear hn h hl
  have HM : Hid ((n : Int) + -((n : Int) % 4) % 4 = ((n + padN n : Nat) : Int)) := hide (by unfold padN; omega)
  have hp : padN n ≤ 3 := by unfold padN; omega
  go_enter Try.func25, Try.ntmps25
  go_wp2_with (at_make; refine wpList_make_B (n + padN n) HM.out HM.out (by omega) rfl rfl ?_)
  intro w1 o1 b1 s1
  have HI := hide (HB.out.below b1)
  go_wp2_with (with_reducible refine wpList_copy_B o1 HI.out ?_ ?_ ?_ ?_ ?_)
  · simp [← HN.out]
  · omega
  · rfl
  · rfl
  intro w2 o2 b2 s2
  go_wp2_with fail
  go_ret
  refine ⟨_, rfl, ?_, b1.trans b2⟩
  have e : l ++ (List.replicate (n + padN n) (0 : UInt8)).drop l.length = fillL l := by
    unfold fillL
    rw [List.drop_replicate, ← HN.out, Nat.add_sub_cancel_left]
  rw [← e]
  exact o2

/-- Behind k rounds: l and k noughts, in a row of the call's own. -/
def Grew (N : Nat) (W : World) (l : List UInt8) (n k : Nat) (v : Value) (wr : World) : Prop :=
  ∃ a cap, v = .slice a (n + k) cap ∧ Own wr N (.slice a (n + k) cap) (l ++ List.replicate k 0) ∧ Below N W wr

theorem Grew.start {N : Nat} {W wr : World} {l : List UInt8} {n : Nat} {v : Value} (hn : n = l.length) (ho : Own wr N v ([] ++ l)) (hb : Below N W wr) : Grew N W l n 0 v wr := by
  rw [List.nil_append] at ho
  obtain ⟨a, m, cap, rfl, hm, _, _⟩ := ho.isB.len'
  rw [hm, ← hn] at ho ⊢
  exact ⟨a, cap, rfl, by simpa using ho, hb⟩

theorem Grew.next {N : Nat} {W wr w2 : World} {l : List UInt8} {n k : Nat} {v : Value} (hn : n = l.length) (ho : Own w2 N v ((l ++ List.replicate k 0) ++ [0])) (hb : Below N W wr) (hb2 : Below N wr w2) : Grew N W l n (k + 1) v w2 := by
  have e : (l ++ List.replicate k (0 : UInt8)) ++ [0] = l ++ List.replicate (k + 1) 0 := by rw [List.append_assoc, ← List.replicate_succ']
  rw [e] at ho
  obtain ⟨a, m, cap, rfl, hm, _, _⟩ := ho.isB.len'
  have hm' : m = n + (k + 1) := by rw [hm, hn]; simp
  rw [hm'] at ho ⊢
  exact ⟨a, cap, rfl, ho, hb.trans hb2⟩

set_option maxHeartbeats 800000 in
theorem rfill_any (v : Value) (l : List UInt8) (w : World) (h : IsB w v l) (hl : l.length ≤ 1000000) : Calls Try.prog 26 #[v] w (RetOwn1 w (fillL l)) := by
  obtain ⟨a, n, cap, rfl, hn, hx1, hx2⟩ := h.len'
  clear hx1 hx2
  have hl' : (n : Int) ≤ 1000000 := by omega
  have HN := hide hn
  have HB := hide h
  clear hn h hl
  have hp : padN n ≤ 3 := by unfold padN; omega
  go_enter Try.func26, Try.ntmps26
  go_wp2_with (at_builtin; refine wpList_append_B (Own.empty (Nat.le_refl _) _ rfl) (HB.out.below ((Below.refl _ _).alloc (Nat.le_refl _) _)) (by rw [← HN.out]; simp; omega) (by simp) rfl rfl ?_)
  intro v1 w1 o1 b1
  have G0 := Grew.start (N := w.heap.size) HN.out o1 (((Below.refl _ _).alloc (Nat.le_refl _) _).trans b1)
  have GH := hide G0
  have z1 := b1.size
  clear G0 o1 b1
  go_wp2_with fail
  go_loopw [3] (fun t wr => ∃ k : Nat, k ≤ padN n ∧ Grew w.heap.size w l n k t wr) (fun t _ => n + padN n - slLen t)
  case atStart => exact ⟨0, Nat.zero_le _, GH.out⟩
  case round =>
    obtain ⟨k, hk, a2, c2, rfl, o2, b2⟩ := hrel
    have HO := hide o2
    have HB2 := hide b2
    have z2 := b2.size
    clear o2 b2
    by_cases hlt : k < padN n
    · have hb : (((n : Int) + k) % 4 != 0) = true := by
        unfold padN at hlt
        simp
        omega
      go_wp2_with (at_builtin; refine wpList_append_B (HO.out.below ((Below.refl _ _).alloc (Nat.le_refl _) _)) (Own.lit [0] _ 1 _ rfl rfl rfl (Nat.zero_le _) (by decide)).isB (by simp [← HN.out]; omega) (by simp; omega) rfl rfl ?_)
      intro v3 w3 o3 b3
      have G3 := Grew.next HN.out o3 (HB2.out.alloc z2 _) b3
      have GH3 := hide G3
      clear G3 o3 b3
      go_wp2_with fail
      go_roundw
      case rel => exact ⟨k + 1, by omega, GH3.out⟩
      case measure =>
        obtain ⟨a4, c4, rfl, _⟩ := GH3.out
        simp [slLen]
        omega
    · have hb : (((n : Int) + k) % 4 != 0) = false := by
        unfold padN at hlt hk
        simp
        omega
      have hkp : k = padN n := by omega
      have HK := hide hkp
      clear hkp
      go_wp2_with fail
      go_ret
      refine ⟨_, rfl, ?_, HB2.out⟩
      have e : fillL l = l ++ List.replicate k 0 := by rw [fillL, ← HN.out, HK.out]
      rw [e]
      exact HO.out

theorem Own.last {w : World} {base : Nat} {B m c : Nat} {l : List UInt8} (h : Own w base (.slice (some ⟨B, 0, none⟩) m c) l) (hm : m = l.length) (hp : 1 ≤ m) (y : UInt8) :
    (∃ x, w.cell? ⟨B, m - 1, none⟩ = some (.int .u8 x)) ∧ w.frozen? ⟨B, m - 1, none⟩ = false ∧ base ≤ B ∧ Own (w.setCell ⟨B, m - 1, none⟩ (bval y)) base (.slice (some ⟨B, 0, none⟩) m c) (l.take (m - 1) ++ [y]) := by
  subst hm
  have h1 := World.ownsRow.cellAt h (l.length - 1) (by omega)
  have h2 := World.ownsRow.frozenAt h (l.length - 1)
  have h3 := (World.ownsRow.stored h (l.length - 1) (bval y)).1
  refine ⟨?_, h2, (h.lt B rfl).1, ?_⟩
  · rw [h1, List.getElem?_map, List.getElem?_eq_getElem (by omega)]
    exact ⟨_, rfl⟩
  · have hl : (l.take (l.length - 1) ++ [y]).length = l.length := by simp; omega
    have he : (l.map bval).set (l.length - 1) (bval y) = (l.take (l.length - 1) ++ [y]).map bval := by
      rw [← List.map_set]
      congr 1
      rw [List.set_eq_take_append_cons_drop, if_pos (by omega), List.drop_of_length_le (by omega)]
    unfold Own
    rw [hl, ← he]
    exact h3

set_option maxHeartbeats 800000 in
theorem add_yes (v : Value) (l : List UInt8) (k : Nat) (w : World) (h : IsB w v l) (hl : l.length ≤ 1000000) (hk1 : 1 ≤ k) (hk2 : k ≤ 255) : Calls Try.prog 33 #[v, .int .i64 k] w (RetOwn w (addL l k) 0) := by
  obtain ⟨a, n, cap, rfl, hn, hx1, hx2⟩ := h.len'
  clear hx1 hx2
  have hl' : (n : Int) ≤ 1000000 := by omega
  have HN := hide hn
  have HB := hide h
  clear hn h hl
  obtain ⟨m, hm⟩ : ∃ m : Nat, m = n + k := ⟨_, rfl⟩
  have HM : Hid ((n : Int) + k = (m : Int)) := hide (by omega)
  have HMn := hide hm
  have hp : 1 ≤ m := by omega
  have hp2 : (1 : Int) ≤ m := by omega
  have hp3 : (m : Int) ≤ 1000300 := by omega
  clear hm
  go_enter Try.func33, Try.ntmps33
  go_wp2_with (at_make; refine wpList_make_B m HM.out HM.out (by omega) rfl rfl ?_)
  intro w1 o1 b1 s1
  have HI := hide (HB.out.below b1)
  go_wp2_with (with_reducible refine wpList_copy_B o1 HI.out ?_ ?_ ?_ ?_ ?_)
  · have := HMn.out
    simp [← HN.out]
    omega
  · omega
  · rfl
  · rfl
  intro w2 o2 b2 s2
  have e : l ++ (List.replicate m (0 : UInt8)).drop l.length = l ++ List.replicate k 0 := by
    rw [List.drop_replicate, ← HN.out, HMn.out, Nat.add_sub_cancel_left]
  rw [e] at o2
  obtain ⟨⟨x, hc⟩, hf, _, o3⟩ := o2.last (by rw [HMn.out, HN.out]; simp) hp (UInt8.ofNat k)
  have HO := hide o3
  have HB2 := hide (b1.trans b2)
  have hkk : (k : Int) ≤ 255 := by omega
  clear o1 o2 o3 b1 b2 e
  go_wp2_with fail
  go_ret2
  refine ⟨_, rfl, ?_, HB2.out.setCell (Nat.le_refl _) _⟩
  have e2 : addL l k = (l ++ List.replicate k 0).take (m - 1) ++ [UInt8.ofNat k] := by
    rw [addL, HMn.out, HN.out, List.take_append, List.take_of_length_le (by omega), List.take_replicate]
    congr 3
    omega
  have e3 : bval (UInt8.ofNat k) = .int .u8 (k : Int) := bval_ofNat k (by omega)
  have := HO.out
  rw [← e2, e3] at this
  exact this

set_option maxHeartbeats 400000 in
theorem add_no (v : Value) (n : Int) (w : World) (h : n < 1 ∨ 255 < n) : Calls Try.prog 33 #[v, .int .i64 n] w fun e w' => e = .returned (.tuple #[.slice none 0 0, .int .i64 1]) ∧ Below w.heap.size w w' := by
  by_cases h1 : n < 1
  · go_enter Try.func33, Try.ntmps33
    go_wp2_with fail
    go_ret2
    exact ⟨rfl, Below.refl _ _⟩
  · have h2 : 255 < n := by omega
    have h3 : 1 ≤ n := by omega
    go_enter Try.func33, Try.ntmps33
    go_wp2_with fail
    go_ret2
    exact ⟨rfl, Below.refl _ _⟩

set_option maxHeartbeats 800000 in
theorem radd_any (v : Value) (l : List UInt8) (m : Nat) (w : World) (h : IsB w v l) (hl : l.length ≤ 1000000) (hk1 : 1 ≤ m) (hk2 : m ≤ 255) : Calls Try.prog 34 #[v, .int .i64 m] w (RetOwn1 w (addL l m)) := by
  obtain ⟨a, n, cap, rfl, hn, hx1, hx2⟩ := h.len'
  clear hx1 hx2
  have hl' : (n : Int) ≤ 1000000 := by omega
  have hm2 : (m : Int) ≤ 255 := by omega
  have HN := hide hn
  have HB := hide h
  clear hn h hl
  go_enter Try.func34, Try.ntmps34
  go_wp2_with (at_builtin; refine wpList_append_B (Own.empty (Nat.le_refl _) _ rfl) (HB.out.below ((Below.refl _ _).alloc (Nat.le_refl _) _)) (by rw [← HN.out]; simp; omega) (by simp) rfl rfl ?_)
  intro v1 w1 o1 b1
  have G0 := Grew.start (N := w.heap.size) HN.out o1 (((Below.refl _ _).alloc (Nat.le_refl _) _).trans b1)
  have GH := hide G0
  have z1 := b1.size
  clear G0 o1 b1
  go_wp2_with fail
  go_loopw [5, 6] (fun t i wr => ∃ k : Nat, k + 1 ≤ m ∧ i = .int .i64 ((k : Int) + 1) ∧ Grew w.heap.size w l n k t wr) (fun _ i _ => m - (intOf i).toNat)
  case atStart => exact ⟨0, by omega, rfl, GH.out⟩
  case round =>
    obtain ⟨k, hk, rfl, a2, c2, rfl, o2, b2⟩ := hrel
    have HO := hide o2
    have HB2 := hide b2
    have z2 := b2.size
    clear o2 b2
    by_cases hlt : k + 1 < m
    · go_wp2_with (at_builtin; refine wpList_append_B (HO.out.below ((Below.refl _ _).alloc (Nat.le_refl _) _)) (Own.lit [0] _ 1 _ rfl rfl rfl (Nat.zero_le _) (by decide)).isB (by simp [← HN.out]; omega) (by simp; omega) rfl rfl ?_)
      intro v3 w3 o3 b3
      have G3 := Grew.next HN.out o3 (HB2.out.alloc z2 _) b3
      have GH3 := hide G3
      clear G3 o3 b3
      go_wp2_with fail
      go_roundw
      case rel => exact ⟨k + 1, by omega, by go_num, GH3.out⟩
      case measure =>
        simp [intOf]
        omega
    · have hkp : m = k + 1 := by omega
      have HK := hide hkp
      clear hkp
      go_wp2_with (at_builtin; refine wpList_append_B (HO.out.below ((Below.refl _ _).alloc (Nat.le_refl _) _)) (Own.lit [UInt8.ofNat m] _ 1 _ (by rw [List.map_cons, List.map_nil, bval_ofNat m (by omega)]) rfl rfl (Nat.zero_le _) (by decide)).isB (by simp [← HN.out]; omega) (by simp; omega) rfl rfl ?_)
      intro v3 w3 o3 b3
      have HO3 := hide o3
      have HB3 := hide ((HB2.out.alloc z2 _).trans b3)
      clear o3 b3
      go_wp2_with fail
      go_ret
      refine ⟨_, rfl, ?_, HB3.out⟩
      have e : addL l m = l ++ List.replicate k 0 ++ [UInt8.ofNat m] := by
        rw [addL, show m - 1 = k from by have := HK.out; omega]
      rw [e]
      exact HO3.out

end Go.Proofs.Ytellclclpmofcaa
