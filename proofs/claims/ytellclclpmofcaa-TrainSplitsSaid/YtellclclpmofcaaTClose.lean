/-
  The contracts of train.Close, crossbarref11.May and crossbarref11.Close; conditions: the body reads as bytes, of no more than 1000000.
-/
import Derived.Test.YtellclclpmofcaaTROpen
namespace Go.Proofs.Ytellclclpmofcaa
open Go.RowKit

def mayB (k c : Int) (n : Nat) (t : Int) : Bool := decide (0 ≤ t ∧ t ≤ 252 ∧ t % 4 = 0 ∧ (n : Int) % 4 = 0) && rightB c k (4 + n + t)
def closeL (k c : Int) (l : List UInt8) (t : Nat) : List UInt8 := if t = 0 then wrL false c k (4 + l.length) ++ l else addL (wrL true c k (4 + l.length + t) ++ l) t

theorem wrL_length (p : Bool) (n t s : Int) : (wrL p n t s).length = 4 := rfl

theorem may_spec {k c : Int} {n : Nat} {t : Int} (h : mayB k c n t = true) : (0 ≤ t ∧ t ≤ 252 ∧ t % 4 = 0 ∧ (n : Int) % 4 = 0) ∧ rightB c k (4 + n + t) = true := by
  simpa only [mayB, Bool.and_eq_true, decide_eq_true_eq] using h

theorem right_spec {c k s : Int} (h : rightB c k s = true) : 0 ≤ c ∧ c ≤ 31 ∧ 0 ≤ k ∧ k ≤ 255 ∧ 4 ≤ s ∧ s ≤ 262144 ∧ s % 4 = 0 := by simpa only [rightB, decide_eq_true_eq] using h

set_option maxHeartbeats 1000000 in
theorem close_yes (k c : Int) (ad : Option Addr) (n cap : Nat) (l : List UInt8) (m : Nat) (w : World) (hn : n = l.length) (h : IsB w (.slice ad n cap) l) (hm : mayB k c n m = true) :
    Calls Try.prog 38 #[.int .i64 k, .int .i64 c, .slice ad n cap, .int .i64 m] w (RetOwn w (closeL k c l m) 0) := by
  obtain ⟨⟨_, g2, g3, g4⟩, hr⟩ := may_spec hm
  have q := right_spec hr
  have hb1 : ((m : Int) % 4 != 0) = false := by simpa using g3
  have hb2 : ((n : Int) % 4 != 0) = false := by simpa using g4
  have hl : (n : Int) ≤ 262140 := by omega
  have HN := hide hn
  have HB := hide h
  clear hm g3 g4 q h hn
  by_cases h0 : m = 0
  · subst h0
    have HR : Hid (rightB c k (4 + n) = true) := hide (by simpa using hr)
    have HJ : Hid (([wrL false c k (4 + n), l] : List (List UInt8)).flatten.length ≤ 1000000) := hide (by have := HN.out; simp [wrL_length]; omega)
    have HL : Hid (closeL k c l 0 = [wrL false c k (4 + n), l].flatten) := hide (by simp [closeL, ← HN.out])
    clear hr
    go_enter Try.func38, Try.ntmps38
    go_wp2_with fail
    refine (write_yes _ _ _ _ _ HR.out).mono ?_
    rintro e w1 ⟨v1, rfl, o1, b1⟩
    obtain ⟨a1, n1, c1, rfl, -⟩ := o1.isB.len'
    have z1 := b1.size
    simp only [World.size_alloc] at z1
    have B1 := ((Below.refl w.heap.size w).alloc (Nat.le_refl _) _).trans (b1.mono (by simp))
    have HI := hide (IsL.two (t := 24) o1.isB (HB.out.below B1) rfl)
    have HB1 := hide B1
    clear b1 B1 o1
    go_wp2_with fail
    refine (join_any _ _ _ HI.out HJ.out).mono ?_
    rintro e w2 ⟨v2, rfl, o2, b2⟩
    have zz : w.heap.size ≤ w1.heap.size := by omega
    have HB2 := hide ((HB1.out.alloc zz _).trans (b2.mono (by simp; omega)))
    have HO := hide o2
    clear b2 o2
    go_wp2_with fail
    go_ret2
    exact ⟨_, rfl, by rw [HL.out]; exact HO.out.mono (by simp; omega), HB2.out⟩
  · have hp : (0 : Int) < m := by omega
    have hp2 : ((m : Int) == 0) = false := by simpa using h0
    have hp3 : (0 : Int) ≤ m := by omega
    have HR : Hid (rightB c k (4 + n + m) = true) := hide hr
    have HJ : Hid (([wrL true c k (4 + n + m), l] : List (List UInt8)).flatten.length ≤ 1000000) := hide (by have := HN.out; simp [wrL_length]; omega)
    have HL : Hid (closeL k c l m = addL [wrL true c k (4 + n + m), l].flatten m) := hide (by simp [closeL, ← HN.out, h0])
    have HM : Hid (1 ≤ m ∧ m ≤ 255) := hide (by omega)
    have HD : Hid (decide (0 < m) = true) := hide (by simp; omega)
    clear hr h0
    go_enter Try.func38, Try.ntmps38
    go_wp2_with fail
    refine (write_yes _ _ _ _ _ HR.out).mono ?_
    rintro e w1 ⟨v1, rfl, o1, b1⟩
    obtain ⟨a1, n1, c1, rfl, -⟩ := o1.isB.len'
    have z1 := b1.size
    simp only [World.size_alloc] at z1
    have B1 := ((Below.refl w.heap.size w).alloc (Nat.le_refl _) _).trans (b1.mono (by simp))
    have HI := hide (IsL.two (t := 24) o1.isB (HB.out.below B1) rfl)
    have HB1 := hide B1
    clear b1 B1 o1
    go_wp2_with fail
    refine (join_any _ _ _ HI.out HJ.out).mono ?_
    rintro e w2 ⟨v2, rfl, o2, b2⟩
    have zz : w.heap.size ≤ w1.heap.size := by omega
    have HB2 := hide ((HB1.out.alloc zz _).trans (b2.mono (by simp; omega)))
    have HO := hide o2
    have z2 := b2.size
    simp only [World.size_alloc] at z2
    clear b2 o2
    go_wp2_with fail
    refine (add_yes _ _ m _ HO.out.isB HJ.out HM.out.1 HM.out.2).mono ?_
    rintro e w3 ⟨v3, rfl, o3, b3⟩
    have HO3 := hide o3
    have HB3 := hide (HB2.out.trans (b3.mono (by omega)))
    clear b3 o3
    go_wp2_with fail
    go_ret2
    exact ⟨_, rfl, by have o := HO3.out.mono (base' := w.heap.size) (by omega); rw [HD.out] at o; rw [HL.out]; exact o, HB3.out⟩

set_option maxHeartbeats 1000000 in
theorem close_no (k c : Int) (ad : Option Addr) (n cap : Nat) (t : Int) (w : World) (hn : n ≤ 1000000) (hm : mayB k c n t = false) :
    Calls Try.prog 38 #[.int .i64 k, .int .i64 c, .slice ad n cap, .int .i64 t] w fun e w' => e = .returned (.tuple #[.slice none 0 0, .int .i64 1]) ∧ Below w.heap.size w w' := by
  have HM : Hid (¬ ((0 ≤ t ∧ t ≤ 252 ∧ t % 4 = 0 ∧ (n : Int) % 4 = 0) ∧ rightB c k (4 + n + t) = true)) := hide (by
    intro hh
    have : mayB k c n t = true := by simpa only [mayB, Bool.and_eq_true, decide_eq_true_eq] using hh
    rw [hm] at this
    cases this)
  clear hm
  have h1 : (n : Int) ≤ 1000000 := by omega
  by_cases t0 : t < 0
  · go_enter Try.func38, Try.ntmps38
    go_wp2_with fail
    go_ret2
    exact ⟨rfl, Below.refl _ _⟩
  by_cases t1 : 252 < t
  · have t0' : 0 ≤ t := by omega
    go_enter Try.func38, Try.ntmps38
    go_wp2_with fail
    go_ret2
    exact ⟨rfl, Below.refl _ _⟩
  have t0' : 0 ≤ t := by omega
  have t1' : t ≤ 252 := by omega
  by_cases t4 : t % 4 = 0
  · have hb1 : (t % 4 != 0) = false := by simpa using t4
    have HT := hide t4
    clear t4
    by_cases n4 : (n : Int) % 4 = 0
    · have hb2 : ((n : Int) % 4 != 0) = false := by simpa using n4
      have HN4 := hide n4
      clear n4
      by_cases big : 262140 < (n : Int)
      · go_enter Try.func38, Try.ntmps38
        go_wp2_with fail
        go_ret2
        exact ⟨rfl, Below.refl _ _⟩
      · have big' : (n : Int) ≤ 262140 := by omega
        have HR : Hid (rightB c k (4 + n + t) = false) := hide (by
          cases hr : rightB c k (4 + n + t) with
          | false => rfl
          | true => exact absurd ⟨⟨t0', t1', HT.out, HN4.out⟩, hr⟩ HM.out)
        go_enter Try.func38, Try.ntmps38
        go_wp2_with fail
        refine (write_no _ _ _ _ _ HR.out).mono ?_
        rintro e w1 ⟨rfl, b1⟩
        have HB1 := hide (((Below.refl w.heap.size w).alloc (Nat.le_refl _) _).trans (b1.mono (by simp)))
        clear b1
        go_wp2_with fail
        go_ret2
        exact ⟨rfl, HB1.out⟩
    · have hb2 : ((n : Int) % 4 != 0) = true := by simpa using n4
      have HN4 := hide n4
      clear n4
      go_enter Try.func38, Try.ntmps38
      go_wp2_with fail
      go_ret2
      exact ⟨rfl, Below.refl _ _⟩
  · have hb1 : (t % 4 != 0) = true := by simpa using t4
    have HT := hide t4
    clear t4
    go_enter Try.func38, Try.ntmps38
    go_wp2_with fail
    go_ret2
    exact ⟨rfl, Below.refl _ _⟩

set_option maxHeartbeats 1000000 in
theorem may_any (k c : Int) (ad : Option Addr) (n cap : Nat) (t : Int) (w : World) (hn : n ≤ 1000000) :
    Calls Try.prog 39 #[.int .i64 k, .int .i64 c, .slice ad n cap, .int .i64 t] w fun e w' => e = .returned (.bool (mayB k c n t)) ∧ Below w.heap.size w w' := by
  have h1 : (n : Int) ≤ 1000000 := by omega
  have HF : Hid (¬ (0 ≤ t ∧ t ≤ 252 ∧ t % 4 = 0 ∧ (n : Int) % 4 = 0) → mayB k c n t = false) := hide (fun h => by simp only [mayB, decide_eq_false h, Bool.false_and])
  by_cases t0 : t < 0
  · have H := hide (HF.out (by omega))
    go_enter Try.func39, Try.ntmps39
    go_wp2_with fail
    go_ret
    exact ⟨by rw [H.out]; rfl, Below.refl _ _⟩
  by_cases t1 : 252 < t
  · have t0' : 0 ≤ t := by omega
    have H := hide (HF.out (by omega))
    go_enter Try.func39, Try.ntmps39
    go_wp2_with fail
    go_ret
    exact ⟨by rw [H.out]; rfl, Below.refl _ _⟩
  have t0' : 0 ≤ t := by omega
  have t1' : t ≤ 252 := by omega
  by_cases t4 : t % 4 = 0
  · have hb1 : (t % 4 != 0) = false := by simpa using t4
    have HT := hide t4
    clear t4
    by_cases n4 : (n : Int) % 4 = 0
    · have hb2 : ((n : Int) % 4 != 0) = false := by simpa using n4
      have H : Hid (mayB k c n t = rightB c k (4 + n + t)) := hide (by simp only [mayB, decide_eq_true (And.intro t0' (And.intro t1' (And.intro HT.out n4))), Bool.true_and])
      clear n4
      go_enter Try.func39, Try.ntmps39
      go_wp2_with fail
      refine (rright_any _ _ _ _ _).mono ?_
      rintro e w1 ⟨rfl, b1⟩
      have HB1 := hide b1
      clear b1
      go_wp2_with fail
      go_ret
      exact ⟨by rw [H.out]; rfl, HB1.out⟩
    · have hb2 : ((n : Int) % 4 != 0) = true := by simpa using n4
      have H := hide (HF.out (by omega))
      clear n4
      go_enter Try.func39, Try.ntmps39
      go_wp2_with fail
      go_ret
      exact ⟨by rw [H.out]; rfl, Below.refl _ _⟩
  · have hb1 : (t % 4 != 0) = true := by simpa using t4
    have H := hide (HF.out (by omega))
    clear t4
    go_enter Try.func39, Try.ntmps39
    go_wp2_with fail
    go_ret
    exact ⟨by rw [H.out]; rfl, Below.refl _ _⟩

set_option maxHeartbeats 1000000 in
theorem rclose_yes (k c : Int) (ad : Option Addr) (n cap : Nat) (l : List UInt8) (m : Nat) (w : World) (hn : n = l.length) (h : IsB w (.slice ad n cap) l) (hm : mayB k c n m = true) :
    Calls Try.prog 40 #[.int .i64 k, .int .i64 c, .slice ad n cap, .int .i64 m] w (RetOwn1 w (closeL k c l m)) := by
  obtain ⟨⟨_, g2, g3, g4⟩, hr⟩ := may_spec hm
  have q := right_spec hr
  have hl : (n : Int) ≤ 262140 := by omega
  have HN := hide hn
  have HB := hide h
  clear hm g3 g4 q h hn
  by_cases h0 : m = 0
  · subst h0
    have HR : Hid (rightB c k (4 + n) = true) := hide (by simpa using hr)
    have HJ : Hid ((wrL false c k (4 + n)).length + l.length ≤ 140737488355328) := hide (by have := HN.out; simp [wrL_length]; omega)
    have HL : Hid (closeL k c l 0 = wrL false c k (4 + n) ++ l) := hide (by simp [closeL, ← HN.out])
    clear hr
    go_enter Try.func40, Try.ntmps40
    go_wp2_with fail
    refine (rwrite_yes _ _ _ _ _ HR.out).mono ?_
    rintro e w1 ⟨v1, rfl, o1, b1⟩
    have HI := hide (HB.out.below b1)
    have HO := hide o1
    have HB1 := hide b1
    have z1 := b1.size
    clear b1 o1
    go_wp2_with (at_builtin; refine wpList_append_B HO.out HI.out HJ.out (by omega) rfl rfl ?_)
    intro v2 w2 o2 b2
    have HO2 := hide o2
    have HB2 := hide (HB1.out.trans b2)
    clear o2 b2
    go_wp2_with fail
    go_ret
    exact ⟨_, rfl, by rw [HL.out]; exact HO2.out, HB2.out⟩
  · have hp : (0 : Int) < m := by omega
    have HR : Hid (rightB c k (4 + n + m) = true) := hide hr
    have HJ : Hid ((wrL true c k (4 + n + m)).length + l.length ≤ 140737488355328) := hide (by have := HN.out; simp [wrL_length]; omega)
    have HJ2 : Hid ((wrL true c k (4 + n + m) ++ l).length ≤ 1000000) := hide (by have := HN.out; simp [wrL_length]; omega)
    have HL : Hid (closeL k c l m = addL (wrL true c k (4 + n + m) ++ l) m) := hide (by simp [closeL, ← HN.out, h0])
    have HM : Hid (1 ≤ m ∧ m ≤ 255) := hide (by omega)
    have HD : Hid (decide (0 < m) = true) := hide (by simp; omega)
    clear hr h0
    go_enter Try.func40, Try.ntmps40
    go_wp2_with fail
    refine (rwrite_yes _ _ _ _ _ HR.out).mono ?_
    rintro e w1 ⟨v1, rfl, o1, b1⟩
    have HI := hide (HB.out.below b1)
    have HO := hide o1
    have HB1 := hide b1
    have z1 := b1.size
    clear b1 o1
    go_wp2_with (at_builtin; refine wpList_append_B HO.out HI.out HJ.out (by omega) rfl rfl ?_)
    intro v2 w2 o2 b2
    have HO2 := hide o2
    have HB2 := hide (HB1.out.trans b2)
    have z2 := b2.size
    clear o2 b2
    go_wp2_with fail
    refine (radd_any _ _ m _ HO2.out.isB HJ2.out HM.out.1 HM.out.2).mono ?_
    rintro e w3 ⟨v3, rfl, o3, b3⟩
    have HO3 := hide o3
    have HB3 := hide (HB2.out.trans (b3.mono (by omega)))
    clear b3 o3
    go_wp2_with fail
    go_ret
    exact ⟨_, rfl, by have o := HO3.out.mono (base' := w.heap.size) (by omega); rw [HD.out] at o; rw [HL.out]; exact o, HB3.out⟩

end Go.Proofs.Ytellclclpmofcaa
