/-
  The contract of train.Split; conditions: the argument reads as bytes, of no more than 1000000.
-/
import Derived.Test.YtellclclpmofcaaTList
namespace Go.Proofs.Ytellclclpmofcaa
open Go.RowKit

theorem IsL.oneAt {w : World} {v : Value} {l : List UInt8} {t : TypeId} {cs : Array Value} {g : Nat} (h : IsB w v l) (hcs : cs = #[v]) (hg : g = w.heap.size) : IsL (w.alloc (.cells cs t)) (.slice (some ⟨g, 0, none⟩) 1 1) [l] := by
  subst hg
  exact IsL.one h hcs

theorem slV_lo {w : World} {a : Option Addr} {n cap : Nat} {r : List UInt8} {m : Nat} (hn : n = r.length) (h : IsB w (.slice a n cap) r) (hm : m ≤ n) : ∃ a3 c3, slV (.slice a n cap) m r.length = .slice a3 (n - m) c3 ∧ IsB w (.slice a3 (n - m) c3) (r.drop m) := by
  have h1 := h.slice (lo := m) (hi := r.length) (by omega) (Nat.le_refl _)
  rw [List.take_length] at h1
  refine ⟨_, _, by rw [slV, ← hn], ?_⟩
  rw [slV, ← hn] at h1
  exact h1

theorem slV_hi {w : World} {a : Option Addr} {n cap : Nat} {r : List UInt8} {m : Nat} (hn : n = r.length) (h : IsB w (.slice a n cap) r) (hm : m ≤ n) : ∃ a3 c3, slV (.slice a n cap) 0 m = .slice a3 m c3 ∧ IsB w (.slice a3 m c3) (r.take m) := by
  have h1 := h.slice (lo := 0) (hi := m) (by omega) (by omega)
  rw [List.drop_zero] at h1
  exact ⟨_, _, rfl, h1⟩

set_option maxRecDepth 100000 in
set_option maxHeartbeats 2000000 in
theorem split_walk (ad : Option Addr) (n cap : Nat) (l : List UInt8) (w : World) (hn : n = l.length) (hm : n ≤ 1000000) (h : IsB w (.slice ad n cap) l) : Calls Try.prog 41 #[.slice ad n cap] w (RetSp w l) := by
  by_cases hl0 : l = []
  · subst hl0
    obtain rfl : n = 0 := hn
    clear h hm
    go_enter Try.func41, Try.ntmps41
    go_wp2_with fail
    go_ret2
    exact ⟨_, rfl, by rw [spL, sp_nil]; exact IsL.nil _, Below.refl _ _⟩
  have HL0 := hide hl0
  have hpos : 1 ≤ n := by
    have := List.length_pos_iff.2 hl0
    omega
  have hnz : ((n : Int) == 0) = false := by simp; omega
  have HB0 := hide h
  have HN0 := hide hn
  clear h hn hl0
  go_enter Try.func41, Try.ntmps41
  go_wp2_with fail
  go_loopw [0, 4] (fun b t wr => ∃ r done, IsB w b r ∧ OwnL wr w.heap.size t done ∧ Below w.heap.size w wr ∧ sp l = pre done (sp r) ∧ r.length + done.length ≤ n) (fun b _ _ => slLen b)
  case atStart => exact ⟨l, [], HB0.out, OwnL.nil _ _, Below.refl _ _, by rw [pre_nil _ (sp_bad_nil l)], by rw [HN0.out]; simp⟩
  case round =>
    obtain ⟨r, done, ib, ol, bw, hsp, hlen⟩ := hrel
    obtain ⟨a2, n2, c2, rfl, hn2, -⟩ := ib.len'
    have HB := hide ib
    have HOL := hide ol
    have HW := hide bw
    have HSP := hide hsp
    have HLE := hide hlen
    have zr := bw.size
    have HN := hide hn2
    clear ib ol bw hsp hlen hn2
    by_cases h0 : n2 = 0
    · subst h0
      have hr0 : r = [] := List.eq_nil_of_length_eq_zero HN.out.symm
      subst hr0
      have HD : Hid (sp l = (0, done)) := hide (by rw [HSP.out, sp_nil]; simp [pre])
      go_wp2_with fail
      go_ret2
      exact ⟨_, by rw [spE, if_neg HL0.out, HD.out]; rfl, by rw [spL, HD.out]; exact HOL.out.isL, HW.out⟩
    · have hp2 : (0 : Int) < n2 := by omega
      have hrn : r ≠ [] := by
        intro e
        have := HN.out
        rw [e] at this
        exact h0 this
      have HRN := hide hrn
      clear hrn h0
      by_cases e0 : rdE r = 0
      · obtain ⟨p, hp⟩ : ∃ p, p = rdP r := ⟨_, rfl⟩
        obtain ⟨c, hc⟩ : ∃ c, c = rdN r := ⟨_, rfl⟩
        obtain ⟨t, ht⟩ : ∃ t, t = rdT r := ⟨_, rfl⟩
        obtain ⟨m, hs⟩ : ∃ m, m = (rdS r).toNat := ⟨_, rfl⟩
        have hle := rd_le e0
        have hsz := rd_size e0
        have hms : rdS r = (m : Int) := by omega
        have HV : Hid (rdV r = .agg #[.bool p, .int .i64 c, .int .i64 t, .int .i64 m]) := hide (by rw [rdV, hp, hc, ht, hms])
        have HP := hide hp
        have HM := hide hs
        have HE := hide e0
        rw [hms] at hle hsz
        obtain ⟨q1, q2, _⟩ := hle
        have q3 : m ≤ n2 := by have := HN.out; omega
        have q4 : 4 ≤ m := by omega
        obtain ⟨a3, c3, hv3, hc3⟩ := slV_hi HN.out HB.out q3
        obtain ⟨a4, c4, hv4, hc4⟩ := slV_lo HN.out HB.out q3
        have HV3 := hide hv3
        have HC := hide hc3
        have HV4 := hide hv4
        have HD := hide hc4
        obtain ⟨n4, hn4⟩ : ∃ n4, n4 = n2 - m := ⟨_, rfl⟩
        have HN4' := hide hn4
        rw [← hn4] at hc4 hv4
        have HV4 := hide hv4
        have HD := hide hc4
        obtain ⟨n3, hn3⟩ : ∃ n3, n3 = m := ⟨_, rfl⟩
        have HL3 : Hid ((r.take m).length = m) := hide (by have := HN.out; simp; omega)
        have HRL : Hid ((r.drop m).length = n4) := hide (by have := HN.out; simp; omega)
        have hn4lt : n4 < n2 := by omega
        have q5 : m ≤ r.length := by have := HN.out; omega
        have Q5 := hide q5
        have HJ : Hid (([r.take m] : List (List UInt8)).flatten.length ≤ 1000000) := hide (by have := HLE.out; simp; omega)
        have HLen : Hid (done.length ≤ 1000000) := hide (by have := HLE.out; omega)
        have HN4 : Hid ((r.drop m).length + (done ++ [r.take m]).length ≤ n) := hide (by have := HLE.out; have := HN.out; simp; omega)
        clear hp hc ht hs e0 hms q1 q2 hv3 hc3 hv4 hc4 hn4 hsz q5
        subst hn3
        cases p
        · have HS4 : Hid (sp l = pre (done ++ [r.take n3]) (sp (r.drop n3))) := hide (by
            rw [HSP.out, sp_cons HE.out (fun hp => by rw [← HP.out] at hp; cases hp), pre_pre, ← HM.out])
          go_wp2_with fail
          refine (read_any _ _ _ (HB.out.below HW.out)).mono ?_
          rintro e w1 ⟨rfl, b1⟩
          rw [HE.out, HV.out]
          have z1 := b1.size
          have HX1 := hide (HW.out.trans (b1.mono zr))
          have zz1 : w.heap.size ≤ w1.heap.size := by omega
          have HX := hide (HX1.out.alloc zz1 (.cells #[.bool false, .int .i64 c, .int .i64 t, .int .i64 n3] 23))
          have HKX := hide (b1.alloc z1 (.cells #[.bool false, .int .i64 c, .int .i64 t, .int .i64 n3] 23))
          have HX3 : Hid (wr.heap.size ≤ w1.heap.size) := hide z1
          clear b1
          go_wp2_with (first | ((with_reducible show wpList _ _ _ (Oper.mk _ (.slice 24 _ none (some _) none) _ _ _ _ :: _) _ _); refine wpList_slice_hi (HB.out.below HX.out) n3 Q5.out rfl (by rfl) rfl rfl ?_; rw [HV3.out]) | ((with_reducible show wpList _ _ _ (Oper.mk _ (.slice 24 _ (some _) none none) _ _ _ _ :: _) _ _); refine wpList_slice_lo (HB.out.below HX.out) n3 Q5.out rfl (by rfl) rfl rfl ?_; rw [HV4.out]))
          refine (join_any _ _ _ (IsL.oneAt (t := 24) (HC.out.below HX.out) rfl (by simp)) HJ.out).mono ?_
          rintro e w3 ⟨v3, rfl, o3, b3⟩
          obtain ⟨a5, n5, c5, rfl, -⟩ := o3.isB.len'
          have z3 := b3.size
          have zx := HKX.out.size
          have zy := HX.out.size
          have zw := HX3.out
          simp only [World.size_alloc] at z3 zx zy zw
          have HX3' := hide (HX.out.alloc (by first | omega | (simp; omega)) (.cells #[.slice a3 n3 c3] 24))
          have HW3 := hide (HX3'.out.trans (b3.mono (by first | omega | (simp; omega))))
          have HL3 := hide ((HOL.out.below ((HKX.out.alloc (by first | omega | (simp; omega)) _).trans (b3.mono (by first | omega | (simp; omega))))).below ((Below.refl _ _).alloc (Nat.le_refl _) (.cells #[.slice a5 n5 c5] 24)))
          have HO3 := hide ((o3.mono (base' := w.heap.size) (by first | omega | (simp; omega))).below ((Below.refl _ _).alloc (Nat.le_refl _) (.cells #[.slice a5 n5 c5] 24)))
          have zz : w.heap.size ≤ w3.heap.size := by omega
          clear b3 o3
          go_wp2_with (refine wpList_append_L HL3.out HO3.out (heap_alloc_new _ _) HLen.out (by first | omega | (simp; omega)) rfl rfl ?_)
          intro v4 w4 o4 b4
          have HO4 := hide o4
          have HW4 := hide ((HW3.out.alloc zz _).trans b4)
          clear o4 b4
          go_wp2_with fail
          go_roundw
          case rel => exact ⟨r.drop n3, done ++ [r.take n3], HD.out, by have := HO4.out; simpa using this, HW4.out, HS4.out, HN4.out⟩
          case measure => simp [slLen]; omega
        · by_cases hrest : n4 = 0
          · subst hrest
            have hdn : r.drop n3 = [] := List.eq_nil_of_length_eq_zero HRL.out
            obtain ⟨er, her⟩ : ∃ er, er = trE ((r.take n3).drop 4) := ⟨_, rfl⟩
            have HER := hide her
            have HL4 : Hid (4 ≤ (r.take n3).length) := hide (by rw [HL3.out]; exact q4)
            by_cases her0 : er = 0
            · have HS4 : Hid (sp l = pre (done ++ [r.take n3]) (sp (r.drop n3))) := hide (by
                rw [HSP.out, sp_cons HE.out (fun _ => by rw [← HM.out]; exact ⟨hdn, by rw [← her]; exact her0⟩), pre_pre, ← HM.out])
              subst her0
              clear her hdn
              go_wp2_with fail
              refine (read_any _ _ _ (HB.out.below HW.out)).mono ?_
              rintro e w1 ⟨rfl, b1⟩
              rw [HE.out, HV.out]
              have z1 := b1.size
              have HX1 := hide (HW.out.trans (b1.mono zr))
              have zz1 : w.heap.size ≤ w1.heap.size := by omega
              have HX := hide (HX1.out.alloc zz1 (.cells #[.bool true, .int .i64 c, .int .i64 t, .int .i64 n3] 23))
              have HKX := hide (b1.alloc z1 (.cells #[.bool true, .int .i64 c, .int .i64 t, .int .i64 n3] 23))
              have HX3 : Hid (wr.heap.size ≤ w1.heap.size) := hide z1
              clear b1
              go_wp2_with (first | ((with_reducible show wpList _ _ _ (Oper.mk _ (.slice 24 _ none (some _) none) _ _ _ _ :: _) _ _); refine wpList_slice_hi (HB.out.below HX.out) n3 Q5.out rfl (by rfl) rfl rfl ?_; rw [HV3.out]) | ((with_reducible show wpList _ _ _ (Oper.mk _ (.slice 24 _ (some _) none none) _ _ _ _ :: _) _ _); refine wpList_slice_lo (HB.out.below HX.out) n3 Q5.out rfl (by rfl) rfl rfl ?_; rw [HV4.out]))
              refine (trailer_any _ _ _ (HC.out.below HX.out) HL4.out).mono ?_
              rintro e w2 ⟨rfl, b2⟩
              rw [← HER.out]
              have z2 := b2.size
              simp only [World.size_alloc] at z2
              have HXo := HX
              have HKXo := HKX
              clear HX HKX HX3
              have HX := hide (HXo.out.trans (b2.mono (by first | omega | (simp; omega))))
              have HKX := hide (HKXo.out.trans (b2.mono (by first | omega | (simp; omega))))
              have HX3 : Hid (wr.heap.size ≤ w2.heap.size) := hide (by omega)
              clear b2 HXo HKXo
              go_wp2_with fail
              refine (join_any _ _ _ (IsL.oneAt (t := 24) (HC.out.below HX.out) rfl (by simp)) HJ.out).mono ?_
              rintro e w3 ⟨v3, rfl, o3, b3⟩
              obtain ⟨a5, n5, c5, rfl, -⟩ := o3.isB.len'
              have z3 := b3.size
              have zx := HKX.out.size
              have zy := HX.out.size
              have zw := HX3.out
              simp only [World.size_alloc] at z3 zx zy zw
              have HX3' := hide (HX.out.alloc (by first | omega | (simp; omega)) (.cells #[.slice a3 n3 c3] 24))
              have HW3 := hide (HX3'.out.trans (b3.mono (by first | omega | (simp; omega))))
              have HL3 := hide ((HOL.out.below ((HKX.out.alloc (by first | omega | (simp; omega)) _).trans (b3.mono (by first | omega | (simp; omega))))).below ((Below.refl _ _).alloc (Nat.le_refl _) (.cells #[.slice a5 n5 c5] 24)))
              have HO3 := hide ((o3.mono (base' := w.heap.size) (by first | omega | (simp; omega))).below ((Below.refl _ _).alloc (Nat.le_refl _) (.cells #[.slice a5 n5 c5] 24)))
              have zz : w.heap.size ≤ w3.heap.size := by omega
              clear b3 o3
              go_wp2_with (refine wpList_append_L HL3.out HO3.out (heap_alloc_new _ _) HLen.out (by first | omega | (simp; omega)) rfl rfl ?_)
              intro v4 w4 o4 b4
              have HO4 := hide o4
              have HW4 := hide ((HW3.out.alloc zz _).trans b4)
              clear o4 b4
              go_wp2_with fail
              go_roundw
              case rel => exact ⟨r.drop n3, done ++ [r.take n3], HD.out, by have := HO4.out; simpa using this, HW4.out, HS4.out, HN4.out⟩
              case measure => simp [slLen]; omega
            · have HS4 : Hid (sp l = (er, [])) := hide (by
                have h5 : er = 5 := by
                  rw [her] at her0 ⊢
                  unfold trE at her0 ⊢
                  split at her0
                  · rw [if_pos ‹_›]
                  · exact absurd rfl her0
                rw [HSP.out, sp_bad HE.out HP.out.symm (.inr (by rw [← HM.out, ← her]; exact her0)), h5]
                rfl)
              have hb2 : (er != 0) = true := by simpa using her0
              clear her hdn her0
              go_wp2_with fail
              refine (read_any _ _ _ (HB.out.below HW.out)).mono ?_
              rintro e w1 ⟨rfl, b1⟩
              rw [HE.out, HV.out]
              have z1 := b1.size
              have HX1 := hide (HW.out.trans (b1.mono zr))
              have zz1 : w.heap.size ≤ w1.heap.size := by omega
              have HX := hide (HX1.out.alloc zz1 (.cells #[.bool true, .int .i64 c, .int .i64 t, .int .i64 n3] 23))
              have HKX := hide (b1.alloc z1 (.cells #[.bool true, .int .i64 c, .int .i64 t, .int .i64 n3] 23))
              have HX3 : Hid (wr.heap.size ≤ w1.heap.size) := hide z1
              clear b1
              go_wp2_with (first | ((with_reducible show wpList _ _ _ (Oper.mk _ (.slice 24 _ none (some _) none) _ _ _ _ :: _) _ _); refine wpList_slice_hi (HB.out.below HX.out) n3 Q5.out rfl (by rfl) rfl rfl ?_; rw [HV3.out]) | ((with_reducible show wpList _ _ _ (Oper.mk _ (.slice 24 _ (some _) none none) _ _ _ _ :: _) _ _); refine wpList_slice_lo (HB.out.below HX.out) n3 Q5.out rfl (by rfl) rfl rfl ?_; rw [HV4.out]))
              refine (trailer_any _ _ _ (HC.out.below HX.out) HL4.out).mono ?_
              rintro e w2 ⟨rfl, b2⟩
              rw [← HER.out]
              have HX2 := hide (HX.out.trans (b2.mono (by first | omega | (simp; omega))))
              clear b2
              go_wp2_with fail
              go_ret2
              exact RetSp.bad HL0.out HS4.out HX2.out
          · have hrp : (0 : Int) < n4 := by omega
            have HS4 : Hid (sp l = (5, [])) := hide (by
              rw [HSP.out, sp_bad HE.out HP.out.symm (.inl (by rw [← HM.out]; intro e; have := HRL.out; rw [e] at this; exact hrest this.symm))]
              rfl)
            clear hrest
            go_wp2_with fail
            refine (read_any _ _ _ (HB.out.below HW.out)).mono ?_
            rintro e w1 ⟨rfl, b1⟩
            rw [HE.out, HV.out]
            have z1 := b1.size
            have HX1 := hide (HW.out.trans (b1.mono zr))
            have zz1 : w.heap.size ≤ w1.heap.size := by omega
            have HX := hide (HX1.out.alloc zz1 (.cells #[.bool true, .int .i64 c, .int .i64 t, .int .i64 n3] 23))
            have HKX := hide (b1.alloc z1 (.cells #[.bool true, .int .i64 c, .int .i64 t, .int .i64 n3] 23))
            have HX3 : Hid (wr.heap.size ≤ w1.heap.size) := hide z1
            clear b1
            go_wp2_with (first | ((with_reducible show wpList _ _ _ (Oper.mk _ (.slice 24 _ none (some _) none) _ _ _ _ :: _) _ _); refine wpList_slice_hi (HB.out.below HX.out) n3 Q5.out rfl (by rfl) rfl rfl ?_; rw [HV3.out]) | ((with_reducible show wpList _ _ _ (Oper.mk _ (.slice 24 _ (some _) none none) _ _ _ _ :: _) _ _); refine wpList_slice_lo (HB.out.below HX.out) n3 Q5.out rfl (by rfl) rfl rfl ?_; rw [HV4.out]))
            go_ret2
            exact RetSp.bad HL0.out HS4.out HX.out
      · obtain ⟨x, hx⟩ : ∃ x, x = rdE r := ⟨_, rfl⟩
        have HXE := hide hx
        have hb : (x != 0) = true := by rw [hx]; simpa using e0
        have HV := hide (rdV_zero e0)
        have HS4 : Hid (sp l = (x, [])) := hide (by rw [HSP.out, sp_err e0 HRN.out, ← hx, pre, if_neg (by simpa [hx] using e0)])
        clear hx e0
        go_wp2_with fail
        refine (read_any _ _ _ (HB.out.below HW.out)).mono ?_
        rintro e w1 ⟨rfl, b1⟩
        rw [← HXE.out, HV.out]
        have z1 := b1.size
        have HX1 := hide (HW.out.trans (b1.mono zr))
        clear b1
        go_wp2_with fail
        go_ret2
        exact RetSp.bad HL0.out HS4.out (HX1.out.alloc (by omega) _)

theorem split_any (v : Value) (l : List UInt8) (w : World) (h : IsB w v l) (hl : l.length ≤ 1000000) : Calls Try.prog 41 #[v] w (RetSp w l) := by
  obtain ⟨a, n, cap, rfl, hn, h1, h2⟩ := h.len'
  exact split_walk a n cap l w hn (by omega) h

end Go.Proofs.Ytellclclpmofcaa
