/-
  The contract of crossbarref11.Split; conditions: the argument reads as bytes, of no more than 1000000.
-/
import Derived.Test.YtellclclpmofcaaTSplit
namespace Go.Proofs.Ytellclclpmofcaa
open Go.RowKit

theorem rd_take {r : List UInt8} (h : rdE r = 0) : rdE (r.take (rdS r).toNat) = 0 ∧ rdP (r.take (rdS r).toNat) = rdP r ∧ rdS (r.take (rdS r).toNat) = rdS r := by
  obtain ⟨x0, x1, x2, x3, q, rfl, hv, hl⟩ := rd_ok h
  have hs : rdS (x0 :: x1 :: x2 :: x3 :: q) = ((4 * (x2.toNat * 256 + x3.toNat + 1) : Nat) : Int) := by rw [rdS, if_pos h]
  rw [hs, Int.toNat_natCast]
  obtain ⟨j, hj⟩ : ∃ j, 4 * (x2.toNat * 256 + x3.toNat + 1) = j + 4 := ⟨4 * (x2.toNat * 256 + x3.toNat), by omega⟩
  have ht : (x0 :: x1 :: x2 :: x3 :: q).take (4 * (x2.toNat * 256 + x3.toNat + 1)) = x0 :: x1 :: x2 :: x3 :: q.take j := by
    rw [hj]
    rfl
  rw [ht]
  have h0 : rdE (x0 :: x1 :: x2 :: x3 :: q.take j) = 0 := by
    rw [rdE_cons, if_neg (by omega), if_neg]
    simp only [List.length_cons] at hl
    rw [List.length_take]
    omega
  refine ⟨h0, ?_, ?_⟩
  · rw [rdP, rdP, if_pos h0, if_pos h]
  · rw [rdS, if_pos h0]

theorem opE_car {r : List UInt8} (h : rdE r = 0) : opE (r.take (rdS r).toNat) = if rdP r = true then trE ((r.take (rdS r).toNat).drop 4) else 0 := by
  obtain ⟨h1, h2, h3⟩ := rd_take h
  have hle := rd_le h
  rw [opE, if_neg (by simp [h1]), h3, if_neg (by simp only [List.length_take]; omega), h2]

theorem slV_lh {w : World} {a : Option Addr} {n cap : Nat} {r : List UInt8} {k m : Nat} (h : IsB w (.slice a n cap) r) (h2 : k + m ≤ r.length) : ∃ a3 c3, slV (.slice a n cap) k (k + m) = .slice a3 m c3 ∧ IsB w (.slice a3 m c3) ((r.drop k).take m) := by
  have h1 := h.slice (lo := k) (hi := k + m) (by omega) h2
  rw [slV, Nat.add_sub_cancel_left] at h1
  refine ⟨_, _, by rw [slV, Nat.add_sub_cancel_left], ?_⟩
  rwa [List.drop_take, Nat.add_sub_cancel_left] at h1

/-- append onto '[]byte{}'. -/
theorem wpList_append_E1 {ops : Array Oper} {Q : Exit → Act → World → Prop} {a : Act} {w : World} {rest : List Oper} {dst : Option Tmp} {s x : Operand} {ty : TypeId} {pos : String} {after : Array Edge} {g : Nat}
    {vx : Value} {lx : List UInt8} (hb : IsB (w.alloc (.cells #[] 5)) vx lx) (hlen : lx.length ≤ 140737488355328) (hg : g = w.heap.size) (hs : a.eval s = .slice (some ⟨g, 0, none⟩) 0 0) (hx : a.eval x = vx)
    (hK : ∀ v' w', Own w' w.heap.size v' lx → Below (w.alloc (.cells #[] 5)).heap.size (w.alloc (.cells #[] 5)) w' → wpList Try.prog ops Q rest (a.put dst v') w') : wpList Try.prog ops Q (⟨dst, .call { callee := .builtin .append, args := #[s, x], argTypes := #[24, 24] }, ty, pos, after, none⟩ :: rest) a (w.alloc (.cells #[] 5)) := by
  subst hg
  exact wpList_plain rfl fun _ hK' => wp_append_E rfl hs (Own.empty (Nat.le_refl _) _ rfl) hx hb hlen (by simp) fun v' w' h1 h2 => hK' _ _ (hK v' w' h1 h2)

set_option maxRecDepth 100000 in
set_option maxHeartbeats 2000000 in
theorem rsplit_walk (ad : Option Addr) (n cap : Nat) (l : List UInt8) (w : World) (hn : n = l.length) (hm : n ≤ 1000000) (h : IsB w (.slice ad n cap) l) : Calls Try.prog 42 #[.slice ad n cap] w (RetSp w l) := by
  by_cases hl0 : l = []
  · subst hl0
    obtain rfl : n = 0 := hn
    clear h hm
    go_enter Try.func42, Try.ntmps42
    go_wp2_with fail
    go_ret2
    exact ⟨_, rfl, by rw [spL, sp_nil]; exact IsL.nil _, Below.refl _ _⟩
  have HL0 := hide hl0
  have hpos : 1 ≤ n := by
    have := List.length_pos_iff.2 hl0
    omega
  have hnz : ((n : Int) == 0) = false := by simp; omega
  have HB := hide h
  have HN := hide hn
  clear h hn hl0
  go_enter Try.func42, Try.ntmps42
  go_wp2_with fail
  go_loopw [4, 5] (fun t i wr => ∃ (k : Nat) (done : List (List UInt8)), i = .int .i64 k ∧ k ≤ n ∧ OwnL wr w.heap.size t done ∧ Below w.heap.size w wr ∧ sp l = pre done (sp (l.drop k)) ∧ done.length ≤ k) (fun _ i _ => n - (intOf i).toNat)
  case atStart => exact ⟨0, [], rfl, Nat.zero_le _, OwnL.nil _ _, Below.refl _ _, by rw [List.drop_zero, pre_nil _ (sp_bad_nil l)], Nat.le_refl _⟩
  case round =>
    obtain ⟨k, done, rfl, hk, ol, bw, hsp, hlen⟩ := hrel
    have HOL := hide ol
    have HW := hide bw
    have HSP := hide hsp
    have HLE := hide hlen
    have zr := bw.size
    clear ol bw hsp hlen
    by_cases h0 : k = n
    · subst h0
      have hr0 : l.drop k = [] := List.drop_of_length_le (by have := HN.out; omega)
      have HD : Hid (sp l = (0, done)) := hide (by rw [HSP.out, hr0, sp_nil]; simp [pre])
      clear hr0
      go_wp2_with fail
      go_ret2
      exact ⟨_, by rw [spE, if_neg HL0.out, HD.out]; rfl, by rw [spL, HD.out]; exact HOL.out.isL, HW.out⟩
    · have hkn : k < n := by omega
      have hkn2 : (k : Int) < n := by omega
      have HRL : Hid ((l.drop k).length = n - k) := hide (by rw [List.length_drop, HN.out])
      have HRN : Hid (l.drop k ≠ []) := hide (by intro e; have := HRL.out; rw [e] at this; simp at this; omega)
      have HKL : Hid (k ≤ l.length) := hide (by have := HN.out; omega)
      obtain ⟨a4, c4, hv4, hc4⟩ := slV_lo HN.out HB.out hk
      have HV4 := hide hv4
      have HR := hide hc4
      clear h0 hv4 hc4
      by_cases e0 : rdE (l.drop k) = 0
      · obtain ⟨p, hp⟩ : ∃ p, p = rdP (l.drop k) := ⟨_, rfl⟩
        obtain ⟨c, hc⟩ : ∃ c, c = rdN (l.drop k) := ⟨_, rfl⟩
        obtain ⟨t, ht⟩ : ∃ t, t = rdT (l.drop k) := ⟨_, rfl⟩
        obtain ⟨m, hs⟩ : ∃ m, m = (rdS (l.drop k)).toNat := ⟨_, rfl⟩
        have hle := rd_le e0
        have hsz := rd_size e0
        have hms : rdS (l.drop k) = (m : Int) := by omega
        have HV : Hid (rdV (l.drop k) = .agg #[.bool p, .int .i64 c, .int .i64 t, .int .i64 m]) := hide (by rw [rdV, hp, hc, ht, hms])
        have HP := hide hp
        have HM := hide hs
        have HE := hide e0
        rw [hms] at hle hsz
        obtain ⟨q1, q2, _⟩ := hle
        have q3 : k + m ≤ n := by have := HRL.out; omega
        have q4 : 4 ≤ m := by omega
        have q6 : m ≤ 262144 := by omega
        have hkm : (k : Int) + m ≤ n := by omega
        have HK2 : Hid (k ≤ k + m) := hide (by omega)
        have HK3 : Hid (k + m ≤ l.length) := hide (by have := HN.out; omega)
        obtain ⟨a3, c3, hv3, hc3⟩ := slV_lh HB.out HK3.out
        have HV3 := hide hv3
        have HC := hide hc3
        have HOE0 := hide (opE_car e0)
        have HL3 : Hid (((l.drop k).take m).length = m) := hide (by have := HRL.out; rw [List.length_take]; omega)
        have HLc : Hid (((l.drop k).take m).length ≤ 140737488355328) := hide (by have := HL3.out; omega)
        have HDD : Hid ((l.drop k).drop m = l.drop (k + m)) := hide (by rw [List.drop_drop])
        have HLen : Hid (done.length ≤ 1000000) := hide (by have := HLE.out; omega)
        have HN4 : Hid ((done ++ [(l.drop k).take m]).length ≤ k + m) := hide (by have := HLE.out; simp; omega)
        clear hp hc ht hs e0 hms q1 q2 hv3 hc3 hsz
        cases p
        · have HS4 : Hid (sp l = pre (done ++ [(l.drop k).take m]) (sp (l.drop (k + m)))) := hide (by
            rw [HSP.out, sp_cons HE.out (fun hp => by rw [← HP.out] at hp; cases hp), pre_pre, ← HM.out, HDD.out])
          have HOE : Hid (opE ((l.drop k).take m) = 0) := hide (by rw [HM.out, HOE0.out, if_neg (by rw [← HP.out]; decide)])
          go_wp2_with ((with_reducible show wpList _ _ _ (Oper.mk _ (.slice 24 _ (some _) none none) _ _ _ _ :: _) _ _); refine wpList_slice_lo (HB.out.below HW.out) k HKL.out rfl (by rfl) rfl rfl ?_; rw [HV4.out])
          refine (rread_any _ _ _ (HR.out.below HW.out)).mono ?_
          rintro e w1 ⟨rfl, b1⟩
          rw [HE.out, HV.out]
          have z1 := b1.size
          have HX1 := hide (HW.out.trans (b1.mono zr))
          have zz1 : w.heap.size ≤ w1.heap.size := by omega
          have HX := hide ((HX1.out.alloc zz1 (.cells #[.bool false, .int .i64 c, .int .i64 t, .int .i64 m] 23)).alloc (by simp; omega) (.cells #[] 5))
          have HKX := hide ((b1.alloc z1 (.cells #[.bool false, .int .i64 c, .int .i64 t, .int .i64 m] 23)).alloc (by simp; omega) (.cells #[] 5))
          have lt1 : w1.heap.size < w1.heap.size + 1 := by omega
          clear b1
          go_wp2_with (first | ((with_reducible show wpList _ _ _ (Oper.mk _ (.slice 24 _ (some _) (some _) none) _ _ _ _ :: _) _ _); refine wpList_slice_lohi (HB.out.below HX.out) k (k + m) HK2.out HK3.out rfl (by simp) (by rfl) rfl rfl rfl ?_; rw [HV3.out]) | (at_builtin; refine wpList_append_E1 (HC.out.below HX.out) HLc.out (by simp) rfl rfl ?_))
          intro v5 w5 o5 b5
          have zx := HX.out.size
          simp only [World.size_alloc] at zx
          have z5 := b5.size
          simp only [World.size_alloc] at z5
          obtain ⟨a5, n5, c5, rfl, -⟩ := o5.isB.len'
          have HO5 := hide (o5.mono (base' := w.heap.size) (by first | omega | (simp; omega)))
          obtain ⟨hcb, hfb⟩ := bcell b5
          have HX5 := hide (HX.out.trans (b5.mono (by first | omega | (simp; omega))))
          have HK5 := hide (HKX.out.trans (b5.mono (by first | omega | (simp; omega))))
          clear b5 o5
          go_wp2_with fail

          refine (ropen_any _ _ _ (HO5.out.isB)).mono ?_
          rintro e w6 ⟨p6, c6, t6, s6, v6, -, rfl, -, b6⟩
          rw [HOE.out]
          have z6 := b6.size
          have HX6 := hide (HX5.out.trans (b6.mono (by omega)))
          have HK6 := hide (HK5.out.trans (b6.mono (by omega)))
          have HO6 := hide (HO5.out.below b6)
          clear b6
          go_wp2_with (at_builtin; refine wpList_append_L (HOL.out.below HK6.out |>.below ((Below.refl _ _).alloc (Nat.le_refl _) _)) (HO6.out.below ((Below.refl _ _).alloc (Nat.le_refl _) _)) (heap_alloc_new _ _) HLen.out (by simp; omega) rfl rfl ?_)
          intro v7 w7 o7 b7
          have HO7 := hide o7
          have zz6 : w.heap.size ≤ w6.heap.size := by omega
          have HW7 := hide ((HX6.out.alloc zz6 _).trans b7)
          clear o7 b7
          go_wp2_with fail
          go_roundw
          case rel => exact ⟨k + m, done ++ [(l.drop k).take m], by first | rfl | go_num, by omega, HO7.out, HW7.out, HS4.out, HN4.out⟩
          case measure => simp [intOf]; omega
        · by_cases hrest : k + m = n
          · have hdn : (l.drop k).drop m = [] := by rw [HDD.out, hrest, HN.out, List.drop_length]
            obtain ⟨er, her⟩ : ∃ er, er = trE (((l.drop k).take m).drop 4) := ⟨_, rfl⟩
            have HOE : Hid (opE ((l.drop k).take m) = er) := hide (by rw [HM.out, HOE0.out, if_pos HP.out.symm, ← HM.out, her])
            have hge : (n : Int) ≤ (k : Int) + m := by omega
            by_cases her0 : er = 0
            · have HS4 : Hid (sp l = pre (done ++ [(l.drop k).take m]) (sp (l.drop (k + m)))) := hide (by
                rw [HSP.out, sp_cons HE.out (fun _ => by rw [← HM.out]; exact ⟨hdn, by rw [← her]; exact her0⟩), pre_pre, ← HM.out, HDD.out])
              subst her0
              clear her hdn hrest
              go_wp2_with ((with_reducible show wpList _ _ _ (Oper.mk _ (.slice 24 _ (some _) none none) _ _ _ _ :: _) _ _); refine wpList_slice_lo (HB.out.below HW.out) k HKL.out rfl (by rfl) rfl rfl ?_; rw [HV4.out])
              refine (rread_any _ _ _ (HR.out.below HW.out)).mono ?_
              rintro e w1 ⟨rfl, b1⟩
              rw [HE.out, HV.out]
              have z1 := b1.size
              have HX1 := hide (HW.out.trans (b1.mono zr))
              have zz1 : w.heap.size ≤ w1.heap.size := by omega
              have HX := hide ((HX1.out.alloc zz1 (.cells #[.bool true, .int .i64 c, .int .i64 t, .int .i64 m] 23)).alloc (by simp; omega) (.cells #[] 5))
              have HKX := hide ((b1.alloc z1 (.cells #[.bool true, .int .i64 c, .int .i64 t, .int .i64 m] 23)).alloc (by simp; omega) (.cells #[] 5))
              have lt1 : w1.heap.size < w1.heap.size + 1 := by omega
              clear b1
              go_wp2_with (first | ((with_reducible show wpList _ _ _ (Oper.mk _ (.slice 24 _ (some _) (some _) none) _ _ _ _ :: _) _ _); refine wpList_slice_lohi (HB.out.below HX.out) k (k + m) HK2.out HK3.out rfl (by simp) (by rfl) rfl rfl rfl ?_; rw [HV3.out]) | (at_builtin; refine wpList_append_E1 (HC.out.below HX.out) HLc.out (by simp) rfl rfl ?_))
              intro v5 w5 o5 b5
              have zx := HX.out.size
              simp only [World.size_alloc] at zx
              have z5 := b5.size
              simp only [World.size_alloc] at z5
              obtain ⟨a5, n5, c5, rfl, -⟩ := o5.isB.len'
              have HO5 := hide (o5.mono (base' := w.heap.size) (by first | omega | (simp; omega)))
              obtain ⟨hcb, hfb⟩ := bcell b5
              have HX5 := hide (HX.out.trans (b5.mono (by first | omega | (simp; omega))))
              have HK5 := hide (HKX.out.trans (b5.mono (by first | omega | (simp; omega))))
              clear b5 o5
              go_wp2_with fail

              refine (ropen_any _ _ _ (HO5.out.isB)).mono ?_
              rintro e w6 ⟨p6, c6, t6, s6, v6, -, rfl, -, b6⟩
              rw [HOE.out]
              have z6 := b6.size
              have HX6 := hide (HX5.out.trans (b6.mono (by omega)))
              have HK6 := hide (HK5.out.trans (b6.mono (by omega)))
              have HO6 := hide (HO5.out.below b6)
              clear b6
              go_wp2_with (at_builtin; refine wpList_append_L (HOL.out.below HK6.out |>.below ((Below.refl _ _).alloc (Nat.le_refl _) _)) (HO6.out.below ((Below.refl _ _).alloc (Nat.le_refl _) _)) (heap_alloc_new _ _) HLen.out (by simp; omega) rfl rfl ?_)
              intro v7 w7 o7 b7
              have HO7 := hide o7
              have zz6 : w.heap.size ≤ w6.heap.size := by omega
              have HW7 := hide ((HX6.out.alloc zz6 _).trans b7)
              clear o7 b7
              go_wp2_with fail
              go_roundw
              case rel => exact ⟨k + m, done ++ [(l.drop k).take m], by first | rfl | go_num, by omega, HO7.out, HW7.out, HS4.out, HN4.out⟩
              case measure => simp [intOf]; omega
            · have HS4 : Hid (sp l = (er, [])) := hide (by
                have h5 : er = 5 := by
                  rw [her] at her0 ⊢
                  unfold trE at her0 ⊢
                  split at her0
                  · rw [if_pos ‹_›]
                  · exact absurd rfl her0
                rw [HSP.out, sp_bad HE.out HP.out.symm (.inr (by rw [← HM.out, ← her]; exact her0)), h5]
                rfl)
              have hb2 : (er != 0) = true := by simpa using her0
              clear her hdn her0 hrest
              go_wp2_with ((with_reducible show wpList _ _ _ (Oper.mk _ (.slice 24 _ (some _) none none) _ _ _ _ :: _) _ _); refine wpList_slice_lo (HB.out.below HW.out) k HKL.out rfl (by rfl) rfl rfl ?_; rw [HV4.out])
              refine (rread_any _ _ _ (HR.out.below HW.out)).mono ?_
              rintro e w1 ⟨rfl, b1⟩
              rw [HE.out, HV.out]
              have z1 := b1.size
              have HX1 := hide (HW.out.trans (b1.mono zr))
              have zz1 : w.heap.size ≤ w1.heap.size := by omega
              have HX := hide ((HX1.out.alloc zz1 (.cells #[.bool true, .int .i64 c, .int .i64 t, .int .i64 m] 23)).alloc (by simp; omega) (.cells #[] 5))
              have HKX := hide ((b1.alloc z1 (.cells #[.bool true, .int .i64 c, .int .i64 t, .int .i64 m] 23)).alloc (by simp; omega) (.cells #[] 5))
              have lt1 : w1.heap.size < w1.heap.size + 1 := by omega
              clear b1
              go_wp2_with (first | ((with_reducible show wpList _ _ _ (Oper.mk _ (.slice 24 _ (some _) (some _) none) _ _ _ _ :: _) _ _); refine wpList_slice_lohi (HB.out.below HX.out) k (k + m) HK2.out HK3.out rfl (by simp) (by rfl) rfl rfl rfl ?_; rw [HV3.out]) | (at_builtin; refine wpList_append_E1 (HC.out.below HX.out) HLc.out (by simp) rfl rfl ?_))
              intro v5 w5 o5 b5
              have zx := HX.out.size
              simp only [World.size_alloc] at zx
              have z5 := b5.size
              simp only [World.size_alloc] at z5
              obtain ⟨a5, n5, c5, rfl, -⟩ := o5.isB.len'
              have HO5 := hide (o5.mono (base' := w.heap.size) (by first | omega | (simp; omega)))
              obtain ⟨hcb, hfb⟩ := bcell b5
              have HX5 := hide (HX.out.trans (b5.mono (by first | omega | (simp; omega))))
              have HK5 := hide (HKX.out.trans (b5.mono (by first | omega | (simp; omega))))
              clear b5 o5
              go_wp2_with fail

              refine (ropen_any _ _ _ (HO5.out.isB)).mono ?_
              rintro e w6 ⟨p6, c6, t6, s6, v6, -, rfl, -, b6⟩
              rw [HOE.out]
              have z6 := b6.size
              have HX6 := hide (HX5.out.trans (b6.mono (by omega)))
              clear b6
              go_wp2_with fail
              go_ret2
              exact RetSp.bad HL0.out HS4.out HX6.out
          · have hlt : (k : Int) + m < n := by omega
            have HS4 : Hid (sp l = (5, [])) := hide (by
              rw [HSP.out, sp_bad HE.out HP.out.symm (.inl (by rw [← HM.out, HDD.out]; intro e; have := congrArg List.length e; rw [List.length_drop, ← HN.out] at this; simp at this; omega))]
              rfl)
            clear hrest
            go_wp2_with ((with_reducible show wpList _ _ _ (Oper.mk _ (.slice 24 _ (some _) none none) _ _ _ _ :: _) _ _); refine wpList_slice_lo (HB.out.below HW.out) k HKL.out rfl (by rfl) rfl rfl ?_; rw [HV4.out])
            refine (rread_any _ _ _ (HR.out.below HW.out)).mono ?_
            rintro e w1 ⟨rfl, b1⟩
            rw [HE.out, HV.out]
            have z1 := b1.size
            have HX1 := hide (HW.out.trans (b1.mono zr))
            have zz1 : w.heap.size ≤ w1.heap.size := by omega
            have HX := hide ((HX1.out.alloc zz1 (.cells #[.bool true, .int .i64 c, .int .i64 t, .int .i64 m] 23)).alloc (by simp; omega) (.cells #[] 5))
            have HKX := hide ((b1.alloc z1 (.cells #[.bool true, .int .i64 c, .int .i64 t, .int .i64 m] 23)).alloc (by simp; omega) (.cells #[] 5))
            have lt1 : w1.heap.size < w1.heap.size + 1 := by omega
            clear b1
            go_wp2_with (first | ((with_reducible show wpList _ _ _ (Oper.mk _ (.slice 24 _ (some _) (some _) none) _ _ _ _ :: _) _ _); refine wpList_slice_lohi (HB.out.below HX.out) k (k + m) HK2.out HK3.out rfl (by simp) (by rfl) rfl rfl rfl ?_; rw [HV3.out]) | (at_builtin; refine wpList_append_E1 (HC.out.below HX.out) HLc.out (by simp) rfl rfl ?_))
            intro v5 w5 o5 b5
            have zx := HX.out.size
            simp only [World.size_alloc] at zx
            have z5 := b5.size
            simp only [World.size_alloc] at z5
            obtain ⟨a5, n5, c5, rfl, -⟩ := o5.isB.len'
            have HO5 := hide (o5.mono (base' := w.heap.size) (by first | omega | (simp; omega)))
            obtain ⟨hcb, hfb⟩ := bcell b5
            have HX5 := hide (HX.out.trans (b5.mono (by first | omega | (simp; omega))))
            have HK5 := hide (HKX.out.trans (b5.mono (by first | omega | (simp; omega))))
            clear b5 o5
            go_wp2_with fail

            go_ret2
            exact RetSp.bad HL0.out HS4.out HX5.out
      · obtain ⟨x, hx⟩ : ∃ x, x = rdE (l.drop k) := ⟨_, rfl⟩
        have HXE := hide hx
        have hb : (x != 0) = true := by rw [hx]; simpa using e0
        have HV := hide (rdV_zero e0)
        have HS4 : Hid (sp l = (x, [])) := hide (by rw [HSP.out, sp_err e0 HRN.out, ← hx, pre, if_neg (by simpa [hx] using e0)])
        clear hx e0
        go_wp2_with ((with_reducible show wpList _ _ _ (Oper.mk _ (.slice 24 _ (some _) none none) _ _ _ _ :: _) _ _); refine wpList_slice_lo (HB.out.below HW.out) k HKL.out rfl (by rfl) rfl rfl ?_; rw [HV4.out])
        refine (rread_any _ _ _ (HR.out.below HW.out)).mono ?_
        rintro e w1 ⟨rfl, b1⟩
        rw [← HXE.out, HV.out]
        have z1 := b1.size
        have HX1 := hide (HW.out.trans (b1.mono zr))
        clear b1
        go_wp2_with fail
        go_ret2
        exact RetSp.bad HL0.out HS4.out (HX1.out.alloc (by omega) _)

theorem rsplit_any (v : Value) (l : List UInt8) (w : World) (h : IsB w v l) (hl : l.length ≤ 1000000) : Calls Try.prog 42 #[v] w (RetSp w l) := by
  obtain ⟨a, n, cap, rfl, hn, h1, h2⟩ := h.len'
  exact rsplit_walk a n cap l w hn (by omega) h

end Go.Proofs.Ytellclclpmofcaa
