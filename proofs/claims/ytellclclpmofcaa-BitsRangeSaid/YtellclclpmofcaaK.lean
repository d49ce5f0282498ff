/-
  The rule for a region that draws its order, with one head that may come up late (in the tail); conditions: each operation's step, shown alone; the tail, shown for each place where the late head may stand.
-/
import Derived.Test.YtellclclpmofcaaM
namespace Go.Proofs.Ytellclclpmofcaa
open Go.RowKit

section
variable {P : Program} {l : List Oper} {Q : Exit → Act → World → Prop} {a0 : Act} {w0 : World} {n N : Nat} {ss : List Spec}

theorem laid_frame {F : Act → World → Prop} (hn' : n ≤ l.length) (hd : dstB l.toArray n N = true) (hlen : ss.length = n) (hN : a0.tmps.size = N) {a : Act} {w : World}
    (hsize : a.tmps.size = N) (hdef : a.defers = a0.defers) (hout : ∀ t, isHead l.toArray n t = false → a.eval (.tmp t) = a0.eval (.tmp t))
    (hok : ∀ i, i < n → (sOf ss i).ok (a.eval (.tmp (dOf l.toArray i))) w) (hF : Laid F w (l.take n) ss a0) : F a w := by
  let vs : List Value := (List.range n).map fun i => a.eval (.tmp (dOf l.toArray i))
  have hvl : vs.length = (l.take n).length := by simp [vs]; omega
  have htk : (l.take n).length = n := by simp; omega
  have hvi : ∀ i, i < n → vs.getD i undef = a.eval (.tmp (dOf l.toArray i)) := fun i hi => by simp [vs, List.getD, hi]
  have hF' := Laid.at (l.take n) ss vs a0 (by omega) hvl (fun i o hio => by
    have hi : i < n := by
      have := (List.getElem?_eq_some_iff.1 hio).1
      omega
    rw [hvi i hi]
    exact hok i hi) hF
  have ha : ((l.take n).zip vs).foldl (fun a p => a.put p.1.dst p.2) a0 = a := by
    obtain ⟨hs1, hs2⟩ := foldl_puts_size ((l.take n).zip vs) a0
    have hzip : ∀ (k : Nat) (p : Oper × Value), ((l.take n).zip vs)[k]? = some p → k < n ∧ p.1.dst = some (dOf l.toArray k) ∧ p.2 = a.eval (.tmp (dOf l.toArray k)) := by
      intro k p hk
      have hkl : k < n := by
        have := (List.getElem?_eq_some_iff.1 hk).1
        simp only [List.length_zip] at this
        omega
      obtain ⟨o, ho, hod, _, _⟩ := dstB_spec hd hkl
      have ho' : l[k]? = some o := by simpa using ho
      rw [List.getElem?_zip_eq_some] at hk
      obtain ⟨h1, h2⟩ := hk
      rw [List.getElem?_take_of_lt hkl, ho'] at h1
      have h3 : vs[k]? = some (a.eval (.tmp (dOf l.toArray k))) := by simp [vs, hkl]
      rw [h3] at h2
      exact ⟨hkl, by rw [← Option.some.inj h1]; exact hod, (Option.some.inj h2).symm⟩
    have hx : ∀ x : Act, x.tmps.size = a.tmps.size → x.defers = a.defers → (∀ t, t < a.tmps.size → x.tmps.getD t undef = a.tmps.getD t undef) → x = a := by
      intro x h1 h2 h3
      cases x; cases a
      simp only at h1 h2 h3
      congr 1
      refine Array.ext h1 fun i hi1 hi2 => ?_
      have := h3 i hi2
      simpa [hi1, hi2] using this
    refine hx _ (by rw [hs1, hsize, hN]) (by rw [hs2, hdef]) fun t ht => ?_
    cases hh : isHead l.toArray n t with
    | false =>
      rw [foldl_puts_out _ t (fun p hp e => by
        obtain ⟨k, hk⟩ := List.getElem?_of_mem hp
        obtain ⟨hkn, hkd, _⟩ := hzip k p hk
        rw [hkd] at e
        have := isHead_dOf (ops := l.toArray) hkn
        rw [Option.some.inj e, hh] at this
        cases this)]
      exact (hout t hh).symm
    | true =>
      obtain ⟨k, hk, hkt⟩ := List.any_eq_true.1 hh
      have hkn : k < n := List.mem_range.1 hk
      have hkt' : dOf l.toArray k = t := by simpa using hkt
      have hin : k < ((l.take n).zip vs).length := by simp only [List.length_zip]; omega
      refine foldl_puts_in t _ _ _ (by rw [hN, ← hsize]; exact ht) ⟨k, _, List.getElem?_eq_getElem hin, ?_, ?_⟩ (fun p hp e => ?_)
      · rw [(hzip k _ (List.getElem?_eq_getElem hin)).2.1, hkt']
      · rw [(hzip k _ (List.getElem?_eq_getElem hin)).2.2, hkt']
        rfl
      · obtain ⟨j, hj⟩ := List.getElem?_of_mem hp
        obtain ⟨_, hjd, hjv⟩ := hzip j p hj
        rw [hjd] at e
        rw [hjv, Option.some.inj e]
        rfl
  rw [ha] at hF'
  exact hF'

def sinkF (ops : Array Oper) (n f : Nat) : Bool := (List.range n).all fun i => (i == f) || (List.range (n + 1)).any fun j => decide (i < j) && (j != f) && waitB ops j i

theorem sinkF_waits {ops : Array Oper} {n f : Nat} {listed : Array Bool} (hs : sinkF ops n f = true) (inv : Closed ops listed) :
    ∀ (d i : Nat), n - i = d → i < n → i ≠ f → listed.getD i true = false → n ∉ Region.ready .any ops listed := by
  intro d
  induction d using Nat.strongRecOn with
  | _ d ih =>
    intro i hd hi hif hun
    have h1 := List.all_eq_true.1 hs i (List.mem_range.2 hi)
    simp only [Bool.or_eq_true, beq_iff_eq] at h1
    rcases h1 with h1 | h1
    · exact absurd h1 hif
    obtain ⟨j, hj, hj2⟩ := List.any_eq_true.1 h1
    simp only [Bool.and_eq_true, decide_eq_true_eq, bne_iff_ne] at hj2
    obtain ⟨oj, hoj, e, he, hb, hon⟩ := waitB_spec hj2.2
    have hjle : j ≤ n := by have := List.mem_range.1 hj; omega
    have hjf : listed.getD j false = false := by
      cases hl : listed.getD j false with
      | false => rfl
      | true =>
        have h2 := inv.closed j oj hoj hl e he hb
        rw [hon, getDfalse hun] at h2
        cases h2
    by_cases hjn : j = n
    · subst hjn
      intro hr
      obtain ⟨_, ot, hot, hall⟩ := mem_ready.1 hr
      have : oj = ot := Option.some.inj (hoj.symm.trans hot)
      subst this
      have h2 := hall e he hb
      rw [hon, getDfalse hun] at h2
      cases h2
    · have hjs : j < listed.size := by rw [inv.size]; exact (Array.getElem?_eq_some_iff.1 hoj).1
      exact ih (n - j) (by omega) j rfl (by omega) hj2.1.2 (getDtrue hjs hjf)

/-- The late head comes up now, or behind one more operation of the tail. -/
def early (P : Program) (l : List Oper) (Q : Exit → Act → World → Prop) (f : Nat) : Nat → Nat → Act → World → Prop
  | 0, m, a, w => wpList P l.toArray Q (l.drop f |>.take 1 |>.append (l.drop m)) a w
  | k + 1, m, a, w => wpList P l.toArray Q (l.drop f |>.take 1 |>.append (l.drop m)) a w ∧ wpOp P l.toArray Q m (early P l Q f k (m + 1)) a w

theorem early_any (hch : chainB l.toArray n = true) (hback : backB l.toArray = true) {f : Nat} (hf : f < n) (hn : n < l.length) :
    ∀ (k m : Nat) (listed : Array Bool) (a : Act) (w : World), n < m → m + k < l.length → waitB l.toArray (m + k) f = true → Closed l.toArray listed →
    (∀ i, i < m → i ≠ f → listed.getD i false = true) → listed.getD f false = false → (∀ i, m ≤ i → listed.getD i false = false) → early P l Q f k m a w →
    wpAny P .any l.toArray Q (l.length - m + 1) listed a w := by
  have hfs : f < l.toArray.size := by simp; omega
  have hof : l.toArray[f]? = some (l[f]'(by omega)) := by simp
  -- the late head is picked
  have pick : ∀ (m : Nat) (listed : Array Bool) (a : Act) (w : World), n < m → m ≤ l.length → Closed l.toArray listed → (∀ i, i < m → i ≠ f → listed.getD i false = true) → (∀ i, m ≤ i → listed.getD i false = false) →
      f ∈ Region.ready .any l.toArray listed → wpList P l.toArray Q ((l.drop f |>.take 1).append (l.drop m)) a w → wpOp P l.toArray Q f (wpAny P .any l.toArray Q (l.length - m) (listed.setIfInBounds f true)) a w := by
    intro m listed a w hm hml hC hlo hhi hfr hw
    have e : (l.drop f |>.take 1).append (l.drop m) = l[f]'(by omega) :: l.drop m := by
      rw [List.drop_eq_getElem_cons (by omega : f < l.length)]
      rfl
    rw [e] at hw
    have hw' : wpOp P l.toArray Q f (wpList P l.toArray Q (l.drop m)) a w := by unfold wpOp; rw [hof]; exact hw
    refine wpOp_mono (fun a' w' h' => ?_) hw'
    have := wpAny_chain (P := P) (Q := Q) hch hback (l.drop m) m (listed.setIfInBounds f true) a' w' (by omega) (by simp; omega) (fun j => by simp [List.getElem?_drop]) (hC.set hfr) (fun i hi => ?_) (fun i hi => ?_) h'
    · simpa using this
    · by_cases hif : f = i
      · subst hif
        simp [hC.size]
        omega
      · exact getD_set_true (hlo i hi (fun e => hif e.symm))
    · rw [getD_set_ne false (by omega)]
      exact hhi i hi
  have fready : ∀ (m : Nat) (listed : Array Bool), n < m → Closed l.toArray listed → (∀ i, i < m → i ≠ f → listed.getD i false = true) → listed.getD f false = false → f ∈ Region.ready .any l.toArray listed := by
    intro m listed hm hC hlo hf0
    refine mem_ready.2 ⟨getDtrue (by rw [hC.size]; exact hfs) hf0, _, hof, fun e he hb => ?_⟩
    have h1 := List.all_eq_true.1 hback f (List.mem_range.2 hfs)
    rw [hof] at h1
    simp only [Array.all_eq_true_iff_forall_mem, Bool.or_eq_true, Bool.not_eq_true', decide_eq_true_eq] at h1
    rcases h1 e he with h2 | h2
    · rw [hb] at h2; cases h2
    · exact hlo _ (by omega) (by omega)
  intro k
  induction k with
  | zero =>
    intro m listed a w hm hml hwt hC hlo hf0 hhi h
    have hfr := fready m listed hm hC hlo hf0
    refine ⟨fun h0 => (by rw [h0] at hfr; cases hfr), fun i hi => ?_⟩
    obtain ⟨hi0, oi, hoi, hall⟩ := mem_ready.1 hi
    have his : i < l.toArray.size := (Array.getElem?_eq_some_iff.1 hoi).1
    have hif : i = f := by
      rcases Nat.lt_trichotomy i m with hlt | heq | hgt
      · by_cases hif : i = f
        · exact hif
        · have := hlo i hlt hif
          rw [getDfalse hi0] at this
          cases this
      · exfalso
        obtain ⟨oj, hoj, e, he, hb, hon⟩ := waitB_spec hwt
        rw [Nat.add_zero, ← heq] at hoj
        have : oj = oi := Option.some.inj (hoj.symm.trans hoi)
        subst this
        have h2 := hall e he hb
        rw [hon, hf0] at h2
        cases h2
      · exfalso
        have := (chain_waits hch hC (i - m - 1) m (by omega) (hhi m (Nat.le_refl _)) (by omega)).1
        rw [show m + 1 + (i - m - 1) = i by omega] at this
        exact this hi
    subst hif
    exact pick m listed a w hm (by omega) hC hlo hhi hi h
  | succ k ih =>
    intro m listed a w hm hml hwt hC hlo hf0 hhi h
    have hfr := fready m listed hm hC hlo hf0
    refine ⟨fun h0 => (by rw [h0] at hfr; cases hfr), fun i hi => ?_⟩
    obtain ⟨hi0, oi, hoi, hall⟩ := mem_ready.1 hi
    have his : i < l.toArray.size := (Array.getElem?_eq_some_iff.1 hoi).1
    have hif : i = f ∨ i = m := by
      rcases Nat.lt_trichotomy i m with hlt | heq | hgt
      · by_cases hif : i = f
        · exact .inl hif
        · have := hlo i hlt hif
          rw [getDfalse hi0] at this
          cases this
      · exact .inr heq
      · exfalso
        have := (chain_waits hch hC (i - m - 1) m (by omega) (hhi m (Nat.le_refl _)) (by omega)).1
        rw [show m + 1 + (i - m - 1) = i by omega] at this
        exact this hi
    rcases hif with rfl | rfl
    · exact pick m listed a w hm (by omega) hC hlo hhi hi h.1
    · refine wpOp_mono (fun a' w' h' => ?_) h.2
      have := ih (i + 1) (listed.setIfInBounds i true) a' w' (by omega) (by omega) (by rw [show i + 1 + k = i + (k + 1) by omega]; exact hwt) (hC.set hi) (fun j hj hjf => ?_) (by rw [getD_set_ne false (by omega)]; exact hf0) (fun j hj => by rw [getD_set_ne false (by omega)]; exact hhi j (by omega)) h'
      · rw [show l.length - i = l.length - (i + 1) + 1 by omega]
        exact this
      · by_cases hji : i = j
        · subst hji
          simp [hC.size]
          omega
        · exact getD_set_true (hlo j (by omega) hjf)

def monoF (ops : Array Oper) (n N f k : Nat) : Bool := decide (n < ops.size) && backB ops && dstB ops n N && sinkF ops n f && chainB ops n && decide (f < n) && decide (n + 1 + k < ops.size) && waitB ops (n + 1 + k) f

theorem mono_coreF {f k : Nat} (hB : monoF l.toArray n N f k = true) (hlen : ss.length = n) (hst : ∀ s ∈ ss, s.Stable) (hN : a0.tmps.size = N)
    (hsteps : Steps P l.toArray n ss a0 w0 (l.take n) ss 0)
    (hfin : ∀ w, Below w0.heap.size w0 w → Laid (fun a w => wpList P l.toArray Q (l.drop n) a w) w (l.take n) ss a0)
    (hearly : ∀ w, Below w0.heap.size w0 w → Laid (fun a w => wpOp P l.toArray Q n (early P l Q f k (n + 1)) a w) w (l.take n) (ss.set f (.pred fun _ _ => True)) a0) :
    ∀ (c : Nat) (listed : Array Bool) (a : Act) (w : World), (left n listed).length = c → Closed l.toArray listed → (∀ t, n ≤ t → listed.getD t false = false) → Inv l.toArray n N ss a0 w0 listed a w →
      wpAny P .any l.toArray Q (c + (l.length - n)) listed a w := by
  simp only [monoF, Bool.and_eq_true, decide_eq_true_eq] at hB
  obtain ⟨⟨⟨⟨⟨⟨⟨hns, hback⟩, hd⟩, hsk⟩, hch⟩, hfn⟩, hk⟩, hwt⟩ := hB
  have hnl : n < l.length := by simpa using hns
  have hkl : n + 1 + k < l.length := by simpa using hk
  have hn' : n ≤ l.length := by omega
  intro c
  induction c with
  | zero =>
    intro listed a w hc hC htl inv
    have hall : ∀ i, i < n → listed.getD i false = true := by
      intro i hi
      cases h : listed.getD i false with
      | true => rfl
      | false =>
        have : i ∈ left n listed := by simp only [left, List.mem_filter, List.mem_range]; exact ⟨hi, by rw [h]; rfl⟩
        rw [List.eq_nil_of_length_eq_zero hc] at this
        cases this
    have hF' := laid_frame hn' hd hlen hN inv.size inv.defers inv.out (fun i hi => inv.ok i hi (hall i hi)) (hfin w inv.below)
    have := wpAny_chain (P := P) (Q := Q) hch hback (l.drop n) n listed a w (Nat.le_refl _) (by simp; omega) (fun j => by simp [List.getElem?_drop]) hC hall htl hF'
    simpa using this
  | succ c ih =>
    intro listed a w hc hC htl inv
    -- the least head that is left may come up
    have hex : ∃ i, i < n ∧ listed.getD i false = false := by
      cases hl : left n listed with
      | nil => rw [hl] at hc; simp at hc
      | cons i _ =>
        have : i ∈ left n listed := by rw [hl]; exact List.mem_cons_self
        simp only [left, List.mem_filter, List.mem_range, Bool.not_eq_true'] at this
        exact ⟨i, this⟩
    have hleast : ∀ i, i < n → listed.getD i false = false → ∃ k, k ∈ Region.ready .any l.toArray listed := by
      intro i
      induction i using Nat.strongRecOn with
      | _ i ihi =>
        intro hi hun
        by_cases hlow : ∃ j, j < i ∧ listed.getD j false = false
        · obtain ⟨j, hj, hju⟩ := hlow
          exact ihi j hj (by omega) hju
        · have hs : i < l.toArray.size := by simp; omega
          have ho : l.toArray[i]? = some l.toArray[i] := Array.getElem?_eq_getElem hs
          refine ⟨i, mem_ready.2 ⟨getDtrue (by rw [hC.size]; exact hs) hun, _, ho, fun e he hb => ?_⟩⟩
          have h1 := List.all_eq_true.1 hback i (List.mem_range.2 hs)
          rw [ho] at h1
          simp only [Array.all_eq_true_iff_forall_mem, Bool.or_eq_true, Bool.not_eq_true', decide_eq_true_eq] at h1
          rcases h1 e he with h2 | h2
          · rw [hb] at h2; cases h2
          · cases h3 : listed.getD e.on false with
            | true => rfl
            | false => exact absurd ⟨e.on, h2, h3⟩ hlow
    obtain ⟨i0, hi0, hun0⟩ := hex
    have hne := hleast i0 hi0 hun0
    rw [show c + 1 + (l.length - n) = (c + (l.length - n)) + 1 by omega]
    refine ⟨fun h0 => (by obtain ⟨k, hk⟩ := hne; rw [h0] at hk; cases hk), fun i hi => ?_⟩
    obtain ⟨hiun, oi, hoi, hall⟩ := mem_ready.1 hi
    have his : i < l.toArray.size := (Array.getElem?_eq_some_iff.1 hoi).1
    by_cases hin : i < n
    case neg =>
      have hie : i = n := by
        rcases Nat.lt_trichotomy i n with h | h | h
        · exact absurd h hin
        · exact h
        · have := (chain_waits hch hC (i - n - 1) n (Nat.le_refl _) (htl n (Nat.le_refl _)) (by omega)).1
          rw [show n + 1 + (i - n - 1) = i by omega] at this
          exact absurd hi this
      subst hie
      have honly : ∀ j, j < i → j ≠ f → listed.getD j false = true := by
        intro j hj hjf
        cases h : listed.getD j false with
        | true => rfl
        | false => exact absurd hi (sinkF_waits hsk hC (i - j) j rfl hj hjf (getDtrue (by rw [hC.size]; simp; omega) h))
      have hi0f : i0 = f := by
        by_cases h : i0 = f
        · exact h
        · have := honly i0 hi0 h
          rw [hun0] at this
          cases this
      subst hi0f
      have hc0 : c = 0 := by
        have hsub : ∀ j ∈ left i listed, j = i0 := by
          intro j hj
          simp only [left, List.mem_filter, List.mem_range, Bool.not_eq_true'] at hj
          by_cases h : j = i0
          · exact h
          · have := honly j hj.1 h
            rw [hj.2] at this
            cases this
        have hnd : (left i listed).Nodup := (List.nodup_range).filter _
        have hle : (left i listed).length ≤ 1 := by
          match hL : left i listed, hnd, hsub with
          | [], _, _ => simp
          | [_], _, _ => simp
          | x :: y :: r, hnd, hsub =>
            have h1 := hsub x (by simp)
            have h2 := hsub y (by simp)
            subst h1
            subst h2
            simp at hnd
        omega
      subst hc0
      have hL := laid_frame (F := fun a w => wpOp P l.toArray Q i (early P l Q i0 k (i + 1)) a w) hn' hd (by simpa using hlen) hN inv.size inv.defers inv.out (fun j hj => ?_) (hearly w inv.below)
      · refine wpOp_mono (fun a' w' h' => ?_) hL
        have := early_any (P := P) (Q := Q) hch hback hfn hnl k (i + 1) (listed.setIfInBounds i true) a' w' (by omega) hkl (by exact hwt) (hC.set hi) (fun j hj hjf => ?_) (by rw [getD_set_ne false (by omega)]; exact hun0) (fun j hj => by rw [getD_set_ne false (by omega)]; exact htl j (by omega)) h'
        · rw [show 0 + (l.length - i) = l.length - (i + 1) + 1 by omega]
          exact this
        · by_cases hji : i = j
          · subst hji
            simp [hC.size]
            omega
          · exact getD_set_true (honly j (by omega) hjf)
      · by_cases hjf : j = i0
        · subst hjf
          simp [sOf, List.getD, hlen, hj, Spec.ok]
        · have := inv.ok j hj (honly j hj hjf)
          have e : sOf (ss.set i0 (.pred fun _ _ => True)) j = sOf ss j := by
            simp only [sOf, List.getD]
            rw [List.getElem?_set_ne (fun e => hjf e.symm)]
          rw [e]
          exact this
    have hstep := hsteps.at i oi (by rw [List.getElem?_take_of_lt hin]; simpa using hoi) a w inv.below (fun t ht => by rw [← evalTmp, ← evalTmp]; exact inv.out t ht) (fun j hj => by
      rw [← evalTmp]
      rw [Nat.zero_add] at hj
      obtain ⟨oj, hoj, e, he, hb, hon⟩ := waitB_spec hj
      have : oj = oi := Option.some.inj (hoj.symm.trans hoi)
      subst this
      have hlj := hall e he hb
      rw [hon] at hlj
      have hjn : j < n := by
        rcases Nat.lt_or_ge j n with h | h
        · exact h
        · rw [htl j h] at hlj; cases hlj
      exact inv.ok j hjn hlj)
    obtain ⟨_, ho2, hod, _, _⟩ := dstB_spec hd hin
    have hoe : oi = _ := Option.some.inj (hoi.symm.trans ho2)
    have hdst : oi.dst = some (dOf l.toArray i) := by rw [hoe]; exact hod
    have hils : i < listed.size := by rw [hC.size]; exact his
    have next : ∀ v w', Below w.heap.size w w' → (sOf ss i).ok v w' → wpAny P .any l.toArray Q (c + (l.length - n)) (listed.setIfInBounds i true) (a.put oi.dst v) w' := by
      intro v w' hb hv
      rw [hdst]
      have hdec := left_set hin hils (getDfalse hiun)
      have hge : c ≤ (left n (listed.setIfInBounds i true)).length := by
        have h1 : (left n listed).length ≤ (left n (listed.setIfInBounds i true)).length + 1 := by
          have : (left n listed).filter (fun j => j != i) = left n (listed.setIfInBounds i true) := by
            unfold left
            rw [List.filter_filter]
            apply List.filter_congr
            intro j _
            by_cases hji : i = j
            · subst hji
              simp [hils]
            · rw [getD_set_ne false hji]
              have : (j != i) = true := by simp; omega
              simp [this]
          rw [← this]
          have hnd : (left n listed).Nodup := (List.nodup_range).filter _
          have hmem : i ∈ left n listed := by simp only [left, List.mem_filter, List.mem_range]; exact ⟨hin, by rw [getDfalse hiun]; rfl⟩
          have := hnd.erase_eq_filter i
          rw [← this, List.length_erase_of_mem hmem]
          omega
        omega
      exact ih _ _ _ (by omega) (hC.set hi) (fun t ht => by rw [getD_set_ne false (by omega)]; exact htl t ht) (inv.step hd hin hst hlen hb hv)
    unfold wpOp
    rw [hoi]
    simp only []
    rcases hstep with ⟨hw, hK⟩ | ⟨hw, hu⟩
    · rw [if_pos hw]
      exact .inl (hK _ _ next)
    · rw [if_neg (by rw [hw]; exact Bool.false_ne_true)]
      exact next undef w (Below.refl _ _) hu

/-- THE RULE. -/
theorem wp_region_late {id : Nat} (n N f k : Nat) (ss : List Spec) (hm : P.follows .mixedOrders = true) (hB : monoF l.toArray n N f k = true) (hlen : ss.length = n) (hst' : AllStable ss) (hN : a0.tmps.size = N)
    (hsteps : Steps P l.toArray n ss a0 w0 (l.take n) ss 0)
    (hfin : ∀ w, Below w0.heap.size w0 w → Laid (fun a w => wpList P l.toArray Q (l.drop n) a w) w (l.take n) ss a0)
    (hearly : ∀ w, Below w0.heap.size w0 w → Laid (fun a w => wpOp P l.toArray Q n (early P l Q f k (n + 1)) a w) w (l.take n) (ss.set f (.pred fun _ _ => True)) a0) : (Code.region id l.toArray true).wp P Q a0 w0 := by
  refine wp_region_any hm ?_
  have hst := hst'.mem
  have hn : n ≤ l.length := by
    simp only [monoF, Bool.and_eq_true, decide_eq_true_eq] at hB
    have : n < l.length := by simpa using hB.1.1.1.1.1.1.1
    omega
  have hleft : (left n (Array.replicate l.toArray.size false)).length = n := by
    have : left n (Array.replicate l.toArray.size false) = List.range n := by
      unfold left
      apply List.filter_eq_self.2
      intro i hi
      have : i < l.length := by have := List.mem_range.1 hi; omega
      simp [this]
    rw [this, List.length_range]
  have hf : ∀ j : Nat, (Array.replicate l.toArray.size false).getD j false = false := by
    intro j
    simp only [Array.getD_eq_getD_getElem?, Array.getElem?_replicate]
    split <;> rfl
  have := mono_coreF (Q := Q) hB hlen hst hN hsteps hfin hearly n (Array.replicate l.toArray.size false) a0 { w0 with drawn := w0.drawn + 1 } hleft
    ⟨by simp, fun j oj _ hl => (by rw [hf] at hl; cases hl)⟩ (fun t _ => hf t) ⟨hN, rfl, fun _ _ => rfl, fun j _ hl => (by rw [hf] at hl; cases hl), (Below.refl _ _).drew⟩
  rw [show n + (l.length - n) = l.toArray.size by simp; omega] at this
  exact this
end

end Go.Proofs.Ytellclclpmofcaa
