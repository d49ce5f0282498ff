/-
  A rule for a region that draws its order, whose operations (but for a tail that comes last) only read or make memory: whatever the order, each operation's yield is as stated; conditions: each operation's step, shown alone.
-/
import Derived.WalkKit
namespace Go.Proofs.Ytellclclpmofcaa
open Go.RowKit

/-- What is known of an operation's yield: its value, or what holds of it. -/
inductive Spec where
  | val (c : Value)
  | pred (R : Value → World → Prop)

def Spec.ok : Spec → Value → World → Prop
  | .val c, v, _ => v = c
  | .pred R, v, w => R v w

def Spec.Stable : Spec → Prop
  | .val _ => True
  | .pred R => ∀ v w w', R v w → Below w.heap.size w w' → R v w'

theorem Spec.Stable.keep {s : Spec} (h : s.Stable) {v : Value} {w w' : World} (hv : s.ok v w) (hb : Below w.heap.size w w') : s.ok v w' := by
  cases s with
  | val c => exact hv
  | pred R => exact h v w w' hv hb

def dOf (ops : Array Oper) (i : Nat) : Nat := ((ops[i]?).bind (·.dst)).getD 0
def sOf (ss : List Spec) (i : Nat) : Spec := ss.getD i (.pred fun _ _ => True)
def waitB (ops : Array Oper) (j i : Nat) : Bool := match ops[j]? with | some oj => oj.after.toList.any fun e => Region.binds .any e && e.on == i | none => false
def isHead (ops : Array Oper) (n s : Nat) : Bool := (List.range n).any fun j => dOf ops j == s

theorem evalTmp (a : Act) (t : Nat) : a.eval (.tmp t) = a.tmps[t]?.getD undef := by simp [Act.eval]

theorem wp_move_of {P : Program} {dst : Option Tmp} {t : Nat} {ty : TypeId} {pos : String} {after : Array Edge} {guard : Option (Nat × Bool)} {a : Act} {w : World} {K : Act → World → Prop} {Q : Exit → Act → World → Prop} {c : Value}
    (e : a.tmps[t]?.getD undef = c) (hk : a.eval (.tmp t) = c → K (a.put dst (a.eval (.tmp t))) w) : (Oper.mk dst (.move (.tmp t)) ty pos after guard).wp P a w K Q :=
  BigFrame.wp_move _ rfl (hk (by rw [evalTmp, e]))
theorem wp_assign_of {P : Program} {dst : Option Tmp} {t : Nat} {ty : TypeId} {pos : String} {after : Array Edge} {guard : Option (Nat × Bool)} {a : Act} {w : World} {K : Act → World → Prop} {Q : Exit → Act → World → Prop} {c : Value}
    (e : a.tmps[t]?.getD undef = c) (hk : a.eval (.tmp t) = c → K (a.put dst (a.eval (.tmp t))) w) : (Oper.mk dst (.assign (.tmp t)) ty pos after guard).wp P a w K Q :=
  BigFrame.wp_assign _ rfl (hk (by rw [evalTmp, e]))

/-- The operation runs, from a frame and a world of which enough is known, to a yield as stated; it writes nothing that was there. -/
def StepOk (P : Program) (ops : Array Oper) (o : Oper) (a : Act) (w : World) (s : Spec) : Prop :=
  (Region.wanted o (yielded ops a.tmps) = true ∧ ∀ (K : Act → World → Prop) (Q : Exit → Act → World → Prop), (∀ v w', Below w.heap.size w w' → s.ok v w' → K (a.put o.dst v) w') → o.wp P a w K Q) ∨
  (Region.wanted o (yielded ops a.tmps) = false ∧ s.ok undef w)

def Steps (P : Program) (ops : Array Oper) (n : Nat) (ss : List Spec) (a0 : Act) (w0 : World) : List Oper → List Spec → Nat → Prop
  | [], _, _ => True
  | _ :: _, [], _ => False
  | o :: os, s :: rs, i => (∀ a w, Below w0.heap.size w0 w → (∀ t, isHead ops n t = false → a.tmps[t]?.getD undef = a0.tmps[t]?.getD undef) → (∀ j, waitB ops i j = true → (sOf ss j).ok (a.tmps[dOf ops j]?.getD undef) w) → StepOk P ops o a w s) ∧
      Steps P ops n ss a0 w0 os rs (i + 1)

theorem Steps.at {P : Program} {ops : Array Oper} {n : Nat} {ss : List Spec} {a0 : Act} {w0 : World} : ∀ {os : List Oper} {rs : List Spec} {k : Nat}, Steps P ops n ss a0 w0 os rs k → ∀ (i : Nat) (o : Oper), os[i]? = some o →
    ∀ a w, Below w0.heap.size w0 w → (∀ t, isHead ops n t = false → a.tmps[t]?.getD undef = a0.tmps[t]?.getD undef) → (∀ j, waitB ops (k + i) j = true → (sOf ss j).ok (a.tmps[dOf ops j]?.getD undef) w) → StepOk P ops o a w (sOf rs i)
  | [], _, _, _, i, o, h, _, _, _, _, _ => by simp at h
  | _ :: _, [], _, hs, _, _, _, _, _, _, _, _ => hs.elim
  | o' :: os, s :: rs, k, hs, 0, o, h, a, w, h1, h2, h3 => by
    obtain rfl : o' = o := by simpa using h
    exact hs.1 a w h1 h2 h3
  | o' :: os, s :: rs, k, hs, i + 1, o, h, a, w, h1, h2, h3 => by
    have := Steps.at hs.2 i o (by simpa using h) a w h1 h2 (fun j hj => h3 j (by rw [show k + (i + 1) = k + 1 + i by omega]; exact hj))
    simpa [sOf] using this

theorem yielded_of {ops : Array Oper} {a : Act} {j : Nat} {b : Bool} (h : a.tmps[dOf ops j]?.getD undef = .bool b) (hd : ((ops[j]?).bind (·.dst)).isSome = true) : yielded ops a.tmps j = some b := by
  obtain ⟨d, hd⟩ := Option.isSome_iff_exists.1 hd
  have e : dOf ops j = d := by unfold dOf; rw [hd]; rfl
  rw [e] at h
  unfold yielded
  rw [hd]
  simp only [Option.bind_some]
  cases ht : a.tmps[d]? with
  | none => simp [ht, undef] at h
  | some x =>
    have : x = .bool b := by simpa [ht] using h
    rw [this]

theorem wanted_of {ops : Array Oper} {o : Oper} {a : Act} {j : Nat} {b : Bool} (hg : o.guard = some (j, b)) (h : a.tmps[dOf ops j]?.getD undef = .bool b) (hd : ((ops[j]?).bind (·.dst)).isSome = true := by rfl) : Region.wanted o (yielded ops a.tmps) = true := by
  unfold Region.wanted
  rw [hg]
  simp only []
  rw [yielded_of h hd]
  simp

theorem wanted_not {ops : Array Oper} {o : Oper} {a : Act} {j : Nat} {b b' : Bool} (hg : o.guard = some (j, b)) (h : a.tmps[dOf ops j]?.getD undef = .bool b') (hne : b' ≠ b) (hd : ((ops[j]?).bind (·.dst)).isSome = true := by rfl) : Region.wanted o (yielded ops a.tmps) = false := by
  unfold Region.wanted
  rw [hg]
  simp only []
  rw [yielded_of h hd]
  simpa using hne

def backB (ops : Array Oper) : Bool := (List.range ops.size).all fun i => match ops[i]? with | some o => o.after.all (fun e => !Region.binds .any e || decide (e.on < i)) | none => false
def dstB (ops : Array Oper) (n N : Nat) : Bool := (List.range n).all fun i => match (ops[i]?).bind (·.dst) with | some d => decide (d < N) && (List.range i).all (fun j => dOf ops j != d) | none => false
def sinkB (ops : Array Oper) (n : Nat) : Bool := (List.range n).all fun i => (List.range (n + 1)).any fun j => decide (i < j) && waitB ops j i
def chainB (ops : Array Oper) (n : Nat) : Bool := (List.range ops.size).all fun t => decide (t ≤ n) || waitB ops t (t - 1)
def tailB (ops : Array Oper) (n : Nat) : Bool := decide (n = ops.size) || (decide (n < ops.size) && sinkB ops n && chainB ops n)
def monoB (ops : Array Oper) (n N : Nat) : Bool := decide (n ≤ ops.size) && backB ops && dstB ops n N && tailB ops n

theorem waitB_spec {ops : Array Oper} {j i : Nat} (h : waitB ops j i = true) : ∃ oj, ops[j]? = some oj ∧ ∃ e ∈ oj.after, Region.binds .any e = true ∧ e.on = i := by
  unfold waitB at h
  split at h
  · rename_i oj hj
    obtain ⟨e, he, hb⟩ := List.any_eq_true.1 h
    simp only [Bool.and_eq_true, beq_iff_eq] at hb
    exact ⟨oj, hj, e, Array.mem_toList_iff.1 he, hb.1, hb.2⟩
  · cases h

/-- The operations that have been carried out are closed under what they wait for. -/
structure Closed (ops : Array Oper) (listed : Array Bool) : Prop where
  size : listed.size = ops.size
  closed : ∀ j oj, ops[j]? = some oj → listed.getD j false = true → ∀ e ∈ oj.after, Region.binds .any e = true → listed.getD e.on false = true

theorem getDfalse {listed : Array Bool} {i : Nat} (h : listed.getD i true = false) : listed.getD i false = false := by
  rcases Nat.lt_or_ge i listed.size with h' | h'
  · simp [h'] at h ⊢; exact h
  · simp [Array.getElem?_eq_none h'] at h
theorem getDtrue {listed : Array Bool} {i : Nat} (hi : i < listed.size) (h : listed.getD i false = false) : listed.getD i true = false := by
  simp [hi] at h ⊢; exact h

theorem Closed.set {ops : Array Oper} {i : Nat} {listed : Array Bool} (inv : Closed ops listed) (hi : i ∈ Region.ready .any ops listed) : Closed ops (listed.setIfInBounds i true) := by
  obtain ⟨_, oi, hoi, hall⟩ := mem_ready.1 hi
  refine ⟨by simp [inv.size], fun j oj hj hl e he hb => ?_⟩
  by_cases hij : i = j
  · subst hij
    have : oj = oi := Option.some.inj (hj.symm.trans hoi)
    subst this
    exact getD_set_true (hall e he hb)
  · rw [getD_set_ne false hij] at hl
    exact getD_set_true (inv.closed j oj hj hl e he hb)

/-- While a head is left no tail may come up. -/
theorem sink_waits {ops : Array Oper} {n : Nat} {listed : Array Bool} (hs : sinkB ops n = true) (inv : Closed ops listed) :
    ∀ (d i : Nat), n - i = d → i < n → listed.getD i true = false → n ∉ Region.ready .any ops listed ∧ listed.getD n false = false := by
  intro d
  induction d using Nat.strongRecOn with
  | _ d ih =>
    intro i hd hi hun
    have h1 := List.all_eq_true.1 hs i (List.mem_range.2 hi)
    obtain ⟨j, hj, hj2⟩ := List.any_eq_true.1 h1
    simp only [Bool.and_eq_true, decide_eq_true_eq] at hj2
    obtain ⟨oj, hoj, e, he, hb, hon⟩ := waitB_spec hj2.2
    have hjle : j ≤ n := by have := List.mem_range.1 hj; omega
    have hjf : listed.getD j false = false := by
      cases hl : listed.getD j false with
      | false => rfl
      | true =>
        have h2 := inv.closed j oj hoj hl e he hb
        rw [hon, getDfalse hun] at h2
        cases h2
    by_cases hjn : j = n
    · subst hjn
      refine ⟨fun hr => ?_, hjf⟩
      obtain ⟨_, ot, hot, hall⟩ := mem_ready.1 hr
      have : oj = ot := Option.some.inj (hoj.symm.trans hot)
      subst this
      have h2 := hall e he hb
      rw [hon, getDfalse hun] at h2
      cases h2
    · have hjs : j < listed.size := by rw [inv.size]; exact (Array.getElem?_eq_some_iff.1 hoj).1
      exact ih (n - j) (by omega) j rfl (by omega) (getDtrue hjs hjf)

/-- In the tail each waits for the one before it. -/
theorem chain_waits {ops : Array Oper} {n : Nat} {listed : Array Bool} (hc : chainB ops n = true) (inv : Closed ops listed) :
    ∀ (d m : Nat), n ≤ m → listed.getD m false = false → m + 1 + d < ops.size → m + 1 + d ∉ Region.ready .any ops listed ∧ listed.getD (m + 1 + d) false = false
  | 0, m, hm, hf, ht => by
    have h1 := List.all_eq_true.1 hc (m + 1 + 0) (List.mem_range.2 ht)
    simp only [Bool.or_eq_true, decide_eq_true_eq] at h1
    rcases h1 with h1 | h1
    · omega
    · obtain ⟨o', ho', e, he, hb, hon⟩ := waitB_spec h1
      have hon' : e.on = m := by omega
      constructor
      · intro hr
        obtain ⟨_, ot, hot, hall⟩ := mem_ready.1 hr
        have : o' = ot := Option.some.inj (ho'.symm.trans hot)
        subst this
        have h2 := hall e he hb
        rw [hon', hf] at h2
        cases h2
      · cases hl : listed.getD (m + 1 + 0) false with
        | false => rfl
        | true =>
          have h2 := inv.closed _ o' ho' hl e he hb
          rw [hon', hf] at h2
          cases h2
  | d + 1, m, hm, hf, ht => by
    have h0 := (chain_waits hc inv 0 m hm hf (by omega)).2
    have h1 := chain_waits hc inv d (m + 1) (by omega) h0 (by omega)
    rw [show m + 1 + (d + 1) = m + 1 + 1 + d by omega]
    exact h1

/-- The rest, in the order of the text, once only one order is left. -/
theorem wpAny_chain {P : Program} {ops : Array Oper} {Q : Exit → Act → World → Prop} {n : Nat} (hc : chainB ops n = true) (hback : backB ops = true) :
    ∀ (l : List Oper) (k : Nat) (listed : Array Bool) (a : Act) (w : World), n ≤ k → k + l.length = ops.size → (∀ j, l[j]? = ops[k + j]?) → Closed ops listed →
    (∀ i, i < k → listed.getD i false = true) → (∀ i, k ≤ i → listed.getD i false = false) → wpList P ops Q l a w → wpAny P .any ops Q l.length listed a w
  | [], k, listed, a, w, hn, hk, hl, hC, hlo, hhi, h => by
    refine ⟨?_, h⟩
    apply List.eq_nil_iff_forall_not_mem.2
    intro i hi
    obtain ⟨h0, o, ho, _⟩ := mem_ready.1 hi
    have := hlo i (by have := (Array.getElem?_eq_some_iff.1 ho).1; simp at hk; omega)
    rw [getDfalse h0] at this
    cases this
  | o :: l, k, listed, a, w, hn, hk, hl, hC, hlo, hhi, h => by
    have h0 : ops[k]? = some o := by simpa using (hl 0).symm
    have hks : k < ops.size := (Array.getElem?_eq_some_iff.1 h0).1
    have hkr : k ∈ Region.ready .any ops listed := by
      refine mem_ready.2 ⟨getDtrue (by rw [hC.size]; exact hks) (hhi k (Nat.le_refl _)), o, h0, fun e he hb => hlo _ ?_⟩
      have h1 := List.all_eq_true.1 hback k (List.mem_range.2 hks)
      simp only [h0, Array.all_eq_true_iff_forall_mem, Bool.or_eq_true, Bool.not_eq_true', decide_eq_true_eq] at h1
      rcases h1 e he with h2 | h2
      · rw [hb] at h2; cases h2
      · exact h2
    refine ⟨fun h1 => (by rw [h1] at hkr; cases hkr), fun i hi => ?_⟩
    have hik : i = k := by
      obtain ⟨hi0, oi, hoi, _⟩ := mem_ready.1 hi
      have his : i < ops.size := (Array.getElem?_eq_some_iff.1 hoi).1
      rcases Nat.lt_trichotomy i k with hlt | heq | hgt
      · have := hlo i hlt
        rw [getDfalse hi0] at this
        cases this
      · exact heq
      · have := (chain_waits hc hC (i - k - 1) k hn (hhi k (Nat.le_refl _)) (by omega)).1
        rw [show k + 1 + (i - k - 1) = i by omega] at this
        exact absurd hi this
    subst hik
    have hw : wpOp P ops Q i (wpList P ops Q l) a w := by unfold wpOp; simp only [h0]; exact h
    refine wpOp_mono (fun a' w' h' => wpAny_chain hc hback l (i + 1) _ a' w' (by omega) (by simp at hk; omega) (fun j => by have := hl (j + 1); simpa [Nat.add_assoc, Nat.add_comm 1 j] using this) (hC.set hkr) (fun j hj => ?_) (fun j hj => ?_) h') hw
    · by_cases hji : i = j
      · subst hji
        simp [hC.size, hks]
      · exact getD_set_true (hlo j (by omega))
    · rw [getD_set_ne false (by omega)]
      exact hhi j (by omega)

def left (n : Nat) (listed : Array Bool) : List Nat := (List.range n).filter fun i => !listed.getD i false

theorem left_set {n i : Nat} {listed : Array Bool} (hi : i < n) (hl : i < listed.size) (hun : listed.getD i false = false) : (left n (listed.setIfInBounds i true)).length < (left n listed).length := by
  have h1 : left n (listed.setIfInBounds i true) = (left n listed).filter fun j => j != i := by
    unfold left
    rw [List.filter_filter]
    apply List.filter_congr
    intro j _
    by_cases hji : i = j
    · subst hji
      simp [hl]
    · rw [getD_set_ne false hji]
      have : (j != i) = true := by simp; omega
      simp [this]
  rw [h1]
  apply List.length_filter_lt_length_iff_exists.2
  exact ⟨i, by simp only [left, List.mem_filter, List.mem_range]; exact ⟨hi, by rw [hun]; rfl⟩, by simp⟩

/-- The frame with the yields laid in, one behind the other. -/
def Laid (F : Act → World → Prop) (w : World) : List Oper → List Spec → Act → Prop
  | [], _, a => F a w
  | _ :: _, [], _ => True
  | o :: os, .val c :: rs, a => Laid F w os rs (a.put o.dst c)
  | o :: os, .pred R :: rs, a => ∀ v, R v w → Laid F w os rs (a.put o.dst v)

theorem Laid.at {F : Act → World → Prop} {w : World} : ∀ (os : List Oper) (rs : List Spec) (vs : List Value) (a : Act), rs.length = os.length → vs.length = os.length → (∀ i o, os[i]? = some o → (sOf rs i).ok (vs.getD i undef) w) → Laid F w os rs a →
    F ((os.zip vs).foldl (fun a p => a.put p.1.dst p.2) a) w
  | [], _, _, a, _, _, _, h => h
  | o :: os, [], _, _, h, _, _, _ => by simp at h
  | o :: os, _ :: _, [], _, _, h, _, _ => by simp at h
  | o :: os, s :: rs, v :: vs, a, h1, h2, h3, h => by
    have hv : s.ok v w := by simpa [sOf] using h3 0 o rfl
    have hr := fun i o' (hi : os[i]? = some o') => by simpa [sOf] using h3 (i + 1) o' (by simpa using hi)
    simp only [List.zip_cons_cons, List.foldl_cons]
    cases s with
    | val c =>
      obtain rfl : v = c := hv
      exact Laid.at os rs vs _ (by simpa using h1) (by simpa using h2) hr h
    | pred R => exact Laid.at os rs vs _ (by simpa using h1) (by simpa using h2) hr (h v hv)

theorem foldl_puts_size (l : List (Oper × Value)) : ∀ a : Act, (l.foldl (fun a p => a.put p.1.dst p.2) a).tmps.size = a.tmps.size ∧ (l.foldl (fun a p => a.put p.1.dst p.2) a).defers = a.defers := by
  induction l with
  | nil => exact fun a => ⟨rfl, rfl⟩
  | cons p l ih =>
    intro a
    obtain ⟨h1, h2⟩ := ih (a.put p.1.dst p.2)
    simp only [List.foldl_cons]
    rw [h1, h2]
    cases p.1.dst <;> simp [Act.put]

theorem foldl_puts_out (l : List (Oper × Value)) (s : Nat) : (∀ p ∈ l, p.1.dst ≠ some s) → ∀ a : Act, (l.foldl (fun a p => a.put p.1.dst p.2) a).tmps.getD s undef = a.tmps.getD s undef := by
  induction l with
  | nil => exact fun _ a => rfl
  | cons p l ih =>
    intro h a
    simp only [List.foldl_cons]
    rw [ih (fun q hq => h q (List.mem_cons_of_mem _ hq))]
    have := h p List.mem_cons_self
    cases hd : p.1.dst with
    | none => rfl
    | some d =>
      have hne : d ≠ s := fun e => this (by rw [hd, e])
      simp [Act.put, Array.getElem?_setIfInBounds_ne hne]

theorem foldl_puts_in (s : Nat) (v : Value) : ∀ (l : List (Oper × Value)) (a : Act), s < a.tmps.size → (∃ (k : Nat) (p : Oper × Value), l[k]? = some p ∧ p.1.dst = some s ∧ p.2 = v) → (∀ p ∈ l, p.1.dst = some s → p.2 = v) → (l.foldl (fun a p => a.put p.1.dst p.2) a).tmps.getD s undef = v
  | [], a, _, h, _ => by obtain ⟨k, p, h, _⟩ := h; simp at h
  | p :: l, a, hs, h, hall => by
    simp only [List.foldl_cons]
    have hs' : s < (a.put p.1.dst p.2).tmps.size := by cases hd : p.1.dst <;> simpa [Act.put, hd] using hs
    by_cases hin : ∃ q ∈ l, q.1.dst = some s
    · obtain ⟨q, hq, hqs⟩ := hin
      obtain ⟨k, hk⟩ := List.getElem?_of_mem hq
      exact foldl_puts_in s v l _ hs' ⟨k, q, hk, hqs, hall q (List.mem_cons_of_mem _ hq) hqs⟩ (fun r hr => hall r (List.mem_cons_of_mem _ hr))
    · rw [foldl_puts_out l s (fun q hq e => hin ⟨q, hq, e⟩)]
      obtain ⟨k, q, hk, hqs, hqv⟩ := h
      cases k with
      | zero =>
        obtain rfl : p = q := by simpa using hk
        simp [Act.put, hqs, hs, hqv]
      | succ k => exact absurd ⟨q, List.mem_of_getElem? (by simpa using hk), hqs⟩ hin

/-- What holds while the heads are carried out, in whatever order. -/
structure Inv (ops : Array Oper) (n N : Nat) (ss : List Spec) (a0 : Act) (w0 : World) (listed : Array Bool) (a : Act) (w : World) : Prop where
  size : a.tmps.size = N
  defers : a.defers = a0.defers
  out : ∀ t, isHead ops n t = false → a.eval (.tmp t) = a0.eval (.tmp t)
  ok : ∀ j, j < n → listed.getD j false = true → (sOf ss j).ok (a.eval (.tmp (dOf ops j))) w
  below : Below w0.heap.size w0 w

theorem dstB_spec {ops : Array Oper} {n N i : Nat} (h : dstB ops n N = true) (hi : i < n) : ∃ o, ops[i]? = some o ∧ o.dst = some (dOf ops i) ∧ dOf ops i < N ∧ ∀ j, j < i → dOf ops j ≠ dOf ops i := by
  have h1 := List.all_eq_true.1 h i (List.mem_range.2 hi)
  cases ho : ops[i]? with
  | none => simp [ho] at h1
  | some o =>
    cases hd : o.dst with
    | none => simp [ho, hd] at h1
    | some d =>
      have e : dOf ops i = d := by simp [dOf, ho, hd]
      simp only [ho, Option.bind_some, hd, Bool.and_eq_true, decide_eq_true_eq, List.all_eq_true, List.mem_range, bne_iff_ne] at h1
      exact ⟨o, rfl, by rw [hd, e], by rw [e]; exact h1.1, fun j hj => by rw [e]; exact h1.2 j hj⟩

theorem dOf_inj {ops : Array Oper} {n N i j : Nat} (h : dstB ops n N = true) (hi : i < n) (hj : j < n) (hij : i ≠ j) : dOf ops i ≠ dOf ops j := by
  obtain ⟨_, _, _, _, h1⟩ := dstB_spec h hi
  obtain ⟨_, _, _, _, h2⟩ := dstB_spec h hj
  rcases Nat.lt_or_ge i j with hlt | hge
  · exact h2 i hlt
  · exact (h1 j (by omega)).symm

theorem isHead_dOf {ops : Array Oper} {n i : Nat} (hi : i < n) : isHead ops n (dOf ops i) = true := by
  simp only [isHead, List.any_eq_true, List.mem_range, beq_iff_eq]
  exact ⟨i, hi, rfl⟩

theorem eval_put_self {a : Act} {d N : Nat} {v : Value} (hs : a.tmps.size = N) (hd : d < N) : (a.put (some d) v).eval (.tmp d) = v := by
  simp [Act.put, Act.eval, hs, hd]

theorem eval_put_ne {a : Act} {d t : Nat} {v : Value} (h : d ≠ t) : (a.put (some d) v).eval (.tmp t) = a.eval (.tmp t) := by
  simp [Act.put, Act.eval, Array.getElem?_setIfInBounds_ne h]

theorem Inv.step {ops : Array Oper} {n N : Nat} {ss : List Spec} {a0 : Act} {w0 : World} {listed : Array Bool} {a : Act} {w w' : World} {i : Nat} {v : Value} (inv : Inv ops n N ss a0 w0 listed a w) (hd : dstB ops n N = true) (hi : i < n)
    (hst : ∀ s ∈ ss, s.Stable) (hlen : ss.length = n) (hb : Below w.heap.size w w') (hv : (sOf ss i).ok v w') : Inv ops n N ss a0 w0 (listed.setIfInBounds i true) (a.put (some (dOf ops i)) v) w' := by
  obtain ⟨o, _, _, hdN, _⟩ := dstB_spec hd hi
  refine ⟨by simp [Act.put, inv.size], inv.defers, fun t ht => ?_, fun j hj hlj => ?_, inv.below.trans (hb.mono inv.below.size)⟩
  · rw [eval_put_ne (fun e => by rw [← e, isHead_dOf hi] at ht; cases ht)]
    exact inv.out t ht
  · by_cases hij : i = j
    · subst hij
      rw [eval_put_self inv.size hdN]
      exact hv
    · rw [getD_set_ne false hij] at hlj
      rw [eval_put_ne (dOf_inj hd hi hj hij)]
      have hs : (sOf ss j).Stable := by
        have : sOf ss j = ss[j]'(by omega) := by simp [sOf, List.getD, show j < ss.length by omega]
        rw [this]
        exact hst _ (List.getElem_mem _)
      exact hs.keep (inv.ok j hj hlj) hb

section
variable {P : Program} {l : List Oper} {Q : Exit → Act → World → Prop} {a0 : Act} {w0 : World} {n N : Nat} {ss : List Spec}

theorem mono_core (hB : monoB l.toArray n N = true) (hlen : ss.length = n) (hst : ∀ s ∈ ss, s.Stable) (hN : a0.tmps.size = N)
    (hsteps : Steps P l.toArray n ss a0 w0 (l.take n) ss 0)
    (hfin : ∀ w, Below w0.heap.size w0 w → Laid (fun a w => wpList P l.toArray Q (l.drop n) a w) w (l.take n) ss a0) :
    ∀ (c : Nat) (listed : Array Bool) (a : Act) (w : World), (left n listed).length = c → Closed l.toArray listed → (∀ t, n ≤ t → listed.getD t false = false) → Inv l.toArray n N ss a0 w0 listed a w →
      wpAny P .any l.toArray Q (c + (l.length - n)) listed a w := by
  simp only [monoB, Bool.and_eq_true, decide_eq_true_eq] at hB
  obtain ⟨⟨⟨hn, hback⟩, hd⟩, htail⟩ := hB
  have hn' : n ≤ l.length := by simpa using hn
  intro c
  induction c with
  | zero =>
    intro listed a w hc hC htl inv
    have hall : ∀ i, i < n → listed.getD i false = true := by
      intro i hi
      cases h : listed.getD i false with
      | true => rfl
      | false =>
        have : i ∈ left n listed := by simp only [left, List.mem_filter, List.mem_range]; exact ⟨hi, by rw [h]; rfl⟩
        rw [List.eq_nil_of_length_eq_zero hc] at this
        cases this
    have hF := hfin w inv.below
    let vs : List Value := (List.range n).map fun i => a.eval (.tmp (dOf l.toArray i))
    have hvl : vs.length = (l.take n).length := by simp [vs]; omega
    have htk : (l.take n).length = n := by simp; omega
    have hvi : ∀ i, i < n → vs.getD i undef = a.eval (.tmp (dOf l.toArray i)) := fun i hi => by simp [vs, List.getD, hi]
    have hF' := Laid.at (l.take n) ss vs a0 (by omega) hvl (fun i o hio => by
      have hi : i < n := by
        have := (List.getElem?_eq_some_iff.1 hio).1
        omega
      rw [hvi i hi]
      exact inv.ok i hi (hall i hi)) hF
    have ha : ((l.take n).zip vs).foldl (fun a p => a.put p.1.dst p.2) a0 = a := by
      obtain ⟨hs1, hs2⟩ := foldl_puts_size ((l.take n).zip vs) a0
      have hzip : ∀ (k : Nat) (p : Oper × Value), ((l.take n).zip vs)[k]? = some p → k < n ∧ p.1.dst = some (dOf l.toArray k) ∧ p.2 = a.eval (.tmp (dOf l.toArray k)) := by
        intro k p hk
        have hkl : k < n := by
          have := (List.getElem?_eq_some_iff.1 hk).1
          simp only [List.length_zip] at this
          omega
        obtain ⟨o, ho, hod, _, _⟩ := dstB_spec hd hkl
        have ho' : l[k]? = some o := by simpa using ho
        rw [List.getElem?_zip_eq_some] at hk
        obtain ⟨h1, h2⟩ := hk
        rw [List.getElem?_take_of_lt hkl, ho'] at h1
        have h3 : vs[k]? = some (a.eval (.tmp (dOf l.toArray k))) := by simp [vs, hkl]
        rw [h3] at h2
        exact ⟨hkl, by rw [← Option.some.inj h1]; exact hod, (Option.some.inj h2).symm⟩
      have hx : ∀ x : Act, x.tmps.size = a.tmps.size → x.defers = a.defers → (∀ t, t < a.tmps.size → x.tmps.getD t undef = a.tmps.getD t undef) → x = a := by
        intro x h1 h2 h3
        cases x; cases a
        simp only at h1 h2 h3
        congr 1
        refine Array.ext h1 fun i hi1 hi2 => ?_
        have := h3 i hi2
        simpa [hi1, hi2] using this
      refine hx _ (by rw [hs1, inv.size, hN]) (by rw [hs2, inv.defers]) fun t ht => ?_
      cases hh : isHead l.toArray n t with
      | false =>
        rw [foldl_puts_out _ t (fun p hp e => by
          obtain ⟨k, hk⟩ := List.getElem?_of_mem hp
          obtain ⟨hkn, hkd, _⟩ := hzip k p hk
          rw [hkd] at e
          have := isHead_dOf (ops := l.toArray) hkn
          rw [Option.some.inj e, hh] at this
          cases this)]
        exact (inv.out t hh).symm
      | true =>
        obtain ⟨k, hk, hkt⟩ := List.any_eq_true.1 hh
        have hkn : k < n := List.mem_range.1 hk
        have hkt' : dOf l.toArray k = t := by simpa using hkt
        have hin : k < ((l.take n).zip vs).length := by simp only [List.length_zip]; omega
        refine foldl_puts_in t _ _ _ (by rw [hN, ← inv.size]; exact ht) ⟨k, _, List.getElem?_eq_getElem hin, ?_, ?_⟩ (fun p hp e => ?_)
        · rw [(hzip k _ (List.getElem?_eq_getElem hin)).2.1, hkt']
        · rw [(hzip k _ (List.getElem?_eq_getElem hin)).2.2, hkt']
          rfl
        · obtain ⟨j, hj⟩ := List.getElem?_of_mem hp
          obtain ⟨_, hjd, hjv⟩ := hzip j p hj
          rw [hjd] at e
          rw [hjv, Option.some.inj e]
          rfl
    rw [ha] at hF'
    rw [Nat.zero_add]
    have hchain : chainB l.toArray n = true ∨ n = l.length := by
      simp only [tailB, Bool.or_eq_true, Bool.and_eq_true, decide_eq_true_eq] at htail
      rcases htail with h | h
      · exact .inr (by simpa using h)
      · exact .inl h.2
    rcases hchain with hch | hnl
    · have := wpAny_chain (P := P) (Q := Q) hch hback (l.drop n) n listed a w (Nat.le_refl _) (by simp; omega) (fun j => by simp [List.getElem?_drop]) hC hall htl hF'
      simpa using this
    · subst hnl
      rw [Nat.sub_self]
      refine ⟨?_, by simpa [wpList] using hF'⟩
      apply List.eq_nil_iff_forall_not_mem.2
      intro i hi
      obtain ⟨h0, o, ho, _⟩ := mem_ready.1 hi
      have := hall i (by simpa using (Array.getElem?_eq_some_iff.1 ho).1)
      rw [getDfalse h0] at this
      cases this
  | succ c ih =>
    intro listed a w hc hC htl inv
    -- the least head that is left may come up
    have hex : ∃ i, i < n ∧ listed.getD i false = false := by
      cases hl : left n listed with
      | nil => rw [hl] at hc; simp at hc
      | cons i _ =>
        have : i ∈ left n listed := by rw [hl]; exact List.mem_cons_self
        simp only [left, List.mem_filter, List.mem_range, Bool.not_eq_true'] at this
        exact ⟨i, this⟩
    have hleast : ∀ i, i < n → listed.getD i false = false → ∃ k, k ∈ Region.ready .any l.toArray listed := by
      intro i
      induction i using Nat.strongRecOn with
      | _ i ihi =>
        intro hi hun
        by_cases hlow : ∃ j, j < i ∧ listed.getD j false = false
        · obtain ⟨j, hj, hju⟩ := hlow
          exact ihi j hj (by omega) hju
        · have hs : i < l.toArray.size := by simp; omega
          have ho : l.toArray[i]? = some l.toArray[i] := Array.getElem?_eq_getElem hs
          refine ⟨i, mem_ready.2 ⟨getDtrue (by rw [hC.size]; exact hs) hun, _, ho, fun e he hb => ?_⟩⟩
          have h1 := List.all_eq_true.1 hback i (List.mem_range.2 hs)
          rw [ho] at h1
          simp only [Array.all_eq_true_iff_forall_mem, Bool.or_eq_true, Bool.not_eq_true', decide_eq_true_eq] at h1
          rcases h1 e he with h2 | h2
          · rw [hb] at h2; cases h2
          · cases h3 : listed.getD e.on false with
            | true => rfl
            | false => exact absurd ⟨e.on, h2, h3⟩ hlow
    obtain ⟨i0, hi0, hun0⟩ := hex
    have hne := hleast i0 hi0 hun0
    rw [show c + 1 + (l.length - n) = (c + (l.length - n)) + 1 by omega]
    refine ⟨fun h0 => (by obtain ⟨k, hk⟩ := hne; rw [h0] at hk; cases hk), fun i hi => ?_⟩
    obtain ⟨hiun, oi, hoi, hall⟩ := mem_ready.1 hi
    have his : i < l.toArray.size := (Array.getElem?_eq_some_iff.1 hoi).1
    have hin : i < n := by
      rcases Nat.lt_or_ge i n with h | h
      · exact h
      · simp only [tailB, Bool.or_eq_true, Bool.and_eq_true, decide_eq_true_eq] at htail
        rcases htail with ht | ⟨⟨_, hsk⟩, hch⟩
        · omega
        · have hw := sink_waits hsk hC (n - i0) i0 rfl hi0 (getDtrue (by rw [hC.size]; simp; omega) hun0)
          by_cases hie : i = n
          · rw [hie] at hi
            exact absurd hi hw.1
          · have := (chain_waits hch hC (i - n - 1) n (Nat.le_refl _) hw.2 (by omega)).1
            rw [show n + 1 + (i - n - 1) = i by omega] at this
            exact absurd hi this
    have hstep := hsteps.at i oi (by rw [List.getElem?_take_of_lt hin]; simpa using hoi) a w inv.below (fun t ht => by rw [← evalTmp, ← evalTmp]; exact inv.out t ht) (fun j hj => by
      rw [← evalTmp]
      rw [Nat.zero_add] at hj
      obtain ⟨oj, hoj, e, he, hb, hon⟩ := waitB_spec hj
      have : oj = oi := Option.some.inj (hoj.symm.trans hoi)
      subst this
      have hlj := hall e he hb
      rw [hon] at hlj
      have hjn : j < n := by
        rcases Nat.lt_or_ge j n with h | h
        · exact h
        · rw [htl j h] at hlj; cases hlj
      exact inv.ok j hjn hlj)
    obtain ⟨_, ho2, hod, _, _⟩ := dstB_spec hd hin
    have hoe : oi = _ := Option.some.inj (hoi.symm.trans ho2)
    have hdst : oi.dst = some (dOf l.toArray i) := by rw [hoe]; exact hod
    have hils : i < listed.size := by rw [hC.size]; exact his
    have next : ∀ v w', Below w.heap.size w w' → (sOf ss i).ok v w' → wpAny P .any l.toArray Q (c + (l.length - n)) (listed.setIfInBounds i true) (a.put oi.dst v) w' := by
      intro v w' hb hv
      rw [hdst]
      have hdec := left_set hin hils (getDfalse hiun)
      have hge : c ≤ (left n (listed.setIfInBounds i true)).length := by
        have h1 : (left n listed).length ≤ (left n (listed.setIfInBounds i true)).length + 1 := by
          have : (left n listed).filter (fun j => j != i) = left n (listed.setIfInBounds i true) := by
            unfold left
            rw [List.filter_filter]
            apply List.filter_congr
            intro j _
            by_cases hji : i = j
            · subst hji
              simp [hils]
            · rw [getD_set_ne false hji]
              have : (j != i) = true := by simp; omega
              simp [this]
          rw [← this]
          have hnd : (left n listed).Nodup := (List.nodup_range).filter _
          have hmem : i ∈ left n listed := by simp only [left, List.mem_filter, List.mem_range]; exact ⟨hin, by rw [getDfalse hiun]; rfl⟩
          have := hnd.erase_eq_filter i
          rw [← this, List.length_erase_of_mem hmem]
          omega
        omega
      exact ih _ _ _ (by omega) (hC.set hi) (fun t ht => by rw [getD_set_ne false (by omega)]; exact htl t ht) (inv.step hd hin hst hlen hb hv)
    unfold wpOp
    rw [hoi]
    simp only []
    rcases hstep with ⟨hw, hK⟩ | ⟨hw, hu⟩
    · rw [if_pos hw]
      exact .inl (hK _ _ next)
    · rw [if_neg (by rw [hw]; exact Bool.false_ne_true)]
      exact next undef w (Below.refl _ _) hu

def AllStable : List Spec → Prop
  | [] => True
  | .val _ :: r => AllStable r
  | .pred R :: r => (∀ v w w', R v w → Below w.heap.size w w' → R v w') ∧ AllStable r

theorem AllStable.mem : ∀ {ss : List Spec}, AllStable ss → ∀ s ∈ ss, s.Stable
  | .val _ :: r, h, s, hs => by
    rcases List.mem_cons.1 hs with rfl | h'
    · exact trivial
    · exact AllStable.mem (ss := r) h s h'
  | .pred R :: r, h, s, hs => by
    rcases List.mem_cons.1 hs with rfl | h'
    · exact h.1
    · exact AllStable.mem (ss := r) h.2 s h'

/-- THE RULE. -/
theorem wp_region_mono {id : Nat} (n N : Nat) (ss : List Spec) (hm : P.follows .mixedOrders = true) (hB : monoB l.toArray n N = true) (hlen : ss.length = n) (hst' : AllStable ss) (hN : a0.tmps.size = N)
    (hsteps : Steps P l.toArray n ss a0 w0 (l.take n) ss 0)
    (hfin : ∀ w, Below w0.heap.size w0 w → Laid (fun a w => wpList P l.toArray Q (l.drop n) a w) w (l.take n) ss a0) : (Code.region id l.toArray true).wp P Q a0 w0 := by
  refine wp_region_any hm ?_
  have hst := hst'.mem
  have hn : n ≤ l.length := by
    simp only [monoB, Bool.and_eq_true, decide_eq_true_eq] at hB
    simpa using hB.1.1.1
  have hleft : (left n (Array.replicate l.toArray.size false)).length = n := by
    have : left n (Array.replicate l.toArray.size false) = List.range n := by
      unfold left
      apply List.filter_eq_self.2
      intro i hi
      have : i < l.length := by have := List.mem_range.1 hi; omega
      simp [this]
    rw [this, List.length_range]
  have hf : ∀ j : Nat, (Array.replicate l.toArray.size false).getD j false = false := by
    intro j
    simp only [Array.getD_eq_getD_getElem?, Array.getElem?_replicate]
    split <;> rfl
  have := mono_core (Q := Q) hB hlen hst hN hsteps hfin n (Array.replicate l.toArray.size false) a0 { w0 with drawn := w0.drawn + 1 } hleft
    ⟨by simp, fun j oj _ hl => (by rw [hf] at hl; cases hl)⟩ (fun t _ => hf t) ⟨hN, rfl, fun _ _ => rfl, fun j _ hl => (by rw [hf] at hl; cases hl), (Below.refl _ _).drew⟩
  rw [show n + (l.length - n) = l.toArray.size by simp; omega] at this
  exact this
end

end Go.Proofs.Ytellclclpmofcaa
