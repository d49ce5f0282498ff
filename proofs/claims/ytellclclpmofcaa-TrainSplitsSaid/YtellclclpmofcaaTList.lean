/-
  Lists of byte slices that a call owns, and what a train is split into; conditions: none.
-/
import Derived.Test.YtellclclpmofcaaTClose
namespace Go.Proofs.Ytellclclpmofcaa
open Go.RowKit

/-- A list of byte slices that the call owns, each of which it owns too. -/
def OwnL (w : World) (base : Nat) (v : Value) (ls : List (List UInt8)) : Prop :=
  ∃ vs : List Value, w.ownsRow base 24 1 v ls.length vs ∧ ∀ (i : Nat) (s : Value) (l : List UInt8), vs[i]? = some s → ls[i]? = some l → Own w base s l

theorem OwnL.nil (w : World) (base : Nat) : OwnL w base (.slice none 0 0) [] := ⟨[], ⟨rfl, .inl ⟨rfl, rfl⟩⟩, fun i s l h => by simp at h⟩

theorem OwnL.isL {w : World} {base : Nat} {v : Value} {ls : List (List UInt8)} (h : OwnL w base v ls) : IsL w v ls := by
  obtain ⟨vs, hrow, hel⟩ := h
  have hlen : vs.length = ls.length := by have := hrow.1; omega
  have hc := fun g (hg : v.ownBlock = some g) => World.ownsRow.cells hrow hg
  rcases hrow.2 with ⟨rfl, h0⟩ | ⟨g, cap, cur, rfl, _, _, h1, h2, _, _⟩
  · exact ⟨none, 0, by rw [h0], by omega, Nat.zero_le _, fun _ => rfl, fun _ h => by cases h⟩
  · refine ⟨_, cap, rfl, h1, h2, (fun h => by cases h), fun ad had i x hx => ?_⟩
    obtain rfl := Option.some.inj had
    have hi : i < vs.length := by rw [hlen]; exact (List.getElem?_eq_some_iff.1 hx).1
    exact ⟨vs[i], hc g rfl i _ (by simp [hi]), (hel i vs[i] x (by simp [hi]) hx).isB⟩

theorem OwnL.below {w w' : World} {base : Nat} {v : Value} {ls : List (List UInt8)} (h : OwnL w base v ls) (hb : Below w.heap.size w w') : OwnL w' base v ls := by
  obtain ⟨vs, hrow, hel⟩ := h
  exact ⟨vs, World.ownsRow.kept (row := none) hrow ⟨hb.os, hb.tape, hb.output, hb.size, fun k hk _ => hb.block k hk⟩ (by cases v.ownBlock <;> simp), fun i s l h1 h2 => (hel i s l h1 h2).below hb⟩

theorem info24 : (Try.prog.info? 24).map (fun i => (i.zero, i.size, i.bytes)) = some (some (.slice none 0 0), 1, 24) := by kernel_rfl

theorem Own.oneCell {w : World} {base : Nat} {v : Value} {l : List UInt8} (h : Own w base v l) : v.oneCell' = true := by
  rcases h.2 with ⟨rfl, _⟩ | ⟨g, cap, cur, rfl, _⟩ <;> rfl

/-- 'append(t, x)' onto such a list. -/
theorem wpList_append_L {ops : Array Oper} {Q : Exit → Act → World → Prop} {a : Act} {w : World} {rest : List Oper} {dst : Option Tmp} {s x : Operand} {ty : TypeId} {pos : String} {after : Array Edge}
    {base : Nat} {v sv : Value} {ls : List (List UInt8)} {l : List UInt8} {g : Nat} (hown : OwnL w base v ls) (hel : Own w base sv l) (hg : w.heap[g]? = some (.cells #[sv] 24 (0, 0))) (hlen : ls.length ≤ 1000000) (hbase : base ≤ w.heap.size)
    (hs : a.eval s = v) (hx : a.eval x = .slice (some ⟨g, 0, none⟩) 1 1)
    (hK : ∀ v' w', OwnL w' base v' (ls ++ [l]) → Below base w w' → wpList Try.prog ops Q rest (a.put dst v') w') : wpList Try.prog ops Q (⟨dst, .call { callee := .builtin .append, args := #[s, x], argTypes := #[57, 57] }, ty, pos, after, none⟩ :: rest) a w := by
  obtain ⟨i, hi, hz, hsz, hby⟩ := info_parts info24
  obtain ⟨vs, hrow, hels⟩ := hown
  have hlen2 : vs.length = ls.length := by have := hrow.1; omega
  refine wpList_plain rfl fun K hK' => ?_
  refine wp_append_own w s x 57 rfl base 24 i (.slice none 0 0) 1 24 Try.underlying57 hi hz hsz hby rfl (by decide) v ls.length vs hs hrow ⟨g, 0, none⟩ 1 1 [sv] hx rfl (fun j u hu => ?_) (fun u hu => ?_) (by simp only [maxLen]; omega) (by omega) hbase ?_
  · match j, hu with
    | 0, hu =>
      obtain rfl := Option.some.inj hu
      rw [Addr.add_lit, (row_facts hg).1]
      rfl
    | j + 1, hu => simp at hu
  · obtain rfl := List.mem_singleton.1 hu
    exact hel.oneCell
  · intro v' w' hown' hgr _
    refine hK' _ _ (hK v' w' ?_ ((Below.refl _ _).grown hgr hbase fun k hk => (hrow.lt k hk).1))
    have keep : ∀ s' l', Own w base s' l' → Own w' base s' l' := by
      intro s' l' ho
      refine World.ownsRow.kept ho hgr ?_
      rcases ho.2 with ⟨rfl, _⟩ | ⟨k, cap, cur, rfl, _, hk, _⟩
      · exact .inl rfl
      · right
        intro e
        rcases hrow.2 with ⟨rfl, _⟩ | ⟨k2, cap2, cur2, rfl, _, hk2, _⟩
        · cases e
        · have : k = k2 := by simpa [Value.ownBlock] using e
          subst this
          rw [hk] at hk2
          have := Option.some.inj hk2
          injection this with _ h2 _
          cases h2
    refine ⟨vs ++ [sv], by rw [List.length_append]; exact hown', fun i s' l' h1 h2 => ?_⟩
    by_cases hi : i < vs.length
    · rw [List.getElem?_append_left hi] at h1
      rw [List.getElem?_append_left (by omega)] at h2
      exact keep _ _ (hels i s' l' h1 h2)
    · rw [List.getElem?_append_right (by omega)] at h1
      rw [List.getElem?_append_right (by omega)] at h2
      rw [hlen2] at h1
      cases hj : i - ls.length with
      | zero =>
        rw [hj] at h1 h2
        obtain rfl := Option.some.inj h1
        obtain rfl := Option.some.inj h2
        exact keep _ _ hel
      | succ j => rw [hj] at h1; simp at h1

/-- A train, split: the error, and the cars. -/
def sp (l : List UInt8) : Int × List (List UInt8) :=
  if _h : rdE l = 0 then
    if rdP l = true ∧ l.drop (rdS l).toNat ≠ [] then (5, [])
    else if rdP l = true ∧ trE ((l.take (rdS l).toNat).drop 4) ≠ 0 then (5, [])
    else if (sp (l.drop (rdS l).toNat)).1 = 0 then (0, l.take (rdS l).toNat :: (sp (l.drop (rdS l).toNat)).2) else ((sp (l.drop (rdS l).toNat)).1, [])
  else if l = [] then (0, []) else (rdE l, [])
termination_by l.length
decreasing_by
  all_goals
    have := rd_le _h
    simp only [List.length_drop]
    omega

def pre (d : List (List UInt8)) (p : Int × List (List UInt8)) : Int × List (List UInt8) := if p.1 = 0 then (0, d ++ p.2) else (p.1, [])

theorem sp_nil : sp [] = (0, []) := by
  rw [sp, dif_neg (by decide), if_pos rfl]

theorem sp_err {l : List UInt8} (h : rdE l ≠ 0) (hl : l ≠ []) : sp l = (rdE l, []) := by rw [sp, dif_neg h, if_neg hl]

theorem sp_bad {l : List UInt8} (h : rdE l = 0) (hp : rdP l = true) (hb : l.drop (rdS l).toNat ≠ [] ∨ trE ((l.take (rdS l).toNat).drop 4) ≠ 0) : sp l = (5, []) := by
  rw [sp, dif_pos h]
  rcases hb with hb | hb
  · rw [if_pos ⟨hp, hb⟩]
  · split
    · rfl
    · rw [if_pos ⟨hp, hb⟩]

theorem sp_cons {l : List UInt8} (h : rdE l = 0) (hp : rdP l = true → l.drop (rdS l).toNat = [] ∧ trE ((l.take (rdS l).toNat).drop 4) = 0) : sp l = pre [l.take (rdS l).toNat] (sp (l.drop (rdS l).toNat)) := by
  rw [sp, dif_pos h, if_neg (fun hh => hh.2 (hp hh.1).1), if_neg (fun hh => hh.2 (hp hh.1).2)]
  rfl

theorem pre_pre (d e : List (List UInt8)) (p : Int × List (List UInt8)) : pre d (pre e p) = pre (d ++ e) p := by
  unfold pre
  by_cases h : p.1 = 0
  · simp [h]
  · simp [h]

theorem pre_nil (p : Int × List (List UInt8)) (h : p.1 ≠ 0 → p.2 = []) : pre [] p = p := by
  unfold pre
  by_cases h0 : p.1 = 0
  · rw [if_pos h0]
    simp only [List.nil_append]
    rw [← h0]
  · rw [if_neg h0, ← h h0]

theorem sp_bad_nil (l : List UInt8) (h : (sp l).1 ≠ 0) : (sp l).2 = [] := by
  by_cases h0 : rdE l = 0
  · by_cases hb : rdP l = true ∧ (l.drop (rdS l).toNat ≠ [] ∨ trE ((l.take (rdS l).toNat).drop 4) ≠ 0)
    · rw [sp_bad h0 hb.1 hb.2]
    · have hc : rdP l = true → l.drop (rdS l).toNat = [] ∧ trE ((l.take (rdS l).toNat).drop 4) = 0 := by
        intro hp
        constructor
        · exact Classical.byContradiction fun hh => hb ⟨hp, .inl hh⟩
        · exact Classical.byContradiction fun hh => hb ⟨hp, .inr hh⟩
      rw [sp_cons h0 hc] at h ⊢
      unfold pre at h ⊢
      by_cases h1 : (sp (l.drop (rdS l).toNat)).1 = 0
      · rw [if_pos h1] at h
        exact absurd rfl h
      · rw [if_neg h1]
  · by_cases hl : l = []
    · subst hl
      rw [sp_nil]
    · rw [sp_err h0 hl]

def spE (l : List UInt8) : Int := if l = [] then 2 else (sp l).1
def spL (l : List UInt8) : List (List UInt8) := (sp l).2

def RetSp (w : World) (l : List UInt8) (e : Ending) (w' : World) : Prop :=
  ∃ v, e = .returned (.tuple #[v, .int .i64 (spE l)]) ∧ IsL w' v (spL l) ∧ Below w.heap.size w w'

theorem RetSp.bad {w w' : World} {l : List UInt8} {x : Int} (hl : l ≠ []) (h : sp l = (x, [])) (hb : Below w.heap.size w w') : RetSp w l (.returned (.tuple #[.slice none 0 0, .int .i64 x])) w' :=
  ⟨_, by rw [spE, if_neg hl, h], by rw [spL, h]; exact IsL.nil _, hb⟩

end Go.Proofs.Ytellclclpmofcaa
