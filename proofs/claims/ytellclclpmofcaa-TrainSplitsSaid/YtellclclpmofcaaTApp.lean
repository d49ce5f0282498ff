/-
  Two lists that grow side by side: a list of byte slices, and the bytes of all of them; conditions: their sizes.
-/
import Derived.Test.YtellclclpmofcaaTCut
namespace Go.Proofs.Ytellclclpmofcaa
open Go.RowKit

/-- Where append puts what it hands back: where it was, or in a new block. -/
theorem append_block {w w' : World} {ty : TypeId} {base : Nat} {v v' vx : Value} {l lx : List UInt8} (hown : Own w base v l) (hb : IsB w vx lx) (hlen : l.length + lx.length ≤ 140737488355328)
    (hr : (Builtin.append_ #[24, 24] ty #[v, vx]).run Try.prog w = .ok v' w') : v'.ownBlock = v.ownBlock ∨ v'.ownBlock = some w.heap.size := by
  obtain ⟨i, hi, hz, hsz, hby⟩ := info_parts info5
  obtain ⟨ad, cap, rfl, h1, h2, h3, h4⟩ := hb
  cases ad with
  | none =>
    have hc0 := h3 rfl
    subst hc0
    have hl0 : lx = [] := List.eq_nil_of_length_eq_zero (by omega)
    subst hl0
    have hr2 := run_append_owned_none (P := Try.prog) w base 24 ty 5 i 1 Try.underlying24 hi v l.length (l.map bval) hown
    simp only [List.length_nil] at hr
    rw [hr2] at hr
    injection hr with e1 _
    exact .inl (by rw [e1])
  | some ad =>
    have hnews : ∀ j u, (lx.map bval)[j]? = some u → w.cell? (ad.add j) = some u := by
      intro j u hu
      rw [List.getElem?_map] at hu
      cases hj : lx[j]? with
      | none => rw [hj] at hu; cases hu
      | some x' =>
        rw [hj] at hu
        obtain rfl := Option.some.inj hu
        exact h4 ad rfl j x' hj
    rcases hown.2 with ⟨rfl, h0⟩ | ⟨g, capd, cur, rfl, hbg, hg, hnc, hcm, hcs, htake⟩
    · by_cases hl0 : lx.length = 0
      · have e0 : lx = [] := List.eq_nil_of_length_eq_zero hl0
        subst e0
        have : (Builtin.append_ #[24, 24] ty #[.slice none 0 0, .slice (some ad) 0 cap]).run Try.prog w = .ok (.slice none 0 0) w := by
          simp [Builtin.append_, run_underlying Try.underlying24, sizeOf, typeInfo, hi, Builtin.lenOf, Builtin.firstCells, loadCells, loadCellsFrom]
        simp only [List.length_nil] at hr
        rw [this] at hr
        injection hr with e1 _
        exact .inl (by rw [e1])
      · have hr2 := run_append_nil (P := Try.prog) w 24 ty 5 i (.int .u8 0) Try.underlying24 hi hz ad lx.length cap (lx.map bval) (by simp [hsz]) hnews (by omega) (by omega) (by rw [hby]; omega)
        rw [hr2] at hr
        injection hr with e1 _
        exact .inr (by rw [← e1]; rfl)
    · by_cases hroom : l.length + lx.length ≤ capd
      · have hr2 := run_append_room (P := Try.prog) w 24 ty 5 i Try.underlying24 hi g l.length capd cur hg ad lx.length cap (lx.map bval) (by simp [hsz]) hnews (fun u hu => by obtain ⟨y', _, rfl⟩ := List.mem_map.1 hu; rfl) hroom (by rw [hsz, hcs]; simp; omega)
        rw [hr2] at hr
        injection hr with e1 _
        exact .inl (by rw [← e1]; rfl)
      · have hr2 := run_append_grow (P := Try.prog) w 24 ty 5 i (.int .u8 0) Try.underlying24 hi hz ⟨g, 0, none⟩ l.length capd (l.map bval) (by simp [hsz]) (World.ownsRow.cells hown (g := g) rfl) ad lx.length cap (lx.map bval) (by simp [hsz]) hnews (by omega) (by omega) (growslice_fits (by omega) (by rw [hby]; omega))
        rw [hr2] at hr
        injection hr with e1 _
        exact .inr (by rw [← e1]; rfl)

/-- Such a list, none of whose slices lies in the block of 'v2'. -/
def OwnX (w : World) (base : Nat) (v : Value) (ls : List (List UInt8)) (v2 : Value) : Prop :=
  ∃ vs : List Value, w.ownsRow base 24 1 v ls.length vs ∧ ∀ (i : Nat) (s : Value) (l : List UInt8), vs[i]? = some s → ls[i]? = some l → Own w base s l ∧ (s.ownBlock = none ∨ s.ownBlock ≠ v2.ownBlock)

theorem OwnX.nil (w : World) (base : Nat) (v2 : Value) : OwnX w base (.slice none 0 0) [] v2 := ⟨[], ⟨rfl, .inl ⟨rfl, rfl⟩⟩, fun i s l h => by simp at h⟩
theorem OwnX.own {w : World} {base : Nat} {v v2 : Value} {ls : List (List UInt8)} (h : OwnX w base v ls v2) : OwnL w base v ls :=
  let ⟨vs, h1, h2⟩ := h; ⟨vs, h1, fun i s l a b => (h2 i s l a b).1⟩
theorem OwnX.below {w w' : World} {base : Nat} {v v2 : Value} {ls : List (List UInt8)} (h : OwnX w base v ls v2) (hb : Below w.heap.size w w') : OwnX w' base v ls v2 := by
  obtain ⟨vs, hrow, hel⟩ := h
  exact ⟨vs, World.ownsRow.kept (row := none) hrow ⟨hb.os, hb.tape, hb.output, hb.size, fun k hk _ => hb.block k hk⟩ (by cases v.ownBlock <;> simp), fun i s l h1 h2 => ⟨(hel i s l h1 h2).1.below hb, (hel i s l h1 h2).2⟩⟩

theorem own_types {w : World} {base base2 : Nat} {v s : Value} {n : Nat} {vs : List Value} {l : List UInt8} (hrow : w.ownsRow base 24 1 v n vs) (ho : Own w base2 s l) : (s.ownBlock = none ∨ s.ownBlock ≠ v.ownBlock) ∧ (v.ownBlock = none ∨ v.ownBlock ≠ s.ownBlock) := by
  rcases ho.2 with ⟨rfl, _⟩ | ⟨k, cap, cur, rfl, _, hk, _⟩
  · exact ⟨.inl rfl, by cases v.ownBlock <;> simp [Value.ownBlock]⟩
  · have : ¬ (Value.ownBlock (.slice (some ⟨k, 0, none⟩) l.length cap) = v.ownBlock) := by
      intro e
      rcases hrow.2 with ⟨rfl, _⟩ | ⟨k2, cap2, cur2, rfl, _, hk2, _⟩
      · cases e
      · have : k = k2 := by simpa [Value.ownBlock] using e
        subst this
        rw [hk] at hk2
        have := Option.some.inj hk2
        injection this with _ h2 _
        cases h2
    exact ⟨.inr this, .inr fun e => this e.symm⟩

/-- 'append(cars, x)'. -/
theorem wpList_append_X {ops : Array Oper} {Q : Exit → Act → World → Prop} {a : Act} {w : World} {rest : List Oper} {dst : Option Tmp} {s x : Operand} {ty : TypeId} {pos : String} {after : Array Edge}
    {base : Nat} {v v2 sv : Value} {ls : List (List UInt8)} {l l2 : List UInt8} {g : Nat} (hown : OwnX w base v ls v2) (hown2 : Own w base v2 l2) (hel : Own w base sv l) (hne : sv.ownBlock = none ∨ sv.ownBlock ≠ v2.ownBlock) (hg : w.heap[g]? = some (.cells #[sv] 24 (0, 0))) (hlen : ls.length ≤ 1000000) (hbase : base ≤ w.heap.size)
    (hs : a.eval s = v) (hx : a.eval x = .slice (some ⟨g, 0, none⟩) 1 1)
    (hK : ∀ v' w', OwnX w' base v' (ls ++ [l]) v2 → Own w' base v2 l2 → Own w' base sv l → Below base w w' → wpList Try.prog ops Q rest (a.put dst v') w') : wpList Try.prog ops Q (⟨dst, .call { callee := .builtin .append, args := #[s, x], argTypes := #[57, 57] }, ty, pos, after, none⟩ :: rest) a w := by
  obtain ⟨i, hi, hz, hsz, hby⟩ := info_parts info24
  obtain ⟨vs, hrow, hels⟩ := hown
  have hlen2 : vs.length = ls.length := by have := hrow.1; omega
  refine wpList_plain rfl fun K hK' => ?_
  refine wp_append_own w s x 57 rfl base 24 i (.slice none 0 0) 1 24 Try.underlying57 hi hz hsz hby rfl (by decide) v ls.length vs hs hrow ⟨g, 0, none⟩ 1 1 [sv] hx rfl (fun j u hu => ?_) (fun u hu => ?_) (by simp only [maxLen]; omega) (by omega) hbase ?_
  · match j, hu with
    | 0, hu =>
      obtain rfl := Option.some.inj hu
      rw [Addr.add_lit, (row_facts hg).1]
      rfl
    | j + 1, hu => simp at hu
  · obtain rfl := List.mem_singleton.1 hu
    exact hel.oneCell
  · intro v' w' hown' hgr _
    have keep : ∀ s' l', Own w base s' l' → Own w' base s' l' := fun s' l' ho => World.ownsRow.kept ho hgr (own_types hrow ho).1
    refine hK' _ _ (hK v' w' ?_ (keep _ _ hown2) (keep _ _ hel) ((Below.refl _ _).grown hgr hbase fun k hk => (hrow.lt k hk).1))
    refine ⟨vs ++ [sv], by rw [List.length_append]; exact hown', fun i s' l' h1 h2 => ?_⟩
    by_cases hi : i < vs.length
    · rw [List.getElem?_append_left hi] at h1
      rw [List.getElem?_append_left (by omega)] at h2
      exact ⟨keep _ _ (hels i s' l' h1 h2).1, (hels i s' l' h1 h2).2⟩
    · rw [List.getElem?_append_right (by omega)] at h1
      rw [List.getElem?_append_right (by omega)] at h2
      rw [hlen2] at h1
      cases hj : i - ls.length with
      | zero =>
        rw [hj] at h1 h2
        obtain rfl := Option.some.inj h1
        obtain rfl := Option.some.inj h2
        exact ⟨keep _ _ hel, hne⟩
      | succ j => rw [hj] at h1; simp at h1

/-- 'append(all, x...)' beside such a list. -/
theorem wpList_append_Y {ops : Array Oper} {Q : Exit → Act → World → Prop} {a : Act} {w : World} {rest : List Oper} {dst : Option Tmp} {s x : Operand} {ty : TypeId} {pos : String} {after : Array Edge}
    {base : Nat} {v v2 vx : Value} {ls : List (List UInt8)} {l2 lx : List UInt8} (hown : OwnX w base v ls v2) (hown2 : Own w base v2 l2) (hb : IsB w vx lx) (hlen : l2.length + lx.length ≤ 140737488355328) (hbase : base ≤ w.heap.size)
    (hs : a.eval s = v2) (hx : a.eval x = vx)
    (hK : ∀ v2' w', OwnX w' base v ls v2' → Own w' base v2' (l2 ++ lx) → Below base w w' → wpList Try.prog ops Q rest (a.put dst v2') w') : wpList Try.prog ops Q (⟨dst, .call { callee := .builtin .append, args := #[s, x], argTypes := #[24, 24] }, ty, pos, after, none⟩ :: rest) a w := by
  obtain ⟨vs, hrow, hels⟩ := hown
  obtain ⟨i, hi, hz, hsz, hby⟩ := info_parts info5
  have hblock := fun v' w' => append_block (w' := w') (v' := v') (ty := ty) hown2 hb hlen
  have run : ∃ v' w', (Builtin.append_ #[24, 24] ty #[v2, vx]).run Try.prog w = .ok v' w' ∧ Own w' base v' (l2 ++ lx) ∧ w.grownBy w' v2.ownBlock := by
    obtain ⟨ad, cap, rfl, h1, h2, h3, h4⟩ := hb
    cases ad with
    | none =>
      have hc0 := h3 rfl
      subst hc0
      have hl0 : lx = [] := List.eq_nil_of_length_eq_zero (by omega)
      subst hl0
      have hr := run_append_owned_none (P := Try.prog) w base 24 ty 5 i 1 Try.underlying24 hi v2 l2.length (l2.map bval) hown2
      exact ⟨v2, w, hr, by rw [List.append_nil]; exact hown2, ⟨rfl, rfl, rfl, Nat.le_refl _, fun _ _ _ => rfl⟩⟩
    | some ad =>
      obtain ⟨v', w', hr, ho, hg, _⟩ := run_append_own (P := Try.prog) w base 24 ty 5 i (.int .u8 0) 1 1 Try.underlying24 hi hz hsz hby rfl (by decide) v2 l2.length (l2.map bval) hown2 ad lx.length cap (lx.map bval) (by simp) (fun j u hu => by
        rw [List.getElem?_map] at hu
        cases hj : lx[j]? with
        | none => rw [hj] at hu; cases hu
        | some x' =>
          rw [hj] at hu
          obtain rfl := Option.some.inj hu
          exact h4 ad rfl j x' hj) (fun u hu => by obtain ⟨y', _, rfl⟩ := List.mem_map.1 hu; rfl) (by simp only [maxLen]; omega) (by omega) hbase
      exact ⟨v', w', hr, by unfold Own; rw [List.length_append, List.map_append]; exact ho, hg⟩
  obtain ⟨v', w', hr, ho, hgr⟩ := run
  have hbl := hblock v' w' hr
  refine wpList_plain rfl fun K hK' => ?_
  unfold Oper.wp execOp
  simp only [resolve, invoke, builtin, Sem.run_bind, Sem.run_pure, Result.andThen_ok, List.map_toArray, List.map_cons, List.map_nil, hs, hx, hr]
  refine hK' _ _ (hK v' w' ⟨vs, World.ownsRow.kept hrow hgr (own_types hrow hown2).2, fun i s' l' h1 h2 => ?_⟩ ho ((Below.refl _ _).grown hgr hbase fun k hk => (hown2.lt k hk).1))
  obtain ⟨e1, e2⟩ := hels i s' l' h1 h2
  refine ⟨World.ownsRow.kept e1 hgr e2, ?_⟩
  rcases hbl with hbl | hbl
  · rw [hbl]; exact e2
  · rw [hbl]
    rcases e1.2 with ⟨rfl, _⟩ | ⟨k, cap, cur, rfl, _, hk, _⟩
    · exact .inl rfl
    · right
      intro e
      have : k = w.heap.size := by simpa [Value.ownBlock] using e
      have := (Array.getElem?_eq_some_iff.1 hk).1
      omega

/-- What is fresh lies apart from what was there. -/
theorem fresh_apart {w w' : World} {base : Nat} {v s : Value} {l l2 : List UInt8} (h : Own w base v l) (hs : Own w' w.heap.size s l2) : s.ownBlock = none ∨ s.ownBlock ≠ v.ownBlock := by
  rcases hs.2 with ⟨rfl, _⟩ | ⟨k, cap, cur, rfl, hk, _⟩
  · exact .inl rfl
  · right
    intro e
    have := (h.lt k e.symm).2
    omega

end Go.Proofs.Ytellclclpmofcaa
