/-
  Lists of numbers that a call owns, and append onto them; conditions: their sizes.
-/
import Derived.Test.YtellclclpmofcaaBRead
import Derived.Test.YtellclclpmofcaaBAddO
namespace Go.Proofs.Ytellclclpmofcaa
open Go.RowKit
set_option linter.unusedVariables false

def nval (x : Nat) : Value := .int .u64 (x : Int)

/-- The numbers that a call owns. -/
def OwnN (w : World) (base : Nat) (v : Value) (l : List Nat) : Prop := w.ownsRow base 70 1 v l.length (l.map nval)

theorem OwnN.nil (w : World) (base : Nat) : OwnN w base (.slice none 0 0) [] := ⟨rfl, .inl ⟨rfl, rfl⟩⟩

theorem OwnN.isN {w : World} {base : Nat} {v : Value} {l : List Nat} (h : OwnN w base v l) (hl : ∀ x ∈ l, x < 18446744073709551616) : IsN w v l := by
  have hc := fun g (hg : v.ownBlock = some g) => World.ownsRow.cells h hg
  rcases h.2 with ⟨rfl, h0⟩ | ⟨g, cap, cur, rfl, _, _, h1, h2, _, _⟩
  · exact ⟨none, 0, by rw [h0], by omega, Nat.zero_le _, fun _ => rfl, fun _ h => by cases h⟩
  · refine ⟨_, cap, rfl, h1, h2, (fun h => by cases h), fun ad had i x hx => ?_⟩
    obtain rfl := Option.some.inj had
    exact ⟨hc g rfl i _ (by simp [hx, nval]), hl x (List.mem_of_getElem? hx)⟩

theorem OwnN.below {w w' : World} {base : Nat} {v : Value} {l : List Nat} (h : OwnN w base v l) (hb : Below w.heap.size w w') : OwnN w' base v l :=
  World.ownsRow.kept (row := none) h ⟨hb.os, hb.tape, hb.output, hb.size, fun k hk _ => hb.block k hk⟩ (by cases v.ownBlock <;> simp)

theorem info70 : (Try.prog.info? 70).map (fun i => (i.zero, i.size, i.bytes)) = some (some (.int .u64 0), 1, 8) := by kernel_rfl

/-- 'append(put, v)'. -/
theorem wpList_append_N {ops : Array Oper} {Q : Exit → Act → World → Prop} {a : Act} {w : World} {rest : List Oper} {dst : Option Tmp} {s x : Operand} {ty : TypeId} {pos : String} {after : Array Edge}
    {base : Nat} {v : Value} {l : List Nat} {y g : Nat} (hown : OwnN w base v l) (hg : w.heap[g]? = some (.cells #[nval y] 70 (0, 0))) (hlen : l.length ≤ 1000000) (hbase : base ≤ w.heap.size)
    (hs : a.eval s = v) (hx : a.eval x = .slice (some ⟨g, 0, none⟩) 1 1)
    (hK : ∀ v' w', OwnN w' base v' (l ++ [y]) → w.grownBy w' v.ownBlock → wpList Try.prog ops Q rest (a.put dst v') w') : wpList Try.prog ops Q (⟨dst, .call { callee := .builtin .append, args := #[s, x], argTypes := #[86, 86] }, ty, pos, after, none⟩ :: rest) a w := by
  obtain ⟨i, hi, hz, hsz, hby⟩ := info_parts info70
  refine wpList_plain rfl fun K hK' => ?_
  refine wp_append_own w s x 86 rfl base 70 i (.int .u64 0) 1 8 Try.underlying86 hi hz hsz hby rfl (by decide) v l.length (l.map nval) hs hown ⟨g, 0, none⟩ 1 1 [nval y] hx rfl (fun j u hu => ?_) (fun u hu => ?_) (by simp only [maxLen]; omega) (by omega) hbase ?_
  · match j, hu with
    | 0, hu =>
      obtain rfl := Option.some.inj hu
      rw [Addr.add_lit, (row_facts hg).1]
      rfl
    | j + 1, hu => simp at hu
  · obtain rfl := List.mem_singleton.1 hu
    rfl
  · intro v' w' hown' hgr _
    refine hK' _ _ (hK v' w' ?_ hgr)
    unfold OwnN
    rw [List.length_append, List.map_append]
    exact hown'

/-- Rows of different kinds lie apart. -/
theorem apart_types {w : World} {base base2 : Nat} {t1 t2 : TypeId} {n1 n2 s1 s2 : Nat} {v s : Value} {xs ys : List Value} (ht : t1 ≠ t2) (h1 : w.ownsRow base t1 s1 v n1 xs) (h2 : w.ownsRow base2 t2 s2 s n2 ys) : s.ownBlock = none ∨ s.ownBlock ≠ v.ownBlock := by
  rcases h2.2 with ⟨rfl, _⟩ | ⟨k, cap, cur, rfl, _, hk, _⟩
  · exact .inl rfl
  · refine .inr fun e => ?_
    rcases h1.2 with ⟨rfl, _⟩ | ⟨k2, cap2, cur2, rfl, _, hk2, _⟩
    · cases e
    · have : k = k2 := by simpa [Value.ownBlock] using e
      subst this
      rw [hk] at hk2
      have := Option.some.inj hk2
      injection this with _ e2 _
      exact ht e2.symm

theorem apart_row {w : World} {base g : Nat} {t1 t2 : TypeId} {n1 s1 : Nat} {v : Value} {xs : List Value} {cs : Array Value} (ht : t1 ≠ t2) (h1 : w.ownsRow base t1 s1 v n1 xs) (hrow : w.heap[g]? = some (.cells cs t2 (0, 0))) : v.ownBlock = none ∨ v.ownBlock ≠ some g := by
  rcases h1.2 with ⟨rfl, _⟩ | ⟨k, cap, cur, rfl, _, hk, _⟩
  · exact .inl rfl
  · refine .inr fun e => ?_
    have : k = g := by simpa [Value.ownBlock] using e
    subst this
    rw [hrow] at hk
    have := Option.some.inj hk
    injection this with _ e2 _
    exact ht e2.symm

end Go.Proofs.Ytellclclpmofcaa
