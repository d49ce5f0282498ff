/-
  'append(s, make([]byte, n)...)' onto a byte slice that the call owns: n noughts behind it; conditions: its size.
-/
import Derived.Test.YtellclclpmofcaaO
namespace Go.Proofs.Ytellclclpmofcaa
open Go.RowKit

theorem zeroCells_one (n : Nat) : Builtin.zeroCells #[Value.int .u8 0] n = (List.replicate n (Value.int .u8 0)).toArray := by
  apply Array.ext
  · simp [size_zeroCells]
  · intro i h1 h2
    simp [Builtin.zeroCells, Nat.mod_one]

theorem run_append_zeros (w : World) (ty : TypeId) {base : Nat} {v : Value} {l : List UInt8} (hown : Own w base v l) (n : Nat) (hlen : l.length + n ≤ 140737488355328) (hbase : base ≤ w.heap.size) :
    ∃ v' w', (Builtin.append_ #[24, 3] ty #[v, .int .i64 (n : Int)]).run Try.prog w = .ok v' w' ∧ Own w' base v' (l ++ List.replicate n 0) ∧ Below base w w' := by
  obtain ⟨i, hi, hz, hsz, hby⟩ := info_parts info5
  have hwr : IntKind.i64.wrap (n : Int) = (n : Int) := wrapI64 _ (by omega) (by omega)
  have hw0 : IntKind.i64.wrap 0 = 0 := by decide
  have hn0 : ¬ ((n : Int) < 0) := by omega
  have hn48 : ¬ ((281474976710656 : Int) < (n : Int)) := by omega
  have hmap : (l ++ List.replicate n 0).map bval = l.map bval ++ List.replicate n (Value.int .u8 0) := by
    rw [List.map_append, List.map_replicate]
    rfl
  have hlen2 : (l ++ List.replicate n 0).length = l.length + n := by simp
  -- a new row
  have grown : ∀ (old : Nat), Own (w.drew.alloc (.cells ((l.map bval).toArray ++ (List.replicate n (Value.int .u8 0)).toArray ++ Builtin.zeroCells #[Value.int .u8 0] (grownCap w (l.length + n) old 5 - (l.length + n))) 5)) base (.slice (some ⟨w.heap.size, 0, none⟩) (l.length + n) (grownCap w (l.length + n) old 5)) (l ++ List.replicate n 0) ∧
      Below base w (w.drew.alloc (.cells ((l.map bval).toArray ++ (List.replicate n (Value.int .u8 0)).toArray ++ Builtin.zeroCells #[Value.int .u8 0] (grownCap w (l.length + n) old 5 - (l.length + n))) 5)) := by
    intro old
    have hge := grownCap_ge w (l.length + n) old 5
    have hcm := grownCap_le_maxLen w (l.length + n) old 5 (by simp only [maxLen]; omega)
    refine ⟨⟨by rw [hmap, hlen2]; simp, .inr ⟨w.heap.size, _, _, by rw [hlen2], hbase, heap_alloc_new w.drew _, by rw [hlen2]; exact hge, hcm, ?_, ?_⟩⟩, ((Below.refl _ _).drew).alloc hbase _⟩
    · simp only [Array.size_append, List.size_toArray, List.length_map, List.length_replicate, size_zeroCells]
      simp
      omega
    · rw [hmap, hlen2]
      simp only [Array.toList_append]
      rw [show (l.length + n) * 1 = (l.map bval ++ List.replicate n (Value.int .u8 0)).length by simp]
      exact List.take_left
  rcases hown.2 with ⟨rfl, hl0⟩ | ⟨g, cap, cur, rfl, hbg, hg, hnc, hcm, hcs, htake⟩
  · have hl : l = [] := List.eq_nil_of_length_eq_zero hl0
    subst hl
    by_cases h0 : n = 0
    · subst h0
      refine ⟨.slice none 0 0, w, ?_, ?_, Below.refl _ _⟩
      · simp [Builtin.append_, run_underlying Try.underlying24, run_underlying Try.underlying3, sizeOf, typeInfo, hi, hby, asInt, asIntOf, hw0, go_sem]
      · simpa using hown
    · have hgr := grown 0
      refine ⟨_, _, ?_, hgr.1, hgr.2⟩
      have h63 : ¬ (9223372036854775807 < (n : Int)) := by simp at hlen; omega
      simp [Builtin.append_, run_underlying Try.underlying24, run_underlying Try.underlying3, sizeOf, typeInfo, zeroValue, hi, hz, hsz, hby, asInt, asIntOf, hwr, hn48, h0, h63, Question.forced, newRow, grownCap, Value.cells, zeroCells_one, go_sem]
      rw [if_neg (by omega), if_neg (by rw [nextslicecap_zero (by omega)]; simp at hlen; omega)]
  · by_cases hroom : l.length + n ≤ cap
    · have hfit : l.length * i.size + (List.replicate n (Value.int .u8 0)).length ≤ cur.size := by rw [hsz, hcs]; simp; omega
      have hst := run_storeCells_at Try.prog g (l.length * i.size) 5 (List.replicate n (Value.int .u8 0)) 0 cur w hg (by simpa using hfit) (fun v hv => by rw [(List.mem_replicate.1 hv).2]; rfl)
      simp only [Nat.add_zero] at hst
      refine ⟨.slice (some ⟨g, 0, none⟩) (l.length + n) cap, _, ?_, ⟨by rw [hmap, hlen2]; simp, .inr ⟨g, cap, _, by rw [hlen2], hbg, setRow_heap w g cur ((cur.toList.take (l.length * i.size) ++ List.replicate n (Value.int .u8 0) ++ cur.toList.drop (l.length * i.size + (List.replicate n (Value.int .u8 0)).length)).toArray) 5 _ hg, by rw [hlen2]; exact hroom, hcm, ?_, ?_⟩⟩, ?_⟩
      · by_cases h0 : n = 0
        · subst h0
          simp [Builtin.append_, run_underlying Try.underlying24, run_underlying Try.underlying3, sizeOf, typeInfo, hi, hsz, hby, asInt, asIntOf, hw0, hnc, storeCells, go_sem]
          exact (setRow_self w g cur 5 _ hg).symm
        · simp [Builtin.append_, run_underlying Try.underlying24, run_underlying Try.underlying3, sizeOf, typeInfo, zeroValue, hi, hz, hsz, hby, asInt, asIntOf, hwr, hn48, h0, hroom, Value.cells, zeroCells_one, Addr.add_lit, go_sem]
          rw [hsz, Nat.mul_one] at hst
          rw [if_neg (by omega), hst]
          simp
      · simp only [List.size_toArray, List.length_append, List.length_take, List.length_drop, Array.length_toList, List.length_replicate, hsz, hcs]
        omega
      · rw [hmap, hlen2, hsz, htake, show (l.length + n) * 1 = (l.map bval ++ List.replicate n (Value.int .u8 0)).length by simp]
        exact List.take_left
      · exact (Below.refl _ _).grown (row := some g) ⟨rfl, rfl, rfl, by simp, fun k _ hk => setRow_other w g k _ (fun e => hk (by simp [e]))⟩ hbase (fun k hk => by cases hk; exact hbg)
    · have hgr := grown cap
      have holds : ∀ j u, (l.map bval)[j]? = some u → w.cell? ((⟨g, 0, none⟩ : Addr).add j) = some u := World.ownsRow.cells hown (g := g) rfl
      have hfo := run_loadCells_list (P := Try.prog) w.drew ⟨g, 0, none⟩ (l.map bval) (by simpa using holds)
      rw [List.length_map] at hfo
      unfold loadCells at hfo
      have h0 : n ≠ 0 := by omega
      have hns := growslice_fits (need := l.length + n) (old := cap) (bytes := 1) (by omega) (by omega)
      refine ⟨_, _, ?_, hgr.1, hgr.2⟩
      have h63 : ¬ (9223372036854775807 < ((l.length : Int) + (n : Int))) := by omega
      simp [Builtin.append_, run_underlying Try.underlying24, run_underlying Try.underlying3, sizeOf, typeInfo, zeroValue, hi, hz, hsz, hby, asInt, asIntOf, hwr, hn48, h0, h63, hroom, Question.forced, newRow, grownCap, Value.cells, zeroCells_one, go_sem]
      rw [if_neg (by omega), if_neg (by omega), hfo]
      simp
      rfl

theorem wpList_append_Z {ops : Array Oper} {Q : Exit → Act → World → Prop} {a : Act} {w : World} {rest : List Oper} {dst : Option Tmp} {s x : Operand} {ty : TypeId} {pos : String} {after : Array Edge}
    {base : Nat} {v : Value} {l : List UInt8} (hown : Own w base v l) (n : Nat) {k : Int} (hk : k = (n : Int)) (hlen : l.length + n ≤ 140737488355328) (hbase : base ≤ w.heap.size) (hs : a.eval s = v) (hx : a.eval x = .int .i64 k)
    (hK : ∀ v' w', Own w' base v' (l ++ List.replicate n 0) → Below base w w' → wpList Try.prog ops Q rest (a.put dst v') w') : wpList Try.prog ops Q (⟨dst, .call { callee := .builtin .append, args := #[s, x], argTypes := #[24, 3] }, ty, pos, after, none⟩ :: rest) a w :=
  wpList_plain rfl fun K hK' => by
    subst hk
    obtain ⟨v', w', hr, h1, h2⟩ := run_append_zeros w ty hown n hlen hbase
    unfold Oper.wp execOp
    simp only [resolve, invoke, builtin, Sem.run_bind, Sem.run_pure, Result.andThen_ok, List.map_toArray, List.map_cons, List.map_nil, hs, hx, hr]
    exact hK' _ _ (hK v' w' h1 h2)

theorem IsB.len' {w : World} {v : Value} {l : List UInt8} (h : IsB w v l) : ∃ a n cap, v = .slice a n cap ∧ n = l.length ∧ n ≤ cap ∧ cap ≤ maxLen :=
  let ⟨a, cap, h0, h1, h2, _, _⟩ := h; ⟨a, _, cap, h0, rfl, h1, h2⟩

/-- A yield that the call owns; an empty slice without room. -/
def PO (base : Nat) (l : List UInt8) (v : Value) (w : World) : Prop := Own w base v l
theorem PO.stable (base : Nat) (l : List UInt8) : ∀ v w w', PO base l v w → Below w.heap.size w w' → PO base l v w' := fun _ _ _ h hb => Own.below h hb
def PE (base : Nat) (v : Value) (w : World) : Prop := (∃ a, v = .slice a 0 0) ∧ Own w base v []
theorem PE.stable (base : Nat) : ∀ v w w', PE base v w → Below w.heap.size w w' → PE base v w' := fun _ _ _ h hb => ⟨h.1, Own.below h.2 hb⟩

/-- append onto an empty slice without room, as a region's step. -/
theorem wp_append_E_of {dst : Option Tmp} {s x : Nat} {ty : TypeId} {pos : String} {after : Array Edge} {guard : Option (Nat × Bool)} {a : Act} {w : World} {K : Act → World → Prop} {Q : Exit → Act → World → Prop} {base : Nat} {lx : List UInt8}
    (hs : PE base (a.tmps[s]?.getD undef) w) (hx : IsB w (a.tmps[x]?.getD undef) lx) (hlen : lx.length ≤ 140737488355328) (hbase : base ≤ w.heap.size)
    (hK : ∀ v' w', Own w' base v' lx → Below w.heap.size w w' → K (a.put dst v') w') : (Oper.mk dst (.call { callee := .builtin .append, args := #[.tmp s, .tmp x], argTypes := #[24, 24] }) ty pos after guard).wp Try.prog a w K Q := by
  obtain ⟨⟨ad, he⟩, ho⟩ := hs
  rw [he] at ho
  exact wp_append_E (o := Oper.mk dst (.call { callee := .builtin .append, args := #[.tmp s, .tmp x], argTypes := #[24, 24] }) ty pos after guard) rfl (by rw [evalTmp, he]) ho (evalTmp _ _) hx hlen hbase hK

end Go.Proofs.Ytellclclpmofcaa
