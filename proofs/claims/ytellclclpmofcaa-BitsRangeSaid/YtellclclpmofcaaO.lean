/-
  Slice expressions on byte slices, append onto an empty slice, append of noughts: what each does; conditions: the bounds that Go asks.
-/
import Derived.Test.YtellclclpmofcaaN
namespace Go.Proofs.Ytellclclpmofcaa
open Go.RowKit

/-- The value of 'v[lo:hi]'. -/
def slV (v : Value) (lo hi : Nat) : Value :=
  match v with
  | .slice a _ cap => .slice (if cap = lo then a else a.map (·.add (lo * 1))) (hi - lo) (cap - lo)
  | x => x

theorem IsB.slice {w : World} {v : Value} {l : List UInt8} (h : IsB w v l) {lo hi : Nat} (h1 : lo ≤ hi) (h2 : hi ≤ l.length) : IsB w (slV v lo hi) ((l.take hi).drop lo) := by
  obtain ⟨a, cap, rfl, hc, hm, hn, hcell⟩ := h
  have hlen : ((l.take hi).drop lo).length = hi - lo := by simp; omega
  refine ⟨if cap = lo then a else a.map (·.add (lo * 1)), cap - lo, by simp only [slV, hlen], by omega, by omega, fun ha => ?_, fun ad had i x hx => ?_⟩
  · split at ha
    · omega
    · cases a with
      | none => have := hn rfl; omega
      | some _ => cases ha
  · have hi' : i < hi - lo := by
      have := (List.getElem?_eq_some_iff.1 hx).1
      omega
    rw [if_neg (by omega)] at had
    cases a with
    | none => cases had
    | some b =>
      obtain rfl := Option.some.inj had
      rw [List.getElem?_drop, List.getElem?_take_of_lt (by omega)] at hx
      have := hcell b rfl (lo + i) x hx
      rw [Nat.mul_one]
      obtain ⟨bb, off, spot⟩ := b
      have hspot : spot = none := by
        have hl0 : 0 < l.length := by omega
        have h0 := hcell _ rfl 0 l[0] (by simp [hl0])
        simpa [Addr.add] using World.cell?_spot h0
      subst hspot
      rw [Addr.add_lit] at this
      show w.cell? (((⟨bb, off, none⟩ : Addr).add lo).add i) = _
      rw [Addr.add_lit, Addr.add_lit, Nat.add_assoc]
      exact this

theorem run_slice_hi {w : World} {v : Value} {l : List UInt8} (h : IsB w v l) {hi : Nat} {k : Int} (hk : k = (hi : Int)) (h2 : hi ≤ l.length) : (Instr.sliceAt 24 v none (some (.int .i64 k)) none).run Try.prog w = .ok (slV v 0 hi) w := by
  obtain ⟨a, cap, rfl, hc, hm, hn, hcell⟩ := h
  obtain ⟨i5, hi5, _, _, _⟩ := info_parts info5
  subst hk
  have e : hi ≤ cap := by omega
  simp [Instr.sliceAt, Instr.slice, run_underlying Try.underlying24, Instr.sliceBounds, Instr.sliceBound, asIntOf, e, slV, sizeOf, typeInfo, hi5]

theorem run_slice_lo {w : World} {v : Value} {l : List UInt8} (h : IsB w v l) {lo : Nat} {k : Int} (hk : k = (lo : Int)) (h2 : lo ≤ l.length) : (Instr.sliceAt 24 v (some (.int .i64 k)) none none).run Try.prog w = .ok (slV v lo l.length) w := by
  obtain ⟨a, cap, rfl, hc, hm, hn, hcell⟩ := h
  obtain ⟨i5, hi5, _, hsz, _⟩ := info_parts info5
  subst hk
  simp [Instr.sliceAt, Instr.slice, run_underlying Try.underlying24, Instr.sliceBounds, Instr.sliceBound, asIntOf, h2, slV, sizeOf, typeInfo, hi5, hsz]

theorem run_slice_lohi {w : World} {v : Value} {l : List UInt8} (h : IsB w v l) {lo hi : Nat} {k m : Int} (hk : k = (lo : Int)) (hm : m = (hi : Int)) (h1 : lo ≤ hi) (h2 : hi ≤ l.length) : (Instr.sliceAt 24 v (some (.int .i64 k)) (some (.int .i64 m)) none).run Try.prog w = .ok (slV v lo hi) w := by
  obtain ⟨a, cap, rfl, hc, hmx, hn, hcell⟩ := h
  obtain ⟨i5, hi5, _, hsz, _⟩ := info_parts info5
  subst hk hm
  have e : hi ≤ cap := by omega
  simp [Instr.sliceAt, Instr.slice, run_underlying Try.underlying24, Instr.sliceBounds, Instr.sliceBound, asIntOf, h1, e, slV, sizeOf, typeInfo, hi5, hsz]

section
variable {ops : Array Oper} {Q : Exit → Act → World → Prop} {K : Act → World → Prop} {a : Act} {w : World} {rest : List Oper} {dst : Option Tmp} {x y z : Operand} {ty : TypeId} {pos : String} {after : Array Edge} {guard : Option (Nat × Bool)} {v : Value} {l : List UInt8} {lo hi : Nat} {k m : Int}

theorem wp_slice_hi (hx : a.eval x = v) (hb : IsB w v l) (hy : a.eval y = .int .i64 k) (hk : k = (hi : Int)) (h2 : hi ≤ l.length) (hK : K (a.put dst (slV v 0 hi)) w) : (Oper.mk dst (.slice 24 x none (some y) none) ty pos after guard).wp Try.prog a w K Q := by
  unfold Oper.wp
  have := run_slice_hi hb hk h2
  simp [execOp, hx, hy, this]
  exact hK

theorem wp_slice_lo (hx : a.eval x = v) (hb : IsB w v l) (hy : a.eval y = .int .i64 k) (hk : k = (lo : Int)) (h2 : lo ≤ l.length) (hK : K (a.put dst (slV v lo l.length)) w) : (Oper.mk dst (.slice 24 x (some y) none none) ty pos after guard).wp Try.prog a w K Q := by
  unfold Oper.wp
  have := run_slice_lo hb hk h2
  simp [execOp, hx, hy, this]
  exact hK

theorem wp_slice_lohi (hx : a.eval x = v) (hb : IsB w v l) (hy : a.eval y = .int .i64 k) (hz : a.eval z = .int .i64 m) (hk : k = (lo : Int)) (hm : m = (hi : Int)) (h1 : lo ≤ hi) (h2 : hi ≤ l.length) (hK : K (a.put dst (slV v lo hi)) w) : (Oper.mk dst (.slice 24 x (some y) (some z) none) ty pos after guard).wp Try.prog a w K Q := by
  unfold Oper.wp
  have := run_slice_lohi hb hk hm h1 h2
  simp [execOp, hx, hy, hz, this]
  exact hK

set_option maxRecDepth 100000 in
theorem wpList_slice_hi (hb : IsB w v l) (hi : Nat) (h2 : hi ≤ l.length) (hk : k = (hi : Int)) (hw : Region.wanted ⟨dst, .slice 24 x none (some y) none, ty, pos, after, guard⟩ (yielded ops a.tmps) = true) (hx : a.eval x = v) (hy : a.eval y = .int .i64 k) (hK : wpList Try.prog ops Q rest (a.put dst (slV v 0 hi)) w) :
    wpList Try.prog ops Q (⟨dst, .slice 24 x none (some y) none, ty, pos, after, guard⟩ :: rest) a w :=
  wpList_step fun K hK' => by
    rw [if_pos hw]
    have hk2 := hK' _ _ hK
    have := wp_slice_hi (K := K) (Q := Q) (dst := dst) (ty := ty) (pos := pos) (after := after) (guard := guard) hx hb hy hk h2 hk2
    exact this

set_option maxRecDepth 100000 in
theorem wpList_slice_lo (hb : IsB w v l) (lo : Nat) (h2 : lo ≤ l.length) (hk : k = (lo : Int)) (hw : Region.wanted ⟨dst, .slice 24 x (some y) none none, ty, pos, after, guard⟩ (yielded ops a.tmps) = true) (hx : a.eval x = v) (hy : a.eval y = .int .i64 k) (hK : wpList Try.prog ops Q rest (a.put dst (slV v lo l.length)) w) :
    wpList Try.prog ops Q (⟨dst, .slice 24 x (some y) none none, ty, pos, after, guard⟩ :: rest) a w :=
  wpList_step fun K hK' => by
    rw [if_pos hw]
    have hk2 := hK' _ _ hK
    have := wp_slice_lo (K := K) (Q := Q) (dst := dst) (ty := ty) (pos := pos) (after := after) (guard := guard) hx hb hy hk h2 hk2
    exact this

set_option maxRecDepth 100000 in
theorem wpList_slice_lohi (hb : IsB w v l) (lo hi : Nat) (h1 : lo ≤ hi) (h2 : hi ≤ l.length) (hk : k = (lo : Int)) (hm : m = (hi : Int)) (hw : Region.wanted ⟨dst, .slice 24 x (some y) (some z) none, ty, pos, after, guard⟩ (yielded ops a.tmps) = true) (hx : a.eval x = v) (hy : a.eval y = .int .i64 k) (hz : a.eval z = .int .i64 m) (hK : wpList Try.prog ops Q rest (a.put dst (slV v lo hi)) w) :
    wpList Try.prog ops Q (⟨dst, .slice 24 x (some y) (some z) none, ty, pos, after, guard⟩ :: rest) a w :=
  wpList_step fun K hK' => by
    rw [if_pos hw]
    have hk2 := hK' _ _ hK
    have := wp_slice_lohi (K := K) (Q := Q) (dst := dst) (ty := ty) (pos := pos) (after := after) (guard := guard) hx hb hy hz hk hm h1 h2 hk2
    exact this
end

/-- append onto a slice without room: nothing that was there is written. -/
theorem wp_append_E {o : Oper} {a : Act} {w : World} {K : Act → World → Prop} {Q : Exit → Act → World → Prop} {s x : Operand} (ho : o.op = .call { callee := .builtin .append, args := #[s, x], argTypes := #[24, 24] })
    {base : Nat} {ad0 : Option Addr} {vx : Value} {lx : List UInt8} (hs : a.eval s = .slice ad0 0 0) (hown : Own w base (.slice ad0 0 0) []) (hx : a.eval x = vx) (hb : IsB w vx lx) (hlen : lx.length ≤ 140737488355328) (hbase : base ≤ w.heap.size)
    (hK : ∀ v' w', Own w' base v' lx → Below w.heap.size w w' → K (a.put o.dst v') w') : o.wp Try.prog a w K Q := by
  obtain ⟨i, hi, hz, hsz, hby⟩ := info_parts info5
  obtain ⟨ad, cap, rfl, h1, h2, h3, h4⟩ := hb
  have hnil : lx = [] → o.wp Try.prog a w K Q := by
    intro hl0
    subst hl0
    have hr : (Builtin.append_ #[24, 24] o.type #[.slice ad0 0 0, .slice ad 0 cap]).run Try.prog w = .ok (.slice ad0 0 0) w := by
      cases ad0 <;> cases ad <;> simp [Builtin.append_, run_underlying Try.underlying24, sizeOf, typeInfo, hi, Builtin.lenOf, Builtin.firstCells, loadCells, loadCellsFrom, storeCells]
    unfold Oper.wp execOp
    simp only [ho, resolve, invoke, builtin, Sem.run_bind, Sem.run_pure, Result.andThen_ok, List.map_toArray, List.map_cons, List.map_nil, hs, hx, List.length_nil, hr]
    exact hK _ _ hown (Below.refl _ _)
  by_cases hl : lx = []
  · exact hnil hl
  · have hpos : 0 < lx.length := List.length_pos_iff.2 hl
    cases ad with
    | none => have := h3 rfl; omega
    | some ad =>
      have hn : ∀ j u, (lx.map bval)[j]? = some u → w.cell? (ad.add j) = some u := by
        intro j u hu
        rw [List.getElem?_map] at hu
        cases hj : lx[j]? with
        | none => rw [hj] at hu; cases hu
        | some x' =>
          rw [hj] at hu
          obtain rfl := Option.some.inj hu
          exact h4 ad rfl j x' hj
      have hge := grownCap_ge w lx.length 0 5
      have hcm := grownCap_le_maxLen w lx.length 0 5 (by simp only [maxLen]; omega)
      have hr : (Builtin.append_ #[24, 24] o.type #[.slice ad0 0 0, .slice (some ad) lx.length cap]).run Try.prog w = .ok (.slice (some ⟨w.heap.size, 0, none⟩) lx.length (grownCap w lx.length 0 5)) (w.drew.alloc (.cells ((lx.map bval).toArray ++ Builtin.zeroCells (Value.int .u8 0).cells (grownCap w lx.length 0 5 - lx.length)) 5)) := by
        cases ad0 with
        | none => exact run_append_nil (P := Try.prog) w 24 o.type 5 i (.int .u8 0) Try.underlying24 hi hz ad lx.length cap (lx.map bval) (by simp [hsz]) hn hpos (by omega) (by rw [hby]; omega)
        | some b0 =>
          have := run_append_grow (P := Try.prog) w 24 o.type 5 i (.int .u8 0) Try.underlying24 hi hz b0 0 0 [] (by simp) (fun j v hj => by simp at hj) ad lx.length cap (lx.map bval) (by simp [hsz]) hn (by omega) (by simp; omega) (by rw [hby, Nat.zero_add, nextslicecap_zero hpos]; omega)
          simpa using this
      unfold Oper.wp execOp
      simp only [ho, resolve, invoke, builtin, Sem.run_bind, Sem.run_pure, Result.andThen_ok, List.map_toArray, List.map_cons, List.map_nil, hs, hx, hr]
      refine hK _ _ ⟨by simp, .inr ⟨w.heap.size, _, _, rfl, hbase, heap_alloc_new w.drew _, hge, hcm, ?_, ?_⟩⟩ (((Below.refl _ _).drew).alloc (Nat.le_refl _) _)
      · simp only [Array.size_append, List.size_toArray, List.length_map, size_zeroCells]
        simp [Value.cells]
        omega
      · simp only [Array.toList_append]
        rw [show lx.length * 1 = (lx.map bval).length by simp]
        exact List.take_left

end Go.Proofs.Ytellclclpmofcaa
