/-
  Words and small laws for byte slices, used by all walks of this seat: what it is for a value to be a byte slice with given bytes in a world; conditions: none.
-/
import Derived.Test.YtellclclpmofcaaProg
import Derived.WalkKit
import Derived.WalkSpells
import Derived.WalkLawsBesides
namespace Go.Proofs.Ytellclclpmofcaa
open Go.RowKit

/-- A fact kept from the walk. -/
theorem hide {p : Prop} (h : p) : Hid p := h

def bval (x : UInt8) : Value := .int .u8 (x.toNat : Int)

/-- 'v' is a byte slice that reads as 'l' in the world 'w'. -/
def IsB (w : World) (v : Value) (l : List UInt8) : Prop :=
  ∃ a cap, v = .slice a l.length cap ∧ l.length ≤ cap ∧ cap ≤ maxLen ∧ (a = none → cap = 0) ∧
    ∀ ad, a = some ad → ∀ i x, l[i]? = some x → w.cell? (ad.add i) = some (bval x)

theorem IsB.moved {w w' : World} {v : Value} {l : List UInt8} (h : IsB w v l) (hb : ∀ k, k < w.heap.size → w'.heap[k]? = w.heap[k]?) : IsB w' v l := by
  obtain ⟨a, cap, rfl, h1, h2, h3, h4⟩ := h
  refine ⟨a, cap, rfl, h1, h2, h3, fun ad had i x hx => ?_⟩
  have hc := h4 ad had i x hx
  rw [World.cell?_of_block (hb _ (World.block_lt_of_cell? w _ hc)), hc]

theorem IsB.below {w w' : World} {v : Value} {l : List UInt8} (h : IsB w v l) (hb : Below w.heap.size w w') : IsB w' v l := h.moved hb.block

theorem IsB.belowB {w w' : World} {v : Value} {l : List UInt8} {B : Nat} (h : IsB w v l) (hb : Below B w w') (hB : w.heap.size ≤ B) : IsB w' v l :=
  h.moved fun k hk => hb.block k (by omega)

theorem IsB.len {w : World} {v : Value} {l : List UInt8} (h : IsB w v l) : ∃ a cap, v = .slice a l.length cap ∧ l.length ≤ cap ∧ cap ≤ maxLen :=
  let ⟨a, cap, h0, h1, h2, _, _⟩ := h; ⟨a, cap, h0, h1, h2⟩

/-- A byte slice that is not empty. -/
theorem IsB.cells {w : World} {v : Value} {l : List UInt8} (h : IsB w v l) (hl : 0 < l.length) :
    ∃ b off cap, v = .slice (some ⟨b, off, none⟩) l.length cap ∧ b < w.heap.size ∧ l.length ≤ cap ∧ cap ≤ maxLen ∧ ∀ i x, l[i]? = some x → w.cell? ⟨b, off + i, none⟩ = some (bval x) := by
  obtain ⟨a, cap, rfl, h1, h2, h3, h4⟩ := h
  cases a with
  | none => have := h3 rfl; omega
  | some ad =>
    obtain ⟨b, off, spot⟩ := ad
    have hc := h4 _ rfl 0 l[0] (by simp [hl])
    have hspot : spot = none := by simpa [Addr.add] using World.cell?_spot hc
    subst hspot
    exact ⟨b, off, cap, rfl, World.block_lt_of_cell? w _ (h4 _ rfl 0 l[0] (by simp [hl])), h1, h2, fun i x hx => by simpa [Addr.add_lit] using h4 _ rfl i x hx⟩

theorem bcell {W w1 : World} (hb : Below W.heap.size W w1) : (∀ b o, b < W.heap.size → w1.cell? ⟨b, o, none⟩ = W.cell? ⟨b, o, none⟩) ∧ (∀ b o, b < W.heap.size → w1.frozen? ⟨b, o, none⟩ = W.frozen? ⟨b, o, none⟩) :=
  ⟨fun b o h => hb.cell (p := ⟨b, o, none⟩) h, fun b o h => hb.frozen (p := ⟨b, o, none⟩) h⟩

/-- A pointer to a block from B on that holds these cells. -/
def PtrTo (B : Nat) (cs : Array Value) (t : TypeId) (v : Value) (w : World) : Prop := ∃ g, v = .pointer (some ⟨g, 0, none⟩) ∧ B ≤ g ∧ w.heap[g]? = some (.cells cs t (0, 0))

theorem PtrTo.stable (B : Nat) (cs : Array Value) (t : TypeId) : ∀ v w w', PtrTo B cs t v w → Below w.heap.size w w' → PtrTo B cs t v w' := by
  rintro v w w' ⟨g, rfl, hB, hg⟩ hb
  exact ⟨g, rfl, hB, by rw [hb.block g (Array.getElem?_eq_some_iff.1 hg).1, hg]⟩

theorem PtrTo.alloc {B : Nat} (cs : Array Value) (t : TypeId) (w : World) (hB : B ≤ w.heap.size) : PtrTo B cs t (.pointer (some ⟨w.heap.size, 0, none⟩)) (w.alloc (.cells cs t)) := ⟨_, rfl, hB, heap_alloc_new w _⟩

theorem row_facts {u : World} {k : Nat} {cs : Array Value} {t : TypeId} (hk : u.heap[k]? = some (.cells cs t (0, 0))) : (∀ i, u.cell? ⟨k, i, none⟩ = cs[i]?) ∧ (∀ i, u.frozen? ⟨k, i, none⟩ = false) ∧ k < u.heap.size :=
  ⟨fun i => cell_of_row u k i _ _ _ hk, fun i => frozen_of_row u k i _ _ hk, (Array.getElem?_eq_some_iff.1 hk).1⟩

theorem IsB.nil (w : World) : IsB w (.slice none 0 0) [] := ⟨none, 0, rfl, Nat.le_refl _, Nat.zero_le _, fun _ => rfl, fun _ h => by cases h⟩

/-- The bytes that a call owns (a fresh row). -/
def Own (w : World) (base : Nat) (v : Value) (l : List UInt8) : Prop := w.ownsRow base 5 1 v l.length (l.map bval)

theorem Own.isB {w : World} {base : Nat} {v : Value} {l : List UInt8} (h : Own w base v l) : IsB w v l := by
  have hc := fun g (hg : v.ownBlock = some g) => World.ownsRow.cells h hg
  rcases h.2 with ⟨rfl, h0⟩ | ⟨g, cap, cur, rfl, _, _, h1, h2, _, _⟩
  · exact ⟨none, 0, by rw [h0], by omega, Nat.zero_le _, fun _ => rfl, fun _ h => by cases h⟩
  · refine ⟨_, cap, rfl, h1, h2, (fun h => by cases h), fun ad had i x hx => ?_⟩
    obtain rfl := Option.some.inj had
    exact hc g rfl i _ (by simp [hx])

/-- A literal's row. -/
theorem Own.lit {w : World} {base : Nat} (l : List UInt8) (cs : Array Value) (n g : Nat) (hcs : cs.toList = l.map bval) (hn : n = l.length) (hg : g = w.heap.size) (hb : base ≤ w.heap.size) (hm : n ≤ maxLen) :
    Own (w.alloc (.cells cs 5)) base (.slice (some ⟨g, 0, none⟩) n n) l := by
  subst hg
  have h := World.ownsRow_lit (base := base) (e := 5) (size := 1) w cs n hb hm (by
    have := congrArg List.length hcs
    simp at this
    omega)
  rw [hcs, hn] at h
  rw [hn]
  exact h

theorem bval_ofNat (k : Nat) (h : k < 256) : bval (UInt8.ofNat k) = .int .u8 (k : Int) := by
  unfold bval
  rw [show (UInt8.ofNat k).toNat = k from by simp; omega]

theorem bval_int (n : Int) (h : 0 ≤ n) (h2 : n < 256) : bval (UInt8.ofNat n.toNat) = .int .u8 n := by
  rw [bval_ofNat _ (by omega), Int.toNat_of_nonneg h]

theorem wrapI64 (n : Int) (h1 : -9223372036854775808 ≤ n) (h2 : n ≤ 9223372036854775807) : IntKind.i64.wrap n = n := IntWalk.i64_in n ⟨h1, h2⟩

theorem push_bytes : ∀ (l : List UInt8) (s : ByteArray), (l.map fun x => (x.toNat : Int)).foldl (fun r n => r.push (UInt8.ofNat n.toNat)) s = ⟨s.data ++ l.toArray⟩
  | [], s => by simp
  | x :: l, s => by
    rw [List.map_cons, List.foldl_cons, push_bytes l]
    simp [ByteArray.push]

/-- 'string(b)'. -/
theorem IsB.conv {w : World} {v : Value} {l : List UInt8} (h : IsB w v l) : (convert 24 9 v).run Try.prog w = .ok (.string ⟨l.toArray⟩) w := by
  by_cases hl : 0 < l.length
  · obtain ⟨b, off, cap, rfl, _, _, _, hc⟩ := h.cells hl
    have := run_convert_bytes_arg (P := Try.prog) w 24 5 Try.underlying24 Try.underlying5 b off l.length cap (l.map fun x => (x.toNat : Int)) (by simp) (fun i hi => by
      rw [hc i l[i] (by simp [hi])]
      simp [bval, List.getD, hi]) 9 Try.underlying9
    rw [this]
    simp [strOfNums]
    rw [List.map_congr_left (g := id) (fun x _ => by simp)]
    simp
  · have hl0 : l = [] := List.eq_nil_of_length_eq_zero (by omega)
    subst hl0
    obtain ⟨a, cap, rfl, h1, h2, h3, h4⟩ := h
    cases a with
    | none => rw [run_convert_bytes_nil (P := Try.prog) w 24 5 Try.underlying24 Try.underlying5 _ _ 9 Try.underlying9]; rfl
    | some ad =>
      rw [run_convert_bytes_string w 24 9 5 _ _ cap Try.underlying24 Try.underlying5 Try.underlying9]
      simp [Conv.bytesToString, loadCells, loadCellsFrom]
      rfl

/-- An operation that runs to a value. -/
theorem wpList_run {P : Program} {ops : Array Oper} {Q : Exit → Act → World → Prop} {a : Act} {w : World} {rest : List Oper} {o : Oper}
    (hw : Region.wanted o (yielded ops a.tmps) = true) (v : Value) (w' : World) (hr : (execOp a.eval o).run P w = .ok (.value v) w')
    (hK : wpList P ops Q rest (a.put o.dst v) w') : wpList P ops Q (o :: rest) a w := by
  refine wpList_step fun K hK' => ?_
  rw [if_pos hw]
  unfold Oper.wp
  rw [hr]
  exact hK' _ _ hK

/-- 'string(b)' as an operation of a walk. -/
theorem wpList_conv {ops : Array Oper} {Q : Exit → Act → World → Prop} {a : Act} {w : World} {rest : List Oper} {dst : Option Tmp} {x : Operand} {ty : TypeId} {pos : String} {after : Array Edge} {guard : Option (Nat × Bool)} {v : Value} {l : List UInt8}
    (hw : Region.wanted ⟨dst, .convert 24 9 x, ty, pos, after, guard⟩ (yielded ops a.tmps) = true) (hx : a.eval x = v) (hb : IsB w v l)
    (hK : wpList Try.prog ops Q rest (a.put dst (.string ⟨l.toArray⟩)) w) : wpList Try.prog ops Q (⟨dst, .convert 24 9 x, ty, pos, after, guard⟩ :: rest) a w := by
  refine wpList_run hw (.string ⟨l.toArray⟩) w ?_ hK
  simp only [execOp, hx]
  have := hb.conv
  simp [this]

/-- A whole struct stored into a block of its own: what is known of the world behind it. -/
theorem wpList_storeW {P : Program} {ops : Array Oper} {rest : List Oper} {a : Act} {w : World} {Q : Exit → Act → World → Prop} {ty : TypeId} {x y : Operand} {ty2 : TypeId} {pos : String} {after : Array Edge}
    (g : Nat) (cells : Array Value) (hx : a.eval x = .pointer (some ⟨g, 0, none⟩)) (hy : a.eval y = .agg cells)
    (t : TypeId) (old : Array Value) (hg : w.heap[g]? = some (.cells old t (0, 0))) (hi : (P.info? ty).map (·.size) = some cells.size)
    (hold : old.size = cells.size) (h1 : cells.toList.all (·.oneCell') = true)
    (h : ∀ w', w'.heap[g]? = some (.cells cells t (0, 0)) → w.grownBy w' (some g) → w'.heap.size = w.heap.size → wpList P ops Q rest a w') : wpList P ops Q (⟨none, .store ty x y, ty2, pos, after, none⟩ :: rest) a w :=
  wpList_store_row rfl ty x y rfl g cells hx hy t old hg hi hold (by rw [← h1, Array.all_toList]) (h _ (setRow_heap w g old cells t _ hg) ⟨rfl, rfl, rfl, by simp, fun k _ hk => setRow_other w g k _ (fun e => hk (by simp [e]))⟩ (by simp))

/-- The results of a function: a struct that lies in memory, and a number. -/
theorem results_cell_row_tmp {P : Program} {fn : Func} {p u : Tmp} {ty : TypeId} (h : fn.results = #[.cell p ty, .tmp u]) (tmps : Array Value) (w : World) (g : Nat) (t : TypeId) (cs : Array Value) (fr : Nat × Nat) (d : TypeDesc)
    (hp : tmps.getD p undef = .pointer (some ⟨g, 0, none⟩)) (hg : w.heap[g]? = some (.cells cs t fr))
    (hu : P.underlying ty = some d) (hd : (match d with | .struct _ | .array _ _ => true | _ => false) = true) (hi : (P.info? ty).map (·.size) = some cs.size) :
    (results fn tmps).run P w = .ok (.tuple #[.agg cs, tmps.getD u undef]) w := by
  rw [results_cell_tmp h, hp]
  simp [asAddr, run_loadVar_row w g t ty cs fr d hg hu hd hi]

theorem info5 : (Try.prog.info? 5).map (fun i => (i.zero, i.size, i.bytes)) = some (some (.int .u8 0), 1, 1) := by kernel_rfl

/-- 'append(s, x...)' onto a byte slice that the call owns. -/
theorem wp_append_B {o : Oper} {a : Act} {w : World} {K : Act → World → Prop} {Q : Exit → Act → World → Prop} {s x : Operand} (ho : o.op = .call { callee := .builtin .append, args := #[s, x], argTypes := #[24, 24] })
    {base : Nat} {v vx : Value} {l lx : List UInt8} (hs : a.eval s = v) (hown : Own w base v l) (hx : a.eval x = vx) (hb : IsB w vx lx) (hlen : l.length + lx.length ≤ 140737488355328) (hbase : base ≤ w.heap.size)
    (hK : ∀ v' w', Own w' base v' (l ++ lx) → Below base w w' → K (a.put o.dst v') w') : o.wp Try.prog a w K Q := by
  obtain ⟨i, hi, hz, hsz, hby⟩ := info_parts info5
  obtain ⟨ad, cap, rfl, h1, h2, h3, h4⟩ := hb
  cases ad with
  | none =>
    have hc0 := h3 rfl
    subst hc0
    have hl0 : lx = [] := List.eq_nil_of_length_eq_zero (by omega)
    subst hl0
    have hr := run_append_owned_none (P := Try.prog) w base 24 o.type 5 i 1 Try.underlying24 hi v l.length (l.map bval) hown
    unfold Oper.wp execOp
    simp only [ho, resolve, invoke, builtin, Sem.run_bind, Sem.run_pure, Result.andThen_ok, List.map_toArray, List.map_cons, List.map_nil, hs, hx, List.length_nil, hr]
    exact hK _ _ (by rw [List.append_nil]; exact hown) (Below.refl _ _)
  | some ad =>
    refine wp_append_own w s x 24 ho base 5 i (.int .u8 0) 1 1 Try.underlying24 hi hz hsz hby rfl (by decide) v l.length (l.map bval) hs hown ad lx.length cap (lx.map bval) hx (by simp) (fun j u hu => ?_) (fun u hu => ?_) (by simp only [maxLen]; omega) (by omega) hbase ?_
    · rw [List.getElem?_map] at hu
      cases hj : lx[j]? with
      | none => rw [hj] at hu; cases hu
      | some x' =>
        rw [hj] at hu
        obtain rfl := Option.some.inj hu
        exact h4 ad rfl j x' hj
    · obtain ⟨y, _, rfl⟩ := List.mem_map.1 hu
      rfl
    · intro v' w' hown' hg _
      refine hK v' w' ?_ ((Below.refl _ _).grown hg hbase fun k hk => (hown.lt k hk).1)
      unfold Own
      rw [List.length_append, List.map_append]
      exact hown'

theorem wpList_append_B {ops : Array Oper} {Q : Exit → Act → World → Prop} {a : Act} {w : World} {rest : List Oper} {dst : Option Tmp} {s x : Operand} {ty : TypeId} {pos : String} {after : Array Edge}
    {base : Nat} {v vx : Value} {l lx : List UInt8} (hown : Own w base v l) (hb : IsB w vx lx) (hlen : l.length + lx.length ≤ 140737488355328) (hbase : base ≤ w.heap.size) (hs : a.eval s = v) (hx : a.eval x = vx)
    (hK : ∀ v' w', Own w' base v' (l ++ lx) → Below base w w' → wpList Try.prog ops Q rest (a.put dst v') w') : wpList Try.prog ops Q (⟨dst, .call { callee := .builtin .append, args := #[s, x], argTypes := #[24, 24] }, ty, pos, after, none⟩ :: rest) a w :=
  wpList_plain rfl fun _ hK' => wp_append_B rfl hs hown hx hb hlen hbase fun v' w' h1 h2 => hK' _ _ (hK v' w' h1 h2)

theorem Own.below {w w' : World} {base : Nat} {v : Value} {l : List UInt8} (h : Own w base v l) (hb : Below w.heap.size w w') : Own w' base v l :=
  World.ownsRow.kept (row := none) h ⟨hb.os, hb.tape, hb.output, hb.size, fun k hk _ => hb.block k hk⟩ (by cases v.ownBlock <;> simp)

theorem Own.belowB {w w' : World} {base B : Nat} {v : Value} {l : List UInt8} (h : Own w base v l) (hb : Below B w w') (hB : ∀ k, v.ownBlock = some k → k < B) : Own w' base v l := by
  refine ⟨h.1, ?_⟩
  rcases h.2 with h2 | ⟨g, cap, cur, rfl, h1, h2, h3⟩
  · exact .inl h2
  · exact .inr ⟨g, cap, cur, rfl, h1, by rw [hb.block g (hB g rfl)]; exact h2, h3⟩

theorem Own.mono {w : World} {base base' : Nat} {v : Value} {l : List UInt8} (h : Own w base v l) (hb : base' ≤ base) : Own w base' v l := by
  refine ⟨h.1, ?_⟩
  rcases h.2 with h2 | ⟨g, cap, cur, rfl, h1, h2⟩
  · exact .inl h2
  · exact .inr ⟨g, cap, cur, rfl, by omega, h2⟩

/-- '[]byte{}'. -/
theorem Own.empty {w : World} {base : Nat} (hb : base ≤ w.heap.size) (cs : Array Value) (hcs : cs = #[]) : Own (w.alloc (.cells cs 5)) base (.slice (some ⟨w.heap.size, 0, none⟩) 0 0) [] := by
  subst hcs
  exact Own.lit [] #[] 0 _ rfl rfl rfl hb (by decide)

end Go.Proofs.Ytellclclpmofcaa
