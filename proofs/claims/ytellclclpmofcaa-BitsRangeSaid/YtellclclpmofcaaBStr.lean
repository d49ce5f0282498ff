/-
  Lists of strings that a call owns: append, what an element is; strings as steps of a region; conditions: their sizes.
-/
import Derived.Test.YtellclclpmofcaaBRange
import Derived.Test.YtellclclpmofcaaBNum
namespace Go.Proofs.Ytellclclpmofcaa
open Go.RowKit
set_option linter.unusedVariables false

/-- The string of given bytes. -/
def strV (l : List UInt8) : ByteArray := ⟨l.toArray⟩
def sval (l : List UInt8) : Value := .string (strV l)

theorem strV_size (l : List UInt8) : (strV l).size = l.length := by simp [strV, ByteArray.size]
theorem strV_inj {l m : List UInt8} (h : strV l = strV m) : l = m := by
  have := congrArg (fun x => x.data.toList) h
  simpa [strV] using this
theorem strV_extract (l : List UInt8) (k : Nat) : (strV l).extract 0 k = strV (l.take k) := by
  unfold strV
  rw [ByteArray.extract_mk]
  simp
theorem strV_append (l m : List UInt8) : strV l ++ strV m = strV (l ++ m) := by
  unfold strV
  rw [ByteArray.mk_append_mk]

/-- The strings that a call owns. -/
def OwnS (w : World) (base : Nat) (v : Value) (l : List (List UInt8)) : Prop := w.ownsRow base 9 1 v l.length (l.map sval)

theorem OwnS.nil (w : World) (base : Nat) : OwnS w base (.slice none 0 0) [] := ⟨rfl, .inl ⟨rfl, rfl⟩⟩

theorem OwnS.below {w w' : World} {base : Nat} {v : Value} {l : List (List UInt8)} (h : OwnS w base v l) (hb : Below w.heap.size w w') : OwnS w' base v l :=
  World.ownsRow.kept (row := none) h ⟨hb.os, hb.tape, hb.output, hb.size, fun k hk _ => hb.block k hk⟩ (by cases v.ownBlock <;> simp)

theorem OwnS.len' {w : World} {base : Nat} {v : Value} {l : List (List UInt8)} (h : OwnS w base v l) : ∃ a n cap, v = .slice a n cap ∧ n = l.length ∧ n ≤ cap ∧ cap ≤ maxLen := by
  rcases h.2 with ⟨rfl, h0⟩ | ⟨g, cap, cur, rfl, _, _, h1, h2, _, _⟩
  · exact ⟨none, 0, 0, rfl, h0.symm, Nat.le_refl _, Nat.zero_le _⟩
  · exact ⟨_, _, cap, rfl, rfl, h1, h2⟩

theorem OwnS.cellAt {w : World} {base : Nat} {a : Option Addr} {n cap : Nat} {l : List (List UInt8)} (h : OwnS w base (.slice a n cap) l) {k : Nat} {x : List UInt8} (hk : l[k]? = some x) :
    ∃ b, a = some ⟨b, 0, none⟩ ∧ b < w.heap.size ∧ w.cell? ⟨b, 0 + k, none⟩ = some (sval x) := by
  have hl : k < l.length := (List.getElem?_eq_some_iff.1 hk).1
  rcases h.2 with ⟨h1, h0⟩ | ⟨g, cap', cur, h1, _, hg, _⟩
  · omega
  · have e := h1
    injection e with e1 e2 e3
    subst e1
    refine ⟨g, rfl, (Array.getElem?_eq_some_iff.1 hg).1, ?_⟩
    have := World.ownsRow.cells h (g := g) rfl k (sval x) (by rw [List.getElem?_map, hk]; rfl)
    rw [Addr.add_lit] at this
    exact this

theorem info9 : (Try.prog.info? 9).map (fun i => (i.zero, i.size, i.bytes)) = some (some (.string ⟨#[]⟩), 1, 16) := by kernel_rfl

/-- 'append(l, s)'. -/
theorem wpList_append_S {ops : Array Oper} {Q : Exit → Act → World → Prop} {a : Act} {w : World} {rest : List Oper} {dst : Option Tmp} {s x : Operand} {ty : TypeId} {pos : String} {after : Array Edge}
    {base : Nat} {v : Value} {l : List (List UInt8)} {y : List UInt8} {g : Nat} (hown : OwnS w base v l) (hg : w.heap[g]? = some (.cells #[sval y] 9 (0, 0))) (hlen : l.length ≤ 1000000) (hbase : base ≤ w.heap.size)
    (hs : a.eval s = v) (hx : a.eval x = .slice (some ⟨g, 0, none⟩) 1 1)
    (hK : ∀ v' w', OwnS w' base v' (l ++ [y]) → w.grownBy w' v.ownBlock → wpList Try.prog ops Q rest (a.put dst v') w') : wpList Try.prog ops Q (⟨dst, .call { callee := .builtin .append, args := #[s, x], argTypes := #[92, 92] }, ty, pos, after, none⟩ :: rest) a w := by
  obtain ⟨i, hi, hz, hsz, hby⟩ := info_parts info9
  refine wpList_plain rfl fun K hK' => ?_
  refine wp_append_own w s x 92 rfl base 9 i (.string ⟨#[]⟩) 1 16 Try.underlying92 hi hz hsz hby rfl (by decide) v l.length (l.map sval) hs hown ⟨g, 0, none⟩ 1 1 [sval y] hx rfl (fun j u hu => ?_) (fun u hu => ?_) (by simp only [maxLen]; omega) (by omega) hbase ?_
  · match j, hu with
    | 0, hu =>
      obtain rfl := Option.some.inj hu
      rw [Addr.add_lit, (row_facts hg).1]
      rfl
    | j + 1, hu => simp at hu
  · obtain rfl := List.mem_singleton.1 hu
    rfl
  · intro v' w' hown' hgr _
    refine hK' _ _ (hK v' w' ?_ hgr)
    unfold OwnS
    rw [List.length_append, List.map_append]
    exact hown'

/-- The signs of the first codes. -/
def codes (N k : Nat) : List (List UInt8) := (List.range k).map fun v => signs v N
theorem codes_length (N k : Nat) : (codes N k).length = k := by simp [codes]
theorem codes_succ (N k : Nat) : codes N (k + 1) = codes N k ++ [signs k N] := by simp [codes, List.range_succ]
theorem codes_get {N k i : Nat} (h : i < k) : (codes N k)[i]? = some (signs i N) := by
  unfold codes
  rw [List.getElem?_map, List.getElem?_range h]
  rfl

theorem strV_toList (l : List UInt8) : (strV l).toList = l := by simp [strV]

/-- What the test of two codes comes to. -/
theorem codes_test {N i k : Nat} (h : i < k) (hk : k < N) (hN : N ≤ 64) :
    (strV (signs i N)).size ≤ (strV (signs k N)).size ∧ ((strV (signs i N)).toList == ((strV (signs k N)).extract 0 (strV (signs i N)).size).toList) = false := by
  rw [strV_size, strV_size, strV_extract, strV_toList, strV_toList]
  refine ⟨?_, ?_⟩
  · rw [signs_length, signs_length]
    exact codeW_mono N (by omega)
  · rw [beq_eq_false_iff_ne]
    exact signs_apart h hk hN

section
variable {ops : Array Oper} {Q : Exit → Act → World → Prop} {a : Act} {w : World} {rest : List Oper} {dst : Option Tmp} {x y : Operand} {t t2 ty : TypeId} {pos : String} {after : Array Edge} {guard : Option (Nat × Bool)}

/-- 's + t'. -/
theorem wpList_addS {l m z : List UInt8} (hx : a.eval x = sval l) (hy : a.eval y = .string ⟨m.toArray⟩) (hw : Region.wanted ⟨dst, .binOp .add t x y t2, ty, pos, after, guard⟩ (yielded ops a.tmps) = true) (hl : l.length ≤ 1000) (hm : m.length ≤ 1000)
    (hz : l ++ m = z) (hK : wpList Try.prog ops Q rest (a.put dst (sval z)) w) : wpList Try.prog ops Q (⟨dst, .binOp .add t x y t2, ty, pos, after, guard⟩ :: rest) a w := by
  subst hz
  refine wpList_bin (by simp) hx hy hw ?_ hK
  show (binOp .add t (.string ⟨l.toArray⟩) (.string ⟨m.toArray⟩)).run Try.prog w = _
  rw [binOp_string_add]
  exact run_string_add_lists w l m (by omega) (by omega)
end

end Go.Proofs.Ytellclclpmofcaa
