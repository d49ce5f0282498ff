/-
  make([]byte, n) and copy into a byte slice that the call owns; conditions: its size.
-/
import Derived.Test.YtellclclpmofcaaV
namespace Go.Proofs.Ytellclclpmofcaa
open Go.RowKit

theorem wpList_make_B {ops : Array Oper} {Q : Exit → Act → World → Prop} {a : Act} {w : World} {rest : List Oper} {dst : Option Tmp} {x y : Operand} {ty : TypeId} {pos : String} {after : Array Edge} (n : Nat) {k m : Int} (hk : k = (n : Int)) (hm : m = (n : Int)) (hn : n ≤ 140737488355328)
    (hx : a.eval x = .int .i64 k) (hy : a.eval y = .int .i64 m)
    (hK : ∀ w', Own w' w.heap.size (.slice (some ⟨w.heap.size, 0, none⟩) n n) (List.replicate n 0) → Below w.heap.size w w' → w'.heap.size = w.heap.size + 1 → wpList Try.prog ops Q rest (a.put dst (.slice (some ⟨w.heap.size, 0, none⟩) n n)) w') :
    wpList Try.prog ops Q (⟨dst, .makeSlice 24 x y, ty, pos, after, none⟩ :: rest) a w := by
  obtain ⟨i, hi, hz, hsz, hby⟩ := info_parts info5
  refine wpList_plain rfl fun K hK' => ?_
  subst hk hm
  have hr := run_make (P := Try.prog) w 24 5 i (.int .u8 0) Try.underlying24 hi hz .i64 .i64 n n (by omega) (Int.le_refl _) (by rw [hby]; omega) (by omega)
  simp only [Int.toNat_natCast, hsz, Nat.mul_one] at hr
  have hcells : madeCells (Value.int .u8 0).cells n = ((List.replicate n (0 : UInt8)).map bval).toArray := by
    apply Array.ext'
    rw [show (Value.int .u8 0).cells = #[Value.int .u8 0] from rfl, toList_madeCells_one]
    simp [bval]
  unfold Oper.wp
  simp [execOp, hx, hy, hr, Result.andThen]
  refine hK' _ _ (hK _ ?_ ((Below.refl _ _).alloc (Nat.le_refl _) _) (by simp))
  rw [hcells]
  exact Own.lit (List.replicate n 0) _ n _ rfl (by simp) rfl (Nat.le_refl _) (by simp only [maxLen]; omega)

/-- 'copy' into a slice that the call owns, of no more bytes than it has. -/
theorem wpList_copy_B {ops : Array Oper} {Q : Exit → Act → World → Prop} {a : Act} {w : World} {rest : List Oper} {dst : Option Tmp} {x y : Operand} {ty : TypeId} {pos : String} {after : Array Edge} {base : Nat} {v vx : Value} {l lx : List UInt8}
    (hown : Own w base v l) (hb : IsB w vx lx) (hlen : lx.length ≤ l.length) (hbase : base ≤ w.heap.size) (hx : a.eval x = v) (hy : a.eval y = vx)
    (hK : ∀ w', Own w' base v (lx ++ l.drop lx.length) → Below base w w' → w'.heap.size = w.heap.size → wpList Try.prog ops Q rest (a.put dst (.int .i64 lx.length)) w') :
    wpList Try.prog ops Q (⟨dst, .call { callee := .builtin .copy, args := #[x, y], argTypes := #[24, 24] }, ty, pos, after, none⟩ :: rest) a w := by
  obtain ⟨i, hi, _, hsz, _⟩ := info_parts info5
  have hsz' : (Try.prog.info? 5).map (·.size) = some 1 := by rw [hi]; simp [hsz]
  refine wpList_plain rfl fun K hK' => ?_
  obtain ⟨ad, cap, rfl, h1, h2, h3, h4⟩ := hb
  by_cases h0 : lx.length = 0
  · have e0 : lx = [] := List.eq_nil_of_length_eq_zero h0
    subst e0
    have hv : ∃ dp dLen dCap, v = .slice dp dLen dCap := by
      rcases hown.2 with ⟨rfl, _⟩ | ⟨g, cap, cur, rfl, _⟩
      · exact ⟨_, _, _, rfl⟩
      · exact ⟨_, _, _, rfl⟩
    obtain ⟨dp, dLen, dCap, rfl⟩ := hv
    have hrun := run_copy_none (P := Try.prog) w 24 24 ty 5 dp ad dLen dCap 0 cap Try.underlying24 hsz' (by simp)
    unfold Oper.wp
    simp only [List.length_nil] at hy
    simp [execOp, resolve, invoke, builtin, hx, hy, hrun, Result.andThen]
    have := hK w (by simpa using hown) (Below.refl _ _) rfl
    exact hK' _ _ this
  · rcases hown.2 with ⟨_, hl0⟩ | ⟨g, capd, cur, rfl, hbg, hg, hnc, hcm, hcs, htake⟩
    · omega
    · cases ad with
      | none => have := h3 rfl; omega
      | some ad =>
        have hrun := run_copy_row (P := Try.prog) w 24 24 ty 5 g 0 l.length capd ad lx.length cap cur 5 (lx.map bval) Try.underlying24 hsz' hg (by rw [List.length_map]; exact (Nat.min_eq_left hlen).symm) (fun j u hu => by
          rw [List.getElem?_map] at hu
          cases hj : lx[j]? with
          | none => rw [hj] at hu; cases hu
          | some x' =>
            rw [hj] at hu
            obtain rfl := Option.some.inj hu
            exact h4 ad rfl j x' hj) (by simp; omega) (fun u hu => by obtain ⟨y', _, rfl⟩ := List.mem_map.1 hu; rfl)
        unfold Oper.wp
        simp only [execOp, resolve, invoke, builtin, List.map_toArray, List.map_cons, List.map_nil, hx, hy]
        simp [hrun, Result.andThen]
        have hl2 : (lx ++ l.drop lx.length).length = l.length := by simp; omega
        refine hK' _ _ (hK _ ⟨by rw [hl2]; simp; omega, .inr ⟨g, capd, _, by rw [hl2], hbg, setRow_heap w g cur ((lx.map bval ++ cur.toList.drop lx.length).toArray) 5 _ hg, by rw [hl2]; exact hnc, hcm, ?_, ?_⟩⟩ ?_ (by simp))
        · simp
          omega
        · rw [hl2]
          simp only [Nat.mul_one] at htake ⊢
          rw [List.take_append, List.length_map, List.take_of_length_le (by simp; omega), ← List.drop_take, htake, List.map_append, List.map_drop]
        · exact (Below.refl _ _).grown (row := some g) ⟨rfl, rfl, rfl, by simp, fun k _ hk => setRow_other w g k _ (fun e => hk (by simp [e]))⟩ hbase (fun k hk => by cases hk; exact hbg)

end Go.Proofs.Ytellclclpmofcaa
