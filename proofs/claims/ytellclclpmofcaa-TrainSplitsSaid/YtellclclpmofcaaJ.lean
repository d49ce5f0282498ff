/-
  Lists of byte slices, make with room, and the contract of octet.Join; conditions: the argument reads as such a list, of no more than 1000000 bytes.
-/
import Derived.Test.YtellclclpmofcaaY
namespace Go.Proofs.Ytellclclpmofcaa
open Go.RowKit

/-- 'v' is a list of byte slices that reads as 'ls'. -/
def IsL (w : World) (v : Value) (ls : List (List UInt8)) : Prop :=
  ∃ a cap, v = .slice a ls.length cap ∧ ls.length ≤ cap ∧ cap ≤ maxLen ∧ (a = none → cap = 0) ∧
    ∀ ad, a = some ad → ∀ i l, ls[i]? = some l → ∃ s, w.cell? (ad.add i) = some s ∧ IsB w s l

theorem IsL.moved {w w' : World} {v : Value} {ls : List (List UInt8)} (h : IsL w v ls) (hb : ∀ k, k < w.heap.size → w'.heap[k]? = w.heap[k]?) : IsL w' v ls := by
  obtain ⟨a, cap, rfl, h1, h2, h3, h4⟩ := h
  refine ⟨a, cap, rfl, h1, h2, h3, fun ad had i x hx => ?_⟩
  obtain ⟨s, hc, hs⟩ := h4 ad had i x hx
  exact ⟨s, by rw [World.cell?_of_block (hb _ (World.block_lt_of_cell? w _ hc)), hc], hs.moved hb⟩

theorem IsL.below {w w' : World} {v : Value} {ls : List (List UInt8)} (h : IsL w v ls) (hb : Below w.heap.size w w') : IsL w' v ls := h.moved hb.block
theorem IsL.belowB {w w' : World} {v : Value} {ls : List (List UInt8)} {B : Nat} (h : IsL w v ls) (hb : Below B w w') (hB : w.heap.size ≤ B) : IsL w' v ls := h.moved fun k hk => hb.block k (by omega)

theorem IsL.len' {w : World} {v : Value} {ls : List (List UInt8)} (h : IsL w v ls) : ∃ a n cap, v = .slice a n cap ∧ n = ls.length ∧ n ≤ cap ∧ cap ≤ maxLen :=
  let ⟨a, cap, h0, h1, h2, _, _⟩ := h; ⟨a, _, cap, h0, rfl, h1, h2⟩

theorem IsL.cellAt {w : World} {a : Option Addr} {n cap : Nat} {ls : List (List UInt8)} (h : IsL w (.slice a n cap) ls) {k : Nat} {l : List UInt8} (hk : ls[k]? = some l) : ∃ b off s, a = some ⟨b, off, none⟩ ∧ b < w.heap.size ∧ w.cell? ⟨b, off + k, none⟩ = some s ∧ IsB w s l := by
  obtain ⟨a', cap', he, h1, h2, h3, h4⟩ := h
  obtain ⟨rfl, _, rfl⟩ : a = a' ∧ n = ls.length ∧ cap = cap' := by simpa using he
  have hl : k < ls.length := (List.getElem?_eq_some_iff.1 hk).1
  cases a with
  | none => have := h3 rfl; omega
  | some ad =>
    obtain ⟨b, off, spot⟩ := ad
    obtain ⟨s, hc, hs⟩ := h4 _ rfl k l hk
    obtain ⟨s0, hc0, _⟩ := h4 _ rfl 0 (ls[0]'(by omega)) (by simp)
    have hspot : spot = none := by simpa [Addr.add] using World.cell?_spot hc0
    subst hspot
    rw [Addr.add_lit] at hc
    exact ⟨b, off, s, rfl, World.block_lt_of_cell? w _ hc, hc, hs⟩

theorem IsL.nil (w : World) : IsL w (.slice none 0 0) [] := ⟨none, 0, rfl, Nat.le_refl _, Nat.zero_le _, fun _ => rfl, fun _ h => by cases h⟩

/-- A row of one, or of two, byte slices. -/
theorem IsL.one {w : World} {v : Value} {l : List UInt8} {t : TypeId} {cs : Array Value} (h : IsB w v l) (hcs : cs = #[v]) : IsL (w.alloc (.cells cs t)) (.slice (some ⟨w.heap.size, 0, none⟩) 1 1) [l] := by
  subst hcs
  refine ⟨_, 1, rfl, Nat.le_refl _, by decide, (fun h => by cases h), fun ad had i x hx => ?_⟩
  obtain rfl := Option.some.inj had
  have hr := row_facts (heap_alloc_new w (.cells #[v] t))
  match i, hx with
  | 0, hx =>
    obtain rfl := Option.some.inj hx
    exact ⟨v, by rw [Addr.add_lit, hr.1]; rfl, h.below ((Below.refl _ _).alloc (Nat.le_refl _) _)⟩
  | i + 1, hx => simp at hx

theorem IsL.two {w : World} {v v2 : Value} {l l2 : List UInt8} {t : TypeId} {cs : Array Value} (h : IsB w v l) (h2 : IsB w v2 l2) (hcs : cs = #[v, v2]) : IsL (w.alloc (.cells cs t)) (.slice (some ⟨w.heap.size, 0, none⟩) 2 2) [l, l2] := by
  subst hcs
  refine ⟨_, 2, rfl, Nat.le_refl _, by decide, (fun h => by cases h), fun ad had i x hx => ?_⟩
  obtain rfl := Option.some.inj had
  have hr := row_facts (heap_alloc_new w (.cells #[v, v2] t))
  match i, hx with
  | 0, hx =>
    obtain rfl := Option.some.inj hx
    exact ⟨v, by rw [Addr.add_lit, hr.1]; rfl, h.below ((Below.refl _ _).alloc (Nat.le_refl _) _)⟩
  | 1, hx =>
    obtain rfl := Option.some.inj hx
    exact ⟨v2, by rw [Addr.add_lit, hr.1]; rfl, h2.below ((Below.refl _ _).alloc (Nat.le_refl _) _)⟩
  | i + 2, hx => simp at hx

theorem wpList_make_C {ops : Array Oper} {Q : Exit → Act → World → Prop} {a : Act} {w : World} {rest : List Oper} {dst : Option Tmp} {x y : Operand} {ty : TypeId} {pos : String} {after : Array Edge} (n : Nat) {k m : Int} (hk : k = 0) (hm : m = (n : Int)) (hn : n ≤ 140737488355328)
    (hx : a.eval x = .int .i64 k) (hy : a.eval y = .int .i64 m)
    (hK : ∀ v' w', Own w' w.heap.size v' [] → Below w.heap.size w w' → w'.heap.size = w.heap.size + 1 → wpList Try.prog ops Q rest (a.put dst v') w') :
    wpList Try.prog ops Q (⟨dst, .makeSlice 24 x y, ty, pos, after, none⟩ :: rest) a w := by
  obtain ⟨i, hi, hz, hsz, hby⟩ := info_parts info5
  refine wpList_plain rfl fun K hK' => ?_
  subst hk hm
  have hr := run_make (P := Try.prog) w 24 5 i (.int .u8 0) Try.underlying24 hi hz .i64 .i64 0 n (by omega) (by omega) (by rw [hby]; omega) (by omega)
  simp only [Int.toNat_natCast, hsz, Nat.mul_one] at hr
  have hcells : madeCells (Value.int .u8 0).cells n = ((List.replicate n (0 : UInt8)).map bval).toArray := by
    apply Array.ext'
    rw [show (Value.int .u8 0).cells = #[Value.int .u8 0] from rfl, toList_madeCells_one]
    simp [bval]
  unfold Oper.wp
  simp [execOp, hx, hy, hr, Result.andThen]
  refine hK' _ _ (hK _ _ ⟨by simp, .inr ⟨w.heap.size, n, _, rfl, Nat.le_refl _, heap_alloc_new w _, by simp, by simp only [maxLen]; omega, ?_, by simp⟩⟩ ((Below.refl _ _).alloc (Nat.le_refl _) _) (by simp))
  rw [hcells]
  simp

theorem flatten_take_succ {ls : List (List UInt8)} {k : Nat} {l : List UInt8} (h : ls[k]? = some l) : (ls.take (k + 1)).flatten = (ls.take k).flatten ++ l := by
  obtain ⟨hk, he⟩ := List.getElem?_eq_some_iff.1 h
  rw [List.take_add_one, h]
  simp

theorem flatten_take_le (ls : List (List UInt8)) (k : Nat) : (ls.take k).flatten.length ≤ ls.flatten.length := by
  conv => rhs; rw [← List.take_append_drop k ls, List.flatten_append, List.length_append]
  omega

set_option maxHeartbeats 800000 in
theorem join_walk (a : Option Addr) (n cap : Nat) (ls : List (List UInt8)) (w : World) (hn : n = ls.length) (hm : n ≤ maxLen) (h : IsL w (.slice a n cap) ls) (hs : ls.flatten.length ≤ 1000000) :
    Calls Try.prog 62 #[.slice a n cap] w (RetOwn1 w ls.flatten) := by
  have HN := hide hn
  have HB := hide h
  have HS := hide hs
  have HT := hide (flatten_take_le ls)
  unfold maxLen at hm
  clear hn h hs
  go_enter Try.func62, Try.ntmps62
  go_wp2_with fail
  go_loop [3, 11] (fun s t => ∃ k : Nat, k ≤ n ∧ s = .int .i64 (ls.take k).flatten.length ∧ t = .int .i64 k) (fun _ t => n - (intOf t).toNat)
  case atStart => exact ⟨0, Nat.zero_le _, by simp, rfl⟩
  case round =>
    obtain ⟨k, hk, rfl, rfl⟩ := hrel
    obtain ⟨m, hme⟩ : ∃ m : Nat, m = (ls.take k).flatten.length := ⟨_, rfl⟩
    have HM := hide hme
    have hm1 : (m : Int) ≤ 1000000 := by have := HT.out k; have := HS.out; omega
    rw [← hme]
    clear hme
    by_cases hlt : k < n
    · obtain ⟨x, hx⟩ : ∃ x, ls[k]? = some x := ⟨ls[k]'(by rw [← HN.out]; exact hlt), by simp [← HN.out, hlt]⟩
      obtain ⟨b, off, s, rfl, _, hc, hs⟩ := HB.out.cellAt hx
      have HX := hide hx
      clear hx
      obtain ⟨a2, n2, cap2, rfl, hn2, hx1, hx2⟩ := hs.len'
      clear hx1 hx2 hs
      have HN2 := hide hn2
      have hsum : Hid ((m : Int) + n2 = (ls.take (k + 1)).flatten.length) := hide (by rw [flatten_take_succ HX.out, List.length_append, ← HM.out, HN2.out]; simp)
      have hm2 : (m : Int) + n2 ≤ 1000000 := by have := HT.out (k + 1); have := HS.out; have := hsum.out; omega
      clear hn2
      go_wp2_with fail
      go_round
      case rel => exact ⟨k + 1, by omega, by rw [hsum.out], by go_num⟩
      case measure => simp [intOf]; omega
    · have hge : (n : Int) ≤ k := by omega
      have hall : Hid (m = ls.flatten.length) := hide (by rw [HM.out, List.take_of_length_le (by have := HN.out; omega)])
      go_wp2_with (at_make; refine wpList_make_C m rfl rfl (by omega) rfl rfl ?_)
      intro v1 w1 o1 b1 s1
      have HO := hide o1
      have HB1 := hide b1
      clear o1 b1
      go_wp2_with fail
      go_loopw [6, 24] (fun s t wr => ∃ k : Nat, k ≤ n ∧ t = .int .i64 k ∧ Own wr w.heap.size s (ls.take k).flatten ∧ Below w.heap.size w wr) (fun _ t _ => n - (intOf t).toNat)
      case atStart => exact ⟨0, Nat.zero_le _, rfl, by simpa using HO.out, HB1.out⟩
      case round =>
        obtain ⟨j, hj, rfl, o2, b2⟩ := hrel
        have HO2 := hide o2
        have HB2 := hide b2
        have z2 := b2.size
        clear o2 b2
        by_cases hlt : j < n
        · obtain ⟨x, hx⟩ : ∃ x, ls[j]? = some x := ⟨ls[j]'(by rw [← HN.out]; exact hlt), by simp [← HN.out, hlt]⟩
          obtain ⟨b, off, s, rfl, _, hc, hs⟩ := (HB.out.below HB2.out).cellAt hx
          have HX := hide hx
          have HI := hide hs
          clear hx hs
          have hlen : (ls.take j).flatten.length + x.length ≤ 140737488355328 := by
            have := HT.out (j + 1)
            have := HS.out
            rw [flatten_take_succ HX.out, List.length_append] at *
            omega
          have HLen := hide hlen
          clear hlen
          go_wp2_with (at_builtin; refine wpList_append_B HO2.out HI.out HLen.out (by omega) rfl rfl ?_)
          intro v3 w3 o3 b3
          have HO3 := hide o3
          have HB3 := hide (HB2.out.trans b3)
          clear o3 b3
          go_wp2_with fail
          go_roundw
          case rel => exact ⟨j + 1, by omega, by go_num, by rw [flatten_take_succ HX.out]; exact HO3.out, HB3.out⟩
          case measure => simp [intOf]; omega
        · have hge2 : (n : Int) ≤ j := by omega
          go_wp2_with fail
          go_ret
          refine ⟨_, rfl, ?_, HB2.out⟩
          have := HO2.out
          rw [List.take_of_length_le (by have := HN.out; omega)] at this
          exact this

theorem join_any (v : Value) (ls : List (List UInt8)) (w : World) (h : IsL w v ls) (hs : ls.flatten.length ≤ 1000000) : Calls Try.prog 62 #[v] w (RetOwn1 w ls.flatten) := by
  obtain ⟨a, n, cap, rfl, hn, h1, h2⟩ := h.len'
  exact join_walk a n cap ls w hn (by omega) h hs

def trN (l : List UInt8) : Nat := if trailN l % 4 = 0 then trailN l else 0
def trE (l : List UInt8) : Int := if trN l = 0 then 5 else 0

set_option maxHeartbeats 400000 in
theorem trailer_any (v : Value) (l : List UInt8) (w : World) (h : IsB w v l) (hl : 4 ≤ l.length) :
    Calls Try.prog 61 #[v] w fun e w' => e = .returned (.tuple #[.int .i64 (trN (l.drop 4)), .int .i64 (trE (l.drop 4))]) ∧ Below w.heap.size w w' := by
  have HL := hide hl
  have HB := hide h
  have HI := hide (show IsB w (slV v 4 l.length) (l.drop 4) by have := h.slice (lo := 4) (hi := l.length) hl (Nat.le_refl _); rwa [List.take_length] at this)
  clear h hl
  obtain ⟨m, hm⟩ : ∃ m : Nat, m = trailN (l.drop 4) := ⟨_, rfl⟩
  have HM := hide hm
  have hm2 : (m : Int) ≤ 255 := by have := (trailN_le (l.drop 4)).2; omega
  have HE : Hid (trailE (l.drop 4) = if m = 0 then 5 else 0) := hide (by rw [trailE, ← hm])
  have HN : Hid (trN (l.drop 4) = if m % 4 = 0 then m else 0) := hide (by rw [trN, ← hm])
  clear hm
  have HT : Hid (trE (l.drop 4) = if m % 4 = 0 ∧ m ≠ 0 then 0 else 5) := hide (by rw [trE, HN.out]; by_cases h1 : m % 4 = 0 <;> by_cases h2 : m = 0 <;> simp [h1, h2])
  go_enter Try.func61, Try.ntmps61
  go_wp2_with (refine wpList_slice_lo HB.out 4 HL.out rfl (by rfl) rfl rfl ?_)
  refine (trail_any _ _ _ HI.out).mono ?_
  rintro e w1 ⟨rfl, b1⟩
  rw [HE.out, ← HM.out]
  by_cases h0 : m = 0
  · subst h0
    simp only [if_true]
    go_wp2_with fail
    go_ret2
    exact ⟨by rw [HN.out, HT.out]; rfl, b1⟩
  · by_cases h4 : m % 4 = 0
    · have hb : ((m : Int) % 4 != 0) = false := by simp; omega
      have H := hide (And.intro h4 h0)
      rw [if_neg h0]
      clear h0 h4
      go_wp2_with fail
      go_ret2
      exact ⟨by rw [HN.out, HT.out, if_pos H.out, if_pos H.out.1]; rfl, b1⟩
    · have hb : ((m : Int) % 4 != 0) = true := by simp; omega
      have H := hide h4
      rw [if_neg h0]
      clear h0 h4
      go_wp2_with fail
      go_ret2
      exact ⟨by rw [HN.out, HT.out, if_neg H.out, if_neg (fun h => H.out h.1)]; rfl, b1⟩

end Go.Proofs.Ytellclclpmofcaa
