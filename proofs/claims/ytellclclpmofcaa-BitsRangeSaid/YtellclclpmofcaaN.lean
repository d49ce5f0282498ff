/-
  Single operations in a region's steps: the conversion of a byte slice to a string; what calls hand back, as what holds of a yield.
-/
import Derived.Test.YtellclclpmofcaaA
import Derived.Test.YtellclclpmofcaaM
namespace Go.Proofs.Ytellclclpmofcaa
open Go.RowKit

theorem wp_conv_of {dst : Option Tmp} {t : Nat} {ty : TypeId} {pos : String} {after : Array Edge} {guard : Option (Nat × Bool)} {a : Act} {w : World} {K : Act → World → Prop} {Q : Exit → Act → World → Prop} {v : Value} {l : List UInt8}
    (e : a.tmps[t]?.getD undef = v) (hb : IsB w v l) (hk : K (a.put dst (.string ⟨l.toArray⟩)) w) : (Oper.mk dst (.convert 24 9 (.tmp t)) ty pos after guard).wp Try.prog a w K Q := by
  unfold Oper.wp
  have e' : a.eval (.tmp t) = v := by rw [evalTmp, e]
  have := hb.conv
  simp [execOp, e', this]
  exact hk

/-- A yield that is a byte slice. -/
def PB (l : List UInt8) (v : Value) (w : World) : Prop := IsB w v l
theorem PB.stable (l : List UInt8) : ∀ v w w', PB l v w → Below w.heap.size w w' → PB l v w' := fun _ _ _ h hb => IsB.below h hb

end Go.Proofs.Ytellclclpmofcaa
