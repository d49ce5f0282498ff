/-
  No cell of these rows narrows 'for every input' (looked for: loops, veiled, ifaces, maps, wideKeys, modest, calm, conditions, laid).
  DERIVED. THE GIVEN ROWS OF THIS SEAT. 12 by the template 'for every input the law returns true; each argument reads behind the call as it read before'; 0 by the template 'total and deterministic' (their statements: YtellclclpmofcaaTotals.lean).
  GIVEN WITH THE SEED: the statements are not yours to turn. If you find one false, say at which input.
  Laid BY PROGRAM, IN A SANDBOX (cutbox-rows.mjs): the forced cells as the released guide's own fill.sh prints them over the translation 2f7c56cb0b55bd22… (all of the seat's roots in one cut). By AI agents, Wed Nov 11 2026. No macro, syntax, notation, axiom, sorry.
-/
import Derived.Test.YtellclclpmofcaaChecked
import GoSem.Claim
import GoSem.ClaimJoined
import GoSem.ClaimMapViews
import Derived.JoinedTies
import Derived.KernelRfl
namespace Go.Proofs.Ytellclclpmofcaa
/- THE CELL 'sum', in the pinned program and in every row, IS THE sha256 OF THE DUMP (.gsa) THAT YtellclclpmofcaaProg.lean LOADS. Nothing in Lean hashes anything: it is a label: what it is worth is what the hold of that sum in a sandbox is worth. -/
noncomputable def Try.pinned : Pinned := { name := "ytellclclpmofcaa", sum := "2f7c56cb0b55bd222c8ce30510306deeee192818d5575355ab2b2c43c70575a0", checked := Try.checked }
namespace Rows
def none {H : Type} : Left H := { results := [], args := [] }

/-- 'crossbarlaw10.CommonRight': WHATEVER THE INPUT: true; the input reads as it did. -/
def commonRightSpec : ChangeSpec := { name := "commonRight", fn := fun _ => fun
  | [d1, d2] => { results := [.lit (.bool true)], args := [d1, d2] }
  | _ => none }
def commonRightRow : OpenClaim := { program := "ytellclclpmofcaa", sum := "2f7c56cb0b55bd222c8ce30510306deeee192818d5575355ab2b2c43c70575a0", func := "crossbar/crossbarlaw10.CommonRight", spec := "commonRight", apart := false }
def CommonRightSaid : Prop := commonRightRow.holds Try.pinned (OpenSpec.ofChange commonRightSpec)

/-- ITS FALSE NEIGHBOUR: 'it returns false'. Refute it at one input. -/
def commonRightWrong : ChangeSpec := { name := "commonRight", fn := fun _ => fun
  | [d1, d2] => { results := [.lit (.bool false)], args := [d1, d2] }
  | _ => none }
def CommonRightWrongFalsely : Prop := commonRightRow.holds Try.pinned (OpenSpec.ofChange commonRightWrong)

/-- 'crossbarlaw10.CommonBack': WHATEVER THE INPUT: true; the input reads as it did. -/
def commonBackSpec : ChangeSpec := { name := "commonBack", fn := fun _ => fun
  | [d1, d2, d3, d4] => { results := [.lit (.bool true)], args := [d1, d2, d3, d4] }
  | _ => none }
def commonBackRow : OpenClaim := { program := "ytellclclpmofcaa", sum := "2f7c56cb0b55bd222c8ce30510306deeee192818d5575355ab2b2c43c70575a0", func := "crossbar/crossbarlaw10.CommonBack", spec := "commonBack", apart := false }
def CommonBackSaid : Prop := commonBackRow.holds Try.pinned (OpenSpec.ofChange commonBackSpec)

/-- ITS FALSE NEIGHBOUR: 'it returns false'. Refute it at one input. -/
def commonBackWrong : ChangeSpec := { name := "commonBack", fn := fun _ => fun
  | [d1, d2, d3, d4] => { results := [.lit (.bool false)], args := [d1, d2, d3, d4] }
  | _ => none }
def CommonBackWrongFalsely : Prop := commonBackRow.holds Try.pinned (OpenSpec.ofChange commonBackWrong)

/-- 'crossbarlaw03.PadRight': WHATEVER THE INPUT: true; the input reads as it did. -/
def padRightSpec : ChangeSpec := { name := "padRight", fn := fun _ => fun
  | [d1, d2] => { results := [.lit (.bool true)], args := [d1, d2] }
  | _ => none }
def padRightRow : OpenClaim := { program := "ytellclclpmofcaa", sum := "2f7c56cb0b55bd222c8ce30510306deeee192818d5575355ab2b2c43c70575a0", func := "crossbar/crossbarlaw03.PadRight", spec := "padRight", apart := false }
def PadRightSaid : Prop := padRightRow.holds Try.pinned (OpenSpec.ofChange padRightSpec)

/-- ITS FALSE NEIGHBOUR: 'it returns false'. Refute it at one input. -/
def padRightWrong : ChangeSpec := { name := "padRight", fn := fun _ => fun
  | [d1, d2] => { results := [.lit (.bool false)], args := [d1, d2] }
  | _ => none }
def PadRightWrongFalsely : Prop := padRightRow.holds Try.pinned (OpenSpec.ofChange padRightWrong)

/-- 'crossbarlaw03.PadTrail': WHATEVER THE INPUT: true; the input reads as it did. -/
def padTrailSpec : ChangeSpec := { name := "padTrail", fn := fun _ => fun
  | [d1, d2, d3, d4] => { results := [.lit (.bool true)], args := [d1, d2, d3, d4] }
  | _ => none }
def padTrailRow : OpenClaim := { program := "ytellclclpmofcaa", sum := "2f7c56cb0b55bd222c8ce30510306deeee192818d5575355ab2b2c43c70575a0", func := "crossbar/crossbarlaw03.PadTrail", spec := "padTrail", apart := false }
def PadTrailSaid : Prop := padTrailRow.holds Try.pinned (OpenSpec.ofChange padTrailSpec)

/-- ITS FALSE NEIGHBOUR: 'it returns false'. Refute it at one input. -/
def padTrailWrong : ChangeSpec := { name := "padTrail", fn := fun _ => fun
  | [d1, d2, d3, d4] => { results := [.lit (.bool false)], args := [d1, d2, d3, d4] }
  | _ => none }
def PadTrailWrongFalsely : Prop := padTrailRow.holds Try.pinned (OpenSpec.ofChange padTrailWrong)

/-- 'crossbarlaw03.PadFill': WHATEVER THE INPUT: true; the input reads as it did. -/
def padFillSpec : ChangeSpec := { name := "padFill", fn := fun _ => fun
  | [d] => { results := [.lit (.bool true)], args := [d] }
  | _ => none }
def padFillRow : OpenClaim := { program := "ytellclclpmofcaa", sum := "2f7c56cb0b55bd222c8ce30510306deeee192818d5575355ab2b2c43c70575a0", func := "crossbar/crossbarlaw03.PadFill", spec := "padFill", apart := false }
def PadFillSaid : Prop := padFillRow.holds Try.pinned (OpenSpec.ofChange padFillSpec)

/-- ITS FALSE NEIGHBOUR: 'it returns false'. Refute it at one input. -/
def padFillWrong : ChangeSpec := { name := "padFill", fn := fun _ => fun
  | [d] => { results := [.lit (.bool false)], args := [d] }
  | _ => none }
def PadFillWrongFalsely : Prop := padFillRow.holds Try.pinned (OpenSpec.ofChange padFillWrong)

/-- 'crossbarlaw11.TrainRight': WHATEVER THE INPUT: true; the input reads as it did. -/
def trainRightSpec : ChangeSpec := { name := "trainRight", fn := fun _ => fun
  | [d1, d2, d3, d4, d5] => { results := [.lit (.bool true)], args := [d1, d2, d3, d4, d5] }
  | _ => none }
def trainRightRow : OpenClaim := { program := "ytellclclpmofcaa", sum := "2f7c56cb0b55bd222c8ce30510306deeee192818d5575355ab2b2c43c70575a0", func := "crossbar/crossbarlaw11.TrainRight", spec := "trainRight", apart := false }
def TrainRightSaid : Prop := trainRightRow.holds Try.pinned (OpenSpec.ofChange trainRightSpec)

/-- ITS FALSE NEIGHBOUR: 'it returns false'. Refute it at one input. -/
def trainRightWrong : ChangeSpec := { name := "trainRight", fn := fun _ => fun
  | [d1, d2, d3, d4, d5] => { results := [.lit (.bool false)], args := [d1, d2, d3, d4, d5] }
  | _ => none }
def TrainRightWrongFalsely : Prop := trainRightRow.holds Try.pinned (OpenSpec.ofChange trainRightWrong)

/-- 'crossbarlaw11.TrainBack': WHATEVER THE INPUT: true; the input reads as it did. -/
def trainBackSpec : ChangeSpec := { name := "trainBack", fn := fun _ => fun
  | [d1, d2, d3, d4, d5] => { results := [.lit (.bool true)], args := [d1, d2, d3, d4, d5] }
  | _ => none }
def trainBackRow : OpenClaim := { program := "ytellclclpmofcaa", sum := "2f7c56cb0b55bd222c8ce30510306deeee192818d5575355ab2b2c43c70575a0", func := "crossbar/crossbarlaw11.TrainBack", spec := "trainBack", apart := false }
def TrainBackSaid : Prop := trainBackRow.holds Try.pinned (OpenSpec.ofChange trainBackSpec)

/-- ITS FALSE NEIGHBOUR: 'it returns false'. Refute it at one input. -/
def trainBackWrong : ChangeSpec := { name := "trainBack", fn := fun _ => fun
  | [d1, d2, d3, d4, d5] => { results := [.lit (.bool false)], args := [d1, d2, d3, d4, d5] }
  | _ => none }
def TrainBackWrongFalsely : Prop := trainBackRow.holds Try.pinned (OpenSpec.ofChange trainBackWrong)

/-- 'crossbarlaw11.TrainSplits': WHATEVER THE INPUT: true; the input reads as it did. -/
def trainSplitsSpec : ChangeSpec := { name := "trainSplits", fn := fun _ => fun
  | [d1, d2, d3, d4, d5, d6] => { results := [.lit (.bool true)], args := [d1, d2, d3, d4, d5, d6] }
  | _ => none }
def trainSplitsRow : OpenClaim := { program := "ytellclclpmofcaa", sum := "2f7c56cb0b55bd222c8ce30510306deeee192818d5575355ab2b2c43c70575a0", func := "crossbar/crossbarlaw11.TrainSplits", spec := "trainSplits", apart := false }
def TrainSplitsSaid : Prop := trainSplitsRow.holds Try.pinned (OpenSpec.ofChange trainSplitsSpec)

/-- ITS FALSE NEIGHBOUR: 'it returns false'. Refute it at one input. -/
def trainSplitsWrong : ChangeSpec := { name := "trainSplits", fn := fun _ => fun
  | [d1, d2, d3, d4, d5, d6] => { results := [.lit (.bool false)], args := [d1, d2, d3, d4, d5, d6] }
  | _ => none }
def TrainSplitsWrongFalsely : Prop := trainSplitsRow.holds Try.pinned (OpenSpec.ofChange trainSplitsWrong)

/-- 'crossbarlaw02.BitsRight': WHATEVER THE INPUT: true; the input reads as it did. -/
def bitsRightSpec : ChangeSpec := { name := "bitsRight", fn := fun _ => fun
  | [d1, d2, d3, d4, d5] => { results := [.lit (.bool true)], args := [d1, d2, d3, d4, d5] }
  | _ => none }
def bitsRightRow : OpenClaim := { program := "ytellclclpmofcaa", sum := "2f7c56cb0b55bd222c8ce30510306deeee192818d5575355ab2b2c43c70575a0", func := "crossbar/crossbarlaw02.BitsRight", spec := "bitsRight", apart := false }
def BitsRightSaid : Prop := bitsRightRow.holds Try.pinned (OpenSpec.ofChange bitsRightSpec)

/-- ITS FALSE NEIGHBOUR: 'it returns false'. Refute it at one input. -/
def bitsRightWrong : ChangeSpec := { name := "bitsRight", fn := fun _ => fun
  | [d1, d2, d3, d4, d5] => { results := [.lit (.bool false)], args := [d1, d2, d3, d4, d5] }
  | _ => none }
def BitsRightWrongFalsely : Prop := bitsRightRow.holds Try.pinned (OpenSpec.ofChange bitsRightWrong)

/-- 'crossbarlaw02.BitsBack': WHATEVER THE INPUT: true; the input reads as it did. -/
def bitsBackSpec : ChangeSpec := { name := "bitsBack", fn := fun _ => fun
  | [d1, d2, d3] => { results := [.lit (.bool true)], args := [d1, d2, d3] }
  | _ => none }
def bitsBackRow : OpenClaim := { program := "ytellclclpmofcaa", sum := "2f7c56cb0b55bd222c8ce30510306deeee192818d5575355ab2b2c43c70575a0", func := "crossbar/crossbarlaw02.BitsBack", spec := "bitsBack", apart := false }
def BitsBackSaid : Prop := bitsBackRow.holds Try.pinned (OpenSpec.ofChange bitsBackSpec)

/-- ITS FALSE NEIGHBOUR: 'it returns false'. Refute it at one input. -/
def bitsBackWrong : ChangeSpec := { name := "bitsBack", fn := fun _ => fun
  | [d1, d2, d3] => { results := [.lit (.bool false)], args := [d1, d2, d3] }
  | _ => none }
def BitsBackWrongFalsely : Prop := bitsBackRow.holds Try.pinned (OpenSpec.ofChange bitsBackWrong)

/-- 'crossbarlaw02.BitsParts': WHATEVER THE INPUT: true; the input reads as it did. -/
def bitsPartsSpec : ChangeSpec := { name := "bitsParts", fn := fun _ => fun
  | [d1, d2, d3, d4, d5] => { results := [.lit (.bool true)], args := [d1, d2, d3, d4, d5] }
  | _ => none }
def bitsPartsRow : OpenClaim := { program := "ytellclclpmofcaa", sum := "2f7c56cb0b55bd222c8ce30510306deeee192818d5575355ab2b2c43c70575a0", func := "crossbar/crossbarlaw02.BitsParts", spec := "bitsParts", apart := false }
def BitsPartsSaid : Prop := bitsPartsRow.holds Try.pinned (OpenSpec.ofChange bitsPartsSpec)

/-- ITS FALSE NEIGHBOUR: 'it returns false'. Refute it at one input. -/
def bitsPartsWrong : ChangeSpec := { name := "bitsParts", fn := fun _ => fun
  | [d1, d2, d3, d4, d5] => { results := [.lit (.bool false)], args := [d1, d2, d3, d4, d5] }
  | _ => none }
def BitsPartsWrongFalsely : Prop := bitsPartsRow.holds Try.pinned (OpenSpec.ofChange bitsPartsWrong)

/-- 'crossbarlaw02.BitsRange': WHATEVER THE INPUT: true; the input reads as it did. -/
def bitsRangeSpec : ChangeSpec := { name := "bitsRange", fn := fun _ => fun
  | [d] => { results := [.lit (.bool true)], args := [d] }
  | _ => none }
def bitsRangeRow : OpenClaim := { program := "ytellclclpmofcaa", sum := "2f7c56cb0b55bd222c8ce30510306deeee192818d5575355ab2b2c43c70575a0", func := "crossbar/crossbarlaw02.BitsRange", spec := "bitsRange", apart := false }
def BitsRangeSaid : Prop := bitsRangeRow.holds Try.pinned (OpenSpec.ofChange bitsRangeSpec)

/-- ITS FALSE NEIGHBOUR: 'it returns false'. Refute it at one input. -/
def bitsRangeWrong : ChangeSpec := { name := "bitsRange", fn := fun _ => fun
  | [d] => { results := [.lit (.bool false)], args := [d] }
  | _ => none }
def BitsRangeWrongFalsely : Prop := bitsRangeRow.holds Try.pinned (OpenSpec.ofChange bitsRangeWrong)

/- THE SECOND FORM. 'bulk': how many values and letters a reading holds, each counted each time it is reached (what is shared counts as often as it is met; a slice's spare places count too). A statement '..UptoSaid' is the law's where the arguments, and the package variables that the reading takes, are together of bulk at most 1048576: NARROWER than '..Said'. Prove '..Said' where nothing that the law and all that it calls make is longer than what came in: it says more and counts as full. Else prove '..UptoSaid'. A law counts once. -/
mutual
def uptoBulk {H : Type} : DataW H → Nat
  | .lit (.string bytes) => bytes.length + 1
  | .lit _ => 1
  | .nil => 1
  | .ptr d => uptoBulk d + 1
  | .slice elems spare => uptoBulkAll elems + uptoBulkAll spare + 1
  | .agg parts => uptoBulkAll parts + 1
  | .iface _ d => uptoBulk d + 1
  | .map entries => uptoBulkEntries entries + 1
  | .held _ => 1
def uptoBulkAll {H : Type} : List (DataW H) → Nat
  | [] => 0
  | d :: r => uptoBulk d + uptoBulkAll r
def uptoBulkEntries {H : Type} : List (Lit × DataW H) → Nat
  | [] => 0
  | x :: r => uptoBulkEntry x + uptoBulkEntries r
def uptoBulkEntry {H : Type} : Lit × DataW H → Nat
  | (.string bytes, d) => bytes.length + uptoBulk d + 1
  | (_, d) => uptoBulk d + 1
 end
def uptoSmall : (H : Type) → List (DataW H) → Bool := fun _ ds => decide (uptoBulkAll ds ≤ 1048576)
def OpenSpec.upto (s : _root_.Go.ChangeSpec) : _root_.Go.OpenSpec := { _root_.Go.OpenSpec.ofChange s with cond := some uptoSmall }

/-- 'crossbarlaw10.CommonRight', WHERE WHAT IT READS IS OF BULK AT MOST 1048576: true; the input reads as it did. -/
def commonRightUptoRow : OpenClaim := { program := "ytellclclpmofcaa", sum := "2f7c56cb0b55bd222c8ce30510306deeee192818d5575355ab2b2c43c70575a0", func := "crossbar/crossbarlaw10.CommonRight", spec := "commonRight", apart := false, narrowed := true }
def CommonRightUptoSaid : Prop := commonRightUptoRow.holds Try.pinned (OpenSpec.upto commonRightSpec)

/-- 'crossbarlaw10.CommonBack', WHERE WHAT IT READS IS OF BULK AT MOST 1048576: true; the input reads as it did. -/
def commonBackUptoRow : OpenClaim := { program := "ytellclclpmofcaa", sum := "2f7c56cb0b55bd222c8ce30510306deeee192818d5575355ab2b2c43c70575a0", func := "crossbar/crossbarlaw10.CommonBack", spec := "commonBack", apart := false, narrowed := true }
def CommonBackUptoSaid : Prop := commonBackUptoRow.holds Try.pinned (OpenSpec.upto commonBackSpec)

/-- 'crossbarlaw03.PadRight', WHERE WHAT IT READS IS OF BULK AT MOST 1048576: true; the input reads as it did. -/
def padRightUptoRow : OpenClaim := { program := "ytellclclpmofcaa", sum := "2f7c56cb0b55bd222c8ce30510306deeee192818d5575355ab2b2c43c70575a0", func := "crossbar/crossbarlaw03.PadRight", spec := "padRight", apart := false, narrowed := true }
def PadRightUptoSaid : Prop := padRightUptoRow.holds Try.pinned (OpenSpec.upto padRightSpec)

/-- 'crossbarlaw03.PadTrail', WHERE WHAT IT READS IS OF BULK AT MOST 1048576: true; the input reads as it did. -/
def padTrailUptoRow : OpenClaim := { program := "ytellclclpmofcaa", sum := "2f7c56cb0b55bd222c8ce30510306deeee192818d5575355ab2b2c43c70575a0", func := "crossbar/crossbarlaw03.PadTrail", spec := "padTrail", apart := false, narrowed := true }
def PadTrailUptoSaid : Prop := padTrailUptoRow.holds Try.pinned (OpenSpec.upto padTrailSpec)

/-- 'crossbarlaw03.PadFill', WHERE WHAT IT READS IS OF BULK AT MOST 1048576: true; the input reads as it did. -/
def padFillUptoRow : OpenClaim := { program := "ytellclclpmofcaa", sum := "2f7c56cb0b55bd222c8ce30510306deeee192818d5575355ab2b2c43c70575a0", func := "crossbar/crossbarlaw03.PadFill", spec := "padFill", apart := false, narrowed := true }
def PadFillUptoSaid : Prop := padFillUptoRow.holds Try.pinned (OpenSpec.upto padFillSpec)

/-- 'crossbarlaw11.TrainRight', WHERE WHAT IT READS IS OF BULK AT MOST 1048576: true; the input reads as it did. -/
def trainRightUptoRow : OpenClaim := { program := "ytellclclpmofcaa", sum := "2f7c56cb0b55bd222c8ce30510306deeee192818d5575355ab2b2c43c70575a0", func := "crossbar/crossbarlaw11.TrainRight", spec := "trainRight", apart := false, narrowed := true }
def TrainRightUptoSaid : Prop := trainRightUptoRow.holds Try.pinned (OpenSpec.upto trainRightSpec)

/-- 'crossbarlaw11.TrainBack', WHERE WHAT IT READS IS OF BULK AT MOST 1048576: true; the input reads as it did. -/
def trainBackUptoRow : OpenClaim := { program := "ytellclclpmofcaa", sum := "2f7c56cb0b55bd222c8ce30510306deeee192818d5575355ab2b2c43c70575a0", func := "crossbar/crossbarlaw11.TrainBack", spec := "trainBack", apart := false, narrowed := true }
def TrainBackUptoSaid : Prop := trainBackUptoRow.holds Try.pinned (OpenSpec.upto trainBackSpec)

/-- 'crossbarlaw11.TrainSplits', WHERE WHAT IT READS IS OF BULK AT MOST 1048576: true; the input reads as it did. -/
def trainSplitsUptoRow : OpenClaim := { program := "ytellclclpmofcaa", sum := "2f7c56cb0b55bd222c8ce30510306deeee192818d5575355ab2b2c43c70575a0", func := "crossbar/crossbarlaw11.TrainSplits", spec := "trainSplits", apart := false, narrowed := true }
def TrainSplitsUptoSaid : Prop := trainSplitsUptoRow.holds Try.pinned (OpenSpec.upto trainSplitsSpec)

/-- 'crossbarlaw02.BitsRight', WHERE WHAT IT READS IS OF BULK AT MOST 1048576: true; the input reads as it did. -/
def bitsRightUptoRow : OpenClaim := { program := "ytellclclpmofcaa", sum := "2f7c56cb0b55bd222c8ce30510306deeee192818d5575355ab2b2c43c70575a0", func := "crossbar/crossbarlaw02.BitsRight", spec := "bitsRight", apart := false, narrowed := true }
def BitsRightUptoSaid : Prop := bitsRightUptoRow.holds Try.pinned (OpenSpec.upto bitsRightSpec)

/-- 'crossbarlaw02.BitsBack', WHERE WHAT IT READS IS OF BULK AT MOST 1048576: true; the input reads as it did. -/
def bitsBackUptoRow : OpenClaim := { program := "ytellclclpmofcaa", sum := "2f7c56cb0b55bd222c8ce30510306deeee192818d5575355ab2b2c43c70575a0", func := "crossbar/crossbarlaw02.BitsBack", spec := "bitsBack", apart := false, narrowed := true }
def BitsBackUptoSaid : Prop := bitsBackUptoRow.holds Try.pinned (OpenSpec.upto bitsBackSpec)

/-- 'crossbarlaw02.BitsParts', WHERE WHAT IT READS IS OF BULK AT MOST 1048576: true; the input reads as it did. -/
def bitsPartsUptoRow : OpenClaim := { program := "ytellclclpmofcaa", sum := "2f7c56cb0b55bd222c8ce30510306deeee192818d5575355ab2b2c43c70575a0", func := "crossbar/crossbarlaw02.BitsParts", spec := "bitsParts", apart := false, narrowed := true }
def BitsPartsUptoSaid : Prop := bitsPartsUptoRow.holds Try.pinned (OpenSpec.upto bitsPartsSpec)

/-- 'crossbarlaw02.BitsRange', WHERE WHAT IT READS IS OF BULK AT MOST 1048576: true; the input reads as it did. -/
def bitsRangeUptoRow : OpenClaim := { program := "ytellclclpmofcaa", sum := "2f7c56cb0b55bd222c8ce30510306deeee192818d5575355ab2b2c43c70575a0", func := "crossbar/crossbarlaw02.BitsRange", spec := "bitsRange", apart := false, narrowed := true }
def BitsRangeUptoSaid : Prop := bitsRangeUptoRow.holds Try.pinned (OpenSpec.upto bitsRangeSpec)

end Rows
end Go.Proofs.Ytellclclpmofcaa
