/-
  No cell of these rows narrows 'for every input' (looked for: loops, veiled, ifaces, maps, wideKeys, modest, calm, conditions, laid).
  DERIVED. THE GIVEN ROWS OF THIS SEAT. 14 by the template 'for every input the law returns true; each argument reads behind the call as it read before'; 0 by the template 'total and deterministic' (their statements: YtgnjaapjaglleaaTotals.lean).
  GIVEN WITH THE SEED: the statements are not yours to turn. If you find one false, say at which input.
  Laid BY PROGRAM, IN A SANDBOX (cutbox-rows.mjs): the forced cells as the released guide's own fill.sh prints them over the translation 69daa3afd26f8844… (all of the seat's roots in one cut). By AI agents, Wed Nov 11 2026. No macro, syntax, notation, axiom, sorry.
-/
import Derived.Test.YtgnjaapjaglleaaChecked
import GoSem.Claim
import GoSem.ClaimJoined
import GoSem.ClaimMapViews
import Derived.JoinedTies
import Derived.KernelRfl
namespace Go.Proofs.Ytgnjaapjaglleaa
/- THE CELL 'sum', in the pinned program and in every row, IS THE sha256 OF THE DUMP (.gsa) THAT YtgnjaapjaglleaaProg.lean LOADS. Nothing in Lean hashes anything: it is a label: what it is worth is what the hold of that sum in a sandbox is worth. -/
noncomputable def Try.pinned : Pinned := { name := "ytgnjaapjaglleaa", sum := "69daa3afd26f88445f3ffe714eca5874d97963cf3807ab2d0a36da68834c18b5", checked := Try.checked }
namespace Rows
def none {H : Type} : Left H := { results := [], args := [] }

/-- 'drayagelaw07.MeanBefores': WHATEVER THE INPUT: true; the input reads as it did. -/
def meanBeforesSpec : ChangeSpec := { name := "meanBefores", fn := fun _ => fun
  | [d1, d2] => { results := [.lit (.bool true)], args := [d1, d2] }
  | _ => none }
def meanBeforesRow : OpenClaim := { program := "ytgnjaapjaglleaa", sum := "69daa3afd26f88445f3ffe714eca5874d97963cf3807ab2d0a36da68834c18b5", func := "drayage/drayagelaw07.MeanBefores", spec := "meanBefores", unfollowed := true, recurses := true, apart := false }
def MeanBeforesSaid : Prop := meanBeforesRow.holds Try.pinned (OpenSpec.ofChange meanBeforesSpec)

/-- ITS FALSE NEIGHBOUR: 'it returns false'. Refute it at one input. -/
def meanBeforesWrong : ChangeSpec := { name := "meanBefores", fn := fun _ => fun
  | [d1, d2] => { results := [.lit (.bool false)], args := [d1, d2] }
  | _ => none }
def MeanBeforesWrongFalsely : Prop := meanBeforesRow.holds Try.pinned (OpenSpec.ofChange meanBeforesWrong)

/-- 'drayagelaw07.MeanMeans': WHATEVER THE INPUT: true; the input reads as it did. -/
def meanMeansSpec : ChangeSpec := { name := "meanMeans", fn := fun _ => fun
  | [d] => { results := [.lit (.bool true)], args := [d] }
  | _ => none }
def meanMeansRow : OpenClaim := { program := "ytgnjaapjaglleaa", sum := "69daa3afd26f88445f3ffe714eca5874d97963cf3807ab2d0a36da68834c18b5", func := "drayage/drayagelaw07.MeanMeans", spec := "meanMeans", unfollowed := true, recurses := true, apart := false }
def MeanMeansSaid : Prop := meanMeansRow.holds Try.pinned (OpenSpec.ofChange meanMeansSpec)

/-- ITS FALSE NEIGHBOUR: 'it returns false'. Refute it at one input. -/
def meanMeansWrong : ChangeSpec := { name := "meanMeans", fn := fun _ => fun
  | [d] => { results := [.lit (.bool false)], args := [d] }
  | _ => none }
def MeanMeansWrongFalsely : Prop := meanMeansRow.holds Try.pinned (OpenSpec.ofChange meanMeansWrong)

/-- 'drayagelaw07.MeanApart': WHATEVER THE INPUT: true; the input reads as it did. -/
def meanApartSpec : ChangeSpec := { name := "meanApart", fn := fun _ => fun
  | [d1, d2, d3] => { results := [.lit (.bool true)], args := [d1, d2, d3] }
  | _ => none }
def meanApartRow : OpenClaim := { program := "ytgnjaapjaglleaa", sum := "69daa3afd26f88445f3ffe714eca5874d97963cf3807ab2d0a36da68834c18b5", func := "drayage/drayagelaw07.MeanApart", spec := "meanApart", unfollowed := true, recurses := true, apart := false }
def MeanApartSaid : Prop := meanApartRow.holds Try.pinned (OpenSpec.ofChange meanApartSpec)

/-- ITS FALSE NEIGHBOUR: 'it returns false'. Refute it at one input. -/
def meanApartWrong : ChangeSpec := { name := "meanApart", fn := fun _ => fun
  | [d1, d2, d3] => { results := [.lit (.bool false)], args := [d1, d2, d3] }
  | _ => none }
def MeanApartWrongFalsely : Prop := meanApartRow.holds Try.pinned (OpenSpec.ofChange meanApartWrong)

/-- 'drayagelaw07.MeanTriangles': WHATEVER THE INPUT: true; the input reads as it did. -/
def meanTrianglesSpec : ChangeSpec := { name := "meanTriangles", fn := fun _ => fun
  | [d1, d2, d3] => { results := [.lit (.bool true)], args := [d1, d2, d3] }
  | _ => none }
def meanTrianglesRow : OpenClaim := { program := "ytgnjaapjaglleaa", sum := "69daa3afd26f88445f3ffe714eca5874d97963cf3807ab2d0a36da68834c18b5", func := "drayage/drayagelaw07.MeanTriangles", spec := "meanTriangles", unfollowed := true, recurses := true, apart := false }
def MeanTrianglesSaid : Prop := meanTrianglesRow.holds Try.pinned (OpenSpec.ofChange meanTrianglesSpec)

/-- ITS FALSE NEIGHBOUR: 'it returns false'. Refute it at one input. -/
def meanTrianglesWrong : ChangeSpec := { name := "meanTriangles", fn := fun _ => fun
  | [d1, d2, d3] => { results := [.lit (.bool false)], args := [d1, d2, d3] }
  | _ => none }
def MeanTrianglesWrongFalsely : Prop := meanTrianglesRow.holds Try.pinned (OpenSpec.ofChange meanTrianglesWrong)

/-- 'drayagelaw07.MeanNearest': WHATEVER THE INPUT: true; the input reads as it did. -/
def meanNearestSpec : ChangeSpec := { name := "meanNearest", fn := fun _ => fun
  | [d1, d2, d3] => { results := [.lit (.bool true)], args := [d1, d2, d3] }
  | _ => none }
def meanNearestRow : OpenClaim := { program := "ytgnjaapjaglleaa", sum := "69daa3afd26f88445f3ffe714eca5874d97963cf3807ab2d0a36da68834c18b5", func := "drayage/drayagelaw07.MeanNearest", spec := "meanNearest", unfollowed := true, recurses := true, apart := false }
def MeanNearestSaid : Prop := meanNearestRow.holds Try.pinned (OpenSpec.ofChange meanNearestSpec)

/-- ITS FALSE NEIGHBOUR: 'it returns false'. Refute it at one input. -/
def meanNearestWrong : ChangeSpec := { name := "meanNearest", fn := fun _ => fun
  | [d1, d2, d3] => { results := [.lit (.bool false)], args := [d1, d2, d3] }
  | _ => none }
def MeanNearestWrongFalsely : Prop := meanNearestRow.holds Try.pinned (OpenSpec.ofChange meanNearestWrong)

/-- 'drayagelaw07.MeanSums': WHATEVER THE INPUT: true; the input reads as it did. -/
def meanSumsSpec : ChangeSpec := { name := "meanSums", fn := fun _ => fun
  | [d1, d2, d3] => { results := [.lit (.bool true)], args := [d1, d2, d3] }
  | _ => none }
def meanSumsRow : OpenClaim := { program := "ytgnjaapjaglleaa", sum := "69daa3afd26f88445f3ffe714eca5874d97963cf3807ab2d0a36da68834c18b5", func := "drayage/drayagelaw07.MeanSums", spec := "meanSums", unfollowed := true, recurses := true, apart := false }
def MeanSumsSaid : Prop := meanSumsRow.holds Try.pinned (OpenSpec.ofChange meanSumsSpec)

/-- ITS FALSE NEIGHBOUR: 'it returns false'. Refute it at one input. -/
def meanSumsWrong : ChangeSpec := { name := "meanSums", fn := fun _ => fun
  | [d1, d2, d3] => { results := [.lit (.bool false)], args := [d1, d2, d3] }
  | _ => none }
def MeanSumsWrongFalsely : Prop := meanSumsRow.holds Try.pinned (OpenSpec.ofChange meanSumsWrong)

/-- 'drayagelaw07.MeanScales': WHATEVER THE INPUT: true; the input reads as it did. -/
def meanScalesSpec : ChangeSpec := { name := "meanScales", fn := fun _ => fun
  | [d1, d2, d3] => { results := [.lit (.bool true)], args := [d1, d2, d3] }
  | _ => none }
def meanScalesRow : OpenClaim := { program := "ytgnjaapjaglleaa", sum := "69daa3afd26f88445f3ffe714eca5874d97963cf3807ab2d0a36da68834c18b5", func := "drayage/drayagelaw07.MeanScales", spec := "meanScales", unfollowed := true, recurses := true, apart := false }
def MeanScalesSaid : Prop := meanScalesRow.holds Try.pinned (OpenSpec.ofChange meanScalesSpec)

/-- ITS FALSE NEIGHBOUR: 'it returns false'. Refute it at one input. -/
def meanScalesWrong : ChangeSpec := { name := "meanScales", fn := fun _ => fun
  | [d1, d2, d3] => { results := [.lit (.bool false)], args := [d1, d2, d3] }
  | _ => none }
def MeanScalesWrongFalsely : Prop := meanScalesRow.holds Try.pinned (OpenSpec.ofChange meanScalesWrong)

/-- 'drayagelaw07.MeanReaches': WHATEVER THE INPUT: true; the input reads as it did. -/
def meanReachesSpec : ChangeSpec := { name := "meanReaches", fn := fun _ => fun
  | [d] => { results := [.lit (.bool true)], args := [d] }
  | _ => none }
def meanReachesRow : OpenClaim := { program := "ytgnjaapjaglleaa", sum := "69daa3afd26f88445f3ffe714eca5874d97963cf3807ab2d0a36da68834c18b5", func := "drayage/drayagelaw07.MeanReaches", spec := "meanReaches", unfollowed := true, recurses := true, apart := false }
def MeanReachesSaid : Prop := meanReachesRow.holds Try.pinned (OpenSpec.ofChange meanReachesSpec)

/-- ITS FALSE NEIGHBOUR: 'it returns false'. Refute it at one input. -/
def meanReachesWrong : ChangeSpec := { name := "meanReaches", fn := fun _ => fun
  | [d] => { results := [.lit (.bool false)], args := [d] }
  | _ => none }
def MeanReachesWrongFalsely : Prop := meanReachesRow.holds Try.pinned (OpenSpec.ofChange meanReachesWrong)

/-- 'drayagelaw07.MeanBetweens': WHATEVER THE INPUT: true; the input reads as it did. -/
def meanBetweensSpec : ChangeSpec := { name := "meanBetweens", fn := fun _ => fun
  | [d1, d2, d3] => { results := [.lit (.bool true)], args := [d1, d2, d3] }
  | _ => none }
def meanBetweensRow : OpenClaim := { program := "ytgnjaapjaglleaa", sum := "69daa3afd26f88445f3ffe714eca5874d97963cf3807ab2d0a36da68834c18b5", func := "drayage/drayagelaw07.MeanBetweens", spec := "meanBetweens", unfollowed := true, recurses := true, apart := false }
def MeanBetweensSaid : Prop := meanBetweensRow.holds Try.pinned (OpenSpec.ofChange meanBetweensSpec)

/-- ITS FALSE NEIGHBOUR: 'it returns false'. Refute it at one input. -/
def meanBetweensWrong : ChangeSpec := { name := "meanBetweens", fn := fun _ => fun
  | [d1, d2, d3] => { results := [.lit (.bool false)], args := [d1, d2, d3] }
  | _ => none }
def MeanBetweensWrongFalsely : Prop := meanBetweensRow.holds Try.pinned (OpenSpec.ofChange meanBetweensWrong)

/-- 'drayagelaw07.MeanUnits': WHATEVER THE INPUT: true; the input reads as it did. -/
def meanUnitsSpec : ChangeSpec := { name := "meanUnits", fn := fun _ => fun
  | [d] => { results := [.lit (.bool true)], args := [d] }
  | _ => none }
def meanUnitsRow : OpenClaim := { program := "ytgnjaapjaglleaa", sum := "69daa3afd26f88445f3ffe714eca5874d97963cf3807ab2d0a36da68834c18b5", func := "drayage/drayagelaw07.MeanUnits", spec := "meanUnits", unfollowed := true, recurses := true, apart := false }
def MeanUnitsSaid : Prop := meanUnitsRow.holds Try.pinned (OpenSpec.ofChange meanUnitsSpec)

/-- ITS FALSE NEIGHBOUR: 'it returns false'. Refute it at one input. -/
def meanUnitsWrong : ChangeSpec := { name := "meanUnits", fn := fun _ => fun
  | [d] => { results := [.lit (.bool false)], args := [d] }
  | _ => none }
def MeanUnitsWrongFalsely : Prop := meanUnitsRow.holds Try.pinned (OpenSpec.ofChange meanUnitsWrong)

/-- 'drayagelaw07.MeanLists': WHATEVER THE INPUT: true; the input reads as it did. -/
def meanListsSpec : ChangeSpec := { name := "meanLists", fn := fun _ => fun
  | [d1, d2] => { results := [.lit (.bool true)], args := [d1, d2] }
  | _ => none }
def meanListsRow : OpenClaim := { program := "ytgnjaapjaglleaa", sum := "69daa3afd26f88445f3ffe714eca5874d97963cf3807ab2d0a36da68834c18b5", func := "drayage/drayagelaw07.MeanLists", spec := "meanLists", unfollowed := true, recurses := true, apart := false }
def MeanListsSaid : Prop := meanListsRow.holds Try.pinned (OpenSpec.ofChange meanListsSpec)

/-- ITS FALSE NEIGHBOUR: 'it returns false'. Refute it at one input. -/
def meanListsWrong : ChangeSpec := { name := "meanLists", fn := fun _ => fun
  | [d1, d2] => { results := [.lit (.bool false)], args := [d1, d2] }
  | _ => none }
def MeanListsWrongFalsely : Prop := meanListsRow.holds Try.pinned (OpenSpec.ofChange meanListsWrong)

/-- 'drayagelaw07.MeanBounds': WHATEVER THE INPUT: true; the input reads as it did. -/
def meanBoundsSpec : ChangeSpec := { name := "meanBounds", fn := fun _ => fun
  | [d] => { results := [.lit (.bool true)], args := [d] }
  | _ => none }
def meanBoundsRow : OpenClaim := { program := "ytgnjaapjaglleaa", sum := "69daa3afd26f88445f3ffe714eca5874d97963cf3807ab2d0a36da68834c18b5", func := "drayage/drayagelaw07.MeanBounds", spec := "meanBounds", unfollowed := true, recurses := true, apart := false }
def MeanBoundsSaid : Prop := meanBoundsRow.holds Try.pinned (OpenSpec.ofChange meanBoundsSpec)

/-- ITS FALSE NEIGHBOUR: 'it returns false'. Refute it at one input. -/
def meanBoundsWrong : ChangeSpec := { name := "meanBounds", fn := fun _ => fun
  | [d] => { results := [.lit (.bool false)], args := [d] }
  | _ => none }
def MeanBoundsWrongFalsely : Prop := meanBoundsRow.holds Try.pinned (OpenSpec.ofChange meanBoundsWrong)

/-- 'drayagelaw07.MeanMedians': WHATEVER THE INPUT: true; the input reads as it did. -/
def meanMediansSpec : ChangeSpec := { name := "meanMedians", fn := fun _ => fun
  | [d1, d2] => { results := [.lit (.bool true)], args := [d1, d2] }
  | _ => none }
def meanMediansRow : OpenClaim := { program := "ytgnjaapjaglleaa", sum := "69daa3afd26f88445f3ffe714eca5874d97963cf3807ab2d0a36da68834c18b5", func := "drayage/drayagelaw07.MeanMedians", spec := "meanMedians", unfollowed := true, recurses := true, apart := false }
def MeanMediansSaid : Prop := meanMediansRow.holds Try.pinned (OpenSpec.ofChange meanMediansSpec)

/-- ITS FALSE NEIGHBOUR: 'it returns false'. Refute it at one input. -/
def meanMediansWrong : ChangeSpec := { name := "meanMedians", fn := fun _ => fun
  | [d1, d2] => { results := [.lit (.bool false)], args := [d1, d2] }
  | _ => none }
def MeanMediansWrongFalsely : Prop := meanMediansRow.holds Try.pinned (OpenSpec.ofChange meanMediansWrong)

/-- 'drayagetop.TopMeans': WHATEVER THE INPUT: true; the input reads as it did. -/
def topMeansSpec : ChangeSpec := { name := "topMeans", fn := fun _ => fun
  | [d1, d2, d3] => { results := [.lit (.bool true)], args := [d1, d2, d3] }
  | _ => none }
def topMeansRow : OpenClaim := { program := "ytgnjaapjaglleaa", sum := "69daa3afd26f88445f3ffe714eca5874d97963cf3807ab2d0a36da68834c18b5", func := "drayage/drayagetop.TopMeans", spec := "topMeans", unfollowed := true, recurses := true, apart := false }
def TopMeansSaid : Prop := topMeansRow.holds Try.pinned (OpenSpec.ofChange topMeansSpec)

/-- ITS FALSE NEIGHBOUR: 'it returns false'. Refute it at one input. -/
def topMeansWrong : ChangeSpec := { name := "topMeans", fn := fun _ => fun
  | [d1, d2, d3] => { results := [.lit (.bool false)], args := [d1, d2, d3] }
  | _ => none }
def TopMeansWrongFalsely : Prop := topMeansRow.holds Try.pinned (OpenSpec.ofChange topMeansWrong)

/- THE SECOND FORM. 'bulk': how many values and letters a reading holds, each counted each time it is reached (what is shared counts as often as it is met; a slice's spare places count too). A statement '..UptoSaid' is the law's where the arguments, and the package variables that the reading takes, are together of bulk at most 1048576: NARROWER than '..Said'. Prove '..Said' where nothing that the law and all that it calls make is longer than what came in: it says more and counts as full. Else prove '..UptoSaid'. A law counts once. -/
mutual
def uptoBulk {H : Type} : DataW H → Nat
  | .lit (.string bytes) => bytes.length + 1
  | .lit _ => 1
  | .nil => 1
  | .ptr d => uptoBulk d + 1
  | .slice elems spare => uptoBulkAll elems + uptoBulkAll spare + 1
  | .agg parts => uptoBulkAll parts + 1
  | .iface _ d => uptoBulk d + 1
  | .map entries => uptoBulkEntries entries + 1
  | .held _ => 1
def uptoBulkAll {H : Type} : List (DataW H) → Nat
  | [] => 0
  | d :: r => uptoBulk d + uptoBulkAll r
def uptoBulkEntries {H : Type} : List (Lit × DataW H) → Nat
  | [] => 0
  | x :: r => uptoBulkEntry x + uptoBulkEntries r
def uptoBulkEntry {H : Type} : Lit × DataW H → Nat
  | (.string bytes, d) => bytes.length + uptoBulk d + 1
  | (_, d) => uptoBulk d + 1
 end
def uptoSmall : (H : Type) → List (DataW H) → Bool := fun _ ds => decide (uptoBulkAll ds ≤ 1048576)
def OpenSpec.upto (s : _root_.Go.ChangeSpec) : _root_.Go.OpenSpec := { _root_.Go.OpenSpec.ofChange s with cond := some uptoSmall }

/-- 'drayagelaw07.MeanBefores', WHERE WHAT IT READS IS OF BULK AT MOST 1048576: true; the input reads as it did. -/
def meanBeforesUptoRow : OpenClaim := { program := "ytgnjaapjaglleaa", sum := "69daa3afd26f88445f3ffe714eca5874d97963cf3807ab2d0a36da68834c18b5", func := "drayage/drayagelaw07.MeanBefores", spec := "meanBefores", unfollowed := true, recurses := true, apart := false, narrowed := true }
def MeanBeforesUptoSaid : Prop := meanBeforesUptoRow.holds Try.pinned (OpenSpec.upto meanBeforesSpec)

/-- 'drayagelaw07.MeanMeans', WHERE WHAT IT READS IS OF BULK AT MOST 1048576: true; the input reads as it did. -/
def meanMeansUptoRow : OpenClaim := { program := "ytgnjaapjaglleaa", sum := "69daa3afd26f88445f3ffe714eca5874d97963cf3807ab2d0a36da68834c18b5", func := "drayage/drayagelaw07.MeanMeans", spec := "meanMeans", unfollowed := true, recurses := true, apart := false, narrowed := true }
def MeanMeansUptoSaid : Prop := meanMeansUptoRow.holds Try.pinned (OpenSpec.upto meanMeansSpec)

/-- 'drayagelaw07.MeanApart', WHERE WHAT IT READS IS OF BULK AT MOST 1048576: true; the input reads as it did. -/
def meanApartUptoRow : OpenClaim := { program := "ytgnjaapjaglleaa", sum := "69daa3afd26f88445f3ffe714eca5874d97963cf3807ab2d0a36da68834c18b5", func := "drayage/drayagelaw07.MeanApart", spec := "meanApart", unfollowed := true, recurses := true, apart := false, narrowed := true }
def MeanApartUptoSaid : Prop := meanApartUptoRow.holds Try.pinned (OpenSpec.upto meanApartSpec)

/-- 'drayagelaw07.MeanTriangles', WHERE WHAT IT READS IS OF BULK AT MOST 1048576: true; the input reads as it did. -/
def meanTrianglesUptoRow : OpenClaim := { program := "ytgnjaapjaglleaa", sum := "69daa3afd26f88445f3ffe714eca5874d97963cf3807ab2d0a36da68834c18b5", func := "drayage/drayagelaw07.MeanTriangles", spec := "meanTriangles", unfollowed := true, recurses := true, apart := false, narrowed := true }
def MeanTrianglesUptoSaid : Prop := meanTrianglesUptoRow.holds Try.pinned (OpenSpec.upto meanTrianglesSpec)

/-- 'drayagelaw07.MeanNearest', WHERE WHAT IT READS IS OF BULK AT MOST 1048576: true; the input reads as it did. -/
def meanNearestUptoRow : OpenClaim := { program := "ytgnjaapjaglleaa", sum := "69daa3afd26f88445f3ffe714eca5874d97963cf3807ab2d0a36da68834c18b5", func := "drayage/drayagelaw07.MeanNearest", spec := "meanNearest", unfollowed := true, recurses := true, apart := false, narrowed := true }
def MeanNearestUptoSaid : Prop := meanNearestUptoRow.holds Try.pinned (OpenSpec.upto meanNearestSpec)

/-- 'drayagelaw07.MeanSums', WHERE WHAT IT READS IS OF BULK AT MOST 1048576: true; the input reads as it did. -/
def meanSumsUptoRow : OpenClaim := { program := "ytgnjaapjaglleaa", sum := "69daa3afd26f88445f3ffe714eca5874d97963cf3807ab2d0a36da68834c18b5", func := "drayage/drayagelaw07.MeanSums", spec := "meanSums", unfollowed := true, recurses := true, apart := false, narrowed := true }
def MeanSumsUptoSaid : Prop := meanSumsUptoRow.holds Try.pinned (OpenSpec.upto meanSumsSpec)

/-- 'drayagelaw07.MeanScales', WHERE WHAT IT READS IS OF BULK AT MOST 1048576: true; the input reads as it did. -/
def meanScalesUptoRow : OpenClaim := { program := "ytgnjaapjaglleaa", sum := "69daa3afd26f88445f3ffe714eca5874d97963cf3807ab2d0a36da68834c18b5", func := "drayage/drayagelaw07.MeanScales", spec := "meanScales", unfollowed := true, recurses := true, apart := false, narrowed := true }
def MeanScalesUptoSaid : Prop := meanScalesUptoRow.holds Try.pinned (OpenSpec.upto meanScalesSpec)

/-- 'drayagelaw07.MeanReaches', WHERE WHAT IT READS IS OF BULK AT MOST 1048576: true; the input reads as it did. -/
def meanReachesUptoRow : OpenClaim := { program := "ytgnjaapjaglleaa", sum := "69daa3afd26f88445f3ffe714eca5874d97963cf3807ab2d0a36da68834c18b5", func := "drayage/drayagelaw07.MeanReaches", spec := "meanReaches", unfollowed := true, recurses := true, apart := false, narrowed := true }
def MeanReachesUptoSaid : Prop := meanReachesUptoRow.holds Try.pinned (OpenSpec.upto meanReachesSpec)

/-- 'drayagelaw07.MeanBetweens', WHERE WHAT IT READS IS OF BULK AT MOST 1048576: true; the input reads as it did. -/
def meanBetweensUptoRow : OpenClaim := { program := "ytgnjaapjaglleaa", sum := "69daa3afd26f88445f3ffe714eca5874d97963cf3807ab2d0a36da68834c18b5", func := "drayage/drayagelaw07.MeanBetweens", spec := "meanBetweens", unfollowed := true, recurses := true, apart := false, narrowed := true }
def MeanBetweensUptoSaid : Prop := meanBetweensUptoRow.holds Try.pinned (OpenSpec.upto meanBetweensSpec)

/-- 'drayagelaw07.MeanUnits', WHERE WHAT IT READS IS OF BULK AT MOST 1048576: true; the input reads as it did. -/
def meanUnitsUptoRow : OpenClaim := { program := "ytgnjaapjaglleaa", sum := "69daa3afd26f88445f3ffe714eca5874d97963cf3807ab2d0a36da68834c18b5", func := "drayage/drayagelaw07.MeanUnits", spec := "meanUnits", unfollowed := true, recurses := true, apart := false, narrowed := true }
def MeanUnitsUptoSaid : Prop := meanUnitsUptoRow.holds Try.pinned (OpenSpec.upto meanUnitsSpec)

/-- 'drayagelaw07.MeanLists', WHERE WHAT IT READS IS OF BULK AT MOST 1048576: true; the input reads as it did. -/
def meanListsUptoRow : OpenClaim := { program := "ytgnjaapjaglleaa", sum := "69daa3afd26f88445f3ffe714eca5874d97963cf3807ab2d0a36da68834c18b5", func := "drayage/drayagelaw07.MeanLists", spec := "meanLists", unfollowed := true, recurses := true, apart := false, narrowed := true }
def MeanListsUptoSaid : Prop := meanListsUptoRow.holds Try.pinned (OpenSpec.upto meanListsSpec)

/-- 'drayagelaw07.MeanBounds', WHERE WHAT IT READS IS OF BULK AT MOST 1048576: true; the input reads as it did. -/
def meanBoundsUptoRow : OpenClaim := { program := "ytgnjaapjaglleaa", sum := "69daa3afd26f88445f3ffe714eca5874d97963cf3807ab2d0a36da68834c18b5", func := "drayage/drayagelaw07.MeanBounds", spec := "meanBounds", unfollowed := true, recurses := true, apart := false, narrowed := true }
def MeanBoundsUptoSaid : Prop := meanBoundsUptoRow.holds Try.pinned (OpenSpec.upto meanBoundsSpec)

/-- 'drayagelaw07.MeanMedians', WHERE WHAT IT READS IS OF BULK AT MOST 1048576: true; the input reads as it did. -/
def meanMediansUptoRow : OpenClaim := { program := "ytgnjaapjaglleaa", sum := "69daa3afd26f88445f3ffe714eca5874d97963cf3807ab2d0a36da68834c18b5", func := "drayage/drayagelaw07.MeanMedians", spec := "meanMedians", unfollowed := true, recurses := true, apart := false, narrowed := true }
def MeanMediansUptoSaid : Prop := meanMediansUptoRow.holds Try.pinned (OpenSpec.upto meanMediansSpec)

/-- 'drayagetop.TopMeans', WHERE WHAT IT READS IS OF BULK AT MOST 1048576: true; the input reads as it did. -/
def topMeansUptoRow : OpenClaim := { program := "ytgnjaapjaglleaa", sum := "69daa3afd26f88445f3ffe714eca5874d97963cf3807ab2d0a36da68834c18b5", func := "drayage/drayagetop.TopMeans", spec := "topMeans", unfollowed := true, recurses := true, apart := false, narrowed := true }
def TopMeansUptoSaid : Prop := topMeansUptoRow.holds Try.pinned (OpenSpec.upto topMeansSpec)

end Rows
end Go.Proofs.Ytgnjaapjaglleaa
