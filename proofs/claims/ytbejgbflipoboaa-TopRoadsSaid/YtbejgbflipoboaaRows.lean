/-
  No cell of these rows narrows 'for every input' (looked for: loops, veiled, ifaces, maps, wideKeys, modest, calm, conditions, laid).
  DERIVED. THE GIVEN ROWS OF THIS SEAT. 14 by the template 'for every input the law returns true; each argument reads behind the call as it read before'; 0 by the template 'total and deterministic' (their statements: YtbejgbflipoboaaTotals.lean).
  GIVEN WITH THE SEED: the statements are not yours to turn. If you find one false, say at which input.
  Laid BY PROGRAM, IN A SANDBOX (cutbox-rows.mjs): the forced cells as the released guide's own fill.sh prints them over the translation 81b053e5aa37daf2… (all of the seat's roots in one cut). By AI agents, Wed Nov 11 2026. No macro, syntax, notation, axiom, sorry.
-/
import Derived.Test.YtbejgbflipoboaaChecked
import GoSem.Claim
import GoSem.ClaimJoined
import GoSem.ClaimMapViews
import Derived.JoinedTies
import Derived.KernelRfl
namespace Go.Proofs.Ytbejgbflipoboaa
/- THE CELL 'sum', in the pinned program and in every row, IS THE sha256 OF THE DUMP (.gsa) THAT YtbejgbflipoboaaProg.lean LOADS. Nothing in Lean hashes anything: it is a label: what it is worth is what the hold of that sum in a sandbox is worth. -/
noncomputable def Try.pinned : Pinned := { name := "ytbejgbflipoboaa", sum := "81b053e5aa37daf211575616354865df3844933a99b785c3ecadf218974519a0", checked := Try.checked }
namespace Rows
def none {H : Type} : Left H := { results := [], args := [] }

/-- 'drayagelaw03.RoadFlows': WHATEVER THE INPUT: true; the input reads as it did. -/
def roadFlowsSpec : ChangeSpec := { name := "roadFlows", fn := fun _ => fun
  | [d1, d2] => { results := [.lit (.bool true)], args := [d1, d2] }
  | _ => none }
def roadFlowsRow : OpenClaim := { program := "ytbejgbflipoboaa", sum := "81b053e5aa37daf211575616354865df3844933a99b785c3ecadf218974519a0", func := "drayage/drayagelaw03.RoadFlows", spec := "roadFlows", unfollowed := true, recurses := true, apart := false }
def RoadFlowsSaid : Prop := roadFlowsRow.holds Try.pinned (OpenSpec.ofChange roadFlowsSpec)

/-- ITS FALSE NEIGHBOUR: 'it returns false'. Refute it at one input. -/
def roadFlowsWrong : ChangeSpec := { name := "roadFlows", fn := fun _ => fun
  | [d1, d2] => { results := [.lit (.bool false)], args := [d1, d2] }
  | _ => none }
def RoadFlowsWrongFalsely : Prop := roadFlowsRow.holds Try.pinned (OpenSpec.ofChange roadFlowsWrong)

/-- 'drayagelaw03.RoadLeast': WHATEVER THE INPUT: true; the input reads as it did. -/
def roadLeastSpec : ChangeSpec := { name := "roadLeast", fn := fun _ => fun
  | [d] => { results := [.lit (.bool true)], args := [d] }
  | _ => none }
def roadLeastRow : OpenClaim := { program := "ytbejgbflipoboaa", sum := "81b053e5aa37daf211575616354865df3844933a99b785c3ecadf218974519a0", func := "drayage/drayagelaw03.RoadLeast", spec := "roadLeast", unfollowed := true, recurses := true, apart := false }
def RoadLeastSaid : Prop := roadLeastRow.holds Try.pinned (OpenSpec.ofChange roadLeastSpec)

/-- ITS FALSE NEIGHBOUR: 'it returns false'. Refute it at one input. -/
def roadLeastWrong : ChangeSpec := { name := "roadLeast", fn := fun _ => fun
  | [d] => { results := [.lit (.bool false)], args := [d] }
  | _ => none }
def RoadLeastWrongFalsely : Prop := roadLeastRow.holds Try.pinned (OpenSpec.ofChange roadLeastWrong)

/-- 'drayagelaw03.RoadExists': WHATEVER THE INPUT: true; the input reads as it did. -/
def roadExistsSpec : ChangeSpec := { name := "roadExists", fn := fun _ => fun
  | [d] => { results := [.lit (.bool true)], args := [d] }
  | _ => none }
def roadExistsRow : OpenClaim := { program := "ytbejgbflipoboaa", sum := "81b053e5aa37daf211575616354865df3844933a99b785c3ecadf218974519a0", func := "drayage/drayagelaw03.RoadExists", spec := "roadExists", unfollowed := true, recurses := true, apart := false }
def RoadExistsSaid : Prop := roadExistsRow.holds Try.pinned (OpenSpec.ofChange roadExistsSpec)

/-- ITS FALSE NEIGHBOUR: 'it returns false'. Refute it at one input. -/
def roadExistsWrong : ChangeSpec := { name := "roadExists", fn := fun _ => fun
  | [d] => { results := [.lit (.bool false)], args := [d] }
  | _ => none }
def RoadExistsWrongFalsely : Prop := roadExistsRow.holds Try.pinned (OpenSpec.ofChange roadExistsWrong)

/-- 'drayagelaw03.RoadExcesses': WHATEVER THE INPUT: true; the input reads as it did. -/
def roadExcessesSpec : ChangeSpec := { name := "roadExcesses", fn := fun _ => fun
  | [d1, d2] => { results := [.lit (.bool true)], args := [d1, d2] }
  | _ => none }
def roadExcessesRow : OpenClaim := { program := "ytbejgbflipoboaa", sum := "81b053e5aa37daf211575616354865df3844933a99b785c3ecadf218974519a0", func := "drayage/drayagelaw03.RoadExcesses", spec := "roadExcesses", unfollowed := true, recurses := true, apart := false }
def RoadExcessesSaid : Prop := roadExcessesRow.holds Try.pinned (OpenSpec.ofChange roadExcessesSpec)

/-- ITS FALSE NEIGHBOUR: 'it returns false'. Refute it at one input. -/
def roadExcessesWrong : ChangeSpec := { name := "roadExcesses", fn := fun _ => fun
  | [d1, d2] => { results := [.lit (.bool false)], args := [d1, d2] }
  | _ => none }
def RoadExcessesWrongFalsely : Prop := roadExcessesRow.holds Try.pinned (OpenSpec.ofChange roadExcessesWrong)

/-- 'drayagelaw03.RoadReverses': WHATEVER THE INPUT: true; the input reads as it did. -/
def roadReversesSpec : ChangeSpec := { name := "roadReverses", fn := fun _ => fun
  | [d] => { results := [.lit (.bool true)], args := [d] }
  | _ => none }
def roadReversesRow : OpenClaim := { program := "ytbejgbflipoboaa", sum := "81b053e5aa37daf211575616354865df3844933a99b785c3ecadf218974519a0", func := "drayage/drayagelaw03.RoadReverses", spec := "roadReverses", unfollowed := true, recurses := true, apart := false }
def RoadReversesSaid : Prop := roadReversesRow.holds Try.pinned (OpenSpec.ofChange roadReversesSpec)

/-- ITS FALSE NEIGHBOUR: 'it returns false'. Refute it at one input. -/
def roadReversesWrong : ChangeSpec := { name := "roadReverses", fn := fun _ => fun
  | [d] => { results := [.lit (.bool false)], args := [d] }
  | _ => none }
def RoadReversesWrongFalsely : Prop := roadReversesRow.holds Try.pinned (OpenSpec.ofChange roadReversesWrong)

/-- 'drayagelaw03.RoadProves': WHATEVER THE INPUT: true; the input reads as it did. -/
def roadProvesSpec : ChangeSpec := { name := "roadProves", fn := fun _ => fun
  | [d1, d2, d3] => { results := [.lit (.bool true)], args := [d1, d2, d3] }
  | _ => none }
def roadProvesRow : OpenClaim := { program := "ytbejgbflipoboaa", sum := "81b053e5aa37daf211575616354865df3844933a99b785c3ecadf218974519a0", func := "drayage/drayagelaw03.RoadProves", spec := "roadProves", unfollowed := true, recurses := true, apart := false }
def RoadProvesSaid : Prop := roadProvesRow.holds Try.pinned (OpenSpec.ofChange roadProvesSpec)

/-- ITS FALSE NEIGHBOUR: 'it returns false'. Refute it at one input. -/
def roadProvesWrong : ChangeSpec := { name := "roadProves", fn := fun _ => fun
  | [d1, d2, d3] => { results := [.lit (.bool false)], args := [d1, d2, d3] }
  | _ => none }
def RoadProvesWrongFalsely : Prop := roadProvesRow.holds Try.pinned (OpenSpec.ofChange roadProvesWrong)

/-- 'drayagetop.TopRoads': WHATEVER THE INPUT: true; the input reads as it did. -/
def topRoadsSpec : ChangeSpec := { name := "topRoads", fn := fun _ => fun
  | [d1, d2] => { results := [.lit (.bool true)], args := [d1, d2] }
  | _ => none }
def topRoadsRow : OpenClaim := { program := "ytbejgbflipoboaa", sum := "81b053e5aa37daf211575616354865df3844933a99b785c3ecadf218974519a0", func := "drayage/drayagetop.TopRoads", spec := "topRoads", unfollowed := true, recurses := true, apart := false }
def TopRoadsSaid : Prop := topRoadsRow.holds Try.pinned (OpenSpec.ofChange topRoadsSpec)

/-- ITS FALSE NEIGHBOUR: 'it returns false'. Refute it at one input. -/
def topRoadsWrong : ChangeSpec := { name := "topRoads", fn := fun _ => fun
  | [d1, d2] => { results := [.lit (.bool false)], args := [d1, d2] }
  | _ => none }
def TopRoadsWrongFalsely : Prop := topRoadsRow.holds Try.pinned (OpenSpec.ofChange topRoadsWrong)

/-- 'drayagelaw03.RoadPrices': WHATEVER THE INPUT: true; the input reads as it did. -/
def roadPricesSpec : ChangeSpec := { name := "roadPrices", fn := fun _ => fun
  | [d] => { results := [.lit (.bool true)], args := [d] }
  | _ => none }
def roadPricesRow : OpenClaim := { program := "ytbejgbflipoboaa", sum := "81b053e5aa37daf211575616354865df3844933a99b785c3ecadf218974519a0", func := "drayage/drayagelaw03.RoadPrices", spec := "roadPrices", unfollowed := true, recurses := true, apart := false }
def RoadPricesSaid : Prop := roadPricesRow.holds Try.pinned (OpenSpec.ofChange roadPricesSpec)

/-- ITS FALSE NEIGHBOUR: 'it returns false'. Refute it at one input. -/
def roadPricesWrong : ChangeSpec := { name := "roadPrices", fn := fun _ => fun
  | [d] => { results := [.lit (.bool false)], args := [d] }
  | _ => none }
def RoadPricesWrongFalsely : Prop := roadPricesRow.holds Try.pinned (OpenSpec.ofChange roadPricesWrong)

/-- 'drayagelaw03.RoadDistances': WHATEVER THE INPUT: true; the input reads as it did. -/
def roadDistancesSpec : ChangeSpec := { name := "roadDistances", fn := fun _ => fun
  | [d1, d2] => { results := [.lit (.bool true)], args := [d1, d2] }
  | _ => none }
def roadDistancesRow : OpenClaim := { program := "ytbejgbflipoboaa", sum := "81b053e5aa37daf211575616354865df3844933a99b785c3ecadf218974519a0", func := "drayage/drayagelaw03.RoadDistances", spec := "roadDistances", unfollowed := true, recurses := true, apart := false }
def RoadDistancesSaid : Prop := roadDistancesRow.holds Try.pinned (OpenSpec.ofChange roadDistancesSpec)

/-- ITS FALSE NEIGHBOUR: 'it returns false'. Refute it at one input. -/
def roadDistancesWrong : ChangeSpec := { name := "roadDistances", fn := fun _ => fun
  | [d1, d2] => { results := [.lit (.bool false)], args := [d1, d2] }
  | _ => none }
def RoadDistancesWrongFalsely : Prop := roadDistancesRow.holds Try.pinned (OpenSpec.ofChange roadDistancesWrong)

/-- 'drayagelaw03.RoadNarrows': WHATEVER THE INPUT: true; the input reads as it did. -/
def roadNarrowsSpec : ChangeSpec := { name := "roadNarrows", fn := fun _ => fun
  | [d] => { results := [.lit (.bool true)], args := [d] }
  | _ => none }
def roadNarrowsRow : OpenClaim := { program := "ytbejgbflipoboaa", sum := "81b053e5aa37daf211575616354865df3844933a99b785c3ecadf218974519a0", func := "drayage/drayagelaw03.RoadNarrows", spec := "roadNarrows", unfollowed := true, recurses := true, apart := false }
def RoadNarrowsSaid : Prop := roadNarrowsRow.holds Try.pinned (OpenSpec.ofChange roadNarrowsSpec)

/-- ITS FALSE NEIGHBOUR: 'it returns false'. Refute it at one input. -/
def roadNarrowsWrong : ChangeSpec := { name := "roadNarrows", fn := fun _ => fun
  | [d] => { results := [.lit (.bool false)], args := [d] }
  | _ => none }
def RoadNarrowsWrongFalsely : Prop := roadNarrowsRow.holds Try.pinned (OpenSpec.ofChange roadNarrowsWrong)

/-- 'drayagelaw03.RoadImproves': WHATEVER THE INPUT: true; the input reads as it did. -/
def roadImprovesSpec : ChangeSpec := { name := "roadImproves", fn := fun _ => fun
  | [d1, d2] => { results := [.lit (.bool true)], args := [d1, d2] }
  | _ => none }
def roadImprovesRow : OpenClaim := { program := "ytbejgbflipoboaa", sum := "81b053e5aa37daf211575616354865df3844933a99b785c3ecadf218974519a0", func := "drayage/drayagelaw03.RoadImproves", spec := "roadImproves", unfollowed := true, recurses := true, apart := false }
def RoadImprovesSaid : Prop := roadImprovesRow.holds Try.pinned (OpenSpec.ofChange roadImprovesSpec)

/-- ITS FALSE NEIGHBOUR: 'it returns false'. Refute it at one input. -/
def roadImprovesWrong : ChangeSpec := { name := "roadImproves", fn := fun _ => fun
  | [d1, d2] => { results := [.lit (.bool false)], args := [d1, d2] }
  | _ => none }
def RoadImprovesWrongFalsely : Prop := roadImprovesRow.holds Try.pinned (OpenSpec.ofChange roadImprovesWrong)

/-- 'drayagelaw03.RoadTolls': WHATEVER THE INPUT: true; the input reads as it did. -/
def roadTollsSpec : ChangeSpec := { name := "roadTolls", fn := fun _ => fun
  | [d1, d2, d3] => { results := [.lit (.bool true)], args := [d1, d2, d3] }
  | _ => none }
def roadTollsRow : OpenClaim := { program := "ytbejgbflipoboaa", sum := "81b053e5aa37daf211575616354865df3844933a99b785c3ecadf218974519a0", func := "drayage/drayagelaw03.RoadTolls", spec := "roadTolls", unfollowed := true, recurses := true, apart := false }
def RoadTollsSaid : Prop := roadTollsRow.holds Try.pinned (OpenSpec.ofChange roadTollsSpec)

/-- ITS FALSE NEIGHBOUR: 'it returns false'. Refute it at one input. -/
def roadTollsWrong : ChangeSpec := { name := "roadTolls", fn := fun _ => fun
  | [d1, d2, d3] => { results := [.lit (.bool false)], args := [d1, d2, d3] }
  | _ => none }
def RoadTollsWrongFalsely : Prop := roadTollsRow.holds Try.pinned (OpenSpec.ofChange roadTollsWrong)

/-- 'drayagelaw03.RoadRounds': WHATEVER THE INPUT: true; the input reads as it did. -/
def roadRoundsSpec : ChangeSpec := { name := "roadRounds", fn := fun _ => fun
  | [d1, d2, d3] => { results := [.lit (.bool true)], args := [d1, d2, d3] }
  | _ => none }
def roadRoundsRow : OpenClaim := { program := "ytbejgbflipoboaa", sum := "81b053e5aa37daf211575616354865df3844933a99b785c3ecadf218974519a0", func := "drayage/drayagelaw03.RoadRounds", spec := "roadRounds", unfollowed := true, recurses := true, apart := false }
def RoadRoundsSaid : Prop := roadRoundsRow.holds Try.pinned (OpenSpec.ofChange roadRoundsSpec)

/-- ITS FALSE NEIGHBOUR: 'it returns false'. Refute it at one input. -/
def roadRoundsWrong : ChangeSpec := { name := "roadRounds", fn := fun _ => fun
  | [d1, d2, d3] => { results := [.lit (.bool false)], args := [d1, d2, d3] }
  | _ => none }
def RoadRoundsWrongFalsely : Prop := roadRoundsRow.holds Try.pinned (OpenSpec.ofChange roadRoundsWrong)

/-- 'drayagelaw03.RoadBarriers': WHATEVER THE INPUT: true; the input reads as it did. -/
def roadBarriersSpec : ChangeSpec := { name := "roadBarriers", fn := fun _ => fun
  | [d1, d2] => { results := [.lit (.bool true)], args := [d1, d2] }
  | _ => none }
def roadBarriersRow : OpenClaim := { program := "ytbejgbflipoboaa", sum := "81b053e5aa37daf211575616354865df3844933a99b785c3ecadf218974519a0", func := "drayage/drayagelaw03.RoadBarriers", spec := "roadBarriers", unfollowed := true, recurses := true, apart := false }
def RoadBarriersSaid : Prop := roadBarriersRow.holds Try.pinned (OpenSpec.ofChange roadBarriersSpec)

/-- ITS FALSE NEIGHBOUR: 'it returns false'. Refute it at one input. -/
def roadBarriersWrong : ChangeSpec := { name := "roadBarriers", fn := fun _ => fun
  | [d1, d2] => { results := [.lit (.bool false)], args := [d1, d2] }
  | _ => none }
def RoadBarriersWrongFalsely : Prop := roadBarriersRow.holds Try.pinned (OpenSpec.ofChange roadBarriersWrong)

/- THE SECOND FORM. 'bulk': how many values and letters a reading holds, each counted each time it is reached (what is shared counts as often as it is met; a slice's spare places count too). A statement '..UptoSaid' is the law's where the arguments, and the package variables that the reading takes, are together of bulk at most 1048576: NARROWER than '..Said'. Prove '..Said' where nothing that the law and all that it calls make is longer than what came in: it says more and counts as full. Else prove '..UptoSaid'. A law counts once. -/
mutual
def uptoBulk {H : Type} : DataW H → Nat
  | .lit (.string bytes) => bytes.length + 1
  | .lit _ => 1
  | .nil => 1
  | .ptr d => uptoBulk d + 1
  | .slice elems spare => uptoBulkAll elems + uptoBulkAll spare + 1
  | .agg parts => uptoBulkAll parts + 1
  | .iface _ d => uptoBulk d + 1
  | .map entries => uptoBulkEntries entries + 1
  | .held _ => 1
def uptoBulkAll {H : Type} : List (DataW H) → Nat
  | [] => 0
  | d :: r => uptoBulk d + uptoBulkAll r
def uptoBulkEntries {H : Type} : List (Lit × DataW H) → Nat
  | [] => 0
  | x :: r => uptoBulkEntry x + uptoBulkEntries r
def uptoBulkEntry {H : Type} : Lit × DataW H → Nat
  | (.string bytes, d) => bytes.length + uptoBulk d + 1
  | (_, d) => uptoBulk d + 1
 end
def uptoSmall : (H : Type) → List (DataW H) → Bool := fun _ ds => decide (uptoBulkAll ds ≤ 1048576)
def OpenSpec.upto (s : _root_.Go.ChangeSpec) : _root_.Go.OpenSpec := { _root_.Go.OpenSpec.ofChange s with cond := some uptoSmall }

/-- 'drayagelaw03.RoadFlows', WHERE WHAT IT READS IS OF BULK AT MOST 1048576: true; the input reads as it did. -/
def roadFlowsUptoRow : OpenClaim := { program := "ytbejgbflipoboaa", sum := "81b053e5aa37daf211575616354865df3844933a99b785c3ecadf218974519a0", func := "drayage/drayagelaw03.RoadFlows", spec := "roadFlows", unfollowed := true, recurses := true, apart := false, narrowed := true }
def RoadFlowsUptoSaid : Prop := roadFlowsUptoRow.holds Try.pinned (OpenSpec.upto roadFlowsSpec)

/-- 'drayagelaw03.RoadLeast', WHERE WHAT IT READS IS OF BULK AT MOST 1048576: true; the input reads as it did. -/
def roadLeastUptoRow : OpenClaim := { program := "ytbejgbflipoboaa", sum := "81b053e5aa37daf211575616354865df3844933a99b785c3ecadf218974519a0", func := "drayage/drayagelaw03.RoadLeast", spec := "roadLeast", unfollowed := true, recurses := true, apart := false, narrowed := true }
def RoadLeastUptoSaid : Prop := roadLeastUptoRow.holds Try.pinned (OpenSpec.upto roadLeastSpec)

/-- 'drayagelaw03.RoadExists', WHERE WHAT IT READS IS OF BULK AT MOST 1048576: true; the input reads as it did. -/
def roadExistsUptoRow : OpenClaim := { program := "ytbejgbflipoboaa", sum := "81b053e5aa37daf211575616354865df3844933a99b785c3ecadf218974519a0", func := "drayage/drayagelaw03.RoadExists", spec := "roadExists", unfollowed := true, recurses := true, apart := false, narrowed := true }
def RoadExistsUptoSaid : Prop := roadExistsUptoRow.holds Try.pinned (OpenSpec.upto roadExistsSpec)

/-- 'drayagelaw03.RoadExcesses', WHERE WHAT IT READS IS OF BULK AT MOST 1048576: true; the input reads as it did. -/
def roadExcessesUptoRow : OpenClaim := { program := "ytbejgbflipoboaa", sum := "81b053e5aa37daf211575616354865df3844933a99b785c3ecadf218974519a0", func := "drayage/drayagelaw03.RoadExcesses", spec := "roadExcesses", unfollowed := true, recurses := true, apart := false, narrowed := true }
def RoadExcessesUptoSaid : Prop := roadExcessesUptoRow.holds Try.pinned (OpenSpec.upto roadExcessesSpec)

/-- 'drayagelaw03.RoadReverses', WHERE WHAT IT READS IS OF BULK AT MOST 1048576: true; the input reads as it did. -/
def roadReversesUptoRow : OpenClaim := { program := "ytbejgbflipoboaa", sum := "81b053e5aa37daf211575616354865df3844933a99b785c3ecadf218974519a0", func := "drayage/drayagelaw03.RoadReverses", spec := "roadReverses", unfollowed := true, recurses := true, apart := false, narrowed := true }
def RoadReversesUptoSaid : Prop := roadReversesUptoRow.holds Try.pinned (OpenSpec.upto roadReversesSpec)

/-- 'drayagelaw03.RoadProves', WHERE WHAT IT READS IS OF BULK AT MOST 1048576: true; the input reads as it did. -/
def roadProvesUptoRow : OpenClaim := { program := "ytbejgbflipoboaa", sum := "81b053e5aa37daf211575616354865df3844933a99b785c3ecadf218974519a0", func := "drayage/drayagelaw03.RoadProves", spec := "roadProves", unfollowed := true, recurses := true, apart := false, narrowed := true }
def RoadProvesUptoSaid : Prop := roadProvesUptoRow.holds Try.pinned (OpenSpec.upto roadProvesSpec)

/-- 'drayagetop.TopRoads', WHERE WHAT IT READS IS OF BULK AT MOST 1048576: true; the input reads as it did. -/
def topRoadsUptoRow : OpenClaim := { program := "ytbejgbflipoboaa", sum := "81b053e5aa37daf211575616354865df3844933a99b785c3ecadf218974519a0", func := "drayage/drayagetop.TopRoads", spec := "topRoads", unfollowed := true, recurses := true, apart := false, narrowed := true }
def TopRoadsUptoSaid : Prop := topRoadsUptoRow.holds Try.pinned (OpenSpec.upto topRoadsSpec)

/-- 'drayagelaw03.RoadPrices', WHERE WHAT IT READS IS OF BULK AT MOST 1048576: true; the input reads as it did. -/
def roadPricesUptoRow : OpenClaim := { program := "ytbejgbflipoboaa", sum := "81b053e5aa37daf211575616354865df3844933a99b785c3ecadf218974519a0", func := "drayage/drayagelaw03.RoadPrices", spec := "roadPrices", unfollowed := true, recurses := true, apart := false, narrowed := true }
def RoadPricesUptoSaid : Prop := roadPricesUptoRow.holds Try.pinned (OpenSpec.upto roadPricesSpec)

/-- 'drayagelaw03.RoadDistances', WHERE WHAT IT READS IS OF BULK AT MOST 1048576: true; the input reads as it did. -/
def roadDistancesUptoRow : OpenClaim := { program := "ytbejgbflipoboaa", sum := "81b053e5aa37daf211575616354865df3844933a99b785c3ecadf218974519a0", func := "drayage/drayagelaw03.RoadDistances", spec := "roadDistances", unfollowed := true, recurses := true, apart := false, narrowed := true }
def RoadDistancesUptoSaid : Prop := roadDistancesUptoRow.holds Try.pinned (OpenSpec.upto roadDistancesSpec)

/-- 'drayagelaw03.RoadNarrows', WHERE WHAT IT READS IS OF BULK AT MOST 1048576: true; the input reads as it did. -/
def roadNarrowsUptoRow : OpenClaim := { program := "ytbejgbflipoboaa", sum := "81b053e5aa37daf211575616354865df3844933a99b785c3ecadf218974519a0", func := "drayage/drayagelaw03.RoadNarrows", spec := "roadNarrows", unfollowed := true, recurses := true, apart := false, narrowed := true }
def RoadNarrowsUptoSaid : Prop := roadNarrowsUptoRow.holds Try.pinned (OpenSpec.upto roadNarrowsSpec)

/-- 'drayagelaw03.RoadImproves', WHERE WHAT IT READS IS OF BULK AT MOST 1048576: true; the input reads as it did. -/
def roadImprovesUptoRow : OpenClaim := { program := "ytbejgbflipoboaa", sum := "81b053e5aa37daf211575616354865df3844933a99b785c3ecadf218974519a0", func := "drayage/drayagelaw03.RoadImproves", spec := "roadImproves", unfollowed := true, recurses := true, apart := false, narrowed := true }
def RoadImprovesUptoSaid : Prop := roadImprovesUptoRow.holds Try.pinned (OpenSpec.upto roadImprovesSpec)

/-- 'drayagelaw03.RoadTolls', WHERE WHAT IT READS IS OF BULK AT MOST 1048576: true; the input reads as it did. -/
def roadTollsUptoRow : OpenClaim := { program := "ytbejgbflipoboaa", sum := "81b053e5aa37daf211575616354865df3844933a99b785c3ecadf218974519a0", func := "drayage/drayagelaw03.RoadTolls", spec := "roadTolls", unfollowed := true, recurses := true, apart := false, narrowed := true }
def RoadTollsUptoSaid : Prop := roadTollsUptoRow.holds Try.pinned (OpenSpec.upto roadTollsSpec)

/-- 'drayagelaw03.RoadRounds', WHERE WHAT IT READS IS OF BULK AT MOST 1048576: true; the input reads as it did. -/
def roadRoundsUptoRow : OpenClaim := { program := "ytbejgbflipoboaa", sum := "81b053e5aa37daf211575616354865df3844933a99b785c3ecadf218974519a0", func := "drayage/drayagelaw03.RoadRounds", spec := "roadRounds", unfollowed := true, recurses := true, apart := false, narrowed := true }
def RoadRoundsUptoSaid : Prop := roadRoundsUptoRow.holds Try.pinned (OpenSpec.upto roadRoundsSpec)

/-- 'drayagelaw03.RoadBarriers', WHERE WHAT IT READS IS OF BULK AT MOST 1048576: true; the input reads as it did. -/
def roadBarriersUptoRow : OpenClaim := { program := "ytbejgbflipoboaa", sum := "81b053e5aa37daf211575616354865df3844933a99b785c3ecadf218974519a0", func := "drayage/drayagelaw03.RoadBarriers", spec := "roadBarriers", unfollowed := true, recurses := true, apart := false, narrowed := true }
def RoadBarriersUptoSaid : Prop := roadBarriersUptoRow.holds Try.pinned (OpenSpec.upto roadBarriersSpec)

end Rows
end Go.Proofs.Ytbejgbflipoboaa
