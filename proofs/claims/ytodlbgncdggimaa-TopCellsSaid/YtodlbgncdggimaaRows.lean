/-
  No cell of these rows narrows 'for every input' (looked for: loops, veiled, ifaces, maps, wideKeys, modest, calm, conditions, laid).
  DERIVED. THE GIVEN ROWS OF THIS SEAT. 14 by the template 'for every input the law returns true; each argument reads behind the call as it read before'; 0 by the template 'total and deterministic' (their statements: YtodlbgncdggimaaTotals.lean).
  GIVEN WITH THE SEED: the statements are not yours to turn. If you find one false, say at which input.
  Laid BY PROGRAM, IN A SANDBOX (cutbox-rows.mjs): the forced cells as the released guide's own fill.sh prints them over the translation d66c038d5515333f… (all of the seat's roots in one cut). By AI agents, Wed Nov 11 2026. No macro, syntax, notation, axiom, sorry.
-/
import Derived.Test.YtodlbgncdggimaaChecked
import GoSem.Claim
import GoSem.ClaimJoined
import GoSem.ClaimMapViews
import Derived.JoinedTies
import Derived.KernelRfl
namespace Go.Proofs.Ytodlbgncdggimaa
/- THE CELL 'sum', in the pinned program and in every row, IS THE sha256 OF THE DUMP (.gsa) THAT YtodlbgncdggimaaProg.lean LOADS. Nothing in Lean hashes anything: it is a label: what it is worth is what the hold of that sum in a sandbox is worth. -/
noncomputable def Try.pinned : Pinned := { name := "ytodlbgncdggimaa", sum := "d66c038d5515333fe861c03f08d883b11ade96b18256f0ec36b68d1db885e14b", checked := Try.checked }
namespace Rows
def none {H : Type} : Left H := { results := [], args := [] }

/-- 'drayagelaw05.CellAlike': WHATEVER THE INPUT: true; the input reads as it did. -/
def cellAlikeSpec : ChangeSpec := { name := "cellAlike", fn := fun _ => fun
  | [d1, d2, d3] => { results := [.lit (.bool true)], args := [d1, d2, d3] }
  | _ => none }
def cellAlikeRow : OpenClaim := { program := "ytodlbgncdggimaa", sum := "d66c038d5515333fe861c03f08d883b11ade96b18256f0ec36b68d1db885e14b", func := "drayage/drayagelaw05.CellAlike", spec := "cellAlike", unfollowed := true, recurses := true, apart := false }
def CellAlikeSaid : Prop := cellAlikeRow.holds Try.pinned (OpenSpec.ofChange cellAlikeSpec)

/-- ITS FALSE NEIGHBOUR: 'it returns false'. Refute it at one input. -/
def cellAlikeWrong : ChangeSpec := { name := "cellAlike", fn := fun _ => fun
  | [d1, d2, d3] => { results := [.lit (.bool false)], args := [d1, d2, d3] }
  | _ => none }
def CellAlikeWrongFalsely : Prop := cellAlikeRow.holds Try.pinned (OpenSpec.ofChange cellAlikeWrong)

/-- 'drayagelaw05.CellPowers': WHATEVER THE INPUT: true; the input reads as it did. -/
def cellPowersSpec : ChangeSpec := { name := "cellPowers", fn := fun _ => fun
  | [d1, d2] => { results := [.lit (.bool true)], args := [d1, d2] }
  | _ => none }
def cellPowersRow : OpenClaim := { program := "ytodlbgncdggimaa", sum := "d66c038d5515333fe861c03f08d883b11ade96b18256f0ec36b68d1db885e14b", func := "drayage/drayagelaw05.CellPowers", spec := "cellPowers", unfollowed := true, recurses := true, apart := false }
def CellPowersSaid : Prop := cellPowersRow.holds Try.pinned (OpenSpec.ofChange cellPowersSpec)

/-- ITS FALSE NEIGHBOUR: 'it returns false'. Refute it at one input. -/
def cellPowersWrong : ChangeSpec := { name := "cellPowers", fn := fun _ => fun
  | [d1, d2] => { results := [.lit (.bool false)], args := [d1, d2] }
  | _ => none }
def CellPowersWrongFalsely : Prop := cellPowersRow.holds Try.pinned (OpenSpec.ofChange cellPowersWrong)

/-- 'drayagelaw05.CellFits': WHATEVER THE INPUT: true; the input reads as it did. -/
def cellFitsSpec : ChangeSpec := { name := "cellFits", fn := fun _ => fun
  | [d1, d2, d3] => { results := [.lit (.bool true)], args := [d1, d2, d3] }
  | _ => none }
def cellFitsRow : OpenClaim := { program := "ytodlbgncdggimaa", sum := "d66c038d5515333fe861c03f08d883b11ade96b18256f0ec36b68d1db885e14b", func := "drayage/drayagelaw05.CellFits", spec := "cellFits", unfollowed := true, recurses := true, apart := false }
def CellFitsSaid : Prop := cellFitsRow.holds Try.pinned (OpenSpec.ofChange cellFitsSpec)

/-- ITS FALSE NEIGHBOUR: 'it returns false'. Refute it at one input. -/
def cellFitsWrong : ChangeSpec := { name := "cellFits", fn := fun _ => fun
  | [d1, d2, d3] => { results := [.lit (.bool false)], args := [d1, d2, d3] }
  | _ => none }
def CellFitsWrongFalsely : Prop := cellFitsRow.holds Try.pinned (OpenSpec.ofChange cellFitsWrong)

/-- 'drayagelaw05.CellRaises': WHATEVER THE INPUT: true; the input reads as it did. -/
def cellRaisesSpec : ChangeSpec := { name := "cellRaises", fn := fun _ => fun
  | [d1, d2, d3] => { results := [.lit (.bool true)], args := [d1, d2, d3] }
  | _ => none }
def cellRaisesRow : OpenClaim := { program := "ytodlbgncdggimaa", sum := "d66c038d5515333fe861c03f08d883b11ade96b18256f0ec36b68d1db885e14b", func := "drayage/drayagelaw05.CellRaises", spec := "cellRaises", unfollowed := true, recurses := true, apart := false }
def CellRaisesSaid : Prop := cellRaisesRow.holds Try.pinned (OpenSpec.ofChange cellRaisesSpec)

/-- ITS FALSE NEIGHBOUR: 'it returns false'. Refute it at one input. -/
def cellRaisesWrong : ChangeSpec := { name := "cellRaises", fn := fun _ => fun
  | [d1, d2, d3] => { results := [.lit (.bool false)], args := [d1, d2, d3] }
  | _ => none }
def CellRaisesWrongFalsely : Prop := cellRaisesRow.holds Try.pinned (OpenSpec.ofChange cellRaisesWrong)

/-- 'drayagelaw05.CellGrows': WHATEVER THE INPUT: true; the input reads as it did. -/
def cellGrowsSpec : ChangeSpec := { name := "cellGrows", fn := fun _ => fun
  | [d1, d2, d3] => { results := [.lit (.bool true)], args := [d1, d2, d3] }
  | _ => none }
def cellGrowsRow : OpenClaim := { program := "ytodlbgncdggimaa", sum := "d66c038d5515333fe861c03f08d883b11ade96b18256f0ec36b68d1db885e14b", func := "drayage/drayagelaw05.CellGrows", spec := "cellGrows", unfollowed := true, recurses := true, apart := false }
def CellGrowsSaid : Prop := cellGrowsRow.holds Try.pinned (OpenSpec.ofChange cellGrowsSpec)

/-- ITS FALSE NEIGHBOUR: 'it returns false'. Refute it at one input. -/
def cellGrowsWrong : ChangeSpec := { name := "cellGrows", fn := fun _ => fun
  | [d1, d2, d3] => { results := [.lit (.bool false)], args := [d1, d2, d3] }
  | _ => none }
def CellGrowsWrongFalsely : Prop := cellGrowsRow.holds Try.pinned (OpenSpec.ofChange cellGrowsWrong)

/-- 'drayagelaw05.CellShares': WHATEVER THE INPUT: true; the input reads as it did. -/
def cellSharesSpec : ChangeSpec := { name := "cellShares", fn := fun _ => fun
  | [d1, d2] => { results := [.lit (.bool true)], args := [d1, d2] }
  | _ => none }
def cellSharesRow : OpenClaim := { program := "ytodlbgncdggimaa", sum := "d66c038d5515333fe861c03f08d883b11ade96b18256f0ec36b68d1db885e14b", func := "drayage/drayagelaw05.CellShares", spec := "cellShares", unfollowed := true, recurses := true, apart := false }
def CellSharesSaid : Prop := cellSharesRow.holds Try.pinned (OpenSpec.ofChange cellSharesSpec)

/-- ITS FALSE NEIGHBOUR: 'it returns false'. Refute it at one input. -/
def cellSharesWrong : ChangeSpec := { name := "cellShares", fn := fun _ => fun
  | [d1, d2] => { results := [.lit (.bool false)], args := [d1, d2] }
  | _ => none }
def CellSharesWrongFalsely : Prop := cellSharesRow.holds Try.pinned (OpenSpec.ofChange cellSharesWrong)

/-- 'drayagelaw05.CellCosts': WHATEVER THE INPUT: true; the input reads as it did. -/
def cellCostsSpec : ChangeSpec := { name := "cellCosts", fn := fun _ => fun
  | [d1, d2, d3] => { results := [.lit (.bool true)], args := [d1, d2, d3] }
  | _ => none }
def cellCostsRow : OpenClaim := { program := "ytodlbgncdggimaa", sum := "d66c038d5515333fe861c03f08d883b11ade96b18256f0ec36b68d1db885e14b", func := "drayage/drayagelaw05.CellCosts", spec := "cellCosts", unfollowed := true, recurses := true, apart := false }
def CellCostsSaid : Prop := cellCostsRow.holds Try.pinned (OpenSpec.ofChange cellCostsSpec)

/-- ITS FALSE NEIGHBOUR: 'it returns false'. Refute it at one input. -/
def cellCostsWrong : ChangeSpec := { name := "cellCosts", fn := fun _ => fun
  | [d1, d2, d3] => { results := [.lit (.bool false)], args := [d1, d2, d3] }
  | _ => none }
def CellCostsWrongFalsely : Prop := cellCostsRow.holds Try.pinned (OpenSpec.ofChange cellCostsWrong)

/-- 'drayagelaw05.CellCentres': WHATEVER THE INPUT: true; the input reads as it did. -/
def cellCentresSpec : ChangeSpec := { name := "cellCentres", fn := fun _ => fun
  | [d1, d2, d3] => { results := [.lit (.bool true)], args := [d1, d2, d3] }
  | _ => none }
def cellCentresRow : OpenClaim := { program := "ytodlbgncdggimaa", sum := "d66c038d5515333fe861c03f08d883b11ade96b18256f0ec36b68d1db885e14b", func := "drayage/drayagelaw05.CellCentres", spec := "cellCentres", unfollowed := true, recurses := true, apart := false }
def CellCentresSaid : Prop := cellCentresRow.holds Try.pinned (OpenSpec.ofChange cellCentresSpec)

/-- ITS FALSE NEIGHBOUR: 'it returns false'. Refute it at one input. -/
def cellCentresWrong : ChangeSpec := { name := "cellCentres", fn := fun _ => fun
  | [d1, d2, d3] => { results := [.lit (.bool false)], args := [d1, d2, d3] }
  | _ => none }
def CellCentresWrongFalsely : Prop := cellCentresRow.holds Try.pinned (OpenSpec.ofChange cellCentresWrong)

/-- 'drayagelaw05.CellStretches': WHATEVER THE INPUT: true; the input reads as it did. -/
def cellStretchesSpec : ChangeSpec := { name := "cellStretches", fn := fun _ => fun
  | [d] => { results := [.lit (.bool true)], args := [d] }
  | _ => none }
def cellStretchesRow : OpenClaim := { program := "ytodlbgncdggimaa", sum := "d66c038d5515333fe861c03f08d883b11ade96b18256f0ec36b68d1db885e14b", func := "drayage/drayagelaw05.CellStretches", spec := "cellStretches", unfollowed := true, recurses := true, apart := false }
def CellStretchesSaid : Prop := cellStretchesRow.holds Try.pinned (OpenSpec.ofChange cellStretchesSpec)

/-- ITS FALSE NEIGHBOUR: 'it returns false'. Refute it at one input. -/
def cellStretchesWrong : ChangeSpec := { name := "cellStretches", fn := fun _ => fun
  | [d] => { results := [.lit (.bool false)], args := [d] }
  | _ => none }
def CellStretchesWrongFalsely : Prop := cellStretchesRow.holds Try.pinned (OpenSpec.ofChange cellStretchesWrong)

/-- 'drayagelaw05.CellWeights': WHATEVER THE INPUT: true; the input reads as it did. -/
def cellWeightsSpec : ChangeSpec := { name := "cellWeights", fn := fun _ => fun
  | [d1, d2, d3] => { results := [.lit (.bool true)], args := [d1, d2, d3] }
  | _ => none }
def cellWeightsRow : OpenClaim := { program := "ytodlbgncdggimaa", sum := "d66c038d5515333fe861c03f08d883b11ade96b18256f0ec36b68d1db885e14b", func := "drayage/drayagelaw05.CellWeights", spec := "cellWeights", unfollowed := true, recurses := true, apart := false }
def CellWeightsSaid : Prop := cellWeightsRow.holds Try.pinned (OpenSpec.ofChange cellWeightsSpec)

/-- ITS FALSE NEIGHBOUR: 'it returns false'. Refute it at one input. -/
def cellWeightsWrong : ChangeSpec := { name := "cellWeights", fn := fun _ => fun
  | [d1, d2, d3] => { results := [.lit (.bool false)], args := [d1, d2, d3] }
  | _ => none }
def CellWeightsWrongFalsely : Prop := cellWeightsRow.holds Try.pinned (OpenSpec.ofChange cellWeightsWrong)

/-- 'drayagetop.TopCells': WHATEVER THE INPUT: true; the input reads as it did. -/
def topCellsSpec : ChangeSpec := { name := "topCells", fn := fun _ => fun
  | [d1, d2, d3] => { results := [.lit (.bool true)], args := [d1, d2, d3] }
  | _ => none }
def topCellsRow : OpenClaim := { program := "ytodlbgncdggimaa", sum := "d66c038d5515333fe861c03f08d883b11ade96b18256f0ec36b68d1db885e14b", func := "drayage/drayagetop.TopCells", spec := "topCells", unfollowed := true, recurses := true, apart := false }
def TopCellsSaid : Prop := topCellsRow.holds Try.pinned (OpenSpec.ofChange topCellsSpec)

/-- ITS FALSE NEIGHBOUR: 'it returns false'. Refute it at one input. -/
def topCellsWrong : ChangeSpec := { name := "topCells", fn := fun _ => fun
  | [d1, d2, d3] => { results := [.lit (.bool false)], args := [d1, d2, d3] }
  | _ => none }
def TopCellsWrongFalsely : Prop := topCellsRow.holds Try.pinned (OpenSpec.ofChange topCellsWrong)

/-- 'drayagelaw05.CellLeast': WHATEVER THE INPUT: true; the input reads as it did. -/
def cellLeastSpec : ChangeSpec := { name := "cellLeast", fn := fun _ => fun
  | [d1, d2, d3] => { results := [.lit (.bool true)], args := [d1, d2, d3] }
  | _ => none }
def cellLeastRow : OpenClaim := { program := "ytodlbgncdggimaa", sum := "d66c038d5515333fe861c03f08d883b11ade96b18256f0ec36b68d1db885e14b", func := "drayage/drayagelaw05.CellLeast", spec := "cellLeast", unfollowed := true, recurses := true, apart := false }
def CellLeastSaid : Prop := cellLeastRow.holds Try.pinned (OpenSpec.ofChange cellLeastSpec)

/-- ITS FALSE NEIGHBOUR: 'it returns false'. Refute it at one input. -/
def cellLeastWrong : ChangeSpec := { name := "cellLeast", fn := fun _ => fun
  | [d1, d2, d3] => { results := [.lit (.bool false)], args := [d1, d2, d3] }
  | _ => none }
def CellLeastWrongFalsely : Prop := cellLeastRow.holds Try.pinned (OpenSpec.ofChange cellLeastWrong)

/-- 'drayagelaw05.CellDuals': WHATEVER THE INPUT: true; the input reads as it did. -/
def cellDualsSpec : ChangeSpec := { name := "cellDuals", fn := fun _ => fun
  | [d1, d2, d3] => { results := [.lit (.bool true)], args := [d1, d2, d3] }
  | _ => none }
def cellDualsRow : OpenClaim := { program := "ytodlbgncdggimaa", sum := "d66c038d5515333fe861c03f08d883b11ade96b18256f0ec36b68d1db885e14b", func := "drayage/drayagelaw05.CellDuals", spec := "cellDuals", unfollowed := true, recurses := true, apart := false }
def CellDualsSaid : Prop := cellDualsRow.holds Try.pinned (OpenSpec.ofChange cellDualsSpec)

/-- ITS FALSE NEIGHBOUR: 'it returns false'. Refute it at one input. -/
def cellDualsWrong : ChangeSpec := { name := "cellDuals", fn := fun _ => fun
  | [d1, d2, d3] => { results := [.lit (.bool false)], args := [d1, d2, d3] }
  | _ => none }
def CellDualsWrongFalsely : Prop := cellDualsRow.holds Try.pinned (OpenSpec.ofChange cellDualsWrong)

/-- 'drayagelaw05.CellBalances': WHATEVER THE INPUT: true; the input reads as it did. -/
def cellBalancesSpec : ChangeSpec := { name := "cellBalances", fn := fun _ => fun
  | [d1, d2, d3] => { results := [.lit (.bool true)], args := [d1, d2, d3] }
  | _ => none }
def cellBalancesRow : OpenClaim := { program := "ytodlbgncdggimaa", sum := "d66c038d5515333fe861c03f08d883b11ade96b18256f0ec36b68d1db885e14b", func := "drayage/drayagelaw05.CellBalances", spec := "cellBalances", unfollowed := true, recurses := true, apart := false }
def CellBalancesSaid : Prop := cellBalancesRow.holds Try.pinned (OpenSpec.ofChange cellBalancesSpec)

/-- ITS FALSE NEIGHBOUR: 'it returns false'. Refute it at one input. -/
def cellBalancesWrong : ChangeSpec := { name := "cellBalances", fn := fun _ => fun
  | [d1, d2, d3] => { results := [.lit (.bool false)], args := [d1, d2, d3] }
  | _ => none }
def CellBalancesWrongFalsely : Prop := cellBalancesRow.holds Try.pinned (OpenSpec.ofChange cellBalancesWrong)

/- THE SECOND FORM. 'bulk': how many values and letters a reading holds, each counted each time it is reached (what is shared counts as often as it is met; a slice's spare places count too). A statement '..UptoSaid' is the law's where the arguments, and the package variables that the reading takes, are together of bulk at most 1048576: NARROWER than '..Said'. Prove '..Said' where nothing that the law and all that it calls make is longer than what came in: it says more and counts as full. Else prove '..UptoSaid'. A law counts once. -/
mutual
def uptoBulk {H : Type} : DataW H → Nat
  | .lit (.string bytes) => bytes.length + 1
  | .lit _ => 1
  | .nil => 1
  | .ptr d => uptoBulk d + 1
  | .slice elems spare => uptoBulkAll elems + uptoBulkAll spare + 1
  | .agg parts => uptoBulkAll parts + 1
  | .iface _ d => uptoBulk d + 1
  | .map entries => uptoBulkEntries entries + 1
  | .held _ => 1
def uptoBulkAll {H : Type} : List (DataW H) → Nat
  | [] => 0
  | d :: r => uptoBulk d + uptoBulkAll r
def uptoBulkEntries {H : Type} : List (Lit × DataW H) → Nat
  | [] => 0
  | x :: r => uptoBulkEntry x + uptoBulkEntries r
def uptoBulkEntry {H : Type} : Lit × DataW H → Nat
  | (.string bytes, d) => bytes.length + uptoBulk d + 1
  | (_, d) => uptoBulk d + 1
 end
def uptoSmall : (H : Type) → List (DataW H) → Bool := fun _ ds => decide (uptoBulkAll ds ≤ 1048576)
def OpenSpec.upto (s : _root_.Go.ChangeSpec) : _root_.Go.OpenSpec := { _root_.Go.OpenSpec.ofChange s with cond := some uptoSmall }

/-- 'drayagelaw05.CellAlike', WHERE WHAT IT READS IS OF BULK AT MOST 1048576: true; the input reads as it did. -/
def cellAlikeUptoRow : OpenClaim := { program := "ytodlbgncdggimaa", sum := "d66c038d5515333fe861c03f08d883b11ade96b18256f0ec36b68d1db885e14b", func := "drayage/drayagelaw05.CellAlike", spec := "cellAlike", unfollowed := true, recurses := true, apart := false, narrowed := true }
def CellAlikeUptoSaid : Prop := cellAlikeUptoRow.holds Try.pinned (OpenSpec.upto cellAlikeSpec)

/-- 'drayagelaw05.CellPowers', WHERE WHAT IT READS IS OF BULK AT MOST 1048576: true; the input reads as it did. -/
def cellPowersUptoRow : OpenClaim := { program := "ytodlbgncdggimaa", sum := "d66c038d5515333fe861c03f08d883b11ade96b18256f0ec36b68d1db885e14b", func := "drayage/drayagelaw05.CellPowers", spec := "cellPowers", unfollowed := true, recurses := true, apart := false, narrowed := true }
def CellPowersUptoSaid : Prop := cellPowersUptoRow.holds Try.pinned (OpenSpec.upto cellPowersSpec)

/-- 'drayagelaw05.CellFits', WHERE WHAT IT READS IS OF BULK AT MOST 1048576: true; the input reads as it did. -/
def cellFitsUptoRow : OpenClaim := { program := "ytodlbgncdggimaa", sum := "d66c038d5515333fe861c03f08d883b11ade96b18256f0ec36b68d1db885e14b", func := "drayage/drayagelaw05.CellFits", spec := "cellFits", unfollowed := true, recurses := true, apart := false, narrowed := true }
def CellFitsUptoSaid : Prop := cellFitsUptoRow.holds Try.pinned (OpenSpec.upto cellFitsSpec)

/-- 'drayagelaw05.CellRaises', WHERE WHAT IT READS IS OF BULK AT MOST 1048576: true; the input reads as it did. -/
def cellRaisesUptoRow : OpenClaim := { program := "ytodlbgncdggimaa", sum := "d66c038d5515333fe861c03f08d883b11ade96b18256f0ec36b68d1db885e14b", func := "drayage/drayagelaw05.CellRaises", spec := "cellRaises", unfollowed := true, recurses := true, apart := false, narrowed := true }
def CellRaisesUptoSaid : Prop := cellRaisesUptoRow.holds Try.pinned (OpenSpec.upto cellRaisesSpec)

/-- 'drayagelaw05.CellGrows', WHERE WHAT IT READS IS OF BULK AT MOST 1048576: true; the input reads as it did. -/
def cellGrowsUptoRow : OpenClaim := { program := "ytodlbgncdggimaa", sum := "d66c038d5515333fe861c03f08d883b11ade96b18256f0ec36b68d1db885e14b", func := "drayage/drayagelaw05.CellGrows", spec := "cellGrows", unfollowed := true, recurses := true, apart := false, narrowed := true }
def CellGrowsUptoSaid : Prop := cellGrowsUptoRow.holds Try.pinned (OpenSpec.upto cellGrowsSpec)

/-- 'drayagelaw05.CellShares', WHERE WHAT IT READS IS OF BULK AT MOST 1048576: true; the input reads as it did. -/
def cellSharesUptoRow : OpenClaim := { program := "ytodlbgncdggimaa", sum := "d66c038d5515333fe861c03f08d883b11ade96b18256f0ec36b68d1db885e14b", func := "drayage/drayagelaw05.CellShares", spec := "cellShares", unfollowed := true, recurses := true, apart := false, narrowed := true }
def CellSharesUptoSaid : Prop := cellSharesUptoRow.holds Try.pinned (OpenSpec.upto cellSharesSpec)

/-- 'drayagelaw05.CellCosts', WHERE WHAT IT READS IS OF BULK AT MOST 1048576: true; the input reads as it did. -/
def cellCostsUptoRow : OpenClaim := { program := "ytodlbgncdggimaa", sum := "d66c038d5515333fe861c03f08d883b11ade96b18256f0ec36b68d1db885e14b", func := "drayage/drayagelaw05.CellCosts", spec := "cellCosts", unfollowed := true, recurses := true, apart := false, narrowed := true }
def CellCostsUptoSaid : Prop := cellCostsUptoRow.holds Try.pinned (OpenSpec.upto cellCostsSpec)

/-- 'drayagelaw05.CellCentres', WHERE WHAT IT READS IS OF BULK AT MOST 1048576: true; the input reads as it did. -/
def cellCentresUptoRow : OpenClaim := { program := "ytodlbgncdggimaa", sum := "d66c038d5515333fe861c03f08d883b11ade96b18256f0ec36b68d1db885e14b", func := "drayage/drayagelaw05.CellCentres", spec := "cellCentres", unfollowed := true, recurses := true, apart := false, narrowed := true }
def CellCentresUptoSaid : Prop := cellCentresUptoRow.holds Try.pinned (OpenSpec.upto cellCentresSpec)

/-- 'drayagelaw05.CellStretches', WHERE WHAT IT READS IS OF BULK AT MOST 1048576: true; the input reads as it did. -/
def cellStretchesUptoRow : OpenClaim := { program := "ytodlbgncdggimaa", sum := "d66c038d5515333fe861c03f08d883b11ade96b18256f0ec36b68d1db885e14b", func := "drayage/drayagelaw05.CellStretches", spec := "cellStretches", unfollowed := true, recurses := true, apart := false, narrowed := true }
def CellStretchesUptoSaid : Prop := cellStretchesUptoRow.holds Try.pinned (OpenSpec.upto cellStretchesSpec)

/-- 'drayagelaw05.CellWeights', WHERE WHAT IT READS IS OF BULK AT MOST 1048576: true; the input reads as it did. -/
def cellWeightsUptoRow : OpenClaim := { program := "ytodlbgncdggimaa", sum := "d66c038d5515333fe861c03f08d883b11ade96b18256f0ec36b68d1db885e14b", func := "drayage/drayagelaw05.CellWeights", spec := "cellWeights", unfollowed := true, recurses := true, apart := false, narrowed := true }
def CellWeightsUptoSaid : Prop := cellWeightsUptoRow.holds Try.pinned (OpenSpec.upto cellWeightsSpec)

/-- 'drayagetop.TopCells', WHERE WHAT IT READS IS OF BULK AT MOST 1048576: true; the input reads as it did. -/
def topCellsUptoRow : OpenClaim := { program := "ytodlbgncdggimaa", sum := "d66c038d5515333fe861c03f08d883b11ade96b18256f0ec36b68d1db885e14b", func := "drayage/drayagetop.TopCells", spec := "topCells", unfollowed := true, recurses := true, apart := false, narrowed := true }
def TopCellsUptoSaid : Prop := topCellsUptoRow.holds Try.pinned (OpenSpec.upto topCellsSpec)

/-- 'drayagelaw05.CellLeast', WHERE WHAT IT READS IS OF BULK AT MOST 1048576: true; the input reads as it did. -/
def cellLeastUptoRow : OpenClaim := { program := "ytodlbgncdggimaa", sum := "d66c038d5515333fe861c03f08d883b11ade96b18256f0ec36b68d1db885e14b", func := "drayage/drayagelaw05.CellLeast", spec := "cellLeast", unfollowed := true, recurses := true, apart := false, narrowed := true }
def CellLeastUptoSaid : Prop := cellLeastUptoRow.holds Try.pinned (OpenSpec.upto cellLeastSpec)

/-- 'drayagelaw05.CellDuals', WHERE WHAT IT READS IS OF BULK AT MOST 1048576: true; the input reads as it did. -/
def cellDualsUptoRow : OpenClaim := { program := "ytodlbgncdggimaa", sum := "d66c038d5515333fe861c03f08d883b11ade96b18256f0ec36b68d1db885e14b", func := "drayage/drayagelaw05.CellDuals", spec := "cellDuals", unfollowed := true, recurses := true, apart := false, narrowed := true }
def CellDualsUptoSaid : Prop := cellDualsUptoRow.holds Try.pinned (OpenSpec.upto cellDualsSpec)

/-- 'drayagelaw05.CellBalances', WHERE WHAT IT READS IS OF BULK AT MOST 1048576: true; the input reads as it did. -/
def cellBalancesUptoRow : OpenClaim := { program := "ytodlbgncdggimaa", sum := "d66c038d5515333fe861c03f08d883b11ade96b18256f0ec36b68d1db885e14b", func := "drayage/drayagelaw05.CellBalances", spec := "cellBalances", unfollowed := true, recurses := true, apart := false, narrowed := true }
def CellBalancesUptoSaid : Prop := cellBalancesUptoRow.holds Try.pinned (OpenSpec.upto cellBalancesSpec)

end Rows
end Go.Proofs.Ytodlbgncdggimaa
