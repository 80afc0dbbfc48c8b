/-
  No cell of these rows narrows 'for every input' (looked for: loops, veiled, ifaces, maps, wideKeys, modest, calm, conditions, laid).
  DERIVED. THE GIVEN ROWS OF THIS SEAT. 10 by the template 'for every input the law returns true; each argument reads behind the call as it read before'; 0 by the template 'total and deterministic' (their statements: YtaidoaggmllcfaaTotals.lean).
  GIVEN WITH THE SEED: the statements are not yours to turn. If you find one false, say at which input.
  Laid BY PROGRAM, IN A SANDBOX (cutbox-rows.mjs): the forced cells as the released guide's own fill.sh prints them over the translation 8349042f63631d1a… (all of the seat's roots in one cut). By AI agents, Wed Nov 11 2026. No macro, syntax, notation, axiom, sorry.
-/
import Derived.Test.YtaidoaggmllcfaaChecked
import GoSem.Claim
import GoSem.ClaimJoined
import GoSem.ClaimMapViews
import Derived.JoinedTies
import Derived.KernelRfl
namespace Go.Proofs.Ytaidoaggmllcfaa
/- THE CELL 'sum', in the pinned program and in every row, IS THE sha256 OF THE DUMP (.gsa) THAT YtaidoaggmllcfaaProg.lean LOADS. Nothing in Lean hashes anything: it is a label: what it is worth is what the hold of that sum in a sandbox is worth. -/
noncomputable def Try.pinned : Pinned := { name := "ytaidoaggmllcfaa", sum := "8349042f63631d1a28522991a0d790215f97ae6348570d09b4239f4fc1e6a74a", checked := Try.checked }
namespace Rows
def none {H : Type} : Left H := { results := [], args := [] }

/-- 'drayagelaw06.SoftKernels': WHATEVER THE INPUT: true; the input reads as it did. -/
def softKernelsSpec : ChangeSpec := { name := "softKernels", fn := fun _ => fun
  | [d1, d2] => { results := [.lit (.bool true)], args := [d1, d2] }
  | _ => none }
def softKernelsRow : OpenClaim := { program := "ytaidoaggmllcfaa", sum := "8349042f63631d1a28522991a0d790215f97ae6348570d09b4239f4fc1e6a74a", func := "drayage/drayagelaw06.SoftKernels", spec := "softKernels", unfollowed := true, recurses := true, apart := false }
def SoftKernelsSaid : Prop := softKernelsRow.holds Try.pinned (OpenSpec.ofChange softKernelsSpec)

/-- ITS FALSE NEIGHBOUR: 'it returns false'. Refute it at one input. -/
def softKernelsWrong : ChangeSpec := { name := "softKernels", fn := fun _ => fun
  | [d1, d2] => { results := [.lit (.bool false)], args := [d1, d2] }
  | _ => none }
def SoftKernelsWrongFalsely : Prop := softKernelsRow.holds Try.pinned (OpenSpec.ofChange softKernelsWrong)

/-- 'drayagelaw06.SoftSteps': WHATEVER THE INPUT: true; the input reads as it did. -/
def softStepsSpec : ChangeSpec := { name := "softSteps", fn := fun _ => fun
  | [d1, d2] => { results := [.lit (.bool true)], args := [d1, d2] }
  | _ => none }
def softStepsRow : OpenClaim := { program := "ytaidoaggmllcfaa", sum := "8349042f63631d1a28522991a0d790215f97ae6348570d09b4239f4fc1e6a74a", func := "drayage/drayagelaw06.SoftSteps", spec := "softSteps", unfollowed := true, recurses := true, apart := false }
def SoftStepsSaid : Prop := softStepsRow.holds Try.pinned (OpenSpec.ofChange softStepsSpec)

/-- ITS FALSE NEIGHBOUR: 'it returns false'. Refute it at one input. -/
def softStepsWrong : ChangeSpec := { name := "softSteps", fn := fun _ => fun
  | [d1, d2] => { results := [.lit (.bool false)], args := [d1, d2] }
  | _ => none }
def SoftStepsWrongFalsely : Prop := softStepsRow.holds Try.pinned (OpenSpec.ofChange softStepsWrong)

/-- 'drayagelaw06.SoftFits': WHATEVER THE INPUT: true; the input reads as it did. -/
def softFitsSpec : ChangeSpec := { name := "softFits", fn := fun _ => fun
  | [d1, d2, d3] => { results := [.lit (.bool true)], args := [d1, d2, d3] }
  | _ => none }
def softFitsRow : OpenClaim := { program := "ytaidoaggmllcfaa", sum := "8349042f63631d1a28522991a0d790215f97ae6348570d09b4239f4fc1e6a74a", func := "drayage/drayagelaw06.SoftFits", spec := "softFits", unfollowed := true, recurses := true, apart := false }
def SoftFitsSaid : Prop := softFitsRow.holds Try.pinned (OpenSpec.ofChange softFitsSpec)

/-- ITS FALSE NEIGHBOUR: 'it returns false'. Refute it at one input. -/
def softFitsWrong : ChangeSpec := { name := "softFits", fn := fun _ => fun
  | [d1, d2, d3] => { results := [.lit (.bool false)], args := [d1, d2, d3] }
  | _ => none }
def SoftFitsWrongFalsely : Prop := softFitsRow.holds Try.pinned (OpenSpec.ofChange softFitsWrong)

/-- 'drayagelaw06.SoftCrosses': WHATEVER THE INPUT: true; the input reads as it did. -/
def softCrossesSpec : ChangeSpec := { name := "softCrosses", fn := fun _ => fun
  | [d1, d2] => { results := [.lit (.bool true)], args := [d1, d2] }
  | _ => none }
def softCrossesRow : OpenClaim := { program := "ytaidoaggmllcfaa", sum := "8349042f63631d1a28522991a0d790215f97ae6348570d09b4239f4fc1e6a74a", func := "drayage/drayagelaw06.SoftCrosses", spec := "softCrosses", unfollowed := true, recurses := true, apart := false }
def SoftCrossesSaid : Prop := softCrossesRow.holds Try.pinned (OpenSpec.ofChange softCrossesSpec)

/-- ITS FALSE NEIGHBOUR: 'it returns false'. Refute it at one input. -/
def softCrossesWrong : ChangeSpec := { name := "softCrosses", fn := fun _ => fun
  | [d1, d2] => { results := [.lit (.bool false)], args := [d1, d2] }
  | _ => none }
def SoftCrossesWrongFalsely : Prop := softCrossesRow.holds Try.pinned (OpenSpec.ofChange softCrossesWrong)

/-- 'drayagetop.TopSoft': WHATEVER THE INPUT: true; the input reads as it did. -/
def topSoftSpec : ChangeSpec := { name := "topSoft", fn := fun _ => fun
  | [d1, d2, d3] => { results := [.lit (.bool true)], args := [d1, d2, d3] }
  | _ => none }
def topSoftRow : OpenClaim := { program := "ytaidoaggmllcfaa", sum := "8349042f63631d1a28522991a0d790215f97ae6348570d09b4239f4fc1e6a74a", func := "drayage/drayagetop.TopSoft", spec := "topSoft", unfollowed := true, recurses := true, apart := false }
def TopSoftSaid : Prop := topSoftRow.holds Try.pinned (OpenSpec.ofChange topSoftSpec)

/-- ITS FALSE NEIGHBOUR: 'it returns false'. Refute it at one input. -/
def topSoftWrong : ChangeSpec := { name := "topSoft", fn := fun _ => fun
  | [d1, d2, d3] => { results := [.lit (.bool false)], args := [d1, d2, d3] }
  | _ => none }
def TopSoftWrongFalsely : Prop := topSoftRow.holds Try.pinned (OpenSpec.ofChange topSoftWrong)

/-- 'drayagelaw06.SoftMissing': WHATEVER THE INPUT: true; the input reads as it did. -/
def softMissingSpec : ChangeSpec := { name := "softMissing", fn := fun _ => fun
  | [d1, d2] => { results := [.lit (.bool true)], args := [d1, d2] }
  | _ => none }
def softMissingRow : OpenClaim := { program := "ytaidoaggmllcfaa", sum := "8349042f63631d1a28522991a0d790215f97ae6348570d09b4239f4fc1e6a74a", func := "drayage/drayagelaw06.SoftMissing", spec := "softMissing", unfollowed := true, recurses := true, apart := false }
def SoftMissingSaid : Prop := softMissingRow.holds Try.pinned (OpenSpec.ofChange softMissingSpec)

/-- ITS FALSE NEIGHBOUR: 'it returns false'. Refute it at one input. -/
def softMissingWrong : ChangeSpec := { name := "softMissing", fn := fun _ => fun
  | [d1, d2] => { results := [.lit (.bool false)], args := [d1, d2] }
  | _ => none }
def SoftMissingWrongFalsely : Prop := softMissingRow.holds Try.pinned (OpenSpec.ofChange softMissingWrong)

/-- 'drayagelaw06.SoftExact': WHATEVER THE INPUT: true; the input reads as it did. -/
def softExactSpec : ChangeSpec := { name := "softExact", fn := fun _ => fun
  | [d1, d2, d3] => { results := [.lit (.bool true)], args := [d1, d2, d3] }
  | _ => none }
def softExactRow : OpenClaim := { program := "ytaidoaggmllcfaa", sum := "8349042f63631d1a28522991a0d790215f97ae6348570d09b4239f4fc1e6a74a", func := "drayage/drayagelaw06.SoftExact", spec := "softExact", unfollowed := true, recurses := true, apart := false }
def SoftExactSaid : Prop := softExactRow.holds Try.pinned (OpenSpec.ofChange softExactSpec)

/-- ITS FALSE NEIGHBOUR: 'it returns false'. Refute it at one input. -/
def softExactWrong : ChangeSpec := { name := "softExact", fn := fun _ => fun
  | [d1, d2, d3] => { results := [.lit (.bool false)], args := [d1, d2, d3] }
  | _ => none }
def SoftExactWrongFalsely : Prop := softExactRow.holds Try.pinned (OpenSpec.ofChange softExactWrong)

/-- 'drayagelaw06.SoftRepairs': WHATEVER THE INPUT: true; the input reads as it did. -/
def softRepairsSpec : ChangeSpec := { name := "softRepairs", fn := fun _ => fun
  | [d1, d2] => { results := [.lit (.bool true)], args := [d1, d2] }
  | _ => none }
def softRepairsRow : OpenClaim := { program := "ytaidoaggmllcfaa", sum := "8349042f63631d1a28522991a0d790215f97ae6348570d09b4239f4fc1e6a74a", func := "drayage/drayagelaw06.SoftRepairs", spec := "softRepairs", unfollowed := true, recurses := true, apart := false }
def SoftRepairsSaid : Prop := softRepairsRow.holds Try.pinned (OpenSpec.ofChange softRepairsSpec)

/-- ITS FALSE NEIGHBOUR: 'it returns false'. Refute it at one input. -/
def softRepairsWrong : ChangeSpec := { name := "softRepairs", fn := fun _ => fun
  | [d1, d2] => { results := [.lit (.bool false)], args := [d1, d2] }
  | _ => none }
def SoftRepairsWrongFalsely : Prop := softRepairsRow.holds Try.pinned (OpenSpec.ofChange softRepairsWrong)

/-- 'drayagelaw06.SoftSofts': WHATEVER THE INPUT: true; the input reads as it did. -/
def softSoftsSpec : ChangeSpec := { name := "softSofts", fn := fun _ => fun
  | [d1, d2] => { results := [.lit (.bool true)], args := [d1, d2] }
  | _ => none }
def softSoftsRow : OpenClaim := { program := "ytaidoaggmllcfaa", sum := "8349042f63631d1a28522991a0d790215f97ae6348570d09b4239f4fc1e6a74a", func := "drayage/drayagelaw06.SoftSofts", spec := "softSofts", unfollowed := true, recurses := true, apart := false }
def SoftSoftsSaid : Prop := softSoftsRow.holds Try.pinned (OpenSpec.ofChange softSoftsSpec)

/-- ITS FALSE NEIGHBOUR: 'it returns false'. Refute it at one input. -/
def softSoftsWrong : ChangeSpec := { name := "softSofts", fn := fun _ => fun
  | [d1, d2] => { results := [.lit (.bool false)], args := [d1, d2] }
  | _ => none }
def SoftSoftsWrongFalsely : Prop := softSoftsRow.holds Try.pinned (OpenSpec.ofChange softSoftsWrong)

/-- 'drayagelaw06.SoftCosts': WHATEVER THE INPUT: true; the input reads as it did. -/
def softCostsSpec : ChangeSpec := { name := "softCosts", fn := fun _ => fun
  | [d1, d2] => { results := [.lit (.bool true)], args := [d1, d2] }
  | _ => none }
def softCostsRow : OpenClaim := { program := "ytaidoaggmllcfaa", sum := "8349042f63631d1a28522991a0d790215f97ae6348570d09b4239f4fc1e6a74a", func := "drayage/drayagelaw06.SoftCosts", spec := "softCosts", unfollowed := true, recurses := true, apart := false }
def SoftCostsSaid : Prop := softCostsRow.holds Try.pinned (OpenSpec.ofChange softCostsSpec)

/-- ITS FALSE NEIGHBOUR: 'it returns false'. Refute it at one input. -/
def softCostsWrong : ChangeSpec := { name := "softCosts", fn := fun _ => fun
  | [d1, d2] => { results := [.lit (.bool false)], args := [d1, d2] }
  | _ => none }
def SoftCostsWrongFalsely : Prop := softCostsRow.holds Try.pinned (OpenSpec.ofChange softCostsWrong)

/- THE SECOND FORM. 'bulk': how many values and letters a reading holds, each counted each time it is reached (what is shared counts as often as it is met; a slice's spare places count too). A statement '..UptoSaid' is the law's where the arguments, and the package variables that the reading takes, are together of bulk at most 1048576: NARROWER than '..Said'. Prove '..Said' where nothing that the law and all that it calls make is longer than what came in: it says more and counts as full. Else prove '..UptoSaid'. A law counts once. -/
mutual
def uptoBulk {H : Type} : DataW H → Nat
  | .lit (.string bytes) => bytes.length + 1
  | .lit _ => 1
  | .nil => 1
  | .ptr d => uptoBulk d + 1
  | .slice elems spare => uptoBulkAll elems + uptoBulkAll spare + 1
  | .agg parts => uptoBulkAll parts + 1
  | .iface _ d => uptoBulk d + 1
  | .map entries => uptoBulkEntries entries + 1
  | .held _ => 1
def uptoBulkAll {H : Type} : List (DataW H) → Nat
  | [] => 0
  | d :: r => uptoBulk d + uptoBulkAll r
def uptoBulkEntries {H : Type} : List (Lit × DataW H) → Nat
  | [] => 0
  | x :: r => uptoBulkEntry x + uptoBulkEntries r
def uptoBulkEntry {H : Type} : Lit × DataW H → Nat
  | (.string bytes, d) => bytes.length + uptoBulk d + 1
  | (_, d) => uptoBulk d + 1
 end
def uptoSmall : (H : Type) → List (DataW H) → Bool := fun _ ds => decide (uptoBulkAll ds ≤ 1048576)
def OpenSpec.upto (s : _root_.Go.ChangeSpec) : _root_.Go.OpenSpec := { _root_.Go.OpenSpec.ofChange s with cond := some uptoSmall }

/-- 'drayagelaw06.SoftKernels', WHERE WHAT IT READS IS OF BULK AT MOST 1048576: true; the input reads as it did. -/
def softKernelsUptoRow : OpenClaim := { program := "ytaidoaggmllcfaa", sum := "8349042f63631d1a28522991a0d790215f97ae6348570d09b4239f4fc1e6a74a", func := "drayage/drayagelaw06.SoftKernels", spec := "softKernels", unfollowed := true, recurses := true, apart := false, narrowed := true }
def SoftKernelsUptoSaid : Prop := softKernelsUptoRow.holds Try.pinned (OpenSpec.upto softKernelsSpec)

/-- 'drayagelaw06.SoftSteps', WHERE WHAT IT READS IS OF BULK AT MOST 1048576: true; the input reads as it did. -/
def softStepsUptoRow : OpenClaim := { program := "ytaidoaggmllcfaa", sum := "8349042f63631d1a28522991a0d790215f97ae6348570d09b4239f4fc1e6a74a", func := "drayage/drayagelaw06.SoftSteps", spec := "softSteps", unfollowed := true, recurses := true, apart := false, narrowed := true }
def SoftStepsUptoSaid : Prop := softStepsUptoRow.holds Try.pinned (OpenSpec.upto softStepsSpec)

/-- 'drayagelaw06.SoftFits', WHERE WHAT IT READS IS OF BULK AT MOST 1048576: true; the input reads as it did. -/
def softFitsUptoRow : OpenClaim := { program := "ytaidoaggmllcfaa", sum := "8349042f63631d1a28522991a0d790215f97ae6348570d09b4239f4fc1e6a74a", func := "drayage/drayagelaw06.SoftFits", spec := "softFits", unfollowed := true, recurses := true, apart := false, narrowed := true }
def SoftFitsUptoSaid : Prop := softFitsUptoRow.holds Try.pinned (OpenSpec.upto softFitsSpec)

/-- 'drayagelaw06.SoftCrosses', WHERE WHAT IT READS IS OF BULK AT MOST 1048576: true; the input reads as it did. -/
def softCrossesUptoRow : OpenClaim := { program := "ytaidoaggmllcfaa", sum := "8349042f63631d1a28522991a0d790215f97ae6348570d09b4239f4fc1e6a74a", func := "drayage/drayagelaw06.SoftCrosses", spec := "softCrosses", unfollowed := true, recurses := true, apart := false, narrowed := true }
def SoftCrossesUptoSaid : Prop := softCrossesUptoRow.holds Try.pinned (OpenSpec.upto softCrossesSpec)

/-- 'drayagetop.TopSoft', WHERE WHAT IT READS IS OF BULK AT MOST 1048576: true; the input reads as it did. -/
def topSoftUptoRow : OpenClaim := { program := "ytaidoaggmllcfaa", sum := "8349042f63631d1a28522991a0d790215f97ae6348570d09b4239f4fc1e6a74a", func := "drayage/drayagetop.TopSoft", spec := "topSoft", unfollowed := true, recurses := true, apart := false, narrowed := true }
def TopSoftUptoSaid : Prop := topSoftUptoRow.holds Try.pinned (OpenSpec.upto topSoftSpec)

/-- 'drayagelaw06.SoftMissing', WHERE WHAT IT READS IS OF BULK AT MOST 1048576: true; the input reads as it did. -/
def softMissingUptoRow : OpenClaim := { program := "ytaidoaggmllcfaa", sum := "8349042f63631d1a28522991a0d790215f97ae6348570d09b4239f4fc1e6a74a", func := "drayage/drayagelaw06.SoftMissing", spec := "softMissing", unfollowed := true, recurses := true, apart := false, narrowed := true }
def SoftMissingUptoSaid : Prop := softMissingUptoRow.holds Try.pinned (OpenSpec.upto softMissingSpec)

/-- 'drayagelaw06.SoftExact', WHERE WHAT IT READS IS OF BULK AT MOST 1048576: true; the input reads as it did. -/
def softExactUptoRow : OpenClaim := { program := "ytaidoaggmllcfaa", sum := "8349042f63631d1a28522991a0d790215f97ae6348570d09b4239f4fc1e6a74a", func := "drayage/drayagelaw06.SoftExact", spec := "softExact", unfollowed := true, recurses := true, apart := false, narrowed := true }
def SoftExactUptoSaid : Prop := softExactUptoRow.holds Try.pinned (OpenSpec.upto softExactSpec)

/-- 'drayagelaw06.SoftRepairs', WHERE WHAT IT READS IS OF BULK AT MOST 1048576: true; the input reads as it did. -/
def softRepairsUptoRow : OpenClaim := { program := "ytaidoaggmllcfaa", sum := "8349042f63631d1a28522991a0d790215f97ae6348570d09b4239f4fc1e6a74a", func := "drayage/drayagelaw06.SoftRepairs", spec := "softRepairs", unfollowed := true, recurses := true, apart := false, narrowed := true }
def SoftRepairsUptoSaid : Prop := softRepairsUptoRow.holds Try.pinned (OpenSpec.upto softRepairsSpec)

/-- 'drayagelaw06.SoftSofts', WHERE WHAT IT READS IS OF BULK AT MOST 1048576: true; the input reads as it did. -/
def softSoftsUptoRow : OpenClaim := { program := "ytaidoaggmllcfaa", sum := "8349042f63631d1a28522991a0d790215f97ae6348570d09b4239f4fc1e6a74a", func := "drayage/drayagelaw06.SoftSofts", spec := "softSofts", unfollowed := true, recurses := true, apart := false, narrowed := true }
def SoftSoftsUptoSaid : Prop := softSoftsUptoRow.holds Try.pinned (OpenSpec.upto softSoftsSpec)

/-- 'drayagelaw06.SoftCosts', WHERE WHAT IT READS IS OF BULK AT MOST 1048576: true; the input reads as it did. -/
def softCostsUptoRow : OpenClaim := { program := "ytaidoaggmllcfaa", sum := "8349042f63631d1a28522991a0d790215f97ae6348570d09b4239f4fc1e6a74a", func := "drayage/drayagelaw06.SoftCosts", spec := "softCosts", unfollowed := true, recurses := true, apart := false, narrowed := true }
def SoftCostsUptoSaid : Prop := softCostsUptoRow.holds Try.pinned (OpenSpec.upto softCostsSpec)

end Rows
end Go.Proofs.Ytaidoaggmllcfaa
