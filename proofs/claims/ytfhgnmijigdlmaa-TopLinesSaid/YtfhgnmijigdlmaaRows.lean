/-
  No cell of these rows narrows 'for every input' (looked for: loops, veiled, ifaces, maps, wideKeys, modest, calm, conditions, laid).
  DERIVED. THE GIVEN ROWS OF THIS SEAT. 15 by the template 'for every input the law returns true; each argument reads behind the call as it read before'; 0 by the template 'total and deterministic' (their statements: YtfhgnmijigdlmaaTotals.lean).
  GIVEN WITH THE SEED: the statements are not yours to turn. If you find one false, say at which input.
  Laid BY PROGRAM, IN A SANDBOX (cutbox-rows.mjs): the forced cells as the released guide's own fill.sh prints them over the translation ebac9d723a0c12d7… (all of the seat's roots in one cut). By AI agents, Wed Nov 11 2026. No macro, syntax, notation, axiom, sorry.
-/
import Derived.Test.YtfhgnmijigdlmaaChecked
import GoSem.Claim
import GoSem.ClaimJoined
import GoSem.ClaimMapViews
import Derived.JoinedTies
import Derived.KernelRfl
namespace Go.Proofs.Ytfhgnmijigdlmaa
/- THE CELL 'sum', in the pinned program and in every row, IS THE sha256 OF THE DUMP (.gsa) THAT YtfhgnmijigdlmaaProg.lean LOADS. Nothing in Lean hashes anything: it is a label: what it is worth is what the hold of that sum in a sandbox is worth. -/
noncomputable def Try.pinned : Pinned := { name := "ytfhgnmijigdlmaa", sum := "ebac9d723a0c12d7fbc7009fe0ac92e3e03d7b4044f96819c15cb19cde00ac41", checked := Try.checked }
namespace Rows
def none {H : Type} : Left H := { results := [], args := [] }

/-- 'drayagelaw02.LineTriangles': WHATEVER THE INPUT: true; the input reads as it did. -/
def lineTrianglesSpec : ChangeSpec := { name := "lineTriangles", fn := fun _ => fun
  | [d1, d2] => { results := [.lit (.bool true)], args := [d1, d2] }
  | _ => none }
def lineTrianglesRow : OpenClaim := { program := "ytfhgnmijigdlmaa", sum := "ebac9d723a0c12d7fbc7009fe0ac92e3e03d7b4044f96819c15cb19cde00ac41", func := "drayage/drayagelaw02.LineTriangles", spec := "lineTriangles", unfollowed := true, recurses := true, apart := false }
def LineTrianglesSaid : Prop := lineTrianglesRow.holds Try.pinned (OpenSpec.ofChange lineTrianglesSpec)

/-- ITS FALSE NEIGHBOUR: 'it returns false'. Refute it at one input. -/
def lineTrianglesWrong : ChangeSpec := { name := "lineTriangles", fn := fun _ => fun
  | [d1, d2] => { results := [.lit (.bool false)], args := [d1, d2] }
  | _ => none }
def LineTrianglesWrongFalsely : Prop := lineTrianglesRow.holds Try.pinned (OpenSpec.ofChange lineTrianglesWrong)

/-- 'drayagelaw02.LineHeights': WHATEVER THE INPUT: true; the input reads as it did. -/
def lineHeightsSpec : ChangeSpec := { name := "lineHeights", fn := fun _ => fun
  | [d1, d2] => { results := [.lit (.bool true)], args := [d1, d2] }
  | _ => none }
def lineHeightsRow : OpenClaim := { program := "ytfhgnmijigdlmaa", sum := "ebac9d723a0c12d7fbc7009fe0ac92e3e03d7b4044f96819c15cb19cde00ac41", func := "drayage/drayagelaw02.LineHeights", spec := "lineHeights", unfollowed := true, recurses := true, apart := false }
def LineHeightsSaid : Prop := lineHeightsRow.holds Try.pinned (OpenSpec.ofChange lineHeightsSpec)

/-- ITS FALSE NEIGHBOUR: 'it returns false'. Refute it at one input. -/
def lineHeightsWrong : ChangeSpec := { name := "lineHeights", fn := fun _ => fun
  | [d1, d2] => { results := [.lit (.bool false)], args := [d1, d2] }
  | _ => none }
def LineHeightsWrongFalsely : Prop := lineHeightsRow.holds Try.pinned (OpenSpec.ofChange lineHeightsWrong)

/-- 'drayagelaw02.LineAreas': WHATEVER THE INPUT: true; the input reads as it did. -/
def lineAreasSpec : ChangeSpec := { name := "lineAreas", fn := fun _ => fun
  | [d] => { results := [.lit (.bool true)], args := [d] }
  | _ => none }
def lineAreasRow : OpenClaim := { program := "ytfhgnmijigdlmaa", sum := "ebac9d723a0c12d7fbc7009fe0ac92e3e03d7b4044f96819c15cb19cde00ac41", func := "drayage/drayagelaw02.LineAreas", spec := "lineAreas", unfollowed := true, recurses := true, apart := false }
def LineAreasSaid : Prop := lineAreasRow.holds Try.pinned (OpenSpec.ofChange lineAreasSpec)

/-- ITS FALSE NEIGHBOUR: 'it returns false'. Refute it at one input. -/
def lineAreasWrong : ChangeSpec := { name := "lineAreas", fn := fun _ => fun
  | [d] => { results := [.lit (.bool false)], args := [d] }
  | _ => none }
def LineAreasWrongFalsely : Prop := lineAreasRow.holds Try.pinned (OpenSpec.ofChange lineAreasWrong)

/-- 'drayagelaw02.LineJoins': WHATEVER THE INPUT: true; the input reads as it did. -/
def lineJoinsSpec : ChangeSpec := { name := "lineJoins", fn := fun _ => fun
  | [d] => { results := [.lit (.bool true)], args := [d] }
  | _ => none }
def lineJoinsRow : OpenClaim := { program := "ytfhgnmijigdlmaa", sum := "ebac9d723a0c12d7fbc7009fe0ac92e3e03d7b4044f96819c15cb19cde00ac41", func := "drayage/drayagelaw02.LineJoins", spec := "lineJoins", unfollowed := true, recurses := true, apart := false }
def LineJoinsSaid : Prop := lineJoinsRow.holds Try.pinned (OpenSpec.ofChange lineJoinsSpec)

/-- ITS FALSE NEIGHBOUR: 'it returns false'. Refute it at one input. -/
def lineJoinsWrong : ChangeSpec := { name := "lineJoins", fn := fun _ => fun
  | [d] => { results := [.lit (.bool false)], args := [d] }
  | _ => none }
def LineJoinsWrongFalsely : Prop := lineJoinsRow.holds Try.pinned (OpenSpec.ofChange lineJoinsWrong)

/-- 'drayagelaw02.LineLeast': WHATEVER THE INPUT: true; the input reads as it did. -/
def lineLeastSpec : ChangeSpec := { name := "lineLeast", fn := fun _ => fun
  | [d1, d2] => { results := [.lit (.bool true)], args := [d1, d2] }
  | _ => none }
def lineLeastRow : OpenClaim := { program := "ytfhgnmijigdlmaa", sum := "ebac9d723a0c12d7fbc7009fe0ac92e3e03d7b4044f96819c15cb19cde00ac41", func := "drayage/drayagelaw02.LineLeast", spec := "lineLeast", unfollowed := true, recurses := true, apart := false }
def LineLeastSaid : Prop := lineLeastRow.holds Try.pinned (OpenSpec.ofChange lineLeastSpec)

/-- ITS FALSE NEIGHBOUR: 'it returns false'. Refute it at one input. -/
def lineLeastWrong : ChangeSpec := { name := "lineLeast", fn := fun _ => fun
  | [d1, d2] => { results := [.lit (.bool false)], args := [d1, d2] }
  | _ => none }
def LineLeastWrongFalsely : Prop := lineLeastRow.holds Try.pinned (OpenSpec.ofChange lineLeastWrong)

/-- 'drayagelaw02.LineShifts': WHATEVER THE INPUT: true; the input reads as it did. -/
def lineShiftsSpec : ChangeSpec := { name := "lineShifts", fn := fun _ => fun
  | [d1, d2] => { results := [.lit (.bool true)], args := [d1, d2] }
  | _ => none }
def lineShiftsRow : OpenClaim := { program := "ytfhgnmijigdlmaa", sum := "ebac9d723a0c12d7fbc7009fe0ac92e3e03d7b4044f96819c15cb19cde00ac41", func := "drayage/drayagelaw02.LineShifts", spec := "lineShifts", unfollowed := true, recurses := true, apart := false }
def LineShiftsSaid : Prop := lineShiftsRow.holds Try.pinned (OpenSpec.ofChange lineShiftsSpec)

/-- ITS FALSE NEIGHBOUR: 'it returns false'. Refute it at one input. -/
def lineShiftsWrong : ChangeSpec := { name := "lineShifts", fn := fun _ => fun
  | [d1, d2] => { results := [.lit (.bool false)], args := [d1, d2] }
  | _ => none }
def LineShiftsWrongFalsely : Prop := lineShiftsRow.holds Try.pinned (OpenSpec.ofChange lineShiftsWrong)

/-- 'drayagelaw02.LineMoves': WHATEVER THE INPUT: true; the input reads as it did. -/
def lineMovesSpec : ChangeSpec := { name := "lineMoves", fn := fun _ => fun
  | [d1, d2] => { results := [.lit (.bool true)], args := [d1, d2] }
  | _ => none }
def lineMovesRow : OpenClaim := { program := "ytfhgnmijigdlmaa", sum := "ebac9d723a0c12d7fbc7009fe0ac92e3e03d7b4044f96819c15cb19cde00ac41", func := "drayage/drayagelaw02.LineMoves", spec := "lineMoves", unfollowed := true, recurses := true, apart := false }
def LineMovesSaid : Prop := lineMovesRow.holds Try.pinned (OpenSpec.ofChange lineMovesSpec)

/-- ITS FALSE NEIGHBOUR: 'it returns false'. Refute it at one input. -/
def lineMovesWrong : ChangeSpec := { name := "lineMoves", fn := fun _ => fun
  | [d1, d2] => { results := [.lit (.bool false)], args := [d1, d2] }
  | _ => none }
def LineMovesWrongFalsely : Prop := lineMovesRow.holds Try.pinned (OpenSpec.ofChange lineMovesWrong)

/-- 'drayagelaw02.LineMoved': WHATEVER THE INPUT: true; the input reads as it did. -/
def lineMovedSpec : ChangeSpec := { name := "lineMoved", fn := fun _ => fun
  | [d1, d2] => { results := [.lit (.bool true)], args := [d1, d2] }
  | _ => none }
def lineMovedRow : OpenClaim := { program := "ytfhgnmijigdlmaa", sum := "ebac9d723a0c12d7fbc7009fe0ac92e3e03d7b4044f96819c15cb19cde00ac41", func := "drayage/drayagelaw02.LineMoved", spec := "lineMoved", unfollowed := true, recurses := true, apart := false }
def LineMovedSaid : Prop := lineMovedRow.holds Try.pinned (OpenSpec.ofChange lineMovedSpec)

/-- ITS FALSE NEIGHBOUR: 'it returns false'. Refute it at one input. -/
def lineMovedWrong : ChangeSpec := { name := "lineMoved", fn := fun _ => fun
  | [d1, d2] => { results := [.lit (.bool false)], args := [d1, d2] }
  | _ => none }
def LineMovedWrongFalsely : Prop := lineMovedRow.holds Try.pinned (OpenSpec.ofChange lineMovedWrong)

/-- 'drayagelaw02.LineUnits': WHATEVER THE INPUT: true; the input reads as it did. -/
def lineUnitsSpec : ChangeSpec := { name := "lineUnits", fn := fun _ => fun
  | [d1, d2] => { results := [.lit (.bool true)], args := [d1, d2] }
  | _ => none }
def lineUnitsRow : OpenClaim := { program := "ytfhgnmijigdlmaa", sum := "ebac9d723a0c12d7fbc7009fe0ac92e3e03d7b4044f96819c15cb19cde00ac41", func := "drayage/drayagelaw02.LineUnits", spec := "lineUnits", unfollowed := true, recurses := true, apart := false }
def LineUnitsSaid : Prop := lineUnitsRow.holds Try.pinned (OpenSpec.ofChange lineUnitsSpec)

/-- ITS FALSE NEIGHBOUR: 'it returns false'. Refute it at one input. -/
def lineUnitsWrong : ChangeSpec := { name := "lineUnits", fn := fun _ => fun
  | [d1, d2] => { results := [.lit (.bool false)], args := [d1, d2] }
  | _ => none }
def LineUnitsWrongFalsely : Prop := lineUnitsRow.holds Try.pinned (OpenSpec.ofChange lineUnitsWrong)

/-- 'drayagelaw02.LineProves': WHATEVER THE INPUT: true; the input reads as it did. -/
def lineProvesSpec : ChangeSpec := { name := "lineProves", fn := fun _ => fun
  | [d] => { results := [.lit (.bool true)], args := [d] }
  | _ => none }
def lineProvesRow : OpenClaim := { program := "ytfhgnmijigdlmaa", sum := "ebac9d723a0c12d7fbc7009fe0ac92e3e03d7b4044f96819c15cb19cde00ac41", func := "drayage/drayagelaw02.LineProves", spec := "lineProves", unfollowed := true, recurses := true, apart := false }
def LineProvesSaid : Prop := lineProvesRow.holds Try.pinned (OpenSpec.ofChange lineProvesSpec)

/-- ITS FALSE NEIGHBOUR: 'it returns false'. Refute it at one input. -/
def lineProvesWrong : ChangeSpec := { name := "lineProves", fn := fun _ => fun
  | [d] => { results := [.lit (.bool false)], args := [d] }
  | _ => none }
def LineProvesWrongFalsely : Prop := lineProvesRow.holds Try.pinned (OpenSpec.ofChange lineProvesWrong)

/-- 'drayagelaw02.LineLoads': WHATEVER THE INPUT: true; the input reads as it did. -/
def lineLoadsSpec : ChangeSpec := { name := "lineLoads", fn := fun _ => fun
  | [d1, d2] => { results := [.lit (.bool true)], args := [d1, d2] }
  | _ => none }
def lineLoadsRow : OpenClaim := { program := "ytfhgnmijigdlmaa", sum := "ebac9d723a0c12d7fbc7009fe0ac92e3e03d7b4044f96819c15cb19cde00ac41", func := "drayage/drayagelaw02.LineLoads", spec := "lineLoads", unfollowed := true, recurses := true, apart := false }
def LineLoadsSaid : Prop := lineLoadsRow.holds Try.pinned (OpenSpec.ofChange lineLoadsSpec)

/-- ITS FALSE NEIGHBOUR: 'it returns false'. Refute it at one input. -/
def lineLoadsWrong : ChangeSpec := { name := "lineLoads", fn := fun _ => fun
  | [d1, d2] => { results := [.lit (.bool false)], args := [d1, d2] }
  | _ => none }
def LineLoadsWrongFalsely : Prop := lineLoadsRow.holds Try.pinned (OpenSpec.ofChange lineLoadsWrong)

/-- 'drayagelaw02.LineOrdered': WHATEVER THE INPUT: true; the input reads as it did. -/
def lineOrderedSpec : ChangeSpec := { name := "lineOrdered", fn := fun _ => fun
  | [d] => { results := [.lit (.bool true)], args := [d] }
  | _ => none }
def lineOrderedRow : OpenClaim := { program := "ytfhgnmijigdlmaa", sum := "ebac9d723a0c12d7fbc7009fe0ac92e3e03d7b4044f96819c15cb19cde00ac41", func := "drayage/drayagelaw02.LineOrdered", spec := "lineOrdered", unfollowed := true, recurses := true, apart := false }
def LineOrderedSaid : Prop := lineOrderedRow.holds Try.pinned (OpenSpec.ofChange lineOrderedSpec)

/-- ITS FALSE NEIGHBOUR: 'it returns false'. Refute it at one input. -/
def lineOrderedWrong : ChangeSpec := { name := "lineOrdered", fn := fun _ => fun
  | [d] => { results := [.lit (.bool false)], args := [d] }
  | _ => none }
def LineOrderedWrongFalsely : Prop := lineOrderedRow.holds Try.pinned (OpenSpec.ofChange lineOrderedWrong)

/-- 'drayagelaw02.LineMeans': WHATEVER THE INPUT: true; the input reads as it did. -/
def lineMeansSpec : ChangeSpec := { name := "lineMeans", fn := fun _ => fun
  | [d1, d2] => { results := [.lit (.bool true)], args := [d1, d2] }
  | _ => none }
def lineMeansRow : OpenClaim := { program := "ytfhgnmijigdlmaa", sum := "ebac9d723a0c12d7fbc7009fe0ac92e3e03d7b4044f96819c15cb19cde00ac41", func := "drayage/drayagelaw02.LineMeans", spec := "lineMeans", unfollowed := true, recurses := true, apart := false }
def LineMeansSaid : Prop := lineMeansRow.holds Try.pinned (OpenSpec.ofChange lineMeansSpec)

/-- ITS FALSE NEIGHBOUR: 'it returns false'. Refute it at one input. -/
def lineMeansWrong : ChangeSpec := { name := "lineMeans", fn := fun _ => fun
  | [d1, d2] => { results := [.lit (.bool false)], args := [d1, d2] }
  | _ => none }
def LineMeansWrongFalsely : Prop := lineMeansRow.holds Try.pinned (OpenSpec.ofChange lineMeansWrong)

/-- 'drayagelaw02.LineBounds': WHATEVER THE INPUT: true; the input reads as it did. -/
def lineBoundsSpec : ChangeSpec := { name := "lineBounds", fn := fun _ => fun
  | [d1, d2] => { results := [.lit (.bool true)], args := [d1, d2] }
  | _ => none }
def lineBoundsRow : OpenClaim := { program := "ytfhgnmijigdlmaa", sum := "ebac9d723a0c12d7fbc7009fe0ac92e3e03d7b4044f96819c15cb19cde00ac41", func := "drayage/drayagelaw02.LineBounds", spec := "lineBounds", unfollowed := true, recurses := true, apart := false }
def LineBoundsSaid : Prop := lineBoundsRow.holds Try.pinned (OpenSpec.ofChange lineBoundsSpec)

/-- ITS FALSE NEIGHBOUR: 'it returns false'. Refute it at one input. -/
def lineBoundsWrong : ChangeSpec := { name := "lineBounds", fn := fun _ => fun
  | [d1, d2] => { results := [.lit (.bool false)], args := [d1, d2] }
  | _ => none }
def LineBoundsWrongFalsely : Prop := lineBoundsRow.holds Try.pinned (OpenSpec.ofChange lineBoundsWrong)

/-- 'drayagetop.TopLines': WHATEVER THE INPUT: true; the input reads as it did. -/
def topLinesSpec : ChangeSpec := { name := "topLines", fn := fun _ => fun
  | [d] => { results := [.lit (.bool true)], args := [d] }
  | _ => none }
def topLinesRow : OpenClaim := { program := "ytfhgnmijigdlmaa", sum := "ebac9d723a0c12d7fbc7009fe0ac92e3e03d7b4044f96819c15cb19cde00ac41", func := "drayage/drayagetop.TopLines", spec := "topLines", unfollowed := true, recurses := true, apart := false }
def TopLinesSaid : Prop := topLinesRow.holds Try.pinned (OpenSpec.ofChange topLinesSpec)

/-- ITS FALSE NEIGHBOUR: 'it returns false'. Refute it at one input. -/
def topLinesWrong : ChangeSpec := { name := "topLines", fn := fun _ => fun
  | [d] => { results := [.lit (.bool false)], args := [d] }
  | _ => none }
def TopLinesWrongFalsely : Prop := topLinesRow.holds Try.pinned (OpenSpec.ofChange topLinesWrong)

/- THE SECOND FORM. 'bulk': how many values and letters a reading holds, each counted each time it is reached (what is shared counts as often as it is met; a slice's spare places count too). A statement '..UptoSaid' is the law's where the arguments, and the package variables that the reading takes, are together of bulk at most 1048576: NARROWER than '..Said'. Prove '..Said' where nothing that the law and all that it calls make is longer than what came in: it says more and counts as full. Else prove '..UptoSaid'. A law counts once. -/
mutual
def uptoBulk {H : Type} : DataW H → Nat
  | .lit (.string bytes) => bytes.length + 1
  | .lit _ => 1
  | .nil => 1
  | .ptr d => uptoBulk d + 1
  | .slice elems spare => uptoBulkAll elems + uptoBulkAll spare + 1
  | .agg parts => uptoBulkAll parts + 1
  | .iface _ d => uptoBulk d + 1
  | .map entries => uptoBulkEntries entries + 1
  | .held _ => 1
def uptoBulkAll {H : Type} : List (DataW H) → Nat
  | [] => 0
  | d :: r => uptoBulk d + uptoBulkAll r
def uptoBulkEntries {H : Type} : List (Lit × DataW H) → Nat
  | [] => 0
  | x :: r => uptoBulkEntry x + uptoBulkEntries r
def uptoBulkEntry {H : Type} : Lit × DataW H → Nat
  | (.string bytes, d) => bytes.length + uptoBulk d + 1
  | (_, d) => uptoBulk d + 1
 end
def uptoSmall : (H : Type) → List (DataW H) → Bool := fun _ ds => decide (uptoBulkAll ds ≤ 1048576)
def OpenSpec.upto (s : _root_.Go.ChangeSpec) : _root_.Go.OpenSpec := { _root_.Go.OpenSpec.ofChange s with cond := some uptoSmall }

/-- 'drayagelaw02.LineTriangles', WHERE WHAT IT READS IS OF BULK AT MOST 1048576: true; the input reads as it did. -/
def lineTrianglesUptoRow : OpenClaim := { program := "ytfhgnmijigdlmaa", sum := "ebac9d723a0c12d7fbc7009fe0ac92e3e03d7b4044f96819c15cb19cde00ac41", func := "drayage/drayagelaw02.LineTriangles", spec := "lineTriangles", unfollowed := true, recurses := true, apart := false, narrowed := true }
def LineTrianglesUptoSaid : Prop := lineTrianglesUptoRow.holds Try.pinned (OpenSpec.upto lineTrianglesSpec)

/-- 'drayagelaw02.LineHeights', WHERE WHAT IT READS IS OF BULK AT MOST 1048576: true; the input reads as it did. -/
def lineHeightsUptoRow : OpenClaim := { program := "ytfhgnmijigdlmaa", sum := "ebac9d723a0c12d7fbc7009fe0ac92e3e03d7b4044f96819c15cb19cde00ac41", func := "drayage/drayagelaw02.LineHeights", spec := "lineHeights", unfollowed := true, recurses := true, apart := false, narrowed := true }
def LineHeightsUptoSaid : Prop := lineHeightsUptoRow.holds Try.pinned (OpenSpec.upto lineHeightsSpec)

/-- 'drayagelaw02.LineAreas', WHERE WHAT IT READS IS OF BULK AT MOST 1048576: true; the input reads as it did. -/
def lineAreasUptoRow : OpenClaim := { program := "ytfhgnmijigdlmaa", sum := "ebac9d723a0c12d7fbc7009fe0ac92e3e03d7b4044f96819c15cb19cde00ac41", func := "drayage/drayagelaw02.LineAreas", spec := "lineAreas", unfollowed := true, recurses := true, apart := false, narrowed := true }
def LineAreasUptoSaid : Prop := lineAreasUptoRow.holds Try.pinned (OpenSpec.upto lineAreasSpec)

/-- 'drayagelaw02.LineJoins', WHERE WHAT IT READS IS OF BULK AT MOST 1048576: true; the input reads as it did. -/
def lineJoinsUptoRow : OpenClaim := { program := "ytfhgnmijigdlmaa", sum := "ebac9d723a0c12d7fbc7009fe0ac92e3e03d7b4044f96819c15cb19cde00ac41", func := "drayage/drayagelaw02.LineJoins", spec := "lineJoins", unfollowed := true, recurses := true, apart := false, narrowed := true }
def LineJoinsUptoSaid : Prop := lineJoinsUptoRow.holds Try.pinned (OpenSpec.upto lineJoinsSpec)

/-- 'drayagelaw02.LineLeast', WHERE WHAT IT READS IS OF BULK AT MOST 1048576: true; the input reads as it did. -/
def lineLeastUptoRow : OpenClaim := { program := "ytfhgnmijigdlmaa", sum := "ebac9d723a0c12d7fbc7009fe0ac92e3e03d7b4044f96819c15cb19cde00ac41", func := "drayage/drayagelaw02.LineLeast", spec := "lineLeast", unfollowed := true, recurses := true, apart := false, narrowed := true }
def LineLeastUptoSaid : Prop := lineLeastUptoRow.holds Try.pinned (OpenSpec.upto lineLeastSpec)

/-- 'drayagelaw02.LineShifts', WHERE WHAT IT READS IS OF BULK AT MOST 1048576: true; the input reads as it did. -/
def lineShiftsUptoRow : OpenClaim := { program := "ytfhgnmijigdlmaa", sum := "ebac9d723a0c12d7fbc7009fe0ac92e3e03d7b4044f96819c15cb19cde00ac41", func := "drayage/drayagelaw02.LineShifts", spec := "lineShifts", unfollowed := true, recurses := true, apart := false, narrowed := true }
def LineShiftsUptoSaid : Prop := lineShiftsUptoRow.holds Try.pinned (OpenSpec.upto lineShiftsSpec)

/-- 'drayagelaw02.LineMoves', WHERE WHAT IT READS IS OF BULK AT MOST 1048576: true; the input reads as it did. -/
def lineMovesUptoRow : OpenClaim := { program := "ytfhgnmijigdlmaa", sum := "ebac9d723a0c12d7fbc7009fe0ac92e3e03d7b4044f96819c15cb19cde00ac41", func := "drayage/drayagelaw02.LineMoves", spec := "lineMoves", unfollowed := true, recurses := true, apart := false, narrowed := true }
def LineMovesUptoSaid : Prop := lineMovesUptoRow.holds Try.pinned (OpenSpec.upto lineMovesSpec)

/-- 'drayagelaw02.LineMoved', WHERE WHAT IT READS IS OF BULK AT MOST 1048576: true; the input reads as it did. -/
def lineMovedUptoRow : OpenClaim := { program := "ytfhgnmijigdlmaa", sum := "ebac9d723a0c12d7fbc7009fe0ac92e3e03d7b4044f96819c15cb19cde00ac41", func := "drayage/drayagelaw02.LineMoved", spec := "lineMoved", unfollowed := true, recurses := true, apart := false, narrowed := true }
def LineMovedUptoSaid : Prop := lineMovedUptoRow.holds Try.pinned (OpenSpec.upto lineMovedSpec)

/-- 'drayagelaw02.LineUnits', WHERE WHAT IT READS IS OF BULK AT MOST 1048576: true; the input reads as it did. -/
def lineUnitsUptoRow : OpenClaim := { program := "ytfhgnmijigdlmaa", sum := "ebac9d723a0c12d7fbc7009fe0ac92e3e03d7b4044f96819c15cb19cde00ac41", func := "drayage/drayagelaw02.LineUnits", spec := "lineUnits", unfollowed := true, recurses := true, apart := false, narrowed := true }
def LineUnitsUptoSaid : Prop := lineUnitsUptoRow.holds Try.pinned (OpenSpec.upto lineUnitsSpec)

/-- 'drayagelaw02.LineProves', WHERE WHAT IT READS IS OF BULK AT MOST 1048576: true; the input reads as it did. -/
def lineProvesUptoRow : OpenClaim := { program := "ytfhgnmijigdlmaa", sum := "ebac9d723a0c12d7fbc7009fe0ac92e3e03d7b4044f96819c15cb19cde00ac41", func := "drayage/drayagelaw02.LineProves", spec := "lineProves", unfollowed := true, recurses := true, apart := false, narrowed := true }
def LineProvesUptoSaid : Prop := lineProvesUptoRow.holds Try.pinned (OpenSpec.upto lineProvesSpec)

/-- 'drayagelaw02.LineLoads', WHERE WHAT IT READS IS OF BULK AT MOST 1048576: true; the input reads as it did. -/
def lineLoadsUptoRow : OpenClaim := { program := "ytfhgnmijigdlmaa", sum := "ebac9d723a0c12d7fbc7009fe0ac92e3e03d7b4044f96819c15cb19cde00ac41", func := "drayage/drayagelaw02.LineLoads", spec := "lineLoads", unfollowed := true, recurses := true, apart := false, narrowed := true }
def LineLoadsUptoSaid : Prop := lineLoadsUptoRow.holds Try.pinned (OpenSpec.upto lineLoadsSpec)

/-- 'drayagelaw02.LineOrdered', WHERE WHAT IT READS IS OF BULK AT MOST 1048576: true; the input reads as it did. -/
def lineOrderedUptoRow : OpenClaim := { program := "ytfhgnmijigdlmaa", sum := "ebac9d723a0c12d7fbc7009fe0ac92e3e03d7b4044f96819c15cb19cde00ac41", func := "drayage/drayagelaw02.LineOrdered", spec := "lineOrdered", unfollowed := true, recurses := true, apart := false, narrowed := true }
def LineOrderedUptoSaid : Prop := lineOrderedUptoRow.holds Try.pinned (OpenSpec.upto lineOrderedSpec)

/-- 'drayagelaw02.LineMeans', WHERE WHAT IT READS IS OF BULK AT MOST 1048576: true; the input reads as it did. -/
def lineMeansUptoRow : OpenClaim := { program := "ytfhgnmijigdlmaa", sum := "ebac9d723a0c12d7fbc7009fe0ac92e3e03d7b4044f96819c15cb19cde00ac41", func := "drayage/drayagelaw02.LineMeans", spec := "lineMeans", unfollowed := true, recurses := true, apart := false, narrowed := true }
def LineMeansUptoSaid : Prop := lineMeansUptoRow.holds Try.pinned (OpenSpec.upto lineMeansSpec)

/-- 'drayagelaw02.LineBounds', WHERE WHAT IT READS IS OF BULK AT MOST 1048576: true; the input reads as it did. -/
def lineBoundsUptoRow : OpenClaim := { program := "ytfhgnmijigdlmaa", sum := "ebac9d723a0c12d7fbc7009fe0ac92e3e03d7b4044f96819c15cb19cde00ac41", func := "drayage/drayagelaw02.LineBounds", spec := "lineBounds", unfollowed := true, recurses := true, apart := false, narrowed := true }
def LineBoundsUptoSaid : Prop := lineBoundsUptoRow.holds Try.pinned (OpenSpec.upto lineBoundsSpec)

/-- 'drayagetop.TopLines', WHERE WHAT IT READS IS OF BULK AT MOST 1048576: true; the input reads as it did. -/
def topLinesUptoRow : OpenClaim := { program := "ytfhgnmijigdlmaa", sum := "ebac9d723a0c12d7fbc7009fe0ac92e3e03d7b4044f96819c15cb19cde00ac41", func := "drayage/drayagetop.TopLines", spec := "topLines", unfollowed := true, recurses := true, apart := false, narrowed := true }
def TopLinesUptoSaid : Prop := topLinesUptoRow.holds Try.pinned (OpenSpec.upto topLinesSpec)

end Rows
end Go.Proofs.Ytfhgnmijigdlmaa
