/-
  No cell of these rows narrows 'for every input' (looked for: loops, veiled, ifaces, maps, wideKeys, modest, calm, conditions, laid).
  DERIVED. THE GIVEN ROWS OF THIS SEAT. 13 by the template 'for every input the law returns true; each argument reads behind the call as it read before'; 0 by the template 'total and deterministic' (their statements: YtdbhbfmbpldmnaaTotals.lean).
  GIVEN WITH THE SEED: the statements are not yours to turn. If you find one false, say at which input.
  Laid BY PROGRAM, IN A SANDBOX (cutbox-rows.mjs): the forced cells as the released guide's own fill.sh prints them over the translation 25d7ebc39b0d08d3… (all of the seat's roots in one cut). By AI agents, Wed Nov 11 2026. No macro, syntax, notation, axiom, sorry.
-/
import Derived.Test.YtdbhbfmbpldmnaaChecked
import GoSem.Claim
import GoSem.ClaimJoined
import GoSem.ClaimMapViews
import Derived.JoinedTies
import Derived.KernelRfl
namespace Go.Proofs.Ytdbhbfmbpldmnaa
/- THE CELL 'sum', in the pinned program and in every row, IS THE sha256 OF THE DUMP (.gsa) THAT YtdbhbfmbpldmnaaProg.lean LOADS. Nothing in Lean hashes anything: it is a label: what it is worth is what the hold of that sum in a sandbox is worth. -/
noncomputable def Try.pinned : Pinned := { name := "ytdbhbfmbpldmnaa", sum := "25d7ebc39b0d08d313b4cf3448de73f6fc6c182f7fc859458b1e0f74aca2619e", checked := Try.checked }
namespace Rows
def none {H : Type} : Left H := { results := [], args := [] }

/-- 'boundstonelaw02.PlaneTurnsAsSpecified': WHATEVER THE INPUT: true; the input reads as it did. -/
def planeTurnsAsSpecifiedSpec : ChangeSpec := { name := "planeTurnsAsSpecified", fn := fun _ => fun
  | [d1, d2, d3, d4] => { results := [.lit (.bool true)], args := [d1, d2, d3, d4] }
  | _ => none }
def planeTurnsAsSpecifiedRow : OpenClaim := { program := "ytdbhbfmbpldmnaa", sum := "25d7ebc39b0d08d313b4cf3448de73f6fc6c182f7fc859458b1e0f74aca2619e", func := "boundstone/boundstonelaw02.PlaneTurnsAsSpecified", spec := "planeTurnsAsSpecified", inPlace := ["math.sqrt"], unfollowed := true, recurses := true, apart := false }
def PlaneTurnsAsSpecifiedSaid : Prop := planeTurnsAsSpecifiedRow.holds Try.pinned (OpenSpec.ofChange planeTurnsAsSpecifiedSpec)

/-- ITS FALSE NEIGHBOUR: 'it returns false'. Refute it at one input. -/
def planeTurnsAsSpecifiedWrong : ChangeSpec := { name := "planeTurnsAsSpecified", fn := fun _ => fun
  | [d1, d2, d3, d4] => { results := [.lit (.bool false)], args := [d1, d2, d3, d4] }
  | _ => none }
def PlaneTurnsAsSpecifiedWrongFalsely : Prop := planeTurnsAsSpecifiedRow.holds Try.pinned (OpenSpec.ofChange planeTurnsAsSpecifiedWrong)

/-- 'boundstonelaw02.PlaneTurnsFair': WHATEVER THE INPUT: true; the input reads as it did. -/
def planeTurnsFairSpec : ChangeSpec := { name := "planeTurnsFair", fn := fun _ => fun
  | [d1, d2, d3, d4, d5, d6] => { results := [.lit (.bool true)], args := [d1, d2, d3, d4, d5, d6] }
  | _ => none }
def planeTurnsFairRow : OpenClaim := { program := "ytdbhbfmbpldmnaa", sum := "25d7ebc39b0d08d313b4cf3448de73f6fc6c182f7fc859458b1e0f74aca2619e", func := "boundstone/boundstonelaw02.PlaneTurnsFair", spec := "planeTurnsFair", inPlace := ["math.sqrt"], unfollowed := true, recurses := true, apart := false }
def PlaneTurnsFairSaid : Prop := planeTurnsFairRow.holds Try.pinned (OpenSpec.ofChange planeTurnsFairSpec)

/-- ITS FALSE NEIGHBOUR: 'it returns false'. Refute it at one input. -/
def planeTurnsFairWrong : ChangeSpec := { name := "planeTurnsFair", fn := fun _ => fun
  | [d1, d2, d3, d4, d5, d6] => { results := [.lit (.bool false)], args := [d1, d2, d3, d4, d5, d6] }
  | _ => none }
def PlaneTurnsFairWrongFalsely : Prop := planeTurnsFairRow.holds Try.pinned (OpenSpec.ofChange planeTurnsFairWrong)

/-- 'boundstonelaw02.PlaneMeetsAsSpecified': WHATEVER THE INPUT: true; the input reads as it did. -/
def planeMeetsAsSpecifiedSpec : ChangeSpec := { name := "planeMeetsAsSpecified", fn := fun _ => fun
  | [d1, d2, d3] => { results := [.lit (.bool true)], args := [d1, d2, d3] }
  | _ => none }
def planeMeetsAsSpecifiedRow : OpenClaim := { program := "ytdbhbfmbpldmnaa", sum := "25d7ebc39b0d08d313b4cf3448de73f6fc6c182f7fc859458b1e0f74aca2619e", func := "boundstone/boundstonelaw02.PlaneMeetsAsSpecified", spec := "planeMeetsAsSpecified", inPlace := ["math.sqrt"], unfollowed := true, recurses := true, apart := false }
def PlaneMeetsAsSpecifiedSaid : Prop := planeMeetsAsSpecifiedRow.holds Try.pinned (OpenSpec.ofChange planeMeetsAsSpecifiedSpec)

/-- ITS FALSE NEIGHBOUR: 'it returns false'. Refute it at one input. -/
def planeMeetsAsSpecifiedWrong : ChangeSpec := { name := "planeMeetsAsSpecified", fn := fun _ => fun
  | [d1, d2, d3] => { results := [.lit (.bool false)], args := [d1, d2, d3] }
  | _ => none }
def PlaneMeetsAsSpecifiedWrongFalsely : Prop := planeMeetsAsSpecifiedRow.holds Try.pinned (OpenSpec.ofChange planeMeetsAsSpecifiedWrong)

/-- 'boundstonelaw02.PlaneSegmentsFair': WHATEVER THE INPUT: true; the input reads as it did. -/
def planeSegmentsFairSpec : ChangeSpec := { name := "planeSegmentsFair", fn := fun _ => fun
  | [d1, d2] => { results := [.lit (.bool true)], args := [d1, d2] }
  | _ => none }
def planeSegmentsFairRow : OpenClaim := { program := "ytdbhbfmbpldmnaa", sum := "25d7ebc39b0d08d313b4cf3448de73f6fc6c182f7fc859458b1e0f74aca2619e", func := "boundstone/boundstonelaw02.PlaneSegmentsFair", spec := "planeSegmentsFair", inPlace := ["math.sqrt"], unfollowed := true, recurses := true, apart := false }
def PlaneSegmentsFairSaid : Prop := planeSegmentsFairRow.holds Try.pinned (OpenSpec.ofChange planeSegmentsFairSpec)

/-- ITS FALSE NEIGHBOUR: 'it returns false'. Refute it at one input. -/
def planeSegmentsFairWrong : ChangeSpec := { name := "planeSegmentsFair", fn := fun _ => fun
  | [d1, d2] => { results := [.lit (.bool false)], args := [d1, d2] }
  | _ => none }
def PlaneSegmentsFairWrongFalsely : Prop := planeSegmentsFairRow.holds Try.pinned (OpenSpec.ofChange planeSegmentsFairWrong)

/-- 'boundstonelaw02.PlaneRingsAsSpecified': WHATEVER THE INPUT: true; the input reads as it did. -/
def planeRingsAsSpecifiedSpec : ChangeSpec := { name := "planeRingsAsSpecified", fn := fun _ => fun
  | [d1, d2] => { results := [.lit (.bool true)], args := [d1, d2] }
  | _ => none }
def planeRingsAsSpecifiedRow : OpenClaim := { program := "ytdbhbfmbpldmnaa", sum := "25d7ebc39b0d08d313b4cf3448de73f6fc6c182f7fc859458b1e0f74aca2619e", func := "boundstone/boundstonelaw02.PlaneRingsAsSpecified", spec := "planeRingsAsSpecified", inPlace := ["math.sqrt"], unfollowed := true, recurses := true, apart := false }
def PlaneRingsAsSpecifiedSaid : Prop := planeRingsAsSpecifiedRow.holds Try.pinned (OpenSpec.ofChange planeRingsAsSpecifiedSpec)

/-- ITS FALSE NEIGHBOUR: 'it returns false'. Refute it at one input. -/
def planeRingsAsSpecifiedWrong : ChangeSpec := { name := "planeRingsAsSpecified", fn := fun _ => fun
  | [d1, d2] => { results := [.lit (.bool false)], args := [d1, d2] }
  | _ => none }
def PlaneRingsAsSpecifiedWrongFalsely : Prop := planeRingsAsSpecifiedRow.holds Try.pinned (OpenSpec.ofChange planeRingsAsSpecifiedWrong)

/-- 'boundstonelaw02.PlaneRingsFair': WHATEVER THE INPUT: true; the input reads as it did. -/
def planeRingsFairSpec : ChangeSpec := { name := "planeRingsFair", fn := fun _ => fun
  | [d1, d2] => { results := [.lit (.bool true)], args := [d1, d2] }
  | _ => none }
def planeRingsFairRow : OpenClaim := { program := "ytdbhbfmbpldmnaa", sum := "25d7ebc39b0d08d313b4cf3448de73f6fc6c182f7fc859458b1e0f74aca2619e", func := "boundstone/boundstonelaw02.PlaneRingsFair", spec := "planeRingsFair", inPlace := ["math.sqrt"], unfollowed := true, recurses := true, apart := false }
def PlaneRingsFairSaid : Prop := planeRingsFairRow.holds Try.pinned (OpenSpec.ofChange planeRingsFairSpec)

/-- ITS FALSE NEIGHBOUR: 'it returns false'. Refute it at one input. -/
def planeRingsFairWrong : ChangeSpec := { name := "planeRingsFair", fn := fun _ => fun
  | [d1, d2] => { results := [.lit (.bool false)], args := [d1, d2] }
  | _ => none }
def PlaneRingsFairWrongFalsely : Prop := planeRingsFairRow.holds Try.pinned (OpenSpec.ofChange planeRingsFairWrong)

/-- 'boundstonelaw02.PlaneSidesAsSpecified': WHATEVER THE INPUT: true; the input reads as it did. -/
def planeSidesAsSpecifiedSpec : ChangeSpec := { name := "planeSidesAsSpecified", fn := fun _ => fun
  | [d1, d2] => { results := [.lit (.bool true)], args := [d1, d2] }
  | _ => none }
def planeSidesAsSpecifiedRow : OpenClaim := { program := "ytdbhbfmbpldmnaa", sum := "25d7ebc39b0d08d313b4cf3448de73f6fc6c182f7fc859458b1e0f74aca2619e", func := "boundstone/boundstonelaw02.PlaneSidesAsSpecified", spec := "planeSidesAsSpecified", inPlace := ["math.sqrt"], unfollowed := true, recurses := true, apart := false }
def PlaneSidesAsSpecifiedSaid : Prop := planeSidesAsSpecifiedRow.holds Try.pinned (OpenSpec.ofChange planeSidesAsSpecifiedSpec)

/-- ITS FALSE NEIGHBOUR: 'it returns false'. Refute it at one input. -/
def planeSidesAsSpecifiedWrong : ChangeSpec := { name := "planeSidesAsSpecified", fn := fun _ => fun
  | [d1, d2] => { results := [.lit (.bool false)], args := [d1, d2] }
  | _ => none }
def PlaneSidesAsSpecifiedWrongFalsely : Prop := planeSidesAsSpecifiedRow.holds Try.pinned (OpenSpec.ofChange planeSidesAsSpecifiedWrong)

/-- 'boundstonelaw02.PlaneHullsAsSpecified': WHATEVER THE INPUT: true; the input reads as it did. -/
def planeHullsAsSpecifiedSpec : ChangeSpec := { name := "planeHullsAsSpecified", fn := fun _ => fun
  | [d1, d2] => { results := [.lit (.bool true)], args := [d1, d2] }
  | _ => none }
def planeHullsAsSpecifiedRow : OpenClaim := { program := "ytdbhbfmbpldmnaa", sum := "25d7ebc39b0d08d313b4cf3448de73f6fc6c182f7fc859458b1e0f74aca2619e", func := "boundstone/boundstonelaw02.PlaneHullsAsSpecified", spec := "planeHullsAsSpecified", unfollowed := true, recurses := true, apart := false }
def PlaneHullsAsSpecifiedSaid : Prop := planeHullsAsSpecifiedRow.holds Try.pinned (OpenSpec.ofChange planeHullsAsSpecifiedSpec)

/-- ITS FALSE NEIGHBOUR: 'it returns false'. Refute it at one input. -/
def planeHullsAsSpecifiedWrong : ChangeSpec := { name := "planeHullsAsSpecified", fn := fun _ => fun
  | [d1, d2] => { results := [.lit (.bool false)], args := [d1, d2] }
  | _ => none }
def PlaneHullsAsSpecifiedWrongFalsely : Prop := planeHullsAsSpecifiedRow.holds Try.pinned (OpenSpec.ofChange planeHullsAsSpecifiedWrong)

/-- 'boundstonelaw02.PlaneHullsHold': WHATEVER THE INPUT: true; the input reads as it did. -/
def planeHullsHoldSpec : ChangeSpec := { name := "planeHullsHold", fn := fun _ => fun
  | [d] => { results := [.lit (.bool true)], args := [d] }
  | _ => none }
def planeHullsHoldRow : OpenClaim := { program := "ytdbhbfmbpldmnaa", sum := "25d7ebc39b0d08d313b4cf3448de73f6fc6c182f7fc859458b1e0f74aca2619e", func := "boundstone/boundstonelaw02.PlaneHullsHold", spec := "planeHullsHold", unfollowed := true, recurses := true, apart := false }
def PlaneHullsHoldSaid : Prop := planeHullsHoldRow.holds Try.pinned (OpenSpec.ofChange planeHullsHoldSpec)

/-- ITS FALSE NEIGHBOUR: 'it returns false'. Refute it at one input. -/
def planeHullsHoldWrong : ChangeSpec := { name := "planeHullsHold", fn := fun _ => fun
  | [d] => { results := [.lit (.bool false)], args := [d] }
  | _ => none }
def PlaneHullsHoldWrongFalsely : Prop := planeHullsHoldRow.holds Try.pinned (OpenSpec.ofChange planeHullsHoldWrong)

/-- 'boundstonelaw02.PlaneSpreadsAsSpecified': WHATEVER THE INPUT: true; the input reads as it did. -/
def planeSpreadsAsSpecifiedSpec : ChangeSpec := { name := "planeSpreadsAsSpecified", fn := fun _ => fun
  | [d1, d2, d3] => { results := [.lit (.bool true)], args := [d1, d2, d3] }
  | _ => none }
def planeSpreadsAsSpecifiedRow : OpenClaim := { program := "ytdbhbfmbpldmnaa", sum := "25d7ebc39b0d08d313b4cf3448de73f6fc6c182f7fc859458b1e0f74aca2619e", func := "boundstone/boundstonelaw02.PlaneSpreadsAsSpecified", spec := "planeSpreadsAsSpecified", unfollowed := true, recurses := true, apart := false }
def PlaneSpreadsAsSpecifiedSaid : Prop := planeSpreadsAsSpecifiedRow.holds Try.pinned (OpenSpec.ofChange planeSpreadsAsSpecifiedSpec)

/-- ITS FALSE NEIGHBOUR: 'it returns false'. Refute it at one input. -/
def planeSpreadsAsSpecifiedWrong : ChangeSpec := { name := "planeSpreadsAsSpecified", fn := fun _ => fun
  | [d1, d2, d3] => { results := [.lit (.bool false)], args := [d1, d2, d3] }
  | _ => none }
def PlaneSpreadsAsSpecifiedWrongFalsely : Prop := planeSpreadsAsSpecifiedRow.holds Try.pinned (OpenSpec.ofChange planeSpreadsAsSpecifiedWrong)

/-- 'boundstonelaw02.PlaneBoxesAsSpecified': WHATEVER THE INPUT: true; the input reads as it did. -/
def planeBoxesAsSpecifiedSpec : ChangeSpec := { name := "planeBoxesAsSpecified", fn := fun _ => fun
  | [d1, d2, d3, d4] => { results := [.lit (.bool true)], args := [d1, d2, d3, d4] }
  | _ => none }
def planeBoxesAsSpecifiedRow : OpenClaim := { program := "ytdbhbfmbpldmnaa", sum := "25d7ebc39b0d08d313b4cf3448de73f6fc6c182f7fc859458b1e0f74aca2619e", func := "boundstone/boundstonelaw02.PlaneBoxesAsSpecified", spec := "planeBoxesAsSpecified", unfollowed := true, recurses := true, apart := false }
def PlaneBoxesAsSpecifiedSaid : Prop := planeBoxesAsSpecifiedRow.holds Try.pinned (OpenSpec.ofChange planeBoxesAsSpecifiedSpec)

/-- ITS FALSE NEIGHBOUR: 'it returns false'. Refute it at one input. -/
def planeBoxesAsSpecifiedWrong : ChangeSpec := { name := "planeBoxesAsSpecified", fn := fun _ => fun
  | [d1, d2, d3, d4] => { results := [.lit (.bool false)], args := [d1, d2, d3, d4] }
  | _ => none }
def PlaneBoxesAsSpecifiedWrongFalsely : Prop := planeBoxesAsSpecifiedRow.holds Try.pinned (OpenSpec.ofChange planeBoxesAsSpecifiedWrong)

/-- 'boundstonelaw02.PlaneCutsDivide': WHATEVER THE INPUT: true; the input reads as it did. -/
def planeCutsDivideSpec : ChangeSpec := { name := "planeCutsDivide", fn := fun _ => fun
  | [d1, d2, d3] => { results := [.lit (.bool true)], args := [d1, d2, d3] }
  | _ => none }
def planeCutsDivideRow : OpenClaim := { program := "ytdbhbfmbpldmnaa", sum := "25d7ebc39b0d08d313b4cf3448de73f6fc6c182f7fc859458b1e0f74aca2619e", func := "boundstone/boundstonelaw02.PlaneCutsDivide", spec := "planeCutsDivide", unfollowed := true, recurses := true, apart := false }
def PlaneCutsDivideSaid : Prop := planeCutsDivideRow.holds Try.pinned (OpenSpec.ofChange planeCutsDivideSpec)

/-- ITS FALSE NEIGHBOUR: 'it returns false'. Refute it at one input. -/
def planeCutsDivideWrong : ChangeSpec := { name := "planeCutsDivide", fn := fun _ => fun
  | [d1, d2, d3] => { results := [.lit (.bool false)], args := [d1, d2, d3] }
  | _ => none }
def PlaneCutsDivideWrongFalsely : Prop := planeCutsDivideRow.holds Try.pinned (OpenSpec.ofChange planeCutsDivideWrong)

/-- 'boundstonelaw02.PlaneSpreadHolds': WHATEVER THE INPUT: true; the input reads as it did. -/
def planeSpreadHoldsSpec : ChangeSpec := { name := "planeSpreadHolds", fn := fun _ => fun
  | [d1, d2, d3, d4, d5, d6] => { results := [.lit (.bool true)], args := [d1, d2, d3, d4, d5, d6] }
  | _ => none }
def planeSpreadHoldsRow : OpenClaim := { program := "ytdbhbfmbpldmnaa", sum := "25d7ebc39b0d08d313b4cf3448de73f6fc6c182f7fc859458b1e0f74aca2619e", func := "boundstone/boundstonelaw02.PlaneSpreadHolds", spec := "planeSpreadHolds", unfollowed := true, recurses := true, apart := false }
def PlaneSpreadHoldsSaid : Prop := planeSpreadHoldsRow.holds Try.pinned (OpenSpec.ofChange planeSpreadHoldsSpec)

/-- ITS FALSE NEIGHBOUR: 'it returns false'. Refute it at one input. -/
def planeSpreadHoldsWrong : ChangeSpec := { name := "planeSpreadHolds", fn := fun _ => fun
  | [d1, d2, d3, d4, d5, d6] => { results := [.lit (.bool false)], args := [d1, d2, d3, d4, d5, d6] }
  | _ => none }
def PlaneSpreadHoldsWrongFalsely : Prop := planeSpreadHoldsRow.holds Try.pinned (OpenSpec.ofChange planeSpreadHoldsWrong)

/- THE SECOND FORM. 'bulk': how many values and letters a reading holds, each counted each time it is reached (what is shared counts as often as it is met; a slice's spare places count too). A statement '..UptoSaid' is the law's where the arguments, and the package variables that the reading takes, are together of bulk at most 1048576: NARROWER than '..Said'. Prove '..Said' where nothing that the law and all that it calls make is longer than what came in: it says more and counts as full. Else prove '..UptoSaid'. A law counts once. -/
mutual
def uptoBulk {H : Type} : DataW H → Nat
  | .lit (.string bytes) => bytes.length + 1
  | .lit _ => 1
  | .nil => 1
  | .ptr d => uptoBulk d + 1
  | .slice elems spare => uptoBulkAll elems + uptoBulkAll spare + 1
  | .agg parts => uptoBulkAll parts + 1
  | .iface _ d => uptoBulk d + 1
  | .map entries => uptoBulkEntries entries + 1
  | .held _ => 1
def uptoBulkAll {H : Type} : List (DataW H) → Nat
  | [] => 0
  | d :: r => uptoBulk d + uptoBulkAll r
def uptoBulkEntries {H : Type} : List (Lit × DataW H) → Nat
  | [] => 0
  | x :: r => uptoBulkEntry x + uptoBulkEntries r
def uptoBulkEntry {H : Type} : Lit × DataW H → Nat
  | (.string bytes, d) => bytes.length + uptoBulk d + 1
  | (_, d) => uptoBulk d + 1
 end
def uptoSmall : (H : Type) → List (DataW H) → Bool := fun _ ds => decide (uptoBulkAll ds ≤ 1048576)
def OpenSpec.upto (s : _root_.Go.ChangeSpec) : _root_.Go.OpenSpec := { _root_.Go.OpenSpec.ofChange s with cond := some uptoSmall }

/-- 'boundstonelaw02.PlaneTurnsAsSpecified', WHERE WHAT IT READS IS OF BULK AT MOST 1048576: true; the input reads as it did. -/
def planeTurnsAsSpecifiedUptoRow : OpenClaim := { program := "ytdbhbfmbpldmnaa", sum := "25d7ebc39b0d08d313b4cf3448de73f6fc6c182f7fc859458b1e0f74aca2619e", func := "boundstone/boundstonelaw02.PlaneTurnsAsSpecified", spec := "planeTurnsAsSpecified", inPlace := ["math.sqrt"], unfollowed := true, recurses := true, apart := false, narrowed := true }
def PlaneTurnsAsSpecifiedUptoSaid : Prop := planeTurnsAsSpecifiedUptoRow.holds Try.pinned (OpenSpec.upto planeTurnsAsSpecifiedSpec)

/-- 'boundstonelaw02.PlaneTurnsFair', WHERE WHAT IT READS IS OF BULK AT MOST 1048576: true; the input reads as it did. -/
def planeTurnsFairUptoRow : OpenClaim := { program := "ytdbhbfmbpldmnaa", sum := "25d7ebc39b0d08d313b4cf3448de73f6fc6c182f7fc859458b1e0f74aca2619e", func := "boundstone/boundstonelaw02.PlaneTurnsFair", spec := "planeTurnsFair", inPlace := ["math.sqrt"], unfollowed := true, recurses := true, apart := false, narrowed := true }
def PlaneTurnsFairUptoSaid : Prop := planeTurnsFairUptoRow.holds Try.pinned (OpenSpec.upto planeTurnsFairSpec)

/-- 'boundstonelaw02.PlaneMeetsAsSpecified', WHERE WHAT IT READS IS OF BULK AT MOST 1048576: true; the input reads as it did. -/
def planeMeetsAsSpecifiedUptoRow : OpenClaim := { program := "ytdbhbfmbpldmnaa", sum := "25d7ebc39b0d08d313b4cf3448de73f6fc6c182f7fc859458b1e0f74aca2619e", func := "boundstone/boundstonelaw02.PlaneMeetsAsSpecified", spec := "planeMeetsAsSpecified", inPlace := ["math.sqrt"], unfollowed := true, recurses := true, apart := false, narrowed := true }
def PlaneMeetsAsSpecifiedUptoSaid : Prop := planeMeetsAsSpecifiedUptoRow.holds Try.pinned (OpenSpec.upto planeMeetsAsSpecifiedSpec)

/-- 'boundstonelaw02.PlaneSegmentsFair', WHERE WHAT IT READS IS OF BULK AT MOST 1048576: true; the input reads as it did. -/
def planeSegmentsFairUptoRow : OpenClaim := { program := "ytdbhbfmbpldmnaa", sum := "25d7ebc39b0d08d313b4cf3448de73f6fc6c182f7fc859458b1e0f74aca2619e", func := "boundstone/boundstonelaw02.PlaneSegmentsFair", spec := "planeSegmentsFair", inPlace := ["math.sqrt"], unfollowed := true, recurses := true, apart := false, narrowed := true }
def PlaneSegmentsFairUptoSaid : Prop := planeSegmentsFairUptoRow.holds Try.pinned (OpenSpec.upto planeSegmentsFairSpec)

/-- 'boundstonelaw02.PlaneRingsAsSpecified', WHERE WHAT IT READS IS OF BULK AT MOST 1048576: true; the input reads as it did. -/
def planeRingsAsSpecifiedUptoRow : OpenClaim := { program := "ytdbhbfmbpldmnaa", sum := "25d7ebc39b0d08d313b4cf3448de73f6fc6c182f7fc859458b1e0f74aca2619e", func := "boundstone/boundstonelaw02.PlaneRingsAsSpecified", spec := "planeRingsAsSpecified", inPlace := ["math.sqrt"], unfollowed := true, recurses := true, apart := false, narrowed := true }
def PlaneRingsAsSpecifiedUptoSaid : Prop := planeRingsAsSpecifiedUptoRow.holds Try.pinned (OpenSpec.upto planeRingsAsSpecifiedSpec)

/-- 'boundstonelaw02.PlaneRingsFair', WHERE WHAT IT READS IS OF BULK AT MOST 1048576: true; the input reads as it did. -/
def planeRingsFairUptoRow : OpenClaim := { program := "ytdbhbfmbpldmnaa", sum := "25d7ebc39b0d08d313b4cf3448de73f6fc6c182f7fc859458b1e0f74aca2619e", func := "boundstone/boundstonelaw02.PlaneRingsFair", spec := "planeRingsFair", inPlace := ["math.sqrt"], unfollowed := true, recurses := true, apart := false, narrowed := true }
def PlaneRingsFairUptoSaid : Prop := planeRingsFairUptoRow.holds Try.pinned (OpenSpec.upto planeRingsFairSpec)

/-- 'boundstonelaw02.PlaneSidesAsSpecified', WHERE WHAT IT READS IS OF BULK AT MOST 1048576: true; the input reads as it did. -/
def planeSidesAsSpecifiedUptoRow : OpenClaim := { program := "ytdbhbfmbpldmnaa", sum := "25d7ebc39b0d08d313b4cf3448de73f6fc6c182f7fc859458b1e0f74aca2619e", func := "boundstone/boundstonelaw02.PlaneSidesAsSpecified", spec := "planeSidesAsSpecified", inPlace := ["math.sqrt"], unfollowed := true, recurses := true, apart := false, narrowed := true }
def PlaneSidesAsSpecifiedUptoSaid : Prop := planeSidesAsSpecifiedUptoRow.holds Try.pinned (OpenSpec.upto planeSidesAsSpecifiedSpec)

/-- 'boundstonelaw02.PlaneHullsAsSpecified', WHERE WHAT IT READS IS OF BULK AT MOST 1048576: true; the input reads as it did. -/
def planeHullsAsSpecifiedUptoRow : OpenClaim := { program := "ytdbhbfmbpldmnaa", sum := "25d7ebc39b0d08d313b4cf3448de73f6fc6c182f7fc859458b1e0f74aca2619e", func := "boundstone/boundstonelaw02.PlaneHullsAsSpecified", spec := "planeHullsAsSpecified", unfollowed := true, recurses := true, apart := false, narrowed := true }
def PlaneHullsAsSpecifiedUptoSaid : Prop := planeHullsAsSpecifiedUptoRow.holds Try.pinned (OpenSpec.upto planeHullsAsSpecifiedSpec)

/-- 'boundstonelaw02.PlaneHullsHold', WHERE WHAT IT READS IS OF BULK AT MOST 1048576: true; the input reads as it did. -/
def planeHullsHoldUptoRow : OpenClaim := { program := "ytdbhbfmbpldmnaa", sum := "25d7ebc39b0d08d313b4cf3448de73f6fc6c182f7fc859458b1e0f74aca2619e", func := "boundstone/boundstonelaw02.PlaneHullsHold", spec := "planeHullsHold", unfollowed := true, recurses := true, apart := false, narrowed := true }
def PlaneHullsHoldUptoSaid : Prop := planeHullsHoldUptoRow.holds Try.pinned (OpenSpec.upto planeHullsHoldSpec)

/-- 'boundstonelaw02.PlaneSpreadsAsSpecified', WHERE WHAT IT READS IS OF BULK AT MOST 1048576: true; the input reads as it did. -/
def planeSpreadsAsSpecifiedUptoRow : OpenClaim := { program := "ytdbhbfmbpldmnaa", sum := "25d7ebc39b0d08d313b4cf3448de73f6fc6c182f7fc859458b1e0f74aca2619e", func := "boundstone/boundstonelaw02.PlaneSpreadsAsSpecified", spec := "planeSpreadsAsSpecified", unfollowed := true, recurses := true, apart := false, narrowed := true }
def PlaneSpreadsAsSpecifiedUptoSaid : Prop := planeSpreadsAsSpecifiedUptoRow.holds Try.pinned (OpenSpec.upto planeSpreadsAsSpecifiedSpec)

/-- 'boundstonelaw02.PlaneBoxesAsSpecified', WHERE WHAT IT READS IS OF BULK AT MOST 1048576: true; the input reads as it did. -/
def planeBoxesAsSpecifiedUptoRow : OpenClaim := { program := "ytdbhbfmbpldmnaa", sum := "25d7ebc39b0d08d313b4cf3448de73f6fc6c182f7fc859458b1e0f74aca2619e", func := "boundstone/boundstonelaw02.PlaneBoxesAsSpecified", spec := "planeBoxesAsSpecified", unfollowed := true, recurses := true, apart := false, narrowed := true }
def PlaneBoxesAsSpecifiedUptoSaid : Prop := planeBoxesAsSpecifiedUptoRow.holds Try.pinned (OpenSpec.upto planeBoxesAsSpecifiedSpec)

/-- 'boundstonelaw02.PlaneCutsDivide', WHERE WHAT IT READS IS OF BULK AT MOST 1048576: true; the input reads as it did. -/
def planeCutsDivideUptoRow : OpenClaim := { program := "ytdbhbfmbpldmnaa", sum := "25d7ebc39b0d08d313b4cf3448de73f6fc6c182f7fc859458b1e0f74aca2619e", func := "boundstone/boundstonelaw02.PlaneCutsDivide", spec := "planeCutsDivide", unfollowed := true, recurses := true, apart := false, narrowed := true }
def PlaneCutsDivideUptoSaid : Prop := planeCutsDivideUptoRow.holds Try.pinned (OpenSpec.upto planeCutsDivideSpec)

/-- 'boundstonelaw02.PlaneSpreadHolds', WHERE WHAT IT READS IS OF BULK AT MOST 1048576: true; the input reads as it did. -/
def planeSpreadHoldsUptoRow : OpenClaim := { program := "ytdbhbfmbpldmnaa", sum := "25d7ebc39b0d08d313b4cf3448de73f6fc6c182f7fc859458b1e0f74aca2619e", func := "boundstone/boundstonelaw02.PlaneSpreadHolds", spec := "planeSpreadHolds", unfollowed := true, recurses := true, apart := false, narrowed := true }
def PlaneSpreadHoldsUptoSaid : Prop := planeSpreadHoldsUptoRow.holds Try.pinned (OpenSpec.upto planeSpreadHoldsSpec)

end Rows
end Go.Proofs.Ytdbhbfmbpldmnaa
