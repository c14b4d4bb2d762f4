/-
  No cell of these rows narrows 'for every input' (looked for: loops, veiled, ifaces, maps, wideKeys, modest, calm, conditions, laid).
  DERIVED. THE GIVEN ROWS OF THIS SEAT. 11 by the template 'for every input the law returns true; each argument reads behind the call as it read before'; 0 by the template 'total and deterministic' (their statements: YtaggjclaehigjaaTotals.lean).
  GIVEN WITH THE SEED: the statements are not yours to turn. If you find one false, say at which input.
  Laid BY PROGRAM, IN A SANDBOX (cutbox-rows.mjs): the forced cells as the released guide's own fill.sh prints them over the translation f1fce6bd63f98e94… (all of the seat's roots in one cut). By AI agents, Wed Nov 11 2026. No macro, syntax, notation, axiom, sorry.
-/
import Derived.Test.YtaggjclaehigjaaChecked
import GoSem.Claim
import GoSem.ClaimJoined
import GoSem.ClaimMapViews
import Derived.JoinedTies
import Derived.KernelRfl
namespace Go.Proofs.Ytaggjclaehigjaa
/- THE CELL 'sum', in the pinned program and in every row, IS THE sha256 OF THE DUMP (.gsa) THAT YtaggjclaehigjaaProg.lean LOADS. Nothing in Lean hashes anything: it is a label: what it is worth is what the hold of that sum in a sandbox is worth. -/
noncomputable def Try.pinned : Pinned := { name := "ytaggjclaehigjaa", sum := "f1fce6bd63f98e945132efe2253f3c8b561e1f3bd1e1b06af2e97b4b4939b1db", checked := Try.checked }
namespace Rows
def none {H : Type} : Left H := { results := [], args := [] }

/-- 'boundstonelaw04.ChainageChecks': WHATEVER THE INPUT: true; the input reads as it did. -/
def chainageChecksSpec : ChangeSpec := { name := "chainageChecks", fn := fun _ => fun
  | [d1, d2, d3] => { results := [.lit (.bool true)], args := [d1, d2, d3] }
  | _ => none }
def chainageChecksRow : OpenClaim := { program := "ytaggjclaehigjaa", sum := "f1fce6bd63f98e945132efe2253f3c8b561e1f3bd1e1b06af2e97b4b4939b1db", func := "boundstone/boundstonelaw04.ChainageChecks", spec := "chainageChecks", unfollowed := true, recurses := true, apart := false }
def ChainageChecksSaid : Prop := chainageChecksRow.holds Try.pinned (OpenSpec.ofChange chainageChecksSpec)

/-- ITS FALSE NEIGHBOUR: 'it returns false'. Refute it at one input. -/
def chainageChecksWrong : ChangeSpec := { name := "chainageChecks", fn := fun _ => fun
  | [d1, d2, d3] => { results := [.lit (.bool false)], args := [d1, d2, d3] }
  | _ => none }
def ChainageChecksWrongFalsely : Prop := chainageChecksRow.holds Try.pinned (OpenSpec.ofChange chainageChecksWrong)

/-- 'boundstonelaw04.ChainageLengths': WHATEVER THE INPUT: true; the input reads as it did. -/
def chainageLengthsSpec : ChangeSpec := { name := "chainageLengths", fn := fun _ => fun
  | [d1, d2, d3] => { results := [.lit (.bool true)], args := [d1, d2, d3] }
  | _ => none }
def chainageLengthsRow : OpenClaim := { program := "ytaggjclaehigjaa", sum := "f1fce6bd63f98e945132efe2253f3c8b561e1f3bd1e1b06af2e97b4b4939b1db", func := "boundstone/boundstonelaw04.ChainageLengths", spec := "chainageLengths", unfollowed := true, recurses := true, apart := false }
def ChainageLengthsSaid : Prop := chainageLengthsRow.holds Try.pinned (OpenSpec.ofChange chainageLengthsSpec)

/-- ITS FALSE NEIGHBOUR: 'it returns false'. Refute it at one input. -/
def chainageLengthsWrong : ChangeSpec := { name := "chainageLengths", fn := fun _ => fun
  | [d1, d2, d3] => { results := [.lit (.bool false)], args := [d1, d2, d3] }
  | _ => none }
def ChainageLengthsWrongFalsely : Prop := chainageLengthsRow.holds Try.pinned (OpenSpec.ofChange chainageLengthsWrong)

/-- 'boundstonelaw04.ChainageAdds': WHATEVER THE INPUT: true; the input reads as it did. -/
def chainageAddsSpec : ChangeSpec := { name := "chainageAdds", fn := fun _ => fun
  | [d1, d2, d3, d4] => { results := [.lit (.bool true)], args := [d1, d2, d3, d4] }
  | _ => none }
def chainageAddsRow : OpenClaim := { program := "ytaggjclaehigjaa", sum := "f1fce6bd63f98e945132efe2253f3c8b561e1f3bd1e1b06af2e97b4b4939b1db", func := "boundstone/boundstonelaw04.ChainageAdds", spec := "chainageAdds", unfollowed := true, recurses := true, apart := false }
def ChainageAddsSaid : Prop := chainageAddsRow.holds Try.pinned (OpenSpec.ofChange chainageAddsSpec)

/-- ITS FALSE NEIGHBOUR: 'it returns false'. Refute it at one input. -/
def chainageAddsWrong : ChangeSpec := { name := "chainageAdds", fn := fun _ => fun
  | [d1, d2, d3, d4] => { results := [.lit (.bool false)], args := [d1, d2, d3, d4] }
  | _ => none }
def ChainageAddsWrongFalsely : Prop := chainageAddsRow.holds Try.pinned (OpenSpec.ofChange chainageAddsWrong)

/-- 'boundstonelaw04.ChainageFits': WHATEVER THE INPUT: true; the input reads as it did. -/
def chainageFitsSpec : ChangeSpec := { name := "chainageFits", fn := fun _ => fun
  | [d1, d2] => { results := [.lit (.bool true)], args := [d1, d2] }
  | _ => none }
def chainageFitsRow : OpenClaim := { program := "ytaggjclaehigjaa", sum := "f1fce6bd63f98e945132efe2253f3c8b561e1f3bd1e1b06af2e97b4b4939b1db", func := "boundstone/boundstonelaw04.ChainageFits", spec := "chainageFits", unfollowed := true, recurses := true, apart := false }
def ChainageFitsSaid : Prop := chainageFitsRow.holds Try.pinned (OpenSpec.ofChange chainageFitsSpec)

/-- ITS FALSE NEIGHBOUR: 'it returns false'. Refute it at one input. -/
def chainageFitsWrong : ChangeSpec := { name := "chainageFits", fn := fun _ => fun
  | [d1, d2] => { results := [.lit (.bool false)], args := [d1, d2] }
  | _ => none }
def ChainageFitsWrongFalsely : Prop := chainageFitsRow.holds Try.pinned (OpenSpec.ofChange chainageFitsWrong)

/-- 'boundstonelaw04.ChainageIsTrue': WHATEVER THE INPUT: true; the input reads as it did. -/
def chainageIsTrueSpec : ChangeSpec := { name := "chainageIsTrue", fn := fun _ => fun
  | [d1, d2, d3, d4, d5, d6] => { results := [.lit (.bool true)], args := [d1, d2, d3, d4, d5, d6] }
  | _ => none }
def chainageIsTrueRow : OpenClaim := { program := "ytaggjclaehigjaa", sum := "f1fce6bd63f98e945132efe2253f3c8b561e1f3bd1e1b06af2e97b4b4939b1db", func := "boundstone/boundstonelaw04.ChainageIsTrue", spec := "chainageIsTrue", unfollowed := true, recurses := true, apart := false }
def ChainageIsTrueSaid : Prop := chainageIsTrueRow.holds Try.pinned (OpenSpec.ofChange chainageIsTrueSpec)

/-- ITS FALSE NEIGHBOUR: 'it returns false'. Refute it at one input. -/
def chainageIsTrueWrong : ChangeSpec := { name := "chainageIsTrue", fn := fun _ => fun
  | [d1, d2, d3, d4, d5, d6] => { results := [.lit (.bool false)], args := [d1, d2, d3, d4, d5, d6] }
  | _ => none }
def ChainageIsTrueWrongFalsely : Prop := chainageIsTrueRow.holds Try.pinned (OpenSpec.ofChange chainageIsTrueWrong)

/-- 'boundstonelaw04.ChainageCounts': WHATEVER THE INPUT: true; the input reads as it did. -/
def chainageCountsSpec : ChangeSpec := { name := "chainageCounts", fn := fun _ => fun
  | [d] => { results := [.lit (.bool true)], args := [d] }
  | _ => none }
def chainageCountsRow : OpenClaim := { program := "ytaggjclaehigjaa", sum := "f1fce6bd63f98e945132efe2253f3c8b561e1f3bd1e1b06af2e97b4b4939b1db", func := "boundstone/boundstonelaw04.ChainageCounts", spec := "chainageCounts", unfollowed := true, recurses := true, apart := false }
def ChainageCountsSaid : Prop := chainageCountsRow.holds Try.pinned (OpenSpec.ofChange chainageCountsSpec)

/-- ITS FALSE NEIGHBOUR: 'it returns false'. Refute it at one input. -/
def chainageCountsWrong : ChangeSpec := { name := "chainageCounts", fn := fun _ => fun
  | [d] => { results := [.lit (.bool false)], args := [d] }
  | _ => none }
def ChainageCountsWrongFalsely : Prop := chainageCountsRow.holds Try.pinned (OpenSpec.ofChange chainageCountsWrong)

/-- 'boundstonelaw04.ChainageMeasures': WHATEVER THE INPUT: true; the input reads as it did. -/
def chainageMeasuresSpec : ChangeSpec := { name := "chainageMeasures", fn := fun _ => fun
  | [d1, d2, d3] => { results := [.lit (.bool true)], args := [d1, d2, d3] }
  | _ => none }
def chainageMeasuresRow : OpenClaim := { program := "ytaggjclaehigjaa", sum := "f1fce6bd63f98e945132efe2253f3c8b561e1f3bd1e1b06af2e97b4b4939b1db", func := "boundstone/boundstonelaw04.ChainageMeasures", spec := "chainageMeasures", unfollowed := true, recurses := true, apart := false }
def ChainageMeasuresSaid : Prop := chainageMeasuresRow.holds Try.pinned (OpenSpec.ofChange chainageMeasuresSpec)

/-- ITS FALSE NEIGHBOUR: 'it returns false'. Refute it at one input. -/
def chainageMeasuresWrong : ChangeSpec := { name := "chainageMeasures", fn := fun _ => fun
  | [d1, d2, d3] => { results := [.lit (.bool false)], args := [d1, d2, d3] }
  | _ => none }
def ChainageMeasuresWrongFalsely : Prop := chainageMeasuresRow.holds Try.pinned (OpenSpec.ofChange chainageMeasuresWrong)

/-- 'boundstonelaw04.ChainageSpans': WHATEVER THE INPUT: true; the input reads as it did. -/
def chainageSpansSpec : ChangeSpec := { name := "chainageSpans", fn := fun _ => fun
  | [d1, d2, d3] => { results := [.lit (.bool true)], args := [d1, d2, d3] }
  | _ => none }
def chainageSpansRow : OpenClaim := { program := "ytaggjclaehigjaa", sum := "f1fce6bd63f98e945132efe2253f3c8b561e1f3bd1e1b06af2e97b4b4939b1db", func := "boundstone/boundstonelaw04.ChainageSpans", spec := "chainageSpans", unfollowed := true, recurses := true, apart := false }
def ChainageSpansSaid : Prop := chainageSpansRow.holds Try.pinned (OpenSpec.ofChange chainageSpansSpec)

/-- ITS FALSE NEIGHBOUR: 'it returns false'. Refute it at one input. -/
def chainageSpansWrong : ChangeSpec := { name := "chainageSpans", fn := fun _ => fun
  | [d1, d2, d3] => { results := [.lit (.bool false)], args := [d1, d2, d3] }
  | _ => none }
def ChainageSpansWrongFalsely : Prop := chainageSpansRow.holds Try.pinned (OpenSpec.ofChange chainageSpansWrong)

/-- 'boundstonelaw04.ChainageNarrows': WHATEVER THE INPUT: true; the input reads as it did. -/
def chainageNarrowsSpec : ChangeSpec := { name := "chainageNarrows", fn := fun _ => fun
  | [d1, d2, d3, d4] => { results := [.lit (.bool true)], args := [d1, d2, d3, d4] }
  | _ => none }
def chainageNarrowsRow : OpenClaim := { program := "ytaggjclaehigjaa", sum := "f1fce6bd63f98e945132efe2253f3c8b561e1f3bd1e1b06af2e97b4b4939b1db", func := "boundstone/boundstonelaw04.ChainageNarrows", spec := "chainageNarrows", unfollowed := true, recurses := true, apart := false }
def ChainageNarrowsSaid : Prop := chainageNarrowsRow.holds Try.pinned (OpenSpec.ofChange chainageNarrowsSpec)

/-- ITS FALSE NEIGHBOUR: 'it returns false'. Refute it at one input. -/
def chainageNarrowsWrong : ChangeSpec := { name := "chainageNarrows", fn := fun _ => fun
  | [d1, d2, d3, d4] => { results := [.lit (.bool false)], args := [d1, d2, d3, d4] }
  | _ => none }
def ChainageNarrowsWrongFalsely : Prop := chainageNarrowsRow.holds Try.pinned (OpenSpec.ofChange chainageNarrowsWrong)

/-- 'boundstonelaw04.ChainageIsSharp': WHATEVER THE INPUT: true; the input reads as it did. -/
def chainageIsSharpSpec : ChangeSpec := { name := "chainageIsSharp", fn := fun _ => fun
  | [d1, d2, d3] => { results := [.lit (.bool true)], args := [d1, d2, d3] }
  | _ => none }
def chainageIsSharpRow : OpenClaim := { program := "ytaggjclaehigjaa", sum := "f1fce6bd63f98e945132efe2253f3c8b561e1f3bd1e1b06af2e97b4b4939b1db", func := "boundstone/boundstonelaw04.ChainageIsSharp", spec := "chainageIsSharp", unfollowed := true, recurses := true, apart := false }
def ChainageIsSharpSaid : Prop := chainageIsSharpRow.holds Try.pinned (OpenSpec.ofChange chainageIsSharpSpec)

/-- ITS FALSE NEIGHBOUR: 'it returns false'. Refute it at one input. -/
def chainageIsSharpWrong : ChangeSpec := { name := "chainageIsSharp", fn := fun _ => fun
  | [d1, d2, d3] => { results := [.lit (.bool false)], args := [d1, d2, d3] }
  | _ => none }
def ChainageIsSharpWrongFalsely : Prop := chainageIsSharpRow.holds Try.pinned (OpenSpec.ofChange chainageIsSharpWrong)

/-- 'boundstonelaw04.ChainageProves': WHATEVER THE INPUT: true; the input reads as it did. -/
def chainageProvesSpec : ChangeSpec := { name := "chainageProves", fn := fun _ => fun
  | [d1, d2, d3, d4] => { results := [.lit (.bool true)], args := [d1, d2, d3, d4] }
  | _ => none }
def chainageProvesRow : OpenClaim := { program := "ytaggjclaehigjaa", sum := "f1fce6bd63f98e945132efe2253f3c8b561e1f3bd1e1b06af2e97b4b4939b1db", func := "boundstone/boundstonelaw04.ChainageProves", spec := "chainageProves", unfollowed := true, recurses := true, apart := false }
def ChainageProvesSaid : Prop := chainageProvesRow.holds Try.pinned (OpenSpec.ofChange chainageProvesSpec)

/-- ITS FALSE NEIGHBOUR: 'it returns false'. Refute it at one input. -/
def chainageProvesWrong : ChangeSpec := { name := "chainageProves", fn := fun _ => fun
  | [d1, d2, d3, d4] => { results := [.lit (.bool false)], args := [d1, d2, d3, d4] }
  | _ => none }
def ChainageProvesWrongFalsely : Prop := chainageProvesRow.holds Try.pinned (OpenSpec.ofChange chainageProvesWrong)

/- THE SECOND FORM. 'bulk': how many values and letters a reading holds, each counted each time it is reached (what is shared counts as often as it is met; a slice's spare places count too). A statement '..UptoSaid' is the law's where the arguments, and the package variables that the reading takes, are together of bulk at most 1048576: NARROWER than '..Said'. Prove '..Said' where nothing that the law and all that it calls make is longer than what came in: it says more and counts as full. Else prove '..UptoSaid'. A law counts once. -/
mutual
def uptoBulk {H : Type} : DataW H → Nat
  | .lit (.string bytes) => bytes.length + 1
  | .lit _ => 1
  | .nil => 1
  | .ptr d => uptoBulk d + 1
  | .slice elems spare => uptoBulkAll elems + uptoBulkAll spare + 1
  | .agg parts => uptoBulkAll parts + 1
  | .iface _ d => uptoBulk d + 1
  | .map entries => uptoBulkEntries entries + 1
  | .held _ => 1
def uptoBulkAll {H : Type} : List (DataW H) → Nat
  | [] => 0
  | d :: r => uptoBulk d + uptoBulkAll r
def uptoBulkEntries {H : Type} : List (Lit × DataW H) → Nat
  | [] => 0
  | x :: r => uptoBulkEntry x + uptoBulkEntries r
def uptoBulkEntry {H : Type} : Lit × DataW H → Nat
  | (.string bytes, d) => bytes.length + uptoBulk d + 1
  | (_, d) => uptoBulk d + 1
 end
def uptoSmall : (H : Type) → List (DataW H) → Bool := fun _ ds => decide (uptoBulkAll ds ≤ 1048576)
def OpenSpec.upto (s : _root_.Go.ChangeSpec) : _root_.Go.OpenSpec := { _root_.Go.OpenSpec.ofChange s with cond := some uptoSmall }

/-- 'boundstonelaw04.ChainageChecks', WHERE WHAT IT READS IS OF BULK AT MOST 1048576: true; the input reads as it did. -/
def chainageChecksUptoRow : OpenClaim := { program := "ytaggjclaehigjaa", sum := "f1fce6bd63f98e945132efe2253f3c8b561e1f3bd1e1b06af2e97b4b4939b1db", func := "boundstone/boundstonelaw04.ChainageChecks", spec := "chainageChecks", unfollowed := true, recurses := true, apart := false, narrowed := true }
def ChainageChecksUptoSaid : Prop := chainageChecksUptoRow.holds Try.pinned (OpenSpec.upto chainageChecksSpec)

/-- 'boundstonelaw04.ChainageLengths', WHERE WHAT IT READS IS OF BULK AT MOST 1048576: true; the input reads as it did. -/
def chainageLengthsUptoRow : OpenClaim := { program := "ytaggjclaehigjaa", sum := "f1fce6bd63f98e945132efe2253f3c8b561e1f3bd1e1b06af2e97b4b4939b1db", func := "boundstone/boundstonelaw04.ChainageLengths", spec := "chainageLengths", unfollowed := true, recurses := true, apart := false, narrowed := true }
def ChainageLengthsUptoSaid : Prop := chainageLengthsUptoRow.holds Try.pinned (OpenSpec.upto chainageLengthsSpec)

/-- 'boundstonelaw04.ChainageAdds', WHERE WHAT IT READS IS OF BULK AT MOST 1048576: true; the input reads as it did. -/
def chainageAddsUptoRow : OpenClaim := { program := "ytaggjclaehigjaa", sum := "f1fce6bd63f98e945132efe2253f3c8b561e1f3bd1e1b06af2e97b4b4939b1db", func := "boundstone/boundstonelaw04.ChainageAdds", spec := "chainageAdds", unfollowed := true, recurses := true, apart := false, narrowed := true }
def ChainageAddsUptoSaid : Prop := chainageAddsUptoRow.holds Try.pinned (OpenSpec.upto chainageAddsSpec)

/-- 'boundstonelaw04.ChainageFits', WHERE WHAT IT READS IS OF BULK AT MOST 1048576: true; the input reads as it did. -/
def chainageFitsUptoRow : OpenClaim := { program := "ytaggjclaehigjaa", sum := "f1fce6bd63f98e945132efe2253f3c8b561e1f3bd1e1b06af2e97b4b4939b1db", func := "boundstone/boundstonelaw04.ChainageFits", spec := "chainageFits", unfollowed := true, recurses := true, apart := false, narrowed := true }
def ChainageFitsUptoSaid : Prop := chainageFitsUptoRow.holds Try.pinned (OpenSpec.upto chainageFitsSpec)

/-- 'boundstonelaw04.ChainageIsTrue', WHERE WHAT IT READS IS OF BULK AT MOST 1048576: true; the input reads as it did. -/
def chainageIsTrueUptoRow : OpenClaim := { program := "ytaggjclaehigjaa", sum := "f1fce6bd63f98e945132efe2253f3c8b561e1f3bd1e1b06af2e97b4b4939b1db", func := "boundstone/boundstonelaw04.ChainageIsTrue", spec := "chainageIsTrue", unfollowed := true, recurses := true, apart := false, narrowed := true }
def ChainageIsTrueUptoSaid : Prop := chainageIsTrueUptoRow.holds Try.pinned (OpenSpec.upto chainageIsTrueSpec)

/-- 'boundstonelaw04.ChainageCounts', WHERE WHAT IT READS IS OF BULK AT MOST 1048576: true; the input reads as it did. -/
def chainageCountsUptoRow : OpenClaim := { program := "ytaggjclaehigjaa", sum := "f1fce6bd63f98e945132efe2253f3c8b561e1f3bd1e1b06af2e97b4b4939b1db", func := "boundstone/boundstonelaw04.ChainageCounts", spec := "chainageCounts", unfollowed := true, recurses := true, apart := false, narrowed := true }
def ChainageCountsUptoSaid : Prop := chainageCountsUptoRow.holds Try.pinned (OpenSpec.upto chainageCountsSpec)

/-- 'boundstonelaw04.ChainageMeasures', WHERE WHAT IT READS IS OF BULK AT MOST 1048576: true; the input reads as it did. -/
def chainageMeasuresUptoRow : OpenClaim := { program := "ytaggjclaehigjaa", sum := "f1fce6bd63f98e945132efe2253f3c8b561e1f3bd1e1b06af2e97b4b4939b1db", func := "boundstone/boundstonelaw04.ChainageMeasures", spec := "chainageMeasures", unfollowed := true, recurses := true, apart := false, narrowed := true }
def ChainageMeasuresUptoSaid : Prop := chainageMeasuresUptoRow.holds Try.pinned (OpenSpec.upto chainageMeasuresSpec)

/-- 'boundstonelaw04.ChainageSpans', WHERE WHAT IT READS IS OF BULK AT MOST 1048576: true; the input reads as it did. -/
def chainageSpansUptoRow : OpenClaim := { program := "ytaggjclaehigjaa", sum := "f1fce6bd63f98e945132efe2253f3c8b561e1f3bd1e1b06af2e97b4b4939b1db", func := "boundstone/boundstonelaw04.ChainageSpans", spec := "chainageSpans", unfollowed := true, recurses := true, apart := false, narrowed := true }
def ChainageSpansUptoSaid : Prop := chainageSpansUptoRow.holds Try.pinned (OpenSpec.upto chainageSpansSpec)

/-- 'boundstonelaw04.ChainageNarrows', WHERE WHAT IT READS IS OF BULK AT MOST 1048576: true; the input reads as it did. -/
def chainageNarrowsUptoRow : OpenClaim := { program := "ytaggjclaehigjaa", sum := "f1fce6bd63f98e945132efe2253f3c8b561e1f3bd1e1b06af2e97b4b4939b1db", func := "boundstone/boundstonelaw04.ChainageNarrows", spec := "chainageNarrows", unfollowed := true, recurses := true, apart := false, narrowed := true }
def ChainageNarrowsUptoSaid : Prop := chainageNarrowsUptoRow.holds Try.pinned (OpenSpec.upto chainageNarrowsSpec)

/-- 'boundstonelaw04.ChainageIsSharp', WHERE WHAT IT READS IS OF BULK AT MOST 1048576: true; the input reads as it did. -/
def chainageIsSharpUptoRow : OpenClaim := { program := "ytaggjclaehigjaa", sum := "f1fce6bd63f98e945132efe2253f3c8b561e1f3bd1e1b06af2e97b4b4939b1db", func := "boundstone/boundstonelaw04.ChainageIsSharp", spec := "chainageIsSharp", unfollowed := true, recurses := true, apart := false, narrowed := true }
def ChainageIsSharpUptoSaid : Prop := chainageIsSharpUptoRow.holds Try.pinned (OpenSpec.upto chainageIsSharpSpec)

/-- 'boundstonelaw04.ChainageProves', WHERE WHAT IT READS IS OF BULK AT MOST 1048576: true; the input reads as it did. -/
def chainageProvesUptoRow : OpenClaim := { program := "ytaggjclaehigjaa", sum := "f1fce6bd63f98e945132efe2253f3c8b561e1f3bd1e1b06af2e97b4b4939b1db", func := "boundstone/boundstonelaw04.ChainageProves", spec := "chainageProves", unfollowed := true, recurses := true, apart := false, narrowed := true }
def ChainageProvesUptoSaid : Prop := chainageProvesUptoRow.holds Try.pinned (OpenSpec.upto chainageProvesSpec)

end Rows
end Go.Proofs.Ytaggjclaehigjaa
