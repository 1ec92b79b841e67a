/-
  No cell of these rows narrows 'for every input' (looked for: loops, veiled, ifaces, maps, wideKeys, modest, calm, conditions, laid).
  DERIVED. THE GIVEN ROWS OF THIS SEAT. 14 by the template 'for every input the law returns true; each argument reads behind the call as it read before'; 0 by the template 'total and deterministic' (their statements: YtlhehphikkgobaaTotals.lean).
  GIVEN WITH THE SEED: the statements are not yours to turn. If you find one false, say at which input.
  Laid BY PROGRAM, IN A SANDBOX (cutbox-rows.mjs): the forced cells as the released guide's own fill.sh prints them over the translation f1800c76282a0bde… (all of the seat's roots in one cut). By AI agents, Wed Nov 11 2026. No macro, syntax, notation, axiom, sorry.
-/
import Derived.Test.YtlhehphikkgobaaChecked
import GoSem.Claim
import GoSem.ClaimJoined
import GoSem.ClaimMapViews
import Derived.JoinedTies
import Derived.KernelRfl
namespace Go.Proofs.Ytlhehphikkgobaa
/- THE CELL 'sum', in the pinned program and in every row, IS THE sha256 OF THE DUMP (.gsa) THAT YtlhehphikkgobaaProg.lean LOADS. Nothing in Lean hashes anything: it is a label: what it is worth is what the hold of that sum in a sandbox is worth. -/
noncomputable def Try.pinned : Pinned := { name := "ytlhehphikkgobaa", sum := "f1800c76282a0bdedfad643a8732e3af495a0cca4db5c732a18f1a235c174de0", checked := Try.checked }
namespace Rows
def none {H : Type} : Left H := { results := [], args := [] }

/-- 'warrantlaw04.FlowNames': WHATEVER THE INPUT: true; the input reads as it did. -/
def flowNamesSpec : ChangeSpec := { name := "flowNames", fn := fun _ => fun
  | [] => { results := [.lit (.bool true)], args := [] }
  | _ => none }
def flowNamesRow : OpenClaim := { program := "ytlhehphikkgobaa", sum := "f1800c76282a0bdedfad643a8732e3af495a0cca4db5c732a18f1a235c174de0", func := "warrant/warrantlaw04.FlowNames", spec := "flowNames", apart := false }
def FlowNamesSaid : Prop := flowNamesRow.holds Try.pinned (OpenSpec.ofChange flowNamesSpec)

/-- ITS FALSE NEIGHBOUR: 'it returns false'. Refute it at one input. -/
def flowNamesWrong : ChangeSpec := { name := "flowNames", fn := fun _ => fun
  | [] => { results := [.lit (.bool false)], args := [] }
  | _ => none }
def FlowNamesWrongFalsely : Prop := flowNamesRow.holds Try.pinned (OpenSpec.ofChange flowNamesWrong)

/-- 'warrantlaw04.FlowMakes': WHATEVER THE INPUT: true; the input reads as it did. -/
def flowMakesSpec : ChangeSpec := { name := "flowMakes", fn := fun _ => fun
  | [d] => { results := [.lit (.bool true)], args := [d] }
  | _ => none }
def flowMakesRow : OpenClaim := { program := "ytlhehphikkgobaa", sum := "f1800c76282a0bdedfad643a8732e3af495a0cca4db5c732a18f1a235c174de0", func := "warrant/warrantlaw04.FlowMakes", spec := "flowMakes", recurses := true, apart := false }
def FlowMakesSaid : Prop := flowMakesRow.holds Try.pinned (OpenSpec.ofChange flowMakesSpec)

/-- ITS FALSE NEIGHBOUR: 'it returns false'. Refute it at one input. -/
def flowMakesWrong : ChangeSpec := { name := "flowMakes", fn := fun _ => fun
  | [d] => { results := [.lit (.bool false)], args := [d] }
  | _ => none }
def FlowMakesWrongFalsely : Prop := flowMakesRow.holds Try.pinned (OpenSpec.ofChange flowMakesWrong)

/-- 'warrantlaw04.FlowLoops': WHATEVER THE INPUT: true; the input reads as it did. -/
def flowLoopsSpec : ChangeSpec := { name := "flowLoops", fn := fun _ => fun
  | [d] => { results := [.lit (.bool true)], args := [d] }
  | _ => none }
def flowLoopsRow : OpenClaim := { program := "ytlhehphikkgobaa", sum := "f1800c76282a0bdedfad643a8732e3af495a0cca4db5c732a18f1a235c174de0", func := "warrant/warrantlaw04.FlowLoops", spec := "flowLoops", recurses := true, apart := false }
def FlowLoopsSaid : Prop := flowLoopsRow.holds Try.pinned (OpenSpec.ofChange flowLoopsSpec)

/-- ITS FALSE NEIGHBOUR: 'it returns false'. Refute it at one input. -/
def flowLoopsWrong : ChangeSpec := { name := "flowLoops", fn := fun _ => fun
  | [d] => { results := [.lit (.bool false)], args := [d] }
  | _ => none }
def FlowLoopsWrongFalsely : Prop := flowLoopsRow.holds Try.pinned (OpenSpec.ofChange flowLoopsWrong)

/-- 'warrantlaw04.FlowDominates': WHATEVER THE INPUT: true; the input reads as it did. -/
def flowDominatesSpec : ChangeSpec := { name := "flowDominates", fn := fun _ => fun
  | [d1, d2, d3] => { results := [.lit (.bool true)], args := [d1, d2, d3] }
  | _ => none }
def flowDominatesRow : OpenClaim := { program := "ytlhehphikkgobaa", sum := "f1800c76282a0bdedfad643a8732e3af495a0cca4db5c732a18f1a235c174de0", func := "warrant/warrantlaw04.FlowDominates", spec := "flowDominates", recurses := true, apart := false }
def FlowDominatesSaid : Prop := flowDominatesRow.holds Try.pinned (OpenSpec.ofChange flowDominatesSpec)

/-- ITS FALSE NEIGHBOUR: 'it returns false'. Refute it at one input. -/
def flowDominatesWrong : ChangeSpec := { name := "flowDominates", fn := fun _ => fun
  | [d1, d2, d3] => { results := [.lit (.bool false)], args := [d1, d2, d3] }
  | _ => none }
def FlowDominatesWrongFalsely : Prop := flowDominatesRow.holds Try.pinned (OpenSpec.ofChange flowDominatesWrong)

/-- 'warrantlaw04.FlowOrder': WHATEVER THE INPUT: true; the input reads as it did. -/
def flowOrderSpec : ChangeSpec := { name := "flowOrder", fn := fun _ => fun
  | [d] => { results := [.lit (.bool true)], args := [d] }
  | _ => none }
def flowOrderRow : OpenClaim := { program := "ytlhehphikkgobaa", sum := "f1800c76282a0bdedfad643a8732e3af495a0cca4db5c732a18f1a235c174de0", func := "warrant/warrantlaw04.FlowOrder", spec := "flowOrder", recurses := true, apart := false }
def FlowOrderSaid : Prop := flowOrderRow.holds Try.pinned (OpenSpec.ofChange flowOrderSpec)

/-- ITS FALSE NEIGHBOUR: 'it returns false'. Refute it at one input. -/
def flowOrderWrong : ChangeSpec := { name := "flowOrder", fn := fun _ => fun
  | [d] => { results := [.lit (.bool false)], args := [d] }
  | _ => none }
def FlowOrderWrongFalsely : Prop := flowOrderRow.holds Try.pinned (OpenSpec.ofChange flowOrderWrong)

/-- 'warrantlaw04.FlowBlock': WHATEVER THE INPUT: true; the input reads as it did. -/
def flowBlockSpec : ChangeSpec := { name := "flowBlock", fn := fun _ => fun
  | [d1, d2] => { results := [.lit (.bool true)], args := [d1, d2] }
  | _ => none }
def flowBlockRow : OpenClaim := { program := "ytlhehphikkgobaa", sum := "f1800c76282a0bdedfad643a8732e3af495a0cca4db5c732a18f1a235c174de0", func := "warrant/warrantlaw04.FlowBlock", spec := "flowBlock", recurses := true, apart := false }
def FlowBlockSaid : Prop := flowBlockRow.holds Try.pinned (OpenSpec.ofChange flowBlockSpec)

/-- ITS FALSE NEIGHBOUR: 'it returns false'. Refute it at one input. -/
def flowBlockWrong : ChangeSpec := { name := "flowBlock", fn := fun _ => fun
  | [d1, d2] => { results := [.lit (.bool false)], args := [d1, d2] }
  | _ => none }
def FlowBlockWrongFalsely : Prop := flowBlockRow.holds Try.pinned (OpenSpec.ofChange flowBlockWrong)

/-- 'warrantlaw04.FlowPlays': WHATEVER THE INPUT: true; the input reads as it did. -/
def flowPlaysSpec : ChangeSpec := { name := "flowPlays", fn := fun _ => fun
  | [d1, d2, d3] => { results := [.lit (.bool true)], args := [d1, d2, d3] }
  | _ => none }
def flowPlaysRow : OpenClaim := { program := "ytlhehphikkgobaa", sum := "f1800c76282a0bdedfad643a8732e3af495a0cca4db5c732a18f1a235c174de0", func := "warrant/warrantlaw04.FlowPlays", spec := "flowPlays", recurses := true, apart := false }
def FlowPlaysSaid : Prop := flowPlaysRow.holds Try.pinned (OpenSpec.ofChange flowPlaysSpec)

/-- ITS FALSE NEIGHBOUR: 'it returns false'. Refute it at one input. -/
def flowPlaysWrong : ChangeSpec := { name := "flowPlays", fn := fun _ => fun
  | [d1, d2, d3] => { results := [.lit (.bool false)], args := [d1, d2, d3] }
  | _ => none }
def FlowPlaysWrongFalsely : Prop := flowPlaysRow.holds Try.pinned (OpenSpec.ofChange flowPlaysWrong)

/-- 'warrantlaw04.FlowFresh': WHATEVER THE INPUT: true; the input reads as it did. -/
def flowFreshSpec : ChangeSpec := { name := "flowFresh", fn := fun _ => fun
  | [d] => { results := [.lit (.bool true)], args := [d] }
  | _ => none }
def flowFreshRow : OpenClaim := { program := "ytlhehphikkgobaa", sum := "f1800c76282a0bdedfad643a8732e3af495a0cca4db5c732a18f1a235c174de0", func := "warrant/warrantlaw04.FlowFresh", spec := "flowFresh", recurses := true, apart := false }
def FlowFreshSaid : Prop := flowFreshRow.holds Try.pinned (OpenSpec.ofChange flowFreshSpec)

/-- ITS FALSE NEIGHBOUR: 'it returns false'. Refute it at one input. -/
def flowFreshWrong : ChangeSpec := { name := "flowFresh", fn := fun _ => fun
  | [d] => { results := [.lit (.bool false)], args := [d] }
  | _ => none }
def FlowFreshWrongFalsely : Prop := flowFreshRow.holds Try.pinned (OpenSpec.ofChange flowFreshWrong)

/-- 'warrantlaw04.FlowCovers': WHATEVER THE INPUT: true; the input reads as it did. -/
def flowCoversSpec : ChangeSpec := { name := "flowCovers", fn := fun _ => fun
  | [d] => { results := [.lit (.bool true)], args := [d] }
  | _ => none }
def flowCoversRow : OpenClaim := { program := "ytlhehphikkgobaa", sum := "f1800c76282a0bdedfad643a8732e3af495a0cca4db5c732a18f1a235c174de0", func := "warrant/warrantlaw04.FlowCovers", spec := "flowCovers", recurses := true, apart := false }
def FlowCoversSaid : Prop := flowCoversRow.holds Try.pinned (OpenSpec.ofChange flowCoversSpec)

/-- ITS FALSE NEIGHBOUR: 'it returns false'. Refute it at one input. -/
def flowCoversWrong : ChangeSpec := { name := "flowCovers", fn := fun _ => fun
  | [d] => { results := [.lit (.bool false)], args := [d] }
  | _ => none }
def FlowCoversWrongFalsely : Prop := flowCoversRow.holds Try.pinned (OpenSpec.ofChange flowCoversWrong)

/-- 'warrantlaw04.FlowWalks': WHATEVER THE INPUT: true; the input reads as it did. -/
def flowWalksSpec : ChangeSpec := { name := "flowWalks", fn := fun _ => fun
  | [d1, d2] => { results := [.lit (.bool true)], args := [d1, d2] }
  | _ => none }
def flowWalksRow : OpenClaim := { program := "ytlhehphikkgobaa", sum := "f1800c76282a0bdedfad643a8732e3af495a0cca4db5c732a18f1a235c174de0", func := "warrant/warrantlaw04.FlowWalks", spec := "flowWalks", recurses := true, apart := false }
def FlowWalksSaid : Prop := flowWalksRow.holds Try.pinned (OpenSpec.ofChange flowWalksSpec)

/-- ITS FALSE NEIGHBOUR: 'it returns false'. Refute it at one input. -/
def flowWalksWrong : ChangeSpec := { name := "flowWalks", fn := fun _ => fun
  | [d1, d2] => { results := [.lit (.bool false)], args := [d1, d2] }
  | _ => none }
def FlowWalksWrongFalsely : Prop := flowWalksRow.holds Try.pinned (OpenSpec.ofChange flowWalksWrong)

/-- 'warrantlaw04.FlowGuards': WHATEVER THE INPUT: true; the input reads as it did. -/
def flowGuardsSpec : ChangeSpec := { name := "flowGuards", fn := fun _ => fun
  | [d1, d2] => { results := [.lit (.bool true)], args := [d1, d2] }
  | _ => none }
def flowGuardsRow : OpenClaim := { program := "ytlhehphikkgobaa", sum := "f1800c76282a0bdedfad643a8732e3af495a0cca4db5c732a18f1a235c174de0", func := "warrant/warrantlaw04.FlowGuards", spec := "flowGuards", recurses := true, apart := false }
def FlowGuardsSaid : Prop := flowGuardsRow.holds Try.pinned (OpenSpec.ofChange flowGuardsSpec)

/-- ITS FALSE NEIGHBOUR: 'it returns false'. Refute it at one input. -/
def flowGuardsWrong : ChangeSpec := { name := "flowGuards", fn := fun _ => fun
  | [d1, d2] => { results := [.lit (.bool false)], args := [d1, d2] }
  | _ => none }
def FlowGuardsWrongFalsely : Prop := flowGuardsRow.holds Try.pinned (OpenSpec.ofChange flowGuardsWrong)

/-- 'warrantlaw04.FlowNests': WHATEVER THE INPUT: true; the input reads as it did. -/
def flowNestsSpec : ChangeSpec := { name := "flowNests", fn := fun _ => fun
  | [d] => { results := [.lit (.bool true)], args := [d] }
  | _ => none }
def flowNestsRow : OpenClaim := { program := "ytlhehphikkgobaa", sum := "f1800c76282a0bdedfad643a8732e3af495a0cca4db5c732a18f1a235c174de0", func := "warrant/warrantlaw04.FlowNests", spec := "flowNests", recurses := true, apart := false }
def FlowNestsSaid : Prop := flowNestsRow.holds Try.pinned (OpenSpec.ofChange flowNestsSpec)

/-- ITS FALSE NEIGHBOUR: 'it returns false'. Refute it at one input. -/
def flowNestsWrong : ChangeSpec := { name := "flowNests", fn := fun _ => fun
  | [d] => { results := [.lit (.bool false)], args := [d] }
  | _ => none }
def FlowNestsWrongFalsely : Prop := flowNestsRow.holds Try.pinned (OpenSpec.ofChange flowNestsWrong)

/-- 'warrantlaw04.FlowForward': WHATEVER THE INPUT: true; the input reads as it did. -/
def flowForwardSpec : ChangeSpec := { name := "flowForward", fn := fun _ => fun
  | [d] => { results := [.lit (.bool true)], args := [d] }
  | _ => none }
def flowForwardRow : OpenClaim := { program := "ytlhehphikkgobaa", sum := "f1800c76282a0bdedfad643a8732e3af495a0cca4db5c732a18f1a235c174de0", func := "warrant/warrantlaw04.FlowForward", spec := "flowForward", recurses := true, apart := false }
def FlowForwardSaid : Prop := flowForwardRow.holds Try.pinned (OpenSpec.ofChange flowForwardSpec)

/-- ITS FALSE NEIGHBOUR: 'it returns false'. Refute it at one input. -/
def flowForwardWrong : ChangeSpec := { name := "flowForward", fn := fun _ => fun
  | [d] => { results := [.lit (.bool false)], args := [d] }
  | _ => none }
def FlowForwardWrongFalsely : Prop := flowForwardRow.holds Try.pinned (OpenSpec.ofChange flowForwardWrong)

/-- 'warrantlaw04.FlowHeads': WHATEVER THE INPUT: true; the input reads as it did. -/
def flowHeadsSpec : ChangeSpec := { name := "flowHeads", fn := fun _ => fun
  | [d] => { results := [.lit (.bool true)], args := [d] }
  | _ => none }
def flowHeadsRow : OpenClaim := { program := "ytlhehphikkgobaa", sum := "f1800c76282a0bdedfad643a8732e3af495a0cca4db5c732a18f1a235c174de0", func := "warrant/warrantlaw04.FlowHeads", spec := "flowHeads", recurses := true, apart := false }
def FlowHeadsSaid : Prop := flowHeadsRow.holds Try.pinned (OpenSpec.ofChange flowHeadsSpec)

/-- ITS FALSE NEIGHBOUR: 'it returns false'. Refute it at one input. -/
def flowHeadsWrong : ChangeSpec := { name := "flowHeads", fn := fun _ => fun
  | [d] => { results := [.lit (.bool false)], args := [d] }
  | _ => none }
def FlowHeadsWrongFalsely : Prop := flowHeadsRow.holds Try.pinned (OpenSpec.ofChange flowHeadsWrong)

/- THE SECOND FORM. 'bulk': how many values and letters a reading holds, each counted each time it is reached (what is shared counts as often as it is met; a slice's spare places count too). A statement '..UptoSaid' is the law's where the arguments, and the package variables that the reading takes, are together of bulk at most 1048576: NARROWER than '..Said'. Prove '..Said' where nothing that the law and all that it calls make is longer than what came in: it says more and counts as full. Else prove '..UptoSaid'. A law counts once. -/
mutual
def uptoBulk {H : Type} : DataW H → Nat
  | .lit (.string bytes) => bytes.length + 1
  | .lit _ => 1
  | .nil => 1
  | .ptr d => uptoBulk d + 1
  | .slice elems spare => uptoBulkAll elems + uptoBulkAll spare + 1
  | .agg parts => uptoBulkAll parts + 1
  | .iface _ d => uptoBulk d + 1
  | .map entries => uptoBulkEntries entries + 1
  | .held _ => 1
def uptoBulkAll {H : Type} : List (DataW H) → Nat
  | [] => 0
  | d :: r => uptoBulk d + uptoBulkAll r
def uptoBulkEntries {H : Type} : List (Lit × DataW H) → Nat
  | [] => 0
  | x :: r => uptoBulkEntry x + uptoBulkEntries r
def uptoBulkEntry {H : Type} : Lit × DataW H → Nat
  | (.string bytes, d) => bytes.length + uptoBulk d + 1
  | (_, d) => uptoBulk d + 1
 end
def uptoSmall : (H : Type) → List (DataW H) → Bool := fun _ ds => decide (uptoBulkAll ds ≤ 1048576)
def OpenSpec.upto (s : _root_.Go.ChangeSpec) : _root_.Go.OpenSpec := { _root_.Go.OpenSpec.ofChange s with cond := some uptoSmall }

/-- 'warrantlaw04.FlowNames', WHERE WHAT IT READS IS OF BULK AT MOST 1048576: true; the input reads as it did. -/
def flowNamesUptoRow : OpenClaim := { program := "ytlhehphikkgobaa", sum := "f1800c76282a0bdedfad643a8732e3af495a0cca4db5c732a18f1a235c174de0", func := "warrant/warrantlaw04.FlowNames", spec := "flowNames", apart := false, narrowed := true }
def FlowNamesUptoSaid : Prop := flowNamesUptoRow.holds Try.pinned (OpenSpec.upto flowNamesSpec)

/-- 'warrantlaw04.FlowMakes', WHERE WHAT IT READS IS OF BULK AT MOST 1048576: true; the input reads as it did. -/
def flowMakesUptoRow : OpenClaim := { program := "ytlhehphikkgobaa", sum := "f1800c76282a0bdedfad643a8732e3af495a0cca4db5c732a18f1a235c174de0", func := "warrant/warrantlaw04.FlowMakes", spec := "flowMakes", recurses := true, apart := false, narrowed := true }
def FlowMakesUptoSaid : Prop := flowMakesUptoRow.holds Try.pinned (OpenSpec.upto flowMakesSpec)

/-- 'warrantlaw04.FlowLoops', WHERE WHAT IT READS IS OF BULK AT MOST 1048576: true; the input reads as it did. -/
def flowLoopsUptoRow : OpenClaim := { program := "ytlhehphikkgobaa", sum := "f1800c76282a0bdedfad643a8732e3af495a0cca4db5c732a18f1a235c174de0", func := "warrant/warrantlaw04.FlowLoops", spec := "flowLoops", recurses := true, apart := false, narrowed := true }
def FlowLoopsUptoSaid : Prop := flowLoopsUptoRow.holds Try.pinned (OpenSpec.upto flowLoopsSpec)

/-- 'warrantlaw04.FlowDominates', WHERE WHAT IT READS IS OF BULK AT MOST 1048576: true; the input reads as it did. -/
def flowDominatesUptoRow : OpenClaim := { program := "ytlhehphikkgobaa", sum := "f1800c76282a0bdedfad643a8732e3af495a0cca4db5c732a18f1a235c174de0", func := "warrant/warrantlaw04.FlowDominates", spec := "flowDominates", recurses := true, apart := false, narrowed := true }
def FlowDominatesUptoSaid : Prop := flowDominatesUptoRow.holds Try.pinned (OpenSpec.upto flowDominatesSpec)

/-- 'warrantlaw04.FlowOrder', WHERE WHAT IT READS IS OF BULK AT MOST 1048576: true; the input reads as it did. -/
def flowOrderUptoRow : OpenClaim := { program := "ytlhehphikkgobaa", sum := "f1800c76282a0bdedfad643a8732e3af495a0cca4db5c732a18f1a235c174de0", func := "warrant/warrantlaw04.FlowOrder", spec := "flowOrder", recurses := true, apart := false, narrowed := true }
def FlowOrderUptoSaid : Prop := flowOrderUptoRow.holds Try.pinned (OpenSpec.upto flowOrderSpec)

/-- 'warrantlaw04.FlowBlock', WHERE WHAT IT READS IS OF BULK AT MOST 1048576: true; the input reads as it did. -/
def flowBlockUptoRow : OpenClaim := { program := "ytlhehphikkgobaa", sum := "f1800c76282a0bdedfad643a8732e3af495a0cca4db5c732a18f1a235c174de0", func := "warrant/warrantlaw04.FlowBlock", spec := "flowBlock", recurses := true, apart := false, narrowed := true }
def FlowBlockUptoSaid : Prop := flowBlockUptoRow.holds Try.pinned (OpenSpec.upto flowBlockSpec)

/-- 'warrantlaw04.FlowPlays', WHERE WHAT IT READS IS OF BULK AT MOST 1048576: true; the input reads as it did. -/
def flowPlaysUptoRow : OpenClaim := { program := "ytlhehphikkgobaa", sum := "f1800c76282a0bdedfad643a8732e3af495a0cca4db5c732a18f1a235c174de0", func := "warrant/warrantlaw04.FlowPlays", spec := "flowPlays", recurses := true, apart := false, narrowed := true }
def FlowPlaysUptoSaid : Prop := flowPlaysUptoRow.holds Try.pinned (OpenSpec.upto flowPlaysSpec)

/-- 'warrantlaw04.FlowFresh', WHERE WHAT IT READS IS OF BULK AT MOST 1048576: true; the input reads as it did. -/
def flowFreshUptoRow : OpenClaim := { program := "ytlhehphikkgobaa", sum := "f1800c76282a0bdedfad643a8732e3af495a0cca4db5c732a18f1a235c174de0", func := "warrant/warrantlaw04.FlowFresh", spec := "flowFresh", recurses := true, apart := false, narrowed := true }
def FlowFreshUptoSaid : Prop := flowFreshUptoRow.holds Try.pinned (OpenSpec.upto flowFreshSpec)

/-- 'warrantlaw04.FlowCovers', WHERE WHAT IT READS IS OF BULK AT MOST 1048576: true; the input reads as it did. -/
def flowCoversUptoRow : OpenClaim := { program := "ytlhehphikkgobaa", sum := "f1800c76282a0bdedfad643a8732e3af495a0cca4db5c732a18f1a235c174de0", func := "warrant/warrantlaw04.FlowCovers", spec := "flowCovers", recurses := true, apart := false, narrowed := true }
def FlowCoversUptoSaid : Prop := flowCoversUptoRow.holds Try.pinned (OpenSpec.upto flowCoversSpec)

/-- 'warrantlaw04.FlowWalks', WHERE WHAT IT READS IS OF BULK AT MOST 1048576: true; the input reads as it did. -/
def flowWalksUptoRow : OpenClaim := { program := "ytlhehphikkgobaa", sum := "f1800c76282a0bdedfad643a8732e3af495a0cca4db5c732a18f1a235c174de0", func := "warrant/warrantlaw04.FlowWalks", spec := "flowWalks", recurses := true, apart := false, narrowed := true }
def FlowWalksUptoSaid : Prop := flowWalksUptoRow.holds Try.pinned (OpenSpec.upto flowWalksSpec)

/-- 'warrantlaw04.FlowGuards', WHERE WHAT IT READS IS OF BULK AT MOST 1048576: true; the input reads as it did. -/
def flowGuardsUptoRow : OpenClaim := { program := "ytlhehphikkgobaa", sum := "f1800c76282a0bdedfad643a8732e3af495a0cca4db5c732a18f1a235c174de0", func := "warrant/warrantlaw04.FlowGuards", spec := "flowGuards", recurses := true, apart := false, narrowed := true }
def FlowGuardsUptoSaid : Prop := flowGuardsUptoRow.holds Try.pinned (OpenSpec.upto flowGuardsSpec)

/-- 'warrantlaw04.FlowNests', WHERE WHAT IT READS IS OF BULK AT MOST 1048576: true; the input reads as it did. -/
def flowNestsUptoRow : OpenClaim := { program := "ytlhehphikkgobaa", sum := "f1800c76282a0bdedfad643a8732e3af495a0cca4db5c732a18f1a235c174de0", func := "warrant/warrantlaw04.FlowNests", spec := "flowNests", recurses := true, apart := false, narrowed := true }
def FlowNestsUptoSaid : Prop := flowNestsUptoRow.holds Try.pinned (OpenSpec.upto flowNestsSpec)

/-- 'warrantlaw04.FlowForward', WHERE WHAT IT READS IS OF BULK AT MOST 1048576: true; the input reads as it did. -/
def flowForwardUptoRow : OpenClaim := { program := "ytlhehphikkgobaa", sum := "f1800c76282a0bdedfad643a8732e3af495a0cca4db5c732a18f1a235c174de0", func := "warrant/warrantlaw04.FlowForward", spec := "flowForward", recurses := true, apart := false, narrowed := true }
def FlowForwardUptoSaid : Prop := flowForwardUptoRow.holds Try.pinned (OpenSpec.upto flowForwardSpec)

/-- 'warrantlaw04.FlowHeads', WHERE WHAT IT READS IS OF BULK AT MOST 1048576: true; the input reads as it did. -/
def flowHeadsUptoRow : OpenClaim := { program := "ytlhehphikkgobaa", sum := "f1800c76282a0bdedfad643a8732e3af495a0cca4db5c732a18f1a235c174de0", func := "warrant/warrantlaw04.FlowHeads", spec := "flowHeads", recurses := true, apart := false, narrowed := true }
def FlowHeadsUptoSaid : Prop := flowHeadsUptoRow.holds Try.pinned (OpenSpec.upto flowHeadsSpec)

end Rows
end Go.Proofs.Ytlhehphikkgobaa
