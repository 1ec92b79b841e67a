/-
  No cell of these rows narrows 'for every input' (looked for: loops, veiled, ifaces, maps, wideKeys, modest, calm, conditions, laid).
  DERIVED. THE GIVEN ROWS OF THIS SEAT. 3 by the template 'for every input the law returns true; each argument reads behind the call as it read before'; 0 by the template 'total and deterministic' (their statements: YtcflgogodgfccaaTotals.lean).
  GIVEN WITH THE SEED: the statements are not yours to turn. If you find one false, say at which input.
  Laid BY PROGRAM, IN A SANDBOX (cutbox-rows.mjs): the forced cells as the released guide's own fill.sh prints them over the translation c59e81bd2748ecb3… (all of the seat's roots in one cut). By AI agents, Wed Nov 11 2026. No macro, syntax, notation, axiom, sorry.
-/
import Derived.Test.YtcflgogodgfccaaChecked
import GoSem.Claim
import GoSem.ClaimJoined
import GoSem.ClaimMapViews
import Derived.JoinedTies
import Derived.KernelRfl
namespace Go.Proofs.Ytcflgogodgfccaa
/- THE CELL 'sum', in the pinned program and in every row, IS THE sha256 OF THE DUMP (.gsa) THAT YtcflgogodgfccaaProg.lean LOADS. Nothing in Lean hashes anything: it is a label: what it is worth is what the hold of that sum in a sandbox is worth. -/
noncomputable def Try.pinned : Pinned := { name := "ytcflgogodgfccaa", sum := "c59e81bd2748ecb378ab428d742da97ffd28e2adf1221169a4b42f8c235ff013", checked := Try.checked }
namespace Rows
def none {H : Type} : Left H := { results := [], args := [] }

/-- 'warrantlaw19.HeatNames': WHATEVER THE INPUT: true; the input reads as it did. -/
def heatNamesSpec : ChangeSpec := { name := "heatNames", fn := fun _ => fun
  | [] => { results := [.lit (.bool true)], args := [] }
  | _ => none }
def heatNamesRow : OpenClaim := { program := "ytcflgogodgfccaa", sum := "c59e81bd2748ecb378ab428d742da97ffd28e2adf1221169a4b42f8c235ff013", func := "warrant/warrantlaw19.HeatNames", spec := "heatNames", unfollowed := true, recurses := true, apart := false }
def HeatNamesSaid : Prop := heatNamesRow.holds Try.pinned (OpenSpec.ofChange heatNamesSpec)

/-- ITS FALSE NEIGHBOUR: 'it returns false'. Refute it at one input. -/
def heatNamesWrong : ChangeSpec := { name := "heatNames", fn := fun _ => fun
  | [] => { results := [.lit (.bool false)], args := [] }
  | _ => none }
def HeatNamesWrongFalsely : Prop := heatNamesRow.holds Try.pinned (OpenSpec.ofChange heatNamesWrong)

/-- 'warrantlaw19.HeatFlows': WHATEVER THE INPUT: true; the input reads as it did. -/
def heatFlowsSpec : ChangeSpec := { name := "heatFlows", fn := fun _ => fun
  | [d] => { results := [.lit (.bool true)], args := [d] }
  | _ => none }
def heatFlowsRow : OpenClaim := { program := "ytcflgogodgfccaa", sum := "c59e81bd2748ecb378ab428d742da97ffd28e2adf1221169a4b42f8c235ff013", func := "warrant/warrantlaw19.HeatFlows", spec := "heatFlows", unfollowed := true, recurses := true, apart := false }
def HeatFlowsSaid : Prop := heatFlowsRow.holds Try.pinned (OpenSpec.ofChange heatFlowsSpec)

/-- ITS FALSE NEIGHBOUR: 'it returns false'. Refute it at one input. -/
def heatFlowsWrong : ChangeSpec := { name := "heatFlows", fn := fun _ => fun
  | [d] => { results := [.lit (.bool false)], args := [d] }
  | _ => none }
def HeatFlowsWrongFalsely : Prop := heatFlowsRow.holds Try.pinned (OpenSpec.ofChange heatFlowsWrong)

/-- 'warrantlaw19.HeatLine': WHATEVER THE INPUT: true; the input reads as it did. -/
def heatLineSpec : ChangeSpec := { name := "heatLine", fn := fun _ => fun
  | [d] => { results := [.lit (.bool true)], args := [d] }
  | _ => none }
def heatLineRow : OpenClaim := { program := "ytcflgogodgfccaa", sum := "c59e81bd2748ecb378ab428d742da97ffd28e2adf1221169a4b42f8c235ff013", func := "warrant/warrantlaw19.HeatLine", spec := "heatLine", unfollowed := true, recurses := true, apart := false }
def HeatLineSaid : Prop := heatLineRow.holds Try.pinned (OpenSpec.ofChange heatLineSpec)

/-- ITS FALSE NEIGHBOUR: 'it returns false'. Refute it at one input. -/
def heatLineWrong : ChangeSpec := { name := "heatLine", fn := fun _ => fun
  | [d] => { results := [.lit (.bool false)], args := [d] }
  | _ => none }
def HeatLineWrongFalsely : Prop := heatLineRow.holds Try.pinned (OpenSpec.ofChange heatLineWrong)

/- THE SECOND FORM. 'bulk': how many values and letters a reading holds, each counted each time it is reached (what is shared counts as often as it is met; a slice's spare places count too). A statement '..UptoSaid' is the law's where the arguments, and the package variables that the reading takes, are together of bulk at most 1048576: NARROWER than '..Said'. Prove '..Said' where nothing that the law and all that it calls make is longer than what came in: it says more and counts as full. Else prove '..UptoSaid'. A law counts once. -/
mutual
def uptoBulk {H : Type} : DataW H → Nat
  | .lit (.string bytes) => bytes.length + 1
  | .lit _ => 1
  | .nil => 1
  | .ptr d => uptoBulk d + 1
  | .slice elems spare => uptoBulkAll elems + uptoBulkAll spare + 1
  | .agg parts => uptoBulkAll parts + 1
  | .iface _ d => uptoBulk d + 1
  | .map entries => uptoBulkEntries entries + 1
  | .held _ => 1
def uptoBulkAll {H : Type} : List (DataW H) → Nat
  | [] => 0
  | d :: r => uptoBulk d + uptoBulkAll r
def uptoBulkEntries {H : Type} : List (Lit × DataW H) → Nat
  | [] => 0
  | x :: r => uptoBulkEntry x + uptoBulkEntries r
def uptoBulkEntry {H : Type} : Lit × DataW H → Nat
  | (.string bytes, d) => bytes.length + uptoBulk d + 1
  | (_, d) => uptoBulk d + 1
 end
def uptoSmall : (H : Type) → List (DataW H) → Bool := fun _ ds => decide (uptoBulkAll ds ≤ 1048576)
def OpenSpec.upto (s : _root_.Go.ChangeSpec) : _root_.Go.OpenSpec := { _root_.Go.OpenSpec.ofChange s with cond := some uptoSmall }

/-- 'warrantlaw19.HeatNames', WHERE WHAT IT READS IS OF BULK AT MOST 1048576: true; the input reads as it did. -/
def heatNamesUptoRow : OpenClaim := { program := "ytcflgogodgfccaa", sum := "c59e81bd2748ecb378ab428d742da97ffd28e2adf1221169a4b42f8c235ff013", func := "warrant/warrantlaw19.HeatNames", spec := "heatNames", unfollowed := true, recurses := true, apart := false, narrowed := true }
def HeatNamesUptoSaid : Prop := heatNamesUptoRow.holds Try.pinned (OpenSpec.upto heatNamesSpec)

/-- 'warrantlaw19.HeatFlows', WHERE WHAT IT READS IS OF BULK AT MOST 1048576: true; the input reads as it did. -/
def heatFlowsUptoRow : OpenClaim := { program := "ytcflgogodgfccaa", sum := "c59e81bd2748ecb378ab428d742da97ffd28e2adf1221169a4b42f8c235ff013", func := "warrant/warrantlaw19.HeatFlows", spec := "heatFlows", unfollowed := true, recurses := true, apart := false, narrowed := true }
def HeatFlowsUptoSaid : Prop := heatFlowsUptoRow.holds Try.pinned (OpenSpec.upto heatFlowsSpec)

/-- 'warrantlaw19.HeatLine', WHERE WHAT IT READS IS OF BULK AT MOST 1048576: true; the input reads as it did. -/
def heatLineUptoRow : OpenClaim := { program := "ytcflgogodgfccaa", sum := "c59e81bd2748ecb378ab428d742da97ffd28e2adf1221169a4b42f8c235ff013", func := "warrant/warrantlaw19.HeatLine", spec := "heatLine", unfollowed := true, recurses := true, apart := false, narrowed := true }
def HeatLineUptoSaid : Prop := heatLineUptoRow.holds Try.pinned (OpenSpec.upto heatLineSpec)

end Rows
end Go.Proofs.Ytcflgogodgfccaa
