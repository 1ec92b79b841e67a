/-
  No cell of these rows narrows 'for every input' (looked for: loops, veiled, ifaces, maps, wideKeys, modest, calm, conditions, laid).
  DERIVED. THE GIVEN ROWS OF THIS SEAT. 5 by the template 'for every input the law returns true; each argument reads behind the call as it read before'; 0 by the template 'total and deterministic' (their statements: YtndnfjcfpcfakaaTotals.lean).
  GIVEN WITH THE SEED: the statements are not yours to turn. If you find one false, say at which input.
  Laid BY PROGRAM, IN A SANDBOX (cutbox-rows.mjs): the forced cells as the released guide's own fill.sh prints them over the translation 78ed43d8e022d504… (all of the seat's roots in one cut). By AI agents, Wed Nov 11 2026. No macro, syntax, notation, axiom, sorry.
-/
import Derived.Test.YtndnfjcfpcfakaaChecked
import GoSem.Claim
import GoSem.ClaimJoined
import GoSem.ClaimMapViews
import Derived.JoinedTies
import Derived.KernelRfl
namespace Go.Proofs.Ytndnfjcfpcfakaa
/- THE CELL 'sum', in the pinned program and in every row, IS THE sha256 OF THE DUMP (.gsa) THAT YtndnfjcfpcfakaaProg.lean LOADS. Nothing in Lean hashes anything: it is a label: what it is worth is what the hold of that sum in a sandbox is worth. -/
noncomputable def Try.pinned : Pinned := { name := "ytndnfjcfpcfakaa", sum := "78ed43d8e022d50448f48f2b6c25c1f80e9f2377de817628dc05fef42e50dad0", checked := Try.checked }
namespace Rows
def none {H : Type} : Left H := { results := [], args := [] }

/-- 'warrantlaw19.HeatShares': WHATEVER THE INPUT: true; the input reads as it did. -/
def heatSharesSpec : ChangeSpec := { name := "heatShares", fn := fun _ => fun
  | [d] => { results := [.lit (.bool true)], args := [d] }
  | _ => none }
def heatSharesRow : OpenClaim := { program := "ytndnfjcfpcfakaa", sum := "78ed43d8e022d50448f48f2b6c25c1f80e9f2377de817628dc05fef42e50dad0", func := "warrant/warrantlaw19.HeatShares", spec := "heatShares", unfollowed := true, recurses := true, apart := false }
def HeatSharesSaid : Prop := heatSharesRow.holds Try.pinned (OpenSpec.ofChange heatSharesSpec)

/-- ITS FALSE NEIGHBOUR: 'it returns false'. Refute it at one input. -/
def heatSharesWrong : ChangeSpec := { name := "heatShares", fn := fun _ => fun
  | [d] => { results := [.lit (.bool false)], args := [d] }
  | _ => none }
def HeatSharesWrongFalsely : Prop := heatSharesRow.holds Try.pinned (OpenSpec.ofChange heatSharesWrong)

/-- 'warrantlaw19.HeatFresh': WHATEVER THE INPUT: true; the input reads as it did. -/
def heatFreshSpec : ChangeSpec := { name := "heatFresh", fn := fun _ => fun
  | [d1, d2] => { results := [.lit (.bool true)], args := [d1, d2] }
  | _ => none }
def heatFreshRow : OpenClaim := { program := "ytndnfjcfpcfakaa", sum := "78ed43d8e022d50448f48f2b6c25c1f80e9f2377de817628dc05fef42e50dad0", func := "warrant/warrantlaw19.HeatFresh", spec := "heatFresh", unfollowed := true, recurses := true, apart := false }
def HeatFreshSaid : Prop := heatFreshRow.holds Try.pinned (OpenSpec.ofChange heatFreshSpec)

/-- ITS FALSE NEIGHBOUR: 'it returns false'. Refute it at one input. -/
def heatFreshWrong : ChangeSpec := { name := "heatFresh", fn := fun _ => fun
  | [d1, d2] => { results := [.lit (.bool false)], args := [d1, d2] }
  | _ => none }
def HeatFreshWrongFalsely : Prop := heatFreshRow.holds Try.pinned (OpenSpec.ofChange heatFreshWrong)

/-- 'warrantlaw19.HeatDoubles': WHATEVER THE INPUT: true; the input reads as it did. -/
def heatDoublesSpec : ChangeSpec := { name := "heatDoubles", fn := fun _ => fun
  | [d] => { results := [.lit (.bool true)], args := [d] }
  | _ => none }
def heatDoublesRow : OpenClaim := { program := "ytndnfjcfpcfakaa", sum := "78ed43d8e022d50448f48f2b6c25c1f80e9f2377de817628dc05fef42e50dad0", func := "warrant/warrantlaw19.HeatDoubles", spec := "heatDoubles", unfollowed := true, recurses := true, apart := false }
def HeatDoublesSaid : Prop := heatDoublesRow.holds Try.pinned (OpenSpec.ofChange heatDoublesSpec)

/-- ITS FALSE NEIGHBOUR: 'it returns false'. Refute it at one input. -/
def heatDoublesWrong : ChangeSpec := { name := "heatDoubles", fn := fun _ => fun
  | [d] => { results := [.lit (.bool false)], args := [d] }
  | _ => none }
def HeatDoublesWrongFalsely : Prop := heatDoublesRow.holds Try.pinned (OpenSpec.ofChange heatDoublesWrong)

/-- 'warrantlaw19.HeatSorted': WHATEVER THE INPUT: true; the input reads as it did. -/
def heatSortedSpec : ChangeSpec := { name := "heatSorted", fn := fun _ => fun
  | [d1, d2] => { results := [.lit (.bool true)], args := [d1, d2] }
  | _ => none }
def heatSortedRow : OpenClaim := { program := "ytndnfjcfpcfakaa", sum := "78ed43d8e022d50448f48f2b6c25c1f80e9f2377de817628dc05fef42e50dad0", func := "warrant/warrantlaw19.HeatSorted", spec := "heatSorted", inPlace := ["math.Float64frombits"], unfollowed := true, recurses := true, apart := false }
def HeatSortedSaid : Prop := heatSortedRow.holds Try.pinned (OpenSpec.ofChange heatSortedSpec)

/-- ITS FALSE NEIGHBOUR: 'it returns false'. Refute it at one input. -/
def heatSortedWrong : ChangeSpec := { name := "heatSorted", fn := fun _ => fun
  | [d1, d2] => { results := [.lit (.bool false)], args := [d1, d2] }
  | _ => none }
def HeatSortedWrongFalsely : Prop := heatSortedRow.holds Try.pinned (OpenSpec.ofChange heatSortedWrong)

/-- 'warrantlaw19.HeatTops': WHATEVER THE INPUT: true; the input reads as it did. -/
def heatTopsSpec : ChangeSpec := { name := "heatTops", fn := fun _ => fun
  | [d1, d2] => { results := [.lit (.bool true)], args := [d1, d2] }
  | _ => none }
def heatTopsRow : OpenClaim := { program := "ytndnfjcfpcfakaa", sum := "78ed43d8e022d50448f48f2b6c25c1f80e9f2377de817628dc05fef42e50dad0", func := "warrant/warrantlaw19.HeatTops", spec := "heatTops", inPlace := ["math.Float64frombits", "math.Float64bits"], unfollowed := true, recurses := true, apart := false }
def HeatTopsSaid : Prop := heatTopsRow.holds Try.pinned (OpenSpec.ofChange heatTopsSpec)

/-- ITS FALSE NEIGHBOUR: 'it returns false'. Refute it at one input. -/
def heatTopsWrong : ChangeSpec := { name := "heatTops", fn := fun _ => fun
  | [d1, d2] => { results := [.lit (.bool false)], args := [d1, d2] }
  | _ => none }
def HeatTopsWrongFalsely : Prop := heatTopsRow.holds Try.pinned (OpenSpec.ofChange heatTopsWrong)

/- THE SECOND FORM. 'bulk': how many values and letters a reading holds, each counted each time it is reached (what is shared counts as often as it is met; a slice's spare places count too). A statement '..UptoSaid' is the law's where the arguments, and the package variables that the reading takes, are together of bulk at most 1048576: NARROWER than '..Said'. Prove '..Said' where nothing that the law and all that it calls make is longer than what came in: it says more and counts as full. Else prove '..UptoSaid'. A law counts once. -/
mutual
def uptoBulk {H : Type} : DataW H → Nat
  | .lit (.string bytes) => bytes.length + 1
  | .lit _ => 1
  | .nil => 1
  | .ptr d => uptoBulk d + 1
  | .slice elems spare => uptoBulkAll elems + uptoBulkAll spare + 1
  | .agg parts => uptoBulkAll parts + 1
  | .iface _ d => uptoBulk d + 1
  | .map entries => uptoBulkEntries entries + 1
  | .held _ => 1
def uptoBulkAll {H : Type} : List (DataW H) → Nat
  | [] => 0
  | d :: r => uptoBulk d + uptoBulkAll r
def uptoBulkEntries {H : Type} : List (Lit × DataW H) → Nat
  | [] => 0
  | x :: r => uptoBulkEntry x + uptoBulkEntries r
def uptoBulkEntry {H : Type} : Lit × DataW H → Nat
  | (.string bytes, d) => bytes.length + uptoBulk d + 1
  | (_, d) => uptoBulk d + 1
 end
def uptoSmall : (H : Type) → List (DataW H) → Bool := fun _ ds => decide (uptoBulkAll ds ≤ 1048576)
def OpenSpec.upto (s : _root_.Go.ChangeSpec) : _root_.Go.OpenSpec := { _root_.Go.OpenSpec.ofChange s with cond := some uptoSmall }

/-- 'warrantlaw19.HeatShares', WHERE WHAT IT READS IS OF BULK AT MOST 1048576: true; the input reads as it did. -/
def heatSharesUptoRow : OpenClaim := { program := "ytndnfjcfpcfakaa", sum := "78ed43d8e022d50448f48f2b6c25c1f80e9f2377de817628dc05fef42e50dad0", func := "warrant/warrantlaw19.HeatShares", spec := "heatShares", unfollowed := true, recurses := true, apart := false, narrowed := true }
def HeatSharesUptoSaid : Prop := heatSharesUptoRow.holds Try.pinned (OpenSpec.upto heatSharesSpec)

/-- 'warrantlaw19.HeatFresh', WHERE WHAT IT READS IS OF BULK AT MOST 1048576: true; the input reads as it did. -/
def heatFreshUptoRow : OpenClaim := { program := "ytndnfjcfpcfakaa", sum := "78ed43d8e022d50448f48f2b6c25c1f80e9f2377de817628dc05fef42e50dad0", func := "warrant/warrantlaw19.HeatFresh", spec := "heatFresh", unfollowed := true, recurses := true, apart := false, narrowed := true }
def HeatFreshUptoSaid : Prop := heatFreshUptoRow.holds Try.pinned (OpenSpec.upto heatFreshSpec)

/-- 'warrantlaw19.HeatDoubles', WHERE WHAT IT READS IS OF BULK AT MOST 1048576: true; the input reads as it did. -/
def heatDoublesUptoRow : OpenClaim := { program := "ytndnfjcfpcfakaa", sum := "78ed43d8e022d50448f48f2b6c25c1f80e9f2377de817628dc05fef42e50dad0", func := "warrant/warrantlaw19.HeatDoubles", spec := "heatDoubles", unfollowed := true, recurses := true, apart := false, narrowed := true }
def HeatDoublesUptoSaid : Prop := heatDoublesUptoRow.holds Try.pinned (OpenSpec.upto heatDoublesSpec)

/-- 'warrantlaw19.HeatSorted', WHERE WHAT IT READS IS OF BULK AT MOST 1048576: true; the input reads as it did. -/
def heatSortedUptoRow : OpenClaim := { program := "ytndnfjcfpcfakaa", sum := "78ed43d8e022d50448f48f2b6c25c1f80e9f2377de817628dc05fef42e50dad0", func := "warrant/warrantlaw19.HeatSorted", spec := "heatSorted", inPlace := ["math.Float64frombits"], unfollowed := true, recurses := true, apart := false, narrowed := true }
def HeatSortedUptoSaid : Prop := heatSortedUptoRow.holds Try.pinned (OpenSpec.upto heatSortedSpec)

/-- 'warrantlaw19.HeatTops', WHERE WHAT IT READS IS OF BULK AT MOST 1048576: true; the input reads as it did. -/
def heatTopsUptoRow : OpenClaim := { program := "ytndnfjcfpcfakaa", sum := "78ed43d8e022d50448f48f2b6c25c1f80e9f2377de817628dc05fef42e50dad0", func := "warrant/warrantlaw19.HeatTops", spec := "heatTops", inPlace := ["math.Float64frombits", "math.Float64bits"], unfollowed := true, recurses := true, apart := false, narrowed := true }
def HeatTopsUptoSaid : Prop := heatTopsUptoRow.holds Try.pinned (OpenSpec.upto heatTopsSpec)

end Rows
end Go.Proofs.Ytndnfjcfpcfakaa
