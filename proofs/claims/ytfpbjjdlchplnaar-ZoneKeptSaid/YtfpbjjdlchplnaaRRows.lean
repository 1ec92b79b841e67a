/-
  No cell of these rows narrows 'for every input' (looked for: loops, veiled, ifaces, maps, wideKeys, modest, calm, conditions, laid).
  DERIVED. THE GIVEN ROWS OF THIS SEAT. 10 by the template 'for every input the law returns true; each argument reads behind the call as it read before'; 0 by the template 'total and deterministic' (their statements: YtfpbjjdlchplnaaRTotals.lean).
  GIVEN WITH THE SEED: the statements are not yours to turn. If you find one false, say at which input.
  Laid BY PROGRAM, IN A SANDBOX (cutbox-rows.mjs): the forced cells as the released guide's own fill.sh prints them over the translation 604dd506b777ef88… (all of the seat's roots in one cut). By AI agents, Wed Nov 11 2026. No macro, syntax, notation, axiom, sorry.
-/
import Derived.Test.YtfpbjjdlchplnaaRChecked
import GoSem.Claim
import GoSem.ClaimJoined
import GoSem.ClaimMapViews
import Derived.JoinedTies
import Derived.KernelRfl
namespace Go.Proofs.YtfpbjjdlchplnaaR
/- THE CELL 'sum', in the pinned program and in every row, IS THE sha256 OF THE DUMP (.gsa) THAT YtfpbjjdlchplnaaRProg.lean LOADS. Nothing in Lean hashes anything: it is a label: what it is worth is what the hold of that sum in a sandbox is worth. -/
noncomputable def Try.pinned : Pinned := { name := "ytfpbjjdlchplnaar", sum := "604dd506b777ef88df1697b30b8ac389bc6f4e60da2b014ed643f30fff631262", checked := Try.checked }
namespace Rows
def none {H : Type} : Left H := { results := [], args := [] }

/-- 'warrantlaw05.ZoneNames': WHATEVER THE INPUT: true; the input reads as it did. -/
def zoneNamesSpec : ChangeSpec := { name := "zoneNames", fn := fun _ => fun
  | [] => { results := [.lit (.bool true)], args := [] }
  | _ => none }
def zoneNamesRow : OpenClaim := { program := "ytfpbjjdlchplnaar", sum := "604dd506b777ef88df1697b30b8ac389bc6f4e60da2b014ed643f30fff631262", func := "warrant/warrantlaw05.ZoneNames", spec := "zoneNames", apart := false }
def ZoneNamesSaid : Prop := zoneNamesRow.holds Try.pinned (OpenSpec.ofChange zoneNamesSpec)

/-- ITS FALSE NEIGHBOUR: 'it returns false'. Refute it at one input. -/
def zoneNamesWrong : ChangeSpec := { name := "zoneNames", fn := fun _ => fun
  | [] => { results := [.lit (.bool false)], args := [] }
  | _ => none }
def ZoneNamesWrongFalsely : Prop := zoneNamesRow.holds Try.pinned (OpenSpec.ofChange zoneNamesWrong)

/-- 'warrantlaw05.ZoneTight': WHATEVER THE INPUT: true; the input reads as it did. -/
def zoneTightSpec : ChangeSpec := { name := "zoneTight", fn := fun _ => fun
  | [d1, d2, d3, d4] => { results := [.lit (.bool true)], args := [d1, d2, d3, d4] }
  | _ => none }
def zoneTightRow : OpenClaim := { program := "ytfpbjjdlchplnaar", sum := "604dd506b777ef88df1697b30b8ac389bc6f4e60da2b014ed643f30fff631262", func := "warrant/warrantlaw05.ZoneTight", spec := "zoneTight", apart := false }
def ZoneTightSaid : Prop := zoneTightRow.holds Try.pinned (OpenSpec.ofChange zoneTightSpec)

/-- ITS FALSE NEIGHBOUR: 'it returns false'. Refute it at one input. -/
def zoneTightWrong : ChangeSpec := { name := "zoneTight", fn := fun _ => fun
  | [d1, d2, d3, d4] => { results := [.lit (.bool false)], args := [d1, d2, d3, d4] }
  | _ => none }
def ZoneTightWrongFalsely : Prop := zoneTightRow.holds Try.pinned (OpenSpec.ofChange zoneTightWrong)

/-- 'warrantlaw05.ZoneOrders': WHATEVER THE INPUT: true; the input reads as it did. -/
def zoneOrdersSpec : ChangeSpec := { name := "zoneOrders", fn := fun _ => fun
  | [d1, d2] => { results := [.lit (.bool true)], args := [d1, d2] }
  | _ => none }
def zoneOrdersRow : OpenClaim := { program := "ytfpbjjdlchplnaar", sum := "604dd506b777ef88df1697b30b8ac389bc6f4e60da2b014ed643f30fff631262", func := "warrant/warrantlaw05.ZoneOrders", spec := "zoneOrders", apart := false }
def ZoneOrdersSaid : Prop := zoneOrdersRow.holds Try.pinned (OpenSpec.ofChange zoneOrdersSpec)

/-- ITS FALSE NEIGHBOUR: 'it returns false'. Refute it at one input. -/
def zoneOrdersWrong : ChangeSpec := { name := "zoneOrders", fn := fun _ => fun
  | [d1, d2] => { results := [.lit (.bool false)], args := [d1, d2] }
  | _ => none }
def ZoneOrdersWrongFalsely : Prop := zoneOrdersRow.holds Try.pinned (OpenSpec.ofChange zoneOrdersWrong)

/-- 'warrantlaw05.ZoneBack': WHATEVER THE INPUT: true; the input reads as it did. -/
def zoneBackSpec : ChangeSpec := { name := "zoneBack", fn := fun _ => fun
  | [d] => { results := [.lit (.bool true)], args := [d] }
  | _ => none }
def zoneBackRow : OpenClaim := { program := "ytfpbjjdlchplnaar", sum := "604dd506b777ef88df1697b30b8ac389bc6f4e60da2b014ed643f30fff631262", func := "warrant/warrantlaw05.ZoneBack", spec := "zoneBack", apart := false }
def ZoneBackSaid : Prop := zoneBackRow.holds Try.pinned (OpenSpec.ofChange zoneBackSpec)

/-- ITS FALSE NEIGHBOUR: 'it returns false'. Refute it at one input. -/
def zoneBackWrong : ChangeSpec := { name := "zoneBack", fn := fun _ => fun
  | [d] => { results := [.lit (.bool false)], args := [d] }
  | _ => none }
def ZoneBackWrongFalsely : Prop := zoneBackRow.holds Try.pinned (OpenSpec.ofChange zoneBackWrong)

/-- 'warrantlaw05.ZoneLoses': WHATEVER THE INPUT: true; the input reads as it did. -/
def zoneLosesSpec : ChangeSpec := { name := "zoneLoses", fn := fun _ => fun
  | [d1, d2, d3, d4, d5] => { results := [.lit (.bool true)], args := [d1, d2, d3, d4, d5] }
  | _ => none }
def zoneLosesRow : OpenClaim := { program := "ytfpbjjdlchplnaar", sum := "604dd506b777ef88df1697b30b8ac389bc6f4e60da2b014ed643f30fff631262", func := "warrant/warrantlaw05.ZoneLoses", spec := "zoneLoses", apart := false }
def ZoneLosesSaid : Prop := zoneLosesRow.holds Try.pinned (OpenSpec.ofChange zoneLosesSpec)

/-- ITS FALSE NEIGHBOUR: 'it returns false'. Refute it at one input. -/
def zoneLosesWrong : ChangeSpec := { name := "zoneLoses", fn := fun _ => fun
  | [d1, d2, d3, d4, d5] => { results := [.lit (.bool false)], args := [d1, d2, d3, d4, d5] }
  | _ => none }
def ZoneLosesWrongFalsely : Prop := zoneLosesRow.holds Try.pinned (OpenSpec.ofChange zoneLosesWrong)

/-- 'warrantlaw05.ZoneOrdered': WHATEVER THE INPUT: true; the input reads as it did. -/
def zoneOrderedSpec : ChangeSpec := { name := "zoneOrdered", fn := fun _ => fun
  | [d1, d2, d3] => { results := [.lit (.bool true)], args := [d1, d2, d3] }
  | _ => none }
def zoneOrderedRow : OpenClaim := { program := "ytfpbjjdlchplnaar", sum := "604dd506b777ef88df1697b30b8ac389bc6f4e60da2b014ed643f30fff631262", func := "warrant/warrantlaw05.ZoneOrdered", spec := "zoneOrdered", unfollowed := true, recurses := true, apart := false }
def ZoneOrderedSaid : Prop := zoneOrderedRow.holds Try.pinned (OpenSpec.ofChange zoneOrderedSpec)

/-- ITS FALSE NEIGHBOUR: 'it returns false'. Refute it at one input. -/
def zoneOrderedWrong : ChangeSpec := { name := "zoneOrdered", fn := fun _ => fun
  | [d1, d2, d3] => { results := [.lit (.bool false)], args := [d1, d2, d3] }
  | _ => none }
def ZoneOrderedWrongFalsely : Prop := zoneOrderedRow.holds Try.pinned (OpenSpec.ofChange zoneOrderedWrong)

/-- 'warrantlaw05.ZonePuts': WHATEVER THE INPUT: true; the input reads as it did. -/
def zonePutsSpec : ChangeSpec := { name := "zonePuts", fn := fun _ => fun
  | [d1, d2, d3, d4, d5, d6] => { results := [.lit (.bool true)], args := [d1, d2, d3, d4, d5, d6] }
  | _ => none }
def zonePutsRow : OpenClaim := { program := "ytfpbjjdlchplnaar", sum := "604dd506b777ef88df1697b30b8ac389bc6f4e60da2b014ed643f30fff631262", func := "warrant/warrantlaw05.ZonePuts", spec := "zonePuts", apart := false }
def ZonePutsSaid : Prop := zonePutsRow.holds Try.pinned (OpenSpec.ofChange zonePutsSpec)

/-- ITS FALSE NEIGHBOUR: 'it returns false'. Refute it at one input. -/
def zonePutsWrong : ChangeSpec := { name := "zonePuts", fn := fun _ => fun
  | [d1, d2, d3, d4, d5, d6] => { results := [.lit (.bool false)], args := [d1, d2, d3, d4, d5, d6] }
  | _ => none }
def ZonePutsWrongFalsely : Prop := zonePutsRow.holds Try.pinned (OpenSpec.ofChange zonePutsWrong)

/-- 'warrantlaw05.ZoneHolds': WHATEVER THE INPUT: true; the input reads as it did. -/
def zoneHoldsSpec : ChangeSpec := { name := "zoneHolds", fn := fun _ => fun
  | [d1, d2, d3, d4] => { results := [.lit (.bool true)], args := [d1, d2, d3, d4] }
  | _ => none }
def zoneHoldsRow : OpenClaim := { program := "ytfpbjjdlchplnaar", sum := "604dd506b777ef88df1697b30b8ac389bc6f4e60da2b014ed643f30fff631262", func := "warrant/warrantlaw05.ZoneHolds", spec := "zoneHolds", unfollowed := true, recurses := true, apart := false }
def ZoneHoldsSaid : Prop := zoneHoldsRow.holds Try.pinned (OpenSpec.ofChange zoneHoldsSpec)

/-- ITS FALSE NEIGHBOUR: 'it returns false'. Refute it at one input. -/
def zoneHoldsWrong : ChangeSpec := { name := "zoneHolds", fn := fun _ => fun
  | [d1, d2, d3, d4] => { results := [.lit (.bool false)], args := [d1, d2, d3, d4] }
  | _ => none }
def ZoneHoldsWrongFalsely : Prop := zoneHoldsRow.holds Try.pinned (OpenSpec.ofChange zoneHoldsWrong)

/-- 'warrantlaw05.ZoneRenews': WHATEVER THE INPUT: true; the input reads as it did. -/
def zoneRenewsSpec : ChangeSpec := { name := "zoneRenews", fn := fun _ => fun
  | [d1, d2, d3, d4, d5] => { results := [.lit (.bool true)], args := [d1, d2, d3, d4, d5] }
  | _ => none }
def zoneRenewsRow : OpenClaim := { program := "ytfpbjjdlchplnaar", sum := "604dd506b777ef88df1697b30b8ac389bc6f4e60da2b014ed643f30fff631262", func := "warrant/warrantlaw05.ZoneRenews", spec := "zoneRenews", unfollowed := true, recurses := true, apart := false }
def ZoneRenewsSaid : Prop := zoneRenewsRow.holds Try.pinned (OpenSpec.ofChange zoneRenewsSpec)

/-- ITS FALSE NEIGHBOUR: 'it returns false'. Refute it at one input. -/
def zoneRenewsWrong : ChangeSpec := { name := "zoneRenews", fn := fun _ => fun
  | [d1, d2, d3, d4, d5] => { results := [.lit (.bool false)], args := [d1, d2, d3, d4, d5] }
  | _ => none }
def ZoneRenewsWrongFalsely : Prop := zoneRenewsRow.holds Try.pinned (OpenSpec.ofChange zoneRenewsWrong)

/-- 'warrantlaw05.ZoneKept': WHATEVER THE INPUT: true; the input reads as it did. -/
def zoneKeptSpec : ChangeSpec := { name := "zoneKept", fn := fun _ => fun
  | [d1, d2, d3] => { results := [.lit (.bool true)], args := [d1, d2, d3] }
  | _ => none }
def zoneKeptRow : OpenClaim := { program := "ytfpbjjdlchplnaar", sum := "604dd506b777ef88df1697b30b8ac389bc6f4e60da2b014ed643f30fff631262", func := "warrant/warrantlaw05.ZoneKept", spec := "zoneKept", unfollowed := true, recurses := true, apart := false }
def ZoneKeptSaid : Prop := zoneKeptRow.holds Try.pinned (OpenSpec.ofChange zoneKeptSpec)

/-- ITS FALSE NEIGHBOUR: 'it returns false'. Refute it at one input. -/
def zoneKeptWrong : ChangeSpec := { name := "zoneKept", fn := fun _ => fun
  | [d1, d2, d3] => { results := [.lit (.bool false)], args := [d1, d2, d3] }
  | _ => none }
def ZoneKeptWrongFalsely : Prop := zoneKeptRow.holds Try.pinned (OpenSpec.ofChange zoneKeptWrong)

/- THE SECOND FORM. 'bulk': how many values and letters a reading holds, each counted each time it is reached (what is shared counts as often as it is met; a slice's spare places count too). A statement '..UptoSaid' is the law's where the arguments, and the package variables that the reading takes, are together of bulk at most 1048576: NARROWER than '..Said'. Prove '..Said' where nothing that the law and all that it calls make is longer than what came in: it says more and counts as full. Else prove '..UptoSaid'. A law counts once. -/
mutual
def uptoBulk {H : Type} : DataW H → Nat
  | .lit (.string bytes) => bytes.length + 1
  | .lit _ => 1
  | .nil => 1
  | .ptr d => uptoBulk d + 1
  | .slice elems spare => uptoBulkAll elems + uptoBulkAll spare + 1
  | .agg parts => uptoBulkAll parts + 1
  | .iface _ d => uptoBulk d + 1
  | .map entries => uptoBulkEntries entries + 1
  | .held _ => 1
def uptoBulkAll {H : Type} : List (DataW H) → Nat
  | [] => 0
  | d :: r => uptoBulk d + uptoBulkAll r
def uptoBulkEntries {H : Type} : List (Lit × DataW H) → Nat
  | [] => 0
  | x :: r => uptoBulkEntry x + uptoBulkEntries r
def uptoBulkEntry {H : Type} : Lit × DataW H → Nat
  | (.string bytes, d) => bytes.length + uptoBulk d + 1
  | (_, d) => uptoBulk d + 1
 end
def uptoSmall : (H : Type) → List (DataW H) → Bool := fun _ ds => decide (uptoBulkAll ds ≤ 1048576)
def OpenSpec.upto (s : _root_.Go.ChangeSpec) : _root_.Go.OpenSpec := { _root_.Go.OpenSpec.ofChange s with cond := some uptoSmall }

/-- 'warrantlaw05.ZoneNames', WHERE WHAT IT READS IS OF BULK AT MOST 1048576: true; the input reads as it did. -/
def zoneNamesUptoRow : OpenClaim := { program := "ytfpbjjdlchplnaar", sum := "604dd506b777ef88df1697b30b8ac389bc6f4e60da2b014ed643f30fff631262", func := "warrant/warrantlaw05.ZoneNames", spec := "zoneNames", apart := false, narrowed := true }
def ZoneNamesUptoSaid : Prop := zoneNamesUptoRow.holds Try.pinned (OpenSpec.upto zoneNamesSpec)

/-- 'warrantlaw05.ZoneTight', WHERE WHAT IT READS IS OF BULK AT MOST 1048576: true; the input reads as it did. -/
def zoneTightUptoRow : OpenClaim := { program := "ytfpbjjdlchplnaar", sum := "604dd506b777ef88df1697b30b8ac389bc6f4e60da2b014ed643f30fff631262", func := "warrant/warrantlaw05.ZoneTight", spec := "zoneTight", apart := false, narrowed := true }
def ZoneTightUptoSaid : Prop := zoneTightUptoRow.holds Try.pinned (OpenSpec.upto zoneTightSpec)

/-- 'warrantlaw05.ZoneOrders', WHERE WHAT IT READS IS OF BULK AT MOST 1048576: true; the input reads as it did. -/
def zoneOrdersUptoRow : OpenClaim := { program := "ytfpbjjdlchplnaar", sum := "604dd506b777ef88df1697b30b8ac389bc6f4e60da2b014ed643f30fff631262", func := "warrant/warrantlaw05.ZoneOrders", spec := "zoneOrders", apart := false, narrowed := true }
def ZoneOrdersUptoSaid : Prop := zoneOrdersUptoRow.holds Try.pinned (OpenSpec.upto zoneOrdersSpec)

/-- 'warrantlaw05.ZoneBack', WHERE WHAT IT READS IS OF BULK AT MOST 1048576: true; the input reads as it did. -/
def zoneBackUptoRow : OpenClaim := { program := "ytfpbjjdlchplnaar", sum := "604dd506b777ef88df1697b30b8ac389bc6f4e60da2b014ed643f30fff631262", func := "warrant/warrantlaw05.ZoneBack", spec := "zoneBack", apart := false, narrowed := true }
def ZoneBackUptoSaid : Prop := zoneBackUptoRow.holds Try.pinned (OpenSpec.upto zoneBackSpec)

/-- 'warrantlaw05.ZoneLoses', WHERE WHAT IT READS IS OF BULK AT MOST 1048576: true; the input reads as it did. -/
def zoneLosesUptoRow : OpenClaim := { program := "ytfpbjjdlchplnaar", sum := "604dd506b777ef88df1697b30b8ac389bc6f4e60da2b014ed643f30fff631262", func := "warrant/warrantlaw05.ZoneLoses", spec := "zoneLoses", apart := false, narrowed := true }
def ZoneLosesUptoSaid : Prop := zoneLosesUptoRow.holds Try.pinned (OpenSpec.upto zoneLosesSpec)

/-- 'warrantlaw05.ZoneOrdered', WHERE WHAT IT READS IS OF BULK AT MOST 1048576: true; the input reads as it did. -/
def zoneOrderedUptoRow : OpenClaim := { program := "ytfpbjjdlchplnaar", sum := "604dd506b777ef88df1697b30b8ac389bc6f4e60da2b014ed643f30fff631262", func := "warrant/warrantlaw05.ZoneOrdered", spec := "zoneOrdered", unfollowed := true, recurses := true, apart := false, narrowed := true }
def ZoneOrderedUptoSaid : Prop := zoneOrderedUptoRow.holds Try.pinned (OpenSpec.upto zoneOrderedSpec)

/-- 'warrantlaw05.ZonePuts', WHERE WHAT IT READS IS OF BULK AT MOST 1048576: true; the input reads as it did. -/
def zonePutsUptoRow : OpenClaim := { program := "ytfpbjjdlchplnaar", sum := "604dd506b777ef88df1697b30b8ac389bc6f4e60da2b014ed643f30fff631262", func := "warrant/warrantlaw05.ZonePuts", spec := "zonePuts", apart := false, narrowed := true }
def ZonePutsUptoSaid : Prop := zonePutsUptoRow.holds Try.pinned (OpenSpec.upto zonePutsSpec)

/-- 'warrantlaw05.ZoneHolds', WHERE WHAT IT READS IS OF BULK AT MOST 1048576: true; the input reads as it did. -/
def zoneHoldsUptoRow : OpenClaim := { program := "ytfpbjjdlchplnaar", sum := "604dd506b777ef88df1697b30b8ac389bc6f4e60da2b014ed643f30fff631262", func := "warrant/warrantlaw05.ZoneHolds", spec := "zoneHolds", unfollowed := true, recurses := true, apart := false, narrowed := true }
def ZoneHoldsUptoSaid : Prop := zoneHoldsUptoRow.holds Try.pinned (OpenSpec.upto zoneHoldsSpec)

/-- 'warrantlaw05.ZoneRenews', WHERE WHAT IT READS IS OF BULK AT MOST 1048576: true; the input reads as it did. -/
def zoneRenewsUptoRow : OpenClaim := { program := "ytfpbjjdlchplnaar", sum := "604dd506b777ef88df1697b30b8ac389bc6f4e60da2b014ed643f30fff631262", func := "warrant/warrantlaw05.ZoneRenews", spec := "zoneRenews", unfollowed := true, recurses := true, apart := false, narrowed := true }
def ZoneRenewsUptoSaid : Prop := zoneRenewsUptoRow.holds Try.pinned (OpenSpec.upto zoneRenewsSpec)

/-- 'warrantlaw05.ZoneKept', WHERE WHAT IT READS IS OF BULK AT MOST 1048576: true; the input reads as it did. -/
def zoneKeptUptoRow : OpenClaim := { program := "ytfpbjjdlchplnaar", sum := "604dd506b777ef88df1697b30b8ac389bc6f4e60da2b014ed643f30fff631262", func := "warrant/warrantlaw05.ZoneKept", spec := "zoneKept", unfollowed := true, recurses := true, apart := false, narrowed := true }
def ZoneKeptUptoSaid : Prop := zoneKeptUptoRow.holds Try.pinned (OpenSpec.upto zoneKeptSpec)

end Rows
end Go.Proofs.YtfpbjjdlchplnaaR
