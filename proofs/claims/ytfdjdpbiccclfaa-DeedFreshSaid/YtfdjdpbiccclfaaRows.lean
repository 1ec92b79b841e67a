/-
  No cell of these rows narrows 'for every input' (looked for: loops, veiled, ifaces, maps, wideKeys, modest, calm, conditions, laid).
  DERIVED. THE GIVEN ROWS OF THIS SEAT. 8 by the template 'for every input the law returns true; each argument reads behind the call as it read before'; 0 by the template 'total and deterministic' (their statements: YtfdjdpbiccclfaaTotals.lean).
  GIVEN WITH THE SEED: the statements are not yours to turn. If you find one false, say at which input.
  Laid BY PROGRAM, IN A SANDBOX (cutbox-rows.mjs): the forced cells as the released guide's own fill.sh prints them over the translation 229b493ecf760c1f… (all of the seat's roots in one cut). By AI agents, Wed Nov 11 2026. No macro, syntax, notation, axiom, sorry.
-/
import Derived.Test.YtfdjdpbiccclfaaChecked
import GoSem.Claim
import GoSem.ClaimJoined
import GoSem.ClaimMapViews
import Derived.JoinedTies
import Derived.KernelRfl
namespace Go.Proofs.Ytfdjdpbiccclfaa
/- THE CELL 'sum', in the pinned program and in every row, IS THE sha256 OF THE DUMP (.gsa) THAT YtfdjdpbiccclfaaProg.lean LOADS. Nothing in Lean hashes anything: it is a label: what it is worth is what the hold of that sum in a sandbox is worth. -/
noncomputable def Try.pinned : Pinned := { name := "ytfdjdpbiccclfaa", sum := "229b493ecf760c1f82076b87b6ba05b19cacfa676da4ea693e9c7c6147ca6928", checked := Try.checked }
namespace Rows
def none {H : Type} : Left H := { results := [], args := [] }

/-- 'warrantlaw11.DeedNames': WHATEVER THE INPUT: true; the input reads as it did. -/
def deedNamesSpec : ChangeSpec := { name := "deedNames", fn := fun _ => fun
  | [] => { results := [.lit (.bool true)], args := [] }
  | _ => none }
def deedNamesRow : OpenClaim := { program := "ytfdjdpbiccclfaa", sum := "229b493ecf760c1f82076b87b6ba05b19cacfa676da4ea693e9c7c6147ca6928", func := "warrant/warrantlaw11.DeedNames", spec := "deedNames", unfollowed := true, recurses := true, apart := false }
def DeedNamesSaid : Prop := deedNamesRow.holds Try.pinned (OpenSpec.ofChange deedNamesSpec)

/-- ITS FALSE NEIGHBOUR: 'it returns false'. Refute it at one input. -/
def deedNamesWrong : ChangeSpec := { name := "deedNames", fn := fun _ => fun
  | [] => { results := [.lit (.bool false)], args := [] }
  | _ => none }
def DeedNamesWrongFalsely : Prop := deedNamesRow.holds Try.pinned (OpenSpec.ofChange deedNamesWrong)

/-- 'warrantlaw11.DeedEncodes': WHATEVER THE INPUT: true; the input reads as it did. -/
def deedEncodesSpec : ChangeSpec := { name := "deedEncodes", fn := fun _ => fun
  | [d] => { results := [.lit (.bool true)], args := [d] }
  | _ => none }
def deedEncodesRow : OpenClaim := { program := "ytfdjdpbiccclfaa", sum := "229b493ecf760c1f82076b87b6ba05b19cacfa676da4ea693e9c7c6147ca6928", func := "warrant/warrantlaw11.DeedEncodes", spec := "deedEncodes", unfollowed := true, recurses := true, apart := false }
def DeedEncodesSaid : Prop := deedEncodesRow.holds Try.pinned (OpenSpec.ofChange deedEncodesSpec)

/-- ITS FALSE NEIGHBOUR: 'it returns false'. Refute it at one input. -/
def deedEncodesWrong : ChangeSpec := { name := "deedEncodes", fn := fun _ => fun
  | [d] => { results := [.lit (.bool false)], args := [d] }
  | _ => none }
def DeedEncodesWrongFalsely : Prop := deedEncodesRow.holds Try.pinned (OpenSpec.ofChange deedEncodesWrong)

/-- 'warrantlaw11.DeedDecodes': WHATEVER THE INPUT: true; the input reads as it did. -/
def deedDecodesSpec : ChangeSpec := { name := "deedDecodes", fn := fun _ => fun
  | [d] => { results := [.lit (.bool true)], args := [d] }
  | _ => none }
def deedDecodesRow : OpenClaim := { program := "ytfdjdpbiccclfaa", sum := "229b493ecf760c1f82076b87b6ba05b19cacfa676da4ea693e9c7c6147ca6928", func := "warrant/warrantlaw11.DeedDecodes", spec := "deedDecodes", unfollowed := true, recurses := true, apart := false }
def DeedDecodesSaid : Prop := deedDecodesRow.holds Try.pinned (OpenSpec.ofChange deedDecodesSpec)

/-- ITS FALSE NEIGHBOUR: 'it returns false'. Refute it at one input. -/
def deedDecodesWrong : ChangeSpec := { name := "deedDecodes", fn := fun _ => fun
  | [d] => { results := [.lit (.bool false)], args := [d] }
  | _ => none }
def DeedDecodesWrongFalsely : Prop := deedDecodesRow.holds Try.pinned (OpenSpec.ofChange deedDecodesWrong)

/-- 'warrantlaw11.DeedFresh': WHATEVER THE INPUT: true; the input reads as it did. -/
def deedFreshSpec : ChangeSpec := { name := "deedFresh", fn := fun _ => fun
  | [d1, d2] => { results := [.lit (.bool true)], args := [d1, d2] }
  | _ => none }
def deedFreshRow : OpenClaim := { program := "ytfdjdpbiccclfaa", sum := "229b493ecf760c1f82076b87b6ba05b19cacfa676da4ea693e9c7c6147ca6928", func := "warrant/warrantlaw11.DeedFresh", spec := "deedFresh", unfollowed := true, recurses := true, apart := false }
def DeedFreshSaid : Prop := deedFreshRow.holds Try.pinned (OpenSpec.ofChange deedFreshSpec)

/-- ITS FALSE NEIGHBOUR: 'it returns false'. Refute it at one input. -/
def deedFreshWrong : ChangeSpec := { name := "deedFresh", fn := fun _ => fun
  | [d1, d2] => { results := [.lit (.bool false)], args := [d1, d2] }
  | _ => none }
def DeedFreshWrongFalsely : Prop := deedFreshRow.holds Try.pinned (OpenSpec.ofChange deedFreshWrong)

/-- 'warrantlaw11.DeedBack': WHATEVER THE INPUT: true; the input reads as it did. -/
def deedBackSpec : ChangeSpec := { name := "deedBack", fn := fun _ => fun
  | [d] => { results := [.lit (.bool true)], args := [d] }
  | _ => none }
def deedBackRow : OpenClaim := { program := "ytfdjdpbiccclfaa", sum := "229b493ecf760c1f82076b87b6ba05b19cacfa676da4ea693e9c7c6147ca6928", func := "warrant/warrantlaw11.DeedBack", spec := "deedBack", unfollowed := true, recurses := true, apart := false }
def DeedBackSaid : Prop := deedBackRow.holds Try.pinned (OpenSpec.ofChange deedBackSpec)

/-- ITS FALSE NEIGHBOUR: 'it returns false'. Refute it at one input. -/
def deedBackWrong : ChangeSpec := { name := "deedBack", fn := fun _ => fun
  | [d] => { results := [.lit (.bool false)], args := [d] }
  | _ => none }
def DeedBackWrongFalsely : Prop := deedBackRow.holds Try.pinned (OpenSpec.ofChange deedBackWrong)

/-- 'warrantlaw11.DeedForth': WHATEVER THE INPUT: true; the input reads as it did. -/
def deedForthSpec : ChangeSpec := { name := "deedForth", fn := fun _ => fun
  | [d] => { results := [.lit (.bool true)], args := [d] }
  | _ => none }
def deedForthRow : OpenClaim := { program := "ytfdjdpbiccclfaa", sum := "229b493ecf760c1f82076b87b6ba05b19cacfa676da4ea693e9c7c6147ca6928", func := "warrant/warrantlaw11.DeedForth", spec := "deedForth", unfollowed := true, recurses := true, apart := false }
def DeedForthSaid : Prop := deedForthRow.holds Try.pinned (OpenSpec.ofChange deedForthSpec)

/-- ITS FALSE NEIGHBOUR: 'it returns false'. Refute it at one input. -/
def deedForthWrong : ChangeSpec := { name := "deedForth", fn := fun _ => fun
  | [d] => { results := [.lit (.bool false)], args := [d] }
  | _ => none }
def DeedForthWrongFalsely : Prop := deedForthRow.holds Try.pinned (OpenSpec.ofChange deedForthWrong)

/-- 'warrantlaw11.DeedUnlike': WHATEVER THE INPUT: true; the input reads as it did. -/
def deedUnlikeSpec : ChangeSpec := { name := "deedUnlike", fn := fun _ => fun
  | [d1, d2] => { results := [.lit (.bool true)], args := [d1, d2] }
  | _ => none }
def deedUnlikeRow : OpenClaim := { program := "ytfdjdpbiccclfaa", sum := "229b493ecf760c1f82076b87b6ba05b19cacfa676da4ea693e9c7c6147ca6928", func := "warrant/warrantlaw11.DeedUnlike", spec := "deedUnlike", unfollowed := true, recurses := true, apart := false }
def DeedUnlikeSaid : Prop := deedUnlikeRow.holds Try.pinned (OpenSpec.ofChange deedUnlikeSpec)

/-- ITS FALSE NEIGHBOUR: 'it returns false'. Refute it at one input. -/
def deedUnlikeWrong : ChangeSpec := { name := "deedUnlike", fn := fun _ => fun
  | [d1, d2] => { results := [.lit (.bool false)], args := [d1, d2] }
  | _ => none }
def DeedUnlikeWrongFalsely : Prop := deedUnlikeRow.holds Try.pinned (OpenSpec.ofChange deedUnlikeWrong)

/-- 'warrantlaw11.DeedCut': WHATEVER THE INPUT: true; the input reads as it did. -/
def deedCutSpec : ChangeSpec := { name := "deedCut", fn := fun _ => fun
  | [d1, d2, d3, d4] => { results := [.lit (.bool true)], args := [d1, d2, d3, d4] }
  | _ => none }
def deedCutRow : OpenClaim := { program := "ytfdjdpbiccclfaa", sum := "229b493ecf760c1f82076b87b6ba05b19cacfa676da4ea693e9c7c6147ca6928", func := "warrant/warrantlaw11.DeedCut", spec := "deedCut", unfollowed := true, recurses := true, apart := false }
def DeedCutSaid : Prop := deedCutRow.holds Try.pinned (OpenSpec.ofChange deedCutSpec)

/-- ITS FALSE NEIGHBOUR: 'it returns false'. Refute it at one input. -/
def deedCutWrong : ChangeSpec := { name := "deedCut", fn := fun _ => fun
  | [d1, d2, d3, d4] => { results := [.lit (.bool false)], args := [d1, d2, d3, d4] }
  | _ => none }
def DeedCutWrongFalsely : Prop := deedCutRow.holds Try.pinned (OpenSpec.ofChange deedCutWrong)

/- THE SECOND FORM. 'bulk': how many values and letters a reading holds, each counted each time it is reached (what is shared counts as often as it is met; a slice's spare places count too). A statement '..UptoSaid' is the law's where the arguments, and the package variables that the reading takes, are together of bulk at most 1048576: NARROWER than '..Said'. Prove '..Said' where nothing that the law and all that it calls make is longer than what came in: it says more and counts as full. Else prove '..UptoSaid'. A law counts once. -/
mutual
def uptoBulk {H : Type} : DataW H → Nat
  | .lit (.string bytes) => bytes.length + 1
  | .lit _ => 1
  | .nil => 1
  | .ptr d => uptoBulk d + 1
  | .slice elems spare => uptoBulkAll elems + uptoBulkAll spare + 1
  | .agg parts => uptoBulkAll parts + 1
  | .iface _ d => uptoBulk d + 1
  | .map entries => uptoBulkEntries entries + 1
  | .held _ => 1
def uptoBulkAll {H : Type} : List (DataW H) → Nat
  | [] => 0
  | d :: r => uptoBulk d + uptoBulkAll r
def uptoBulkEntries {H : Type} : List (Lit × DataW H) → Nat
  | [] => 0
  | x :: r => uptoBulkEntry x + uptoBulkEntries r
def uptoBulkEntry {H : Type} : Lit × DataW H → Nat
  | (.string bytes, d) => bytes.length + uptoBulk d + 1
  | (_, d) => uptoBulk d + 1
 end
def uptoSmall : (H : Type) → List (DataW H) → Bool := fun _ ds => decide (uptoBulkAll ds ≤ 1048576)
def OpenSpec.upto (s : _root_.Go.ChangeSpec) : _root_.Go.OpenSpec := { _root_.Go.OpenSpec.ofChange s with cond := some uptoSmall }

/-- 'warrantlaw11.DeedNames', WHERE WHAT IT READS IS OF BULK AT MOST 1048576: true; the input reads as it did. -/
def deedNamesUptoRow : OpenClaim := { program := "ytfdjdpbiccclfaa", sum := "229b493ecf760c1f82076b87b6ba05b19cacfa676da4ea693e9c7c6147ca6928", func := "warrant/warrantlaw11.DeedNames", spec := "deedNames", unfollowed := true, recurses := true, apart := false, narrowed := true }
def DeedNamesUptoSaid : Prop := deedNamesUptoRow.holds Try.pinned (OpenSpec.upto deedNamesSpec)

/-- 'warrantlaw11.DeedEncodes', WHERE WHAT IT READS IS OF BULK AT MOST 1048576: true; the input reads as it did. -/
def deedEncodesUptoRow : OpenClaim := { program := "ytfdjdpbiccclfaa", sum := "229b493ecf760c1f82076b87b6ba05b19cacfa676da4ea693e9c7c6147ca6928", func := "warrant/warrantlaw11.DeedEncodes", spec := "deedEncodes", unfollowed := true, recurses := true, apart := false, narrowed := true }
def DeedEncodesUptoSaid : Prop := deedEncodesUptoRow.holds Try.pinned (OpenSpec.upto deedEncodesSpec)

/-- 'warrantlaw11.DeedDecodes', WHERE WHAT IT READS IS OF BULK AT MOST 1048576: true; the input reads as it did. -/
def deedDecodesUptoRow : OpenClaim := { program := "ytfdjdpbiccclfaa", sum := "229b493ecf760c1f82076b87b6ba05b19cacfa676da4ea693e9c7c6147ca6928", func := "warrant/warrantlaw11.DeedDecodes", spec := "deedDecodes", unfollowed := true, recurses := true, apart := false, narrowed := true }
def DeedDecodesUptoSaid : Prop := deedDecodesUptoRow.holds Try.pinned (OpenSpec.upto deedDecodesSpec)

/-- 'warrantlaw11.DeedFresh', WHERE WHAT IT READS IS OF BULK AT MOST 1048576: true; the input reads as it did. -/
def deedFreshUptoRow : OpenClaim := { program := "ytfdjdpbiccclfaa", sum := "229b493ecf760c1f82076b87b6ba05b19cacfa676da4ea693e9c7c6147ca6928", func := "warrant/warrantlaw11.DeedFresh", spec := "deedFresh", unfollowed := true, recurses := true, apart := false, narrowed := true }
def DeedFreshUptoSaid : Prop := deedFreshUptoRow.holds Try.pinned (OpenSpec.upto deedFreshSpec)

/-- 'warrantlaw11.DeedBack', WHERE WHAT IT READS IS OF BULK AT MOST 1048576: true; the input reads as it did. -/
def deedBackUptoRow : OpenClaim := { program := "ytfdjdpbiccclfaa", sum := "229b493ecf760c1f82076b87b6ba05b19cacfa676da4ea693e9c7c6147ca6928", func := "warrant/warrantlaw11.DeedBack", spec := "deedBack", unfollowed := true, recurses := true, apart := false, narrowed := true }
def DeedBackUptoSaid : Prop := deedBackUptoRow.holds Try.pinned (OpenSpec.upto deedBackSpec)

/-- 'warrantlaw11.DeedForth', WHERE WHAT IT READS IS OF BULK AT MOST 1048576: true; the input reads as it did. -/
def deedForthUptoRow : OpenClaim := { program := "ytfdjdpbiccclfaa", sum := "229b493ecf760c1f82076b87b6ba05b19cacfa676da4ea693e9c7c6147ca6928", func := "warrant/warrantlaw11.DeedForth", spec := "deedForth", unfollowed := true, recurses := true, apart := false, narrowed := true }
def DeedForthUptoSaid : Prop := deedForthUptoRow.holds Try.pinned (OpenSpec.upto deedForthSpec)

/-- 'warrantlaw11.DeedUnlike', WHERE WHAT IT READS IS OF BULK AT MOST 1048576: true; the input reads as it did. -/
def deedUnlikeUptoRow : OpenClaim := { program := "ytfdjdpbiccclfaa", sum := "229b493ecf760c1f82076b87b6ba05b19cacfa676da4ea693e9c7c6147ca6928", func := "warrant/warrantlaw11.DeedUnlike", spec := "deedUnlike", unfollowed := true, recurses := true, apart := false, narrowed := true }
def DeedUnlikeUptoSaid : Prop := deedUnlikeUptoRow.holds Try.pinned (OpenSpec.upto deedUnlikeSpec)

/-- 'warrantlaw11.DeedCut', WHERE WHAT IT READS IS OF BULK AT MOST 1048576: true; the input reads as it did. -/
def deedCutUptoRow : OpenClaim := { program := "ytfdjdpbiccclfaa", sum := "229b493ecf760c1f82076b87b6ba05b19cacfa676da4ea693e9c7c6147ca6928", func := "warrant/warrantlaw11.DeedCut", spec := "deedCut", unfollowed := true, recurses := true, apart := false, narrowed := true }
def DeedCutUptoSaid : Prop := deedCutUptoRow.holds Try.pinned (OpenSpec.upto deedCutSpec)

end Rows
end Go.Proofs.Ytfdjdpbiccclfaa
