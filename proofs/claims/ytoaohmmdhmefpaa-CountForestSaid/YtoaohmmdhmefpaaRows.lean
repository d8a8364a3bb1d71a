/-
  No cell of these rows narrows 'for every input' (looked for: loops, veiled, ifaces, maps, wideKeys, modest, calm, conditions, laid).
  DERIVED. THE GIVEN ROWS OF THIS SEAT. 3 by the template 'for every input the law returns true; each argument reads behind the call as it read before'; 0 by the template 'total and deterministic' (their statements: YtoaohmmdhmefpaaTotals.lean).
  GIVEN WITH THE SEED: the statements are not yours to turn. If you find one false, say at which input.
  Laid BY PROGRAM, IN A SANDBOX (cutbox-rows.mjs): the forced cells as the released guide's own fill.sh prints them over the translation 8c952cfa4dc48f2f… (all of the seat's roots in one cut). By AI agents, Wed Nov 11 2026. No macro, syntax, notation, axiom, sorry.
-/
import Derived.Test.YtoaohmmdhmefpaaChecked
import GoSem.Claim
import GoSem.ClaimJoined
import GoSem.ClaimMapViews
import Derived.JoinedTies
import Derived.KernelRfl
namespace Go.Proofs.Ytoaohmmdhmefpaa
/- THE CELL 'sum', in the pinned program and in every row, IS THE sha256 OF THE DUMP (.gsa) THAT YtoaohmmdhmefpaaProg.lean LOADS. Nothing in Lean hashes anything: it is a label: what it is worth is what the hold of that sum in a sandbox is worth. -/
noncomputable def Try.pinned : Pinned := { name := "ytoaohmmdhmefpaa", sum := "8c952cfa4dc48f2fbe15d7fc6f3d47cdc15c21c8fe8c3c252b4d62ac13ba2035", checked := Try.checked }
namespace Rows
def none {H : Type} : Left H := { results := [], args := [] }

/-- 'homographlaw28.CountForest': WHATEVER THE INPUT: true; the input reads as it did. -/
def countForestSpec : ChangeSpec := { name := "countForest", fn := fun _ => fun
  | [d1, d2] => { results := [.lit (.bool true)], args := [d1, d2] }
  | _ => none }
def countForestRow : OpenClaim := { program := "ytoaohmmdhmefpaa", sum := "8c952cfa4dc48f2fbe15d7fc6f3d47cdc15c21c8fe8c3c252b4d62ac13ba2035", func := "homograph/homographlaw28.CountForest", spec := "countForest", unfollowed := true, recurses := true, plainKeys := false, apart := false }
def CountForestSaid : Prop := countForestRow.holds Try.pinned (OpenSpec.ofChange countForestSpec)

/-- ITS FALSE NEIGHBOUR: 'it returns false'. Refute it at one input. -/
def countForestWrong : ChangeSpec := { name := "countForest", fn := fun _ => fun
  | [d1, d2] => { results := [.lit (.bool false)], args := [d1, d2] }
  | _ => none }
def CountForestWrongFalsely : Prop := countForestRow.holds Try.pinned (OpenSpec.ofChange countForestWrong)

/-- 'homographlaw28.CountBinary': WHATEVER THE INPUT: true; the input reads as it did. -/
def countBinarySpec : ChangeSpec := { name := "countBinary", fn := fun _ => fun
  | [d] => { results := [.lit (.bool true)], args := [d] }
  | _ => none }
def countBinaryRow : OpenClaim := { program := "ytoaohmmdhmefpaa", sum := "8c952cfa4dc48f2fbe15d7fc6f3d47cdc15c21c8fe8c3c252b4d62ac13ba2035", func := "homograph/homographlaw28.CountBinary", spec := "countBinary", unfollowed := true, recurses := true, plainKeys := false, apart := false }
def CountBinarySaid : Prop := countBinaryRow.holds Try.pinned (OpenSpec.ofChange countBinarySpec)

/-- ITS FALSE NEIGHBOUR: 'it returns false'. Refute it at one input. -/
def countBinaryWrong : ChangeSpec := { name := "countBinary", fn := fun _ => fun
  | [d] => { results := [.lit (.bool false)], args := [d] }
  | _ => none }
def CountBinaryWrongFalsely : Prop := countBinaryRow.holds Try.pinned (OpenSpec.ofChange countBinaryWrong)

/-- 'homographlaw28.CountSums': WHATEVER THE INPUT: true; the input reads as it did. -/
def countSumsSpec : ChangeSpec := { name := "countSums", fn := fun _ => fun
  | [d1, d2] => { results := [.lit (.bool true)], args := [d1, d2] }
  | _ => none }
def countSumsRow : OpenClaim := { program := "ytoaohmmdhmefpaa", sum := "8c952cfa4dc48f2fbe15d7fc6f3d47cdc15c21c8fe8c3c252b4d62ac13ba2035", func := "homograph/homographlaw28.CountSums", spec := "countSums", unfollowed := true, recurses := true, plainKeys := false, apart := false }
def CountSumsSaid : Prop := countSumsRow.holds Try.pinned (OpenSpec.ofChange countSumsSpec)

/-- ITS FALSE NEIGHBOUR: 'it returns false'. Refute it at one input. -/
def countSumsWrong : ChangeSpec := { name := "countSums", fn := fun _ => fun
  | [d1, d2] => { results := [.lit (.bool false)], args := [d1, d2] }
  | _ => none }
def CountSumsWrongFalsely : Prop := countSumsRow.holds Try.pinned (OpenSpec.ofChange countSumsWrong)

/- THE SECOND FORM. 'bulk': how many values and letters a reading holds, each counted each time it is reached (what is shared counts as often as it is met; a slice's spare places count too). A statement '..UptoSaid' is the law's where the arguments, and the package variables that the reading takes, are together of bulk at most 1048576: NARROWER than '..Said'. Prove '..Said' where nothing that the law and all that it calls make is longer than what came in: it says more and counts as full. Else prove '..UptoSaid'. A law counts once. -/
mutual
def uptoBulk {H : Type} : DataW H → Nat
  | .lit (.string bytes) => bytes.length + 1
  | .lit _ => 1
  | .nil => 1
  | .ptr d => uptoBulk d + 1
  | .slice elems spare => uptoBulkAll elems + uptoBulkAll spare + 1
  | .agg parts => uptoBulkAll parts + 1
  | .iface _ d => uptoBulk d + 1
  | .map entries => uptoBulkEntries entries + 1
  | .held _ => 1
def uptoBulkAll {H : Type} : List (DataW H) → Nat
  | [] => 0
  | d :: r => uptoBulk d + uptoBulkAll r
def uptoBulkEntries {H : Type} : List (Lit × DataW H) → Nat
  | [] => 0
  | x :: r => uptoBulkEntry x + uptoBulkEntries r
def uptoBulkEntry {H : Type} : Lit × DataW H → Nat
  | (.string bytes, d) => bytes.length + uptoBulk d + 1
  | (_, d) => uptoBulk d + 1
 end
def uptoSmall : (H : Type) → List (DataW H) → Bool := fun _ ds => decide (uptoBulkAll ds ≤ 1048576)
def OpenSpec.upto (s : _root_.Go.ChangeSpec) : _root_.Go.OpenSpec := { _root_.Go.OpenSpec.ofChange s with cond := some uptoSmall }

/-- 'homographlaw28.CountForest', WHERE WHAT IT READS IS OF BULK AT MOST 1048576: true; the input reads as it did. -/
def countForestUptoRow : OpenClaim := { program := "ytoaohmmdhmefpaa", sum := "8c952cfa4dc48f2fbe15d7fc6f3d47cdc15c21c8fe8c3c252b4d62ac13ba2035", func := "homograph/homographlaw28.CountForest", spec := "countForest", unfollowed := true, recurses := true, plainKeys := false, apart := false, narrowed := true }
def CountForestUptoSaid : Prop := countForestUptoRow.holds Try.pinned (OpenSpec.upto countForestSpec)

/-- 'homographlaw28.CountBinary', WHERE WHAT IT READS IS OF BULK AT MOST 1048576: true; the input reads as it did. -/
def countBinaryUptoRow : OpenClaim := { program := "ytoaohmmdhmefpaa", sum := "8c952cfa4dc48f2fbe15d7fc6f3d47cdc15c21c8fe8c3c252b4d62ac13ba2035", func := "homograph/homographlaw28.CountBinary", spec := "countBinary", unfollowed := true, recurses := true, plainKeys := false, apart := false, narrowed := true }
def CountBinaryUptoSaid : Prop := countBinaryUptoRow.holds Try.pinned (OpenSpec.upto countBinarySpec)

/-- 'homographlaw28.CountSums', WHERE WHAT IT READS IS OF BULK AT MOST 1048576: true; the input reads as it did. -/
def countSumsUptoRow : OpenClaim := { program := "ytoaohmmdhmefpaa", sum := "8c952cfa4dc48f2fbe15d7fc6f3d47cdc15c21c8fe8c3c252b4d62ac13ba2035", func := "homograph/homographlaw28.CountSums", spec := "countSums", unfollowed := true, recurses := true, plainKeys := false, apart := false, narrowed := true }
def CountSumsUptoSaid : Prop := countSumsUptoRow.holds Try.pinned (OpenSpec.upto countSumsSpec)

end Rows
end Go.Proofs.Ytoaohmmdhmefpaa
