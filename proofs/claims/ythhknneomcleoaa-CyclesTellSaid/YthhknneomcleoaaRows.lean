/-
  No cell of these rows narrows 'for every input' (looked for: loops, veiled, ifaces, maps, wideKeys, modest, calm, conditions, laid).
  DERIVED. THE GIVEN ROWS OF THIS SEAT. 9 by the template 'for every input the law returns true; each argument reads behind the call as it read before'; 0 by the template 'total and deterministic' (their statements: YthhknneomcleoaaTotals.lean).
  GIVEN WITH THE SEED: the statements are not yours to turn. If you find one false, say at which input.
  Laid BY PROGRAM, IN A SANDBOX (cutbox-rows.mjs): the forced cells as the released guide's own fill.sh prints them over the translation 105046d9c0149238… (all of the seat's roots in one cut). By AI agents, Wed Nov 11 2026. No macro, syntax, notation, axiom, sorry.
-/
import Derived.Test.YthhknneomcleoaaChecked
import GoSem.Claim
import GoSem.ClaimJoined
import GoSem.ClaimMapViews
import Derived.JoinedTies
import Derived.KernelRfl
namespace Go.Proofs.Ythhknneomcleoaa
/- THE CELL 'sum', in the pinned program and in every row, IS THE sha256 OF THE DUMP (.gsa) THAT YthhknneomcleoaaProg.lean LOADS. Nothing in Lean hashes anything: it is a label: what it is worth is what the hold of that sum in a sandbox is worth. -/
noncomputable def Try.pinned : Pinned := { name := "ythhknneomcleoaa", sum := "105046d9c0149238a1fa9b4c5727453871624dee3e94e599e272f19bff9ad2d6", checked := Try.checked }
namespace Rows
def none {H : Type} : Left H := { results := [], args := [] }

/-- 'homographlaw06.NfaSteps': WHATEVER THE INPUT: true; the input reads as it did. -/
def nfaStepsSpec : ChangeSpec := { name := "nfaSteps", fn := fun _ => fun
  | [d1, d2, d3] => { results := [.lit (.bool true)], args := [d1, d2, d3] }
  | _ => none }
def nfaStepsRow : OpenClaim := { program := "ythhknneomcleoaa", sum := "105046d9c0149238a1fa9b4c5727453871624dee3e94e599e272f19bff9ad2d6", func := "homograph/homographlaw06.NfaSteps", spec := "nfaSteps", unfollowed := true, recurses := true, apart := false }
def NfaStepsSaid : Prop := nfaStepsRow.holds Try.pinned (OpenSpec.ofChange nfaStepsSpec)

/-- ITS FALSE NEIGHBOUR: 'it returns false'. Refute it at one input. -/
def nfaStepsWrong : ChangeSpec := { name := "nfaSteps", fn := fun _ => fun
  | [d1, d2, d3] => { results := [.lit (.bool false)], args := [d1, d2, d3] }
  | _ => none }
def NfaStepsWrongFalsely : Prop := nfaStepsRow.holds Try.pinned (OpenSpec.ofChange nfaStepsWrong)

/-- 'homographlaw06.NfaMeans': WHATEVER THE INPUT: true; the input reads as it did. -/
def nfaMeansSpec : ChangeSpec := { name := "nfaMeans", fn := fun _ => fun
  | [d1, d2] => { results := [.lit (.bool true)], args := [d1, d2] }
  | _ => none }
def nfaMeansRow : OpenClaim := { program := "ythhknneomcleoaa", sum := "105046d9c0149238a1fa9b4c5727453871624dee3e94e599e272f19bff9ad2d6", func := "homograph/homographlaw06.NfaMeans", spec := "nfaMeans", unfollowed := true, recurses := true, apart := false }
def NfaMeansSaid : Prop := nfaMeansRow.holds Try.pinned (OpenSpec.ofChange nfaMeansSpec)

/-- ITS FALSE NEIGHBOUR: 'it returns false'. Refute it at one input. -/
def nfaMeansWrong : ChangeSpec := { name := "nfaMeans", fn := fun _ => fun
  | [d1, d2] => { results := [.lit (.bool false)], args := [d1, d2] }
  | _ => none }
def NfaMeansWrongFalsely : Prop := nfaMeansRow.holds Try.pinned (OpenSpec.ofChange nfaMeansWrong)

/-- 'homographlaw06.NfaClosed': WHATEVER THE INPUT: true; the input reads as it did. -/
def nfaClosedSpec : ChangeSpec := { name := "nfaClosed", fn := fun _ => fun
  | [d1, d2] => { results := [.lit (.bool true)], args := [d1, d2] }
  | _ => none }
def nfaClosedRow : OpenClaim := { program := "ythhknneomcleoaa", sum := "105046d9c0149238a1fa9b4c5727453871624dee3e94e599e272f19bff9ad2d6", func := "homograph/homographlaw06.NfaClosed", spec := "nfaClosed", unfollowed := true, recurses := true, apart := false }
def NfaClosedSaid : Prop := nfaClosedRow.holds Try.pinned (OpenSpec.ofChange nfaClosedSpec)

/-- ITS FALSE NEIGHBOUR: 'it returns false'. Refute it at one input. -/
def nfaClosedWrong : ChangeSpec := { name := "nfaClosed", fn := fun _ => fun
  | [d1, d2] => { results := [.lit (.bool false)], args := [d1, d2] }
  | _ => none }
def NfaClosedWrongFalsely : Prop := nfaClosedRow.holds Try.pinned (OpenSpec.ofChange nfaClosedWrong)

/-- 'homographlaw06.NfaParts': WHATEVER THE INPUT: true; the input reads as it did. -/
def nfaPartsSpec : ChangeSpec := { name := "nfaParts", fn := fun _ => fun
  | [d1, d2, d3] => { results := [.lit (.bool true)], args := [d1, d2, d3] }
  | _ => none }
def nfaPartsRow : OpenClaim := { program := "ythhknneomcleoaa", sum := "105046d9c0149238a1fa9b4c5727453871624dee3e94e599e272f19bff9ad2d6", func := "homograph/homographlaw06.NfaParts", spec := "nfaParts", unfollowed := true, recurses := true, apart := false }
def NfaPartsSaid : Prop := nfaPartsRow.holds Try.pinned (OpenSpec.ofChange nfaPartsSpec)

/-- ITS FALSE NEIGHBOUR: 'it returns false'. Refute it at one input. -/
def nfaPartsWrong : ChangeSpec := { name := "nfaParts", fn := fun _ => fun
  | [d1, d2, d3] => { results := [.lit (.bool false)], args := [d1, d2, d3] }
  | _ => none }
def NfaPartsWrongFalsely : Prop := nfaPartsRow.holds Try.pinned (OpenSpec.ofChange nfaPartsWrong)

/-- 'homographlaw17.SetsTell': WHATEVER THE INPUT: true; the input reads as it did. -/
def setsTellSpec : ChangeSpec := { name := "setsTell", fn := fun _ => fun
  | [d1, d2] => { results := [.lit (.bool true)], args := [d1, d2] }
  | _ => none }
def setsTellRow : OpenClaim := { program := "ythhknneomcleoaa", sum := "105046d9c0149238a1fa9b4c5727453871624dee3e94e599e272f19bff9ad2d6", func := "homograph/homographlaw17.SetsTell", spec := "setsTell", unfollowed := true, recurses := true, apart := false }
def SetsTellSaid : Prop := setsTellRow.holds Try.pinned (OpenSpec.ofChange setsTellSpec)

/-- ITS FALSE NEIGHBOUR: 'it returns false'. Refute it at one input. -/
def setsTellWrong : ChangeSpec := { name := "setsTell", fn := fun _ => fun
  | [d1, d2] => { results := [.lit (.bool false)], args := [d1, d2] }
  | _ => none }
def SetsTellWrongFalsely : Prop := setsTellRow.holds Try.pinned (OpenSpec.ofChange setsTellWrong)

/-- 'homographlaw17.SetsFollow': WHATEVER THE INPUT: true; the input reads as it did. -/
def setsFollowSpec : ChangeSpec := { name := "setsFollow", fn := fun _ => fun
  | [d1, d2] => { results := [.lit (.bool true)], args := [d1, d2] }
  | _ => none }
def setsFollowRow : OpenClaim := { program := "ythhknneomcleoaa", sum := "105046d9c0149238a1fa9b4c5727453871624dee3e94e599e272f19bff9ad2d6", func := "homograph/homographlaw17.SetsFollow", spec := "setsFollow", unfollowed := true, recurses := true, apart := false }
def SetsFollowSaid : Prop := setsFollowRow.holds Try.pinned (OpenSpec.ofChange setsFollowSpec)

/-- ITS FALSE NEIGHBOUR: 'it returns false'. Refute it at one input. -/
def setsFollowWrong : ChangeSpec := { name := "setsFollow", fn := fun _ => fun
  | [d1, d2] => { results := [.lit (.bool false)], args := [d1, d2] }
  | _ => none }
def SetsFollowWrongFalsely : Prop := setsFollowRow.holds Try.pinned (OpenSpec.ofChange setsFollowWrong)

/-- 'homographlaw17.SetsAgree': WHATEVER THE INPUT: true; the input reads as it did. -/
def setsAgreeSpec : ChangeSpec := { name := "setsAgree", fn := fun _ => fun
  | [d] => { results := [.lit (.bool true)], args := [d] }
  | _ => none }
def setsAgreeRow : OpenClaim := { program := "ythhknneomcleoaa", sum := "105046d9c0149238a1fa9b4c5727453871624dee3e94e599e272f19bff9ad2d6", func := "homograph/homographlaw17.SetsAgree", spec := "setsAgree", unfollowed := true, recurses := true, apart := false }
def SetsAgreeSaid : Prop := setsAgreeRow.holds Try.pinned (OpenSpec.ofChange setsAgreeSpec)

/-- ITS FALSE NEIGHBOUR: 'it returns false'. Refute it at one input. -/
def setsAgreeWrong : ChangeSpec := { name := "setsAgree", fn := fun _ => fun
  | [d] => { results := [.lit (.bool false)], args := [d] }
  | _ => none }
def SetsAgreeWrongFalsely : Prop := setsAgreeRow.holds Try.pinned (OpenSpec.ofChange setsAgreeWrong)

/-- 'homographlaw17.SetsMore': WHATEVER THE INPUT: true; the input reads as it did. -/
def setsMoreSpec : ChangeSpec := { name := "setsMore", fn := fun _ => fun
  | [d1, d2, d3] => { results := [.lit (.bool true)], args := [d1, d2, d3] }
  | _ => none }
def setsMoreRow : OpenClaim := { program := "ythhknneomcleoaa", sum := "105046d9c0149238a1fa9b4c5727453871624dee3e94e599e272f19bff9ad2d6", func := "homograph/homographlaw17.SetsMore", spec := "setsMore", unfollowed := true, recurses := true, apart := false }
def SetsMoreSaid : Prop := setsMoreRow.holds Try.pinned (OpenSpec.ofChange setsMoreSpec)

/-- ITS FALSE NEIGHBOUR: 'it returns false'. Refute it at one input. -/
def setsMoreWrong : ChangeSpec := { name := "setsMore", fn := fun _ => fun
  | [d1, d2, d3] => { results := [.lit (.bool false)], args := [d1, d2, d3] }
  | _ => none }
def SetsMoreWrongFalsely : Prop := setsMoreRow.holds Try.pinned (OpenSpec.ofChange setsMoreWrong)

/-- 'homographlaw18.CyclesTell': WHATEVER THE INPUT: true; the input reads as it did. -/
def cyclesTellSpec : ChangeSpec := { name := "cyclesTell", fn := fun _ => fun
  | [d] => { results := [.lit (.bool true)], args := [d] }
  | _ => none }
def cyclesTellRow : OpenClaim := { program := "ythhknneomcleoaa", sum := "105046d9c0149238a1fa9b4c5727453871624dee3e94e599e272f19bff9ad2d6", func := "homograph/homographlaw18.CyclesTell", spec := "cyclesTell", unfollowed := true, recurses := true, apart := false }
def CyclesTellSaid : Prop := cyclesTellRow.holds Try.pinned (OpenSpec.ofChange cyclesTellSpec)

/-- ITS FALSE NEIGHBOUR: 'it returns false'. Refute it at one input. -/
def cyclesTellWrong : ChangeSpec := { name := "cyclesTell", fn := fun _ => fun
  | [d] => { results := [.lit (.bool false)], args := [d] }
  | _ => none }
def CyclesTellWrongFalsely : Prop := cyclesTellRow.holds Try.pinned (OpenSpec.ofChange cyclesTellWrong)

/- THE SECOND FORM. 'bulk': how many values and letters a reading holds, each counted each time it is reached (what is shared counts as often as it is met; a slice's spare places count too). A statement '..UptoSaid' is the law's where the arguments, and the package variables that the reading takes, are together of bulk at most 1048576: NARROWER than '..Said'. Prove '..Said' where nothing that the law and all that it calls make is longer than what came in: it says more and counts as full. Else prove '..UptoSaid'. A law counts once. -/
mutual
def uptoBulk {H : Type} : DataW H → Nat
  | .lit (.string bytes) => bytes.length + 1
  | .lit _ => 1
  | .nil => 1
  | .ptr d => uptoBulk d + 1
  | .slice elems spare => uptoBulkAll elems + uptoBulkAll spare + 1
  | .agg parts => uptoBulkAll parts + 1
  | .iface _ d => uptoBulk d + 1
  | .map entries => uptoBulkEntries entries + 1
  | .held _ => 1
def uptoBulkAll {H : Type} : List (DataW H) → Nat
  | [] => 0
  | d :: r => uptoBulk d + uptoBulkAll r
def uptoBulkEntries {H : Type} : List (Lit × DataW H) → Nat
  | [] => 0
  | x :: r => uptoBulkEntry x + uptoBulkEntries r
def uptoBulkEntry {H : Type} : Lit × DataW H → Nat
  | (.string bytes, d) => bytes.length + uptoBulk d + 1
  | (_, d) => uptoBulk d + 1
 end
def uptoSmall : (H : Type) → List (DataW H) → Bool := fun _ ds => decide (uptoBulkAll ds ≤ 1048576)
def OpenSpec.upto (s : _root_.Go.ChangeSpec) : _root_.Go.OpenSpec := { _root_.Go.OpenSpec.ofChange s with cond := some uptoSmall }

/-- 'homographlaw06.NfaSteps', WHERE WHAT IT READS IS OF BULK AT MOST 1048576: true; the input reads as it did. -/
def nfaStepsUptoRow : OpenClaim := { program := "ythhknneomcleoaa", sum := "105046d9c0149238a1fa9b4c5727453871624dee3e94e599e272f19bff9ad2d6", func := "homograph/homographlaw06.NfaSteps", spec := "nfaSteps", unfollowed := true, recurses := true, apart := false, narrowed := true }
def NfaStepsUptoSaid : Prop := nfaStepsUptoRow.holds Try.pinned (OpenSpec.upto nfaStepsSpec)

/-- 'homographlaw06.NfaMeans', WHERE WHAT IT READS IS OF BULK AT MOST 1048576: true; the input reads as it did. -/
def nfaMeansUptoRow : OpenClaim := { program := "ythhknneomcleoaa", sum := "105046d9c0149238a1fa9b4c5727453871624dee3e94e599e272f19bff9ad2d6", func := "homograph/homographlaw06.NfaMeans", spec := "nfaMeans", unfollowed := true, recurses := true, apart := false, narrowed := true }
def NfaMeansUptoSaid : Prop := nfaMeansUptoRow.holds Try.pinned (OpenSpec.upto nfaMeansSpec)

/-- 'homographlaw06.NfaClosed', WHERE WHAT IT READS IS OF BULK AT MOST 1048576: true; the input reads as it did. -/
def nfaClosedUptoRow : OpenClaim := { program := "ythhknneomcleoaa", sum := "105046d9c0149238a1fa9b4c5727453871624dee3e94e599e272f19bff9ad2d6", func := "homograph/homographlaw06.NfaClosed", spec := "nfaClosed", unfollowed := true, recurses := true, apart := false, narrowed := true }
def NfaClosedUptoSaid : Prop := nfaClosedUptoRow.holds Try.pinned (OpenSpec.upto nfaClosedSpec)

/-- 'homographlaw06.NfaParts', WHERE WHAT IT READS IS OF BULK AT MOST 1048576: true; the input reads as it did. -/
def nfaPartsUptoRow : OpenClaim := { program := "ythhknneomcleoaa", sum := "105046d9c0149238a1fa9b4c5727453871624dee3e94e599e272f19bff9ad2d6", func := "homograph/homographlaw06.NfaParts", spec := "nfaParts", unfollowed := true, recurses := true, apart := false, narrowed := true }
def NfaPartsUptoSaid : Prop := nfaPartsUptoRow.holds Try.pinned (OpenSpec.upto nfaPartsSpec)

/-- 'homographlaw17.SetsTell', WHERE WHAT IT READS IS OF BULK AT MOST 1048576: true; the input reads as it did. -/
def setsTellUptoRow : OpenClaim := { program := "ythhknneomcleoaa", sum := "105046d9c0149238a1fa9b4c5727453871624dee3e94e599e272f19bff9ad2d6", func := "homograph/homographlaw17.SetsTell", spec := "setsTell", unfollowed := true, recurses := true, apart := false, narrowed := true }
def SetsTellUptoSaid : Prop := setsTellUptoRow.holds Try.pinned (OpenSpec.upto setsTellSpec)

/-- 'homographlaw17.SetsFollow', WHERE WHAT IT READS IS OF BULK AT MOST 1048576: true; the input reads as it did. -/
def setsFollowUptoRow : OpenClaim := { program := "ythhknneomcleoaa", sum := "105046d9c0149238a1fa9b4c5727453871624dee3e94e599e272f19bff9ad2d6", func := "homograph/homographlaw17.SetsFollow", spec := "setsFollow", unfollowed := true, recurses := true, apart := false, narrowed := true }
def SetsFollowUptoSaid : Prop := setsFollowUptoRow.holds Try.pinned (OpenSpec.upto setsFollowSpec)

/-- 'homographlaw17.SetsAgree', WHERE WHAT IT READS IS OF BULK AT MOST 1048576: true; the input reads as it did. -/
def setsAgreeUptoRow : OpenClaim := { program := "ythhknneomcleoaa", sum := "105046d9c0149238a1fa9b4c5727453871624dee3e94e599e272f19bff9ad2d6", func := "homograph/homographlaw17.SetsAgree", spec := "setsAgree", unfollowed := true, recurses := true, apart := false, narrowed := true }
def SetsAgreeUptoSaid : Prop := setsAgreeUptoRow.holds Try.pinned (OpenSpec.upto setsAgreeSpec)

/-- 'homographlaw17.SetsMore', WHERE WHAT IT READS IS OF BULK AT MOST 1048576: true; the input reads as it did. -/
def setsMoreUptoRow : OpenClaim := { program := "ythhknneomcleoaa", sum := "105046d9c0149238a1fa9b4c5727453871624dee3e94e599e272f19bff9ad2d6", func := "homograph/homographlaw17.SetsMore", spec := "setsMore", unfollowed := true, recurses := true, apart := false, narrowed := true }
def SetsMoreUptoSaid : Prop := setsMoreUptoRow.holds Try.pinned (OpenSpec.upto setsMoreSpec)

/-- 'homographlaw18.CyclesTell', WHERE WHAT IT READS IS OF BULK AT MOST 1048576: true; the input reads as it did. -/
def cyclesTellUptoRow : OpenClaim := { program := "ythhknneomcleoaa", sum := "105046d9c0149238a1fa9b4c5727453871624dee3e94e599e272f19bff9ad2d6", func := "homograph/homographlaw18.CyclesTell", spec := "cyclesTell", unfollowed := true, recurses := true, apart := false, narrowed := true }
def CyclesTellUptoSaid : Prop := cyclesTellUptoRow.holds Try.pinned (OpenSpec.upto cyclesTellSpec)

end Rows
end Go.Proofs.Ythhknneomcleoaa
