/-
  No cell of these rows narrows 'for every input' (looked for: loops, veiled, ifaces, maps, wideKeys, modest, calm, conditions, laid).
  DERIVED. THE GIVEN ROWS OF THIS SEAT. 4 by the template 'for every input the law returns true; each argument reads behind the call as it read before'; 0 by the template 'total and deterministic' (their statements: YtobghplhoeangaaTotals.lean).
  GIVEN WITH THE SEED: the statements are not yours to turn. If you find one false, say at which input.
  Laid BY PROGRAM, IN A SANDBOX (cutbox-rows.mjs): the forced cells as the released guide's own fill.sh prints them over the translation 4adb3a01217f84b1… (all of the seat's roots in one cut). By AI agents, Wed Nov 11 2026. No macro, syntax, notation, axiom, sorry.
-/
import Derived.Test.YtobghplhoeangaaChecked
import GoSem.Claim
import GoSem.ClaimJoined
import GoSem.ClaimMapViews
import Derived.JoinedTies
import Derived.KernelRfl
namespace Go.Proofs.Ytobghplhoeangaa
/- THE CELL 'sum', in the pinned program and in every row, IS THE sha256 OF THE DUMP (.gsa) THAT YtobghplhoeangaaProg.lean LOADS. Nothing in Lean hashes anything: it is a label: what it is worth is what the hold of that sum in a sandbox is worth. -/
noncomputable def Try.pinned : Pinned := { name := "ytobghplhoeangaa", sum := "4adb3a01217f84b1c72fe51f18ddd195b317b2453f09af97d83e9644893795b1", checked := Try.checked }
namespace Rows
def none {H : Type} : Left H := { results := [], args := [] }

/-- 'ballastlaw19.CheckPrograms': WHATEVER THE INPUT: true; the input reads as it did. -/
def checkProgramsSpec : ChangeSpec := { name := "checkPrograms", fn := fun _ => fun
  | [d] => { results := [.lit (.bool true)], args := [d] }
  | _ => none }
def checkProgramsRow : OpenClaim := { program := "ytobghplhoeangaa", sum := "4adb3a01217f84b1c72fe51f18ddd195b317b2453f09af97d83e9644893795b1", func := "ballast/ballastlaw19.CheckPrograms", spec := "checkPrograms", unfollowed := true, recurses := true, apart := false }
def CheckProgramsSaid : Prop := checkProgramsRow.holds Try.pinned (OpenSpec.ofChange checkProgramsSpec)

/-- ITS FALSE NEIGHBOUR: 'it returns false'. Refute it at one input. -/
def checkProgramsWrong : ChangeSpec := { name := "checkPrograms", fn := fun _ => fun
  | [d] => { results := [.lit (.bool false)], args := [d] }
  | _ => none }
def CheckProgramsWrongFalsely : Prop := checkProgramsRow.holds Try.pinned (OpenSpec.ofChange checkProgramsWrong)

/-- 'ballastlaw19.CheckConfigs': WHATEVER THE INPUT: true; the input reads as it did. -/
def checkConfigsSpec : ChangeSpec := { name := "checkConfigs", fn := fun _ => fun
  | [d] => { results := [.lit (.bool true)], args := [d] }
  | _ => none }
def checkConfigsRow : OpenClaim := { program := "ytobghplhoeangaa", sum := "4adb3a01217f84b1c72fe51f18ddd195b317b2453f09af97d83e9644893795b1", func := "ballast/ballastlaw19.CheckConfigs", spec := "checkConfigs", unfollowed := true, recurses := true, apart := false }
def CheckConfigsSaid : Prop := checkConfigsRow.holds Try.pinned (OpenSpec.ofChange checkConfigsSpec)

/-- ITS FALSE NEIGHBOUR: 'it returns false'. Refute it at one input. -/
def checkConfigsWrong : ChangeSpec := { name := "checkConfigs", fn := fun _ => fun
  | [d] => { results := [.lit (.bool false)], args := [d] }
  | _ => none }
def CheckConfigsWrongFalsely : Prop := checkConfigsRow.holds Try.pinned (OpenSpec.ofChange checkConfigsWrong)

/-- 'ballastlaw19.CheckParts': WHATEVER THE INPUT: true; the input reads as it did. -/
def checkPartsSpec : ChangeSpec := { name := "checkParts", fn := fun _ => fun
  | [d1, d2, d3] => { results := [.lit (.bool true)], args := [d1, d2, d3] }
  | _ => none }
def checkPartsRow : OpenClaim := { program := "ytobghplhoeangaa", sum := "4adb3a01217f84b1c72fe51f18ddd195b317b2453f09af97d83e9644893795b1", func := "ballast/ballastlaw19.CheckParts", spec := "checkParts", unfollowed := true, recurses := true, apart := false }
def CheckPartsSaid : Prop := checkPartsRow.holds Try.pinned (OpenSpec.ofChange checkPartsSpec)

/-- ITS FALSE NEIGHBOUR: 'it returns false'. Refute it at one input. -/
def checkPartsWrong : ChangeSpec := { name := "checkParts", fn := fun _ => fun
  | [d1, d2, d3] => { results := [.lit (.bool false)], args := [d1, d2, d3] }
  | _ => none }
def CheckPartsWrongFalsely : Prop := checkPartsRow.holds Try.pinned (OpenSpec.ofChange checkPartsWrong)

/-- 'ballastlaw19.CheckBytes': WHATEVER THE INPUT: true; the input reads as it did. -/
def checkBytesSpec : ChangeSpec := { name := "checkBytes", fn := fun _ => fun
  | [d1, d2] => { results := [.lit (.bool true)], args := [d1, d2] }
  | _ => none }
def checkBytesRow : OpenClaim := { program := "ytobghplhoeangaa", sum := "4adb3a01217f84b1c72fe51f18ddd195b317b2453f09af97d83e9644893795b1", func := "ballast/ballastlaw19.CheckBytes", spec := "checkBytes", unfollowed := true, recurses := true, apart := false }
def CheckBytesSaid : Prop := checkBytesRow.holds Try.pinned (OpenSpec.ofChange checkBytesSpec)

/-- ITS FALSE NEIGHBOUR: 'it returns false'. Refute it at one input. -/
def checkBytesWrong : ChangeSpec := { name := "checkBytes", fn := fun _ => fun
  | [d1, d2] => { results := [.lit (.bool false)], args := [d1, d2] }
  | _ => none }
def CheckBytesWrongFalsely : Prop := checkBytesRow.holds Try.pinned (OpenSpec.ofChange checkBytesWrong)

/- THE SECOND FORM. 'bulk': how many values and letters a reading holds, each counted each time it is reached (what is shared counts as often as it is met; a slice's spare places count too). A statement '..UptoSaid' is the law's where the arguments, and the package variables that the reading takes, are together of bulk at most 1048576: NARROWER than '..Said'. Prove '..Said' where nothing that the law and all that it calls make is longer than what came in: it says more and counts as full. Else prove '..UptoSaid'. A law counts once. -/
mutual
def uptoBulk {H : Type} : DataW H → Nat
  | .lit (.string bytes) => bytes.length + 1
  | .lit _ => 1
  | .nil => 1
  | .ptr d => uptoBulk d + 1
  | .slice elems spare => uptoBulkAll elems + uptoBulkAll spare + 1
  | .agg parts => uptoBulkAll parts + 1
  | .iface _ d => uptoBulk d + 1
  | .map entries => uptoBulkEntries entries + 1
  | .held _ => 1
def uptoBulkAll {H : Type} : List (DataW H) → Nat
  | [] => 0
  | d :: r => uptoBulk d + uptoBulkAll r
def uptoBulkEntries {H : Type} : List (Lit × DataW H) → Nat
  | [] => 0
  | x :: r => uptoBulkEntry x + uptoBulkEntries r
def uptoBulkEntry {H : Type} : Lit × DataW H → Nat
  | (.string bytes, d) => bytes.length + uptoBulk d + 1
  | (_, d) => uptoBulk d + 1
 end
def uptoSmall : (H : Type) → List (DataW H) → Bool := fun _ ds => decide (uptoBulkAll ds ≤ 1048576)
def OpenSpec.upto (s : _root_.Go.ChangeSpec) : _root_.Go.OpenSpec := { _root_.Go.OpenSpec.ofChange s with cond := some uptoSmall }

/-- 'ballastlaw19.CheckPrograms', WHERE WHAT IT READS IS OF BULK AT MOST 1048576: true; the input reads as it did. -/
def checkProgramsUptoRow : OpenClaim := { program := "ytobghplhoeangaa", sum := "4adb3a01217f84b1c72fe51f18ddd195b317b2453f09af97d83e9644893795b1", func := "ballast/ballastlaw19.CheckPrograms", spec := "checkPrograms", unfollowed := true, recurses := true, apart := false, narrowed := true }
def CheckProgramsUptoSaid : Prop := checkProgramsUptoRow.holds Try.pinned (OpenSpec.upto checkProgramsSpec)

/-- 'ballastlaw19.CheckConfigs', WHERE WHAT IT READS IS OF BULK AT MOST 1048576: true; the input reads as it did. -/
def checkConfigsUptoRow : OpenClaim := { program := "ytobghplhoeangaa", sum := "4adb3a01217f84b1c72fe51f18ddd195b317b2453f09af97d83e9644893795b1", func := "ballast/ballastlaw19.CheckConfigs", spec := "checkConfigs", unfollowed := true, recurses := true, apart := false, narrowed := true }
def CheckConfigsUptoSaid : Prop := checkConfigsUptoRow.holds Try.pinned (OpenSpec.upto checkConfigsSpec)

/-- 'ballastlaw19.CheckParts', WHERE WHAT IT READS IS OF BULK AT MOST 1048576: true; the input reads as it did. -/
def checkPartsUptoRow : OpenClaim := { program := "ytobghplhoeangaa", sum := "4adb3a01217f84b1c72fe51f18ddd195b317b2453f09af97d83e9644893795b1", func := "ballast/ballastlaw19.CheckParts", spec := "checkParts", unfollowed := true, recurses := true, apart := false, narrowed := true }
def CheckPartsUptoSaid : Prop := checkPartsUptoRow.holds Try.pinned (OpenSpec.upto checkPartsSpec)

/-- 'ballastlaw19.CheckBytes', WHERE WHAT IT READS IS OF BULK AT MOST 1048576: true; the input reads as it did. -/
def checkBytesUptoRow : OpenClaim := { program := "ytobghplhoeangaa", sum := "4adb3a01217f84b1c72fe51f18ddd195b317b2453f09af97d83e9644893795b1", func := "ballast/ballastlaw19.CheckBytes", spec := "checkBytes", unfollowed := true, recurses := true, apart := false, narrowed := true }
def CheckBytesUptoSaid : Prop := checkBytesUptoRow.holds Try.pinned (OpenSpec.upto checkBytesSpec)

end Rows
end Go.Proofs.Ytobghplhoeangaa
