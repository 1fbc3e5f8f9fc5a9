/-
  No cell of these rows narrows 'for every input' (looked for: loops, veiled, ifaces, maps, wideKeys, modest, calm, conditions, laid).
  DERIVED. THE GIVEN ROWS OF THIS SEAT. 6 by the template 'for every input the law returns true; each argument reads behind the call as it read before'; 0 by the template 'total and deterministic' (their statements: YtnknamdhobieiaaTotals.lean).
  GIVEN WITH THE SEED: the statements are not yours to turn. If you find one false, say at which input.
  Laid BY PROGRAM, IN A SANDBOX (cutbox-rows.mjs): the forced cells as the released guide's own fill.sh prints them over the translation 46b320719851461b… (all of the seat's roots in one cut). By AI agents, Wed Nov 11 2026. No macro, syntax, notation, axiom, sorry.
-/
import Derived.Test.YtnknamdhobieiaaChecked
import GoSem.Claim
import GoSem.ClaimJoined
import GoSem.ClaimMapViews
import Derived.JoinedTies
import Derived.KernelRfl
namespace Go.Proofs.Ytnknamdhobieiaa
/- THE CELL 'sum', in the pinned program and in every row, IS THE sha256 OF THE DUMP (.gsa) THAT YtnknamdhobieiaaProg.lean LOADS. Nothing in Lean hashes anything: it is a label: what it is worth is what the hold of that sum in a sandbox is worth. -/
noncomputable def Try.pinned : Pinned := { name := "ytnknamdhobieiaa", sum := "46b320719851461b93c7a9c8f4607427f52ce09da48c28cf618eb457156bb0be", checked := Try.checked }
namespace Rows
def none {H : Type} : Left H := { results := [], args := [] }

/-- 'ballastlaw01.CellsPlays': WHATEVER THE INPUT: true; the input reads as it did. -/
def cellsPlaysSpec : ChangeSpec := { name := "cellsPlays", fn := fun _ => fun
  | [d1, d2] => { results := [.lit (.bool true)], args := [d1, d2] }
  | _ => none }
def cellsPlaysRow : OpenClaim := { program := "ytnknamdhobieiaa", sum := "46b320719851461b93c7a9c8f4607427f52ce09da48c28cf618eb457156bb0be", func := "ballast/ballastlaw01.CellsPlays", spec := "cellsPlays", inPlace := ["sync/atomic.AddInt64", "sync/atomic.LoadInt64"], unfollowed := true, recurses := true, apart := false }
def CellsPlaysSaid : Prop := cellsPlaysRow.holds Try.pinned (OpenSpec.ofChange cellsPlaysSpec)

/-- ITS FALSE NEIGHBOUR: 'it returns false'. Refute it at one input. -/
def cellsPlaysWrong : ChangeSpec := { name := "cellsPlays", fn := fun _ => fun
  | [d1, d2] => { results := [.lit (.bool false)], args := [d1, d2] }
  | _ => none }
def CellsPlaysWrongFalsely : Prop := cellsPlaysRow.holds Try.pinned (OpenSpec.ofChange cellsPlaysWrong)

/-- 'ballastlaw01.CellsOne': WHATEVER THE INPUT: true; the input reads as it did. -/
def cellsOneSpec : ChangeSpec := { name := "cellsOne", fn := fun _ => fun
  | [d1, d2] => { results := [.lit (.bool true)], args := [d1, d2] }
  | _ => none }
def cellsOneRow : OpenClaim := { program := "ytnknamdhobieiaa", sum := "46b320719851461b93c7a9c8f4607427f52ce09da48c28cf618eb457156bb0be", func := "ballast/ballastlaw01.CellsOne", spec := "cellsOne", inPlace := ["sync/atomic.AddInt64", "sync/atomic.LoadInt64"], unfollowed := true, recurses := true, apart := false }
def CellsOneSaid : Prop := cellsOneRow.holds Try.pinned (OpenSpec.ofChange cellsOneSpec)

/-- ITS FALSE NEIGHBOUR: 'it returns false'. Refute it at one input. -/
def cellsOneWrong : ChangeSpec := { name := "cellsOne", fn := fun _ => fun
  | [d1, d2] => { results := [.lit (.bool false)], args := [d1, d2] }
  | _ => none }
def CellsOneWrongFalsely : Prop := cellsOneRow.holds Try.pinned (OpenSpec.ofChange cellsOneWrong)

/-- 'ballastlaw01.CellsSums': WHATEVER THE INPUT: true; the input reads as it did. -/
def cellsSumsSpec : ChangeSpec := { name := "cellsSums", fn := fun _ => fun
  | [d] => { results := [.lit (.bool true)], args := [d] }
  | _ => none }
def cellsSumsRow : OpenClaim := { program := "ytnknamdhobieiaa", sum := "46b320719851461b93c7a9c8f4607427f52ce09da48c28cf618eb457156bb0be", func := "ballast/ballastlaw01.CellsSums", spec := "cellsSums", inPlace := ["sync/atomic.AddInt64", "sync/atomic.LoadInt64"], unfollowed := true, recurses := true, apart := false }
def CellsSumsSaid : Prop := cellsSumsRow.holds Try.pinned (OpenSpec.ofChange cellsSumsSpec)

/-- ITS FALSE NEIGHBOUR: 'it returns false'. Refute it at one input. -/
def cellsSumsWrong : ChangeSpec := { name := "cellsSums", fn := fun _ => fun
  | [d] => { results := [.lit (.bool false)], args := [d] }
  | _ => none }
def CellsSumsWrongFalsely : Prop := cellsSumsRow.holds Try.pinned (OpenSpec.ofChange cellsSumsWrong)

/-- 'ballastlaw01.CellsNil': WHATEVER THE INPUT: true; the input reads as it did. -/
def cellsNilSpec : ChangeSpec := { name := "cellsNil", fn := fun _ => fun
  | [d1, d2] => { results := [.lit (.bool true)], args := [d1, d2] }
  | _ => none }
def cellsNilRow : OpenClaim := { program := "ytnknamdhobieiaa", sum := "46b320719851461b93c7a9c8f4607427f52ce09da48c28cf618eb457156bb0be", func := "ballast/ballastlaw01.CellsNil", spec := "cellsNil", inPlace := ["sync/atomic.AddInt64", "sync/atomic.LoadInt64"], unfollowed := true, recurses := true, apart := false }
def CellsNilSaid : Prop := cellsNilRow.holds Try.pinned (OpenSpec.ofChange cellsNilSpec)

/-- ITS FALSE NEIGHBOUR: 'it returns false'. Refute it at one input. -/
def cellsNilWrong : ChangeSpec := { name := "cellsNil", fn := fun _ => fun
  | [d1, d2] => { results := [.lit (.bool false)], args := [d1, d2] }
  | _ => none }
def CellsNilWrongFalsely : Prop := cellsNilRow.holds Try.pinned (OpenSpec.ofChange cellsNilWrong)

/-- 'ballastlaw01.CellsApart': WHATEVER THE INPUT: true; the input reads as it did. -/
def cellsApartSpec : ChangeSpec := { name := "cellsApart", fn := fun _ => fun
  | [d1, d2, d3] => { results := [.lit (.bool true)], args := [d1, d2, d3] }
  | _ => none }
def cellsApartRow : OpenClaim := { program := "ytnknamdhobieiaa", sum := "46b320719851461b93c7a9c8f4607427f52ce09da48c28cf618eb457156bb0be", func := "ballast/ballastlaw01.CellsApart", spec := "cellsApart", inPlace := ["sync/atomic.AddInt64", "sync/atomic.LoadInt64"], unfollowed := true, recurses := true, apart := false }
def CellsApartSaid : Prop := cellsApartRow.holds Try.pinned (OpenSpec.ofChange cellsApartSpec)

/-- ITS FALSE NEIGHBOUR: 'it returns false'. Refute it at one input. -/
def cellsApartWrong : ChangeSpec := { name := "cellsApart", fn := fun _ => fun
  | [d1, d2, d3] => { results := [.lit (.bool false)], args := [d1, d2, d3] }
  | _ => none }
def CellsApartWrongFalsely : Prop := cellsApartRow.holds Try.pinned (OpenSpec.ofChange cellsApartWrong)

/-- 'ballastlaw01.CellsPuts': WHATEVER THE INPUT: true; the input reads as it did. -/
def cellsPutsSpec : ChangeSpec := { name := "cellsPuts", fn := fun _ => fun
  | [d1, d2, d3] => { results := [.lit (.bool true)], args := [d1, d2, d3] }
  | _ => none }
def cellsPutsRow : OpenClaim := { program := "ytnknamdhobieiaa", sum := "46b320719851461b93c7a9c8f4607427f52ce09da48c28cf618eb457156bb0be", func := "ballast/ballastlaw01.CellsPuts", spec := "cellsPuts", inPlace := ["sync/atomic.AddInt64", "sync/atomic.LoadInt64"], unfollowed := true, recurses := true, apart := false }
def CellsPutsSaid : Prop := cellsPutsRow.holds Try.pinned (OpenSpec.ofChange cellsPutsSpec)

/-- ITS FALSE NEIGHBOUR: 'it returns false'. Refute it at one input. -/
def cellsPutsWrong : ChangeSpec := { name := "cellsPuts", fn := fun _ => fun
  | [d1, d2, d3] => { results := [.lit (.bool false)], args := [d1, d2, d3] }
  | _ => none }
def CellsPutsWrongFalsely : Prop := cellsPutsRow.holds Try.pinned (OpenSpec.ofChange cellsPutsWrong)

/- THE SECOND FORM. 'bulk': how many values and letters a reading holds, each counted each time it is reached (what is shared counts as often as it is met; a slice's spare places count too). A statement '..UptoSaid' is the law's where the arguments, and the package variables that the reading takes, are together of bulk at most 1048576: NARROWER than '..Said'. Prove '..Said' where nothing that the law and all that it calls make is longer than what came in: it says more and counts as full. Else prove '..UptoSaid'. A law counts once. -/
mutual
def uptoBulk {H : Type} : DataW H → Nat
  | .lit (.string bytes) => bytes.length + 1
  | .lit _ => 1
  | .nil => 1
  | .ptr d => uptoBulk d + 1
  | .slice elems spare => uptoBulkAll elems + uptoBulkAll spare + 1
  | .agg parts => uptoBulkAll parts + 1
  | .iface _ d => uptoBulk d + 1
  | .map entries => uptoBulkEntries entries + 1
  | .held _ => 1
def uptoBulkAll {H : Type} : List (DataW H) → Nat
  | [] => 0
  | d :: r => uptoBulk d + uptoBulkAll r
def uptoBulkEntries {H : Type} : List (Lit × DataW H) → Nat
  | [] => 0
  | x :: r => uptoBulkEntry x + uptoBulkEntries r
def uptoBulkEntry {H : Type} : Lit × DataW H → Nat
  | (.string bytes, d) => bytes.length + uptoBulk d + 1
  | (_, d) => uptoBulk d + 1
 end
def uptoSmall : (H : Type) → List (DataW H) → Bool := fun _ ds => decide (uptoBulkAll ds ≤ 1048576)
def OpenSpec.upto (s : _root_.Go.ChangeSpec) : _root_.Go.OpenSpec := { _root_.Go.OpenSpec.ofChange s with cond := some uptoSmall }

/-- 'ballastlaw01.CellsPlays', WHERE WHAT IT READS IS OF BULK AT MOST 1048576: true; the input reads as it did. -/
def cellsPlaysUptoRow : OpenClaim := { program := "ytnknamdhobieiaa", sum := "46b320719851461b93c7a9c8f4607427f52ce09da48c28cf618eb457156bb0be", func := "ballast/ballastlaw01.CellsPlays", spec := "cellsPlays", inPlace := ["sync/atomic.AddInt64", "sync/atomic.LoadInt64"], unfollowed := true, recurses := true, apart := false, narrowed := true }
def CellsPlaysUptoSaid : Prop := cellsPlaysUptoRow.holds Try.pinned (OpenSpec.upto cellsPlaysSpec)

/-- 'ballastlaw01.CellsOne', WHERE WHAT IT READS IS OF BULK AT MOST 1048576: true; the input reads as it did. -/
def cellsOneUptoRow : OpenClaim := { program := "ytnknamdhobieiaa", sum := "46b320719851461b93c7a9c8f4607427f52ce09da48c28cf618eb457156bb0be", func := "ballast/ballastlaw01.CellsOne", spec := "cellsOne", inPlace := ["sync/atomic.AddInt64", "sync/atomic.LoadInt64"], unfollowed := true, recurses := true, apart := false, narrowed := true }
def CellsOneUptoSaid : Prop := cellsOneUptoRow.holds Try.pinned (OpenSpec.upto cellsOneSpec)

/-- 'ballastlaw01.CellsSums', WHERE WHAT IT READS IS OF BULK AT MOST 1048576: true; the input reads as it did. -/
def cellsSumsUptoRow : OpenClaim := { program := "ytnknamdhobieiaa", sum := "46b320719851461b93c7a9c8f4607427f52ce09da48c28cf618eb457156bb0be", func := "ballast/ballastlaw01.CellsSums", spec := "cellsSums", inPlace := ["sync/atomic.AddInt64", "sync/atomic.LoadInt64"], unfollowed := true, recurses := true, apart := false, narrowed := true }
def CellsSumsUptoSaid : Prop := cellsSumsUptoRow.holds Try.pinned (OpenSpec.upto cellsSumsSpec)

/-- 'ballastlaw01.CellsNil', WHERE WHAT IT READS IS OF BULK AT MOST 1048576: true; the input reads as it did. -/
def cellsNilUptoRow : OpenClaim := { program := "ytnknamdhobieiaa", sum := "46b320719851461b93c7a9c8f4607427f52ce09da48c28cf618eb457156bb0be", func := "ballast/ballastlaw01.CellsNil", spec := "cellsNil", inPlace := ["sync/atomic.AddInt64", "sync/atomic.LoadInt64"], unfollowed := true, recurses := true, apart := false, narrowed := true }
def CellsNilUptoSaid : Prop := cellsNilUptoRow.holds Try.pinned (OpenSpec.upto cellsNilSpec)

/-- 'ballastlaw01.CellsApart', WHERE WHAT IT READS IS OF BULK AT MOST 1048576: true; the input reads as it did. -/
def cellsApartUptoRow : OpenClaim := { program := "ytnknamdhobieiaa", sum := "46b320719851461b93c7a9c8f4607427f52ce09da48c28cf618eb457156bb0be", func := "ballast/ballastlaw01.CellsApart", spec := "cellsApart", inPlace := ["sync/atomic.AddInt64", "sync/atomic.LoadInt64"], unfollowed := true, recurses := true, apart := false, narrowed := true }
def CellsApartUptoSaid : Prop := cellsApartUptoRow.holds Try.pinned (OpenSpec.upto cellsApartSpec)

/-- 'ballastlaw01.CellsPuts', WHERE WHAT IT READS IS OF BULK AT MOST 1048576: true; the input reads as it did. -/
def cellsPutsUptoRow : OpenClaim := { program := "ytnknamdhobieiaa", sum := "46b320719851461b93c7a9c8f4607427f52ce09da48c28cf618eb457156bb0be", func := "ballast/ballastlaw01.CellsPuts", spec := "cellsPuts", inPlace := ["sync/atomic.AddInt64", "sync/atomic.LoadInt64"], unfollowed := true, recurses := true, apart := false, narrowed := true }
def CellsPutsUptoSaid : Prop := cellsPutsUptoRow.holds Try.pinned (OpenSpec.upto cellsPutsSpec)

end Rows
end Go.Proofs.Ytnknamdhobieiaa
