/-
  No cell of these rows narrows 'for every input' (looked for: loops, veiled, ifaces, maps, wideKeys, modest, calm, conditions, laid).
  DERIVED. THE GIVEN ROWS OF THIS SEAT. 6 by the template 'for every input the law returns true; each argument reads behind the call as it read before'; 0 by the template 'total and deterministic' (their statements: YteappcepppicoaaTotals.lean).
  GIVEN WITH THE SEED: the statements are not yours to turn. If you find one false, say at which input.
  Laid BY PROGRAM, IN A SANDBOX (cutbox-rows.mjs): the forced cells as the released guide's own fill.sh prints them over the translation fb02107828a7bd62… (all of the seat's roots in one cut). By AI agents, Wed Nov 11 2026. No macro, syntax, notation, axiom, sorry.
-/
import Derived.Test.YteappcepppicoaaChecked
import GoSem.Claim
import GoSem.ClaimJoined
import GoSem.ClaimMapViews
import Derived.JoinedTies
import Derived.KernelRfl
namespace Go.Proofs.Yteappcepppicoaa
/- THE CELL 'sum', in the pinned program and in every row, IS THE sha256 OF THE DUMP (.gsa) THAT YteappcepppicoaaProg.lean LOADS. Nothing in Lean hashes anything: it is a label: what it is worth is what the hold of that sum in a sandbox is worth. -/
noncomputable def Try.pinned : Pinned := { name := "yteappcepppicoaa", sum := "fb02107828a7bd62d67b696b6044e68035edbef5114d766f15263c21412df391", checked := Try.checked }
namespace Rows
def none {H : Type} : Left H := { results := [], args := [] }

/-- 'ballastlaw03.ClassesHeaders': WHATEVER THE INPUT: true; the input reads as it did. -/
def classesHeadersSpec : ChangeSpec := { name := "classesHeaders", fn := fun _ => fun
  | [d1, d2, d3] => { results := [.lit (.bool true)], args := [d1, d2, d3] }
  | _ => none }
def classesHeadersRow : OpenClaim := { program := "yteappcepppicoaa", sum := "fb02107828a7bd62d67b696b6044e68035edbef5114d766f15263c21412df391", func := "ballast/ballastlaw03.ClassesHeaders", spec := "classesHeaders", unfollowed := true, recurses := true, apart := false }
def ClassesHeadersSaid : Prop := classesHeadersRow.holds Try.pinned (OpenSpec.ofChange classesHeadersSpec)

/-- ITS FALSE NEIGHBOUR: 'it returns false'. Refute it at one input. -/
def classesHeadersWrong : ChangeSpec := { name := "classesHeaders", fn := fun _ => fun
  | [d1, d2, d3] => { results := [.lit (.bool false)], args := [d1, d2, d3] }
  | _ => none }
def ClassesHeadersWrongFalsely : Prop := classesHeadersRow.holds Try.pinned (OpenSpec.ofChange classesHeadersWrong)

/-- 'ballastlaw03.ClassesRefs': WHATEVER THE INPUT: true; the input reads as it did. -/
def classesRefsSpec : ChangeSpec := { name := "classesRefs", fn := fun _ => fun
  | [d1, d2, d3] => { results := [.lit (.bool true)], args := [d1, d2, d3] }
  | _ => none }
def classesRefsRow : OpenClaim := { program := "yteappcepppicoaa", sum := "fb02107828a7bd62d67b696b6044e68035edbef5114d766f15263c21412df391", func := "ballast/ballastlaw03.ClassesRefs", spec := "classesRefs", unfollowed := true, recurses := true, apart := false }
def ClassesRefsSaid : Prop := classesRefsRow.holds Try.pinned (OpenSpec.ofChange classesRefsSpec)

/-- ITS FALSE NEIGHBOUR: 'it returns false'. Refute it at one input. -/
def classesRefsWrong : ChangeSpec := { name := "classesRefs", fn := fun _ => fun
  | [d1, d2, d3] => { results := [.lit (.bool false)], args := [d1, d2, d3] }
  | _ => none }
def ClassesRefsWrongFalsely : Prop := classesRefsRow.holds Try.pinned (OpenSpec.ofChange classesRefsWrong)

/-- 'ballastlaw03.ClassesEach': WHATEVER THE INPUT: true; the input reads as it did. -/
def classesEachSpec : ChangeSpec := { name := "classesEach", fn := fun _ => fun
  | [d] => { results := [.lit (.bool true)], args := [d] }
  | _ => none }
def classesEachRow : OpenClaim := { program := "yteappcepppicoaa", sum := "fb02107828a7bd62d67b696b6044e68035edbef5114d766f15263c21412df391", func := "ballast/ballastlaw03.ClassesEach", spec := "classesEach", unfollowed := true, recurses := true, apart := false }
def ClassesEachSaid : Prop := classesEachRow.holds Try.pinned (OpenSpec.ofChange classesEachSpec)

/-- ITS FALSE NEIGHBOUR: 'it returns false'. Refute it at one input. -/
def classesEachWrong : ChangeSpec := { name := "classesEach", fn := fun _ => fun
  | [d] => { results := [.lit (.bool false)], args := [d] }
  | _ => none }
def ClassesEachWrongFalsely : Prop := classesEachRow.holds Try.pinned (OpenSpec.ofChange classesEachWrong)

/-- 'ballastlaw03.ClassesGrow': WHATEVER THE INPUT: true; the input reads as it did. -/
def classesGrowSpec : ChangeSpec := { name := "classesGrow", fn := fun _ => fun
  | [d1, d2, d3] => { results := [.lit (.bool true)], args := [d1, d2, d3] }
  | _ => none }
def classesGrowRow : OpenClaim := { program := "yteappcepppicoaa", sum := "fb02107828a7bd62d67b696b6044e68035edbef5114d766f15263c21412df391", func := "ballast/ballastlaw03.ClassesGrow", spec := "classesGrow", unfollowed := true, recurses := true, apart := false }
def ClassesGrowSaid : Prop := classesGrowRow.holds Try.pinned (OpenSpec.ofChange classesGrowSpec)

/-- ITS FALSE NEIGHBOUR: 'it returns false'. Refute it at one input. -/
def classesGrowWrong : ChangeSpec := { name := "classesGrow", fn := fun _ => fun
  | [d1, d2, d3] => { results := [.lit (.bool false)], args := [d1, d2, d3] }
  | _ => none }
def ClassesGrowWrongFalsely : Prop := classesGrowRow.holds Try.pinned (OpenSpec.ofChange classesGrowWrong)

/-- 'ballastlaw03.ClassesSizes': WHATEVER THE INPUT: true; the input reads as it did. -/
def classesSizesSpec : ChangeSpec := { name := "classesSizes", fn := fun _ => fun
  | [d1, d2, d3] => { results := [.lit (.bool true)], args := [d1, d2, d3] }
  | _ => none }
def classesSizesRow : OpenClaim := { program := "yteappcepppicoaa", sum := "fb02107828a7bd62d67b696b6044e68035edbef5114d766f15263c21412df391", func := "ballast/ballastlaw03.ClassesSizes", spec := "classesSizes", unfollowed := true, recurses := true, apart := false }
def ClassesSizesSaid : Prop := classesSizesRow.holds Try.pinned (OpenSpec.ofChange classesSizesSpec)

/-- ITS FALSE NEIGHBOUR: 'it returns false'. Refute it at one input. -/
def classesSizesWrong : ChangeSpec := { name := "classesSizes", fn := fun _ => fun
  | [d1, d2, d3] => { results := [.lit (.bool false)], args := [d1, d2, d3] }
  | _ => none }
def ClassesSizesWrongFalsely : Prop := classesSizesRow.holds Try.pinned (OpenSpec.ofChange classesSizesWrong)

/-- 'ballastlaw03.ClassesSums': WHATEVER THE INPUT: true; the input reads as it did. -/
def classesSumsSpec : ChangeSpec := { name := "classesSums", fn := fun _ => fun
  | [d] => { results := [.lit (.bool true)], args := [d] }
  | _ => none }
def classesSumsRow : OpenClaim := { program := "yteappcepppicoaa", sum := "fb02107828a7bd62d67b696b6044e68035edbef5114d766f15263c21412df391", func := "ballast/ballastlaw03.ClassesSums", spec := "classesSums", unfollowed := true, recurses := true, apart := false }
def ClassesSumsSaid : Prop := classesSumsRow.holds Try.pinned (OpenSpec.ofChange classesSumsSpec)

/-- ITS FALSE NEIGHBOUR: 'it returns false'. Refute it at one input. -/
def classesSumsWrong : ChangeSpec := { name := "classesSums", fn := fun _ => fun
  | [d] => { results := [.lit (.bool false)], args := [d] }
  | _ => none }
def ClassesSumsWrongFalsely : Prop := classesSumsRow.holds Try.pinned (OpenSpec.ofChange classesSumsWrong)

/- THE SECOND FORM. 'bulk': how many values and letters a reading holds, each counted each time it is reached (what is shared counts as often as it is met; a slice's spare places count too). A statement '..UptoSaid' is the law's where the arguments, and the package variables that the reading takes, are together of bulk at most 1048576: NARROWER than '..Said'. Prove '..Said' where nothing that the law and all that it calls make is longer than what came in: it says more and counts as full. Else prove '..UptoSaid'. A law counts once. -/
mutual
def uptoBulk {H : Type} : DataW H → Nat
  | .lit (.string bytes) => bytes.length + 1
  | .lit _ => 1
  | .nil => 1
  | .ptr d => uptoBulk d + 1
  | .slice elems spare => uptoBulkAll elems + uptoBulkAll spare + 1
  | .agg parts => uptoBulkAll parts + 1
  | .iface _ d => uptoBulk d + 1
  | .map entries => uptoBulkEntries entries + 1
  | .held _ => 1
def uptoBulkAll {H : Type} : List (DataW H) → Nat
  | [] => 0
  | d :: r => uptoBulk d + uptoBulkAll r
def uptoBulkEntries {H : Type} : List (Lit × DataW H) → Nat
  | [] => 0
  | x :: r => uptoBulkEntry x + uptoBulkEntries r
def uptoBulkEntry {H : Type} : Lit × DataW H → Nat
  | (.string bytes, d) => bytes.length + uptoBulk d + 1
  | (_, d) => uptoBulk d + 1
 end
def uptoSmall : (H : Type) → List (DataW H) → Bool := fun _ ds => decide (uptoBulkAll ds ≤ 1048576)
def OpenSpec.upto (s : _root_.Go.ChangeSpec) : _root_.Go.OpenSpec := { _root_.Go.OpenSpec.ofChange s with cond := some uptoSmall }

/-- 'ballastlaw03.ClassesHeaders', WHERE WHAT IT READS IS OF BULK AT MOST 1048576: true; the input reads as it did. -/
def classesHeadersUptoRow : OpenClaim := { program := "yteappcepppicoaa", sum := "fb02107828a7bd62d67b696b6044e68035edbef5114d766f15263c21412df391", func := "ballast/ballastlaw03.ClassesHeaders", spec := "classesHeaders", unfollowed := true, recurses := true, apart := false, narrowed := true }
def ClassesHeadersUptoSaid : Prop := classesHeadersUptoRow.holds Try.pinned (OpenSpec.upto classesHeadersSpec)

/-- 'ballastlaw03.ClassesRefs', WHERE WHAT IT READS IS OF BULK AT MOST 1048576: true; the input reads as it did. -/
def classesRefsUptoRow : OpenClaim := { program := "yteappcepppicoaa", sum := "fb02107828a7bd62d67b696b6044e68035edbef5114d766f15263c21412df391", func := "ballast/ballastlaw03.ClassesRefs", spec := "classesRefs", unfollowed := true, recurses := true, apart := false, narrowed := true }
def ClassesRefsUptoSaid : Prop := classesRefsUptoRow.holds Try.pinned (OpenSpec.upto classesRefsSpec)

/-- 'ballastlaw03.ClassesEach', WHERE WHAT IT READS IS OF BULK AT MOST 1048576: true; the input reads as it did. -/
def classesEachUptoRow : OpenClaim := { program := "yteappcepppicoaa", sum := "fb02107828a7bd62d67b696b6044e68035edbef5114d766f15263c21412df391", func := "ballast/ballastlaw03.ClassesEach", spec := "classesEach", unfollowed := true, recurses := true, apart := false, narrowed := true }
def ClassesEachUptoSaid : Prop := classesEachUptoRow.holds Try.pinned (OpenSpec.upto classesEachSpec)

/-- 'ballastlaw03.ClassesGrow', WHERE WHAT IT READS IS OF BULK AT MOST 1048576: true; the input reads as it did. -/
def classesGrowUptoRow : OpenClaim := { program := "yteappcepppicoaa", sum := "fb02107828a7bd62d67b696b6044e68035edbef5114d766f15263c21412df391", func := "ballast/ballastlaw03.ClassesGrow", spec := "classesGrow", unfollowed := true, recurses := true, apart := false, narrowed := true }
def ClassesGrowUptoSaid : Prop := classesGrowUptoRow.holds Try.pinned (OpenSpec.upto classesGrowSpec)

/-- 'ballastlaw03.ClassesSizes', WHERE WHAT IT READS IS OF BULK AT MOST 1048576: true; the input reads as it did. -/
def classesSizesUptoRow : OpenClaim := { program := "yteappcepppicoaa", sum := "fb02107828a7bd62d67b696b6044e68035edbef5114d766f15263c21412df391", func := "ballast/ballastlaw03.ClassesSizes", spec := "classesSizes", unfollowed := true, recurses := true, apart := false, narrowed := true }
def ClassesSizesUptoSaid : Prop := classesSizesUptoRow.holds Try.pinned (OpenSpec.upto classesSizesSpec)

/-- 'ballastlaw03.ClassesSums', WHERE WHAT IT READS IS OF BULK AT MOST 1048576: true; the input reads as it did. -/
def classesSumsUptoRow : OpenClaim := { program := "yteappcepppicoaa", sum := "fb02107828a7bd62d67b696b6044e68035edbef5114d766f15263c21412df391", func := "ballast/ballastlaw03.ClassesSums", spec := "classesSums", unfollowed := true, recurses := true, apart := false, narrowed := true }
def ClassesSumsUptoSaid : Prop := classesSumsUptoRow.holds Try.pinned (OpenSpec.upto classesSumsSpec)

end Rows
end Go.Proofs.Yteappcepppicoaa
