/-
  No cell of these rows narrows 'for every input' (looked for: loops, veiled, ifaces, maps, wideKeys, modest, calm, conditions, laid).
  DERIVED. THE GIVEN ROWS OF THIS SEAT. 6 by the template 'for every input the law returns true; each argument reads behind the call as it read before'; 0 by the template 'total and deterministic' (their statements: YthpghoafjpbdbaaTotals.lean).
  GIVEN WITH THE SEED: the statements are not yours to turn. If you find one false, say at which input.
  Laid BY PROGRAM, IN A SANDBOX (cutbox-rows.mjs): the forced cells as the released guide's own fill.sh prints them over the translation 2a50a59802cfeed6… (all of the seat's roots in one cut). By AI agents, Wed Nov 11 2026. No macro, syntax, notation, axiom, sorry.
-/
import Derived.Test.YthpghoafjpbdbaaChecked
import GoSem.Claim
import GoSem.ClaimJoined
import GoSem.ClaimMapViews
import Derived.JoinedTies
import Derived.KernelRfl
namespace Go.Proofs.Ythpghoafjpbdbaa
/- THE CELL 'sum', in the pinned program and in every row, IS THE sha256 OF THE DUMP (.gsa) THAT YthpghoafjpbdbaaProg.lean LOADS. Nothing in Lean hashes anything: it is a label: what it is worth is what the hold of that sum in a sandbox is worth. -/
noncomputable def Try.pinned : Pinned := { name := "ythpghoafjpbdbaa", sum := "2a50a59802cfeed64039671dbe527a08e48b6df68fdfd66804e7a216965807e6", checked := Try.checked }
namespace Rows
def none {H : Type} : Left H := { results := [], args := [] }

/-- 'ballastlaw02.TurnsAdds': WHATEVER THE INPUT: true; the input reads as it did. -/
def turnsAddsSpec : ChangeSpec := { name := "turnsAdds", fn := fun _ => fun
  | [d] => { results := [.lit (.bool true)], args := [d] }
  | _ => none }
def turnsAddsRow : OpenClaim := { program := "ythpghoafjpbdbaa", sum := "2a50a59802cfeed64039671dbe527a08e48b6df68fdfd66804e7a216965807e6", func := "ballast/ballastlaw02.TurnsAdds", spec := "turnsAdds", unfollowed := true, recurses := true, apart := false }
def TurnsAddsSaid : Prop := turnsAddsRow.holds Try.pinned (OpenSpec.ofChange turnsAddsSpec)

/-- ITS FALSE NEIGHBOUR: 'it returns false'. Refute it at one input. -/
def turnsAddsWrong : ChangeSpec := { name := "turnsAdds", fn := fun _ => fun
  | [d] => { results := [.lit (.bool false)], args := [d] }
  | _ => none }
def TurnsAddsWrongFalsely : Prop := turnsAddsRow.holds Try.pinned (OpenSpec.ofChange turnsAddsWrong)

/-- 'ballastlaw02.TurnsWaits': WHATEVER THE INPUT: true; the input reads as it did. -/
def turnsWaitsSpec : ChangeSpec := { name := "turnsWaits", fn := fun _ => fun
  | [d1, d2, d3] => { results := [.lit (.bool true)], args := [d1, d2, d3] }
  | _ => none }
def turnsWaitsRow : OpenClaim := { program := "ythpghoafjpbdbaa", sum := "2a50a59802cfeed64039671dbe527a08e48b6df68fdfd66804e7a216965807e6", func := "ballast/ballastlaw02.TurnsWaits", spec := "turnsWaits", unfollowed := true, recurses := true, apart := false }
def TurnsWaitsSaid : Prop := turnsWaitsRow.holds Try.pinned (OpenSpec.ofChange turnsWaitsSpec)

/-- ITS FALSE NEIGHBOUR: 'it returns false'. Refute it at one input. -/
def turnsWaitsWrong : ChangeSpec := { name := "turnsWaits", fn := fun _ => fun
  | [d1, d2, d3] => { results := [.lit (.bool false)], args := [d1, d2, d3] }
  | _ => none }
def TurnsWaitsWrongFalsely : Prop := turnsWaitsRow.holds Try.pinned (OpenSpec.ofChange turnsWaitsWrong)

/-- 'ballastlaw02.TurnsEven': WHATEVER THE INPUT: true; the input reads as it did. -/
def turnsEvenSpec : ChangeSpec := { name := "turnsEven", fn := fun _ => fun
  | [d1, d2] => { results := [.lit (.bool true)], args := [d1, d2] }
  | _ => none }
def turnsEvenRow : OpenClaim := { program := "ythpghoafjpbdbaa", sum := "2a50a59802cfeed64039671dbe527a08e48b6df68fdfd66804e7a216965807e6", func := "ballast/ballastlaw02.TurnsEven", spec := "turnsEven", unfollowed := true, recurses := true, apart := false }
def TurnsEvenSaid : Prop := turnsEvenRow.holds Try.pinned (OpenSpec.ofChange turnsEvenSpec)

/-- ITS FALSE NEIGHBOUR: 'it returns false'. Refute it at one input. -/
def turnsEvenWrong : ChangeSpec := { name := "turnsEven", fn := fun _ => fun
  | [d1, d2] => { results := [.lit (.bool false)], args := [d1, d2] }
  | _ => none }
def TurnsEvenWrongFalsely : Prop := turnsEvenRow.holds Try.pinned (OpenSpec.ofChange turnsEvenWrong)

/-- 'ballastlaw02.TurnsPlays': WHATEVER THE INPUT: true; the input reads as it did. -/
def turnsPlaysSpec : ChangeSpec := { name := "turnsPlays", fn := fun _ => fun
  | [d] => { results := [.lit (.bool true)], args := [d] }
  | _ => none }
def turnsPlaysRow : OpenClaim := { program := "ythpghoafjpbdbaa", sum := "2a50a59802cfeed64039671dbe527a08e48b6df68fdfd66804e7a216965807e6", func := "ballast/ballastlaw02.TurnsPlays", spec := "turnsPlays", unfollowed := true, recurses := true, apart := false }
def TurnsPlaysSaid : Prop := turnsPlaysRow.holds Try.pinned (OpenSpec.ofChange turnsPlaysSpec)

/-- ITS FALSE NEIGHBOUR: 'it returns false'. Refute it at one input. -/
def turnsPlaysWrong : ChangeSpec := { name := "turnsPlays", fn := fun _ => fun
  | [d] => { results := [.lit (.bool false)], args := [d] }
  | _ => none }
def TurnsPlaysWrongFalsely : Prop := turnsPlaysRow.holds Try.pinned (OpenSpec.ofChange turnsPlaysWrong)

/-- 'ballastlaw02.TurnsFair': WHATEVER THE INPUT: true; the input reads as it did. -/
def turnsFairSpec : ChangeSpec := { name := "turnsFair", fn := fun _ => fun
  | [d] => { results := [.lit (.bool true)], args := [d] }
  | _ => none }
def turnsFairRow : OpenClaim := { program := "ythpghoafjpbdbaa", sum := "2a50a59802cfeed64039671dbe527a08e48b6df68fdfd66804e7a216965807e6", func := "ballast/ballastlaw02.TurnsFair", spec := "turnsFair", unfollowed := true, recurses := true, apart := false }
def TurnsFairSaid : Prop := turnsFairRow.holds Try.pinned (OpenSpec.ofChange turnsFairSpec)

/-- ITS FALSE NEIGHBOUR: 'it returns false'. Refute it at one input. -/
def turnsFairWrong : ChangeSpec := { name := "turnsFair", fn := fun _ => fun
  | [d] => { results := [.lit (.bool false)], args := [d] }
  | _ => none }
def TurnsFairWrongFalsely : Prop := turnsFairRow.holds Try.pinned (OpenSpec.ofChange turnsFairWrong)

/-- 'ballastlaw02.TurnsNil': WHATEVER THE INPUT: true; the input reads as it did. -/
def turnsNilSpec : ChangeSpec := { name := "turnsNil", fn := fun _ => fun
  | [d] => { results := [.lit (.bool true)], args := [d] }
  | _ => none }
def turnsNilRow : OpenClaim := { program := "ythpghoafjpbdbaa", sum := "2a50a59802cfeed64039671dbe527a08e48b6df68fdfd66804e7a216965807e6", func := "ballast/ballastlaw02.TurnsNil", spec := "turnsNil", unfollowed := true, recurses := true, apart := false }
def TurnsNilSaid : Prop := turnsNilRow.holds Try.pinned (OpenSpec.ofChange turnsNilSpec)

/-- ITS FALSE NEIGHBOUR: 'it returns false'. Refute it at one input. -/
def turnsNilWrong : ChangeSpec := { name := "turnsNil", fn := fun _ => fun
  | [d] => { results := [.lit (.bool false)], args := [d] }
  | _ => none }
def TurnsNilWrongFalsely : Prop := turnsNilRow.holds Try.pinned (OpenSpec.ofChange turnsNilWrong)

/- THE SECOND FORM. 'bulk': how many values and letters a reading holds, each counted each time it is reached (what is shared counts as often as it is met; a slice's spare places count too). A statement '..UptoSaid' is the law's where the arguments, and the package variables that the reading takes, are together of bulk at most 1048576: NARROWER than '..Said'. Prove '..Said' where nothing that the law and all that it calls make is longer than what came in: it says more and counts as full. Else prove '..UptoSaid'. A law counts once. -/
mutual
def uptoBulk {H : Type} : DataW H → Nat
  | .lit (.string bytes) => bytes.length + 1
  | .lit _ => 1
  | .nil => 1
  | .ptr d => uptoBulk d + 1
  | .slice elems spare => uptoBulkAll elems + uptoBulkAll spare + 1
  | .agg parts => uptoBulkAll parts + 1
  | .iface _ d => uptoBulk d + 1
  | .map entries => uptoBulkEntries entries + 1
  | .held _ => 1
def uptoBulkAll {H : Type} : List (DataW H) → Nat
  | [] => 0
  | d :: r => uptoBulk d + uptoBulkAll r
def uptoBulkEntries {H : Type} : List (Lit × DataW H) → Nat
  | [] => 0
  | x :: r => uptoBulkEntry x + uptoBulkEntries r
def uptoBulkEntry {H : Type} : Lit × DataW H → Nat
  | (.string bytes, d) => bytes.length + uptoBulk d + 1
  | (_, d) => uptoBulk d + 1
 end
def uptoSmall : (H : Type) → List (DataW H) → Bool := fun _ ds => decide (uptoBulkAll ds ≤ 1048576)
def OpenSpec.upto (s : _root_.Go.ChangeSpec) : _root_.Go.OpenSpec := { _root_.Go.OpenSpec.ofChange s with cond := some uptoSmall }

/-- 'ballastlaw02.TurnsAdds', WHERE WHAT IT READS IS OF BULK AT MOST 1048576: true; the input reads as it did. -/
def turnsAddsUptoRow : OpenClaim := { program := "ythpghoafjpbdbaa", sum := "2a50a59802cfeed64039671dbe527a08e48b6df68fdfd66804e7a216965807e6", func := "ballast/ballastlaw02.TurnsAdds", spec := "turnsAdds", unfollowed := true, recurses := true, apart := false, narrowed := true }
def TurnsAddsUptoSaid : Prop := turnsAddsUptoRow.holds Try.pinned (OpenSpec.upto turnsAddsSpec)

/-- 'ballastlaw02.TurnsWaits', WHERE WHAT IT READS IS OF BULK AT MOST 1048576: true; the input reads as it did. -/
def turnsWaitsUptoRow : OpenClaim := { program := "ythpghoafjpbdbaa", sum := "2a50a59802cfeed64039671dbe527a08e48b6df68fdfd66804e7a216965807e6", func := "ballast/ballastlaw02.TurnsWaits", spec := "turnsWaits", unfollowed := true, recurses := true, apart := false, narrowed := true }
def TurnsWaitsUptoSaid : Prop := turnsWaitsUptoRow.holds Try.pinned (OpenSpec.upto turnsWaitsSpec)

/-- 'ballastlaw02.TurnsEven', WHERE WHAT IT READS IS OF BULK AT MOST 1048576: true; the input reads as it did. -/
def turnsEvenUptoRow : OpenClaim := { program := "ythpghoafjpbdbaa", sum := "2a50a59802cfeed64039671dbe527a08e48b6df68fdfd66804e7a216965807e6", func := "ballast/ballastlaw02.TurnsEven", spec := "turnsEven", unfollowed := true, recurses := true, apart := false, narrowed := true }
def TurnsEvenUptoSaid : Prop := turnsEvenUptoRow.holds Try.pinned (OpenSpec.upto turnsEvenSpec)

/-- 'ballastlaw02.TurnsPlays', WHERE WHAT IT READS IS OF BULK AT MOST 1048576: true; the input reads as it did. -/
def turnsPlaysUptoRow : OpenClaim := { program := "ythpghoafjpbdbaa", sum := "2a50a59802cfeed64039671dbe527a08e48b6df68fdfd66804e7a216965807e6", func := "ballast/ballastlaw02.TurnsPlays", spec := "turnsPlays", unfollowed := true, recurses := true, apart := false, narrowed := true }
def TurnsPlaysUptoSaid : Prop := turnsPlaysUptoRow.holds Try.pinned (OpenSpec.upto turnsPlaysSpec)

/-- 'ballastlaw02.TurnsFair', WHERE WHAT IT READS IS OF BULK AT MOST 1048576: true; the input reads as it did. -/
def turnsFairUptoRow : OpenClaim := { program := "ythpghoafjpbdbaa", sum := "2a50a59802cfeed64039671dbe527a08e48b6df68fdfd66804e7a216965807e6", func := "ballast/ballastlaw02.TurnsFair", spec := "turnsFair", unfollowed := true, recurses := true, apart := false, narrowed := true }
def TurnsFairUptoSaid : Prop := turnsFairUptoRow.holds Try.pinned (OpenSpec.upto turnsFairSpec)

/-- 'ballastlaw02.TurnsNil', WHERE WHAT IT READS IS OF BULK AT MOST 1048576: true; the input reads as it did. -/
def turnsNilUptoRow : OpenClaim := { program := "ythpghoafjpbdbaa", sum := "2a50a59802cfeed64039671dbe527a08e48b6df68fdfd66804e7a216965807e6", func := "ballast/ballastlaw02.TurnsNil", spec := "turnsNil", unfollowed := true, recurses := true, apart := false, narrowed := true }
def TurnsNilUptoSaid : Prop := turnsNilUptoRow.holds Try.pinned (OpenSpec.upto turnsNilSpec)

end Rows
end Go.Proofs.Ythpghoafjpbdbaa
