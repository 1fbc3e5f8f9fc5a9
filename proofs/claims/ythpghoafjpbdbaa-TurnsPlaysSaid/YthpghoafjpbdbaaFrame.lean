/- What a law's walk is told of arguments that came in: integers in range, slices of integers that can be read. No program is named here but for the pieces of the frame. -/
import Derived.Test.YthpghoafjpbdbaaRows
import Derived.Test.YthpghoafjpbdbaaH
import Derived.ProofKit
import Derived.OpenShut
import Derived.ShutString
import Derived.ChangeOld
namespace Go.Proofs.Ythpghoafjpbdbaa
open Go.ChangeShapes Go.WideShapes Go.ChangeAt Go.RowKit
open Go.ChangeMaps (open_string shut_string)

theorem own : ownKnob Try.prog.godebug = none := by kernel_rfl
theorem laidOut : laidOutB Try.prog = true := by kernel_rfl

def I64 (n : Int) : Prop := -9223372036854775808 ≤ n ∧ n ≤ 9223372036854775807
theorem i64_of_wf {n : Int} (h : (Lit.int .i64 n).wf = true) : I64 n := by
  have hmin : IntKind.i64.min = -9223372036854775808 := rfl
  have hmax : IntKind.i64.max = 9223372036854775807 := rfl
  simp only [Lit.wf, Bool.and_eq_true, decide_eq_true_eq] at h
  unfold I64; omega

/-- A slice of integers that can be read: its elements are L. -/
structure RdI (k : IntKind) (w : World) (a : Option Addr) (len : Nat) (L : List Int) : Prop where
  hlen : L.length = len
  le : len ≤ maxLen
  rng : k = .i64 → ∀ z ∈ L, I64 z
  at_ : 0 < len → ∃ b off, a = some ⟨b, off, none⟩ ∧ b < w.heap.size ∧ ∀ i, i < len → w.cell? ⟨b, off + i, none⟩ = some (.int k (L.getD i 0))

theorem getD_take (zs : List Int) (i n : Nat) (h : i < n) : (zs.take n).getD i 0 = zs.getD i 0 := by
  simp [h]

theorem rdI_nil (k : IntKind) (w : World) : RdI k w none 0 [] := ⟨rfl, by unfold maxLen; omega, fun _ _ h => by simp at h, fun h => by omega⟩

theorem rdI_row {k : IntKind} {w : World} {x : Addr} {len cap : Nat} {zs : List Int} (hl : len ≤ cap) (hm : cap ≤ maxLen) (hz : zs.length = cap)
    (hcell : ∀ i, i < zs.length → w.cell? (x.add i) = some (.int k (zs.getD i 0))) (hwz : ∀ n ∈ zs, (Lit.int k n).wf = true) : RdI k w (some x) len (zs.take len) := by
  refine ⟨by simp; omega, by omega, ?_, fun h0 => ?_⟩
  · rintro rfl z hz; exact i64_of_wf (hwz z (List.mem_of_mem_take hz))
  · obtain ⟨b, off, spot⟩ := x
    have h := hcell 0 (by omega)
    have hsp : spot = none := by simpa [Addr.add] using World.cell?_spot h
    subst hsp
    refine ⟨b, off, rfl, ?_, fun i hi => ?_⟩
    · rw [Addr.add_lit] at h; exact World.block_lt_of_cell? w _ h
    · rw [getD_take _ _ _ hi, ← Addr.add_lit]; exact hcell i (by omega)

theorem RdI.below {k : IntKind} {w w' : World} {a : Option Addr} {len : Nat} {L : List Int} (h : RdI k w a len L) (hb : Below w.heap.size w w') : RdI k w' a len L :=
  ⟨h.hlen, h.le, h.rng, fun h0 => by
    obtain ⟨b, off, e, hlt, hc⟩ := h.at_ h0
    exact ⟨b, off, e, Nat.lt_of_lt_of_le hlt hb.size, fun i hi => (hb.cell (p := ⟨b, off + i, none⟩) hlt).trans (hc i hi)⟩⟩
end Go.Proofs.Ythpghoafjpbdbaa
