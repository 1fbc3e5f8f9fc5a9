/- Heap words, second text. -/
import Derived.Test.YthpghoafjpbdbaaH
namespace Go.HK
open Go Go.RowKit
section
variable {S : Nat → Prop} {w w' w'' : World}
theorem Fr.cell2 (h : Fr S w w') {a : Addr} {v : Value} (hc : w.cell? a = some v) (hn : ¬ S a.block) : w'.cell? a = some v :=
  (World.cell?_of_block (h.block a.block (World.block_lt_of_cell? w a hc) hn)).trans hc
/-- a row that is owned stays so while blocks of S turn, its own not among them -/
theorem Fr.owns2 (h : Fr S w w') {base : Nat} {e : TypeId} {size : Nat} {v : Value} {n : Nat} {xs : List Value} (ho : w.ownsRow base e size v n xs) (hn : ∀ g, v.ownBlock = some g → ¬ S g) : w'.ownsRow base e size v n xs := by
  have hlt := ho.lt
  obtain ⟨h1, h2 | ⟨g, cap, cur, hv, hb, hc, r⟩⟩ := ho
  · exact ⟨h1, .inl h2⟩
  · subst hv
    refine ⟨h1, .inr ⟨g, cap, cur, rfl, hb, ?_, r⟩⟩
    rw [h.block g (hlt g rfl).2 (hn g rfl)]; exact hc
end
end Go.HK
