/- Readings opened: fields and elements of one cell each. -/
import Derived.Test.YthpghoafjpbdbaaFrame
import Derived.Deep.Slices
namespace Go.Proofs.Ythpghoafjpbdbaa
open Go.ChangeShapes Go.WideShapes Go.ChangeAt Go.RowKit Go.HK

section
variable {H : Type} {enc : TypeId × Value → H} {P : Program} {w : World} {base : Nat} {spare : Nat → Bool} {held : Bool} {t : TypeId} {fuel : Nat} {cs : List Value} {x : DataW H × List MemPlace}

theorem take_one {α : Type} (l : List α) (i : Nat) (h : i < l.length) : (l.drop i).take 1 = [l[i]] := by
  rw [List.drop_eq_getElem_cons h]; rfl

/-- a struct's field of one cell -/
theorem trod_fields {fs : Array Field} (ht : P.underlying t = some (.struct fs)) (h : DataW.trod enc P w base spare held fuel t cs = some x) :
    ∃ n, cs.length = P.cellsOf t ∧ ∀ (i : Nat) (f : Field), fs[i]? = some f → P.cellsOf f.type = 1 → ∀ (hi : f.offset < cs.length), ∃ y, DataW.trod enc P w base spare held n f.type [cs[f.offset]] = some y := by
  obtain ⟨xs, n, _, _, hl, hlen, hf⟩ := DataW.trod_struct ht h
  refine ⟨n, hl, fun i f hif h1 hi => ?_⟩
  have h2 := hf i f hif
  rw [h1, take_one _ _ hi] at h2
  have hlt : i < xs.length := by
    have : i < fs.size := by
      rcases Nat.lt_or_ge i fs.size with h' | h'
      · exact h'
      · simp [Array.getElem?_eq_none h'] at hif
    omega
  exact ⟨xs[i], by rw [h2]; exact List.getElem?_eq_getElem hlt⟩

/-- an array's element of one cell -/
theorem trod_elems {n : Nat} {e : TypeId} (ht : P.underlying t = some (.array n e)) (h1 : P.cellsOf e = 1) (hc : P.cellsOf t = n) (h : DataW.trod enc P w base spare held fuel t cs = some x) :
    ∃ m, cs.length = n ∧ ∀ (i : Nat) (hi : i < cs.length), ∃ y, DataW.trod enc P w base spare held m e [cs[i]] = some y := by
  obtain ⟨xs, m, _, _, hl, hlen, hf⟩ := DataW.trod_array ht h
  refine ⟨m, by omega, fun i hi => ?_⟩
  have h2 := hf i (by omega)
  rw [h1, Nat.mul_one, take_one _ _ hi] at h2
  exact ⟨xs[i]'(by omega), by rw [h2]; exact List.getElem?_eq_getElem (by omega)⟩

theorem list2 {α : Type} {l : List α} (h : l.length = 2) : ∃ a b, l = [a, b] := by
  match l, h with | [a, b], _ => exact ⟨a, b, rfl⟩
theorem list3 {α : Type} {l : List α} (h : l.length = 3) : ∃ a b c, l = [a, b, c] := by
  match l, h with | [a, b, c], _ => exact ⟨a, b, c, rfl⟩
theorem list4 {α : Type} {l : List α} (h : l.length = 4) : ∃ a b c d, l = [a, b, c, d] := by
  match l, h with | [a, b, c, d], _ => exact ⟨a, b, c, d, rfl⟩
theorem list5 {α : Type} {l : List α} (h : l.length = 5) : ∃ a b c d e, l = [a, b, c, d, e] := by
  match l, h with | [a, b, c, d, e], _ => exact ⟨a, b, c, d, e, rfl⟩
theorem list7 {α : Type} {l : List α} (h : l.length = 7) : ∃ a b c d e f g, l = [a, b, c, d, e, f, g] := by
  match l, h with | [a, b, c, d, e, f, g], _ => exact ⟨a, b, c, d, e, f, g, rfl⟩

theorem trod_i64 {c : Value} (ht : P.underlying t = some (.int .i64)) (h : DataW.trod enc P w base spare held fuel t [c] = some x) : ∃ n, c = .int .i64 n ∧ I64 n := by
  obtain ⟨n, e, _, hw⟩ := DataW.trod_int ht h
  simp only [List.cons.injEq, and_true] at e
  exact ⟨n, e, i64_of_wf hw⟩

/-- a slice of ints in one cell -/
theorem trod_ints {e : TypeId} {c : Value} (ht : P.underlying t = some (.slice e)) (he : P.underlying e = some (.int .i64)) (h1 : P.cellsOf e = 1) (h : DataW.trod enc P w base (fun _ => true) held fuel t [c] = some x) :
    ∃ a n cp L, c = .slice a n cp ∧ RdI .i64 w a n L := by
  rcases open_ints ht he h1 h with ⟨hcs, _⟩ | ⟨x, l, c', zs, hcs, _, hl, hm, hz, _, hcell, hwz⟩
  · simp only [List.cons.injEq, and_true] at hcs
    exact ⟨none, 0, 0, [], hcs, rdI_nil _ _⟩
  · simp only [List.cons.injEq, and_true] at hcs
    exact ⟨_, _, _, _, hcs, rdI_row hl hm (by simpa using hz) hcell hwz⟩

/-- a slice in one cell, its elements by place: each has s cells, read by Q -/
structure RdS {α : Type} (s : Nat) (Q : List Value → α → Prop) (w : World) (a : Option Addr) (n : Nat) (S : List α) : Prop where
  hlen : S.length = n
  le : n ≤ maxLen
  at_ : 0 < n → ∃ b off, a = some ⟨b, off, none⟩ ∧ b < w.heap.size ∧ ∀ (i : Nat) (y : α), S[i]? = some y →
    ∃ cs : List Value, cs.length = s ∧ Q cs y ∧ ∀ (j : Nat) u, cs[j]? = some u → w.cell? ⟨b, off + i * s + j, none⟩ = some u

theorem RdS.below {α : Type} {s : Nat} {Q : List Value → α → Prop} {w w' : World} {a : Option Addr} {n : Nat} {S : List α} (h : RdS s Q w a n S) (hb : Below w.heap.size w w') : RdS s Q w' a n S :=
  ⟨h.hlen, h.le, fun h0 => by
    obtain ⟨b, off, e, hlt, hc⟩ := h.at_ h0
    refine ⟨b, off, e, Nat.lt_of_lt_of_le hlt hb.size, fun i y hy => ?_⟩
    obtain ⟨cs, h1, h2, h3⟩ := hc i y hy
    exact ⟨cs, h1, h2, fun j u hu => (hb.cell (p := ⟨b, off + i * s + j, none⟩) hlt).trans (h3 j u hu)⟩⟩

theorem cells_of {a : Addr} {n : Nat} {l : List Value} (h : w.cells? base a n = some l) : l.length = n ∧ ∀ (j : Nat) u, l[j]? = some u → w.cell? (a.add j) = some u := by
  obtain ⟨_, hl, hc⟩ := World.cells?_some h
  refine ⟨hl, fun j u hu => ?_⟩
  have hj : j < l.length := by
    rcases Nat.lt_or_ge j l.length with h' | h'
    · exact h'
    · simp [h'] at hu
  rw [hc j (by omega)]; exact hu

theorem filterMap_all {α : Type} (f : Nat → Option α) (len : Nat) (hf : ∀ i, i < len → ∃ y, f i = some y) :
    ((List.range len).filterMap f).length = len ∧ ∀ i, i < len → ((List.range len).filterMap f)[i]? = f i := by
  induction len with
  | zero => exact ⟨rfl, fun i hi => by omega⟩
  | succ k ih =>
    obtain ⟨h1, h2⟩ := ih (fun i hi => hf i (by omega))
    obtain ⟨y, hy⟩ := hf k (by omega)
    rw [List.range_succ, List.filterMap_append]
    have e1 : List.filterMap f [k] = [y] := by simp [hy]
    rw [e1]
    refine ⟨by simp [h1], fun i hi => ?_⟩
    by_cases hik : i < k
    · rw [List.getElem?_append_left (by omega)]; exact h2 i hik
    · obtain rfl : i = k := by omega
      rw [List.getElem?_append_right (by omega), h1, hy]; simp

/-- a slice of whatever elements, each of s cells, read by Q -/
theorem trod_rows {α : Type} {s : Nat} {Q : List Value → α → Prop} {e : TypeId} {c : Value} (ht : P.underlying t = some (.slice e)) (hs : P.cellsOf e = s) (hs0 : 0 < s)
    (hQ : ∀ (n : Nat) (l : List Value) (y : DataW H × List MemPlace), DataW.trod enc P w base (fun _ => true) held n e l = some y → ∃ z : α, Q l z)
    (h : DataW.trod enc P w base (fun _ => true) held fuel t [c] = some x) : ∃ a n cp S, c = .slice a n cp ∧ RdS s Q w a n S := by
  rcases Deep.open_slice ht h with ⟨hcs, _⟩ | ⟨ad, len, cap, m, n, D, Pl, hcs, _, hlc, hcm, hm, _, hel⟩
  · simp only [List.cons.injEq, and_true] at hcs
    exact ⟨none, 0, 0, [], hcs, rfl, by unfold maxLen; omega, fun h => by omega⟩
  · simp only [List.cons.injEq, and_true] at hcs
    simp only [if_true] at hm
    subst hm
    have hex : ∀ i, ∃ z : Option α, i < len → ∃ y, z = some y ∧ ∃ l, w.cells? base (ad.add (i * s)) s = some l ∧ Q l y := by
      intro i
      by_cases hi : i < len
      · obtain ⟨l, hl, ht'⟩ := hel i (by omega)
        obtain ⟨y, hy⟩ := hQ _ _ _ ht'
        rw [hs] at hl
        exact ⟨some y, fun _ => ⟨y, rfl, l, hl, hy⟩⟩
      · exact ⟨none, fun h => absurd h hi⟩
    obtain ⟨f, hf⟩ : ∃ f : Nat → Option α, ∀ i, i < len → ∃ y, f i = some y ∧ ∃ l, w.cells? base (ad.add (i * s)) s = some l ∧ Q l y :=
      ⟨fun i => Classical.choose (hex i), fun i => Classical.choose_spec (hex i)⟩
    have hall := filterMap_all f len (fun i hi => let ⟨y, h1, _⟩ := hf i hi; ⟨y, h1⟩)
    refine ⟨some ad, len, m, (List.range len).filterMap f, hcs, hall.1, by omega, fun h0 => ?_⟩
    obtain ⟨b, off, spot⟩ := ad
    obtain ⟨y0, _, l0, hl0, _⟩ := hf 0 h0
    obtain ⟨hlen0, hc0⟩ := cells_of hl0
    have hcell0 := hc0 0 l0[0] (by rw [List.getElem?_eq_getElem])
    have hsp : spot = none := by simpa [Addr.add] using World.cell?_spot hcell0
    subst hsp
    rw [Addr.add_lit, Addr.add_lit] at hcell0
    refine ⟨b, off, rfl, World.block_lt_of_cell? w _ hcell0, fun i y hy => ?_⟩
    have hi : i < len := by
      rcases Nat.lt_or_ge i len with h' | h'
      · exact h'
      · rw [List.getElem?_eq_none (by rw [hall.1]; exact h')] at hy; cases hy
    obtain ⟨y', hy', l, hl, hq⟩ := hf i hi
    rw [hall.2 i hi, hy'] at hy
    cases hy
    obtain ⟨hll, hcl⟩ := cells_of hl
    refine ⟨l, hll, hq, fun j u hu => ?_⟩
    have := hcl j u hu
    rw [Addr.add_lit, Addr.add_lit] at this
    exact this
end
end Go.Proofs.Ythpghoafjpbdbaa
