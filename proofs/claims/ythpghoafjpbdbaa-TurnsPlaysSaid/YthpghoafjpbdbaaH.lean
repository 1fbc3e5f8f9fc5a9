/- Heap words: a block known whole; a frame with a footprint. No program is named here. -/
import Derived.WalkKit
namespace Go.HK
open Go Go.RowKit

/-- Block b is a row of cells cs of type T; none of them frozen. -/
def Blk (w : World) (b : Nat) (T : TypeId) (cs : List Value) : Prop := w.heap[b]? = some (.cells cs.toArray T (0, 0))

section
variable {w w' : World} {b : Nat} {T : TypeId} {cs : List Value}

theorem Blk.cell (h : Blk w b T cs) (i : Nat) : w.cell? ⟨b, i, none⟩ = cs[i]? := by
  unfold Blk at h; simp [World.cell?, h]
theorem Blk.frz (h : Blk w b T cs) (i : Nat) : w.frozen? ⟨b, i, none⟩ = false := by
  unfold Blk at h; simp [World.frozen?, h]
theorem Blk.lt (h : Blk w b T cs) : b < w.heap.size := by
  unfold Blk at h
  rcases Nat.lt_or_ge b w.heap.size with h' | h'
  · exact h'
  · simp [Array.getElem?_eq_none h'] at h
theorem Blk.of_eq (h : Blk w b T cs) (e : w'.heap[b]? = w.heap[b]?) : Blk w' b T cs := by
  unfold Blk at *; rw [e]; exact h
theorem Blk.alloc (h : Blk w b T cs) (o : Obj) : Blk (w.alloc o) b T cs :=
  h.of_eq (Below.heap_alloc _ _ _ h.lt)
theorem Blk.drew (h : Blk w b T cs) : Blk w.drew b T cs := h
theorem Blk.set_other (h : Blk w b T cs) {a : Addr} (hne : b ≠ a.block) (v : Value) : Blk (w.setCell a v) b T cs :=
  h.of_eq (Below.heap_setCell _ _ _ _ hne)
theorem Blk.new (w : World) (T : TypeId) (cs : List Value) : Blk (w.alloc (.cells cs.toArray T)) w.heap.size T cs := by
  unfold Blk
  show (w.heap.push _)[w.heap.size]? = _
  simp
theorem Blk.new_at {m : Nat} (w : World) (T : TypeId) (cs : List Value) (hm : m = w.heap.size) : Blk (w.alloc (.cells cs.toArray T)) m T cs := by
  subst hm; exact Blk.new w T cs
theorem Blk.set (h : Blk w b T cs) (i : Nat) (v : Value) : Blk (w.setCell ⟨b, i, none⟩ v) b T (cs.set i v) := by
  have hlt := h.lt
  unfold Blk at *
  have h' : w.heap[b] = .cells cs.toArray T (0, 0) := by simpa [Array.getElem?_eq_getElem hlt] using h
  show (w.heap.modify b _)[b]? = _
  rw [Array.getElem?_eq_getElem (by simpa using hlt), Array.getElem_modify_self, h']
  simp
end

/-- w' is w but for the blocks of S and new ones. -/
structure Fr (S : Nat → Prop) (w w' : World) : Prop where
  os : w'.os = w.os
  tape : w'.tape = w.tape
  output : w'.output = w.output
  size : w.heap.size ≤ w'.heap.size
  block : ∀ k, k < w.heap.size → ¬ S k → w'.heap[k]? = w.heap[k]?

section
variable {S : Nat → Prop} {w w' w'' : World}
theorem Fr.refl (S : Nat → Prop) (w : World) : Fr S w w := ⟨rfl, rfl, rfl, Nat.le_refl _, fun _ _ _ => rfl⟩
theorem Fr.trans (h : Fr S w w') (k : Fr S w' w'') : Fr S w w'' :=
  ⟨k.os.trans h.os, k.tape.trans h.tape, k.output.trans h.output, Nat.le_trans h.size k.size,
    fun i hi hs => (k.block i (Nat.lt_of_lt_of_le hi h.size) hs).trans (h.block i hi hs)⟩
theorem Fr.alloc (h : Fr S w w') (o : Obj) : Fr S w (w'.alloc o) :=
  h.trans ⟨rfl, rfl, rfl, by simp, fun k hk _ => Below.heap_alloc _ _ _ hk⟩
theorem Fr.drew (h : Fr S w w') : Fr S w w'.drew := ⟨h.os, h.tape, h.output, h.size, h.block⟩
/-- a store into a block of the footprint, or into one that is new -/
theorem Fr.set (h : Fr S w w') {a : Addr} (hs : S a.block ∨ w.heap.size ≤ a.block) (v : Value) : Fr S w (w'.setCell a v) :=
  ⟨h.os, h.tape, h.output, by simpa using h.size, fun k hk hn => by
    rw [Below.heap_setCell _ _ _ _ (by rintro rfl; rcases hs with hs | hs; exact hn hs; omega)]
    exact h.block k hk hn⟩
theorem Fr.mono {S' : Nat → Prop} (h : Fr S w w') (hs : ∀ k, k < w.heap.size → S k → S' k) : Fr S' w w' :=
  ⟨h.os, h.tape, h.output, h.size, fun k hk hn => h.block k hk (fun hk' => hn (hs k hk hk'))⟩
theorem Fr.blk (h : Fr S w w') {b : Nat} {T : TypeId} {cs : List Value} (hb : Blk w b T cs) (hn : ¬ S b) : Blk w' b T cs :=
  hb.of_eq (h.block b hb.lt hn)
theorem Fr.cell (h : Fr S w w') {a : Addr} {v : Value} (hc : w.cell? a = some v) (hn : ¬ S a.block) : w'.cell? a = some v :=
  (World.cell?_of_block (h.block a.block (World.block_lt_of_cell? w a hc) hn)).trans hc
/-- a step from a later world whose footprint is new or in S -/
theorem Fr.step {S' : Nat → Prop} (h : Fr S w w') (k : Fr S' w' w'') (hs : ∀ i, S' i → S i ∨ w.heap.size ≤ i) : Fr S w w'' :=
  ⟨k.os.trans h.os, k.tape.trans h.tape, k.output.trans h.output, Nat.le_trans h.size k.size,
    fun i hi hn => (k.block i (Nat.lt_of_lt_of_le hi h.size) (fun h' => by rcases hs i h' with h'' | h''; exact hn h''; omega)).trans (h.block i hi hn)⟩
theorem Fr.below {B : Nat} (h : Fr S w w') (hB : B ≤ w.heap.size) (hs : ∀ k, k < B → ¬ S k) : Below B w w' :=
  ⟨h.os, h.tape, h.output, h.size, fun k hk => h.block k (Nat.lt_of_lt_of_le hk hB) (hs k hk)⟩
theorem Fr.grown {row : Option Nat} (h : Fr S w w') (hg : w'.grownBy w'' row) (hr : ∀ k, row = some k → S k ∨ w.heap.size ≤ k) : Fr S w w'' :=
  h.step (S' := fun k => row = some k) ⟨hg.os, hg.tape, hg.output, hg.size, fun k hk hn => hg.block k hk (fun e => hn e.symm)⟩ hr
end

theorem Fr.grownBy {w w' : World} (h : Fr (fun _ => False) w w') (row : Option Nat) : w.grownBy w' row :=
  ⟨h.os, h.tape, h.output, h.size, fun k hk _ => h.block k hk (fun h => h)⟩
theorem Fr.owns {w w' : World} (h : Fr (fun _ => False) w w') {base : Nat} {e : TypeId} {size : Nat} {v : Value} {n : Nat} {xs : List Value} (ho : w.ownsRow base e size v n xs) : w'.ownsRow base e size v n xs := by
  refine ho.kept (h.grownBy none) ?_
  cases hv : v.ownBlock with
  | none => exact .inl rfl
  | some g => exact .inr (by simp)
/-- what is owned from a place on is owned from a lower place on -/
theorem owns_low {w : World} {base base' : Nat} {e : TypeId} {size : Nat} {v : Value} {n : Nat} {xs : List Value} (ho : w.ownsRow base e size v n xs) (h : base' ≤ base) : w.ownsRow base' e size v n xs := by
  obtain ⟨h1, h2 | ⟨g, cap, cur, hv, hb, r⟩⟩ := ho
  · exact ⟨h1, .inl h2⟩
  · exact ⟨h1, .inr ⟨g, cap, cur, hv, by omega, r⟩⟩

/-! ### builtins on ints, as equations -/
theorem max_ints (ats : Array TypeId) (ty : TypeId) (k k' : IntKind) (x y : Int) : Builtin.max_ ats ty #[.int k x, .int k' y] = pure (.int k (if x < y then y else x)) := by
  simp only [Builtin.max_, List.foldlM_cons, List.foldlM_nil, Builtin.max2, gt_iff_lt]; rfl
theorem min_ints (ats : Array TypeId) (ty : TypeId) (k k' : IntKind) (x y : Int) : Builtin.min_ ats ty #[.int k x, .int k' y] = pure (.int k (if y < x then y else x)) := by
  simp only [Builtin.min_, List.foldlM_cons, List.foldlM_nil, Builtin.min2]; rfl

/-- make([]T, n) where T is one cell: a new block of n zeros. -/
theorem run_make_row {P : Program} (t e : TypeId) (z : Value) (bytes : Nat) (ht : P.underlying t = some (.slice e))
    (hinfo : (P.info? e).map (fun i => (i.zero, i.size, i.bytes)) = some (some z, 1, bytes)) (hz1 : z.cells = #[z]) (N : Int) (n : Nat) (hN : N = n) (hb : bytes * n ≤ 281474976710656) (hm : n ≤ maxLen) (w : World) :
    (Instr.makeSlice t (.int .i64 N) (.int .i64 N)).run P w = .ok (.slice (some ⟨w.heap.size, 0, none⟩) n n) (w.alloc (.cells (List.replicate n z).toArray e)) := by
  subst hN
  obtain ⟨i, hi, hz, hs, hby⟩ := info_parts hinfo
  have hb' : (i.bytes : Int) * (n : Int) ≤ 281474976710656 := by
    have h : ((bytes * n : Nat) : Int) ≤ 281474976710656 := by omega
    rw [hby]
    rwa [Int.natCast_mul] at h
  have h := run_make (P := P) w t e i z ht hi hz .i64 .i64 n n (by omega) (by omega) hb' (by unfold maxLen at hm; omega)
  rw [h]
  have : madeCells z.cells ((n : Int).toNat * i.size) = (List.replicate n z).toArray := by
    rw [hz1, hs]
    apply Array.ext'
    rw [toList_madeCells_one]; simp
  rw [this]; simp

theorem owns_blk {w : World} {base : Nat} {e : TypeId} {v : Value} {n : Nat} {xs : List Value} (h : w.ownsRow base e 1 v n xs) (hn : 0 < n) :
    ∃ g cap cs, v = .slice (some ⟨g, 0, none⟩) n cap ∧ base ≤ g ∧ n ≤ cap ∧ Blk w g e cs ∧ cs.take n = xs := by
  obtain ⟨hl, h | ⟨g, cap, cur, hv, hb, hc, hnc, hm, hs, ht⟩⟩ := h
  · omega
  · exact ⟨g, cap, cur.toList, hv, hb, hnc, by unfold Blk; simpa using hc, by simpa using ht⟩
/-- what is owned can be read -/
theorem owns_rd {w : World} {base : Nat} {e : TypeId} {v : Value} {n : Nat} {xs : List Value} (h : w.ownsRow base e 1 v n xs) :
    ∃ a cap, v = .slice a n cap ∧ (0 < n → ∃ g, a = some ⟨g, 0, none⟩ ∧ base ≤ g ∧ g < w.heap.size ∧ ∀ (i : Nat) u, xs[i]? = some u → w.cell? ⟨g, i, none⟩ = some u) := by
  by_cases hn : 0 < n
  · obtain ⟨g, cap, cs, hv, hb, _, hc, ht⟩ := owns_blk h hn
    refine ⟨_, cap, hv, fun _ => ⟨g, rfl, hb, hc.lt, fun i u hu => ?_⟩⟩
    rw [hc.cell, ← hu, ← ht, List.getElem?_take]
    split
    · rfl
    · rename_i hi
      have : xs.length = n * 1 := h.1
      rw [← ht, List.getElem?_take, if_neg hi] at hu
      simp at hu
  · obtain ⟨_, ⟨hv, hn0⟩ | ⟨g, cap, cur, hv, _⟩⟩ := h
    · exact ⟨none, 0, by rw [hv, hn0], fun h' => absurd h' hn⟩
    · exact ⟨_, cap, hv, fun h' => absurd h' hn⟩
end Go.HK
