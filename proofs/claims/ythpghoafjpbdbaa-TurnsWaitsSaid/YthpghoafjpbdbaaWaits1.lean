/- TurnsWaits, the plain law; a slice of bools that can be read. -/
import Derived.Test.YthpghoafjpbdbaaFair1
import Derived.Deep.Grids
namespace Go.Proofs.Ythpghoafjpbdbaa
open Go.RowKit Go.HK
set_option maxRecDepth 100000

/-- a slice of bools that can be read -/
structure RdB (w : World) (a : Option Addr) (n : Nat) (B : Nat → Bool) : Prop where
  le : n ≤ maxLen
  at_ : 0 < n → ∃ b off, a = some ⟨b, off, none⟩ ∧ b < w.heap.size ∧ ∀ i, i < n → w.cell? ⟨b, off + i, none⟩ = some (.bool (B i))

theorem open_rdB {H : Type} {enc : TypeId × Value → H} {P : Program} {w : World} {base : Nat} {held : Bool} {t e : TypeId} {fuel : Nat} {a : Option Addr} {n c : Nat} {x : DataW H × List MemPlace} (ht : P.underlying t = some (.slice e)) (he : P.underlying e = some .bool) (h1 : P.cellsOf e = 1)
    (h : DataW.trod enc P w base (fun _ => true) held fuel t [.slice a n c] = some x) : ∃ B, RdB w a n B := by
  rcases Deep.open_bools ht he h1 h with ⟨hcs, _⟩ | ⟨ad, len, cap, B, hcs, _, hl, hm, hx, hcell⟩
  · simp only [List.cons.injEq, Value.slice.injEq, and_true] at hcs
    obtain ⟨rfl, rfl, rfl⟩ := hcs
    exact ⟨fun _ => false, by unfold maxLen; omega, fun h => by omega⟩
  · simp only [List.cons.injEq, Value.slice.injEq, and_true] at hcs
    obtain ⟨rfl, rfl, rfl⟩ := hcs
    refine ⟨B, by omega, fun h0 => ?_⟩
    obtain ⟨b, off, spot⟩ := ad
    have h := hcell 0 (by omega)
    have hsp : spot = none := by simpa [Addr.add] using World.cell?_spot h
    subst hsp
    refine ⟨b, off, rfl, ?_, fun i hi => ?_⟩
    · rw [Addr.add_lit] at h; exact World.block_lt_of_cell? w _ h
    · rw [← Addr.add_lit]; exact hcell i (by omega)

def wL (b : Bool) : List Int := if b then [1, 2] else [2]
def wBS (W : Nat → Bool) (n : Nat) : List (Nat → Int) := (List.range n).map (fun i => tellP (wL (W i)))
theorem wBS_get (W : Nat → Bool) (n i : Nat) (hi : i < n) : (wBS W n).getD i (fun _ => 2) = tellP (wL (W i)) := by
  unfold wBS
  rw [List.getD_eq_getElem?_getD, List.getElem?_map, List.getElem?_range hi]; rfl
theorem wBS_succ (W : Nat → Bool) (n : Nat) : wBS W (n + 1) = wBS W n ++ [tellP (wL (W n))] := by
  unfold wBS; rw [List.range_succ]; simp

def P1 (W : Nat → Bool) (n : Nat) (j : Int) (T : List Tk) : Prop := T.length = n ∧ sumN T = j ∧ ∀ (i : Nat) (t : Tk), T[i]? = some t → (t.st = 0 ∧ t.n = 0) ∨ (t.n = 1 ∧ t.st = if W i then 1 else 2)
def P2 (W : Nat → Bool) (n : Nat) (L : List Int) (j : Int) (T : List Tk) : Prop := T.length = n ∧ sumN T = j ∧ ∀ (i : Nat) (t : Tk), T[i]? = some t →
  (t.n = 1 ∧ t.st = if W i = true ∧ (i : Int) + 1 ∈ L then 0 else if W i then 1 else 2) ∨ (t.n = 2 ∧ t.st = 2 ∧ W i = true ∧ (i : Int) + 1 ∈ L)

theorem sum_bd (T : List Tk) (b : Int) (h : ∀ (i : Nat) (t : Tk), T[i]? = some t → t.n ≤ b) : sumN T ≤ b * (T.length : Int) := by
  induction T with
  | nil => simp [sumN]
  | cons x l ih =>
    have h1 := ih (fun i t ht => h (i + 1) t (by simpa using ht))
    have h2 := h 0 x rfl
    have e : sumN (x :: l) = x.n + sumN l := by simp [sumN]
    rw [e, List.length_cons, Int.natCast_add, Int.mul_add]
    simp; omega
theorem sum_ones (T : List Tk) (h : ∀ (i : Nat) (t : Tk), T[i]? = some t → t.n = 1) : sumN T = (T.length : Int) := by
  induction T with
  | nil => simp [sumN]
  | cons x l ih =>
    have h1 := ih (fun i t ht => h (i + 1) t (by simpa using ht))
    have h2 := h 0 x rfl
    have e : sumN (x :: l) = x.n + sumN l := by simp [sumN]
    rw [e, h1, h2]; simp; omega
theorem sum_zero (T : List Tk) (h : ∀ (i : Nat) (t : Tk), T[i]? = some t → t.n = 0) : sumN T = 0 := by
  induction T with
  | nil => simp [sumN]
  | cons x l ih =>
    have h1 := ih (fun i t ht => h (i + 1) t (by simpa using ht))
    have h2 := h 0 x rfl
    have e : sumN (x :: l) = x.n + sumN l := by simp [sumN]
    rw [e, h1, h2]; rfl

theorem tell0 (b : Bool) : tellP (wL b) 0 = if b then 1 else 2 := by cases b <;> decide
theorem tell1 : tellP (wL true) 1 = 2 := by decide

theorem get_lt {T : List Tk} {i : Nat} {t : Tk} (ht : T[i]? = some t) : i < T.length := by
  rcases Nat.lt_or_ge i T.length with h1 | h1
  · exact h1
  · rw [List.getElem?_eq_none h1] at ht; cases ht

theorem waits_one (W : Nat → Bool) (n : Nat) (hn : n ≤ 20) (T : List Tk) (hT : T.length = n) (hz : ∀ (i : Nat) (t : Tk), T[i]? = some t → t.st = 0 ∧ t.n = 0) :
    ∃ r T1, runT (wBS W n) [] 200 0 T = (r, T1) ∧ r ≤ 200 ∧ T1.length = n ∧ rdy T1 = [] ∧ ∀ (i : Nat) (t : Tk), T1[i]? = some t → t.n = 1 ∧ t.st = if W i then 1 else 2 := by
  have hind := runT_ind (wBS W n) [] (fun j T => P1 W n j T) (fun j T hI hr => by
    obtain ⟨hl, hs, hx⟩ := hI
    obtain ⟨i, t, ht, hst, hp, _⟩ := pickT_spec (wBS W n) T (pickOf [] j) hr
    rw [hp, wBS_get W n i (by rw [← hl]; exact get_lt ht)]
    have h1 : t.n = 0 := by
      have := hx i t ht
      rcases this with h | ⟨_, h⟩
      · exact h.2
      · rw [hst] at h; split at h <;> omega
    rw [h1, Int.toNat_zero, tell0]
    refine ⟨by rw [List.length_set]; exact hl, ?_, ?_⟩
    · rw [sumN_set T i t _ ht, to_n, bump_n]; omega
    · intro k u hu
      rcases set_get ht hu with ⟨rfl, rfl⟩ | ⟨_, hu⟩
      · right
        rw [to_n, bump_n, to_st]
        refine ⟨by omega, ?_⟩
        cases W k <;> simp
      · exact hx k u hu) 200 0 T ⟨hT, sum_zero T (fun i t ht => (hz i t ht).2), fun i t ht => .inl (hz i t ht)⟩
  obtain ⟨⟨h1, h2, h3⟩, _, h4, h5⟩ := hind
  generalize runT (wBS W n) [] 200 0 T = r at *
  obtain ⟨j, T1⟩ := r
  simp only [Nat.zero_add] at *
  have hb := sum_bd T1 1 (fun i t ht => by have := h3 i t ht; omega)
  have hr := h5 (by omega)
  refine ⟨j, T1, rfl, h4, h1, hr, fun i t ht => ?_⟩
  have h6 := (rdy_nil_iff T1).1 hr i t ht
  rcases h3 i t ht with h | h
  · exact absurd h.1 h6
  · exact h

theorem waits_two (W : Nat → Bool) (n : Nat) (hn : n ≤ 20) (L : List Int) (T1 : List Tk) (hT : T1.length = n) (h1 : ∀ (i : Nat) (t : Tk), T1[i]? = some t → t.n = 1 ∧ t.st = if W i then 1 else 2) :
    ∃ r T2, runT (wBS W n) [] 200 0 (wakeAll T1 L) = (r, T2) ∧ r ≤ 200 ∧ T2.length = n ∧ ∀ (i : Nat) (t : Tk), T2[i]? = some t → t.n = if W i = true ∧ (i : Int) + 1 ∈ L then 2 else 1 := by
  have hl0 := (wakeAll_at T1 L).1
  have h0 : P2 W n L (n : Int) (wakeAll T1 L) := by
    have hat : ∀ (i : Nat) (u : Tk), (wakeAll T1 L)[i]? = some u → u.n = 1 ∧ u.st = if W i = true ∧ (i : Int) + 1 ∈ L then 0 else if W i then 1 else 2 := fun i u hu => by
      have hi := get_lt hu
      rw [hl0] at hi
      obtain ⟨u', h2, h3, h4⟩ := wakeAll_st L T1 i _ (List.getElem?_eq_getElem hi)
      rw [hu] at h2
      cases h2
      have h5 := h1 i _ (List.getElem?_eq_getElem hi)
      refine ⟨h3.trans h5.1, ?_⟩
      rw [h4, h5.2]
      cases hw : W i <;> simp
    exact ⟨by rw [hl0, hT], by rw [sum_ones _ (fun i t ht => (hat i t ht).1), hl0, hT], fun i t ht => .inl (hat i t ht)⟩
  have hind := runT_ind (wBS W n) [] (fun j T => P2 W n L ((n : Int) + j) T) (fun j T hI hr => by
    obtain ⟨hl, hs, hx⟩ := hI
    obtain ⟨i, t, ht, hst, hp, _⟩ := pickT_spec (wBS W n) T (pickOf [] j) hr
    rw [hp, wBS_get W n i (by rw [← hl]; exact get_lt ht)]
    have h2 : t.n = 1 ∧ W i = true ∧ (i : Int) + 1 ∈ L := by
      rcases hx i t ht with ⟨h3, h4⟩ | h3
      · rw [hst] at h4
        by_cases hc : W i = true ∧ (i : Int) + 1 ∈ L
        · exact ⟨h3, hc⟩
        · rw [if_neg hc] at h4; split at h4 <;> omega
      · omega
    obtain ⟨h3, h4, h5⟩ := h2
    rw [h3, h4, show (1 : Int).toNat = 1 from rfl, tell1]
    refine ⟨by rw [List.length_set]; exact hl, ?_, ?_⟩
    · rw [sumN_set T i t _ ht, to_n, bump_n]; omega
    · intro k u hu
      rcases set_get ht hu with ⟨rfl, rfl⟩ | ⟨_, hu⟩
      · right
        rw [to_n, bump_n, to_st]
        exact ⟨by omega, by simp, h4, h5⟩
      · exact hx k u hu) 200 0 (wakeAll T1 L) (by simpa using h0)
  obtain ⟨⟨h2, h3, h4⟩, _, h5, h6⟩ := hind
  generalize runT (wBS W n) [] 200 0 (wakeAll T1 L) = r at *
  obtain ⟨j, T2⟩ := r
  simp only [Nat.zero_add] at *
  have hb := sum_bd T2 2 (fun i t ht => by have := h4 i t ht; omega)
  have hr := h6 (by omega)
  refine ⟨j, T2, rfl, h5, h2, fun i t ht => ?_⟩
  have h7 := (rdy_nil_iff T2).1 hr i t ht
  rcases h4 i t ht with ⟨h8, h9⟩ | ⟨h8, _, h9⟩
  · rw [h8]
    by_cases hc : W i = true ∧ (i : Int) + 1 ∈ L
    · rw [if_pos hc] at h9; exact absurd h9 h7
    · rw [if_neg hc]
  · rw [h8, if_pos h9]
end Go.Proofs.Ythpghoafjpbdbaa
