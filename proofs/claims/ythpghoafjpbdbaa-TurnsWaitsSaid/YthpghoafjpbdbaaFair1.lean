/- TurnsFair, the plain law. -/
import Derived.Test.YthpghoafjpbdbaaWTurnsEven
namespace Go.Proofs.Ythpghoafjpbdbaa
open Go.RowKit Go.HK
set_option maxRecDepth 100000

def FaI (CS : List Int) (j : Int) (T : List Tk) : Prop := T.length = CS.length ∧ sumN T = j ∧ ∀ (i : Nat) (t : Tk) (c : Int), T[i]? = some t → CS[i]? = some c → (t.st = 0 ∧ 0 ≤ t.n ∧ t.n < c) ∨ (t.st = 2 ∧ t.n = c)

theorem get_len {α β : Type} {T : List α} {C : List β} (h : T.length = C.length) {i : Nat} {t : α} (ht : T[i]? = some t) : ∃ c, C[i]? = some c := by
  have hi : i < C.length := by
    rw [← h]
    rcases Nat.lt_or_ge i T.length with h1 | h1
    · exact h1
    · rw [List.getElem?_eq_none h1] at ht; cases ht
  exact ⟨_, List.getElem?_eq_getElem hi⟩

theorem fair_step (CS : List Int) (j : Int) (T : List Tk) (pick : Int) (h : FaI CS j T) (hr : rdy T ≠ []) : FaI CS (j + 1) (pickT (CS.map cntB) T pick) := by
  obtain ⟨hl, hs, hT⟩ := h
  obtain ⟨i, t, ht, hst, hp, _⟩ := pickT_spec (CS.map cntB) T pick hr
  obtain ⟨c, hc⟩ := get_len hl ht
  have hB : (CS.map cntB).getD i (fun _ => 2) = cntB c := by rw [List.getD_eq_getElem?_getD, List.getElem?_map, hc]; rfl
  rw [hp, hB]
  have h1 := hT i t c ht hc
  have h2 : 0 ≤ t.n ∧ t.n < c := by omega
  have e1 : cntB c t.n.toNat = if c - t.n - 1 ≤ 0 then 2 else 0 := by unfold cntB; rw [show ((t.n.toNat : Nat) : Int) = t.n by omega]
  rw [e1]
  refine ⟨by rw [List.length_set]; exact hl, ?_, ?_⟩
  · rw [sumN_set T i t _ ht, to_n, bump_n]; omega
  · intro k u c' hu hc'
    rcases set_get ht hu with ⟨rfl, rfl⟩ | ⟨_, hu⟩
    · rw [hc] at hc'
      cases hc'
      rw [to_n, to_st, bump_n]
      by_cases h3 : c - t.n - 1 ≤ 0
      · rw [if_pos h3]; right; exact ⟨by simp, by omega⟩
      · rw [if_neg h3]; left; exact ⟨by simp, by omega, by omega⟩
    · exact hT k u c' hu hc'

theorem fair_sum (T : List Tk) : ∀ (CS : List Int), T.length = CS.length → (∀ (i : Nat) (t : Tk) (c : Int), T[i]? = some t → CS[i]? = some c → t.n ≤ c) → sumN T ≤ CS.sum ∧ (sumN T = CS.sum → ∀ (i : Nat) (t : Tk) (c : Int), T[i]? = some t → CS[i]? = some c → t.n = c) ∧ ((∀ (i : Nat) (t : Tk) (c : Int), T[i]? = some t → CS[i]? = some c → t.n = c) → sumN T = CS.sum) := by
  induction T with
  | nil =>
    intro CS hl _
    cases CS with
    | nil => exact ⟨Int.le_refl _, fun _ i t c h => by simp at h, fun _ => rfl⟩
    | cons a l => simp at hl
  | cons x l ih =>
    intro CS hl h
    cases CS with
    | nil => simp at hl
    | cons a C =>
      obtain ⟨h1, h2, h3⟩ := ih C (by simpa using hl) (fun i t c ht hc => h (i + 1) t c (by simpa using ht) (by simpa using hc))
      have h0 := h 0 x a rfl rfl
      have es : sumN (x :: l) = x.n + sumN l := by simp [sumN]
      rw [es, List.sum_cons]
      refine ⟨by omega, fun he i t c ht hc => ?_, fun he => ?_⟩
      · cases i with
        | zero => simp at ht hc; subst ht; subst hc; omega
        | succ i => exact h2 (by omega) i t c (by simpa using ht) (by simpa using hc)
      · have e0 := he 0 x a rfl rfl
        have := h3 (fun i t c ht hc => he (i + 1) t c (by simpa using ht) (by simpa using hc))
        omega

theorem fair_end (CS : List Int) (j : Int) (T : List Tk) (h : FaI CS j T) : j ≤ CS.sum ∧ (rdy T = [] → j = CS.sum ∧ stuckB T = false) := by
  obtain ⟨hl, hs, hT⟩ := h
  obtain ⟨h1, h2, h3⟩ := fair_sum T CS hl (fun i t c ht hc => by have := hT i t c ht hc; omega)
  refine ⟨by omega, fun hr => ⟨?_, ?_⟩⟩
  · rw [← hs]
    refine h3 (fun i t c ht hc => ?_)
    have := (rdy_nil_iff T).1 hr i t ht
    have := hT i t c ht hc
    omega
  · unfold stuckB anyW
    rw [Bool.and_eq_false_iff]
    right
    rw [List.any_eq_false]
    intro t ht
    obtain ⟨i, hi, rfl⟩ := List.getElem_of_mem ht
    obtain ⟨c, hc⟩ := get_len hl (List.getElem?_eq_getElem hi)
    have := hT i _ c (List.getElem?_eq_getElem hi) hc
    simp only [beq_iff_eq]
    omega

theorem sum_ge (CS : List Int) (h : ∀ c ∈ CS, 1 ≤ c ∧ c ≤ 30) : (CS.length : Int) ≤ CS.sum ∧ CS.sum ≤ 30 * (CS.length : Int) := by
  induction CS with
  | nil => simp
  | cons a l ih =>
    have h1 := ih (fun c hc => h c (List.mem_cons_of_mem _ hc))
    have h2 := h a (by simp)
    simp only [List.length_cons, List.sum_cons]
    omega

/-- the first n picks: whoever goes on has taken a step, if all do -/
theorem fair_first (CS : List Int) (hc : ∀ c ∈ CS, 1 ≤ c ∧ c ≤ 30) (T : List Tk) (hT : T.length = CS.length) (hz : ∀ (i : Nat) (t : Tk), T[i]? = some t → t.st = 0 ∧ t.n = 0) :
    ∃ T1, runT (CS.map cntB) [] CS.length 0 T = (CS.length, T1) ∧ FaI CS CS.length T1 ∧ ((∀ (i : Nat) (t : Tk), T1[i]? = some t → t.st = 0) → ∀ (i : Nat) (t : Tk), T1[i]? = some t → 1 ≤ t.n) := by
  have h0 : FaI CS 0 T := by
    refine ⟨hT, ?_, fun i t c ht hcc => .inl ?_⟩
    · have : ∀ l : List Tk, (∀ (i : Nat) (t : Tk), l[i]? = some t → t.st = 0 ∧ t.n = 0) → sumN l = 0 := by
        intro l
        induction l with
        | nil => intro _; rfl
        | cons x l ih =>
          intro h
          have e : sumN (x :: l) = x.n + sumN l := by simp [sumN]
          rw [e, ih (fun i t ht => h (i + 1) t (by simpa using ht)), (h 0 x rfl).2]; rfl
      exact this T hz
    · have h1 := hz i t ht
      have h2 := hc c (List.mem_of_getElem? hcc)
      omega
  have hind := runT_ind (CS.map cntB) [] (fun j T => FaI CS j T ∧ ((∀ (i : Nat) (t : Tk), T[i]? = some t → t.st = 0) → j ≤ CS.length → ∀ (i : Nat) (t : Tk), i < j → T[i]? = some t → 1 ≤ t.n)) ?_ CS.length 0 T ⟨h0, fun _ _ i t h => absurd h (by omega)⟩
  · obtain ⟨⟨h1, h2⟩, _, h3, h4⟩ := hind
    generalize runT (CS.map cntB) [] CS.length 0 T = r at *
    obtain ⟨j, T1⟩ := r
    simp only [Nat.zero_add] at *
    have hj : j = CS.length := by
      rcases Nat.lt_or_ge j CS.length with h5 | h5
      · have := ((fair_end CS j T1 h1).2 (h4 h5)).1
        have := (sum_ge CS hc).1
        omega
      · omega
    subst hj
    refine ⟨T1, rfl, h1, fun ha i t ht => h2 ha (Nat.le_refl _) i t ?_ ht⟩
    obtain ⟨c, hcc⟩ := get_len h1.1 ht
    rcases Nat.lt_or_ge i CS.length with h6 | h6
    · exact h6
    · rw [List.getElem?_eq_none h6] at hcc; cases hcc
  · intro j T' ⟨h1, h2⟩ hr
    have hp : pickOf [] j = (j : Int) := by unfold pickOf; simp
    rw [hp]
    refine ⟨fair_step CS j T' j h1 hr, fun ha hjl i u hi hu => ?_⟩
    obtain ⟨k, x, hx, hxs, hpk, hat⟩ := pickT_spec (CS.map cntB) T' j hr
    rw [hpk] at ha hu
    have hall : ∀ (i : Nat) (t : Tk), T'[i]? = some t → t.st = 0 := fun m t ht => by
      by_cases hm : m = k
      · subst hm; rw [hx] at ht; cases ht; exact hxs
      · exact ha m t (by rw [List.getElem?_set_ne (fun e => hm e.symm)]; exact ht)
    have hn : 0 < T'.length := by rw [h1.1]; omega
    obtain ⟨y, hy, _, hpk2⟩ := pick_all (CS.map cntB) T' j hall hn
    have hjm : j % T'.length = j := Nat.mod_eq_of_lt (by rw [h1.1]; omega)
    rw [hjm] at hy hpk2
    rw [← hpk, hpk2] at hu
    obtain ⟨c, hcc⟩ := get_len h1.1 hy
    have hyy := h1.2.2 j y c hy hcc
    have hys := hall j y hy
    rcases set_get hy hu with ⟨rfl, rfl⟩ | ⟨hne, hu⟩
    · rw [to_n, bump_n]; omega
    · exact h2 hall (by omega) i u (by omega) hu

theorem fair_rest (CS : List Int) (hc : ∀ c ∈ CS, 1 ≤ c ∧ c ≤ 30) (hl : CS.length ≤ 40) (T1 : List Tk) (h : FaI CS CS.length T1) (f : Nat) (hf : 2000 ≤ f) :
    ∃ r T2, runT (CS.map cntB) [] f 0 T1 = (r, T2) ∧ (CS.length : Int) + r = CS.sum ∧ r ≤ 2000 ∧ rdy T2 = [] ∧ stuckB T2 = false := by
  have hind := runT_ind (CS.map cntB) [] (fun j T => FaI CS ((CS.length : Int) + j) T) (fun j T hI hr => by
    have := fair_step CS _ T (pickOf [] j) hI hr
    rw [show (CS.length : Int) + (j + 1 : Nat) = (CS.length : Int) + j + 1 by omega]
    exact this) f 0 T1 (by simpa using h)
  obtain ⟨h1, _, h3, h4⟩ := hind
  generalize runT (CS.map cntB) [] f 0 T1 = r at *
  obtain ⟨j, T2⟩ := r
  simp only [Nat.zero_add] at *
  obtain ⟨h5, h6⟩ := fair_end CS _ T2 h1
  have h7 := sum_ge CS hc
  have hr := h4 (by omega)
  obtain ⟨h8, h9⟩ := h6 hr
  exact ⟨j, T2, rfl, h8, by omega, hr, h9⟩
end Go.Proofs.Ythpghoafjpbdbaa
