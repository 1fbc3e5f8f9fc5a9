/- Plain facts of Run and Wake. -/
import Derived.Test.YthpghoafjpbdbaaTurns9
namespace Go.Proofs.Ythpghoafjpbdbaa
set_option maxRecDepth 100000

theorem pickT_spec (BS : List (Nat → Int)) (T : List Tk) (pick : Int) (hr : rdy T ≠ []) : ∃ i t, T[i]? = some t ∧ t.st = 0 ∧ pickT BS T pick = T.set i (t.bump.to ((BS.getD i (fun _ => 2)) t.n.toNat)) ∧ (rdy T).getD (pickI pick (rdy T).length) 0 = (i : Int) + 1 := by
  obtain ⟨i, t, h1, h2, h3, h4⟩ := rdyAt_spec T pick hr
  refine ⟨i, t, h2, h3, ?_, h4⟩
  unfold pickT
  rw [h1]
  simp only [h2]

theorem runT_ind (BS : List (Nat → Int)) (L : List Int) (Inv : Nat → List Tk → Prop) (hstep : ∀ j T, Inv j T → rdy T ≠ [] → Inv (j + 1) (pickT BS T (pickOf L j))) (f : Nat) :
    ∀ (j : Nat) (T : List Tk), Inv j T → Inv (runT BS L f j T).1 (runT BS L f j T).2 ∧ j ≤ (runT BS L f j T).1 ∧ (runT BS L f j T).1 ≤ j + f ∧ ((runT BS L f j T).1 < j + f → rdy (runT BS L f j T).2 = []) := by
  induction f with
  | zero => intro j T h; exact ⟨h, Nat.le_refl _, Nat.le_refl _, fun h => by unfold runT at h; simp at h⟩
  | succ f ih =>
    intro j T h
    unfold runT
    by_cases hr : rdy T = []
    · rw [if_pos hr]; exact ⟨h, Nat.le_refl _, by simp, fun _ => hr⟩
    · rw [if_neg hr]
      obtain ⟨h1, h2, h3, h4⟩ := ih (j + 1) _ (hstep j T h hr)
      exact ⟨h1, by omega, by omega, fun h => h4 (by omega)⟩

theorem rdy_nil_iff (T : List Tk) : rdy T = [] ↔ ∀ (i : Nat) (t : Tk), T[i]? = some t → t.st ≠ 0 := by
  constructor
  · intro h i t ht e
    have hi : i < T.length := by
      rcases Nat.lt_or_ge i T.length with h1 | h1
      · exact h1
      · rw [List.getElem?_eq_none h1] at ht; cases ht
    have : (i : Int) + 1 ∈ rdyUp T T.length := (rdyUp_mem T T.length _).2 ⟨i, rfl, hi, by unfold isGo; rw [ht]; simp [e]⟩
    have h2 : rdyUp T T.length = [] := h
    rw [h2] at this
    cases this
  · intro h
    apply List.eq_nil_iff_forall_not_mem.2
    intro x hx
    obtain ⟨i, _, h2, h3⟩ := (rdyUp_mem T T.length x).1 hx
    unfold isGo at h3
    rw [List.getElem?_eq_getElem h2] at h3
    exact h i T[i] (List.getElem?_eq_getElem h2) (by simpa using h3)

/-- all that took steps, together -/
def sumN (T : List Tk) : Int := (T.map Tk.n).sum
theorem sumN_set (T : List Tk) (i : Nat) (t u : Tk) (ht : T[i]? = some t) : sumN (T.set i u) = sumN T - t.n + u.n := by
  induction T generalizing i with
  | nil => simp at ht
  | cons x l ih =>
    cases i with
    | zero => simp at ht; subst ht; simp [sumN]; omega
    | succ i =>
      simp only [List.getElem?_cons_succ] at ht
      have := ih i ht
      unfold sumN at *
      simp only [List.set_cons_succ, List.map_cons, List.sum_cons]
      omega
theorem to_st (t : Tk) (s : Int) : (t.to s).st = if s < 0 ∨ 2 < s then 2 else s := rfl
theorem to_n (t : Tk) (s : Int) : (t.to s).n = t.n := rfl
theorem bump_n (t : Tk) : t.bump.n = t.n + 1 := rfl

theorem rdyUp_all (T : List Tk) (j : Nat) (h : ∀ i, i < j → isGo T i = true) : rdyUp T j = (List.range j).map (fun i : Nat => (i : Int) + 1) := by
  induction j with
  | zero => rfl
  | succ j ih =>
    unfold rdyUp
    rw [if_pos (h j (by omega)), ih (fun i hi => h i (by omega)), List.range_succ]
    simp
theorem rdy_all (T : List Tk) (h : ∀ (i : Nat) (t : Tk), T[i]? = some t → t.st = 0) : rdy T = (List.range T.length).map (fun i : Nat => (i : Int) + 1) := by
  refine rdyUp_all T T.length (fun i hi => ?_)
  unfold isGo
  rw [List.getElem?_eq_getElem hi]
  simp [h i _ (List.getElem?_eq_getElem hi)]
theorem rdyUp_lt (T : List Tk) (j : Nat) (h : ∃ i, i < j ∧ isGo T i = false) : (rdyUp T j).length < j := by
  induction j with
  | zero => obtain ⟨i, hi, _⟩ := h; omega
  | succ j ih =>
    unfold rdyUp
    split
    · rename_i hg
      rw [List.length_append]
      simp only [List.length_cons, List.length_nil]
      obtain ⟨i, hi, h2⟩ := h
      have hij : i ≠ j := fun e => by rw [e, hg] at h2; cases h2
      have := ih ⟨i, by omega, h2⟩
      omega
    · have := rdyUp_le T j; omega
/-- as many go on as there are: all do -/
theorem rdy_full (T : List Tk) (h : (rdy T).length = T.length) : ∀ (i : Nat) (t : Tk), T[i]? = some t → t.st = 0 := by
  intro i t ht
  have hi : i < T.length := by
    rcases Nat.lt_or_ge i T.length with h1 | h1
    · exact h1
    · rw [List.getElem?_eq_none h1] at ht; cases ht
  cases hg : isGo T i with
  | true => unfold isGo at hg; rw [ht] at hg; simpa using hg
  | false =>
    have := rdyUp_lt T T.length ⟨i, hi, hg⟩
    unfold rdy at h
    omega

theorem pickI_nat (j n : Nat) (hn : 0 < n) : pickI (j : Int) n = j % n := by
  unfold pickI
  rw [if_neg (by omega)]
  have : ((j : Int) % (n : Int)) = ((j % n : Nat) : Int) := by simp
  rw [this, Int.toNat_natCast]

/-- if all go on, pick j falls on the (j rem n)-th one -/
theorem pick_all (BS : List (Nat → Int)) (T : List Tk) (j : Nat) (h : ∀ (i : Nat) (t : Tk), T[i]? = some t → t.st = 0) (hn : 0 < T.length) :
    ∃ t, T[j % T.length]? = some t ∧ rdy T ≠ [] ∧ pickT BS T j = T.set (j % T.length) (t.bump.to ((BS.getD (j % T.length) (fun _ => 2)) t.n.toNat)) := by
  have e := rdy_all T h
  have hl : (rdy T).length = T.length := by rw [e]; simp
  have hr : rdy T ≠ [] := by intro h0; rw [h0] at hl; simp at hl; omega
  obtain ⟨i, t, h1, h2, h3, h4⟩ := pickT_spec BS T j hr
  have hm : j % T.length < T.length := Nat.mod_lt _ hn
  rw [hl, pickI_nat j _ hn, e, List.getD_eq_getElem?_getD, List.getElem?_map, List.getElem?_range hm] at h4
  simp at h4
  obtain rfl : j % T.length = i := by omega
  exact ⟨t, h1, hr, h3⟩

/-! ### Wake -/
theorem wakeOne_st (T : List Tk) (k : Int) (i : Nat) (t : Tk) (ht : T[i]? = some t) : ∃ u, (wakeOne T k)[i]? = some u ∧ u.n = t.n ∧ u.st = if t.st = 1 ∧ k = (i : Int) + 1 then 0 else t.st := by
  unfold wakeOne
  have hi : i < T.length := by
    rcases Nat.lt_or_ge i T.length with h1 | h1
    · exact h1
    · rw [List.getElem?_eq_none h1] at ht; cases ht
  rcases fndT_cases T k with ⟨h1, h2⟩ | ⟨_, h1, h2⟩ | ⟨h1, h1', x, h2, h3⟩
  · rw [h2]; exact ⟨t, ht, rfl, by rw [if_neg (by omega)]⟩
  · rw [h2]; exact ⟨t, ht, rfl, by rw [if_neg (by omega)]⟩
  · rw [h2]
    simp only
    by_cases hk : i = k.toNat - 1
    · subst hk
      rw [h3] at ht
      cases ht
      by_cases hs : t.st = 1
      · rw [if_pos (by simp [hs]), if_pos ⟨hs, by omega⟩]
        exact ⟨t.go, List.getElem?_set_self hi, rfl, rfl⟩
      · rw [if_neg (by simpa using hs), if_neg (fun h => hs h.1)]
        exact ⟨t, h3, rfl, rfl⟩
    · have hn : ¬ (t.st = 1 ∧ k = (i : Int) + 1) := fun h => hk (by have := h.2; omega)
      rw [if_neg hn]
      split
      · exact ⟨t, by rw [List.getElem?_set_ne (fun e => hk e.symm)]; exact ht, rfl, rfl⟩
      · exact ⟨t, ht, rfl, rfl⟩
theorem wakeAll_st (L : List Int) (T : List Tk) (i : Nat) (t : Tk) (ht : T[i]? = some t) : ∃ u, (wakeAll T L)[i]? = some u ∧ u.n = t.n ∧ u.st = if t.st = 1 ∧ (i : Int) + 1 ∈ L then 0 else t.st := by
  induction L generalizing T t with
  | nil => exact ⟨t, ht, rfl, by simp⟩
  | cons k l ih =>
    obtain ⟨u, hu, e1, e2⟩ := wakeOne_st T k i t ht
    obtain ⟨u', hu', f1, f2⟩ := ih (wakeOne T k) u hu
    refine ⟨u', hu', f1.trans e1, ?_⟩
    rw [f2, e2]
    by_cases hs : t.st = 1
    · by_cases hk : (i : Int) + 1 = k
      · subst hk; simp [hs]
      · have hk' : ¬ k = (i : Int) + 1 := fun e => hk e.symm
        by_cases hm : (i : Int) + 1 ∈ l
        · simp [hs, hk, hk', hm]
        · simp [hs, hk, hk', hm]
    · simp [hs]
end Go.Proofs.Ythpghoafjpbdbaa
