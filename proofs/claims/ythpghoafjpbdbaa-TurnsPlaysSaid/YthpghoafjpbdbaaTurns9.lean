/- Tasks that tell by the number of the step: Pick and Run as plain functions. -/
import Derived.Test.YthpghoafjpbdbaaTurns8
namespace Go.Proofs.Ythpghoafjpbdbaa
open Go.RowKit Go.HK
set_option maxRecDepth 100000

variable {Z : Nat → Prop}

def cntB (c0 : Int) (m : Nat) : Int := if c0 - m - 1 ≤ 0 then 2 else 0

/-- a block that a list may lie in: older than the Turns, or of whole numbers -/
def RR (Z : Nat → Prop) (base : Nat) (w : World) (b : Nat) : Prop := b < base ∨ (Z b ∧ ∃ cs, Blk w b 3 cs)
theorem RR.fr {base : Nat} {S : Nat → Prop} {w w' : World} {b : Nat} (h : RR Z base w b) (F : Fr S w w') (hn : ¬ S b) : RR Z base w' b := by
  rcases h with h | ⟨hz, cs, h⟩
  · exact .inl h
  · exact .inr ⟨hz, cs, F.blk h hn⟩

/-- what lies behind task t tells B -/
def jobAt (Z : Nat → Prop) (base : Nat) (w : World) (t : Tk) (B : Nat → Int) : Prop :=
  (t.f = 16 ∧ ∃ (a : Option Addr) (n cp : Nat) (L : List Int), Blk w t.c 29 (toldC a n cp t.n) ∧ RdI .i64 w a n L ∧ (0 < n → ∀ b off, a = some ⟨b, off, none⟩ → RR Z base w b) ∧ B = tellP L) ∨
  (t.f = 19 ∧ ∃ c0 : Int, 0 ≤ c0 ∧ c0 ≤ 8000000000 ∧ Blk w t.c 46 [.int .i64 (c0 - t.n)] ∧ B = cntB c0)

theorem jobAt.fr {base : Nat} {S : Nat → Prop} {w w' : World} {t : Tk} {B : Nat → Int} (h : jobAt Z base w t B) (F : Fr S w w') (hc : ¬ S t.c) (hR : ∀ b, RR Z base w b → ¬ S b) : jobAt Z base w' t B := by
  rcases h with ⟨hf, a, n, cp, L, h1, h2, h3, h4⟩ | ⟨hf, c0, h1, h2, h3, h4⟩
  · refine .inl ⟨hf, a, n, cp, L, F.blk h1 hc, ⟨h2.hlen, h2.le, h2.rng, fun h0 => ?_⟩, fun h0 b off e => (h3 h0 b off e).fr F (hR b (h3 h0 b off e)), h4⟩
    obtain ⟨b, off, e, h5, h6⟩ := h2.at_ h0
    exact ⟨b, off, e, Nat.lt_of_lt_of_le h5 F.size, fun i hi => F.cell (h6 i hi) (hR b (h3 h0 b off e))⟩
  · exact .inr ⟨hf, c0, h1, h2, F.blk h3 hc, h4⟩

theorem jobAt.lt {base : Nat} {w : World} {t : Tk} {B : Nat → Int} (h : jobAt Z base w t B) : t.c < w.heap.size := by
  rcases h with ⟨hf, a, n, cp, L, h1, h2, h3, h4⟩ | ⟨hf, c0, h1, h2, h3, h4⟩
  · exact h1.lt
  · exact h3.lt

structure TW (Z : Nat → Prop) (w : World) (base P : Nat) (v : Value) (T : List Tk) (BS : List (Nat → Int)) (N : Int) : Prop where
  tu : IsTurns w base P v T
  len : BS.length = T.length
  job : ∀ (i : Nat) (t : Tk) (B : Nat → Int), T[i]? = some t → BS[i]? = some B → jobAt Z base w t B
  cd : ∀ (i j : Nat) (t u : Tk), T[i]? = some t → T[j]? = some u → t.c = u.c → i = j
  low : ∀ (i : Nat) (t : Tk), T[i]? = some t → base ≤ t.c
  cnt : ∀ (i : Nat) (t : Tk), T[i]? = some t → 0 ≤ t.n ∧ t.n ≤ N

/-- the tasks' blocks and those of what lies behind them -/
def tsS (T : List Tk) : Nat → Prop := fun k => ∃ (i : Nat) (t : Tk), T[i]? = some t ∧ stS t k

theorem TW.get {w : World} {base P : Nat} {v : Value} {T : List Tk} {BS : List (Nat → Int)} {N : Int} (h : TW Z w base P v T BS N) {i : Nat} {t : Tk} (ht : T[i]? = some t) :
    ∃ B, BS[i]? = some B ∧ jobAt Z base w t B := by
  have hi : i < BS.length := by
    rw [h.len]
    rcases Nat.lt_or_ge i T.length with h1 | h1
    · exact h1
    · rw [List.getElem?_eq_none h1] at ht; cases ht
  exact ⟨_, List.getElem?_eq_getElem hi, h.job i t _ ht (List.getElem?_eq_getElem hi)⟩

/-- the block behind a task is no task, and not the Turns -/
theorem job_ty {base : Nat} {w : World} {t : Tk} {B : Nat → Int} (h : jobAt Z base w t B) : ∃ (ty : TypeId) (cs : List Value), Blk w t.c ty cs ∧ ty ≠ 66 ∧ ty ≠ 62 ∧ ty ≠ 64 ∧ ty ≠ 3 := by
  rcases h with ⟨_, a, n, cp, L, h1, _⟩ | ⟨_, c0, _, _, h3, _⟩
  · exact ⟨_, _, h1, by decide, by decide, by decide, by decide⟩
  · exact ⟨_, _, h3, by decide, by decide, by decide, by decide⟩

theorem TW.sep {w : World} {base P : Nat} {v : Value} {T : List Tk} {BS : List (Nat → Int)} {N : Int} (h : TW Z w base P v T BS N) {b : Nat} (hb : RR Z base w b) : b ≠ P ∧ (∀ g, v.ownBlock = some g → b ≠ g) ∧ ¬ tsS T b := by
  rcases hb with hb | ⟨_, cs, hb⟩
  · refine ⟨fun e => by have := h.tu.low.1; omega, fun g hg e => ?_, ?_⟩
    · obtain ⟨cs, _, h2⟩ := own_ty h.tu.row hg; omega
    · rintro ⟨i, t, ht, e | e⟩
      · have := h.tu.low.2 i t ht; omega
      · have := h.low i t ht; omega
  · refine ⟨ne_ty hb h.tu.str (by decide), fun g hg => ?_, ?_⟩
    · obtain ⟨cs, h1, h2⟩ := own_ty h.tu.row hg
      exact ne_ty hb h1 (by decide)
    · rintro ⟨i, t, ht, e | e⟩
      · exact ne_ty hb (h.tu.each i t ht) (by decide) e
      · obtain ⟨B, _, hj⟩ := h.get ht
        obtain ⟨ty, cs', h1, _, _, _, h5⟩ := job_ty hj
        exact ne_ty h1 hb h5 e.symm

/-- all that belongs to it is new -/
theorem TW.base_le {w : World} {base P : Nat} {v : Value} {T : List Tk} {BS : List (Nat → Int)} {N : Int} (h : TW Z w base P v T BS N) {k : Nat} (hk : tsS T k ∨ addS P v k) : base ≤ k := by
  rcases hk with ⟨i, t, ht, rfl | rfl⟩ | rfl | hk
  · exact h.tu.low.2 i t ht
  · exact h.low i t ht
  · exact h.tu.low.1
  · obtain ⟨_, _, h2⟩ := own_ty h.tu.row hk; exact h2

/-- where a pick falls -/
def rdyAt (T : List Tk) (pick : Int) : Option Nat := if rdy T = [] then none else some (((rdy T).getD (pickI pick (rdy T).length) 0).toNat - 1)
def pickT (BS : List (Nat → Int)) (T : List Tk) (pick : Int) : List Tk :=
  match rdyAt T pick with
  | none => T
  | some i => match T[i]? with
    | none => T
    | some t => T.set i (t.bump.to ((BS.getD i (fun _ => 2)) t.n.toNat))
def pickR (T : List Tk) (pick : Int) : Int × Bool := match rdyAt T pick with | none => (0, false) | some i => ((i : Int) + 1, true)

theorem rdyAt_spec (T : List Tk) (pick : Int) (hr : rdy T ≠ []) : ∃ i t, rdyAt T pick = some i ∧ T[i]? = some t ∧ t.st = 0 ∧ (rdy T).getD (pickI pick (rdy T).length) 0 = (i : Int) + 1 := by
  have hm : 0 < (rdy T).length := List.length_pos_iff.2 hr
  obtain ⟨h1, _⟩ := pick_lt pick hm
  have hmem : (rdy T)[pickI pick (rdy T).length] ∈ rdyUp T T.length := List.getElem_mem h1
  obtain ⟨i, e1, e2, e3⟩ := (rdyUp_mem T T.length _).1 hmem
  have hg : (rdy T).getD (pickI pick (rdy T).length) 0 = (i : Int) + 1 := by
    rw [List.getD_eq_getElem?_getD, List.getElem?_eq_getElem h1]; exact e1
  refine ⟨i, T[i], ?_, List.getElem?_eq_getElem e2, ?_, hg⟩
  · unfold rdyAt
    rw [if_neg hr, hg]
    congr 1
  · unfold isGo at e3
    rw [List.getElem?_eq_getElem e2] at e3
    simpa using e3

theorem set_get {T : List Tk} {i : Nat} {t u : Tk} (ht : T[i]? = some t) {j : Nat} {x : Tk} (hx : (T.set i u)[j]? = some x) : (j = i ∧ x = u) ∨ (j ≠ i ∧ T[j]? = some x) := by
  have hit : i < T.length := by
    rcases Nat.lt_or_ge i T.length with h1 | h1
    · exact h1
    · rw [List.getElem?_eq_none h1] at ht; cases ht
  by_cases hj : j = i
  · subst hj
    rw [List.getElem?_set_self hit] at hx
    cases hx
    exact .inl ⟨rfl, rfl⟩
  · rw [List.getElem?_set_ne (fun e => hj e.symm)] at hx
    exact .inr ⟨hj, hx⟩

theorem set_stS {T : List Tk} {i : Nat} {t u : Tk} (ht : T[i]? = some t) (hb : u.blk = t.blk) (hc : u.c = t.c) {k : Nat} : tsS (T.set i u) k ↔ tsS T k := by
  have hit : i < T.length := by
    rcases Nat.lt_or_ge i T.length with h1 | h1
    · exact h1
    · rw [List.getElem?_eq_none h1] at ht; cases ht
  constructor
  · rintro ⟨j, x, hx, hs⟩
    rcases set_get ht hx with ⟨rfl, rfl⟩ | ⟨_, hx⟩
    · exact ⟨_, t, ht, by unfold stS at *; rw [← hb, ← hc]; exact hs⟩
    · exact ⟨j, x, hx, hs⟩
  · rintro ⟨j, x, hx, hs⟩
    by_cases hj : j = i
    · subst hj
      rw [ht] at hx
      cases hx
      exact ⟨j, u, List.getElem?_set_self hit, by unfold stS at *; rw [hb, hc]; exact hs⟩
    · exact ⟨j, x, by rw [List.getElem?_set_ne (fun e => hj e.symm)]; exact hx, hs⟩

theorem wakeOne_at (T : List Tk) (k : Int) : (wakeOne T k).length = T.length ∧ ∀ (i : Nat) (t : Tk), T[i]? = some t → ∃ u, (wakeOne T k)[i]? = some u ∧ u.f = t.f ∧ u.c = t.c ∧ u.n = t.n := by
  unfold wakeOne
  rcases fndT_cases T k with ⟨_, h2⟩ | ⟨_, _, h2⟩ | ⟨h1, h1', t, h2, h3⟩
  · rw [h2]; exact ⟨rfl, fun i t ht => ⟨t, ht, rfl, rfl, rfl⟩⟩
  · rw [h2]; exact ⟨rfl, fun i t ht => ⟨t, ht, rfl, rfl, rfl⟩⟩
  · rw [h2]
    simp only
    split
    · refine ⟨List.length_set, fun i u hu => ?_⟩
      by_cases hi : i = k.toNat - 1
      · subst hi
        rw [h3] at hu
        cases hu
        exact ⟨t.go, List.getElem?_set_self (by omega), rfl, rfl, rfl⟩
      · exact ⟨u, by rw [List.getElem?_set_ne (fun e => hi e.symm)]; exact hu, rfl, rfl, rfl⟩
    · exact ⟨rfl, fun i t ht => ⟨t, ht, rfl, rfl, rfl⟩⟩
theorem wakeAll_at (T : List Tk) (L : List Int) : (wakeAll T L).length = T.length ∧ ∀ (i : Nat) (t : Tk), T[i]? = some t → ∃ u, (wakeAll T L)[i]? = some u ∧ u.f = t.f ∧ u.c = t.c ∧ u.n = t.n := by
  induction L generalizing T with
  | nil => exact ⟨rfl, fun i t ht => ⟨t, ht, rfl, rfl, rfl⟩⟩
  | cons k l ih =>
    obtain ⟨h1, h2⟩ := wakeOne_at T k
    obtain ⟨h3, h4⟩ := ih (wakeOne T k)
    refine ⟨h3.trans h1, fun i t ht => ?_⟩
    obtain ⟨u, hu, e1, e2, e3⟩ := h2 i t ht
    obtain ⟨u', hu', f1, f2, f3⟩ := h4 i u hu
    exact ⟨u', hu', f1.trans e1, f2.trans e2, f3.trans e3⟩

theorem TW.mono {w : World} {base P : Nat} {v : Value} {T : List Tk} {BS : List (Nat → Int)} {N N' : Int} (h : TW Z w base P v T BS N) (hN : N ≤ N') : TW Z w base P v T BS N' :=
  ⟨h.tu, h.len, h.job, h.cd, h.low, fun i t ht => by have := h.cnt i t ht; omega⟩

theorem TW.fr {S : Nat → Prop} {w w' : World} {base P : Nat} {v : Value} {T : List Tk} {BS : List (Nat → Int)} {N : Int} (h : TW Z w base P v T BS N) (F : Fr S w w') (hP : ¬ S P) (hv : ∀ g, v.ownBlock = some g → ¬ S g)
    (hT : ∀ k, tsS T k → ¬ S k) (hR : ∀ b, RR Z base w b → ¬ S b) : TW Z w' base P v T BS N :=
  ⟨h.tu.fr F hP hv (fun i t ht => hT _ ⟨i, t, ht, .inl rfl⟩), h.len, fun i t B ht hB => (h.job i t B ht hB).fr F (hT _ ⟨i, t, ht, .inr rfl⟩) hR, h.cd, h.low, h.cnt⟩
theorem TW.fr0 {w w' : World} {base P : Nat} {v : Value} {T : List Tk} {BS : List (Nat → Int)} {N : Int} (h : TW Z w base P v T BS N) (F : Fr (fun _ => False) w w') : TW Z w' base P v T BS N :=
  h.fr F (fun h => h) (fun _ _ h => h) (fun _ _ h => h) (fun _ _ h => h)

/-- one task has taken a step -/
theorem TW.step {w w' : World} {base P : Nat} {v : Value} {T : List Tk} {BS : List (Nat → Int)} {N : Int} (h : TW Z w base P v T BS N) {i : Nat} {t : Tk} (ht : T[i]? = some t) {B : Nat → Int} (hB : BS[i]? = some B)
    {s : Int} (hT : IsTurns w' base P v (T.set i (t.bump.to s))) (hj : jobAt Z base w' (t.bump.to s) B) (F : Fr (stS t) w w') : TW Z w' base P v (T.set i (t.bump.to s)) BS (N + 1) := by
  refine ⟨hT, by rw [List.length_set]; exact h.len, ?_, ?_, ?_, ?_⟩
  · intro j x B' hx hB'
    rcases set_get ht hx with ⟨rfl, rfl⟩ | ⟨hj', hx⟩
    · rw [hB] at hB'; cases hB'; exact hj
    · refine (h.job j x B' hx hB').fr F ?_ ?_
      · rintro (e | e)
        · obtain ⟨ty, cs, h1, h2, _⟩ := job_ty (h.job j x B' hx hB')
          exact ne_ty h1 (h.tu.each i t ht) h2 e
        · exact hj' (h.cd j i x t hx ht e)
      · exact fun b hb hs => (h.sep hb).2.2 ⟨i, t, ht, hs⟩
  · intro j k x y hx hy he
    rcases set_get ht hx with ⟨rfl, rfl⟩ | ⟨hj', hx'⟩ <;> rcases set_get ht hy with ⟨rfl, rfl⟩ | ⟨hk', hy'⟩
    · rfl
    · exact absurd (h.cd _ _ t y ht hy' he).symm hk'
    · exact absurd (h.cd _ _ x t hx' ht he) hj'
    · exact h.cd _ _ _ _ hx' hy' he
  · intro j x hx
    rcases set_get ht hx with ⟨rfl, rfl⟩ | ⟨hj', hx'⟩
    · exact h.low _ t ht
    · exact h.low _ _ hx'
  · intro j x hx
    rcases set_get ht hx with ⟨rfl, rfl⟩ | ⟨hj', hx'⟩
    · have := h.cnt _ t ht
      show 0 ≤ t.n + 1 ∧ t.n + 1 ≤ N + 1
      omega
    · have := h.cnt _ _ hx'
      omega

theorem c_PickT (base P : Nat) (v : Value) (T : List Tk) (BS : List (Nat → Int)) (N : Int) (pick : Int) (w : World) (h : TW Z w base P v T BS N) (hpk : I64 pick) (hN : N < 900000000) :
    Calls Try.prog 13 #[.pointer (some ⟨P, 0, none⟩), .int .i64 pick] w fun e w' => e = .returned (.tuple #[.int .i64 (pickR T pick).1, .bool (pickR T pick).2]) ∧
      TW Z w' base P v (pickT BS T pick) BS (N + 1) ∧ Fr (tsS T) w w' := by
  by_cases hr : rdy T = []
  · have e1 : rdyAt T pick = none := by unfold rdyAt; rw [if_pos hr]
    unfold pickR pickT
    rw [e1]
    refine (c_Pick_none base P v T pick w h.tu hr).mono ?_
    rintro e w' ⟨rfl, f⟩
    exact ⟨rfl, (h.fr0 f).mono (by omega), f.mono (fun _ _ h => h.elim)⟩
  · obtain ⟨i, t, e1, ht, hst, hg⟩ := rdyAt_spec T pick hr
    unfold pickR pickT
    rw [e1]
    simp only [ht]
    obtain ⟨B, hB, hj⟩ := h.get ht
    have hBd : BS.getD i (fun _ => 2) = B := by rw [List.getD_eq_getElem?_getD, hB]; rfl
    rw [hBd]
    have hc := h.cnt i t ht
    obtain ⟨m, hm⟩ : ∃ m : Nat, t.n = m := ⟨t.n.toNat, by omega⟩
    have hm' : t.n.toNat = m := by omega
    rw [hm']
    have hsep : ∀ b, RR Z base w b → ¬ stS t b := fun b hb hs => (h.sep hb).2.2 ⟨i, t, ht, hs⟩
    have hfS : ∀ k, stS t k → tsS T k := fun k hk => ⟨i, t, ht, hk⟩
    have hj0 := hj
    rcases hj with ⟨hf, a, n, cp, L, h1, h2, h3, rfl⟩ | ⟨hf, c0, h1, h2, h3, rfl⟩
    · rw [hm] at h1
      refine (c_PickTold base P v T pick w h.tu hpk i t ht hf hr hg (by omega) a n cp L m h1 h2 (fun h0 b off e => ?_) (by omega)).mono ?_
      · have := hsep b (h3 h0 b off e)
        exact ⟨fun e => this (.inr e), fun e => this (.inl e)⟩
      · rintro e w' ⟨rfl, h4, h5, f⟩
        refine ⟨rfl, h.step ht hB h4 (.inl ⟨hf, a, n, cp, L, ?_, ⟨h2.hlen, h2.le, h2.rng, fun h0 => ?_⟩, fun h0 b off e => (h3 h0 b off e).fr f (hsep b (h3 h0 b off e)), rfl⟩) f, f.mono (fun k _ hk => hfS k hk)⟩
        · show Blk w' t.c _ (toldC a n cp (t.n + 1))
          rw [hm]; exact h5
        · obtain ⟨b, off, e, h7, h8⟩ := h2.at_ h0
          exact ⟨b, off, e, Nat.lt_of_lt_of_le h7 f.size, fun i hi => f.cell (h8 i hi) (hsep b (h3 h0 b off e))⟩
    · refine (c_PickCounter base P v T pick w h.tu hpk i t ht hf hr hg (by omega) (c0 - t.n) h3 (by omega)).mono ?_
      rintro e w' ⟨rfl, h4, h5, f⟩
      have e2 : (if c0 - t.n - 1 ≤ 0 then (2 : Int) else 0) = cntB c0 m := by unfold cntB; rw [hm]
      rw [e2] at h4
      refine ⟨rfl, h.step ht hB h4 (.inr ⟨hf, c0, h1, h2, ?_, rfl⟩) f, f.mono (fun k _ hk => hfS k hk)⟩
      show Blk w' t.c _ [.int .i64 (c0 - (t.n + 1))]
      rw [show c0 - (t.n + 1) = c0 - t.n - 1 by omega]
      exact h5

theorem c_AddT (base P : Nat) (v : Value) (T : List Tk) (BS : List (Nat → Int)) (N : Int) (f x : Nat) (B : Nat → Int) (w : World) (h : TW Z w base P v T BS N) (hN : 0 ≤ N) (hlen : T.length < 128)
    (hj : jobAt Z base w ⟨0, f, x, 0, 0⟩ B) (hx : ∀ (i : Nat) (t : Tk), T[i]? = some t → t.c ≠ x) (hxb : base ≤ x) :
    Calls Try.prog 11 #[.pointer (some ⟨P, 0, none⟩), .func (.func f) #[.pointer (some ⟨x, 0, none⟩)] #[]] w fun e w' => e = .returned (.tuple #[.int .i64 ((T.length : Int) + 1), .int .i64 0]) ∧
      ∃ v' b, w.heap.size ≤ b ∧ TW Z w' base P v' (T ++ [⟨b, f, x, 0, 0⟩]) (BS ++ [B]) N ∧ Fr (addS P v) w w' := by
  refine (c_Add base P v T f x w h.tu hlen).mono ?_
  rintro e w' ⟨rfl, v', b, hb, h2, F⟩
  have hjc : ∀ (t : Tk) (B' : Nat → Int), jobAt Z base w t B' → ¬ addS P v t.c := fun t B' hj' => by
    obtain ⟨ty, cs, h1, h3, h4, h5, _⟩ := job_ty hj'
    rintro (e | e)
    · exact ne_ty h1 h.tu.str h4 e
    · obtain ⟨cs', h6, _⟩ := own_ty h.tu.row e
      exact ne_ty h1 h6 h5 rfl
  have hRn : ∀ b, RR Z base w b → ¬ addS P v b := fun b hb hs => by
    have := h.sep hb
    rcases hs with e | e
    · exact this.1 e
    · exact this.2.1 _ e rfl
  refine ⟨rfl, v', b, hb, ⟨h2, by simp [h.len], ?_, ?_, ?_, ?_⟩, F⟩
  · intro i t B' ht hB'
    rcases get_append ht with ht | ⟨rfl, rfl⟩
    · have hi : i < BS.length := by
        rw [h.len]
        rcases Nat.lt_or_ge i T.length with h1 | h1
        · exact h1
        · rw [List.getElem?_eq_none h1] at ht; cases ht
      rw [List.getElem?_append_left hi] at hB'
      exact (h.job i t B' ht hB').fr F (hjc _ _ (h.job i t B' ht hB')) hRn
    · rw [List.getElem?_append_right (by rw [h.len]; exact Nat.le_refl _), h.len, Nat.sub_self] at hB'
      obtain rfl : B = B' := by simpa using hB'
      exact hj.fr F (hjc _ _ hj) hRn
  · intro i j t u ht hu he
    rcases get_append ht with ht | ⟨rfl, rfl⟩ <;> rcases get_append hu with hu | ⟨rfl, rfl⟩
    · exact h.cd i j t u ht hu he
    · exact absurd he (hx i t ht)
    · exact absurd he.symm (hx j u hu)
    · rfl
  · intro i t ht
    rcases get_append ht with ht | ⟨rfl, rfl⟩
    · exact h.low i t ht
    · exact hxb
  · intro i t ht
    rcases get_append ht with ht | ⟨rfl, rfl⟩
    · exact h.cnt i t ht
    · exact ⟨Int.le_refl _, hN⟩

/-- what is waked -/
theorem c_WakeT (base P : Nat) (v : Value) (T : List Tk) (BS : List (Nat → Int)) (N : Int) (a : Option Addr) (n cp : Nat) (L : List Int) (w : World) (h : TW Z w base P v T BS N) (hL : RdI .i64 w a n L) (hne : ∀ b off, 0 < n → a = some ⟨b, off, none⟩ → RR Z base w b) :
    Calls Try.prog 18 #[.pointer (some ⟨P, 0, none⟩), .slice a n cp] w fun e w' => e = .returned (.int .i64 (wakeN T L)) ∧ TW Z w' base P v (wakeAll T L) BS N ∧ Fr (tkS T) w w' := by
  have hts : ∀ k, tkS T k → tsS T k := fun k ⟨i, t, ht, e⟩ => ⟨i, t, ht, .inl e.symm⟩
  refine (c_Wake base P v T a n cp L w h.tu hL (fun b off h0 e hk => (h.sep (hne b off h0 e)).2.2 (hts b hk))).mono ?_
  rintro e w' ⟨rfl, h2, F⟩
  obtain ⟨hl, hg⟩ := wakeAll_at T L
  have hget : ∀ (i : Nat) (u : Tk), (wakeAll T L)[i]? = some u → ∃ t, T[i]? = some t ∧ u.f = t.f ∧ u.c = t.c ∧ u.n = t.n := fun i u hu => by
    have hi : i < T.length := by
      rcases Nat.lt_or_ge i T.length with h1 | h1
      · exact h1
      · rw [List.getElem?_eq_none (by omega)] at hu; cases hu
    obtain ⟨u', h5, h6⟩ := hg i _ (List.getElem?_eq_getElem hi)
    rw [hu] at h5
    cases h5
    exact ⟨_, List.getElem?_eq_getElem hi, h6⟩
  refine ⟨rfl, ⟨h2, by rw [h.len, hl], ?_, ?_, ?_, ?_⟩, F⟩
  · intro i u B hu hB
    obtain ⟨t, ht, e1, e2, e3⟩ := hget i u hu
    have hj := (h.job i t B ht hB).fr F (fun hk => by
      obtain ⟨j, x, hx, he⟩ := hk
      obtain ⟨ty, cs, h1, h3, _⟩ := job_ty (h.job i t B ht hB)
      exact ne_ty h1 (h.tu.each j x hx) h3 he.symm) (fun b hb hk => (h.sep hb).2.2 (hts b hk))
    unfold jobAt at hj ⊢
    rw [e1, e2, e3]
    exact hj
  · intro i j t u ht hu he
    obtain ⟨t', ht', _, e2, _⟩ := hget i t ht
    obtain ⟨u', hu', _, e4, _⟩ := hget j u hu
    exact h.cd i j t' u' ht' hu' (by rw [← e2, ← e4]; exact he)
  · intro i t ht
    obtain ⟨t', ht', _, e2, _⟩ := hget i t ht
    rw [e2]; exact h.low i t' ht'
  · intro i t ht
    obtain ⟨t', ht', _, _, e3⟩ := hget i t ht
    rw [e3]; exact h.cnt i t' ht'

theorem pickT_S (BS : List (Nat → Int)) (T : List Tk) (pick : Int) (k : Nat) : tsS (pickT BS T pick) k ↔ tsS T k := by
  unfold pickT
  cases rdyAt T pick with
  | none => exact Iff.rfl
  | some i =>
    simp only
    cases ht : T[i]? with
    | none => exact Iff.rfl
    | some t => simp only; exact set_stS (u := t.bump.to _) ht rfl rfl

/-! ### Run -/
def pickOf (picks : List Int) (j : Nat) : Int := if j < picks.length then picks.getD j 0 else (j : Int) - picks.length
def runT (BS : List (Nat → Int)) (picks : List Int) : Nat → Nat → List Tk → Nat × List Tk
  | 0, j, T => (j, T)
  | f + 1, j, T => if rdy T = [] then (j, T) else runT BS picks f (j + 1) (pickT BS T (pickOf picks j))

theorem ent_Pick (xs : Array Value) (w : World) : (callFunc 13 xs).run Try.prog w = .ok (.enter 13 xs) w := by
  go_simp

theorem pickR_snd (T : List Tk) (pick : Int) : (pickR T pick).2 = !decide (rdy T = []) := by
  unfold pickR rdyAt
  by_cases hr : rdy T = []
  · rw [if_pos hr, decide_eq_true hr]; rfl
  · rw [if_neg hr, decide_eq_false hr]; rfl
theorem pickT_nil (BS : List (Nat → Int)) (T : List Tk) (pick : Int) (hr : rdy T = []) : pickT BS T pick = T := by
  unfold pickT rdyAt
  rw [if_pos hr]

set_option maxHeartbeats 800000 in
theorem c_RunT (base P : Nat) (v : Value) (T : List Tk) (BS : List (Nat → Int)) (N : Int) (fuel : Int) (a : Option Addr) (n cp : Nat) (L : List Int) (w : World) (h : TW Z w base P v T BS N)
    (hL : RdI .i64 w a n L) (hne : ∀ b off, 0 < n → a = some ⟨b, off, none⟩ → ¬ tsS T b) (hf : -1000000 ≤ fuel ∧ fuel ≤ 1000000) (hN : N + fuel + 1 < 800000000) (hN0 : N + 1 < 800000000) :
    Calls Try.prog 17 #[.pointer (some ⟨P, 0, none⟩), .int .i64 fuel, .slice a n cp] w fun e w' => e = .returned (.int .i64 ((runT BS L fuel.toNat 0 T).1)) ∧
      TW Z w' base P v ((runT BS L fuel.toNat 0 T).2) BS (N + fuel.toNat + 1) ∧ Fr (tsS T) w w' := by
  have hll := hL.hlen
  have hn := hL.le
  have hrg := hL.rng rfl
  unfold maxLen at hn
  obtain ⟨RN, hRN⟩ : ∃ x, x = runT BS L fuel.toNat 0 T := ⟨_, rfl⟩
  rw [← hRN]
  have HRN := Lib.hid hRN
  have HLL := Lib.hid hll
  have H := Lib.hid h
  have HL := Lib.hid hL
  have HRG := Lib.hid hrg
  have HNE := Lib.hid hne
  clear hRN hll h hL hrg hne
  go_enter Try.func17, Try.ntmps17
  go_wp2_with fail
  go_loopw [8] (fun i wr => ∃ (j : Nat) (T' : List Tk), i = .int .i64 j ∧ (j : Int) ≤ 1000000 ∧ (j = 0 ∨ (j : Int) ≤ fuel) ∧ runT BS L (fuel.toNat - j) j T' = RN ∧ TW Z wr base P v T' BS (N + j) ∧ (∀ k, tsS T' k ↔ tsS T k) ∧ Fr (tsS T) w wr) (fun i _ => (fuel - intOf i).toNat)
  case atStart => exact ⟨0, T, rfl, by omega, .inl rfl, HRN.out.symm, H.out.mono (by omega), fun _ => Iff.rfl, Fr.refl _ _⟩
  case round =>
    obtain ⟨j, T', rfl, hj, hj0, hR, hT, hS, G⟩ := hrel
    by_cases hlt : (j : Int) < fuel
    · have hfj : fuel.toNat - j = (fuel.toNat - (j + 1)) + 1 := by omega
      rw [hfj, runT] at hR
      have hps := pickT_S BS T' (pickOf L j)
      have hpk : I64 (pickOf L j) := by
        unfold pickOf
        split
        · rename_i h1
          rw [List.getD_eq_getElem?_getD, List.getElem?_eq_getElem h1]
          exact HRG.out _ (List.getElem_mem h1)
        · unfold I64; have := HLL.out; omega
      have hpick := c_PickT base P v T' BS (N + j) (pickOf L j) wr hT hpk (by omega)
      rw [pickR_snd] at hpick
      generalize (pickR T' (pickOf L j)).1 = kk at hpick
      have hcl : ∀ p, p = pickOf L j → Hid (Calls Try.prog 13 #[.pointer (some ⟨P, 0, none⟩), .int .i64 p] wr fun e w' => e = .returned (.tuple #[.int .i64 kk, .bool (!decide (rdy T' = []))]) ∧
        TW Z w' base P v (pickT BS T' (pickOf L j)) BS (N + j + 1) ∧ Fr (tsS T') wr w') := by rintro p rfl; exact Lib.hid hpick
      clear hpick
      have hlast : ∀ w', TW Z w' base P v (pickT BS T' (pickOf L j)) BS (N + j + 1) → Fr (tsS T') wr w' → rdy T' = [] → (j : Int) = RN.1 ∧ TW Z w' base P v RN.2 BS (N + fuel.toNat + 1) ∧ Fr (tsS T) w w' := fun w' h1 h2 h3 => by
        rw [if_pos h3] at hR
        rw [pickT_nil _ _ _ h3] at h1
        rw [← hR]
        exact ⟨rfl, h1.mono (by omega), G.step h2 (fun i hi => .inl ((hS i).1 hi))⟩
      have HLT := Lib.hid hlast
      have hnext : ∀ w', TW Z w' base P v (pickT BS T' (pickOf L j)) BS (N + j + 1) → Fr (tsS T') wr w' → rdy T' ≠ [] → runT BS L (fuel.toNat - (j + 1)) (j + 1) (pickT BS T' (pickOf L j)) = RN ∧ TW Z w' base P v (pickT BS T' (pickOf L j)) BS (N + (j + 1 : Nat)) ∧ (∀ k, tsS (pickT BS T' (pickOf L j)) k ↔ tsS T k) ∧ Fr (tsS T) w w' := fun w' h1 h2 h3 => by
        rw [if_neg h3] at hR
        exact ⟨hR, h1.mono (by omega), fun k => (hps k).trans (hS k), G.step h2 (fun i hi => .inl ((hS i).1 hi))⟩
      have HNX := Lib.hid hnext
      have hcell : j < n → ∃ b off, a = some ⟨b, off, none⟩ ∧ wr.cell? ⟨b, off + j, none⟩ = some (.int .i64 (pickOf L j)) := fun h1 => by
        obtain ⟨b, off, e, _, h3⟩ := HL.out.at_ (by omega)
        refine ⟨b, off, e, ?_⟩
        have h4 := G.cell (h3 j h1) (HNE.out b off (by omega) e)
        rw [h4]
        unfold pickOf
        rw [if_pos (by have := HLL.out; omega)]
      have hpo : ¬ j < n → (j : Int) - n = pickOf L j := fun h1 => by
        unfold pickOf
        have := HLL.out
        rw [if_neg (by omega), this]
      have hd : decide (rdy T' = []) = true ∧ rdy T' = [] ∨ decide (rdy T' = []) = false ∧ rdy T' ≠ [] := by
        by_cases h1 : rdy T' = []
        · exact .inl ⟨decide_eq_true h1, h1⟩
        · exact .inr ⟨decide_eq_false h1, h1⟩
      have HD := Lib.hid hd
      clear hd hnext hlast hps hR hT hS
      generalize decide (rdy T' = []) = bb at *
      by_cases h1 : j < n
      · obtain ⟨b, off, rfl, hcl2⟩ := hcell h1
        have HC := hcl _ rfl
        clear hpo hcell hcl
        generalize pickOf L j = p at *
        rcases HD.out with ⟨rfl, h5⟩ | ⟨rfl, h5⟩
        · go_wp2_with fail
          refine HC.out.mono ?_
          rintro e w' ⟨rfl, h6, h7⟩
          have h8 := HLT.out w' h6 h7 h5
          have H8 := Lib.hid h8
          clear h6 h7 h8
          go_wp2
          go_ret
          exact ⟨by rw [← H8.out.1]; rfl, H8.out.2⟩
        · go_wp2_with fail
          refine HC.out.mono ?_
          rintro e w' ⟨rfl, h6, h7⟩
          have h8 := HNX.out w' h6 h7 h5
          have H8 := Lib.hid h8
          clear h6 h7 h8
          go_wp2
          go_roundw
          case rel => exact ⟨j + 1, _, by go_num, by omega, .inr (by omega), H8.out.1, H8.out.2.1, H8.out.2.2.1, H8.out.2.2.2⟩
          case measure => simp [intOf]; omega
      · have HC := hcl _ (hpo h1)
        clear hpo hcell hcl
        generalize pickOf L j = p at *
        rcases HD.out with ⟨rfl, h5⟩ | ⟨rfl, h5⟩
        · go_wp2_with fail
          refine HC.out.mono ?_
          rintro e w' ⟨rfl, h6, h7⟩
          have h8 := HLT.out w' h6 h7 h5
          have H8 := Lib.hid h8
          clear h6 h7 h8
          go_wp2
          go_ret
          exact ⟨by rw [← H8.out.1]; rfl, H8.out.2⟩
        · go_wp2_with fail
          refine HC.out.mono ?_
          rintro e w' ⟨rfl, h6, h7⟩
          have h8 := HNX.out w' h6 h7 h5
          have H8 := Lib.hid h8
          clear h6 h7 h8
          go_wp2
          go_roundw
          case rel => exact ⟨j + 1, _, by go_num, by omega, .inr (by omega), H8.out.1, H8.out.2.1, H8.out.2.2.1, H8.out.2.2.2⟩
          case measure => simp [intOf]; omega
    · have hR2 : runT BS L 0 j T' = RN := by rw [← hR]; congr 1; omega
      have H2 : (j : Int) = RN.1 ∧ T' = RN.2 := by rw [← hR2]; exact ⟨rfl, rfl⟩
      have hT2 := hT.mono (N' := N + fuel.toNat + 1) (by omega)
      rw [H2.2] at hT2
      have HT := Lib.hid hT2
      have HE := Lib.hid H2.1
      clear hT hT2 hR hR2 H2 hS
      go_wp2
      go_ret
      exact ⟨by rw [← HE.out]; rfl, by have := HT.out; rwa [Int.ofNat_toNat] at this, G⟩
end Go.Proofs.Ythpghoafjpbdbaa
