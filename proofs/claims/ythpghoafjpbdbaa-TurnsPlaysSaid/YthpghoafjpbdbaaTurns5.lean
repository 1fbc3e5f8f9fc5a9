/- Pick: one task takes a step. -/
import Derived.Test.YthpghoafjpbdbaaTurns4
import Derived.Deep.DeepCutAuto
namespace Go.Proofs.Ythpghoafjpbdbaa
open Go.RowKit Go.HK
set_option maxRecDepth 100000

def Tk.bump (t : Tk) : Tk := { t with n := t.n + 1 }
def Tk.to (t : Tk) (s : Int) : Tk := { t with st := if s < 0 ∨ 2 < s then 2 else s }
/-- which of L.length a pick means -/
def pickI (pick : Int) (m : Nat) : Nat := ((if pick < 0 then -(pick + 1) else pick) % m).toNat

theorem rdyUp_mem (T : List Tk) (j : Nat) (x : Int) : x ∈ rdyUp T j ↔ ∃ i : Nat, x = (i : Int) + 1 ∧ i < j ∧ isGo T i = true := by
  induction j with
  | zero => simp [rdyUp]
  | succ j ih =>
    unfold rdyUp
    by_cases hb : isGo T j = true
    · rw [if_pos hb, List.mem_append, ih]
      constructor
      · rintro (⟨i, h1, h2, h3⟩ | h)
        · exact ⟨i, h1, by omega, h3⟩
        · simp at h; exact ⟨j, h, by omega, hb⟩
      · rintro ⟨i, h1, h2, h3⟩
        by_cases hij : i = j
        · right; simp [h1, hij]
        · exact .inl ⟨i, h1, by omega, h3⟩
    · rw [if_neg hb, ih]
      constructor
      · rintro ⟨i, h1, h2, h3⟩; exact ⟨i, h1, by omega, h3⟩
      · rintro ⟨i, h1, h2, h3⟩
        by_cases hij : i = j
        · subst hij; exact absurd h3 hb
        · exact ⟨i, h1, by omega, h3⟩

theorem c_Pick_none (base P : Nat) (v : Value) (T : List Tk) (pick : Int) (w : World) (h : IsTurns w base P v T) (hr : rdy T = []) :
    Calls Try.prog 13 #[.pointer (some ⟨P, 0, none⟩), .int .i64 pick] w fun e w' => e = .returned (.tuple #[.int .i64 0, .bool false]) ∧ Fr (fun _ => False) w w' := by
  have hq := c_Ready base P v T w h
  rw [hr] at hq
  have HQ := Lib.hid hq
  clear hq h hr
  go_enter Try.func13, Try.ntmps13
  go_wp2_with fail
  refine HQ.out.mono ?_
  rintro e w1 ⟨v1, rfl, hv, f1⟩
  obtain ⟨a, cap, rfl, _⟩ := owns_rd hv
  simp only [List.length_nil]
  go_wp2
  go_ret2
  exact ⟨rfl, f1⟩

theorem IsTurns.setAt {w : World} {base P : Nat} {v : Value} {T : List Tk} (h : IsTurns w base P v T) {i : Nat} {t u : Tk} (ht : T[i]? = some t) (hb : u.blk = t.blk) (hr : I64 u.n ∧ I64 u.st)
    {w' : World} (hu : Blk w' u.blk 66 u.cells) (F : Fr (fun k => k = t.blk) w w') : IsTurns w' base P v (T.set i u) := by
  have hne : ∀ (b : Nat) (ty : TypeId) (cs : List Value), Blk w b ty cs → ty ≠ 66 → b ≠ t.blk := fun b ty cs h1 h2 => by
    have h3 := h.each i t ht
    exact ne_ty h1 h3 h2
  have hlen : (T.set i u).length = T.length := by simp
  have hit : i < T.length := by
    rcases Nat.lt_or_ge i T.length with h1 | h1
    · exact h1
    · rw [List.getElem?_eq_none h1] at ht; cases ht
  have hget : ∀ (j : Nat) (x : Tk), (T.set i u)[j]? = some x → (j = i ∧ x = u) ∨ (j ≠ i ∧ T[j]? = some x) := fun j x hx => by
    by_cases hj : j = i
    · subst hj
      rw [List.getElem?_set_self hit] at hx
      cases hx
      exact .inl ⟨rfl, rfl⟩
    · rw [List.getElem?_set_ne (fun e => hj e.symm)] at hx
      exact .inr ⟨hj, hx⟩
  have hmap : (T.set i u).map Tk.ptr = T.map Tk.ptr := by
    rw [List.map_set]
    have hp : u.ptr = (T.map Tk.ptr)[i]'(by simpa using hit) := by
      rw [List.getElem?_eq_getElem hit] at ht
      have e : T[i] = t := Option.some.inj ht
      rw [List.getElem_map, e]
      unfold Tk.ptr
      rw [hb]
    rw [hp, List.set_getElem_self]
  refine ⟨F.blk h.str (hne _ _ _ h.str (by decide)), ?_, ?_, ?_, ⟨h.low.1, ?_⟩, by rw [hlen]; exact h.len, ?_⟩
  · rw [hlen, hmap]
    refine F.owns2 h.row (fun g hg he => ?_)
    obtain ⟨cs, h1, _⟩ := own_ty h.row hg
    have h3 := h.each i t ht
    exact ne_ty h3 h1 (by decide) he.symm
  · intro j x hx
    rcases hget j x hx with ⟨rfl, rfl⟩ | ⟨hj, hx⟩
    · exact hu
    · exact F.blk (h.each j x hx) (fun e => hj (h.dist j i x t hx ht e))
  · intro j k x y hx hy he
    rcases hget j x hx with ⟨e1, e2⟩ | ⟨hj, hx'⟩ <;> rcases hget k y hy with ⟨e3, e4⟩ | ⟨hk, hy'⟩
    · omega
    · exact absurd (h.dist k i y t hy' ht (by rw [← he, e2, hb])) hk
    · exact absurd (h.dist j i x t hx' ht (by rw [he, e4, hb])) hj
    · exact h.dist _ _ _ _ hx' hy' he
  · intro j x hx
    rcases hget j x hx with ⟨rfl, rfl⟩ | ⟨hj, hx⟩
    · rw [hb]; exact h.low.2 _ _ ht
    · exact h.low.2 _ _ hx
  · intro j x hx
    rcases hget j x hx with ⟨rfl, rfl⟩ | ⟨hj, hx⟩
    · exact hr
    · exact h.rng _ _ hx
theorem pick_lt (pick : Int) {m : Nat} (hm : 0 < m) : pickI pick m < m ∧ ((if pick < 0 then -(pick + 1) else pick) % (m : Int)) = pickI pick m := by
  unfold pickI
  generalize (if pick < 0 then -(pick + 1) else pick) = z
  have h1 := Int.emod_nonneg z (b := (m : Int)) (by omega)
  have h2 := Int.emod_lt_of_pos z (b := (m : Int)) (by omega)
  omega

theorem c_Pick (base P : Nat) (v : Value) (T : List Tk) (pick : Int) (w : World) (h : IsTurns w base P v T) (hpk : I64 pick) (i : Nat) (t : Tk) (ht : T[i]? = some t) (hr : rdy T ≠ [])
    (hi : (rdy T).getD (pickI pick (rdy T).length) 0 = (i : Int) + 1) (hn : 0 ≤ t.n ∧ t.n < 1000000000) (hent : ∀ xs w, (callFunc t.f xs).run Try.prog w = .ok (.enter t.f xs) w) (R : World → Int → Value → List Tk → Prop)
    (hstep : ∀ w1, IsTurns w1 base P v (T.set i t.bump) → Fr (fun k => k = t.blk) w w1 → Calls Try.prog t.f #[.pointer (some ⟨t.c, 0, none⟩)] w1 fun e w2 => ∃ s v' T', e = .returned (.int .i64 s) ∧ IsTurns w2 base P v' T' ∧ T'[i]? = some t.bump ∧ R w2 s v' T') :
    Calls Try.prog 13 #[.pointer (some ⟨P, 0, none⟩), .int .i64 pick] w fun e w' => e = .returned (.tuple #[.int .i64 ((i : Int) + 1), .bool true]) ∧
      ∃ w2 s v' T', R w2 s v' T' ∧ IsTurns w' base P v' (T'.set i (t.bump.to s)) ∧ Fr (fun k => k = t.blk) w2 w' := by
  have hq := c_Ready base P v T w h
  have HQ := Lib.hid hq
  obtain ⟨m, hm⟩ : ∃ m, m = (rdy T).length := ⟨_, rfl⟩
  have hm0 : 0 < m := by
    rw [hm]
    exact List.length_pos_iff.2 hr
  have hml : m ≤ 128 := by rw [hm]; exact Nat.le_trans (rdyUp_le T T.length) h.len
  obtain ⟨hx1, hx2⟩ := pick_lt pick hm0
  rw [← hm] at hi
  generalize pickI pick m = r at *
  have hil : i < T.length := by
    rcases Nat.lt_or_ge i T.length with h1 | h1
    · exact h1
    · rw [List.getElem?_eq_none h1] at ht; cases ht
  have hTl := h.len
  obtain ⟨hk1, hk2⟩ := hpk
  have HH := Lib.hid h
  have HI := Lib.hid hi
  have HT := Lib.hid ht
  have HS := Lib.hid hstep
  have HM := Lib.hid hm
  clear hq h hr hi ht hstep hm
  by_cases hp : pick < 0
  all_goals
    first | rw [if_pos hp] at hx2 | rw [if_neg hp] at hx2
    have HX := Lib.hid hx2
    clear hx2
    go_enter Try.func13, Try.ntmps13
    go_wp2_with fail
    refine HQ.out.mono ?_
    rintro e w1 ⟨v1, rfl, hv, f1⟩
    rw [← HM.out] at hv
    obtain ⟨a, cap, rfl, hc⟩ := owns_rd hv
    go_upto_region 6 with fail
    have hz : ∃ z : Int, z = (if pick < 0 then -(pick + 1) else pick) ∧ 0 ≤ z ∧ z ≤ 9223372036854775807 := ⟨_, rfl, by split <;> omega, by split <;> omega⟩
    obtain ⟨z, hz, hz0, hz1⟩ := hz
    first | rw [if_pos (by omega)] at hz | rw [if_neg (by omega)] at hz
    rw [← hz]
    have HX' := HX.out
    rw [← hz] at HX'
    obtain ⟨g, rfl, _, _, hc⟩ := hc hm0
    have hcell : w1.cell? ⟨g, (z % (m : Int)).toNat, none⟩ = some (.int .i64 ((i : Int) + 1)) := by
      rw [HX']
      refine hc _ _ ?_
      rw [← HI.out, List.getElem?_map, List.getD_eq_getElem?_getD]
      simp only [Int.toNat_natCast]
      rw [List.getElem?_eq_getElem (by rw [← HM.out]; exact hx1)]
      rfl
    have hb0 : 0 ≤ z % (m : Int) := by omega
    have hb1 : z % (m : Int) < m := by omega
    clear HX' HX hv hc hz hp
    have h1 := HH.out.fr f1 (fun h => h) (fun _ _ h => h) (fun _ _ _ h => h)
    have hfd := c_find base P v T ((i : Int) + 1) w1 h1
    have hft : fndT T ((i : Int) + 1) = some t := by
      unfold fndT
      rw [if_pos (by omega), show ((i : Int) + 1).toNat - 1 = i by omega]
      exact HT.out
    have e1 : ptrT (some t) = .pointer (some ⟨t.blk, 0, none⟩) := rfl
    rw [hft, e1] at hfd
    have HFD := Lib.hid hfd
    have hb := h1.each i t HT.out
    have hc0 : w1.cell? ⟨t.blk, 0, none⟩ = some (.func (.func t.f) #[.pointer (some ⟨t.c, 0, none⟩)] #[]) := hb.cell 0
    have hc2 : w1.cell? ⟨t.blk, 2, none⟩ = some (.int .i64 t.n) := hb.cell 2
    have hz2 := hb.frz 2
    have hn1 := hn.1
    have hn2 := hn.2
    clear hfd hft e1 hn
    go_wp2_with fail
    refine HFD.out.mono ?_
    rintro e w' ⟨rfl, rfl⟩
    have hb2 := hb.set 2 (.int .i64 (t.n + 1))
    have F2 := (Fr.refl (fun k => k = t.blk) w').set (a := ⟨t.blk, 2, none⟩) (.inl rfl) (.int .i64 (t.n + 1))
    have hrg := h1.rng i t HT.out
    have h2 := h1.setAt (u := t.bump) HT.out rfl ⟨by unfold I64 Tk.bump; simp only; omega, hrg.2⟩ hb2 F2
    have HST := Lib.hid (HS.out _ h2 ((f1.mono (fun _ _ h => h.elim)).trans F2))
    clear h1 HFD hb2 F2 h2
    go_wp2_with fail
    refine HST.out.mono ?_
    rintro e w2 ⟨s, v', T', rfl, h3, h4, hR⟩
    have hb3 : Blk w2 t.blk 66 t.bump.cells := h3.each i _ h4
    have hc1 : w2.cell? ⟨t.blk, 1, none⟩ = some (.int .i64 t.st) := hb3.cell 1
    have hz1 := hb3.frz 1
    have hrg3 := h3.rng i _ h4
    have hfin : ∀ s' : Int, s' = (if s < 0 ∨ 2 < s then 2 else s) → IsTurns (w2.setCell ⟨t.blk, 1, none⟩ (.int .i64 s')) base P v' (T'.set i (t.bump.to s)) ∧ Fr (fun k => k = t.blk) w2 (w2.setCell ⟨t.blk, 1, none⟩ (.int .i64 s')) := fun s' hs' => by
      have F4 := (Fr.refl (fun k => k = t.blk) w2).set (a := ⟨t.blk, 1, none⟩) (.inl rfl) (.int .i64 s')
      have hb4 := hb3.set 1 (.int .i64 s')
      subst hs'
      refine ⟨h3.setAt (u := t.bump.to s) h4 rfl ⟨hrg3.1, ?_⟩ hb4 F4, F4⟩
      unfold Tk.to I64
      simp only
      split <;> omega
    have HFN := Lib.hid hfin
    clear hfin hrg3 hb3 h3 HST
    have hsc : (s < 0) ∨ (0 ≤ s ∧ 2 < s) ∨ (0 ≤ s ∧ s ≤ 2) := by omega
    rcases hsc with h5 | ⟨h5, h6⟩ | ⟨h5, h6⟩
    · obtain ⟨h7, h8⟩ := HFN.out 2 (by rw [if_pos (.inl h5)])
      have H7 := Lib.hid h7
      have H8 := Lib.hid h8
      clear h7 h8
      go_wp2
      go_ret2
      exact ⟨rfl, w2, s, v', T', hR, H7.out, H8.out⟩
    · obtain ⟨h7, h8⟩ := HFN.out 2 (by rw [if_pos (.inr h6)])
      have H7 := Lib.hid h7
      have H8 := Lib.hid h8
      clear h7 h8
      go_wp2
      go_ret2
      exact ⟨rfl, w2, s, v', T', hR, H7.out, H8.out⟩
    · obtain ⟨h7, h8⟩ := HFN.out s (by rw [if_neg (by omega)])
      have H7 := Lib.hid h7
      have H8 := Lib.hid h8
      clear h7 h8
      go_wp2
      go_ret2
      exact ⟨rfl, w2, s, v', T', hR, H7.out, H8.out⟩
end Go.Proofs.Ythpghoafjpbdbaa
