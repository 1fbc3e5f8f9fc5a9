/- The document's Turns as it lies in memory; Ready, Wake; same. -/
import Derived.Test.YthpghoafjpbdbaaAwake2
import Derived.Test.YthpghoafjpbdbaaTurns11
import Derived.Deep.QuietTactic
import Derived.BigQuiet
namespace Go.Proofs.Ythpghoafjpbdbaa
open Go.RowKit Go.HK
set_option maxRecDepth 100000

/-- a store into a row of its own -/
theorem own_set {w : World} {base : Nat} {e : TypeId} {v : Value} {n : Nat} {xs : List Value} (h : w.ownsRow base e 1 v n xs) {g : Nat} (hg : v.ownBlock = some g) {i : Nat} (u : Value) :
    (w.setCell ⟨g, i, none⟩ u).ownsRow base e 1 v n (xs.set i u) := by
  obtain ⟨hl, ⟨h1, _⟩ | ⟨g', cap, cur, hv, hb, hc, hnc, hm, hs, ht⟩⟩ := h
  · rw [h1] at hg; simp [Value.ownBlock] at hg
  · rw [hv] at hg
    simp [Value.ownBlock] at hg
    subst hg
    have hb2 : Blk w g' e cur.toList := by unfold Blk; simpa using hc
    have hb3 := hb2.set i u
    refine ⟨by rw [List.length_set]; exact hl, .inr ⟨g', cap, (cur.toList.set i u).toArray, hv, hb, hb3, hnc, hm, by simpa using hs, ?_⟩⟩
    simp only
    rw [List.take_set, ht]
theorem own_frz {w : World} {base : Nat} {e : TypeId} {v : Value} {n : Nat} {xs : List Value} (h : w.ownsRow base e 1 v n xs) {g : Nat} (hg : v.ownBlock = some g) (i : Nat) : w.frozen? ⟨g, i, none⟩ = false := by
  obtain ⟨cs, h1, _⟩ := own_ty h hg
  have : Blk w g e cs.toList := by unfold Blk; simpa using h1
  exact this.frz i

def lsV (x : Option Addr × Nat × Nat) : Value := .slice x.1 x.2.1 x.2.2

structure IsRf (w : World) (base R : Nat) (vt vs vn : Value) (T : List Tk) (LS : List (Option Addr × Nat × Nat)) (TL : List (List Int)) (N : Int) : Prop where
  str : Blk w R 52 [vt, vs, vn]
  tl : w.ownsRow base 22 1 vt T.length (LS.map lsV)
  st : w.ownsRow base 3 1 vs T.length (T.map (fun t => .int .i64 t.st))
  sn : w.ownsRow base 3 1 vn T.length (T.map (fun t => .int .i64 t.n))
  ne : ∀ g, vs.ownBlock = some g → vn.ownBlock ≠ some g
  lists : ∀ (i : Nat) (x : Option Addr × Nat × Nat) (L : List Int), LS[i]? = some x → TL[i]? = some L → RdI .i64 w x.1 x.2.1 L ∧ (0 < x.2.1 → ∀ b off, x.1 = some ⟨b, off, none⟩ → b < base)
  l1 : LS.length = T.length
  l2 : TL.length = T.length
  low : base ≤ R
  len : T.length ≤ 128
  cnt : ∀ (i : Nat) (t : Tk), T[i]? = some t → 0 ≤ t.n ∧ t.n ≤ N ∧ I64 t.st

/-- all that it writes -/
def rfS (R : Nat) (vt vs vn : Value) : Nat → Prop := fun k => k = R ∨ vt.ownBlock = some k ∨ vs.ownBlock = some k ∨ vn.ownBlock = some k

section
variable {w w' : World} {base R : Nat} {vt vs vn : Value} {T : List Tk} {LS : List (Option Addr × Nat × Nat)} {TL : List (List Int)} {N : Int} {S : Nat → Prop}
theorem IsRf.fr (h : IsRf w base R vt vs vn T LS TL N) (F : Fr S w w') (hs : ∀ k, rfS R vt vs vn k → ¬ S k) (hb : ∀ b, b < base → ¬ S b) : IsRf w' base R vt vs vn T LS TL N :=
  ⟨F.blk h.str (hs _ (.inl rfl)), F.owns2 h.tl (fun g hg => hs g (.inr (.inl hg))), F.owns2 h.st (fun g hg => hs g (.inr (.inr (.inl hg)))), F.owns2 h.sn (fun g hg => hs g (.inr (.inr (.inr hg)))), h.ne,
    fun i x L hx hL => by
      obtain ⟨h1, h2⟩ := h.lists i x L hx hL
      refine ⟨⟨h1.hlen, h1.le, h1.rng, fun h0 => ?_⟩, h2⟩
      obtain ⟨b, off, e, h3, h4⟩ := h1.at_ h0
      exact ⟨b, off, e, Nat.lt_of_lt_of_le h3 F.size, fun i hi => F.cell (h4 i hi) (hb b (h2 h0 b off e))⟩, h.l1, h.l2, h.low, h.len, h.cnt⟩
theorem IsRf.fr0 (h : IsRf w base R vt vs vn T LS TL N) (F : Fr (fun _ => False) w w') : IsRf w' base R vt vs vn T LS TL N := h.fr F (fun _ _ h => h) (fun _ _ h => h)
theorem IsRf.base_le (h : IsRf w base R vt vs vn T LS TL N) {k : Nat} (hk : rfS R vt vs vn k) : base ≤ k := by
  rcases hk with rfl | hk | hk | hk
  · exact h.low
  · obtain ⟨_, _, h1⟩ := own_ty h.tl hk; exact h1
  · obtain ⟨_, _, h1⟩ := own_ty h.st hk; exact h1
  · obtain ⟨_, _, h1⟩ := own_ty h.sn hk; exact h1
theorem IsRf.lt (h : IsRf w base R vt vs vn T LS TL N) {k : Nat} (hk : rfS R vt vs vn k) : k < w.heap.size := by
  rcases hk with rfl | hk | hk | hk
  · exact h.str.lt
  · exact (h.tl.lt _ hk).2
  · exact (h.st.lt _ hk).2
  · exact (h.sn.lt _ hk).2
theorem IsRf.mono {N' : Int} (h : IsRf w base R vt vs vn T LS TL N) (hN : N ≤ N') : IsRf w base R vt vs vn T LS TL N' :=
  ⟨h.str, h.tl, h.st, h.sn, h.ne, h.lists, h.l1, h.l2, h.low, h.len, fun i t ht => by have := h.cnt i t ht; exact ⟨this.1, by omega, this.2.2⟩⟩

/-- the state of task j, the number of its steps -/
theorem IsRf.stAt (h : IsRf w base R vt vs vn T LS TL N) {j : Nat} {t : Tk} (ht : T[j]? = some t) : ∃ g cap, vs = .slice (some ⟨g, 0, none⟩) T.length cap ∧ w.cell? ⟨g, j, none⟩ = some (.int .i64 t.st) := by
  obtain ⟨a, cap, e, hrow⟩ := owns_rd h.st
  have hj : j < T.length := by
    rcases Nat.lt_or_ge j T.length with h1 | h1
    · exact h1
    · rw [List.getElem?_eq_none h1] at ht; cases ht
  obtain ⟨g, rfl, _, _, hc⟩ := hrow (by omega)
  exact ⟨g, cap, e, hc j _ (by rw [List.getElem?_map, ht]; rfl)⟩
theorem IsRf.snAt (h : IsRf w base R vt vs vn T LS TL N) {j : Nat} {t : Tk} (ht : T[j]? = some t) : ∃ g cap, vn = .slice (some ⟨g, 0, none⟩) T.length cap ∧ w.cell? ⟨g, j, none⟩ = some (.int .i64 t.n) := by
  obtain ⟨a, cap, e, hrow⟩ := owns_rd h.sn
  have hj : j < T.length := by
    rcases Nat.lt_or_ge j T.length with h1 | h1
    · exact h1
    · rw [List.getElem?_eq_none h1] at ht; cases ht
  obtain ⟨g, rfl, _, _, hc⟩ := hrow (by omega)
  exact ⟨g, cap, e, hc j _ (by rw [List.getElem?_map, ht]; rfl)⟩
end

set_option maxHeartbeats 1000000 in
theorem r_Ready {base R : Nat} {vt vs vn : Value} {T : List Tk} {LS : List (Option Addr × Nat × Nat)} {TL : List (List Int)} {N : Int} {w : World} (h : IsRf w base R vt vs vn T LS TL N) :
    Calls Try.prog 24 #[.pointer (some ⟨R, 0, none⟩)] w (OutL w (rdy T)) := by
  have hs : w.cell? ⟨R, 1, none⟩ = some vs := h.str.cell 1
  obtain ⟨i0, hi, hz0, hz1, hz2⟩ := info_parts info_int
  have hl := h.len
  have hrd : ∀ j, j < T.length → ∃ g cap s, vs = .slice (some ⟨g, 0, none⟩) T.length cap ∧ w.cell? ⟨g, j, none⟩ = some (.int .i64 s) ∧ isGo T j = (s == 0) := fun j hj => by
    have ht : T[j]? = some T[j] := List.getElem?_eq_getElem hj
    obtain ⟨g, cap, e, hc⟩ := h.stAt ht
    exact ⟨g, cap, T[j].st, e, hc, by unfold isGo; rw [ht]⟩
  obtain ⟨a, cap, e0, _⟩ := owns_rd h.st
  rw [e0] at hs hrd
  have hup := rdyUp_le T
  have HRD := Lib.hid hrd
  have hst : ∀ j, rdyUp T (j + 1) = if isGo T j then rdyUp T j ++ [(j : Int) + 1] else rdyUp T j := fun j => rfl
  have HST := Lib.hid hst
  have HUP := Lib.hid hup
  unfold rdy
  have hz : rdyUp T 0 = [] := rfl
  have HZ := Lib.hid hz
  clear h hrd hst hup hz e0
  generalize T.length = n at *
  generalize hR : rdyUp T = RR0 at *
  clear hR
  go_enter Try.func24, Try.ntmps24
  go_wp2_with fail
  go_loopw [3, 4] (fun v i wr => ∃ j : Nat, i = .int .i64 j ∧ j ≤ n ∧ wr.ownsRow w.heap.size 3 1 v (RR0 j).length ((RR0 j).map (.int .i64)) ∧ Fr (fun _ => False) w wr) (fun _ i _ => n - (intOf i).toNat)
  case atStart => exact ⟨0, rfl, by omega, by rw [HZ.out]; exact World.ownsRow_nil _ _ _ _, Fr.refl _ _⟩
  case round =>
    obtain ⟨j, rfl, hj, hown, G⟩ := hrel
    have hgs := G.size
    have hs2 := G.cell hs (fun h => h)
    by_cases hlt : j < n
    · obtain ⟨g, cap', s, e1, e2, hgo⟩ := HRD.out j hlt
      injection e1 with e1 _ e1'
      subst e1
      subst e1'
      have e2 := G.cell e2 (fun h => h)
      have hstep := HST.out j
      rw [hgo] at hstep
      have hlen := HUP.out j
      cases hb : s == 0 with
      | true =>
        rw [hb, if_pos rfl] at hstep
        have hse : s = 0 := by simpa using hb
        subst hse
        have HS := Lib.hid hstep
        clear hstep hgo hb
        go_wp2_with (at_builtin; refine wpList_append_own _ rfl _ _ 22 rfl w.heap.size 3 i0 (.int .i64 0) 1 8 Try.underlying22 hi hz0 hz1 hz2 rfl (by decide) _ _ _ rfl (hown.alloc _) ⟨wr.heap.size, 0, none⟩ 1 1 [.int .i64 ((j : Int) + 1)] rfl rfl ?c1 ?c2 ?c3 ?c4 ?c5 ?_)
        try case c1 =>
          intro i u hu
          match i, hu with
          | 0, hu => simp at hu; subst hu; simp [Addr.add]
        case c2 => first | rfl | (intro u hu; simp at hu; subst hu; rfl)
        case c3 => unfold maxLen; omega
        case c4 => omega
        case c5 => first | omega | (simp; omega)
        intro v' w4 hown4 hgrow _
        have G4 := (G.alloc (.cells #[.int .i64 ((j : Int) + 1)] 3)).grown hgrow (fun k hk => .inr (by have := hown.lt _ hk; have := own_ty hown hk; obtain ⟨_, _, h6⟩ := this; omega))
        have HO4 := Lib.hid hown4
        clear hown4 hgrow hown
        go_wp2
        go_roundw
        case rel =>
          refine ⟨j + 1, by go_num, by omega, ?_, G4⟩
          rw [HS.out]
          simpa using HO4.out
        case measure => simp [intOf]; omega
      | false =>
        rw [hb, if_neg (by simp)] at hstep
        have HS := Lib.hid hstep
        have HO := Lib.hid hown
        clear hstep hgo hown
        go_wp2
        go_roundw
        case rel => exact ⟨j + 1, by go_num, by omega, by rw [HS.out]; exact HO.out, G⟩
        case measure => simp [intOf]; omega
    · have hjn : j = n := by omega
      subst hjn
      have HO := Lib.hid hown
      clear hown
      go_wp2
      go_ret
      exact ⟨_, rfl, HO.out, G⟩

/-- task i's entry is another one -/
theorem IsRf.setSt {w : World} {base R : Nat} {vt vs vn : Value} {T : List Tk} {LS : List (Option Addr × Nat × Nat)} {TL : List (List Int)} {N : Int} (h : IsRf w base R vt vs vn T LS TL N) {i : Nat} {t u : Tk} (ht : T[i]? = some t) (hn : u.n = t.n) (hr : I64 u.st) {g : Nat} (hg : vs.ownBlock = some g) :
    IsRf (w.setCell ⟨g, i, none⟩ (.int .i64 u.st)) base R vt vs vn (T.set i u) LS TL N := by
  have F := (Fr.refl (fun k => k = g) w).set (a := ⟨g, i, none⟩) (.inl rfl) (.int .i64 u.st)
  have hmn : (T.set i u).map (fun t => Value.int .i64 t.n) = T.map (fun t => Value.int .i64 t.n) := by
    rw [List.map_set, hn]
    have hi : i < T.length := by
      rcases Nat.lt_or_ge i T.length with h1 | h1
      · exact h1
      · rw [List.getElem?_eq_none h1] at ht; cases ht
    have e : Value.int .i64 t.n = (T.map (fun t => Value.int .i64 t.n))[i]'(by simpa using hi) := by
      rw [List.getElem?_eq_getElem hi] at ht
      rw [List.getElem_map, Option.some.inj ht]
    rw [e, List.set_getElem_self]
  have hgt : ∀ g', vt.ownBlock = some g' → g' ≠ g := fun g' hg' e => by
    obtain ⟨_, h1, _⟩ := own_ty h.tl hg'
    obtain ⟨_, h2, _⟩ := own_ty h.st hg
    rw [e, h2] at h1
    cases h1
  refine ⟨F.blk h.str ?_, ?_, ?_, ?_, h.ne, ?_, by rw [List.length_set]; exact h.l1, by rw [List.length_set]; exact h.l2, h.low, by rw [List.length_set]; exact h.len, ?_⟩
  · obtain ⟨_, h2, _⟩ := own_ty h.st hg
    exact ne_ty h.str h2 (by decide)
  · rw [List.length_set]; exact F.owns2 h.tl hgt
  · rw [List.length_set, List.map_set]; exact own_set h.st hg _
  · rw [List.length_set, hmn]; exact F.owns2 h.sn (fun g' hg' e => h.ne g hg (by rw [hg', e]))
  · intro j x L hx hL
    obtain ⟨h1, h2⟩ := h.lists j x L hx hL
    obtain ⟨_, _, h5⟩ := own_ty h.st hg
    refine ⟨⟨h1.hlen, h1.le, h1.rng, fun h0 => ?_⟩, h2⟩
    obtain ⟨b, off, e, h3, h4⟩ := h1.at_ h0
    have := h2 h0 b off e
    exact ⟨b, off, e, Nat.lt_of_lt_of_le h3 F.size, fun i hi => F.cell (h4 i hi) (fun e => by simp only at e; omega)⟩
  · intro j x hx
    rcases set_get ht hx with ⟨rfl, rfl⟩ | ⟨_, hx⟩
    · have := h.cnt _ t ht
      rw [hn]; exact ⟨this.1, this.2.1, hr⟩
    · exact h.cnt _ _ hx
theorem IsRf.setSn {w : World} {base R : Nat} {vt vs vn : Value} {T : List Tk} {LS : List (Option Addr × Nat × Nat)} {TL : List (List Int)} {N : Int} (h : IsRf w base R vt vs vn T LS TL N) {i : Nat} {t u : Tk} (ht : T[i]? = some t) (hst : u.st = t.st) (hr : 0 ≤ u.n ∧ u.n ≤ N + 1) {g : Nat} (hg : vn.ownBlock = some g) :
    IsRf (w.setCell ⟨g, i, none⟩ (.int .i64 u.n)) base R vt vs vn (T.set i u) LS TL (N + 1) := by
  have F := (Fr.refl (fun k => k = g) w).set (a := ⟨g, i, none⟩) (.inl rfl) (.int .i64 u.n)
  have hms : (T.set i u).map (fun t => Value.int .i64 t.st) = T.map (fun t => Value.int .i64 t.st) := by
    rw [List.map_set, hst]
    have hi : i < T.length := by
      rcases Nat.lt_or_ge i T.length with h1 | h1
      · exact h1
      · rw [List.getElem?_eq_none h1] at ht; cases ht
    have e : Value.int .i64 t.st = (T.map (fun t => Value.int .i64 t.st))[i]'(by simpa using hi) := by
      rw [List.getElem?_eq_getElem hi] at ht
      rw [List.getElem_map, Option.some.inj ht]
    rw [e, List.set_getElem_self]
  have hgt : ∀ g', vt.ownBlock = some g' → g' ≠ g := fun g' hg' e => by
    obtain ⟨_, h1, _⟩ := own_ty h.tl hg'
    obtain ⟨_, h2, _⟩ := own_ty h.sn hg
    rw [e, h2] at h1
    cases h1
  refine ⟨F.blk h.str ?_, ?_, ?_, ?_, h.ne, ?_, by rw [List.length_set]; exact h.l1, by rw [List.length_set]; exact h.l2, h.low, by rw [List.length_set]; exact h.len, ?_⟩
  · obtain ⟨_, h2, _⟩ := own_ty h.sn hg
    exact ne_ty h.str h2 (by decide)
  · rw [List.length_set]; exact F.owns2 h.tl hgt
  · rw [List.length_set, hms]; exact F.owns2 h.st (fun g' hg' e => h.ne g' hg' (by rw [hg, e]))
  · rw [List.length_set, List.map_set]; exact own_set h.sn hg _
  · intro j x L hx hL
    obtain ⟨h1, h2⟩ := h.lists j x L hx hL
    obtain ⟨_, _, h5⟩ := own_ty h.sn hg
    refine ⟨⟨h1.hlen, h1.le, h1.rng, fun h0 => ?_⟩, h2⟩
    obtain ⟨b, off, e, h3, h4⟩ := h1.at_ h0
    have := h2 h0 b off e
    exact ⟨b, off, e, Nat.lt_of_lt_of_le h3 F.size, fun i hi => F.cell (h4 i hi) (fun e => by simp only at e; omega)⟩
  · intro j x hx
    rcases set_get ht hx with ⟨rfl, rfl⟩ | ⟨_, hx⟩
    · have := h.cnt _ t ht
      rw [hst]; exact ⟨hr.1, hr.2, this.2.2⟩
    · have := h.cnt _ _ hx; exact ⟨this.1, by omega, this.2.2⟩

theorem r_Wake {base R : Nat} {vt vs vn : Value} {T : List Tk} {LS : List (Option Addr × Nat × Nat)} {TL : List (List Int)} {N : Int} {w : World} (h : IsRf w base R vt vs vn T LS TL N) (k : Int) (hk : I64 k) :
    Calls Try.prog 20 #[.pointer (some ⟨R, 0, none⟩), .int .i64 k] w fun e w' => e = .returned (.int .i64 (if waits T k then 1 else 0)) ∧ IsRf w' base R vt vs vn (wakeOne T k) LS TL N ∧ Fr (rfS R vt vs vn) w w' := by
  have hs : w.cell? ⟨R, 1, none⟩ = some vs := h.str.cell 1
  have hl := h.len
  obtain ⟨hk1, hk2⟩ := hk
  obtain ⟨a, cap, e0, _⟩ := owns_rd h.st
  have H := Lib.hid h
  unfold waits wakeOne
  rcases fndT_cases T k with ⟨h1, h2⟩ | ⟨h1, h1', h2⟩ | ⟨h1, h1', t, h2, h3⟩
  · rw [h2]
    rw [e0] at hs
    clear h e0 h2
    generalize T.length = n at *
    go_enter Try.func20, Try.ntmps20
    go_wp2
    go_ret
    exact ⟨rfl, H.out, Fr.refl _ _⟩
  · rw [h2]
    rw [e0] at hs
    clear h e0 h2
    generalize T.length = n at *
    go_enter Try.func20, Try.ntmps20
    go_wp2
    go_ret
    exact ⟨rfl, H.out, Fr.refl _ _⟩
  · rw [h2]
    simp only
    obtain ⟨g, cap', e1, hc⟩ := h.stAt h3
    have hg : vs.ownBlock = some g := by rw [e1]; rfl
    have hz := own_frz h.st hg (k.toNat - 1)
    rw [e1] at hs
    have hset := h.setSt (u := t.go) h3 rfl (show I64 0 by unfold I64; omega) hg
    have HS := Lib.hid hset
    have HF := Lib.hid ((Fr.refl (rfS R vt vs vn) w).set (a := ⟨g, k.toNat - 1, none⟩) (.inl (.inr (.inr (.inl hg)))) (.int .i64 0))
    by_cases hb : (t.st == 1) = true
    · rw [if_pos hb, if_pos hb]
      have hse : t.st = 1 := by simpa using hb
      rw [hse] at hc
      clear h e0 h2 hset e1 hb hse h3 hg
      obtain ⟨n, hn⟩ : ∃ n, n = T.length := ⟨_, rfl⟩
      rw [← hn] at hs h1' hl
      clear hn
      go_enter Try.func20, Try.ntmps20
      go_wp2
      go_ret
      exact ⟨rfl, HS.out, HF.out⟩
    · rw [if_neg hb, if_neg hb]
      have hb2 : (t.st == 1) = false := by simpa using hb
      clear h e0 h2 hset e1 h3 hg HS HF hb
      obtain ⟨n, hn⟩ : ∃ n, n = T.length := ⟨_, rfl⟩
      rw [← hn] at hs h1' hl
      clear hn
      generalize t.st = s at *
      go_enter Try.func20, Try.ntmps20
      go_wp2
      go_ret
      exact ⟨rfl, H.out, Fr.refl _ _⟩
end Go.Proofs.Ythpghoafjpbdbaa
