/- TurnsEven, the walk: of tasks that always go on, picked by turns, none is ever more than one step ahead of another one. -/
import Derived.Test.YthpghoafjpbdbaaTurns11
import Derived.Test.YthpghoafjpbdbaaAwake2
namespace Go.Proofs.Ythpghoafjpbdbaa
open Go.RowKit Go.HK
set_option maxRecDepth 100000

/-- how far task i is behind j picks by turns among n -/
def evn (j n i : Nat) : Int := (j / n : Nat) + (if i < j % n then 1 else 0)
theorem evn_step (j n i : Nat) (hn : 0 < n) (hi : i < n) : evn (j + 1) n i = if i = j % n then evn j n i + 1 else evn j n i := by
  unfold evn
  have hm : j % n < n := Nat.mod_lt _ hn
  have hd := Nat.div_add_mod j n
  generalize hq : j / n = q at *
  generalize hr : j % n = r at *
  by_cases h : r + 1 < n
  · have e1 : (j + 1) / n = q ∧ (j + 1) % n = r + 1 := by
      rw [← hd, Nat.add_assoc]
      refine ⟨?_, ?_⟩
      · rw [Nat.mul_add_div hn, Nat.div_eq_of_lt h]; rfl
      · rw [Nat.mul_add_mod, Nat.mod_eq_of_lt h]
    rw [e1.1, e1.2]
    by_cases h2 : i = r
    · rw [if_pos h2, if_pos (by omega), if_neg (by omega)]; omega
    · rw [if_neg h2]
      by_cases h3 : i < r
      · rw [if_pos (by omega), if_pos h3]
      · rw [if_neg (by omega), if_neg h3]
  · have hrn : r + 1 = n := by omega
    have e1 : (j + 1) / n = q + 1 ∧ (j + 1) % n = 0 := by
      rw [← hd, Nat.add_assoc, hrn]
      refine ⟨?_, ?_⟩
      · rw [Nat.mul_add_div hn, Nat.div_self hn]
      · rw [Nat.mul_add_mod, Nat.mod_self]
    rw [e1.1, e1.2]
    by_cases h2 : i = r
    · rw [if_pos h2, if_neg (by omega), if_neg (by omega)]; omega
    · rw [if_neg h2, if_neg (by omega), if_pos (by omega)]; omega

def EvI (n : Nat) (j : Nat) (T : List Tk) : Prop := T.length = n ∧ ∀ (i : Nat) (t : Tk), T[i]? = some t → t.st = 0 ∧ t.n = evn j n i

theorem even_step (n j : Nat) (hn : 0 < n) (hj : j < 900) (T : List Tk) (h : EvI n j T) : EvI n (j + 1) (pickT (List.replicate n (cntB 1000)) T j) ∧ rdy T ≠ [] := by
  obtain ⟨hl, hT⟩ := h
  obtain ⟨t, ht, hr, hp⟩ := pick_all (List.replicate n (cntB 1000)) T j (fun i t ht => (hT i t ht).1) (by omega)
  rw [hl] at ht hp
  have hm : j % n < n := Nat.mod_lt _ hn
  refine ⟨?_, hr⟩
  rw [hp]
  have hB : (List.replicate n (cntB 1000)).getD (j % n) (fun _ => 2) = cntB 1000 := by
    rw [List.getD_eq_getElem?_getD, List.getElem?_replicate, if_pos hm]; rfl
  rw [hB]
  obtain ⟨h1, h2⟩ := hT _ t ht
  have hle : evn j n (j % n) ≤ 900 ∧ 0 ≤ evn j n (j % n) := by
    unfold evn
    rw [if_neg (by omega)]
    have := Nat.div_le_self j n
    generalize j / n = q at *
    omega
  have hc : cntB 1000 t.n.toNat = 0 := by unfold cntB; rw [if_neg (by omega)]
  rw [hc]
  refine ⟨by rw [List.length_set]; exact hl, fun i u hu => ?_⟩
  have hi : i < n := by
    rcases Nat.lt_or_ge i n with h | h
    · exact h
    · rw [List.getElem?_eq_none (by rw [List.length_set]; omega)] at hu; cases hu
  rw [evn_step j n i hn hi]
  rcases set_get ht hu with ⟨rfl, rfl⟩ | ⟨hne, hu⟩
  · rw [if_pos rfl]
    exact ⟨rfl, by rw [to_n, bump_n, h2]⟩
  · rw [if_neg hne]
    exact hT i u hu

theorem even_run (n : Nat) (hn : 0 < n) (f : Nat) : ∀ (j : Nat) (T : List Tk), EvI n j T → j + f ≤ 900 → ∃ T', runT (List.replicate n (cntB 1000)) [] f j T = (j + f, T') ∧ EvI n (j + f) T' := by
  induction f with
  | zero => intro j T h _; exact ⟨T, rfl, h⟩
  | succ f ih =>
    intro j T h hj
    have hp : pickOf [] j = (j : Int) := by unfold pickOf; simp
    obtain ⟨h1, h2⟩ := even_step n j hn (by omega) T h
    obtain ⟨T', h3, h4⟩ := ih (j + 1) _ h1 (by omega)
    unfold runT
    rw [if_neg h2, hp, h3]
    exact ⟨T', by rw [Nat.add_assoc, Nat.add_comm 1 f], by rw [show j + (f + 1) = j + 1 + f by omega]; exact h4⟩

theorem nT_at (T : List Tk) (i : Nat) (t : Tk) (ht : T[i]? = some t) : nT T ((i : Int) + 1) = t.n := by
  unfold nT fndT
  rw [if_pos (by omega), show ((i : Int) + 1).toNat - 1 = i by omega, ht]

theorem job_cnt (base : Nat) (w : World) (c0 : Int) (h0 : 0 ≤ c0) (h1 : c0 ≤ 8000000000) : jobAt base (w.alloc (.cells #[.int .i64 c0] 46)) ⟨0, 19, w.heap.size, 0, 0⟩ (cntB c0) :=
  .inr ⟨rfl, c0, h0, h1, by rw [show c0 - (Tk.mk 0 19 w.heap.size 0 0).n = c0 from Int.sub_zero c0]; exact Blk.new w _ _, rfl⟩

theorem add_new {base P : Nat} {v : Value} {T : List Tk} {BS : List (Nat → Int)} {N : Int} {w : World} (h : TW w base P v T BS N) : ∀ (i : Nat) (t : Tk), T[i]? = some t → t.c ≠ w.heap.size := fun i t ht e => by
  obtain ⟨B, _, hj⟩ := h.get ht
  have := hj.lt
  omega

set_option maxHeartbeats 1600000 in
theorem walk_TurnsEven (a0 a1 : Int) (w : World) (w0 : (Lit.int .i64 a0).wf = true) (w1 : (Lit.int .i64 a1).wf = true) :
    Calls Try.prog 5 #[.int .i64 a0, .int .i64 a1] w fun e w' => e = .returned (.bool true) ∧ Below w.heap.size w w' := by
  have hn : ∃ n : Nat, n < 20 ∧ (a0.tmod 20 = -(n : Int) ∧ a0.tmod 20 < 0 ∨ a0.tmod 20 = n ∧ ¬ a0.tmod 20 < 0) := by
    have h1 := Int.tmod_lt_of_pos a0 (b := 20) (by omega)
    have h2 := Int.lt_tmod_of_pos a0 (b := 20) (by omega)
    refine ⟨(a0.tmod 20).natAbs, by omega, by omega⟩
  have hk : ∃ k : Nat, k < 200 ∧ (a1.tmod 200 = -(k : Int) ∧ a1.tmod 200 < 0 ∨ a1.tmod 200 = k ∧ ¬ a1.tmod 200 < 0) := by
    have h1 := Int.tmod_lt_of_pos a1 (b := 200) (by omega)
    have h2 := Int.lt_tmod_of_pos a1 (b := 200) (by omega)
    refine ⟨(a1.tmod 200).natAbs, by omega, by omega⟩
  obtain ⟨n, hn1, hn2⟩ := hn
  obtain ⟨kf, hk1, hk2⟩ := hk
  have HN := Lib.hid hn2
  have HK := Lib.hid hk2
  have i0 := i64_of_wf w0
  have i1 := i64_of_wf w1
  have I0 := Lib.hid i0
  have I1 := Lib.hid i1
  clear hn2 hk2 w0 w1 i0 i1
  go_enter Try.func5, Try.ntmps5
  go_wp2_with fail
  refine (awake_true _).mono ?_
  rintro e wa ⟨rfl, f0⟩
  go_wp2_with fail
  refine (c_New wa).mono ?_
  rintro e w1 ⟨rfl, h1, f1⟩
  obtain ⟨P, hP⟩ : ∃ P, P = wa.heap.size := ⟨_, rfl⟩
  rw [← hP] at h1 ⊢
  have hbP : w.heap.size ≤ P := by rw [hP]; exact f0.size
  have G1 := f0.trans f1
  have t1 := TW.nil h1
  clear hP f0 f1 h1
  have HT1 := Lib.hid t1
  clear t1
  go_upto_if 20 with fail
  go_cut [7] (fun s wx => s = .int .i64 (n : Int) ∧ wx = w1)
  case first =>
    rcases HN.out with ⟨h4, h5⟩ | ⟨h4, h5⟩
    all_goals
      have H4 := Lib.hid h4
      clear h4
      go_wp2
      go_meet
      exact ⟨congrArg (Value.int .i64) (by have := H4.out; first | omega | (unfold wrap64; omega)), rfl⟩
  case rest =>
    obtain ⟨rfl, rfl⟩ := hcut
    go_upto_if 28 with fail
    go_cut [8] (fun s wx => s = .int .i64 (kf : Int) ∧ wx = wc)
    case first =>
      rcases HK.out with ⟨h4, h5⟩ | ⟨h4, h5⟩
      all_goals
        have H4 := Lib.hid h4
        clear h4
        go_wp2
        go_meet
        exact ⟨congrArg (Value.int .i64) (by have := H4.out; first | omega | (unfold wrap64; omega)), rfl⟩
    case rest =>
      obtain ⟨rfl, rfl⟩ := hcut
      go_wp2_with fail
      go_loopw [9] (fun i wr => ∃ (k : Nat) (v : Value) (T : List Tk), i = .int .i64 k ∧ k ≤ n + 1 ∧ TW wr P P v T (List.replicate k (cntB 1000)) 0 ∧ (∀ (i : Nat) (t : Tk), T[i]? = some t → t.st = 0 ∧ t.n = 0) ∧ Fr (fun _ => False) w wr) (fun i _ => ((n : Int) + 1 - intOf i).toNat)
      case atStart => exact ⟨0, _, [], rfl, by omega, HT1.out, fun i t ht => by simp at ht, G1⟩
      case round =>
        obtain ⟨k, v, T, rfl, hkn, hT, hz, G⟩ := hrel
        have hlen := hT.len
        rw [List.length_replicate] at hlen
        by_cases hlt : k < n + 1
        · have hT2 := hT.fr0 ((Fr.refl _ wr).alloc (.cells #[.int .i64 1000] 46))
          have hadd := c_AddT P P v T _ 0 19 wr.heap.size (cntB 1000) _ hT2 (by omega) (by omega) (job_cnt P wr 1000 (by omega) (by omega)) (add_new hT) (by have := hT.tu.str.lt; have := hT.tu.low.1; omega)
          have hbl := fun k hk => hT2.base_le (k := k) (.inr hk)
          have HA := Lib.hid hadd
          have HB := Lib.hid hbl
          have HZ := Lib.hid hz
          have HLN := Lib.hid hlen
          clear hadd hbl hT hT2 hz hlen
          go_wp2_with fail
          refine HA.out.mono ?_
          rintro e w2 ⟨rfl, v2, b, hb, h2, f2⟩
          have G2 := (G.alloc (.cells #[.int .i64 1000] 46)).step f2 (fun i hi => .inr (by have := HB.out i hi; omega))
          have H2 := Lib.hid h2
          have HG := Lib.hid G2
          clear h2 f2 G2
          go_wp2
          go_roundw
          case rel => exact ⟨k + 1, v2, _, by go_num, by omega, by rw [List.replicate_succ']; exact H2.out, fun i t ht => by
            rcases get_append ht with ht | ⟨_, rfl⟩
            · exact HZ.out i t ht
            · exact ⟨rfl, rfl⟩, HG.out⟩
          case measure => simp [intOf]; omega
        · have hkn : k = n + 1 := by omega
          subst hkn
          have hev : EvI (n + 1) 0 T := ⟨hlen.symm, fun i t ht => ⟨(hz i t ht).1, by rw [(hz i t ht).2]; unfold evn; simp⟩⟩
          obtain ⟨T', hrun, hev'⟩ := even_run (n + 1) (by omega) kf 0 T hev (by omega)
          have hr := c_RunT P P v T _ 0 kf none 0 0 [] wr hT (rdI_nil _ _) (fun _ _ h => absurd h (by omega)) ⟨by omega, by omega⟩ (by omega) (by omega)
          rw [Int.toNat_natCast, hrun, Nat.zero_add] at hr
          rw [Nat.zero_add] at hev'
          have hbl := fun k hk => hT.base_le (k := k) (.inl hk)
          have HR := Lib.hid hr
          have HB := Lib.hid hbl
          have HE := Lib.hid hev'
          clear hr hbl hT hz hlen hrun hev hev'
          go_wp2_with fail
          refine HR.out.mono ?_
          rintro e w2 ⟨rfl, h2, f2⟩
          have G2 := G.step f2 (fun i hi => .inr (by have := HB.out i hi; omega))
          have H2 := Lib.hid h2
          have HG := Lib.hid (G2.below (Nat.le_refl _) (fun _ _ h => h))
          clear h2 f2 G2 HR G
          have hq1 : (kf : Int).tdiv ((n : Int) + 1) = ((kf / (n + 1) : Nat) : Int) := by
            rw [Int.tdiv_eq_ediv_of_nonneg (by omega)]; simp
          have hq2 : (kf : Int).tmod ((n : Int) + 1) = ((kf % (n + 1) : Nat) : Int) := by
            rw [Int.tmod_eq_emod_of_nonneg (by omega)]; simp
          have hst : ∀ k : Nat, k < n + 1 → Calls Try.prog 15 #[.pointer (some ⟨P, 0, none⟩), .int .i64 ((k : Int) + 1)] w2 fun e w' => e = .returned (.int .i64 (((kf / (n + 1) : Nat) : Int) + (if k < kf % (n + 1) then 1 else 0))) ∧ w2 = w' := fun k hk => by
            obtain ⟨t, ht⟩ : ∃ t, T'[k]? = some t := ⟨T'[k]'(by rw [HE.out.1]; exact hk), List.getElem?_eq_getElem _⟩
            exact c_StepsX H2.out _ _ (by rw [nT_at T' k t ht, (HE.out.2 k t ht).2]; rfl)
          have hqb : kf / (n + 1) ≤ kf := Nat.div_le_self _ _
          have hrb : kf % (n + 1) < n + 1 := Nat.mod_lt _ (by omega)
          generalize kf / (n + 1) = q at *
          generalize kf % (n + 1) = r at *
          have HST := Lib.hid hst
          clear hst
          go_wp2_with fail
          go_loop [11] (fun i => ∃ k : Nat, i = .int .i64 ((k : Int) + 1) ∧ k ≤ n + 1) (fun i => ((n : Int) + 3 - intOf i).toNat)
          case atStart => exact ⟨0, rfl, by omega⟩
          case round =>
            obtain ⟨k, rfl, hk⟩ := hrel
            by_cases hkl : k < n + 1
            · have hs := HST.out k hkl
              by_cases hc : k < r
              · rw [if_pos hc] at hs
                have HS := Lib.hid hs
                clear hs
                go_wp2_with fail
                refine HS.out.mono ?_
                rintro e w' ⟨rfl, rfl⟩
                go_wp2
                go_round
                case rel => exact ⟨k + 1, by go_num, by omega⟩
                case measure => simp [intOf]; omega
              · rw [if_neg hc] at hs
                have HS := Lib.hid hs
                clear hs
                go_wp2_with fail
                refine HS.out.mono ?_
                rintro e w' ⟨rfl, rfl⟩
                go_wp2
                go_round
                case rel => exact ⟨k + 1, by go_num, by omega⟩
                case measure => simp [intOf]; omega
            · go_wp2
              go_ret
              exact ⟨rfl, HG.out⟩
end Go.Proofs.Ythpghoafjpbdbaa
