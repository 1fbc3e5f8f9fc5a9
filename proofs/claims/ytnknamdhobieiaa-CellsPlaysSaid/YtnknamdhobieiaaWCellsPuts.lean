/- CellsPuts, the walk: words are put all or not at all, and no access is counted. -/
import Derived.Test.YtnknamdhobieiaaWCellsOne
namespace Go.Proofs.Ytnknamdhobieiaa
open Go.RowKit Go.HK
set_option maxRecDepth 100000

theorem RdI.reads {w : World} {a : Option Addr} {n : Nat} {L : List Int} (h : RdI .i64 w a n L) : Reads w a n L :=
  ⟨h.hlen.symm, fun h0 => by
    obtain ⟨b, off, e, _, hc⟩ := h.at_ (by rw [← h.hlen]; exact h0)
    refine ⟨_, e, fun j u hu => ?_⟩
    have hj : j < L.length := by
      rcases Nat.lt_or_ge j L.length with hj | hj
      · exact hj
      · simp [hj] at hu
    rw [Addr.add_lit, hc j (by rw [← h.hlen]; exact hj), ← hu]
    simp [hj]⟩

/-- what the word at i is behind the call -/
theorem putW_at (N : Nat) (at_ : Int) (L : List Int) (i : Nat) (hi : i < N) :
    (putW (List.replicate N 0) at_ L).getD i 0 = if putOK (List.replicate N 0) at_ L ∧ at_ ≤ i ∧ (i : Int) < at_ + L.length then L.getD ((i : Int) - at_).toNat 0 else 0 := by
  unfold putW
  by_cases hok : putOK (List.replicate N 0) at_ L
  · rw [if_pos hok]
    have h := hok
    unfold putOK at h
    simp only [List.length_replicate] at h
    obtain ⟨k, rfl⟩ : ∃ k : Nat, at_ = k := ⟨at_.toNat, by omega⟩
    simp only [List.getD_eq_getElem?_getD, Int.toNat_natCast]
    by_cases h1 : i < k
    · rw [if_neg (by omega), List.getElem?_append_left (by simp; omega)]
      simp only [List.take_replicate, List.getElem?_replicate]
      split <;> rfl
    · by_cases h2 : i < k + L.length
      · rw [if_pos ⟨hok, by omega, by omega⟩, List.getElem?_append_right (by simp; omega), List.getElem?_append_left (by simp; omega)]
        congr 2
        simp; omega
      · rw [if_neg (by omega), List.getElem?_append_right (by simp; omega), List.getElem?_append_right (by simp; omega)]
        simp only [List.getElem?_drop, List.getElem?_replicate]
        split <;> rfl
  · rw [if_neg hok, if_neg (fun h => hok h.1)]
    simp [hi]

theorem wds_all (N : Nat) (P : List Int) (h : P.length = N) : wds P 0 N = P := by
  unfold wds hiN loN
  subst h
  simp
theorem clampN_nat (N : Nat) (h : N ≤ 65536) : clampN N = N := by unfold clampN; omega

set_option maxHeartbeats 1600000 in
theorem walk_CellsPuts (a0 : Int) (a1 : Int) (a2 : Option Addr) (n2 c2 : Nat) (L2 : List Int) (w : World) (w0 : (Lit.int .i64 a0).wf = true) (w1 : (Lit.int .i64 a1).wf = true) (w2 : RdI .i64 w a2 n2 L2) :
    Calls Try.prog 8 #[.int .i64 a0, .int .i64 a1, .slice a2 n2 c2] w fun e w' => e = .returned (.bool true) ∧ Below w.heap.size w w' := by
  have hn := w2.le
  unfold maxLen at hn
  have hl2 := w2.hlen
  have HL2 := Lib.hid hl2
  clear hl2
  have hr1 := i64_of_wf w1
  unfold I64 at hr1
  obtain ⟨hr1, hr1'⟩ := hr1
  have h3 : (0 ≤ a0 ∧ 0 ≤ a0 % 41 ∧ ∃ N : Nat, a0 % 41 = N ∧ N ≤ 40) ∨ (-41 < a0.tmod 41 ∧ a0.tmod 41 < 0 ∧ ∃ N : Nat, -(a0.tmod 41) = N ∧ N ≤ 40) ∨ (-41 < a0.tmod 41 ∧ ¬ a0.tmod 41 < 0 ∧ ∃ N : Nat, a0.tmod 41 = N ∧ N ≤ 40) := by
    have h4 := Int.tmod_lt_of_pos a0 (b := 41) (by omega)
    have h5 := Int.lt_tmod_of_pos a0 (b := 41) (by omega)
    by_cases h0 : 0 ≤ a0
    · exact .inl ⟨h0, by omega, (a0 % 41).toNat, by omega, by omega⟩
    · by_cases h1 : a0.tmod 41 < 0
      · exact .inr (.inl ⟨by omega, h1, (-(a0.tmod 41)).toNat, by omega, by omega⟩)
      · exact .inr (.inr ⟨by omega, h1, (a0.tmod 41).toNat, by omega, by omega⟩)
  clear w0 w1
  rcases h3 with ⟨ha, hneg, N, hN, hN40⟩ | ⟨ha, hneg, N, hN, hN40⟩ | ⟨ha, hneg, N, hN, hN40⟩
  all_goals
    have HN := Lib.hid hN
    clear hN
    go_enter Try.func8, Try.ntmps8
    go_wp2_with fail
    refine (awake_true w).mono ?_
    rintro e w' ⟨rfl, f0⟩
    go_wp2_with fail
    rw [HN.out]
    clear HN
    refine (c_New N w').mono ?_
    rintro e wb ⟨rfl, h1, f1⟩
    rw [clampN_nat N (by omega)] at h1
    have hs0 := f0.size
    have hs1 := f1.size
    have hp : w.heap.size ≤ w'.heap.size + 1 := by omega
    have hq : w.heap.size ≤ w'.heap.size := by omega
    have G1 : Fr (foot (w'.heap.size + 1) w'.heap.size) w wb := (f0.trans f1).mono (fun _ _ h => h.elim)
    generalize w'.heap.size + 1 = p at *
    generalize w'.heap.size = q at *
    clear f0 f1 hs0 hs1
    have hfoot : ∀ k, k < w.heap.size → ¬ foot p q k := by rintro k hk (rfl | rfl) <;> omega
    have hrd := (w2.below (G1.below (Nat.le_refl _) hfoot)).reads
    have H1 := Lib.hid h1
    have HR := Lib.hid hrd
    clear h1 hrd
    go_wp2_with fail
    refine (c_Put p q (List.replicate N 0) 0 a1 a2 n2 c2 L2 _ H1.out HR.out hn).mono ?_
    rintro e wc ⟨he, h2, f2⟩
    have G2 := G1.trans f2
    clear G1 f2 H1 HR
    have hPl := putW_len (List.replicate N 0) a1 L2
    rw [List.length_replicate] at hPl
    have HPl := Lib.hid hPl
    have hat := putW_at N a1 L2
    have HA := Lib.hid hat
    clear hPl hat
    generalize hP : putW (List.replicate N 0) a1 L2 = P at *
    clear hP
    have hw := c_Words p q P 0 0 N wc h2
    rw [wds_all N P HPl.out] at hw
    have HW := Lib.hid hw
    have H2 := Lib.hid h2
    clear hw h2
    by_cases hok : putOK (List.replicate N 0) a1 L2
    · have e1 : putE (List.replicate N 0) a1 L2 = 0 := by rw [putE, if_pos hok]
      rw [e1] at he
      subst he
      clear e1
      have h5 := hok
      unfold putOK at h5
      rw [List.length_replicate, HL2.out] at h5
      obtain ⟨h5, h6, h7⟩ := h5
      have HO := Lib.hid hok
      clear hok
      go_wp2_with fail
      refine HW.out.mono ?_
      rintro e wd ⟨v, rfl, hv, f3⟩
      have G3 := G2.step f3 (fun _ h => h.elim)
      have h3 := H2.out.fr f3 (fun h => h) (fun h => h)
      obtain ⟨sa, cap, rfl, hcv⟩ := owns_rd hv
      rw [HPl.out] at hcv ⊢
      go_wp2_with fail
      refine (c_Steps p q P 0 _ h3).mono ?_
      rintro e w' ⟨rfl, rfl⟩
      go_wp2_with fail
      clear HW H2
      go_loop [13] (fun i => ∃ k : Nat, i = .int .i64 k ∧ k ≤ N) (fun i => N - (intOf i).toNat)
      case atStart => exact ⟨0, rfl, by omega⟩
      case round =>
        obtain ⟨k, rfl, hk⟩ := hrel
        by_cases hlt : k < N
        · obtain ⟨g, rfl, _, _, hg⟩ := hcv (by omega)
          have hgk := hg k (.int .i64 (P.getD k 0)) (by have := HPl.out; simp only [List.getElem?_map, List.getD_eq_getElem?_getD]; rw [List.getElem?_eq_getElem (by omega)]; rfl)
          have hP := HA.out k hlt
          by_cases hin : a1 ≤ k ∧ (k : Int) < a1 + n2
          · rw [if_pos ⟨HO.out, hin.1, by rw [HL2.out]; exact hin.2⟩] at hP
            rw [hP] at hgk
            obtain ⟨hin1, hin2⟩ := hin
            obtain ⟨b, off, rfl, hb, hcell⟩ := w2.at_ (by omega)
            have hcx := hcell ((k : Int) - a1).toNat (by omega)
            have hcx' : wd.cell? ⟨b, off + ((k : Int) - a1).toNat, none⟩ = some (.int .i64 (L2.getD ((k : Int) - a1).toNat 0)) := (World.cell?_of_block (w := w) (a := ⟨b, off + ((k : Int) - a1).toNat, none⟩) (G3.block b hb (hfoot b hb))).trans hcx
            clear hcx hcell hP hg hcv
            generalize L2.getD ((k : Int) - a1).toNat 0 = u at *
            go_wp2
            all_goals
              go_round
              case rel => exact ⟨k + 1, by go_num, by omega⟩
              case measure => simp [intOf]; omega
          · rw [if_neg (fun h => hin ⟨h.2.1, by have := h.2.2; rw [HL2.out] at this; exact this⟩)] at hP
            rw [hP] at hgk
            have hin' : (k : Int) < a1 ∨ (a1 ≤ k ∧ a1 + n2 ≤ k) := by omega
            clear hin hP hg hcv
            rcases hin' with hin | ⟨hin, hin'⟩
            all_goals
              go_wp2
              go_round
              case rel => exact ⟨k + 1, by go_num, by omega⟩
              case measure => simp [intOf]; omega
        · go_wp2
          go_ret
          exact ⟨rfl, G3.below (Nat.le_refl _) hfoot⟩
    · have e1 : putE (List.replicate N 0) a1 L2 = 10 := by rw [putE, if_neg hok]
      rw [e1] at he
      subst he
      clear e1
      have ho : a1 < 0 ∨ (0 ≤ a1 ∧ (N : Int) < a1) ∨ (0 ≤ a1 ∧ a1 ≤ (N : Int) ∧ (N : Int) - a1 < n2) := by unfold putOK at hok; rw [List.length_replicate, HL2.out] at hok; omega
      have HO := Lib.hid hok
      clear hok
      rcases ho with ho | ⟨ho, ho'⟩ | ⟨ho, ho', ho''⟩
      all_goals
        go_wp2_with fail
        refine HW.out.mono ?_
        rintro e wd ⟨v, rfl, hv, f3⟩
        have G3 := G2.step f3 (fun _ h => h.elim)
        have h3 := H2.out.fr f3 (fun h => h) (fun h => h)
        obtain ⟨sa, cap, rfl, hcv⟩ := owns_rd hv
        rw [HPl.out] at hcv ⊢
        go_wp2_with fail
        refine (c_Steps p q P 0 _ h3).mono ?_
        rintro e w' ⟨rfl, rfl⟩
        go_wp2_with fail
        clear HW H2
        go_loop [13] (fun i => ∃ k : Nat, i = .int .i64 k ∧ k ≤ N) (fun i => N - (intOf i).toNat)
        case atStart => exact ⟨0, rfl, by omega⟩
        case round =>
          obtain ⟨k, rfl, hk⟩ := hrel
          by_cases hlt : k < N
          · obtain ⟨g, rfl, _, _, hg⟩ := hcv (by omega)
            have hgk := hg k (.int .i64 (P.getD k 0)) (by have := HPl.out; simp only [List.getElem?_map, List.getD_eq_getElem?_getD]; rw [List.getElem?_eq_getElem (by omega)]; rfl)
            have hP := HA.out k hlt
            rw [if_neg (fun h => HO.out h.1)] at hP
            rw [hP] at hgk
            clear hP hg hcv
            go_wp2
            go_round
            case rel => exact ⟨k + 1, by go_num, by omega⟩
            case measure => simp [intOf]; omega
          · go_wp2
            go_ret
            exact ⟨rfl, G3.below (Nat.le_refl _) hfoot⟩
end Go.Proofs.Ytnknamdhobieiaa
