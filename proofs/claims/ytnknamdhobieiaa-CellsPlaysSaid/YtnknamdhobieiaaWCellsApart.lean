/- CellsApart, the walk: what is done to one cell changes no other one. -/
import Derived.Test.YtnknamdhobieiaaWCellsPuts
import Derived.Test.YtnknamdhobieiaaOps1
import Derived.Test.YtnknamdhobieiaaH2
import Derived.Deep.QuietTactic
import Derived.BigQuiet
namespace Go.Proofs.Ytnknamdhobieiaa
open Go.RowKit Go.HK
set_option maxRecDepth 100000

theorem RdI.take {w : World} {a : Option Addr} {n : Nat} {L : List Int} (h : RdI .i64 w a n L) (k : Nat) (hk : k ≤ n) : RdI .i64 w a k (L.take k) := by
  have hl := h.hlen
  refine ⟨by simp; omega, by have := h.le; omega, fun e z hz => h.rng e z (List.mem_of_mem_take hz), fun h0 => ?_⟩
  obtain ⟨b, off, e, hb, hc⟩ := h.at_ (by omega)
  exact ⟨b, off, e, hb, fun i hi => by rw [getD_take _ _ _ hi]; exact hc i (by omega)⟩

theorem fr_drewN {S : Nat → Prop} {w w' : World} (h : Fr S w w') (n : Nat) : Fr S w (w'.drewN n) := ⟨h.os, h.tape, h.output, h.size, h.block⟩
theorem wds_30 {P : List Int} (h : P.length = 30) : wds P 0 30 = P := wds_all 30 P h
theorem inR_30 {P : List Int} (h : P.length = 30) {k : Nat} (hk : k < 30) : inR P k := by unfold inR; omega
theorem stW_at {P : List Int} (h : P.length = 30) {k : Nat} (hk : k < 30) (x : Int) : stW P k x = P.set k x := by
  rw [stW, if_pos (inR_30 h hk)]; rfl
theorem okE_at {P : List Int} (h : P.length = 30) {k : Nat} (hk : k < 30) : okE P k = 0 := by
  rw [okE, if_pos (inR_30 h hk)]
theorem swW_at {P : List Int} (h : P.length = 30) {k : Nat} (hk : k < 30) (x y : Int) : swW (P.set k x) k x y = P.set k y := by
  have : swB (P.set k x) k x = true := by
    unfold swB
    rw [decide_eq_true_eq]
    exact ⟨inR_30 (by simpa using h) hk, by simp [h, hk]⟩
  rw [swW, if_pos this]
  simp
theorem adW_at {P : List Int} (h : P.length = 30) {k : Nat} (hk : k < 30) (y d : Int) : adW (P.set k y) k d = P.set k (wrap64 (y + d)) := by
  rw [adW, if_pos (inR_30 (by simpa using h) hk)]
  simp [h, hk]

theorem size_up {S : Nat → Prop} {w w' : World} {o : Obj} (h : Fr S (w.alloc o) w') : w.heap.size + 1 ≤ w'.heap.size := by
  have := h.size
  simp only [World.alloc, Array.size_push] at this
  exact this

set_option maxHeartbeats 3200000 in
theorem walk_CellsApart (a0 : Option Addr) (n0 c0 : Nat) (L0 : List Int) (a1 : Int) (x2 y2 : Int) (w : World) (w0 : RdI .i64 w a0 n0 L0 ∧ n0 ≤ c0) (w1 : (Lit.int .i64 a1).wf = true) (w2 : I64 x2 ∧ I64 y2) :
    Calls Try.prog 7 #[.slice a0 n0 c0, .int .i64 a1, .agg #[.int .i64 x2, .int .i64 y2]] w fun e w' => e = .returned (.bool true) ∧ Below w.heap.size w w' := by
  obtain ⟨w0, hcap⟩ := w0
  have hn := w0.le
  unfold maxLen at hn
  have hr1 := i64_of_wf w1
  unfold I64 at hr1
  obtain ⟨hr1, hr1'⟩ := hr1
  clear w1 w2
  have hk : (0 ≤ a1 ∧ ∃ k : Nat, a1 % 30 = k ∧ k < 30) ∨ (a1 < 0 ∧ ∃ k : Nat, -((a1 + 1).tmod 30) = k ∧ k < 30) := by
    by_cases h : 0 ≤ a1
    · exact .inl ⟨h, (a1 % 30).toNat, by omega, by omega⟩
    · have e : -((a1 + 1).tmod 30) = (-(a1 + 1)) % 30 := by rw [← Int.neg_tmod, Int.tmod_eq_emod_of_nonneg (by omega)]
      rw [e]
      exact .inr ⟨by omega, ((-(a1 + 1)) % 30).toNat, by omega, by omega⟩
  have hs : ∃ (m : Nat) (L : List Int), RdI .i64 w a0 m L ∧ m ≤ 30 ∧ (n0 ≤ 30 ∧ m = n0 ∨ 30 < n0 ∧ m = 30 ∧ ∃ ad, a0 = some ad) := by
    by_cases h : n0 ≤ 30
    · exact ⟨n0, L0, w0, h, .inl ⟨h, rfl⟩⟩
    · refine ⟨30, L0.take 30, w0.take 30 (by omega), by omega, .inr ⟨by omega, rfl, ?_⟩⟩
      obtain ⟨b, off, e, _⟩ := w0.at_ (by omega)
      exact ⟨_, e⟩
  obtain ⟨m, L, hL, hm, hs⟩ := hs
  clear w0
  rcases hs with ⟨hn0, rfl⟩ | ⟨hn0, rfl, ad, rfl⟩
  all_goals
    rcases hk with ⟨ha, k, hk, hk30⟩ | ⟨ha, k, hk, hk30⟩
    all_goals
      have HK := Lib.hid hk
      have HL := Lib.hid hL
      clear hk hL
      go_enter Try.func7, Try.ntmps7
      go_wp2_with fail
      refine (awake_true _).mono ?_
      rintro e w' ⟨rfl, f0⟩
      have hv0 := f0.blk (Blk.new w 56 [.int .i64 x2, .int .i64 y2]) (fun h => h)
      have hz0 := size_up f0
      have g0 : Fr (fun _ => False) w w' := ((Fr.refl _ w).alloc _).trans f0
      clear f0
      go_wp2_with fail
      refine (c_New 30 w').mono ?_
      rintro e wb ⟨rfl, h1, f1⟩
      rw [show clampN 30 = 30 by decide +kernel] at h1
      have hs1 := f1.size
      have hp : w.heap.size < w'.heap.size + 1 := by omega
      have hq : w.heap.size < w'.heap.size := by omega
      have G1 : Fr (foot (w'.heap.size + 1) w'.heap.size) w wb := (g0.trans f1).mono (fun _ _ h => h.elim)
      have hv1 := f1.blk hv0 (fun h => h)
      generalize w'.heap.size + 1 = p at *
      generalize w'.heap.size = q at *
      clear f1 hs1 hv0 hz0 g0
      have hfoot : ∀ k, k ≤ w.heap.size → ¬ foot p q k := by rintro k hk (rfl | rfl) <;> omega
      have hrd := (HL.out.below (G1.below (Nat.le_refl _) (fun k hk => hfoot k (by omega)))).reads
      have H1 := Lib.hid h1
      have HR := Lib.hid hrd
      clear h1 hrd
      go_wp2_with fail
      refine (c_Put p q (List.replicate 30 0) 0 0 _ _ _ L _ H1.out HR.out (by omega)).mono ?_
      rintro e wc ⟨rfl, h2, f2⟩
      have G2 := G1.trans f2
      have hv2 := f2.blk hv1 (hfoot _ (Nat.le_refl _))
      have hPl := putW_len (List.replicate 30 0) 0 L
      rw [List.length_replicate] at hPl
      have HPl := Lib.hid hPl
      clear hPl G1 f2 hv1 H1 HR
      generalize putW (List.replicate 30 0) 0 L = P at *
      have hw := c_Words p q P 0 0 30 wc h2
      rw [wds_30 HPl.out] at hw
      have HW := Lib.hid hw
      have hpl := h2.str.lt
      have hql := h2.row.lt
      clear hw
      go_wp2_with fail
      refine HW.out.mono ?_
      rintro e wd ⟨v, rfl, hv, f3⟩
      have G3 := G2.step f3 (fun _ h => h.elim)
      have h3 := h2.fr f3 (fun h => h) (fun h => h)
      have hv3 := f3.blk hv2 (fun h => h)
      obtain ⟨sa, cap, rfl, hcv⟩ := owns_rd hv
      rw [HPl.out] at hcv ⊢
      obtain ⟨g, rfl, hg1, hg2, hg⟩ := hcv (by omega)
      have hgn : ¬ foot p q g := by rintro (rfl | rfl) <;> omega
      have hgv : ∀ i, i < 30 → wd.cell? ⟨g, i, none⟩ = some (.int .i64 (P.getD i 0)) := fun i hi => hg i _ (by have := HPl.out; simp only [List.getElem?_map, List.getD_eq_getElem?_getD]; rw [List.getElem?_eq_getElem (by omega)]; rfl)
      have hc0 := hv3.cell 0
      have hc1 := hv3.cell 1
      clear hg hv G2 f3 hv2 HW h2 hpl hql
      go_wp2_with fail
      rw [HK.out]
      clear HK
      refine (c_Store p q P 0 k x2 wd h3).mono ?_
      rintro e w4 ⟨rfl, h4, f4⟩
      rw [stW_at HPl.out hk30] at h4
      have G4 := G3.trans f4
      have hc0 := f4.cell2 hc0 (hfoot _ (Nat.le_refl _))
      have hc1 := f4.cell2 hc1 (hfoot _ (Nat.le_refl _))
      have hgv := fun i hi => f4.cell2 (hgv i hi) hgn
      clear f4 h3 G3
      go_wp2_with fail
      refine (c_Swap p q _ _ k x2 y2 w4 h4).mono ?_
      rintro e w5 ⟨rfl, h5, f5⟩
      rw [swW_at HPl.out hk30] at h5
      have G5 := G4.trans f5
      have hc0 := f5.cell2 hc0 (hfoot _ (Nat.le_refl _))
      have hc1 := f5.cell2 hc1 (hfoot _ (Nat.le_refl _))
      have hgv := fun i hi => f5.cell2 (hgv i hi) hgn
      clear f5 h4 G4
      go_wp2_with fail
      refine (c_Add p q _ _ k x2 w5 h5).mono ?_
      rintro e w6 ⟨rfl, h6, f6⟩
      rw [adW_at HPl.out hk30] at h6
      have G6 := G5.trans f6
      have hc0 := f6.cell2 hc0 (hfoot _ (Nat.le_refl _))
      have hc1 := f6.cell2 hc1 (hfoot _ (Nat.le_refl _))
      have hgv := fun i hi => f6.cell2 (hgv i hi) hgn
      clear f6 h5 G5
      go_wp2_with fail
      refine (c_Load p q _ _ k w6 h6).mono ?_
      rintro e w7 ⟨rfl, h7, f7⟩
      have G7 := G6.trans f7
      have hc0 := f7.cell2 hc0 (hfoot _ (Nat.le_refl _))
      have hc1 := f7.cell2 hc1 (hfoot _ (Nat.le_refl _))
      have hgv := fun i hi => f7.cell2 (hgv i hi) hgn
      clear f7 h6 G6
      have hsl : (P.set k (wrap64 (y2 + x2))).length = 30 := by simpa using HPl.out
      have HSL := Lib.hid hsl
      have hF : ∀ i, i < 30 → (P.set k (wrap64 (y2 + x2))).getD i 0 = if i = k then wrap64 (y2 + x2) else P.getD i 0 := by
        intro i hi
        have := HPl.out
        by_cases h : i = k
        · subst h; rw [if_pos rfl]; simp [hsl, this, hi]
        · rw [if_neg h]; simp only [List.getD_eq_getElem?_getD]; rw [List.getElem?_set_ne (by omega)]
      have HF := Lib.hid hF
      clear hsl hF
      generalize P.set k (wrap64 (y2 + x2)) = F at *
      have hw := c_Words p q F _ 0 30 w7 h7
      rw [wds_30 HSL.out] at hw
      have HW := Lib.hid hw
      have hpl := h7.str.lt
      have hql := h7.row.lt
      clear hw
      go_wp2_with fail
      refine HW.out.mono ?_
      rintro e w8 ⟨v, rfl, hv, f8⟩
      have G8 := G7.step f8 (fun _ h => h.elim)
      obtain ⟨sb, cap', rfl, hcv'⟩ := owns_rd hv
      rw [HSL.out] at hcv' ⊢
      obtain ⟨g', rfl, hg1', hg2', hg'⟩ := hcv' (by omega)
      have hgv' : ∀ i, i < 30 → w8.cell? ⟨g', i, none⟩ = some (.int .i64 (if i = k then wrap64 (y2 + x2) else P.getD i 0)) := fun i hi => by
        rw [← HF.out i hi]
        exact hg' i _ (by have := HSL.out; simp only [List.getElem?_map, List.getD_eq_getElem?_getD]; rw [List.getElem?_eq_getElem (by omega)]; rfl)
      have hc0 := f8.cell2 hc0 (fun h => h)
      have hc1 := f8.cell2 hc1 (fun h => h)
      have hgv := fun i hi => f8.cell2 (hgv i hi) (fun h => h)
      clear hg' hv f8 G7 HW h7 hpl hql hcv hcv' HF
      have hck := hgv' k hk30
      rw [if_pos rfl] at hck
      go_wp2_with (go_quiet (fail))
      have G9 := fr_drewN G8 nq
      have hgv : ∀ i, i < 30 → (w8.drewN nq).cell? ⟨g, i, none⟩ = some (.int .i64 (P.getD i 0)) := hgv
      have hgv' : ∀ i, i < 30 → (w8.drewN nq).cell? ⟨g', i, none⟩ = some (.int .i64 (if i = k then wrap64 (y2 + x2) else P.getD i 0)) := hgv'
      generalize w8.drewN nq = w9 at *
      clear hck hc0 hc1 G8 hg2'
      go_loopw [12] (fun i wr => ∃ j : Nat, i = .int .i64 j ∧ j ≤ 30 ∧ Fr (foot p q) w wr ∧ (∀ i, i < 30 → wr.cell? ⟨g, i, none⟩ = some (.int .i64 (P.getD i 0))) ∧ (∀ i, i < 30 → wr.cell? ⟨g', i, none⟩ = some (.int .i64 (if i = k then wrap64 (y2 + x2) else P.getD i 0)))) (fun i _ => 30 - (intOf i).toNat)
      case atStart => exact ⟨0, rfl, by omega, G9, hgv, hgv'⟩
      case round =>
        obtain ⟨j, rfl, hj, G, ha, hb⟩ := hrel
        by_cases hlt : j < 30
        · by_cases hjk : j = k
          · subst hjk
            have hd : decide ((j : Int) = (j : Int)) = true := by simp
            go_wp2_with (go_quiet (fail))
            go_roundw
            case rel => exact ⟨j + 1, by go_num, by omega, fr_drewN G _, ha, hb⟩
            case measure => simp [intOf]; omega
          · have h1 := ha j hlt
            have h2 := hb j hlt
            rw [if_neg hjk] at h2
            have hd : ¬ ((j : Int) = k) := by omega
            have hd2 : decide ((j : Int) = k) = false := decide_eq_false hd
            go_wp2_with (go_quiet (fail))
            go_roundw
            case rel => exact ⟨j + 1, by go_num, by omega, fr_drewN G _, ha, hb⟩
            case measure => simp [intOf]; omega
        · go_wp2
          go_ret
          exact ⟨rfl, G.below (Nat.le_refl _) (fun k hk => hfoot k (by omega))⟩
end Go.Proofs.Ytnknamdhobieiaa
