/- ClassesSums, the walk: sizes come together to the same, whatever their order, and to no more than there may be. -/
import Derived.Test.YteappcepppicoaaAwake3
namespace Go.Proofs.Yteappcepppicoaa
open Go.RowKit Go.HK
set_option maxRecDepth 100000

def good (L : List Int) : Bool := decide ((∀ x ∈ L, 0 ≤ x) ∧ L.sum ≤ 65536)
theorem good_iff (L : List Int) : good L = true ↔ (∀ x ∈ L, 0 ≤ x) ∧ L.sum ≤ 65536 := by unfold good; exact decide_eq_true_iff
theorem sum_nonneg {L : List Int} (h : ∀ x ∈ L, 0 ≤ x) : 0 ≤ L.sum := by
  induction L with
  | nil => simp
  | cons x t ih => have h1 := h x (by simp); have h2 := ih (fun y hy => h y (by simp [hy])); simp; omega
theorem good_cons (x : Int) (T : List Int) : good (x :: T) = (good T && decide (0 ≤ x) && decide (x ≤ 65536 - T.sum)) := by
  rw [Bool.eq_iff_iff, Bool.and_eq_true, Bool.and_eq_true, good_iff, good_iff, decide_eq_true_iff, decide_eq_true_iff]
  simp only [List.mem_cons, List.sum_cons]
  constructor
  · rintro ⟨h1, h2⟩
    have h3 := h1 x (.inl rfl)
    have h4 := sum_nonneg (fun y hy => h1 y (.inr hy))
    exact ⟨⟨⟨fun y hy => h1 y (.inr hy), by omega⟩, h3⟩, by omega⟩
  · rintro ⟨⟨⟨h1, h2⟩, h3⟩, h4⟩
    exact ⟨fun y hy => hy.elim (fun e => e ▸ h3) (h1 y), by omega⟩
theorem good_sum {L : List Int} (h : good L = true) : 0 ≤ L.sum ∧ L.sum ≤ 65536 := by
  unfold good at h
  rw [decide_eq_true_eq] at h
  exact ⟨sum_nonneg h.1, h.2⟩
theorem sumP_good (L : List Int) : ∀ n : Int, 0 ≤ n → n ≤ 65536 → sumP n L = if (∀ x ∈ L, 0 ≤ x) ∧ n + L.sum ≤ 65536 then (n + L.sum, 0) else (0, 11) := by
  induction L with
  | nil => intro n h1 h2; rw [if_pos ⟨by simp, by simp; omega⟩]; simp [sumP]
  | cons x t ih =>
    intro n h1 h2
    unfold sumP
    by_cases hb : x < 0 ∨ 65536 - n < x
    · rw [if_pos hb, if_neg]
      rintro ⟨h3, h4⟩
      have h5 := h3 x (by simp)
      have h6 := sum_nonneg (fun y hy => h3 y (List.mem_cons_of_mem _ hy))
      simp only [List.sum_cons] at h4
      omega
    · rw [if_neg hb, ih (n + x) (by omega) (by omega)]
      have e : ((∀ y ∈ t, 0 ≤ y) ∧ n + x + t.sum ≤ 65536) ↔ ((∀ y ∈ x :: t, 0 ≤ y) ∧ n + (x :: t).sum ≤ 65536) := by
        simp only [List.sum_cons, List.mem_cons]
        constructor
        · rintro ⟨h3, h4⟩
          exact ⟨fun y hy => hy.elim (fun e => by omega) (h3 y), by omega⟩
        · rintro ⟨h3, h4⟩
          exact ⟨fun y hy => h3 y (.inr hy), by omega⟩
      by_cases hc : (∀ y ∈ t, 0 ≤ y) ∧ n + x + t.sum ≤ 65536
      · rw [if_pos hc, if_pos (e.1 hc), List.sum_cons, Int.add_assoc]
      · rw [if_neg hc, if_neg (fun h => hc (e.2 h))]
theorem sumP_is (L : List Int) : sumP 0 L = if good L = true then (L.sum, 0) else (0, 11) := by
  rw [sumP_good L 0 (by omega) (by omega)]
  unfold good
  simp only [decide_eq_true_eq, Int.zero_add]
theorem sum_rev (L : List Int) : L.reverse.sum = L.sum := by
  induction L with
  | nil => rfl
  | cons x t ih => simp [ih]; omega
theorem good_rev (L : List Int) : good L.reverse = good L := by
  unfold good
  simp only [List.mem_reverse, sum_rev]
theorem sumP_rev (L : List Int) : sumP 0 L.reverse = sumP 0 L := by rw [sumP_is, sumP_is, good_rev, sum_rev]

set_option maxHeartbeats 1600000 in
theorem walk_ClassesSums (a0 : Option Addr) (n0 c0 : Nat) (L0 : List Int) (w : World) (w0 : RdI .i64 w a0 n0 L0 ∧ n0 * 8 ≤ 140737488355328) :
    Calls Try.prog 8 #[.slice a0 n0 c0] w fun e w' => e = .returned (.bool true) ∧ Below w.heap.size w w' := by
  obtain ⟨w0, hbig⟩ := w0
  have hl := w0.hlen
  have hrng := w0.rng rfl
  have hsm := fun w' (f : Fr (fun _ => False) w w') => c_Sum a0 n0 c0 L0 w' (w0.below (f.below (Nat.le_refl _) (fun _ _ h => h)))
  have hsr : ∀ w' a cp, RdI .i64 w' a n0 L0.reverse → Calls Try.prog 19 #[.slice a n0 cp] w' fun e w'' => e = .returned (.tuple #[.int .i64 (sumP 0 L0).1, .int .i64 (sumP 0 L0).2]) ∧ w' = w'' := fun w' a cp h => by
    have := c_Sum a n0 cp L0.reverse w' h
    rwa [sumP_rev] at this
  rw [sumP_is] at hsm hsr
  have HM := Lib.hid hsm
  have HM' := Lib.hid hsr
  have HL := Lib.hid hl
  have HRG := Lib.hid hrng
  clear hsm hsr hl hrng
  obtain ⟨i0, hi, hz0, hz1, hz2⟩ := info_parts info_int
  go_enter Try.func8, Try.ntmps8
  go_wp2_with fail
  refine (awake_true _).mono ?_
  rintro e wa ⟨rfl, f0⟩
  have hsa := f0.size
  go_wp2_with fail
  go_loopw [4, 5, 6, 7] (fun v s mm i wr => ∃ (k : Nat) (m : Int), i = .int .i64 ((k : Int) - 1) ∧ k ≤ n0 ∧ s = .bool (good (L0.drop k)) ∧ mm = .int .i64 m ∧ 0 ≤ m ∧ m ≤ 65536 ∧ (good (L0.drop k) = true → m = (L0.drop k).sum) ∧
      wr.ownsRow wa.heap.size 3 1 v (n0 - k) (((L0.drop k).reverse).map (.int .i64)) ∧ Fr (fun _ => False) w wr ∧ wa.heap.size ≤ wr.heap.size)
    (fun _ _ _ i _ => (intOf i + 1).toNat)
  case atStart =>
    have hd : L0.drop n0 = [] := List.drop_of_length_le (by have := HL.out; omega)
    refine ⟨n0, 0, rfl, by omega, by rw [hd]; rfl, rfl, by omega, by omega, by rw [hd]; simp, ?_, f0, Nat.le_refl _⟩
    rw [hd, Nat.sub_self]
    exact World.ownsRow_nil _ _ _ _
  case round =>
    obtain ⟨k, m, rfl, hk, rfl, rfl, hm0, hm1, hms, hown, G, hsz⟩ := hrel
    have HO := Lib.hid hown
    clear hown
    cases k with
    | succ j =>
      have hj : j < n0 := by omega
      have hd : L0.drop j = L0.getD j 0 :: L0.drop (j + 1) := by
        have h1 : j < L0.length := by have := HL.out; omega
        rw [List.drop_eq_getElem_cons h1]
        simp [List.getD_eq_getElem?_getD, List.getElem?_eq_getElem h1]
      have hgd := good_cons (L0.getD j 0) (L0.drop (j + 1))
      rw [← hd] at hgd
      have hsd : (L0.drop j).sum = L0.getD j 0 + (L0.drop (j + 1)).sum := by rw [hd]; simp
      have hrd : (L0.drop j).reverse = (L0.drop (j + 1)).reverse ++ [L0.getD j 0] := by rw [hd]; simp
      have hll : ((L0.drop (j + 1)).reverse).length = n0 - (j + 1) := by have := HL.out; simp; omega
      obtain ⟨b, off, rfl, hb, hcell⟩ := w0.at_ (by omega)
      have hcw := hcell j hj
      have hcx := G.cell hcw (fun h => h)
      clear hd hcell
      rw [show ((j + 1 : Nat) : Int) - 1 = (j : Int) by omega]
      have hgs := @good_sum (L0.drop (j + 1))
      generalize hT : L0.drop (j + 1) = T at *
      generalize hU : L0.drop j = U at *
      have HU := Lib.hid hU
      clear hT hU
      generalize T.sum = t at *
      generalize T.reverse = R at *
      generalize good T = g at *
      have HGD := Lib.hid hgd
      have HSD := Lib.hid hsd
      have HRD := Lib.hid hrd
      have HLL := Lib.hid hll
      clear hgd hsd hrd hll
      generalize L0.getD j 0 = x at *
      have h4 : g = false ∨ (g = true ∧ m = t ∧ x < 0) ∨ (g = true ∧ m = t ∧ 0 ≤ x ∧ 65536 - m < x) ∨ (g = true ∧ m = t ∧ 0 ≤ x ∧ x ≤ 65536 - m) := by
        cases g with
        | false => exact .inl rfl
        | true =>
          have e := hms rfl
          by_cases h1 : x < 0
          · exact .inr (.inl ⟨rfl, e, h1⟩)
          · by_cases h2 : 65536 - m < x
            · exact .inr (.inr (.inl ⟨rfl, e, by omega, h2⟩))
            · exact .inr (.inr (.inr ⟨rfl, e, by omega, by omega⟩))
      clear hms hgs
      rcases h4 with rfl | ⟨rfl, rfl, hx⟩ | ⟨rfl, rfl, hx, hx'⟩ | ⟨rfl, rfl, hx, hx'⟩
      all_goals
        go_wp2_with (at_builtin; refine wpList_append_own _ rfl _ _ 31 rfl wa.heap.size 3 i0 (.int .i64 0) 1 8 Try.underlying31 hi hz0 hz1 hz2 rfl (by decide) _ _ _ rfl (HO.out.alloc _) ⟨wr.heap.size, 0, none⟩ 1 1 [.int .i64 x] rfl rfl ?c1 ?c2 ?c3 ?c4 ?c5 ?_)
        case c1 =>
          intro i u hu
          match i, hu with
          | 0, hu => simp at hu; subst hu; simp [Addr.add]
        case c2 => first | rfl | (intro u hu; simp at hu; subst hu; rfl)
        case c3 => unfold maxLen; omega
        case c4 => omega
        case c5 => first | omega | (simp; omega)
        intro v' w4 hown4 hgrow _
        have hg4 := hgrow.size
        have G4 := (G.alloc (.cells #[.int .i64 x] 3)).grown hgrow (fun k hk => .inr (by have := HO.out.lt _ hk; omega))
        have hcx4 : w4.cell? ⟨b, off + j, none⟩ = some (.int .i64 x) := G4.cell hcw (fun h => h)
        have HO4 := Lib.hid hown4
        clear hown4 hgrow
        go_wp2
        go_roundw
        case rel =>
          have h5 := HSD.out
          refine ⟨j, _, by go_num, by omega, ?_, rfl, by omega, by omega, ?_, ?_, G4, by have := hg4; first | omega | (simp at this; omega)⟩
          · rw [HU.out, HGD.out]
            first
              | rfl
              | (rw [decide_eq_false (by omega)]; rfl)
              | (rw [decide_eq_true (p := 0 ≤ x) (by omega), decide_eq_false (by omega)]; rfl)
              | (rw [decide_eq_true (p := 0 ≤ x) (by omega), decide_eq_true (by omega)]; rfl)
          · rw [HU.out, HGD.out]
            intro h6
            first
              | omega
              | (simp at h6; done)
              | (simp at h6; omega)
          · rw [HU.out, HRD.out, show n0 - j = n0 - (j + 1) + 1 by omega]
            simpa using HO4.out
        case measure => first | (simp [intOf]; done) | (simp [intOf]; omega)
    | zero =>
      rw [List.drop_zero] at *
      obtain ⟨av, cp, rfl, hlv, hcv⟩ := owns_at HO.out
      rw [Nat.sub_zero] at *
      have hR : RdI .i64 wr av n0 L0.reverse := ⟨hlv, by unfold maxLen; omega, fun _ z hz => HRG.out z (List.mem_reverse.1 hz), fun h => by
        obtain ⟨g, e, h1, h2, h3⟩ := hcv h
        exact ⟨g, 0, e, h2, fun i hi => by rw [Nat.zero_add]; exact h3 i hi⟩⟩
      have HR := Lib.hid hR
      have hbl := G.below (Nat.le_refl _) (fun _ _ h => h)
      have HB := Lib.hid hbl
      clear hR hcv hlv HO hbl
      cases hg : good L0 with
      | true =>
        obtain rfl := hms hg
        rw [hg, if_pos rfl] at HM HM'
        clear hms
        generalize L0.sum = m at *
        go_wp2_with fail
        refine (HM.out _ G).mono ?_
        rintro e w' ⟨rfl, rfl⟩
        go_wp2_with fail
        refine (HM'.out _ _ _ HR.out).mono ?_
        rintro e w' ⟨rfl, rfl⟩
        go_wp2
        go_ret
        exact ⟨rfl, HB.out⟩
      | false =>
        rw [hg, if_neg (by simp)] at HM HM'
        clear hms
        go_wp2_with fail
        refine (HM.out _ G).mono ?_
        rintro e w' ⟨rfl, rfl⟩
        go_wp2_with fail
        refine (HM'.out _ _ _ HR.out).mono ?_
        rintro e w' ⟨rfl, rfl⟩
        go_wp2
        go_ret
        exact ⟨rfl, HB.out⟩
end Go.Proofs.Yteappcepppicoaa
