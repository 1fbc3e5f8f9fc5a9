/- CellsOne, the walk: of any that swap one cell from the same word to one of their own just the first one is told so. -/
import Derived.Test.YtnknamdhobieiaaAwake1
import Derived.Test.YtnknamdhobieiaaFrame
namespace Go.Proofs.Ytnknamdhobieiaa
open Go.RowKit Go.HK
set_option maxRecDepth 100000

theorem range_i64 {n : Int} (h : I64 n) : -9223372036854775808 ≤ n ∧ n ≤ 9223372036854775807 := h

theorem swB_one (x old : Int) : swB [x] 0 old = decide (x = old) := by simp [swB, inR]
theorem swW_one (x old new : Int) : swW [x] 0 old new = if x = old then [new] else [x] := by simp [swW, swB, inR]
theorem okE_one (x : Int) : okE [x] 0 = 0 := by simp [okE, inR]
theorem ldV_one (x : Int) : ldV [x] 0 = x := by simp [ldV, inR]
theorem stW_one (x v : Int) : stW [x] 0 v = [v] := by simp [stW, inR]

set_option maxHeartbeats 1600000 in
theorem walk_CellsOne (a0 : Int) (a1 : Option Addr) (n1 c1 : Nat) (L1 : List Int) (w : World) (w0 : (Lit.int .i64 a0).wf = true) (w1 : RdI .i64 w a1 n1 L1) :
    Calls Try.prog 4 #[.int .i64 a0, .slice a1 n1 c1] w fun e w' => e = .returned (.bool true) ∧ Below w.heap.size w w' := by
  have W0 := Lib.hid w0
  clear w0
  have hn := w1.le
  unfold maxLen at hn
  go_enter Try.func4, Try.ntmps4
  go_wp2_with fail
  refine (awake_true w).mono ?_
  rintro e w' ⟨rfl, f0⟩
  go_wp2_with fail
  refine (c_New 1 w').mono ?_
  rintro e wb ⟨rfl, h1, f1⟩
  replace h1 := h1.cast (W' := [0]) (n' := 0) (by decide +kernel) rfl
  have hs0 := f0.size
  have hs1 := f1.size
  have hp : w.heap.size ≤ w'.heap.size + 1 := by omega
  have hq : w.heap.size ≤ w'.heap.size := by omega
  have G1 : Fr (foot (w'.heap.size + 1) w'.heap.size) w wb := (f0.trans f1).mono (fun _ _ h => h.elim)
  generalize w'.heap.size + 1 = p at *
  generalize w'.heap.size = q at *
  clear f0 f1 hs0 hs1
  go_wp2_with fail
  refine (c_Store p q [0] 0 0 a0 _ h1).mono ?_
  rintro e w2 ⟨he, h2, f2⟩
  rw [okE_one] at he
  subst he
  rw [stW_one] at h2
  have G2 := G1.trans f2
  clear G1 f2 h1
  go_wp2_with fail
  go_loopw [7, 8, 9] (fun won word i wr => ∃ (k : Nat) (x n m : Int), i = .int .i64 k ∧ k ≤ 50 ∧ k ≤ n1 ∧ won = .int .i64 m ∧ word = .int .i64 x ∧ (m = 0 ∧ x = a0 ∨ m = 1 ∧ ¬ x = a0) ∧ IsCells wr p q [x] n ∧ Fr (foot p q) w wr)
    (fun _ _ i _ => 50 - (intOf i).toNat)
  case atStart => exact ⟨0, a0, _, 0, rfl, by omega, by omega, rfl, rfl, .inl ⟨rfl, rfl⟩, h2, G2⟩
  case round =>
    obtain ⟨k, x, n, m, rfl, hk, hk1, rfl, rfl, hm, hc, G⟩ := hrel
    by_cases hlt : k < n1 ∧ k < 50
    · obtain ⟨hlt, hlt2⟩ := hlt
      obtain ⟨b, off, rfl, hb, hcell⟩ := w1.at_ (by omega)
      have hcx := hcell k hlt
      have hnb : ¬ foot p q b := by rintro (rfl | rfl) <;> omega
      have hcx' : wr.cell? ⟨b, off + k, none⟩ = some (.int .i64 (L1.getD k 0)) := (World.cell?_of_block (w := w) (a := ⟨b, off + k, none⟩) (G.block b hb hnb)).trans hcx
      clear hcell
      generalize L1.getD k 0 = v at *
      have HCX := Lib.hid hcx
      clear hcx
      by_cases hv : v = a0
      · have hvb : (v == a0) = true := by simpa using hv
        clear hv
        go_wp2
        go_roundw
        case rel => exact ⟨k + 1, x, n, m, by go_num, by omega, by omega, rfl, rfl, hm, hc, G⟩
        case measure => simp [intOf]; omega
      · have hvb : (v == a0) = false := by simpa using hv
        have HV := Lib.hid hv
        clear hv
        have hcs := c_Swap p q [x] n 0 a0 v wr hc
        rw [swB_one, swW_one, okE_one] at hcs
        have HS := Lib.hid hcs
        clear hcs
        go_wp2_with fail
        refine HS.out.mono ?_
        rintro e w3 ⟨he, h3, f3⟩
        have G3 := G.trans f3
        rcases hm with ⟨rfl, rfl⟩ | ⟨rfl, hx⟩
        · simp only [decide_true] at he
          subst he
          rw [if_pos rfl] at h3
          clear HS hc G f3
          have hcx3 : w3.cell? ⟨b, off + k, none⟩ = some (.int .i64 v) := (World.cell?_of_block (w := w) (a := ⟨b, off + k, none⟩) (G3.block b hb hnb)).trans HCX.out
          have H3 := Lib.hid h3
          clear h3
          go_wp2
          go_roundw
          case rel => exact ⟨k + 1, v, _, 1, by go_num, by omega, by omega, rfl, rfl, .inr ⟨rfl, HV.out⟩, H3.out, G3⟩
          case measure => simp [intOf]; omega
        · have hxb : decide (x = a0) = false := by simpa using hx
          rw [hxb] at he
          subst he
          rw [if_neg hx] at h3
          clear HS hc G f3 hxb
          have HX := Lib.hid hx
          clear hx
          have H3 := Lib.hid h3
          clear h3
          go_wp2
          go_roundw
          case rel => exact ⟨k + 1, x, _, 1, by go_num, by omega, by omega, rfl, rfl, .inr ⟨rfl, HX.out⟩, H3.out, G3⟩
          case measure => simp [intOf]; omega
    · have hge : n1 ≤ k ∨ (k < n1 ∧ 50 ≤ k) := by omega
      clear hlt
      have hcl := c_Load p q [x] n 0 wr hc
      rw [ldV_one, okE_one] at hcl
      have HS := Lib.hid hcl
      clear hcl
      rcases hge with hge | ⟨hge, hge'⟩
      all_goals
        go_wp2_with fail
        refine HS.out.mono ?_
        rintro e w3 ⟨rfl, h3, f3⟩
        have G3 := G.trans f3
        go_wp2
        go_ret
        refine ⟨by simp, G3.below (Nat.le_refl _) ?_⟩
        rintro j hj (rfl | rfl) <;> omega
end Go.Proofs.Ytnknamdhobieiaa
