/- CellsSums, the walk: each addition is told what stood ahead of it. -/
import Derived.Test.YtnknamdhobieiaaWCellsOne
namespace Go.Proofs.Ytnknamdhobieiaa
open Go.RowKit Go.HK
set_option maxRecDepth 100000

theorem ld2 (s : Int) : ldV [0, s] 1 = s := by simp [ldV, inR]
theorem ld2z (s : Int) : ldV [0, s] 0 = 0 := by simp [ldV, inR]
theorem ok2 (s : Int) : okE [0, s] 1 = 0 := by simp [okE, inR]
theorem ok2z (s : Int) : okE [0, s] 0 = 0 := by simp [okE, inR]
theorem ad2 (s v : Int) : adW [0, s] 1 v = [0, wrap64 (s + v)] := by simp [adW, inR]

set_option maxHeartbeats 1600000 in
theorem walk_CellsSums (a0 : Option Addr) (n0 c0 : Nat) (L0 : List Int) (w : World) (w0 : RdI .i64 w a0 n0 L0) :
    Calls Try.prog 5 #[.slice a0 n0 c0] w fun e w' => e = .returned (.bool true) ∧ Below w.heap.size w w' := by
  have hn := w0.le
  unfold maxLen at hn
  go_enter Try.func5, Try.ntmps5
  go_wp2_with fail
  refine (awake_true w).mono ?_
  rintro e w' ⟨rfl, f0⟩
  go_wp2_with fail
  refine (c_New 2 w').mono ?_
  rintro e wb ⟨rfl, h1, f1⟩
  replace h1 := h1.cast (W' := [0, 0]) (n' := 0) (by decide +kernel) rfl
  have hs0 := f0.size
  have hs1 := f1.size
  have hp : w.heap.size ≤ w'.heap.size + 1 := by omega
  have hq : w.heap.size ≤ w'.heap.size := by omega
  have G1 : Fr (foot (w'.heap.size + 1) w'.heap.size) w wb := (f0.trans f1).mono (fun _ _ h => h.elim)
  generalize w'.heap.size + 1 = p at *
  generalize w'.heap.size = q at *
  clear f0 f1 hs0 hs1
  go_wp2_with fail
  go_loopw [5, 6] (fun sum i wr => ∃ (k : Nat) (x n : Int), i = .int .i64 k ∧ k ≤ 100 ∧ k ≤ n0 ∧ sum = .int .i64 x ∧ IsCells wr p q [0, x] n ∧ Fr (foot p q) w wr)
    (fun _ i _ => 100 - (intOf i).toNat)
  case atStart => exact ⟨0, 0, 0, rfl, by omega, by omega, rfl, h1, G1⟩
  case round =>
    obtain ⟨k, x, n, rfl, hk, hk1, rfl, hc, G⟩ := hrel
    by_cases hlt : k < n0 ∧ k < 100
    · obtain ⟨hlt, hlt2⟩ := hlt
      obtain ⟨b, off, rfl, hb, hcell⟩ := w0.at_ (by omega)
      have hcx := hcell k hlt
      have hnb : ¬ foot p q b := by rintro (rfl | rfl) <;> omega
      have hcx' : wr.cell? ⟨b, off + k, none⟩ = some (.int .i64 (L0.getD k 0)) := (World.cell?_of_block (w := w) (a := ⟨b, off + k, none⟩) (G.block b hb hnb)).trans hcx
      clear hcell
      generalize L0.getD k 0 = v at *
      have HCX := Lib.hid hcx
      clear hcx
      have hcs := c_Add p q [0, x] n 1 v wr hc
      rw [ld2, ok2, ad2] at hcs
      have HS := Lib.hid hcs
      clear hcs
      go_wp2_with fail
      refine HS.out.mono ?_
      rintro e w3 ⟨rfl, h3, f3⟩
      have G3 := G.trans f3
      have hcx3 : w3.cell? ⟨b, off + k, none⟩ = some (.int .i64 v) := (World.cell?_of_block (w := w) (a := ⟨b, off + k, none⟩) (G3.block b hb hnb)).trans HCX.out
      clear HS hc G f3 hcx'
      go_wp2
      go_roundw
      case rel => exact ⟨k + 1, _, _, by go_num, by omega, by omega, rfl, h3, G3⟩
      case measure => simp [intOf]; omega
    · have hge : n0 ≤ k ∨ (k < n0 ∧ 100 ≤ k) := by omega
      clear hlt
      have hcl := c_Load p q [0, x] n 1 wr hc
      rw [ld2, ok2] at hcl
      have HS := Lib.hid hcl
      clear hcl
      rcases hge with hge | ⟨hge, hge'⟩
      all_goals
        go_wp2_with fail
        refine HS.out.mono ?_
        rintro e w3 ⟨rfl, h3, f3⟩
        have G3 := G.trans f3
        have hcl2 := c_Load p q [0, x] _ 0 w3 h3
        rw [ld2z, ok2z] at hcl2
        have HS2 := Lib.hid hcl2
        clear hcl2
        go_wp2_with fail
        refine HS2.out.mono ?_
        rintro e w4 ⟨rfl, h4, f4⟩
        have G4 := G3.trans f4
        go_wp2
        go_ret
        refine ⟨by simp, G4.below (Nat.le_refl _) ?_⟩
        rintro j hj (rfl | rfl) <;> omega
end Go.Proofs.Ytnknamdhobieiaa
