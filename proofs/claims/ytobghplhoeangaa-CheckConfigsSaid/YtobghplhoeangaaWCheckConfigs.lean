/- CheckConfigs, the walk: which ways to run may be is as P19.3 says. -/
import Derived.Test.YtobghplhoeangaaCk9
import Derived.Test.YtobghplhoeangaaCk8
import Derived.Deep.RegionHeld3
namespace Go.Proofs.Ytobghplhoeangaa
open Go.RowKit Go.HK
set_option maxRecDepth 100000

theorem walk_CheckConfigs (g0_0 g1_0 g2_0 g3_0 g4_0 g5_0 g6_0 : Int) (w : World) (w0 : I64 g0_0 ∧ I64 g1_0 ∧ I64 g2_0 ∧ I64 g3_0 ∧ I64 g4_0 ∧ I64 g5_0 ∧ I64 g6_0) :
    Calls Try.prog 4 #[.agg #[.int .i64 g0_0, .int .i64 g1_0, .int .i64 g2_0, .int .i64 g3_0, .int .i64 g4_0, .int .i64 g5_0, .int .i64 g6_0]] w fun e w' => e = .returned (.bool true) ∧ Below w.heap.size w w' := by
  have h1 := fun w => c_Config g0_0 g1_0 g2_0 g3_0 g4_0 g5_0 g6_0 w w0
  have h2 := fun w => r_Config g0_0 g1_0 g2_0 g3_0 g4_0 g5_0 g6_0 w
  generalize cfgE (cfgB g0_0 g1_0 g2_0 g3_0 g4_0 g5_0 g6_0) = E at *
  have H1 := Lib.hid h1
  have H2 := Lib.hid h2
  clear h1 h2 w0
  go_enter Try.func4, Try.ntmps4
  go_wp2_with fail
  refine (awake_true _).mono ?_
  rintro e wa ⟨rfl, f0⟩
  have hb := f0.blk (Blk.new w 33 [.int .i64 g0_0, .int .i64 g1_0, .int .i64 g2_0, .int .i64 g3_0, .int .i64 g4_0, .int .i64 g5_0, .int .i64 g6_0]) (fun h => h)
  have G0 : Fr (fun _ => False) w wa := ((Fr.refl _ w).alloc _).trans f0
  have hS0 : ∀ w', Fr (fun _ => False) wa w' → (fun w' => Fr (fun _ => False) w w' ∧ w'.cell? ⟨w.heap.size, 0, none⟩ = some (.int .i64 g0_0) ∧ w'.cell? ⟨w.heap.size, 1, none⟩ = some (.int .i64 g1_0) ∧ w'.cell? ⟨w.heap.size, 2, none⟩ = some (.int .i64 g2_0) ∧ w'.cell? ⟨w.heap.size, 3, none⟩ = some (.int .i64 g3_0) ∧ w'.cell? ⟨w.heap.size, 4, none⟩ = some (.int .i64 g4_0) ∧ w'.cell? ⟨w.heap.size, 5, none⟩ = some (.int .i64 g5_0) ∧ w'.cell? ⟨w.heap.size, 6, none⟩ = some (.int .i64 g6_0)) w' := fun w' f => by
    have h := f.blk hb (fun h => h)
    exact ⟨G0.trans f, h.cell 0, h.cell 1, h.cell 2, h.cell 3, h.cell 4, h.cell 5, h.cell 6⟩
  have hd := hS0 wa.drew (Fr.refl _ _).drew
  have hK1 : ∀ wx, (fun w' => Fr (fun _ => False) w w' ∧ w'.cell? ⟨w.heap.size, 0, none⟩ = some (.int .i64 g0_0) ∧ w'.cell? ⟨w.heap.size, 1, none⟩ = some (.int .i64 g1_0) ∧ w'.cell? ⟨w.heap.size, 2, none⟩ = some (.int .i64 g2_0) ∧ w'.cell? ⟨w.heap.size, 3, none⟩ = some (.int .i64 g3_0) ∧ w'.cell? ⟨w.heap.size, 4, none⟩ = some (.int .i64 g4_0) ∧ w'.cell? ⟨w.heap.size, 5, none⟩ = some (.int .i64 g5_0) ∧ w'.cell? ⟨w.heap.size, 6, none⟩ = some (.int .i64 g6_0)) wx → Calls Try.prog 10 #[.agg #[.int .i64 g0_0, .int .i64 g1_0, .int .i64 g2_0, .int .i64 g3_0, .int .i64 g4_0, .int .i64 g5_0, .int .i64 g6_0]] wx fun e w' => e = .returned (.int .i64 E) ∧ (fun w' => Fr (fun _ => False) w w' ∧ w'.cell? ⟨w.heap.size, 0, none⟩ = some (.int .i64 g0_0) ∧ w'.cell? ⟨w.heap.size, 1, none⟩ = some (.int .i64 g1_0) ∧ w'.cell? ⟨w.heap.size, 2, none⟩ = some (.int .i64 g2_0) ∧ w'.cell? ⟨w.heap.size, 3, none⟩ = some (.int .i64 g3_0) ∧ w'.cell? ⟨w.heap.size, 4, none⟩ = some (.int .i64 g4_0) ∧ w'.cell? ⟨w.heap.size, 5, none⟩ = some (.int .i64 g5_0) ∧ w'.cell? ⟨w.heap.size, 6, none⟩ = some (.int .i64 g6_0)) w' := fun wx ⟨f, c0, c1, c2, c3, c4, c5, c6⟩ =>
    (H1.out wx).mono fun e w' ⟨he, f'⟩ => ⟨he, f.trans f', f'.cell c0 (fun h => h), f'.cell c1 (fun h => h), f'.cell c2 (fun h => h), f'.cell c3 (fun h => h), f'.cell c4 (fun h => h), f'.cell c5 (fun h => h), f'.cell c6 (fun h => h)⟩
  have hK2 : ∀ wx, (fun w' => Fr (fun _ => False) w w' ∧ w'.cell? ⟨w.heap.size, 0, none⟩ = some (.int .i64 g0_0) ∧ w'.cell? ⟨w.heap.size, 1, none⟩ = some (.int .i64 g1_0) ∧ w'.cell? ⟨w.heap.size, 2, none⟩ = some (.int .i64 g2_0) ∧ w'.cell? ⟨w.heap.size, 3, none⟩ = some (.int .i64 g3_0) ∧ w'.cell? ⟨w.heap.size, 4, none⟩ = some (.int .i64 g4_0) ∧ w'.cell? ⟨w.heap.size, 5, none⟩ = some (.int .i64 g5_0) ∧ w'.cell? ⟨w.heap.size, 6, none⟩ = some (.int .i64 g6_0)) wx → Calls Try.prog 11 #[.agg #[.int .i64 g0_0, .int .i64 g1_0, .int .i64 g2_0, .int .i64 g3_0, .int .i64 g4_0, .int .i64 g5_0, .int .i64 g6_0]] wx fun e w' => e = .returned (.int .i64 E) ∧ (fun w' => Fr (fun _ => False) w w' ∧ w'.cell? ⟨w.heap.size, 0, none⟩ = some (.int .i64 g0_0) ∧ w'.cell? ⟨w.heap.size, 1, none⟩ = some (.int .i64 g1_0) ∧ w'.cell? ⟨w.heap.size, 2, none⟩ = some (.int .i64 g2_0) ∧ w'.cell? ⟨w.heap.size, 3, none⟩ = some (.int .i64 g3_0) ∧ w'.cell? ⟨w.heap.size, 4, none⟩ = some (.int .i64 g4_0) ∧ w'.cell? ⟨w.heap.size, 5, none⟩ = some (.int .i64 g5_0) ∧ w'.cell? ⟨w.heap.size, 6, none⟩ = some (.int .i64 g6_0)) w' := fun wx ⟨f, c0, c1, c2, c3, c4, c5, c6⟩ =>
    (H2.out wx).mono fun e w' ⟨he, f'⟩ => ⟨he, f.trans f', f'.cell c0 (fun h => h), f'.cell c1 (fun h => h), f'.cell c2 (fun h => h), f'.cell c3 (fun h => h), f'.cell c4 (fun h => h), f'.cell c5 (fun h => h), f'.cell c6 (fun h => h)⟩
  have K1 := Lib.hid hK1
  have K2 := Lib.hid hK2
  have HD := Lib.hid hd
  clear hK1 hK2 hd hS0 hb G0 f0 H1 H2
  go_wp2_with (go_region_held3 (fun w' => Fr (fun _ => False) w w' ∧ w'.cell? ⟨w.heap.size, 0, none⟩ = some (.int .i64 g0_0) ∧ w'.cell? ⟨w.heap.size, 1, none⟩ = some (.int .i64 g1_0) ∧ w'.cell? ⟨w.heap.size, 2, none⟩ = some (.int .i64 g2_0) ∧ w'.cell? ⟨w.heap.size, 3, none⟩ = some (.int .i64 g3_0) ∧ w'.cell? ⟨w.heap.size, 4, none⟩ = some (.int .i64 g4_0) ∧ w'.cell? ⟨w.heap.size, 5, none⟩ = some (.int .i64 g5_0) ∧ w'.cell? ⟨w.heap.size, 6, none⟩ = some (.int .i64 g6_0)) (first | assumption | exact HD.out)
    (first
      | (go_at_call 10; refine (K1.out _ (by assumption)).mono ?_; rintro e w' ⟨rfl, hS⟩)
      | (go_at_call 11; refine (K2.out _ (by assumption)).mono ?_; rintro e w' ⟨rfl, hS⟩)))
  all_goals
    obtain ⟨G, _⟩ := hS
    go_ret
    exact ⟨by simp, G.below (Nat.le_refl _) (fun _ _ h => h)⟩
end Go.Proofs.Ytobghplhoeangaa
