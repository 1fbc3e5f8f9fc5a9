/- The document's answer: which configs may be. -/
import Derived.Test.YtobghplhoeangaaCk7
namespace Go.Proofs.Ytobghplhoeangaa
open Go.RowKit Go.HK
set_option maxRecDepth 100000

theorem cfg_words (g0 g1 g2 g3 g4 g5 g6 : Int) : cfgB g0 g1 g2 g3 g4 g5 g6 = decide ((16 ≤ g0 ∧ g0 ≤ 4096) ∧ (1 ≤ g1 ∧ g1 ≤ g0) ∧ (0 ≤ g2 ∧ g2 ≤ g0) ∧ (2 ≤ g3 ∧ g3 ≤ g0) ∧ (1 ≤ g4 ∧ g4 ≤ 64) ∧ (1 ≤ g5 ∧ g5 ≤ 64) ∧ (0 ≤ g6 ∧ g6 ≤ 256)) := by
  simp [cfgB, withinB, Bool.and_assoc]

set_option maxHeartbeats 2000000 in
theorem r_Config (g0 g1 g2 g3 g4 g5 g6 : Int) (w : World) :
    Calls Try.prog 11 #[.agg #[.int .i64 g0, .int .i64 g1, .int .i64 g2, .int .i64 g3, .int .i64 g4, .int .i64 g5, .int .i64 g6]] w fun e w' => e = .returned (.int .i64 (cfgE (cfgB g0 g1 g2 g3 g4 g5 g6))) ∧ Fr (fun _ => False) w w' := by
  rw [cfg_words]
  have F0 : Fr (fun _ => False) w (w.alloc (.cells #[.int .i64 g0, .int .i64 g1, .int .i64 g2, .int .i64 g3, .int .i64 g4, .int .i64 g5, .int .i64 g6] 33)) := (Fr.refl _ _).alloc _
  have HF := Lib.hid F0
  clear F0
  by_cases k0 : 16 ≤ g0
  case neg =>
    as_aux_lemma =>
    rw [decide_eq_false (fun h => k0 h.1.1)]
    have m0 : g0 < 16 := by omega
    go_enter Try.func11, Try.ntmps11
    go_wp2
    go_ret
    exact ⟨rfl, HF.out⟩
  by_cases k1 : g0 ≤ 4096
  case neg =>
    as_aux_lemma =>
    rw [decide_eq_false (fun h => k1 h.1.2)]
    have m1 : 4096 < g0 := by omega
    go_enter Try.func11, Try.ntmps11
    go_wp2
    go_ret
    exact ⟨rfl, HF.out⟩
  by_cases k2 : 1 ≤ g1
  case neg =>
    as_aux_lemma =>
    rw [decide_eq_false (fun h => k2 h.2.1.1)]
    have m2 : g1 < 1 := by omega
    go_enter Try.func11, Try.ntmps11
    go_wp2
    go_ret
    exact ⟨rfl, HF.out⟩
  by_cases k3 : g1 ≤ g0
  case neg =>
    as_aux_lemma =>
    rw [decide_eq_false (fun h => k3 h.2.1.2)]
    have m3 : g0 < g1 := by omega
    go_enter Try.func11, Try.ntmps11
    go_wp2
    go_ret
    exact ⟨rfl, HF.out⟩
  by_cases k4 : 0 ≤ g2
  case neg =>
    as_aux_lemma =>
    rw [decide_eq_false (fun h => k4 h.2.2.1.1)]
    have m4 : g2 < 0 := by omega
    go_enter Try.func11, Try.ntmps11
    go_wp2
    go_ret
    exact ⟨rfl, HF.out⟩
  by_cases k5 : g2 ≤ g0
  case neg =>
    as_aux_lemma =>
    rw [decide_eq_false (fun h => k5 h.2.2.1.2)]
    have m5 : g0 < g2 := by omega
    go_enter Try.func11, Try.ntmps11
    go_wp2
    go_ret
    exact ⟨rfl, HF.out⟩
  by_cases k6 : 2 ≤ g3
  case neg =>
    as_aux_lemma =>
    rw [decide_eq_false (fun h => k6 h.2.2.2.1.1)]
    have m6 : g3 < 2 := by omega
    go_enter Try.func11, Try.ntmps11
    go_wp2
    go_ret
    exact ⟨rfl, HF.out⟩
  by_cases k7 : g3 ≤ g0
  case neg =>
    as_aux_lemma =>
    rw [decide_eq_false (fun h => k7 h.2.2.2.1.2)]
    have m7 : g0 < g3 := by omega
    go_enter Try.func11, Try.ntmps11
    go_wp2
    go_ret
    exact ⟨rfl, HF.out⟩
  by_cases k8 : 1 ≤ g4
  case neg =>
    as_aux_lemma =>
    rw [decide_eq_false (fun h => k8 h.2.2.2.2.1.1)]
    have m8 : g4 < 1 := by omega
    go_enter Try.func11, Try.ntmps11
    go_wp2
    go_ret
    exact ⟨rfl, HF.out⟩
  by_cases k9 : g4 ≤ 64
  case neg =>
    as_aux_lemma =>
    rw [decide_eq_false (fun h => k9 h.2.2.2.2.1.2)]
    have m9 : 64 < g4 := by omega
    go_enter Try.func11, Try.ntmps11
    go_wp2
    go_ret
    exact ⟨rfl, HF.out⟩
  by_cases k10 : 1 ≤ g5
  case neg =>
    as_aux_lemma =>
    rw [decide_eq_false (fun h => k10 h.2.2.2.2.2.1.1)]
    have m10 : g5 < 1 := by omega
    go_enter Try.func11, Try.ntmps11
    go_wp2
    go_ret
    exact ⟨rfl, HF.out⟩
  by_cases k11 : g5 ≤ 64
  case neg =>
    as_aux_lemma =>
    rw [decide_eq_false (fun h => k11 h.2.2.2.2.2.1.2)]
    have m11 : 64 < g5 := by omega
    go_enter Try.func11, Try.ntmps11
    go_wp2
    go_ret
    exact ⟨rfl, HF.out⟩
  by_cases k12 : 0 ≤ g6
  case neg =>
    as_aux_lemma =>
    rw [decide_eq_false (fun h => k12 h.2.2.2.2.2.2.1)]
    have m12 : g6 < 0 := by omega
    go_enter Try.func11, Try.ntmps11
    go_wp2
    go_ret
    exact ⟨rfl, HF.out⟩
  by_cases k13 : g6 ≤ 256
  case neg =>
    as_aux_lemma =>
    rw [decide_eq_false (fun h => k13 h.2.2.2.2.2.2.2)]
    have m13 : 256 < g6 := by omega
    go_enter Try.func11, Try.ntmps11
    go_wp2
    go_ret
    exact ⟨rfl, HF.out⟩
  rw [decide_eq_true (⟨⟨k0, k1⟩, ⟨k2, k3⟩, ⟨k4, k5⟩, ⟨k6, k7⟩, ⟨k8, k9⟩, ⟨k10, k11⟩, k12, k13⟩ : (16 ≤ g0 ∧ g0 ≤ 4096) ∧ (1 ≤ g1 ∧ g1 ≤ g0) ∧ (0 ≤ g2 ∧ g2 ≤ g0) ∧ (2 ≤ g3 ∧ g3 ≤ g0) ∧ (1 ≤ g4 ∧ g4 ≤ 64) ∧ (1 ≤ g5 ∧ g5 ≤ 64) ∧ (0 ≤ g6 ∧ g6 ≤ 256))]
  go_enter Try.func11, Try.ntmps11
  go_wp2
  go_ret
  exact ⟨rfl, HF.out⟩
end Go.Proofs.Ytobghplhoeangaa
