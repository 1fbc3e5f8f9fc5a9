/-
  THE ROW OF CheckConfigs: 'Rows.CheckConfigsSaid': for every input the law answers true and leaves its arguments as they were. No condition.
-/
import Derived.Test.YtobghplhoeangaaWCheckConfigs
import Derived.Test.YtobghplhoeangaaFrame
namespace Go.Proofs.Ytobghplhoeangaa.checkConfigs
open Go.ChangeShapes Go.WideShapes Go.ChangeAt Go.RowKit Go.HK
open Go.ChangeMaps (open_string shut_string)
set_option linter.unusedVariables false
set_option maxRecDepth 100000 in
theorem lifted (os : Os) (started : os.Started) (H : Type) (enc : TypeId × Value → H) :
    ReturnsInHanded {} Try.checked os 4 .any (Rows.checkConfigsSpec.pre6 enc Try.prog Try.f4 Rows.checkConfigsRow.domain false) (Rows.checkConfigsSpec.post enc Try.prog Try.f4 false true false false) := by
  refine returnsInHanded_of_change (C := Try.checked) own started (by kernel_rfl) Try.func4
    (ChangeSpec.witness6 (enc := enc) (C := Try.checked) false ⟨#[], #[.agg #[.int .i64 0, .int .i64 0, .int .i64 0, .int .i64 0, .int .i64 0, .int .i64 0, .int .i64 0]], []⟩ 8 (by kernel_rfl) (by kernel_rfl) (by kernel_rfl) (by kernel_rfl)) ?_
  intro W base args ds gs before hval0 hW hcnd _
  have hval : ∀ (j : Nat) t v, Try.f4.params[j]? = some t → args[j]? = some v → Value.okWide Try.prog W .any base t v := hval0
  have hW' := hW
  obtain ⟨p, q, hA0, hV, rfl, hfz, hnd⟩ := hW
  have hA : DataW.TrodAll enc Try.prog W 0 (fun _ => true) true Try.f4.params.toList args.toList ds p := hA0
  rw [Try.params4] at hA hval
  obtain ⟨v0, vs0, d0, ds0, p0, q0, hargs, rfl, rfl, h0, r0⟩ := trodAll_cons hA
  obtain ⟨rfl, rfl, rfl⟩ := trodAll_nil r0
  obtain rfl : args = #[v0] := by cases args; simp_all
  obtain ⟨rfl, rfl⟩ := trodVars_none hV
  obtain ⟨cs0, rfl, hsz0, _⟩ : ∃ cs, v0 = .agg cs ∧ cs.size = Try.prog.cellsOf 33 ∧ Row.okWide Try.prog W .any base 33 cs := by
    have := hval 0 33 v0 rfl rfl
    simpa [Value.okWide, Try.underlying33] using this
  have k0 := h0
  have lt0 : ∀ x ∈ p0, x.block < W.heap.size := by obtain ⟨m, hm⟩ := k0; exact DataW.trod_lt m _ _ _ hm
  obtain ⟨g0_0, g1_0, g2_0, g3_0, g4_0, g5_0, g6_0, e0, w0⟩ : ∃ (g0 g1 g2 g3 g4 g5 g6 : Int), cs0 = #[.int .i64 g0, .int .i64 g1, .int .i64 g2, .int .i64 g3, .int .i64 g4, .int .i64 g5, .int .i64 g6] ∧ I64 g0 ∧ I64 g1 ∧ I64 g2 ∧ I64 g3 ∧ I64 g4 ∧ I64 g5 ∧ I64 g6 := by
    obtain ⟨fuel, hf⟩ := h0
    exact open_cfg cs0 (by simpa [Value.cells] using hf)
  subst e0
  clear hA0 hval0
  refine (walk_CheckConfigs g0_0 g1_0 g2_0 g3_0 g4_0 g5_0 g6_0 W w0).mono fun e W' ⟨he, bel⟩ => ?_
  subst he
  exact ⟨_, rfl, _, _, _, [], _, [], hW', trodAll_mk1 (shut_bool Try.underlying4 _), (trodAll_cons_mk (Below.trod laidOut (by kernel_rfl) (of_decide_eq_true (by kernel_rfl)) k0 bel lt0) trodAll_mk0), rfl, bel.frame _, fun h => by cases h⟩

theorem proved : Rows.CheckConfigsSaid :=
  OpenClaim.holds_of_wide 4 Try.f4 rfl rfl rfl rfl rfl rfl rfl ⟨rfl, rfl, rfl, rfl, rfl⟩ rfl rfl rfl rfl rfl (by kernel_rfl) Try.func4 (by kernel_rfl)
    (of_decide_eq_true (by kernel_rfl)) (by unfold Func.isWrapper; first | (rw [if_pos (by decide +kernel)]; kernel_rfl) | (rw [if_neg (by decide +kernel)]; exact ⟨rfl, rfl⟩))
    (fun os started H enc _ => lifted os started H enc)
#print axioms proved
end Go.Proofs.Ytobghplhoeangaa.checkConfigs
