/- ClassesSizes, the walk: classes are checked, and sizes, headers and references told, as the document says. -/
import Derived.Test.YteappcepppicoaaAwake3
import Derived.Test.YteappcepppicoaaOpen
import Derived.Deep.RegionHeld3
import Derived.Deep.QuietTactic
import Derived.BigQuiet
namespace Go.Proofs.Yteappcepppicoaa
open Go.RowKit Go.HK
set_option maxRecDepth 100000

theorem open_arr3 {H : Type} {enc : TypeId × Value → H} {W : World} {base : Nat} {held : Bool} {n : Nat} (cs : Array Value) {y : DataW H × List MemPlace}
    (h : DataW.trod enc Try.prog W base (fun _ => true) held n 39 cs.toList = some y) : ∃ x y z, cs = #[.int .i64 x, .int .i64 y, .int .i64 z] ∧ I64 x ∧ I64 y ∧ I64 z := by
  obtain ⟨m, hl, hf⟩ := trod_elems Try.underlying39 (by kernel_rfl) (by kernel_rfl) h
  obtain ⟨c0, c1, c2, e⟩ := list3 hl
  obtain rfl : cs = #[c0, c1, c2] := by rw [← cs.toArray_toList, e]
  obtain ⟨y0, t0⟩ := hf 0 (by simp)
  obtain ⟨y1, t1⟩ := hf 1 (by simp)
  obtain ⟨y2, t2⟩ := hf 2 (by simp)
  obtain ⟨x, hx, r0⟩ := trod_i64 Try.underlying3 t0
  obtain ⟨y, hy, r1⟩ := trod_i64 Try.underlying3 t1
  obtain ⟨z, hz, r2⟩ := trod_i64 Try.underlying3 t2
  simp only [List.getElem_cons_zero, List.getElem_cons_succ] at hx hy hz
  exact ⟨x, y, z, by rw [hx, hy, hz], r0, r1, r2⟩

theorem _root_.Go.HK.Fr.drewN {S : Nat → Prop} {w w' : World} (h : Fr S w w') (n : Nat) : Fr S w (w'.drewN n) := ⟨h.os, h.tape, h.output, h.size, h.block⟩

theorem size_up {S : Nat → Prop} {w w' : World} {o : Obj} (h : Fr S (w.alloc o) w') : w.heap.size + 1 ≤ w'.heap.size := by
  have := h.size
  simp only [World.alloc, Array.size_push] at this
  exact this

set_option maxHeartbeats 3200000 in
theorem walk_ClassesSizes (a0 : Option Addr) (n0 c0 : Nat) (S0 : List Cls) (x1 y1 z1 : Int) (a2 : Option Addr) (n2 c2 : Nat) (L2 : List Int) (w : World) (w0 : RdS 3 Qcl w a0 n0 S0) (w1 : I64 x1 ∧ I64 y1 ∧ I64 z1) (w2 : RdI .i64 w a2 n2 L2) :
    Calls Try.prog 7 #[.slice a0 n0 c0, .agg #[.int .i64 x1, .int .i64 y1, .int .i64 z1], .slice a2 n2 c2] w fun e w' => e = .returned (.bool true) ∧ Below w.heap.size w w' := by
  have hr2 := w1.2.1
  have hsz := fun w' (f : Fr (fun _ => False) w w') => c_Size a0 n0 c0 S0 x1 y1 w' (w0.fr f) hr2
  have hsz' := fun w' (f : Fr (fun _ => False) w w') => r_Size a0 n0 c0 S0 x1 y1 w' (w0.fr f) hr2
  have hsm := fun w' (f : Fr (fun _ => False) w w') => c_Sum a2 n2 c2 L2 w' (w2.below (f.below (Nat.le_refl _) (fun _ _ h => h)))
  have hsm' := fun w' (f : Fr (fun _ => False) w w') => r_Sum a2 n2 c2 L2 w' (w2.below (f.below (Nat.le_refl _) (fun _ _ h => h)))
  have hrf := fun w' (f : Fr (fun _ => False) w w') => c_Refs a0 n0 c0 S0 x1 y1 w' (w0.fr f) hr2
  have hrf' := fun w' (f : Fr (fun _ => False) w w') => r_Refs a0 n0 c0 S0 x1 y1 w' (w0.fr f) hr2
  have hck : ∀ w', (Fr (fun _ => False) w w' ∧ w'.cell? ⟨w.heap.size, 0, none⟩ = some (.int .i64 x1) ∧ w'.cell? ⟨w.heap.size, 1, none⟩ = some (.int .i64 y1) ∧ w'.cell? ⟨w.heap.size, 2, none⟩ = some (.int .i64 z1)) →
      Calls Try.prog 17 #[.slice a0 n0 c0] w' fun e w'' => e = .returned (.int .i64 (chkE S0)) ∧ (Fr (fun _ => False) w w'' ∧ w''.cell? ⟨w.heap.size, 0, none⟩ = some (.int .i64 x1) ∧ w''.cell? ⟨w.heap.size, 1, none⟩ = some (.int .i64 y1) ∧ w''.cell? ⟨w.heap.size, 2, none⟩ = some (.int .i64 z1)) :=
    fun w' ⟨f, h1, h2, h3⟩ => (c_Check a0 n0 c0 S0 w' (w0.fr f)).mono fun e w'' ⟨he, g⟩ => ⟨he, f.trans g, g.cell h1 (fun h => h), g.cell h2 (fun h => h), g.cell h3 (fun h => h)⟩
  have hck' : ∀ w', (Fr (fun _ => False) w w' ∧ w'.cell? ⟨w.heap.size, 0, none⟩ = some (.int .i64 x1) ∧ w'.cell? ⟨w.heap.size, 1, none⟩ = some (.int .i64 y1) ∧ w'.cell? ⟨w.heap.size, 2, none⟩ = some (.int .i64 z1)) →
      Calls Try.prog 21 #[.slice a0 n0 c0] w' fun e w'' => e = .returned (.int .i64 (chkE S0)) ∧ (Fr (fun _ => False) w w'' ∧ w''.cell? ⟨w.heap.size, 0, none⟩ = some (.int .i64 x1) ∧ w''.cell? ⟨w.heap.size, 1, none⟩ = some (.int .i64 y1) ∧ w''.cell? ⟨w.heap.size, 2, none⟩ = some (.int .i64 z1)) :=
    fun w' ⟨f, h1, h2, h3⟩ => (r_Check a0 n0 c0 S0 w' (w0.fr f)).mono fun e w'' ⟨he, g⟩ => ⟨he, f.trans g, g.cell h1 (fun h => h), g.cell h2 (fun h => h), g.cell h3 (fun h => h)⟩
  have hre : ∀ w', (Fr (fun _ => False) w w' ∧ w'.cell? ⟨w.heap.size, 0, none⟩ = some (.int .i64 x1) ∧ w'.cell? ⟨w.heap.size, 1, none⟩ = some (.int .i64 y1) ∧ w'.cell? ⟨w.heap.size, 2, none⟩ = some (.int .i64 z1)) →
      Calls Try.prog 16 #[.slice a0 n0 c0, .int .i64 x1, .int .i64 y1, .int .i64 z1] w' fun e w'' => e = .returned (.bool (refB S0 x1 y1 z1)) ∧ (Fr (fun _ => False) w w'' ∧ w''.cell? ⟨w.heap.size, 0, none⟩ = some (.int .i64 x1) ∧ w''.cell? ⟨w.heap.size, 1, none⟩ = some (.int .i64 y1) ∧ w''.cell? ⟨w.heap.size, 2, none⟩ = some (.int .i64 z1)) :=
    fun w' ⟨f, h1, h2, h3⟩ => (c_Ref a0 n0 c0 S0 x1 y1 z1 w' (w0.fr f) hr2).mono fun e w'' ⟨he, g⟩ => ⟨he, f.trans g, g.cell h1 (fun h => h), g.cell h2 (fun h => h), g.cell h3 (fun h => h)⟩
  have hre' : ∀ w', (Fr (fun _ => False) w w' ∧ w'.cell? ⟨w.heap.size, 0, none⟩ = some (.int .i64 x1) ∧ w'.cell? ⟨w.heap.size, 1, none⟩ = some (.int .i64 y1) ∧ w'.cell? ⟨w.heap.size, 2, none⟩ = some (.int .i64 z1)) →
      Calls Try.prog 22 #[.slice a0 n0 c0, .int .i64 x1, .int .i64 y1, .int .i64 z1] w' fun e w'' => e = .returned (.bool (refB S0 x1 y1 z1)) ∧ (Fr (fun _ => False) w w'' ∧ w''.cell? ⟨w.heap.size, 0, none⟩ = some (.int .i64 x1) ∧ w''.cell? ⟨w.heap.size, 1, none⟩ = some (.int .i64 y1) ∧ w''.cell? ⟨w.heap.size, 2, none⟩ = some (.int .i64 z1)) :=
    fun w' ⟨f, h1, h2, h3⟩ => (r_Ref a0 n0 c0 S0 x1 y1 z1 w' (w0.fr f) hr2).mono fun e w'' ⟨he, g⟩ => ⟨he, f.trans g, g.cell h1 (fun h => h), g.cell h2 (fun h => h), g.cell h3 (fun h => h)⟩
  have hll : (refsL S0 x1 y1).length ≤ 65536 := by
    have hb := size_bd S0 x1 y1
    unfold refsL
    cases objC S0 x1 y1 with
    | none => simp
    | some c => have := refsUp_le c ((sizeP S0 x1 y1).1 - 1).toNat; simp only; omega
  have HZ := Lib.hid hsz
  have HZ' := Lib.hid hsz'
  have HM := Lib.hid hsm
  have HM' := Lib.hid hsm'
  have HF := Lib.hid hrf
  have HF' := Lib.hid hrf'
  have HC := Lib.hid hck
  have HC' := Lib.hid hck'
  have HR := Lib.hid hre
  have HR' := Lib.hid hre'
  clear hsz hsz' hsm hsm' hrf hrf' hck hck' hre hre' w0 w1 w2 hr2
  generalize (sizeP S0 x1 y1).1 = sz at *
  generalize (sizeP S0 x1 y1).2 = se at *
  generalize (sumP 0 L2).1 = mz at *
  generalize (sumP 0 L2).2 = me at *
  generalize refsL S0 x1 y1 = L at *
  generalize chkE S0 = ck at *
  generalize refB S0 x1 y1 z1 = rb at *
  obtain ⟨m, hm⟩ : ∃ m, m = L.length := ⟨_, rfl⟩
  have HL := Lib.hid hm
  rw [← hm] at hll
  clear hm
  go_enter Try.func7, Try.ntmps7
  go_wp2_with fail
  refine (awake_true _).mono ?_
  rintro e wa ⟨rfl, f0⟩
  have hv0 := f0.blk (Blk.new w 39 [.int .i64 x1, .int .i64 y1, .int .i64 z1]) (fun h => h)
  have hz0 := size_up f0
  have G0 : Fr (fun _ => False) w wa := ((Fr.refl _ w).alloc _).trans f0
  have h1 : wa.cell? ⟨w.heap.size, 0, none⟩ = some (.int .i64 x1) := hv0.cell 0
  have h2 : wa.cell? ⟨w.heap.size, 1, none⟩ = some (.int .i64 y1) := hv0.cell 1
  have h3 : wa.cell? ⟨w.heap.size, 2, none⟩ = some (.int .i64 z1) := hv0.cell 2
  clear f0 hv0
  go_wp2_with fail
  refine (HZ.out _ G0).mono ?_
  rintro e wb ⟨rfl, f1⟩
  have G1 := G0.trans f1
  have h1 := f1.cell h1 (fun h => h)
  have h2 := f1.cell h2 (fun h => h)
  have h3 := f1.cell h3 (fun h => h)
  go_wp2_with fail
  refine (HZ'.out _ G1).mono ?_
  rintro e wc ⟨rfl, f2⟩
  have G2 := G1.trans f2
  have h1 := f2.cell h1 (fun h => h)
  have h2 := f2.cell h2 (fun h => h)
  have h3 := f2.cell h3 (fun h => h)
  clear f1 f2 G0 G1 hz0 HZ HZ'
  go_wp2_with fail
  refine (HM.out _ G2).mono ?_
  rintro e w' ⟨rfl, rfl⟩
  go_wp2_with fail
  refine (HM'.out _ G2).mono ?_
  rintro e w' ⟨rfl, rfl⟩
  clear HM HM'
  go_wp2_with (go_region_held3 (fun w' => Fr (fun _ => False) w w' ∧ w'.cell? ⟨w.heap.size, 0, none⟩ = some (.int .i64 x1) ∧ w'.cell? ⟨w.heap.size, 1, none⟩ = some (.int .i64 y1) ∧ w'.cell? ⟨w.heap.size, 2, none⟩ = some (.int .i64 z1))
    (first | assumption | exact ⟨G2.drew, h1, h2, h3⟩ | exact ⟨by assumption, by assumption, by assumption, by assumption⟩)
    (first
      | (go_at_call 17; refine (HC.out _ (by assumption)).mono ?_; rintro e w' ⟨rfl, hS⟩)
      | (go_at_call 21; refine (HC'.out _ (by assumption)).mono ?_; rintro e w' ⟨rfl, hS⟩)
      | (go_at_call 16; refine (HR.out _ (by assumption)).mono ?_; rintro e w' ⟨rfl, hS⟩)
      | (go_at_call 22; refine (HR'.out _ (by assumption)).mono ?_; rintro e w' ⟨rfl, hS⟩)))
  obtain ⟨G3, h1, h2, h3⟩ := hS
  refine (HF.out _ G3).mono ?_
  rintro e wd ⟨v, rfl, hv, f3⟩
  have G4 := G3.trans f3
  have h1 := f3.cell h1 (fun h => h)
  have h2 := f3.cell h2 (fun h => h)
  obtain ⟨sa, cap, rfl, _, hcv⟩ := owns_at hv
  rw [← HL.out] at hcv ⊢
  clear HF HC HC' HR HR' f3 G3 h3 hv
  go_wp2_with fail
  refine (HF'.out _ G4).mono ?_
  rintro e we ⟨v, rfl, hv', f4⟩
  have G5 := G4.trans f4
  obtain ⟨sb, cap', rfl, _, hcv'⟩ := owns_at hv'
  rw [← HL.out] at hcv' ⊢
  clear HF' G4 hv' h1 h2
  go_wp2_with fail
  go_loopw [18] (fun i wr => ∃ j : Nat, i = .int .i64 j ∧ j ≤ m ∧ Fr (fun _ => False) w wr ∧ Fr (fun _ => False) we wr) (fun i _ => m - (intOf i).toNat)
  case atStart => exact ⟨0, rfl, by omega, G5, Fr.refl _ _⟩
  case round =>
    obtain ⟨j, rfl, hj, G, Gc⟩ := hrel
    by_cases hlt : j < m
    · obtain ⟨g, rfl, _, _, hg⟩ := hcv (by omega)
      obtain ⟨g', rfl, _, _, hg'⟩ := hcv' (by omega)
      have ha := Gc.cell (f4.cell (hg j hlt) (fun h => h)) (fun h => h)
      have hb := Gc.cell (hg' j hlt) (fun h => h)
      have hlt' : (j : Int) < (m : Int) := by omega
      clear hg hg' f4 hcv hcv'
      generalize L.getD j 0 = x at *
      go_wp2_with (go_quiet (fail))
      go_roundw
      case rel => exact ⟨j + 1, by go_num, by omega, G.drewN _, Gc.drewN _⟩
      case measure => simp [intOf]; omega
    · go_wp2
      go_ret
      exact ⟨rfl, G.below (Nat.le_refl _) (fun _ _ h => h)⟩
end Go.Proofs.Yteappcepppicoaa
