/- CheckPrograms, the walk: which programs may be, and where the first fault is, is as P19.1 says. -/
import Derived.Test.YtobghplhoeangaaCk9
import Derived.Test.YtobghplhoeangaaCk6
namespace Go.Proofs.Ytobghplhoeangaa
open Go.RowKit Go.HK
set_option maxRecDepth 100000

theorem i64_wrap (n : Int) : I64 (wrap64 n) := by unfold I64 wrap64; omega

set_option maxHeartbeats 1000000 in
theorem walk_CheckPrograms (ac0 : Option Addr) (nc0 cc0 : Nat) (af0 : Option Addr) (nf0 cf0 : Nat) (p_0 : Prg) (w : World) (w0 : IsPrg w ac0 nc0 af0 nf0 p_0) :
    Calls Try.prog 3 #[.agg (pCells ac0 nc0 cc0 af0 nf0 cf0 p_0.refs p_0.ints).toArray] w fun e w' => e = .returned (.bool true) ∧ Below w.heap.size w w' := by
  have h1 := fun w' (f : Fr (fun _ => False) w w') => c_Program ac0 nc0 cc0 af0 nf0 cf0 p_0 w' (w0.fr f)
  have h2 := fun w' (f : Fr (fun _ => False) w w') => r_Program ac0 nc0 cc0 af0 nf0 cf0 p_0 w' (w0.fr f)
  obtain ⟨t, ht⟩ : ∃ t, t = progP p_0 := ⟨_, rfl⟩
  rw [← ht] at h1 h2
  obtain ⟨r1, r2, r3⟩ := t
  unfold tri at h1 h2
  simp only at h1 h2
  have hl := w0.fns.hlen
  have hnf := w0.fns.le
  unfold maxLen at hnf
  have HL := Lib.hid hl
  have W0 := Lib.hid w0
  clear ht w0 hl
  unfold pCells at *
  generalize p_0.refs = g1 at *
  generalize p_0.ints = g2 at *
  have H1 := Lib.hid h1
  have H2 := Lib.hid h2
  clear h1 h2
  go_enter Try.func3, Try.ntmps3
  go_wp2_with fail
  refine (awake_true _).mono ?_
  rintro e wa ⟨rfl, f0⟩
  have hb := f0.blk (Blk.new w 25 [.slice ac0 nc0 cc0, .slice af0 nf0 cf0, .int .i64 g1, .int .i64 g2]) (fun h => h)
  have G0 : Fr (fun _ => False) w wa := ((Fr.refl _ w).alloc _).trans f0
  have hb0 : wa.cell? ⟨w.heap.size, 0, none⟩ = some (.slice ac0 nc0 cc0) := hb.cell 0
  have hb1 : wa.cell? ⟨w.heap.size, 1, none⟩ = some (.slice af0 nf0 cf0) := hb.cell 1
  have hb2 : wa.cell? ⟨w.heap.size, 2, none⟩ = some (.int .i64 g1) := hb.cell 2
  have hb3 : wa.cell? ⟨w.heap.size, 3, none⟩ = some (.int .i64 g2) := hb.cell 3
  have HB := Lib.hid hb
  have HG := Lib.hid G0
  clear hb G0 f0
  generalize hB : w.heap.size = B at *
  go_wp2_with fail
  go_loop [4, 5] (fun nn i => ∃ (m : Int) (k : Nat), nn = .int .i64 m ∧ I64 m ∧ i = .int .i64 k ∧ k ≤ nf0) (fun _ i => nf0 - (intOf i).toNat)
  case atStart => exact ⟨0, 0, rfl, by unfold I64; omega, rfl, by omega⟩
  case round =>
    obtain ⟨m, k, rfl, hm, rfl, hk⟩ := hrel
    by_cases hlt : k < nf0
    · obtain ⟨F, hF⟩ : ∃ F, p_0.F[k]? = some F := ⟨_, List.getElem?_eq_getElem (by have := HL.out; omega)⟩
      obtain ⟨b, off, ai, n, cp, rfl, hcf, hFr⟩ := (W0.out.fr HG.out).fn hF
      clear hFr hF
      go_wp2
      go_round
      case rel => exact ⟨_, k + 1, rfl, i64_wrap _, by go_num, by omega⟩
      case measure => simp [intOf]; omega
    · obtain ⟨hm1, hm2⟩ := hm
      by_cases hbig : 3000 < m
      · go_wp2
        go_ret
        exact ⟨rfl, HG.out.below (by rw [hB]; exact Nat.le_refl _) (fun _ _ h => h)⟩
      · go_wp2_with fail
        refine (H1.out _ HG.out).mono ?_
        rintro e wb ⟨rfl, f1⟩
        have hb' := f1.blk HB.out (fun h => h)
        have hc0 : wb.cell? ⟨B, 0, none⟩ = some (.slice ac0 nc0 cc0) := hb'.cell 0
        have hc1 : wb.cell? ⟨B, 1, none⟩ = some (.slice af0 nf0 cf0) := hb'.cell 1
        have hc2 : wb.cell? ⟨B, 2, none⟩ = some (.int .i64 g1) := hb'.cell 2
        have hc3 : wb.cell? ⟨B, 3, none⟩ = some (.int .i64 g2) := hb'.cell 3
        have HG1 := Lib.hid (HG.out.trans f1)
        clear hb' f1
        go_wp2_with fail
        refine (H2.out _ HG1.out).mono ?_
        rintro e wd ⟨rfl, f2⟩
        have HG2 := Lib.hid (HG1.out.trans f2)
        clear f2
        go_wp2
        go_ret
        exact ⟨by simp, HG2.out.below (by rw [hB]; exact Nat.le_refl _) (fun _ _ h => h)⟩
end Go.Proofs.Ytobghplhoeangaa
