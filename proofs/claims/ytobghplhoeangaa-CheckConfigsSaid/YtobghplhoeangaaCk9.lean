/- Programs and configs that came in, opened; programs laid down by a law; ballastlaw19.awake answers true. -/
import Derived.Test.YtobghplhoeangaaCk5
import Derived.Test.YtobghplhoeangaaCk7
namespace Go.Proofs.Ytobghplhoeangaa
open Go.RowKit Go.HK
set_option maxRecDepth 100000

section
variable {H : Type} {enc : TypeId × Value → H} {W : World} {base : Nat} {held : Bool}
theorem open_ins {n : Nat} {l : List Value} {y : DataW H × List MemPlace} (h : DataW.trod enc Try.prog W base (fun _ => true) held n 37 l = some y) : ∃ z : Ins, Qin l z := by
  obtain ⟨m, hl, hf⟩ := trod_fields Try.underlying37 h
  obtain ⟨c0, c1, c2, c3, c4, rfl⟩ := list5 (hl.trans (show Try.prog.cellsOf 37 = 5 by kernel_rfl))
  obtain ⟨y0, t0⟩ := hf 0 _ rfl (by kernel_rfl) (by simp)
  obtain ⟨y1, t1⟩ := hf 1 _ rfl (by kernel_rfl) (by simp)
  obtain ⟨y2, t2⟩ := hf 2 _ rfl (by kernel_rfl) (by simp)
  obtain ⟨y3, t3⟩ := hf 3 _ rfl (by kernel_rfl) (by simp)
  obtain ⟨y4, t4⟩ := hf 4 _ rfl (by kernel_rfl) (by simp)
  obtain ⟨k0, rfl, r0⟩ := trod_i64 Try.underlying3 t0
  obtain ⟨k1, rfl, r1⟩ := trod_i64 Try.underlying3 t1
  obtain ⟨k2, rfl, r2⟩ := trod_i64 Try.underlying3 t2
  obtain ⟨k3, rfl, r3⟩ := trod_i64 Try.underlying3 t3
  obtain ⟨k4, rfl, r4⟩ := trod_i64 Try.underlying2 t4
  exact ⟨⟨k0, k1, k2, k3, k4⟩, rfl, r0, r1, r2, r3, r4⟩
theorem open_fn {n : Nat} {l : List Value} {y : DataW H × List MemPlace} (h : DataW.trod enc Try.prog W base (fun _ => true) held n 27 l = some y) : ∃ z : List Ins, Qfn W l z := by
  obtain ⟨c, rfl⟩ : ∃ c, l = [c] := by
    rcases Deep.open_slice Try.underlying27 h with ⟨hcs, _⟩ | ⟨_, _, _, _, _, _, _, hcs, _⟩
    · exact ⟨_, hcs⟩
    · exact ⟨_, hcs⟩
  obtain ⟨a, n, cp, S, e, hs⟩ := trod_rows (s := 5) (Q := Qin) Try.underlying27 (by kernel_rfl) (by omega) (fun n l y hy => open_ins hy) h
  exact ⟨S, a, n, cp, by rw [e], hs⟩
theorem open_prg {n : Nat} (cs : Array Value) {y : DataW H × List MemPlace} (h : DataW.trod enc Try.prog W base (fun _ => true) held n 25 cs.toList = some y) :
    ∃ (ac : Option Addr) (nc cc : Nat) (af : Option Addr) (nf cf : Nat) (p : Prg), cs = (pCells ac nc cc af nf cf p.refs p.ints).toArray ∧ IsPrg W ac nc af nf p := by
  obtain ⟨m, hl, hf⟩ := trod_fields Try.underlying25 h
  obtain ⟨c0, c1, c2, c3, e⟩ := list4 (hl.trans (show Try.prog.cellsOf 25 = 4 by kernel_rfl))
  rw [e] at hf
  obtain ⟨y0, t0⟩ := hf 0 _ rfl (by kernel_rfl) (by simp)
  obtain ⟨y1, t1⟩ := hf 1 _ rfl (by kernel_rfl) (by simp)
  obtain ⟨y2, t2⟩ := hf 2 _ rfl (by kernel_rfl) (by simp)
  obtain ⟨y3, t3⟩ := hf 3 _ rfl (by kernel_rfl) (by simp)
  obtain ⟨ac, nc, cc, S, rfl, hS⟩ := trod_rows (s := 3) (Q := Qcl) Try.underlying22 (by kernel_rfl) (by omega) (fun n l y hy => open_cls hy) t0
  obtain ⟨af, nf, cf, F, rfl, hF⟩ := trod_rows (s := 1) (Q := Qfn W) Try.underlying23 (by kernel_rfl) (by omega) (fun n l y hy => open_fn hy) t1
  obtain ⟨k2, rfl, r2⟩ := trod_i64 Try.underlying3 t2
  obtain ⟨k3, rfl, r3⟩ := trod_i64 Try.underlying3 t3
  exact ⟨ac, nc, cc, af, nf, cf, ⟨S, F, k2, k3⟩, by apply Array.ext'; exact e, hS, hF, r2, r3⟩
theorem open_cfg {n : Nat} (cs : Array Value) {y : DataW H × List MemPlace} (h : DataW.trod enc Try.prog W base (fun _ => true) held n 33 cs.toList = some y) :
    ∃ (g0 g1 g2 g3 g4 g5 g6 : Int), cs = #[.int .i64 g0, .int .i64 g1, .int .i64 g2, .int .i64 g3, .int .i64 g4, .int .i64 g5, .int .i64 g6] ∧ I64 g0 ∧ I64 g1 ∧ I64 g2 ∧ I64 g3 ∧ I64 g4 ∧ I64 g5 ∧ I64 g6 := by
  obtain ⟨m, hl, hf⟩ := trod_fields Try.underlying33 h
  obtain ⟨c0, c1, c2, c3, c4, c5, c6, e⟩ := list7 (hl.trans (show Try.prog.cellsOf 33 = 7 by kernel_rfl))
  rw [e] at hf
  obtain ⟨y0, t0⟩ := hf 0 _ rfl (by kernel_rfl) (by simp)
  obtain ⟨y1, t1⟩ := hf 1 _ rfl (by kernel_rfl) (by simp)
  obtain ⟨y2, t2⟩ := hf 2 _ rfl (by kernel_rfl) (by simp)
  obtain ⟨y3, t3⟩ := hf 3 _ rfl (by kernel_rfl) (by simp)
  obtain ⟨y4, t4⟩ := hf 4 _ rfl (by kernel_rfl) (by simp)
  obtain ⟨y5, t5⟩ := hf 5 _ rfl (by kernel_rfl) (by simp)
  obtain ⟨y6, t6⟩ := hf 6 _ rfl (by kernel_rfl) (by simp)
  obtain ⟨k0, rfl, r0⟩ := trod_i64 Try.underlying3 t0
  obtain ⟨k1, rfl, r1⟩ := trod_i64 Try.underlying3 t1
  obtain ⟨k2, rfl, r2⟩ := trod_i64 Try.underlying3 t2
  obtain ⟨k3, rfl, r3⟩ := trod_i64 Try.underlying3 t3
  obtain ⟨k4, rfl, r4⟩ := trod_i64 Try.underlying3 t4
  obtain ⟨k5, rfl, r5⟩ := trod_i64 Try.underlying3 t5
  obtain ⟨k6, rfl, r6⟩ := trod_i64 Try.underlying3 t6
  exact ⟨k0, k1, k2, k3, k4, k5, k6, by apply Array.ext'; exact e, r0, r1, r2, r3, r4, r5, r6⟩
end

theorem flat_get (F : List Ins) : ∀ (i : Nat) (x : Ins) (j : Nat) (u : Value), F[i]? = some x → x.cells[j]? = some u → (F.flatMap Ins.cells)[i * 5 + j]? = some u := by
  induction F with
  | nil => intro i x j u h; simp at h
  | cons y F ih =>
    intro i x j u hx hu
    have hl : y.cells.length = 5 := rfl
    rw [List.flatMap_cons]
    cases i with
    | zero =>
      simp at hx
      subst hx
      have hj := lt_of_get hu
      rw [Nat.zero_mul, Nat.zero_add, List.getElem?_append_left hj]
      exact hu
    | succ i =>
      simp at hx
      rw [List.getElem?_append_right (by omega), hl, show (i + 1) * 5 + j - 5 = i * 5 + j by omega]
      exact ih i x j u hx hu
/-- instructions laid down in a row of their own -/
theorem rdIns_blk {w : World} {b : Nat} {T : TypeId} (F : List Ins) (h : Blk w b T (F.flatMap Ins.cells)) (hx : ∀ x ∈ F, x.rng) (hl : F.length ≤ 1000) (n : Nat) (hn : n = F.length) : RdS 5 Qin w (some ⟨b, 0, none⟩) n F := by
  subst hn
  refine ⟨rfl, by unfold maxLen; omega, fun _ => ⟨_, 0, rfl, h.lt, fun i x hi => ⟨x.cells, rfl, ⟨rfl, hx x (List.mem_of_getElem? hi)⟩, fun j u hu => ?_⟩⟩⟩
  rw [h.cell, Nat.zero_add]
  exact flat_get F i x j u hi hu
/-- one function laid down -/
theorem rdFn_blk {w : World} {b : Nat} {T : TypeId} {a : Option Addr} {n cp : Nat} {F : List Ins} (h : Blk w b T [.slice a n cp]) (hF : RdS 5 Qin w a n F) : RdS 1 (Qfn w) w (some ⟨b, 0, none⟩) 1 [F] := by
  refine ⟨rfl, by unfold maxLen; omega, fun _ => ⟨_, 0, rfl, h.lt, fun i x hi => ?_⟩⟩
  have hi0 : i = 0 := by have := lt_of_get hi; simp at this; exact this
  subst hi0
  simp at hi
  subst hi
  refine ⟨[.slice a n cp], rfl, ⟨a, n, cp, rfl, hF⟩, fun j u hu => ?_⟩
  have := h.cell j
  rw [hu] at this
  simpa using this
theorem isPrg_one {w : World} {b g : Nat} {T T' : TypeId} {n cp : Nat} (F : List Ins) (h : Blk w b T [.slice (some ⟨g, 0, none⟩) n cp]) (hg : Blk w g T' (F.flatMap Ins.cells)) (hx : ∀ x ∈ F, x.rng) (hl : F.length ≤ 1000) (hn : n = F.length) :
    IsPrg w none 0 (some ⟨b, 0, none⟩) 1 ⟨[], [F], 0, 0⟩ :=
  ⟨⟨rfl, by unfold maxLen; omega, fun h => by omega⟩, rdFn_blk h (rdIns_blk F hg hx hl n hn), (by unfold I64; omega : I64 0), (by unfold I64; omega : I64 0)⟩
theorem isPrg_none (w : World) : IsPrg w none 0 none 0 ⟨[], [], 0, 0⟩ :=
  ⟨⟨rfl, by unfold maxLen; omega, fun h => by omega⟩, ⟨rfl, by unfold maxLen; omega, fun h => by omega⟩, (by unfold I64; omega : I64 0), (by unfold I64; omega : I64 0)⟩

theorem c_ProgX {ac : Option Addr} {nc : Nat} (cc : Nat) {af : Option Addr} {nf : Nat} (cf : Nat) {p : Prg} {w : World} (h : IsPrg w ac nc af nf p) (r1 r2 r3 : Int) (hr : progP p = (r1, r2, r3)) :
    Calls Try.prog 8 #[.agg (pCells ac nc cc af nf cf p.refs p.ints).toArray] w fun e w' => e = .returned (.tuple #[.int .i64 r1, .int .i64 r2, .int .i64 r3]) ∧ Fr (fun _ => False) w w' := by
  have h1 := c_Program ac nc cc af nf cf p w h
  rw [hr] at h1
  exact h1

set_option maxHeartbeats 2000000 in
theorem awake_true (w : World) : Calls Try.prog 7 #[] w fun e w' => e = .returned (.bool true) ∧ Fr (fun _ => False) w w' := by
  go_enter Try.func7, Try.ntmps7
  go_wp2_with fail
  have h1 := isPrg_one (w := (w.alloc (.cells #[.int .i64 40, .int .i64 0, .int .i64 0, .int .i64 0, .int .i64 0] 37)).alloc (.cells #[.slice (some ⟨w.heap.size, 0, none⟩) 1 1] 27)) (b := w.heap.size + 1) (g := w.heap.size) (n := 1) (cp := 1) [⟨40, 0, 0, 0, 0⟩] (Blk.new_at _ _ _ (by simp)) ((Blk.new w _ _).alloc _) (by intro x hx; simp at hx; subst hx; unfold Ins.rng I64; simp only; omega) (by decide) rfl
  refine (c_ProgX 0 1 h1 (0) 0 0 (by kernel_rfl)).mono ?_
  rintro e w1 ⟨rfl, f1⟩
  have G1 := ((Fr.refl (fun _ => False) w).alloc (.cells #[.int .i64 40, .int .i64 0, .int .i64 0, .int .i64 0, .int .i64 0] 37)).alloc (.cells #[.slice (some ⟨w.heap.size, 0, none⟩) 1 1] 27) |>.trans f1
  clear h1 f1
  go_wp2_with fail
  have h2 := isPrg_one (w := (w1.alloc (.cells #[.int .i64 0, .int .i64 0, .int .i64 0, .int .i64 0, .int .i64 0, .int .i64 1, .int .i64 8, .int .i64 0, .int .i64 0, .int .i64 0, .int .i64 40, .int .i64 0, .int .i64 0, .int .i64 0, .int .i64 0] 37)).alloc (.cells #[.slice (some ⟨w1.heap.size, 0, none⟩) 3 3] 27)) (b := w1.heap.size + 1) (g := w1.heap.size) (n := 3) (cp := 3) [⟨0, 0, 0, 0, 0⟩, ⟨1, 8, 0, 0, 0⟩, ⟨40, 0, 0, 0, 0⟩] (Blk.new_at _ _ _ (by simp)) ((Blk.new w1 _ _).alloc _) (by intro x hx; simp at hx; rcases hx with rfl | rfl | rfl <;> (unfold Ins.rng I64; simp only; omega)) (by decide) rfl
  refine (c_ProgX 0 1 h2 (0) 1 19 (by kernel_rfl)).mono ?_
  rintro e w2 ⟨rfl, f2⟩
  have G2 := (G1.alloc _).alloc _ |>.trans f2
  clear h2 f2 G1
  go_wp2_with fail
  have h3 := isPrg_one (w := (w2.alloc (.cells #[.int .i64 0, .int .i64 0, .int .i64 0, .int .i64 0, .int .i64 0] 37)).alloc (.cells #[.slice (some ⟨w2.heap.size, 0, none⟩) 1 1] 27)) (b := w2.heap.size + 1) (g := w2.heap.size) (n := 1) (cp := 1) [⟨0, 0, 0, 0, 0⟩] (Blk.new_at _ _ _ (by simp)) ((Blk.new w2 _ _).alloc _) (by intro x hx; simp at hx; subst hx; unfold Ins.rng I64; simp only; omega) (by decide) rfl
  refine (c_ProgX 0 1 h3 (0) 0 19 (by kernel_rfl)).mono ?_
  rintro e w3 ⟨rfl, f3⟩
  have G3 := (G2.alloc _).alloc _ |>.trans f3
  clear h3 f3 G2
  go_wp2_with fail
  refine (c_ProgX 0 0 (isPrg_none w3) (-1) 0 19 (by kernel_rfl)).mono ?_
  rintro e w4 ⟨rfl, f4⟩
  have G4 := G3.trans f4
  clear f4 G3
  have hc1 := fun w => c_Config 16 1 0 2 1 1 0 w (by unfold I64; omega)
  have e1 : cfgE (cfgB 16 1 0 2 1 1 0) = 0 := by kernel_rfl
  rw [e1] at hc1
  have hc2 := fun w => c_Config 0 0 0 0 0 0 0 w (by unfold I64; omega)
  have e2 : cfgE (cfgB 0 0 0 0 0 0 0) = 1 := by kernel_rfl
  rw [e2] at hc2
  have H1 := Lib.hid hc1
  have H2 := Lib.hid hc2
  clear hc1 hc2 e1 e2
  go_wp2_with fail
  refine (H1.out _).mono ?_
  rintro e w5 ⟨rfl, f5⟩
  have G5 := G4.trans f5
  clear f5 G4
  go_wp2_with fail
  refine (H2.out _).mono ?_
  rintro e w6 ⟨rfl, f6⟩
  have HG := Lib.hid (G5.trans f6)
  clear f6 G5
  go_wp2
  go_ret
  exact ⟨rfl, HG.out⟩
end Go.Proofs.Ytobghplhoeangaa
