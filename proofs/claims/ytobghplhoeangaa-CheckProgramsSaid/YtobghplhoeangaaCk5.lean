/- check.Program. -/
import Derived.Test.YtobghplhoeangaaCk4
namespace Go.Proofs.Ytobghplhoeangaa
open Go.RowKit Go.HK
set_option maxRecDepth 100000

theorem ins_list {cs : List Value} {x : Ins} (h : cs = x.cells) : cs = [.int .i64 x.op, .int .i64 x.a, .int .i64 x.b, .int .i64 x.c, .int .i64 x.n] := h

set_option maxHeartbeats 4000000 in
theorem c_Program (ac : Option Addr) (nc cc : Nat) (af : Option Addr) (nf cf : Nat) (p : Prg) (w : World) (h : IsPrg w ac nc af nf p) :
    Calls Try.prog 8 #[.agg (pCells ac nc cc af nf cf p.refs p.ints).toArray] w fun e w' => e = .returned (tri (progP p)) ∧ Fr (fun _ => False) w w' := by
  obtain ⟨R, hR⟩ : ∃ R, R = progP p := ⟨_, rfl⟩
  rw [← hR]
  unfold progP at hR
  have hl := h.fns.hlen
  have hnf := h.fns.le
  unfold maxLen at hnf
  have hcl := h.cls.hlen
  obtain ⟨i1, i2⟩ := h.r1
  obtain ⟨i3, i4⟩ := h.r2
  have F1 : Fr (fun _ => False) w (w.alloc (.cells #[.slice ac nc cc, .slice af nf cf, .int .i64 p.refs, .int .i64 p.ints] 25)) := (Fr.refl _ _).alloc _
  have B1 : Blk (w.alloc (.cells #[.slice ac nc cc, .slice af nf cf, .int .i64 p.refs, .int .i64 p.ints] 25)) w.heap.size 25 (pCells ac nc cc af nf cf p.refs p.ints) := Blk.new w _ _
  have hck := c_Check ac nc cc p.S _ (h.fr F1).cls
  have HCK := Lib.hid hck
  have HF := Lib.hid F1
  have HB := Lib.hid B1
  have H := Lib.hid h
  have HL := Lib.hid hl
  have HCL := Lib.hid hcl
  clear hck F1 B1 h hl hcl
  unfold pCells
  have HR := Lib.hid hR
  clear hR
  by_cases hc0 : chkE p.S = 0
  · have h16 := chk_16 hc0
    rw [hc0] at HCK
    by_cases hn : 1 ≤ p.F.length ∧ p.F.length ≤ 16
    · by_cases hg : (0 ≤ p.refs ∧ p.refs ≤ 16) ∧ (0 ≤ p.ints ∧ p.ints ≤ 16)
      · -- all is well so far
        have hR := HR.out
        have hok : headOK p := ⟨hc0, hn.1, hn.2, hg.1.1, hg.1.2, hg.2.1, hg.2.2⟩
        rw [if_pos hok] at hR
        have HR := Lib.hid hR
        clear hR
        rw [HL.out] at hn
        generalize hg1 : p.refs = g1 at *
        generalize hg2 : p.ints = g2 at *
        go_enter Try.func8, Try.ntmps8
        go_wp2_with fail
        refine HCK.out.mono ?_
        rintro e w2 ⟨rfl, f2⟩
        have hb := f2.blk HB.out (fun h => h)
        have G := HF.out.trans f2
        have hb1 : w2.cell? ⟨w.heap.size, 1, none⟩ = some (.slice af nf cf) := hb.cell 1
        have hb2 : (w2.alloc (.cells #[.int .i64 ((nf : Int) - 1)] 2)).cell? ⟨w.heap.size, 2, none⟩ = some (.int .i64 g1) := (hb.alloc _).cell 2
        have hb3 : (w2.alloc (.cells #[.int .i64 ((nf : Int) - 1)] 2)).cell? ⟨w.heap.size, 3, none⟩ = some (.int .i64 g2) := (hb.alloc _).cell 3
        have hw1 := below1 16 ((nf : Int) - 1) w2 w2.heap.size rfl (by unfold I64; omega) (by unfold I64; omega)
        rw [belowB_one, decide_eq_true (by omega)] at hw1
        have HW1 := Lib.hid hw1
        have HBB := Lib.hid hb
        have HG := Lib.hid G
        clear hw1 f2 hb G
        go_wp2_with fail
        refine HW1.out.mono ?_
        rintro e w' ⟨rfl, rfl⟩
        have hw2 := below2 17 g1 g2 (w2.alloc (.cells #[.int .i64 ((nf : Int) - 1)] 2)) (w2.heap.size + 1) (by simp) (by unfold I64; omega) ⟨i1, i2⟩ ⟨i3, i4⟩
        have e2 : belowB 17 [g1, g2] = decide ((0 ≤ g1 ∧ g1 < 17) ∧ (0 ≤ g2 ∧ g2 < 17)) := by simp [belowB]
        rw [e2, decide_eq_true (by omega)] at hw2
        have HW2 := Lib.hid hw2
        clear hw2 e2
        go_wp2_with fail
        refine HW2.out.mono ?_
        rintro e w' ⟨rfl, rfl⟩
        have hb := (HBB.out.alloc (.cells #[.int .i64 ((nf : Int) - 1)] 2)).alloc (.cells #[.int .i64 g1, .int .i64 g2] 2)
        have G := ((HG.out.alloc (.cells #[.int .i64 ((nf : Int) - 1)] 2)).alloc (.cells #[.int .i64 g1, .int .i64 g2] 2))
        generalize (w2.alloc (.cells #[.int .i64 ((nf : Int) - 1)] 2)).alloc (.cells #[.int .i64 g1, .int .i64 g2] 2) = w3 at *
        have hb1 : w3.cell? ⟨w.heap.size, 1, none⟩ = some (.slice af nf cf) := hb.cell 1
        have HBB := Lib.hid hb
        have HG := Lib.hid G
        clear hb G hb2 hb3 HW1 HW2 HCK HF HB
        generalize w.heap.size = B at *
        go_wp2_with fail
        go_loopw [34] (fun i wr => ∃ f : Nat, i = .int .i64 f ∧ f ≤ nf ∧ badF p f (p.F.drop f) = R ∧ Fr (fun _ => False) w wr ∧ Blk wr B 25 (pCells ac nc cc af nf cf g1 g2)) (fun i _ => nf - (intOf i).toNat)
        case atStart => exact ⟨0, rfl, by omega, by rw [List.drop_zero]; exact HR.out.symm, HG.out, HBB.out⟩
        case round =>
          obtain ⟨f, rfl, hf, hbf, Gr, hbr⟩ := hrel
          by_cases hlt : f < nf
          · have hFl : f < p.F.length := by have := HL.out; omega
            obtain ⟨F, hF⟩ : ∃ F, p.F[f]? = some F := ⟨_, List.getElem?_eq_getElem hFl⟩
            rw [badF_at p f F hF] at hbf
            obtain ⟨b, off, ai, n, cp, rfl, hcf, hFr⟩ := (H.out.fr Gr).fn hF
            have hln := hFr.hlen
            have hnm := hFr.le
            unfold maxLen at hnm
            have hw1 := below1 256 ((n : Int) - 1) wr wr.heap.size rfl (by unfold I64; omega) (by unfold I64; omega)
            rw [hln] at hbf
            have HBR := Lib.hid hbr
            by_cases hnb : 1 ≤ n ∧ n ≤ 256
            · rw [if_neg (by omega)] at hbf
              rw [belowB_one, decide_eq_true (by omega)] at hw1
              have HW1 := Lib.hid hw1
              have HBF := Lib.hid hbf
              have HFR := Lib.hid hFr
              have HLN := Lib.hid hln
              clear hw1 hbf hFr hln hbr
              go_wp2_with fail
              refine HW1.out.mono ?_
              rintro e w' ⟨rfl, rfl⟩
              have G4 := Gr.alloc (.cells #[.int .i64 ((n : Int) - 1)] 2)
              have hb4 := HBR.out.alloc (.cells #[.int .i64 ((n : Int) - 1)] 2)
              have hFr4 := HFR.out.fr ((Fr.refl (fun _ => False) wr).alloc (.cells #[.int .i64 ((n : Int) - 1)] 2))
              generalize wr.alloc (.cells #[.int .i64 ((n : Int) - 1)] 2) = w4 at *
              clear HW1 HFR hcf HBR Gr
              have HG4 := Lib.hid G4
              have HB4 := Lib.hid hb4
              have HF4 := Lib.hid hFr4
              clear G4 hb4 hFr4
              go_wp2_with fail
              go_loopw [48] (fun i wr => ∃ k : Nat, i = .int .i64 k ∧ k ≤ n ∧ badK p F k (F.drop k) = badK p F 0 F ∧ Fr (fun _ => False) w4 wr) (fun i _ => n - (intOf i).toNat)
              case atStart => exact ⟨0, rfl, by omega, by rw [List.drop_zero], Fr.refl _ _⟩
              case round =>
                obtain ⟨k, rfl, hk, hbk, Gs⟩ := hrel
                by_cases hkl : k < n
                · have hFk : k < F.length := by have := HLN.out; omega
                  obtain ⟨x, hx⟩ : ∃ x, F[k]? = some x := ⟨_, List.getElem?_eq_getElem hFk⟩
                  rw [badK_at p F k x hx] at hbk
                  obtain ⟨b2, off2, rfl, _, hxc, hxr⟩ := (HF4.out.fr Gs).ins hx
                  obtain ⟨op, xa, xb, xc, xn⟩ := x
                  have hx0 := hxc 0 _ rfl
                  have hx1 := hxc 1 _ rfl
                  have hx2 := hxc 2 _ rfl
                  have hx3 := hxc 3 _ rfl
                  have hx4 := hxc 4 _ rfl
                  simp only [Nat.add_zero] at hx0 hx1 hx2 hx3 hx4
                  have hbs := Gs.blk HB4.out (fun h => h)
                  have hbt := hbs.alloc (.cells #[.int .i64 op, .int .i64 xa, .int .i64 xb, .int .i64 xc, .int .i64 xn] 37)
                  have hnw := Blk.new wr 37 [.int .i64 op, .int .i64 xa, .int .i64 xb, .int .i64 xc, .int .i64 xn]
                  have Gt := Gs.alloc (.cells #[.int .i64 op, .int .i64 xa, .int .i64 xb, .int .i64 xc, .int .i64 xn] 37)
                  have hq0 : (wr.alloc (.cells #[.int .i64 op, .int .i64 xa, .int .i64 xb, .int .i64 xc, .int .i64 xn] 37)).cell? ⟨B, 0, none⟩ = some (.slice ac nc cc) := hbt.cell 0
                  have hq1 : (wr.alloc (.cells #[.int .i64 op, .int .i64 xa, .int .i64 xb, .int .i64 xc, .int .i64 xn] 37)).cell? ⟨B, 1, none⟩ = some (.slice (some ⟨b, off, none⟩) nf cf) := hbt.cell 1
                  have hq2 : (wr.alloc (.cells #[.int .i64 op, .int .i64 xa, .int .i64 xb, .int .i64 xc, .int .i64 xn] 37)).cell? ⟨B, 2, none⟩ = some (.int .i64 g1) := hbt.cell 2
                  have hq3 : (wr.alloc (.cells #[.int .i64 op, .int .i64 xa, .int .i64 xb, .int .i64 xc, .int .i64 xn] 37)).cell? ⟨B, 3, none⟩ = some (.int .i64 g2) := hbt.cell 3
                  have hin := c_Instr ac nc cc (some ⟨b, off, none⟩) nf cf g1 g2 n p.S ⟨op, xa, xb, xc, xn⟩ (wr.alloc (.cells #[.int .i64 op, .int .i64 xa, .int .i64 xb, .int .i64 xc, .int .i64 xn] 37)) ((H.out.cls.fr (HG4.out.trans Gt))) hxr (by have := HCL.out; omega) (by omega) ⟨⟨i1, i2⟩, ⟨i3, i4⟩, by unfold I64; omega⟩
                  have hla := fun w' => c_last ⟨op, xa, xb, xc, xn⟩ w'
                  have hok : okAt p F k ⟨op, xa, xb, xc, xn⟩ = (insB p.S n g1 g2 nf ⟨op, xa, xb, xc, xn⟩ && (decide (k + 1 ≠ n) || lastB ⟨op, xa, xb, xc, xn⟩)) := by
                    unfold okAt
                    rw [hg1, hg2, HL.out, HLN.out]
                  rw [hok] at hbk
                  have HN := Lib.hid hnw
                  have HI := Lib.hid hin
                  have HLA := Lib.hid hla
                  have HGT := Lib.hid Gt
                  have HBK := Lib.hid hbk
                  clear hnw hin hla hok hbk hxc hxr hx hbt hbs Gt
                  generalize insB p.S n g1 g2 nf ⟨op, xa, xb, xc, xn⟩ = ib at *
                  generalize lastB ⟨op, xa, xb, xc, xn⟩ = lb at *
                  cases ib with
                  | false =>
                    have hres : R = ((f : Int), (k : Int), (19 : Int)) := by
                      have h1 := HBK.out
                      have h2 := HBF.out
                      rw [Bool.false_and, if_neg (by decide)] at h1
                      rw [← h1] at h2
                      exact h2.symm
                    clear HBK HBF
                    subst hres
                    go_wp2_with fail
                    refine HI.out.mono ?_
                    rintro e w6 ⟨rfl, f6⟩
                    have HE := Lib.hid ((HG4.out.trans HGT.out).trans f6)
                    clear f6
                    go_wp2
                    go_ret3
                    exact ⟨rfl, HE.out⟩
                  | true =>
                    have hkn : k + 1 = n ∨ k + 1 ≠ n := by omega
                    rcases hkn with hkn | hkn
                    · cases lb with
                      | false =>
                        have hres : R = ((f : Int), (k : Int), (19 : Int)) := by
                          have h1 := HBK.out
                          have h2 := HBF.out
                          rw [decide_eq_false (by omega), Bool.true_and, Bool.false_or, if_neg (by decide)] at h1
                          rw [← h1] at h2
                          exact h2.symm
                        clear HBK HBF
                        subst hres
                        go_wp2_with fail
                        refine HI.out.mono ?_
                        rintro e w6 ⟨rfl, f6⟩
                        have hn6 := f6.blk HN.out (fun h => h)
                        have hn0 : w6.cell? ⟨wr.heap.size, 0, none⟩ = some (.int .i64 op) := hn6.cell 0
                        have hn1 : w6.cell? ⟨wr.heap.size, 1, none⟩ = some (.int .i64 xa) := hn6.cell 1
                        have hn2 : w6.cell? ⟨wr.heap.size, 2, none⟩ = some (.int .i64 xb) := hn6.cell 2
                        have hn3 : w6.cell? ⟨wr.heap.size, 3, none⟩ = some (.int .i64 xc) := hn6.cell 3
                        have hn4 : w6.cell? ⟨wr.heap.size, 4, none⟩ = some (.int .i64 xn) := hn6.cell 4
                        have HE := Lib.hid ((HG4.out.trans HGT.out).trans f6)
                        have HLL := Lib.hid (HLA.out w6)
                        clear f6 hn6
                        go_wp2_with fail
                        refine HLL.out.mono ?_
                        rintro e w7 ⟨rfl, f7⟩
                        have HE7 := Lib.hid (HE.out.trans f7)
                        clear f7
                        go_wp2
                        go_ret3
                        exact ⟨by have hkk : (n : Int) - 1 = k := by { omega }
                                  rw [hkk]; rfl, HE7.out⟩
                      | true =>
                        have hnx : badK p F (k + 1) (F.drop (k + 1)) = badK p F 0 F := by
                          have h1 := HBK.out
                          rw [Bool.true_and, Bool.or_true, if_pos rfl] at h1
                          exact h1
                        have HNX := Lib.hid hnx
                        clear HBK hnx
                        go_wp2_with fail
                        refine HI.out.mono ?_
                        rintro e w6 ⟨rfl, f6⟩
                        have hn6 := f6.blk HN.out (fun h => h)
                        have hn0 : w6.cell? ⟨wr.heap.size, 0, none⟩ = some (.int .i64 op) := hn6.cell 0
                        have hn1 : w6.cell? ⟨wr.heap.size, 1, none⟩ = some (.int .i64 xa) := hn6.cell 1
                        have hn2 : w6.cell? ⟨wr.heap.size, 2, none⟩ = some (.int .i64 xb) := hn6.cell 2
                        have hn3 : w6.cell? ⟨wr.heap.size, 3, none⟩ = some (.int .i64 xc) := hn6.cell 3
                        have hn4 : w6.cell? ⟨wr.heap.size, 4, none⟩ = some (.int .i64 xn) := hn6.cell 4
                        have HE := Lib.hid (HGT.out.trans f6)
                        have HLL := Lib.hid (HLA.out w6)
                        clear f6 hn6
                        go_wp2_with fail
                        refine HLL.out.mono ?_
                        rintro e w7 ⟨rfl, f7⟩
                        have HE7 := Lib.hid (HE.out.trans f7)
                        clear f7
                        go_wp2
                        go_roundw
                        case rel => exact ⟨k + 1, by go_num, by omega, HNX.out, HE7.out⟩
                        case measure => simp [intOf]; omega
                    · have hnx : badK p F (k + 1) (F.drop (k + 1)) = badK p F 0 F := by
                        have h1 := HBK.out
                        rw [decide_eq_true hkn, Bool.true_and, Bool.true_or, if_pos rfl] at h1
                        exact h1
                      have HNX := Lib.hid hnx
                      have hkb : ((k : Int) == (n : Int) - 1) = false := by simp; omega
                      clear HBK hnx
                      go_wp2_with fail
                      refine HI.out.mono ?_
                      rintro e w6 ⟨rfl, f6⟩
                      have HE := Lib.hid (HGT.out.trans f6)
                      clear f6
                      go_wp2
                      go_roundw
                      case rel => exact ⟨k + 1, by go_num, by omega, HNX.out, HE.out⟩
                      case measure => simp [intOf]; omega
                · have hkn : k = n := by omega
                  subst hkn
                  have hend : badF p (f + 1) (p.F.drop (f + 1)) = R := by
                    have h1 := HBF.out
                    have h2 := badK_end p F
                    rw [HLN.out] at h2
                    rw [← hbk, h2] at h1
                    exact h1
                  have HEN := Lib.hid hend
                  have HE := Lib.hid (HG4.out.trans Gs)
                  have HBE := Lib.hid (Gs.blk HB4.out (fun h => h))
                  clear hbk hend Gs
                  go_wp2
                  go_roundw
                  case rel => exact ⟨f + 1, by go_num, by omega, HEN.out, HE.out, HBE.out⟩
                  case measure => simp [intOf]; omega
            · rw [if_pos (by omega)] at hbf
              subst hbf
              rw [belowB_one, decide_eq_false (by omega)] at hw1
              have HW1 := Lib.hid hw1
              have HE := Lib.hid Gr
              clear hw1 hFr hln hbr
              go_wp2_with fail
              refine HW1.out.mono ?_
              rintro e w' ⟨rfl, rfl⟩
              go_wp2
              go_ret3
              exact ⟨rfl, HE.out.alloc _⟩
          · have hfn : f = nf := by omega
            subst hfn
            have h2 := badF_end p
            rw [HL.out, hbf] at h2
            subst h2
            go_wp2
            go_ret3
            exact ⟨rfl, Gr⟩
      · have hR : R = (-1, 0, 19) := by rw [HR.out, if_neg (fun h => hg ⟨⟨h.2.2.2.1, h.2.2.2.2.1⟩, h.2.2.2.2.2⟩)]
        subst hR
        rw [HL.out] at hn
        generalize hg1 : p.refs = g1 at *
        generalize hg2 : p.ints = g2 at *
        go_enter Try.func8, Try.ntmps8
        go_wp2_with fail
        refine HCK.out.mono ?_
        rintro e w2 ⟨rfl, f2⟩
        have hb := f2.blk HB.out (fun h => h)
        have G := HF.out.trans f2
        have hb1 : w2.cell? ⟨w.heap.size, 1, none⟩ = some (.slice af nf cf) := hb.cell 1
        have hb2 : (w2.alloc (.cells #[.int .i64 ((nf : Int) - 1)] 2)).cell? ⟨w.heap.size, 2, none⟩ = some (.int .i64 g1) := (hb.alloc _).cell 2
        have hb3 : (w2.alloc (.cells #[.int .i64 ((nf : Int) - 1)] 2)).cell? ⟨w.heap.size, 3, none⟩ = some (.int .i64 g2) := (hb.alloc _).cell 3
        have hw1 := below1 16 ((nf : Int) - 1) w2 w2.heap.size rfl (by unfold I64; omega) (by unfold I64; omega)
        rw [belowB_one, decide_eq_true (by omega)] at hw1
        have HW1 := Lib.hid hw1
        have HBB := Lib.hid hb
        have HG := Lib.hid G
        clear hw1 f2 hb G
        go_wp2_with fail
        refine HW1.out.mono ?_
        rintro e w' ⟨rfl, rfl⟩
        have hw2 := below2 17 g1 g2 (w2.alloc (.cells #[.int .i64 ((nf : Int) - 1)] 2)) (w2.heap.size + 1) (by simp) (by unfold I64; omega) ⟨i1, i2⟩ ⟨i3, i4⟩
        have e2 : belowB 17 [g1, g2] = decide ((0 ≤ g1 ∧ g1 < 17) ∧ (0 ≤ g2 ∧ g2 < 17)) := by simp [belowB]
        rw [e2, decide_eq_false (by omega)] at hw2
        have HW2 := Lib.hid hw2
        clear hw2 e2
        go_wp2_with fail
        refine HW2.out.mono ?_
        rintro e w' ⟨rfl, rfl⟩
        go_wp2
        go_ret3
        exact ⟨rfl, (HG.out.alloc _).alloc _⟩
    · have hR : R = (-1, 0, 19) := by rw [HR.out, if_neg (fun h => hn ⟨h.2.1, h.2.2.1⟩)]
      subst hR
      rw [HL.out] at hn
      generalize hg1 : p.refs = g1 at *
      generalize hg2 : p.ints = g2 at *
      go_enter Try.func8, Try.ntmps8
      go_wp2_with fail
      refine HCK.out.mono ?_
      rintro e w2 ⟨rfl, f2⟩
      have hb := f2.blk HB.out (fun h => h)
      have G := HF.out.trans f2
      have hb1 : w2.cell? ⟨w.heap.size, 1, none⟩ = some (.slice af nf cf) := hb.cell 1
      have hb2 : (w2.alloc (.cells #[.int .i64 ((nf : Int) - 1)] 2)).cell? ⟨w.heap.size, 2, none⟩ = some (.int .i64 g1) := (hb.alloc _).cell 2
      have hb3 : (w2.alloc (.cells #[.int .i64 ((nf : Int) - 1)] 2)).cell? ⟨w.heap.size, 3, none⟩ = some (.int .i64 g2) := (hb.alloc _).cell 3
      have hw1 := below1 16 ((nf : Int) - 1) w2 w2.heap.size rfl (by unfold I64; omega) (by unfold I64; omega)
      rw [belowB_one, decide_eq_false (by omega)] at hw1
      have HW1 := Lib.hid hw1
      have HBB := Lib.hid hb
      have HG := Lib.hid G
      clear hw1 f2 hb G
      go_wp2_with fail
      refine HW1.out.mono ?_
      rintro e w' ⟨rfl, rfl⟩
      go_wp2
      go_ret3
      exact ⟨rfl, HG.out.alloc _⟩
  · have hR : R = (-1, 0, 19) := by rw [HR.out, if_neg (fun h => hc0 h.1)]
    subst hR
    have hc1 : chkE p.S = 12 := by
      unfold chkE at *
      split at hc0
      · exact absurd rfl hc0
      · rename_i h; rw [if_neg h]
    rw [hc1] at HCK
    generalize p.refs = g1 at *
    generalize p.ints = g2 at *
    go_enter Try.func8, Try.ntmps8
    go_wp2_with fail
    refine HCK.out.mono ?_
    rintro e w2 ⟨rfl, f2⟩
    have HG := Lib.hid (HF.out.trans f2)
    clear f2
    go_wp2
    go_ret3
    exact ⟨rfl, HG.out⟩
end Go.Proofs.Ytobghplhoeangaa
