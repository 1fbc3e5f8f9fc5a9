/- Configs: which may be. -/
import Derived.Test.YtobghplhoeangaaCk1
namespace Go.Proofs.Ytobghplhoeangaa
open Go.RowKit Go.HK
set_option maxRecDepth 100000

def withinB (least most : Int) (L : List Int) : Bool := L.all (fun z => decide (least ≤ z ∧ z ≤ most))

theorem c_within (least most : Int) (a : Option Addr) (n cp : Nat) (L : List Int) (w : World) (h : RdI .i64 w a n L) :
    Calls Try.prog 20 #[.int .i64 least, .int .i64 most, .slice a n cp] w fun e w' => e = .returned (.bool (withinB least most L)) ∧ w = w' := by
  have hn := h.le
  have hl := h.hlen
  unfold maxLen at hn
  have HL := Lib.hid hl
  have H := Lib.hid h
  clear hl h
  go_enter Try.func20, Try.ntmps20
  go_wp2_with fail
  go_loop [11] (fun i => ∃ k : Nat, i = .int .i64 k ∧ k ≤ n ∧ withinB least most (L.take k) = true) (fun i => n - (intOf i).toNat)
  case atStart => exact ⟨0, rfl, by omega, rfl⟩
  case round =>
    obtain ⟨k, rfl, hk, hall⟩ := hrel
    by_cases hlt : k < n
    · obtain ⟨b, off, rfl, _, hcell⟩ := H.out.at_ (by omega)
      have hx := hcell k hlt
      have hkl : k < L.length := by have := HL.out; omega
      have htk : L.take (k + 1) = L.take k ++ [L.getD k 0] := by
        rw [List.take_add_one, List.getElem?_eq_getElem hkl]
        simp [List.getD_eq_getElem?_getD, List.getElem?_eq_getElem hkl]
      have hst : withinB least most (L.take (k + 1)) = decide (least ≤ L.getD k 0 ∧ L.getD k 0 ≤ most) := by
        unfold withinB at *
        rw [htk, List.all_append, hall]; simp
      have hno : ¬ (least ≤ L.getD k 0 ∧ L.getD k 0 ≤ most) → withinB least most L = false := fun h => by
        unfold withinB
        rw [List.all_eq_false]
        refine ⟨L.getD k 0, ?_, by simpa using h⟩
        rw [List.getD_eq_getElem?_getD, List.getElem?_eq_getElem hkl]
        exact List.getElem_mem hkl
      clear hcell htk
      generalize L.getD k 0 = z at *
      have HST := Lib.hid hst
      have HNO := Lib.hid hno
      have HALL := Lib.hid hall
      clear hst hno hall
      have hz : z < least ∨ (¬ z < least ∧ most < z) ∨ (¬ z < least ∧ ¬ most < z) := by omega
      rcases hz with hz | ⟨hz, hz'⟩ | ⟨hz, hz'⟩
      · go_wp2
        go_ret
        exact ⟨by rw [HNO.out (by omega)]; rfl, rfl⟩
      · go_wp2
        go_ret
        exact ⟨by rw [HNO.out (by omega)]; rfl, rfl⟩
      · go_wp2
        go_round
        case rel => exact ⟨k + 1, by go_num, by omega, by rw [HST.out]; exact decide_eq_true ⟨by omega, by omega⟩⟩
        case measure => simp [intOf]; omega
    · have hd : L.take k = L := List.take_of_length_le (by have := HL.out; omega)
      rw [hd] at hall
      have HA := Lib.hid hall
      clear hall hd
      go_wp2
      go_ret
      exact ⟨by rw [HA.out]; rfl, rfl⟩

theorem within1 (least most x : Int) (w : World) (m : Nat) (hm : m = w.heap.size) (h2 : I64 x) :
    Calls Try.prog 20 #[.int .i64 least, .int .i64 most, .slice (some ⟨m, 0, none⟩) 1 1] (w.alloc (.cells #[.int .i64 x] 3)) fun e w' => e = .returned (.bool (withinB least most [x])) ∧ w.alloc (.cells #[.int .i64 x] 3) = w' :=
  c_within least most _ 1 1 [x] _ (rdI_blk [x] (Blk.new_at w 3 [.int .i64 x] hm) (fun z hz => by simp at hz; subst hz; exact h2) (by simp) 1 rfl)
theorem within2 (least most x y : Int) (w : World) (m : Nat) (hm : m = w.heap.size) (h2 : I64 x) (h3 : I64 y) :
    Calls Try.prog 20 #[.int .i64 least, .int .i64 most, .slice (some ⟨m, 0, none⟩) 2 2] (w.alloc (.cells #[.int .i64 x, .int .i64 y] 3)) fun e w' => e = .returned (.bool (withinB least most [x, y])) ∧ w.alloc (.cells #[.int .i64 x, .int .i64 y] 3) = w' :=
  c_within least most _ 2 2 [x, y] _ (rdI_blk [x, y] (Blk.new_at w 3 [.int .i64 x, .int .i64 y] hm) (fun z hz => by simp at hz; rcases hz with rfl | rfl; exact h2; exact h3) (by simp) 2 rfl)

def cfgB (g0 g1 g2 g3 g4 g5 g6 : Int) : Bool := withinB 16 4096 [g0] && withinB 1 g0 [g1] && withinB 0 g0 [g2] && withinB 2 g0 [g3] && withinB 1 64 [g4, g5] && withinB 0 256 [g6]
def cfgE (b : Bool) : Int := if b then 0 else 1

set_option maxHeartbeats 2000000 in
theorem c_Config (g0 g1 g2 g3 g4 g5 g6 : Int) (w : World) (hr : I64 g0 ∧ I64 g1 ∧ I64 g2 ∧ I64 g3 ∧ I64 g4 ∧ I64 g5 ∧ I64 g6) :
    Calls Try.prog 10 #[.agg #[.int .i64 g0, .int .i64 g1, .int .i64 g2, .int .i64 g3, .int .i64 g4, .int .i64 g5, .int .i64 g6]] w fun e w' => e = .returned (.int .i64 (cfgE (cfgB g0 g1 g2 g3 g4 g5 g6))) ∧ Fr (fun _ => False) w w' := by
  obtain ⟨r0, r1, r2, r3, r4, r5, r6⟩ := hr
  unfold cfgB
  have F0 : Fr (fun _ => False) w (w.alloc (.cells #[.int .i64 g0, .int .i64 g1, .int .i64 g2, .int .i64 g3, .int .i64 g4, .int .i64 g5, .int .i64 g6] 33)) := (Fr.refl _ _).alloc _
  have HF0 := Lib.hid F0
  have h0 := within1 16 4096 g0 (w.alloc (.cells #[.int .i64 g0, .int .i64 g1, .int .i64 g2, .int .i64 g3, .int .i64 g4, .int .i64 g5, .int .i64 g6] 33)) (w.heap.size + 1) (by simp) r0
  have H0 := Lib.hid h0
  have HF1 := Lib.hid (HF0.out.alloc (.cells #[.int .i64 g0] 3))
  have h1 := within1 1 g0 g1 ((w.alloc (.cells #[.int .i64 g0, .int .i64 g1, .int .i64 g2, .int .i64 g3, .int .i64 g4, .int .i64 g5, .int .i64 g6] 33)).alloc (.cells #[.int .i64 g0] 3)) (w.heap.size + 1 + 1) (by simp) r1
  have H1 := Lib.hid h1
  have HF2 := Lib.hid (HF1.out.alloc (.cells #[.int .i64 g1] 3))
  have h2 := within1 0 g0 g2 (((w.alloc (.cells #[.int .i64 g0, .int .i64 g1, .int .i64 g2, .int .i64 g3, .int .i64 g4, .int .i64 g5, .int .i64 g6] 33)).alloc (.cells #[.int .i64 g0] 3)).alloc (.cells #[.int .i64 g1] 3)) (w.heap.size + 1 + 1 + 1) (by simp) r2
  have H2 := Lib.hid h2
  have HF3 := Lib.hid (HF2.out.alloc (.cells #[.int .i64 g2] 3))
  have h3 := within1 2 g0 g3 ((((w.alloc (.cells #[.int .i64 g0, .int .i64 g1, .int .i64 g2, .int .i64 g3, .int .i64 g4, .int .i64 g5, .int .i64 g6] 33)).alloc (.cells #[.int .i64 g0] 3)).alloc (.cells #[.int .i64 g1] 3)).alloc (.cells #[.int .i64 g2] 3)) (w.heap.size + 1 + 1 + 1 + 1) (by simp) r3
  have H3 := Lib.hid h3
  have HF4 := Lib.hid (HF3.out.alloc (.cells #[.int .i64 g3] 3))
  have h4 := within2 1 64 g4 g5 (((((w.alloc (.cells #[.int .i64 g0, .int .i64 g1, .int .i64 g2, .int .i64 g3, .int .i64 g4, .int .i64 g5, .int .i64 g6] 33)).alloc (.cells #[.int .i64 g0] 3)).alloc (.cells #[.int .i64 g1] 3)).alloc (.cells #[.int .i64 g2] 3)).alloc (.cells #[.int .i64 g3] 3)) (w.heap.size + 1 + 1 + 1 + 1 + 1) (by simp) r4 r5
  have H4 := Lib.hid h4
  have HF5 := Lib.hid (HF4.out.alloc (.cells #[.int .i64 g4, .int .i64 g5] 3))
  have h5 := within1 0 256 g6 ((((((w.alloc (.cells #[.int .i64 g0, .int .i64 g1, .int .i64 g2, .int .i64 g3, .int .i64 g4, .int .i64 g5, .int .i64 g6] 33)).alloc (.cells #[.int .i64 g0] 3)).alloc (.cells #[.int .i64 g1] 3)).alloc (.cells #[.int .i64 g2] 3)).alloc (.cells #[.int .i64 g3] 3)).alloc (.cells #[.int .i64 g4, .int .i64 g5] 3)) (w.heap.size + 1 + 1 + 1 + 1 + 1 + 1) (by simp) r6
  have H5 := Lib.hid h5
  have HF6 := Lib.hid (HF5.out.alloc (.cells #[.int .i64 g6] 3))
  clear h0 h1 h2 h3 h4 h5 F0 r0 r1 r2 r3 r4 r5 r6
  generalize withinB 16 4096 [g0] = b0 at *
  generalize withinB 1 g0 [g1] = b1 at *
  generalize withinB 0 g0 [g2] = b2 at *
  generalize withinB 2 g0 [g3] = b3 at *
  generalize withinB 1 64 [g4, g5] = b4 at *
  generalize withinB 0 256 [g6] = b5 at *
  go_enter Try.func10, Try.ntmps10
  go_wp2_with fail
  refine H0.out.mono ?_
  rintro e w' ⟨rfl, rfl⟩
  cases b0 with
  | false =>
    go_wp2
    go_ret
    exact ⟨by simp [cfgE], HF1.out⟩
  | true =>
    go_wp2_with fail
    refine H1.out.mono ?_
    rintro e w' ⟨rfl, rfl⟩
    cases b1 with
    | false =>
      go_wp2
      go_ret
      exact ⟨by simp [cfgE], HF2.out⟩
    | true =>
      go_wp2_with fail
      refine H2.out.mono ?_
      rintro e w' ⟨rfl, rfl⟩
      cases b2 with
      | false =>
        go_wp2
        go_ret
        exact ⟨by simp [cfgE], HF3.out⟩
      | true =>
        go_wp2_with fail
        refine H3.out.mono ?_
        rintro e w' ⟨rfl, rfl⟩
        cases b3 with
        | false =>
          go_wp2
          go_ret
          exact ⟨by simp [cfgE], HF4.out⟩
        | true =>
          go_wp2_with fail
          refine H4.out.mono ?_
          rintro e w' ⟨rfl, rfl⟩
          cases b4 with
          | false =>
            go_wp2
            go_ret
            exact ⟨by simp [cfgE], HF5.out⟩
          | true =>
            go_wp2_with fail
            refine H5.out.mono ?_
            rintro e w' ⟨rfl, rfl⟩
            cases b5 with
            | false =>
              go_wp2
              go_ret
              exact ⟨by simp [cfgE], HF6.out⟩
            | true =>
              go_wp2
              go_ret
              exact ⟨by simp [cfgE], HF6.out⟩

end Go.Proofs.Ytobghplhoeangaa
