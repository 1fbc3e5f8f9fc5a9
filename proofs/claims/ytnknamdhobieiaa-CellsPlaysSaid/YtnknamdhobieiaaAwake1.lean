/- ballastlaw01.awake answers true. -/
import Derived.Test.YtnknamdhobieiaaCells5
namespace Go.Proofs.Ytnknamdhobieiaa
open Go.RowKit Go.HK
set_option maxRecDepth 100000

theorem IsCells.cast {w : World} {p q : Nat} {W W' : List Int} {n n' : Int} (h : IsCells w p q W n) (e1 : W = W') (e2 : n = n') : IsCells w p q W' n' := by
  subst e1; subst e2; exact h

set_option maxHeartbeats 800000 in
theorem awake_true (w : World) : Calls Try.prog 9 #[] w fun e w' => e = .returned (.bool true) ∧ Fr (fun _ => False) w w' := by
  go_enter Try.func9, Try.ntmps9
  go_wp2_with fail
  refine (c_New 3 w).mono ?_
  rintro e w1 ⟨rfl, h1, f1⟩
  replace h1 : IsCells w1 (w.heap.size + 1) w.heap.size [0, 0, 0] 0 := h1
  have hp : w.heap.size ≤ w.heap.size + 1 := by omega
  have hq : w.heap.size ≤ w.heap.size := by omega
  generalize hpe : w.heap.size + 1 = p at h1 hp
  generalize hqe : w.heap.size = q at h1 hq
  have G1 : Fr (foot p q) w w1 := f1.mono (fun _ _ h => h.elim)
  clear hpe
  have HQ := Lib.hid hqe
  clear hqe f1
  go_wp2_with fail
  refine (c_Store p q [0, 0, 0] 0 1 5 _ h1).mono ?_
  rintro e w2 ⟨he, h2, f2⟩
  obtain rfl : e = .returned (.int .i64 0) := he
  replace h2 := h2.cast (W' := [0, 5, 0]) (n' := 1) (by decide +kernel) (by decide +kernel)
  have G2 := G1.trans f2
  clear G1 f2 h1
  go_wp2_with fail
  refine (c_Swap p q [0, 5, 0] 1 1 5 7 _ h2).mono ?_
  rintro e w3 ⟨he, h3, f3⟩
  obtain rfl : e = .returned (.tuple #[.bool true, .int .i64 0]) := he
  replace h3 := h3.cast (W' := [0, 7, 0]) (n' := 2) (by decide +kernel) (by decide +kernel)
  have G3 := G2.trans f3
  clear G2 f3 h2
  go_wp2_with fail
  refine (c_Swap p q [0, 7, 0] 2 1 5 8 _ h3).mono ?_
  rintro e w4 ⟨he, h4, f4⟩
  obtain rfl : e = .returned (.tuple #[.bool false, .int .i64 0]) := he
  replace h4 := h4.cast (W' := [0, 7, 0]) (n' := 3) (by decide +kernel) (by decide +kernel)
  have G4 := G3.trans f4
  clear G3 f4 h3
  go_wp2_with fail
  refine (c_Add p q [0, 7, 0] 3 1 (-2) _ h4).mono ?_
  rintro e w5 ⟨he, h5, f5⟩
  obtain rfl : e = .returned (.tuple #[.int .i64 7, .int .i64 0]) := he
  replace h5 := h5.cast (W' := [0, 5, 0]) (n' := 4) (by decide +kernel) (by decide +kernel)
  have G5 := G4.trans f5
  clear G4 f5 h4
  go_wp2_with fail
  refine (c_Load p q [0, 5, 0] 4 1 _ h5).mono ?_
  rintro e w6 ⟨he, h6, f6⟩
  obtain rfl : e = .returned (.tuple #[.int .i64 5, .int .i64 0]) := he
  replace h6 := h6.cast (W' := [0, 5, 0]) (n' := 5) (by decide +kernel) (by decide +kernel)
  have G6 := G5.trans f6
  clear G5 f6 h5
  go_wp2_with fail
  refine (c_Load p q [0, 5, 0] 5 3 _ h6).mono ?_
  rintro e w7 ⟨he, h7, f7⟩
  obtain rfl : e = .returned (.tuple #[.int .i64 0, .int .i64 10]) := he
  replace h7 := h7.cast (W' := [0, 5, 0]) (n' := 5) (by decide +kernel) (by decide +kernel)
  have G7 := G6.trans f7
  clear G6 f7 h6
  go_wp2_with fail
  refine (c_Words p q [0, 5, 0] 5 0 9 _ h7).mono ?_
  rintro e w8 ⟨v, rfl, hv, f8⟩
  replace hv : w8.ownsRow w7.heap.size 2 1 v 3 [.int .i64 0, .int .i64 5, .int .i64 0] := hv
  have h8 := h7.fr f8 (fun h => h) (fun h => h)
  have G8 := G7.step f8 (fun _ h => h.elim)
  obtain ⟨g, cap, cs, rfl, hg, hcap, hb, ht⟩ := owns_blk hv (by omega)
  have hcg : w8.cell? ⟨g, 1, none⟩ = some (.int .i64 5) := by
    have e1 : cs[1]? = (cs.take 3)[1]? := by simp
    rw [hb.cell 1, e1, ht]; rfl
  clear ht hb hcap hv
  clear G7 f8 h7
  go_wp2_with fail
  refine (c_Steps p q [0, 5, 0] 5 _ h8).mono ?_
  rintro e w' ⟨rfl, rfl⟩
  go_wp2_with fail
  have h9 := h8.alloc (.cells #[.int .i64 1, .int .i64 2] 2)
  have hw8 := h8.str.lt
  refine (c_Put p q [0, 5, 0] 5 2 (some ⟨w8.heap.size, 0, none⟩) 2 2 [1, 2] _ h9 ?_ (by omega)).mono ?_
  · refine ⟨rfl, fun _ => ⟨_, rfl, ?_⟩⟩
    intro j u hj
    rw [Addr.add_lit]
    have := (Blk.new w8 2 [.int .i64 1, .int .i64 2]).cell (0 + j)
    rw [Nat.zero_add] at *
    exact this.trans hj
  · rintro e w9 ⟨he, h9', f9⟩
    obtain rfl : e = .returned (.int .i64 10) := he
    have G9 := (G8.alloc _).trans f9
    replace h9' := h9'.cast (W' := [0, 5, 0]) (n' := 5) (by decide +kernel) rfl
    go_wp2_with fail
    refine (c_Len p q [0, 5, 0] 5 _ h9').mono ?_
    rintro e w' ⟨rfl, rfl⟩
    go_wp2_with fail
    go_ret
    refine ⟨rfl, G9.mono ?_⟩
    have := HQ.out
    rintro k hk (rfl | rfl) <;> omega
end Go.Proofs.Ytnknamdhobieiaa
