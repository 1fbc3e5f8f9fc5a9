/- CellsNil, the walk: of no memory nothing comes; a zero one has no cells. -/
import Derived.Test.YtnknamdhobieiaaWCellsOne
namespace Go.Proofs.Ytnknamdhobieiaa
open Go.RowKit Go.HK
set_option maxRecDepth 100000

theorem n_Load (at_ : Int) (w : World) : Calls Try.prog 13 #[.pointer none, .int .i64 at_] w fun e w' => e = .returned (.tuple #[.int .i64 0, .int .i64 10]) ∧ Fr (fun _ => False) w w' := by
  have hmf := mkFunc
  go_enter Try.func13, Try.ntmps13
  go_wp2
  go_ret2
  exact ⟨rfl, (Fr.refl _ w).alloc _⟩
theorem n_Store (at_ v : Int) (w : World) : Calls Try.prog 24 #[.pointer none, .int .i64 at_, .int .i64 v] w fun e w' => e = .returned (.int .i64 10) ∧ Fr (fun _ => False) w w' := by
  have hmf := mkFunc
  go_enter Try.func24, Try.ntmps24
  go_wp2
  go_ret
  exact ⟨rfl, (Fr.refl _ w).alloc _⟩
theorem n_Add (at_ v : Int) (w : World) : Calls Try.prog 17 #[.pointer none, .int .i64 at_, .int .i64 v] w fun e w' => e = .returned (.tuple #[.int .i64 0, .int .i64 10]) ∧ Fr (fun _ => False) w w' := by
  have hmf := mkFunc
  go_enter Try.func17, Try.ntmps17
  go_wp2
  go_ret2
  exact ⟨rfl, (Fr.refl _ w).alloc _⟩
theorem n_Swap (at_ old new : Int) (w : World) : Calls Try.prog 15 #[.pointer none, .int .i64 at_, .int .i64 old, .int .i64 new] w fun e w' => e = .returned (.tuple #[.bool false, .int .i64 10]) ∧ Fr (fun _ => False) w w' := by
  have hmf := mkFunc
  go_enter Try.func15, Try.ntmps15
  go_wp2
  go_ret2
  exact ⟨rfl, (((Fr.refl _ w).alloc _).alloc _).alloc _⟩
theorem n_Put (at_ : Int) (v : Value) (w : World) : Calls Try.prog 19 #[.pointer none, .int .i64 at_, v] w fun e w' => e = .returned (.int .i64 10) ∧ w = w' := by
  go_enter Try.func19, Try.ntmps19
  go_wp2
  go_ret
  exact ⟨rfl, rfl⟩
theorem n_Len (w : World) : Calls Try.prog 12 #[.pointer none] w fun e w' => e = .returned (.int .i64 0) ∧ w = w' := by
  go_enter Try.func12, Try.ntmps12
  go_wp2
  go_ret
  exact ⟨rfl, rfl⟩
theorem n_Steps (w : World) : Calls Try.prog 26 #[.pointer none] w fun e w' => e = .returned (.int .i64 0) ∧ w = w' := by
  go_enter Try.func26, Try.ntmps26
  go_wp2
  go_ret
  exact ⟨rfl, rfl⟩
theorem n_Words (w : World) : Calls Try.prog 21 #[.pointer none, .int .i64 0, .int .i64 9] w fun e w' => e = .returned (.slice none 0 0) ∧ w = w' := by
  have hmax := max_ints
  have hmin := min_ints
  go_enter Try.func21, Try.ntmps21
  go_wp2
  go_ret
  exact ⟨rfl, rfl⟩
theorem z_Load (z : Nat) (at_ : Int) (w : World) (h : Blk w z 54 [.slice none 0 0, .int .i64 0]) : Calls Try.prog 13 #[.pointer (some ⟨z, 0, none⟩), .int .i64 at_] w fun e w' => e = .returned (.tuple #[.int .i64 0, .int .i64 10]) ∧ Fr (fun _ => False) w w' := by
  have hc0 := h.cell 0
  have hlt := h.lt
  have hmf := mkFunc
  by_cases ha : at_ < 0
  all_goals
    go_enter Try.func13, Try.ntmps13
    go_wp2
    go_ret2
    exact ⟨rfl, (Fr.refl _ w).alloc _⟩
theorem z_Len (z : Nat) (w : World) (h : Blk w z 54 [.slice none 0 0, .int .i64 0]) : Calls Try.prog 12 #[.pointer (some ⟨z, 0, none⟩)] w fun e w' => e = .returned (.int .i64 0) ∧ w = w' := by
  have hc0 := h.cell 0
  go_enter Try.func12, Try.ntmps12
  go_wp2
  go_ret
  exact ⟨rfl, rfl⟩

set_option maxHeartbeats 800000 in
theorem walk_CellsNil (a0 : Int) (a1 : Int) (w : World) (w0 : (Lit.int .i64 a0).wf = true) (w1 : (Lit.int .i64 a1).wf = true) :
    Calls Try.prog 6 #[.int .i64 a0, .int .i64 a1] w fun e w' => e = .returned (.bool true) ∧ Below w.heap.size w w' := by
  clear w0 w1
  have hz := Blk.new w 54 [.slice none 0 0, .int .i64 0]
  have G0 := (Fr.refl (fun _ => False) w).alloc (.cells #[.slice none 0 0, .int .i64 0] 54)
  have hzq := Lib.hid hz
  clear hz
  go_enter Try.func6, Try.ntmps6
  go_wp2_with fail
  refine (n_Load a0 _).mono ?_
  rintro e w2 ⟨rfl, f2⟩
  have h2 := f2.blk hzq.out (fun h => h)
  have G2 := G0.trans f2
  go_wp2_with fail
  refine (z_Load w.heap.size a0 _ h2).mono ?_
  rintro e w3 ⟨rfl, f3⟩
  have h3 := f3.blk h2 (fun h => h)
  have G3 := G2.trans f3
  clear f2 f3 h2 G0 G2
  go_wp2_with fail
  refine (n_Swap a0 a1 a1 _).mono ?_
  rintro e w4 ⟨rfl, f4⟩
  have h4 := f4.blk h3 (fun h => h)
  have G4 := G3.trans f4
  clear f4 h3 G3
  go_wp2_with fail
  refine (n_Add a0 a1 _).mono ?_
  rintro e w5 ⟨rfl, f5⟩
  have h5 := f5.blk h4 (fun h => h)
  have G5 := G4.trans f5
  clear f5 h4 G4
  go_wp2_with fail
  refine (awake_true _).mono ?_
  rintro e w6 ⟨rfl, f6⟩
  have h6 := f6.blk h5 (fun h => h)
  have G6 := G5.trans f6
  clear f6 h5 G5
  go_wp2_with fail
  refine (n_Store a0 a1 _).mono ?_
  rintro e w7 ⟨rfl, f7⟩
  have h7 := f7.blk h6 (fun h => h)
  have G7 := G6.trans f7
  clear f7 h6 G6
  go_wp2_with fail
  refine (n_Put 0 (.slice none 0 0) _).mono ?_
  rintro e w' ⟨rfl, rfl⟩
  go_wp2_with fail
  refine (n_Len _).mono ?_
  rintro e w' ⟨rfl, rfl⟩
  go_wp2_with fail
  refine (n_Steps _).mono ?_
  rintro e w' ⟨rfl, rfl⟩
  go_wp2_with fail
  refine (n_Words _).mono ?_
  rintro e w' ⟨rfl, rfl⟩
  go_wp2_with fail
  refine (z_Len w.heap.size _ h7).mono ?_
  rintro e w' ⟨rfl, rfl⟩
  go_wp2_with fail
  go_ret
  exact ⟨rfl, G7.below (Nat.le_refl _) (fun _ _ h => h)⟩
end Go.Proofs.Ytnknamdhobieiaa
