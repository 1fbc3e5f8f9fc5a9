/- The contracts of package cells: New, Swap, Words, Put. -/
import Derived.Test.YtnknamdhobieiaaCells2
import Derived.Laws.CopyOwn
import Derived.Lib.SliceRun
namespace Go.Proofs.Ytnknamdhobieiaa
open Go.RowKit Go.HK
set_option maxRecDepth 100000

theorem info_i64 : (Try.prog.info? 2).map (fun i => (i.zero, i.size, i.bytes)) = some (some (.int .i64 0), 1, 8) := by kernel_rfl

def clampN (n : Int) : Nat := (if 65536 < (if n < 0 then 0 else n) then 65536 else (if n < 0 then 0 else n)).toNat
theorem clampN_le (n : Int) : clampN n ≤ 65536 := by unfold clampN; omega

theorem c_New (n : Int) (w : World) : Calls Try.prog 10 #[.int .i64 n] w fun e w' => e = .returned (.pointer (some ⟨w.heap.size + 1, 0, none⟩)) ∧
    IsCells w' (w.heap.size + 1) w.heap.size (List.replicate (clampN n) 0) 0 ∧ Fr (fun _ => False) w w' := by
  have hmax := max_ints
  have hmin := min_ints
  have hmk := fun N m => run_make_row (P := Try.prog) 29 2 (.int .i64 0) 8 Try.underlying29 info_i64 rfl N m
  obtain ⟨m, hm⟩ : ∃ m, m = clampN n := ⟨_, rfl⟩
  rw [← hm]
  have hend : ∀ w1 : World, w1 = (w.alloc (.cells (List.replicate m (Value.int .i64 0)).toArray 2)).alloc (.cells #[.slice (some ⟨w.heap.size, 0, none⟩) m m, .int .i64 0] 54) →
      IsCells w1 (w.heap.size + 1) w.heap.size (List.replicate m 0) 0 ∧ Fr (fun _ => False) w w1 := by
    rintro w1 rfl
    refine ⟨⟨by omega, ?_, ?_, ?_, by unfold wrap64; omega⟩, ((Fr.refl _ w).alloc _).alloc _⟩
    · have := Blk.new_at (m := w.heap.size + 1) (w.alloc (.cells (List.replicate m (Value.int .i64 0)).toArray 2)) 54 [.slice (some ⟨w.heap.size, 0, none⟩) m m, .int .i64 0] (by simp)
      simpa using this
    · have := (Blk.new w 2 (List.replicate m (Value.int .i64 0))).alloc (.cells #[.slice (some ⟨w.heap.size, 0, none⟩) m m, .int .i64 0] 54)
      simpa using this
    · have := clampN_le n; simp; omega
  have HE := Lib.hid hend
  clear hend
  by_cases h1 : n < 0
  · have hk := hmk 0 m (by rw [hm]; unfold clampN; omega) (by rw [hm]; unfold clampN; omega) (by rw [hm]; unfold clampN maxLen; omega)
    generalize (List.replicate m (Value.int IntKind.i64 0)).toArray = A at *
    clear hm hmk
    go_enter Try.func10, Try.ntmps10
    go_wp2
    go_ret
    exact ⟨rfl, HE.out _ rfl⟩
  · by_cases h2 : 65536 < n
    · have hk := hmk 65536 m (by rw [hm]; unfold clampN; omega) (by rw [hm]; unfold clampN; omega) (by rw [hm]; unfold clampN maxLen; omega)
      generalize (List.replicate m (Value.int IntKind.i64 0)).toArray = A at *
      clear hm hmk
      go_enter Try.func10, Try.ntmps10
      go_wp2
      go_ret
      exact ⟨rfl, HE.out _ rfl⟩
    · have hk := hmk n m (by rw [hm]; unfold clampN; omega) (by rw [hm]; unfold clampN; omega) (by rw [hm]; unfold clampN maxLen; omega)
      generalize (List.replicate m (Value.int IntKind.i64 0)).toArray = A at *
      clear hm hmk
      go_enter Try.func10, Try.ntmps10
      go_wp2
      go_ret
      exact ⟨rfl, HE.out _ rfl⟩

/-! ### Swap -/
theorem swap_clo (bo bi bn q i : Nat) (old new v : Int) (b : Bool) (w : World) (hq : bi ≠ q) (hbo : bo ≠ bi) (hbn : bn ≠ bi) (hnq : bn ≠ q)
    (h1 : Blk w bo 2 [.int .i64 old]) (h2 : Blk w bi 4 [.bool b]) (h3 : Blk w bn 2 [.int .i64 new]) (h4 : w.cell? ⟨q, i, none⟩ = some (.int .i64 v)) (h5 : w.frozen? ⟨q, i, none⟩ = false) :
    Calls Try.prog 30 #[.pointer (some ⟨q, i, none⟩), .pointer (some ⟨bo, 0, none⟩), .pointer (some ⟨bi, 0, none⟩), .pointer (some ⟨bn, 0, none⟩)] w fun e w' => e = .returned (.tuple #[]) ∧
      w' = (if v = old then (w.setCell ⟨bi, 0, none⟩ (.bool true)).setCell ⟨q, i, none⟩ (.int .i64 new) else w.setCell ⟨bi, 0, none⟩ (.bool false)).drew := by
  have c1 := h1.cell 0
  have c2 := h2.cell 0
  have c3 := h3.cell 0
  have f2 := h2.frz 0
  clear h1 h2 h3
  by_cases hv : v = old
  · subst hv
    have hb : (v == v) = true := by simp
    rw [if_pos rfl]
    go_enter Try.func30, Try.ntmps30
    go_wp2
    go_region
    go_wp2
    go_end0
    exact ⟨rfl, rfl⟩
  · have hb : (v == old) = false := by simpa using hv
    rw [if_neg hv]
    clear hv
    go_enter Try.func30, Try.ntmps30
    go_wp2
    go_region
    go_wp2
    go_end0
    exact ⟨rfl, rfl⟩
end Go.Proofs.Ytnknamdhobieiaa
